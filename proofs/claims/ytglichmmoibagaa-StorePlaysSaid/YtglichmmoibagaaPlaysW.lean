/- The walk of StorePlays. -/
import Derived.Test.YtglichmmoibagaaH
namespace Go.Proofs.Ytglichmmoibagaa
open Go.RowKit
set_option linter.unusedVariables false
namespace storePlays

/-- The steps in the argument's memory. -/
def StepsAt (w : World) (ao : Option Addr) (n : Nat) : Prop := ∀ i, i < n → ∃ a g o k nm t N, ao = some a ∧ a.add (i * 4) = ⟨g, o, none⟩ ∧ w.cell? ⟨g, o, none⟩ = some (.int .i64 k) ∧ w.cell? ⟨g, o + 1, none⟩ = some (.string nm) ∧
  w.cell? ⟨g, o + 2, none⟩ = some (.string t) ∧ w.cell? ⟨g, o + 3, none⟩ = some (.int .i64 N) ∧ nm.size ≤ maxLen ∧ t.size ≤ maxLen

theorem Both.cell {B b q : Nat} {w wr : World} {m l : Files} (h : Both B w wr b m q l) (hB : B = w.heap.size) {a : Addr} {v : Value} (hc : w.cell? a = some v) : wr.cell? a = some v := by
  obtain ⟨mo, h1, h2, h3, h4, h5, h6⟩ := h
  exact (World.cell?_of_block (h5.block _ (by rw [hB]; exact World.block_lt_of_cell? w _ hc))).trans hc

/-- At the loop's head. -/
def Head (B : Nat) (w : World) (vs vq : Value) (wr : World) : Prop :=
  ∃ b q m l, vs = .pointer (some ⟨b, 0, none⟩) ∧ vq = .pointer (some ⟨q, 0, none⟩) ∧ Both B w wr b m q l ∧ l.Perm m ∧ Srt l ∧ m.length ≤ 64

theorem opCall {ops : Array Oper} {Q : Exit → Act → World → Prop} {i d f : Nat} {o : Oper} {K : Act → World → Prop} {a : Act} {w : World} {vals : Array Value} (hi : ops[i]? = some o) (hd : o.dst = some d) (hg : o.guard = none)
    (hr : (execOp a.eval o).run Try.prog w = .ok (.enter f vals) w) (h : Calls Try.prog f vals w fun e w' => ∃ v, e = .returned v ∧ K (putD a d v) w') : wpOp Try.prog ops Q i K a w := by
  unfold wpOp
  simp only [hi, Region.wanted, hg, if_true]
  refine .inl ?_
  unfold Oper.wp
  rw [hr]
  simp only [Oper.upon]
  refine h.mono fun e w' ⟨v, he, hK⟩ => ?_
  subst he
  simp only
  rw [put_dst hd]
  exact hK

/-- The step's block. -/
def StepB (w : World) (x : Nat) (k : Int) (nm t : ByteArray) (N : Int) : Prop := w.heap[x]? = some (.cells #[.int .i64 k, .string nm, .string t, .int .i64 N] 41 (0, 0))
theorem StepB.keep {w w' : World} {x : Nat} {k N : Int} {nm t : ByteArray} (h : StepB w x k nm t N) (k4 : K41 w w') : StepB w' x k nm t N := k4 _ _ _ h
theorem StepB.c0 {w : World} {x : Nat} {k N : Int} {nm t : ByteArray} (h : StepB w x k nm t N) : w.cell? ⟨x, 0, none⟩ = some (.int .i64 k) := by rw [cell_of_row w x 0 _ _ _ h]; rfl
theorem StepB.c1 {w : World} {x : Nat} {k N : Int} {nm t : ByteArray} (h : StepB w x k nm t N) : w.cell? ⟨x, 1, none⟩ = some (.string nm) := by rw [cell_of_row w x 1 _ _ _ h]; rfl
theorem StepB.c2 {w : World} {x : Nat} {k N : Int} {nm t : ByteArray} (h : StepB w x k nm t N) : w.cell? ⟨x, 2, none⟩ = some (.string t) := by rw [cell_of_row w x 2 _ _ _ h]; rfl
theorem StepB.c3 {w : World} {x : Nat} {k N : Int} {nm t : ByteArray} (h : StepB w x k nm t N) : w.cell? ⟨x, 3, none⟩ = some (.int .i64 N) := by rw [cell_of_row w x 3 _ _ _ h]; rfl

theorem K41.drew {w w' : World} (h : K41 w.drew w') : K41 w w' := h

theorem plays_names {B b q : Nat} {w w1 : World} {m l : Files} (h : Both B w w1 b m q l) (hp : l.Perm m) (hs : Srt l) (hm : m.length ≤ 64) :
    Calls Try.prog 16 #[.pointer (some ⟨b, 0, none⟩)] w1 fun e w' => ∃ v, e = .returned v ∧ w'.ownsRow w1.heap.size 9 1 v (l.map (·.1)).length ((l.map (·.1)).map strV) ∧ Both B w w' b m q l ∧ Below w1.heap.size w1 w' :=
  (both_names h hm).mono fun e w' ⟨v, he, hown, hb, hw⟩ => ⟨v, he, by
    rw [← sortN_perm (hp.map (·.1)), sorted_names hs] at hown
    rw [List.length_map, hp.length_eq]; exact hown, hb, hw⟩

theorem owned_below {w w' : World} {B n : Nat} {v : Value} {xs : List Value} (h : w.ownsRow B 9 1 v n xs) (hb : Below w.heap.size w w') : w'.ownsRow B 9 1 v n xs :=
  owned_only h (Only.of_below (S := fun _ => False) hb) (fun _ _ f => f)

theorem plays_namesR {B b q : Nat} {w w1 : World} {m l : Files} (h : Both B w w1 b m q l) (hl : l.length ≤ 64) :
    Calls Try.prog 20 #[.pointer (some ⟨q, 0, none⟩)] w1 fun e w' => ∃ v, e = .returned v ∧ w'.ownsRow w1.heap.size 9 1 v (l.map (·.1)).length ((l.map (·.1)).map strV) ∧ Both B w w' b m q l ∧ Below w1.heap.size w1 w' :=
  (both_namesR h hl).mono fun e w' ⟨v, he, hown, hb, hw⟩ => ⟨v, he, by rw [List.length_map]; exact hown, hb, hw⟩

theorem info5 : (Try.prog.info? 5).map (fun i => (i.zero, i.size, i.bytes)) = some (some (.int .u8 0), 1, 1) := by kernel_rfl

/-- A text of so many zeros. -/
def zeros (N : Nat) : ByteArray := ⟨(List.replicate N (0 : UInt8)).toArray⟩
theorem zeros_size (N : Nat) : (zeros N).size = N := by simp [zeros, ByteArray.size]

theorem made_zeros (W : World) (N : Nat) (hN : N ≤ 200000) : (Instr.makeSlice 45 (.int .i64 (N : Int)) (.int .i64 (N : Int))).run Try.prog W = .ok (.slice (some ⟨W.heap.size, 0, none⟩) N N) (W.alloc (.cells (madeCells #[.int .u8 0] N) 5)) ∧
    (convert 45 9 (.slice (some ⟨W.heap.size, 0, none⟩) N N)).run Try.prog (W.alloc (.cells (madeCells #[.int .u8 0] N) 5)) = .ok (.string (zeros N)) (W.alloc (.cells (madeCells #[.int .u8 0] N) 5)) := by
  obtain ⟨i0, hi0, hz0, hz1, hz2⟩ : ∃ i, Try.prog.info? 5 = some i ∧ i.zero = some (.int .u8 0) ∧ i.size = 1 ∧ i.bytes = 1 := by
    have h := info5
    cases hi : Try.prog.info? 5 with
    | none => rw [hi] at h; cases h
    | some i => rw [hi] at h; simp at h; exact ⟨i, rfl, h.1, h.2.1, h.2.2⟩
  refine ⟨?_, ?_⟩
  · have h := run_make (P := Try.prog) W 45 5 i0 (.int .u8 0) Try.underlying45 hi0 hz0 .i64 .i64 N N (by omega) (Int.le_refl _) (by rw [hz2]; omega) (by omega)
    rw [hz1, Int.toNat_natCast, Nat.mul_one] at h
    exact h
  · have hl : (List.replicate N (0 : UInt8)).length = N := by simp
    have h := run_row_string (w := W.alloc (.cells (madeCells #[.int .u8 0] N) 5)) (g := W.heap.size) (c := N) (nm := List.replicate N 0) (heap_alloc_new _ _) (by
      have := toList_madeCells_one (.int .u8 0) N
      rw [← Array.toList_inj, this]; simp)
    rw [hl] at h
    exact h

theorem other_names : (ByteArray.mk #[79, 116, 104, 101, 114]).size ≤ maxLen ∧ (ByteArray.mk #[49]).size ≤ maxLen := by decide

set_option maxRecDepth 100000 in
set_option maxHeartbeats 16000000 in
theorem walk (ao : Option Addr) (n cap : Nat) (hn : n ≤ maxLen) (w : World) (hst : StepsAt w ao n) :
    Calls Try.prog 6 #[.slice ao n cap] w fun e w' => e = .returned (.bool true) ∧ Below w.heap.size w w' := by
  have HST := Lib.hid hst
  clear hst
  unfold maxLen at hn
  go_enter Try.func6, Try.ntmps6
  go_wp2_with fail
  refine (own_new w).mono ?_
  rintro e w1 ⟨rfl, o1⟩
  have hb := both_new o1
  have HB := Lib.hid hb
  clear o1 hb
  go_wp2_with fail
  revert HB
  generalize w1.alloc _ = w2
  generalize w1.heap.size = q0
  intro HB
  go_loopw [3, 4, 5] (fun vs vq vi wr => ∃ i : Nat, i ≤ n ∧ i ≤ 150 ∧ vi = .int .i64 i ∧ Head w.heap.size w vs vq wr) (fun _ _ vi _ => n - (intOf vi).toNat)
  case atStart => exact ⟨0, Nat.zero_le _, by omega, rfl, _, _, [], [], rfl, rfl, HB.out, List.Perm.refl _, List.Pairwise.nil, by simp⟩
  case round =>
    obtain ⟨i, hin, hi150, rfl, b, q, m, l, rfl, rfl, hbo, hpm, hsr, hm64⟩ := hrel
    have HBO := Lib.hid hbo
    have HPM := Lib.hid hpm
    have HSR := Lib.hid hsr
    have HM64 := Lib.hid hm64
    have HL64 := Lib.hid (show l.length ≤ 64 by rw [hpm.length_eq]; exact hm64)
    have HND := Lib.hid (both_nodup hbo)
    clear hbo hpm hsr hm64 HB
    by_cases hlt : i < n
    · by_cases h150 : i < 150
      · obtain ⟨a, g, o, k, nm, t, N, rfl, hadd, c0, c1, c2, c3, hnm, ht⟩ := HST.out i hlt
        replace c0 := Both.cell HBO.out rfl c0
        replace c1 := Both.cell HBO.out rfl c1
        replace c2 := Both.cell HBO.out rfl c2
        replace c3 := Both.cell HBO.out rfl c3
        have hb150 : decide ((i : Int) < 150) = true := by simp; omega
        have HNM := Lib.hid hnm
        have HT := Lib.hid ht
        unfold maxLen at hnm ht
        go_upto_region 8 with fail
        have F : StepB (wr.alloc (.cells #[.int .i64 k, .string nm, .string t, .int .i64 N] 41)) wr.heap.size k nm t N ∧ Both w.heap.size w (wr.alloc (.cells #[.int .i64 k, .string nm, .string t, .int .i64 N] 41)) b m q l :=
          ⟨heap_alloc_new _ _, both_below HBO.out ((Below.refl _ _).alloc (Nat.le_refl _) _)⟩
        revert F
        generalize wr.alloc _ = W0
        generalize wr.heap.size = x
        rintro ⟨fx, fb⟩
        have HX := Lib.hid fx
        have HB0 := Lib.hid fb
        have x0 := fx.c0
        have x1 := fx.c1
        have x2 := fx.c2
        have x3 := fx.c3
        clear fx fb c0 c1 c2 c3 hadd HBO HST
        by_cases h200 : 200 < nm.size
        · go_wp2_with fail
          go_roundw
          case rel => exact ⟨i + 1, by omega, by omega, by go_num, _, _, _, _, rfl, rfl, HB0.out, HPM.out, HSR.out, HM64.out⟩
          case measure => simp [intOf]; omega
        by_cases h262 : 262144 < t.size
        · go_wp2_with fail
          go_roundw
          case rel => exact ⟨i + 1, by omega, by omega, by go_num, _, _, _, _, rfl, rfl, HB0.out, HPM.out, HSR.out, HM64.out⟩
          case measure => simp [intOf]; omega
        have hb200 : decide (200 < (nm.size : Int)) = false := by simp; omega
        have hb262 : decide (262144 < (t.size : Int)) = false := by simp; omega
        by_cases hk : k = 0
        · subst hk
          go_upto_region 11 with fail
          refine wp_region_held_drew (S := fun w' => w'.cell? ⟨x, 1, none⟩ = some (.string nm) ∧ w'.cell? ⟨x, 2, none⟩ = some (.string t)) (by kernel_rfl) ⟨x1, x2⟩ (fun hH => ?_)
          change wpAnyH _ _ _ _ _ 13 (Array.replicate 13 false) _ _
          refine takeH (i := 0) (d := 47) (v := ?_) rfl rfl (by kernel_rfl) (by kernel_rfl) (by kernel_rfl) (fun _ _ _ h => h) (by assumption) rfl ?_ ?_
          rotate_left
          · (intro w hSw; (try dsimp only at hSw); go_simp; (try with_reducible rfl))
          simp only [putD, List.setIfInBounds_toArray, List.set_cons_zero, List.set_cons_succ]
          refine takeH (i := 1) (d := 48) (v := ?_) rfl rfl (by kernel_rfl) (by kernel_rfl) (by kernel_rfl) (fun _ _ _ h => h) (by assumption) rfl ?_ ?_
          rotate_left
          · (intro w hSw; (try dsimp only at hSw); go_simp; (try with_reducible rfl))
          simp only [putD, List.setIfInBounds_toArray, List.set_cons_zero, List.set_cons_succ]
          refine takeH (i := 2) (d := 49) (v := ?_) rfl rfl (by kernel_rfl) (by kernel_rfl) (by kernel_rfl) (fun _ _ _ h => h) (by assumption) rfl ?_ ?_
          rotate_left
          · (intro w hSw; (try dsimp only at hSw); go_simp; (try with_reducible rfl))
          simp only [putD, List.setIfInBounds_toArray, List.set_cons_zero, List.set_cons_succ]
          refine takeH (i := 3) (d := 50) (v := ?_) rfl rfl (by kernel_rfl) (by kernel_rfl) (by kernel_rfl) (fun _ _ _ h => h) (by assumption) rfl ?_ ?_
          rotate_left
          · (intro w hSw; (try dsimp only at hSw); go_simp; (try with_reducible rfl))
          simp only [putD, List.setIfInBounds_toArray, List.set_cons_zero, List.set_cons_succ]
          refine takeH (i := 4) (d := 51) (v := ?_) rfl rfl (by kernel_rfl) (by kernel_rfl) (by kernel_rfl) (fun _ _ _ h => h) (by assumption) rfl ?_ ?_
          rotate_left
          · (intro w hSw; (try dsimp only at hSw); go_simp; (try with_reducible rfl))
          simp only [putD, List.setIfInBounds_toArray, List.set_cons_zero, List.set_cons_succ]
          refine takeH (i := 6) (d := 53) (v := ?_) rfl rfl (by kernel_rfl) (by kernel_rfl) (by kernel_rfl) (fun _ _ _ h => h) (by assumption) rfl ?_ ?_
          rotate_left
          · (intro w hSw; (try dsimp only at hSw); go_simp; (try with_reducible rfl))
          simp only [putD, List.setIfInBounds_toArray, List.set_cons_zero, List.set_cons_succ]
          refine takeH (i := 7) (d := 54) (v := ?_) rfl rfl (by kernel_rfl) (by kernel_rfl) (by kernel_rfl) (fun _ _ _ h => h) (by assumption) rfl ?_ ?_
          rotate_left
          · (intro w hSw; (try dsimp only at hSw); go_simp; (try with_reducible rfl))
          simp only [putD, List.setIfInBounds_toArray, List.set_cons_zero, List.set_cons_succ]
          refine takeH (i := 8) (d := 55) (v := ?_) rfl rfl (by kernel_rfl) (by kernel_rfl) (by kernel_rfl) (fun _ _ _ h => h) (by assumption) rfl ?_ ?_
          rotate_left
          · (intro w hSw; (try dsimp only at hSw); go_simp; (try with_reducible rfl))
          simp only [putD, List.setIfInBounds_toArray, List.set_cons_zero, List.set_cons_succ]
          refine takeH (i := 9) (d := 56) (v := ?_) rfl rfl (by kernel_rfl) (by kernel_rfl) (by kernel_rfl) (fun _ _ _ h => h) (by assumption) rfl ?_ ?_
          rotate_left
          · (intro w hSw; (try dsimp only at hSw); go_simp; (try with_reducible rfl))
          simp only [putD, List.setIfInBounds_toArray, List.set_cons_zero, List.set_cons_succ]
          refine takeH (i := 10) (d := 57) (v := ?_) rfl rfl (by kernel_rfl) (by kernel_rfl) (by kernel_rfl) (fun _ _ _ h => h) (by assumption) rfl ?_ ?_
          rotate_left
          · (intro w hSw; (try dsimp only at hSw); go_simp; (try with_reducible rfl))
          simp only [putD, List.setIfInBounds_toArray, List.set_cons_zero, List.set_cons_succ]
          refine ready1 (i := 5) (by kernel_rfl) (opCall (d := 52) (f := 12) (vals := #[.pointer (some ⟨b, 0, none⟩), .string nm, .string t]) rfl rfl rfl (by go_simp) ?_)
          refine (both_put (both_below HB0.out ((Below.refl _ _).drew)) HNM.out HT.out HM64.out).mono ?_
          rintro e w3 ⟨rfl, b3, k3⟩
          have hx3 := HX.out.keep k3
          refine ⟨_, rfl, ⟨hx3.c1, hx3.c2⟩, ?_⟩
          simp only [putD, List.setIfInBounds_toArray, List.set_cons_zero, List.set_cons_succ]
          refine ready1 (i := 11) (by kernel_rfl) (opCall (d := 58) (f := 17) (vals := #[.pointer (some ⟨q, 0, none⟩), .string nm, .string t]) rfl rfl rfl (by go_simp) ?_)
          refine (both_putR b3 HNM.out HT.out HL64.out HSR.out).mono ?_
          rintro e w4 ⟨l4, rfl, b4, s4, p4, k4⟩
          have hx4 := hx3.keep k4
          rw [code_perm HPM.out HND.out]
          refine ⟨_, rfl, ⟨hx4.c1, hx4.c2⟩, ?_⟩
          have hHH : w4.cell? ⟨x, 1, none⟩ = some (.string nm) ∧ w4.cell? ⟨x, 2, none⟩ = some (.string t) := ⟨hx4.c1, hx4.c2⟩
          have HB4 := Lib.hid b4
          have HS4 := Lib.hid s4
          have HP4 := Lib.hid (p4.trans (putM_perm HPM.out HND.out _ _))
          have HM4 := Lib.hid (putM_len (n := nm.data.toList) (t := t) HM64.out)
          have HL4 := Lib.hid (show l4.length ≤ 64 by rw [HP4.out.length_eq]; exact HM4.out)
          clear b3 k3 hx3 b4 s4 p4 k4 hx4 hH x0 x1 x2 x3
          simp only [putD, List.setIfInBounds_toArray, List.set_cons_zero, List.set_cons_succ]
          generalize putCode m nm.data.toList t = cc
          refine takeH (i := 12) (d := 59) (v := ?_) rfl rfl (by kernel_rfl) (by kernel_rfl) (by kernel_rfl) (fun _ _ _ h => h) (by assumption) rfl ?_ ?_
          rotate_left
          · (intro w hSw; (try dsimp only at hSw); go_simp; (try with_reducible rfl))
          simp only [putD, List.setIfInBounds_toArray, List.set_cons_zero, List.set_cons_succ]
          refine ⟨by kernel_rfl, ?_⟩
          clear hHH
          go_wp2_with fail
          refine (plays_names HB4.out HP4.out HS4.out HM4.out).mono ?_
          rintro e w11 ⟨va, rfl, ha, bo11, hw11⟩
          have HA := Lib.hid ha
          have HB11 := Lib.hid bo11
          clear ha bo11 hw11
          go_wp2_with fail
          refine (plays_namesR HB11.out HL4.out).mono ?_
          rintro e w12 ⟨vb, rfl, hb12, bo12, hw12⟩
          have HA2 := Lib.hid (owned_below HA.out hw12)
          have HB12 := Lib.hid bo12
          have HVB := Lib.hid hb12
          clear hb12 bo12 hw12 HA HB11
          go_wp2_with fail
          refine (texts23 HA2.out HVB.out (by rw [List.length_map]; exact HL4.out)).mono ?_
          rintro e w13 ⟨rfl, hw13⟩
          have HB13 := Lib.hid (both_below HB12.out hw13)
          clear hw13 HA2 HVB HB12
          go_wp2_with fail
          go_roundw
          case rel => exact ⟨i + 1, by omega, by omega, by go_num, _, _, _, _, rfl, rfl, HB13.out, HP4.out, HS4.out, HM4.out⟩
          case measure => simp [intOf]; omega
        have hk0 : (k == 0) = false := by rw [beq_eq_false_iff_ne]; exact hk
        clear hk
        by_cases hk : k = 1
        · subst hk
          go_wp2_with fail
          refine (both_get HB0.out HNM.out).mono ?_
          rintro e w3 ⟨rfl, b3, k3⟩
          have y1 := (HX.out.keep k3).c1
          have HB3 := Lib.hid b3
          clear b3 k3 x0 x1 x2 x3
          go_wp2_with fail
          refine (both_getR HB3.out HL64.out HSR.out).mono ?_
          rintro e w4 ⟨rfl, b4, k4⟩
          rw [get_perm HPM.out HND.out]
          have HB4 := Lib.hid b4
          clear b4 k4 HB3 y1
          generalize (Files.get m nm.data.toList).getD ByteArray.empty = tx
          generalize (Files.get m nm.data.toList).isSome = bx
          go_wp2_with fail
          refine (plays_names HB4.out HPM.out HSR.out HM64.out).mono ?_
          rintro e w11 ⟨va, rfl, ha, bo11, hw11⟩
          have HA := Lib.hid ha
          have HB11 := Lib.hid bo11
          clear ha bo11 hw11
          go_wp2_with fail
          refine (plays_namesR HB11.out HL64.out).mono ?_
          rintro e w12 ⟨vb, rfl, hb12, bo12, hw12⟩
          have HA2 := Lib.hid (owned_below HA.out hw12)
          have HB12 := Lib.hid bo12
          have HVB := Lib.hid hb12
          clear hb12 bo12 hw12 HA HB11
          go_wp2_with fail
          refine (texts23 HA2.out HVB.out (by rw [List.length_map]; exact HL64.out)).mono ?_
          rintro e w13 ⟨rfl, hw13⟩
          have HB13 := Lib.hid (both_below HB12.out hw13)
          clear hw13 HA2 HVB HB12
          go_wp2_with fail
          go_roundw
          case rel => exact ⟨i + 1, by omega, by omega, by go_num, _, _, _, _, rfl, rfl, HB13.out, HPM.out, HSR.out, HM64.out⟩
          case measure => simp [intOf]; omega
        have hk1 : (k == 1) = false := by rw [beq_eq_false_iff_ne]; exact hk
        clear hk
        by_cases hk : k = 2
        · subst hk
          go_upto_region 19 with fail
          refine wp_region_held_drew (S := fun w' => w'.cell? ⟨x, 1, none⟩ = some (.string nm)) (by kernel_rfl) x1 (fun hH => ?_)
          change wpAnyH _ _ _ _ _ 9 (Array.replicate 9 false) _ _
          refine takeH (i := 0) (d := 86) (v := ?_) rfl rfl (by kernel_rfl) (by kernel_rfl) (by kernel_rfl) (fun _ _ _ h => h) (by assumption) rfl ?_ ?_
          rotate_left
          · (intro w hSw; (try dsimp only at hSw); go_simp; (try with_reducible rfl))
          simp only [putD, List.setIfInBounds_toArray, List.set_cons_zero, List.set_cons_succ]
          refine takeH (i := 1) (d := 87) (v := ?_) rfl rfl (by kernel_rfl) (by kernel_rfl) (by kernel_rfl) (fun _ _ _ h => h) (by assumption) rfl ?_ ?_
          rotate_left
          · (intro w hSw; (try dsimp only at hSw); go_simp; (try with_reducible rfl))
          simp only [putD, List.setIfInBounds_toArray, List.set_cons_zero, List.set_cons_succ]
          refine takeH (i := 2) (d := 88) (v := ?_) rfl rfl (by kernel_rfl) (by kernel_rfl) (by kernel_rfl) (fun _ _ _ h => h) (by assumption) rfl ?_ ?_
          rotate_left
          · (intro w hSw; (try dsimp only at hSw); go_simp; (try with_reducible rfl))
          simp only [putD, List.setIfInBounds_toArray, List.set_cons_zero, List.set_cons_succ]
          refine takeH (i := 4) (d := 90) (v := ?_) rfl rfl (by kernel_rfl) (by kernel_rfl) (by kernel_rfl) (fun _ _ _ h => h) (by assumption) rfl ?_ ?_
          rotate_left
          · (intro w hSw; (try dsimp only at hSw); go_simp; (try with_reducible rfl))
          simp only [putD, List.setIfInBounds_toArray, List.set_cons_zero, List.set_cons_succ]
          refine takeH (i := 5) (d := 91) (v := ?_) rfl rfl (by kernel_rfl) (by kernel_rfl) (by kernel_rfl) (fun _ _ _ h => h) (by assumption) rfl ?_ ?_
          rotate_left
          · (intro w hSw; (try dsimp only at hSw); go_simp; (try with_reducible rfl))
          simp only [putD, List.setIfInBounds_toArray, List.set_cons_zero, List.set_cons_succ]
          refine takeH (i := 6) (d := 92) (v := ?_) rfl rfl (by kernel_rfl) (by kernel_rfl) (by kernel_rfl) (fun _ _ _ h => h) (by assumption) rfl ?_ ?_
          rotate_left
          · (intro w hSw; (try dsimp only at hSw); go_simp; (try with_reducible rfl))
          simp only [putD, List.setIfInBounds_toArray, List.set_cons_zero, List.set_cons_succ]
          refine ready1 (i := 3) (by kernel_rfl) (opCall (d := 89) (f := 14) (vals := #[.pointer (some ⟨b, 0, none⟩), .string nm]) rfl rfl rfl (by go_simp) ?_)
          refine (both_del (both_below HB0.out ((Below.refl _ _).drew)) HNM.out).mono ?_
          rintro e w3 ⟨rfl, b3, k3⟩
          have hx3 := HX.out.keep k3
          refine ⟨_, rfl, hx3.c1, ?_⟩
          simp only [putD, List.setIfInBounds_toArray, List.set_cons_zero, List.set_cons_succ]
          refine ready1 (i := 7) (by kernel_rfl) (opCall (d := 93) (f := 19) (vals := #[.pointer (some ⟨q, 0, none⟩), .string nm]) rfl rfl rfl (by go_simp) ?_)
          refine (both_delR b3 HL64.out HSR.out).mono ?_
          rintro e w4 ⟨rfl, b4, k4⟩
          have hHH := (hx3.keep k4).c1
          rw [get_perm HPM.out HND.out]
          refine ⟨_, rfl, hHH, ?_⟩
          have HB4 := Lib.hid b4
          have HP4 := Lib.hid (del_perm HPM.out nm.data.toList)
          have HS4 := Lib.hid (HSR.out.del nm.data.toList)
          have HM4 := Lib.hid (del_len (n := nm.data.toList) HM64.out)
          have HL4 := Lib.hid (del_len (n := nm.data.toList) HL64.out)
          clear b3 k3 hx3 b4 k4 hH x0 x1 x2 x3
          simp only [putD, List.setIfInBounds_toArray, List.set_cons_zero, List.set_cons_succ]
          generalize (Files.get m nm.data.toList).isSome = bx
          refine takeH (i := 8) (d := 94) (v := ?_) rfl rfl (by kernel_rfl) (by kernel_rfl) (by kernel_rfl) (fun _ _ _ h => h) (by assumption) rfl ?_ ?_
          rotate_left
          · (intro w hSw; (try dsimp only at hSw); go_simp; (try with_reducible rfl))
          simp only [putD, List.setIfInBounds_toArray, List.set_cons_zero, List.set_cons_succ]
          refine ⟨by kernel_rfl, ?_⟩
          clear hHH
          go_wp2_with fail
          refine (plays_names HB4.out HP4.out HS4.out HM4.out).mono ?_
          rintro e w11 ⟨va, rfl, ha, bo11, hw11⟩
          have HA := Lib.hid ha
          have HB11 := Lib.hid bo11
          clear ha bo11 hw11
          go_wp2_with fail
          refine (plays_namesR HB11.out HL4.out).mono ?_
          rintro e w12 ⟨vb, rfl, hb12, bo12, hw12⟩
          have HA2 := Lib.hid (owned_below HA.out hw12)
          have HB12 := Lib.hid bo12
          have HVB := Lib.hid hb12
          clear hb12 bo12 hw12 HA HB11
          go_wp2_with fail
          refine (texts23 HA2.out HVB.out (by rw [List.length_map]; exact HL4.out)).mono ?_
          rintro e w13 ⟨rfl, hw13⟩
          have HB13 := Lib.hid (both_below HB12.out hw13)
          clear hw13 HA2 HVB HB12
          go_wp2_with fail
          go_roundw
          case rel => exact ⟨i + 1, by omega, by omega, by go_num, _, _, _, _, rfl, rfl, HB13.out, HP4.out, HS4.out, HM4.out⟩
          case measure => simp [intOf]; omega
        have hk2 : (k == 2) = false := by rw [beq_eq_false_iff_ne]; exact hk
        clear hk
        by_cases hk : k = 3
        · subst hk
          go_wp2_with fail
          refine (plays_namesR HB0.out HL64.out).mono ?_
          rintro e w3 ⟨vn, rfl, hn3, b3, hw3⟩
          have HN3 := Lib.hid hn3
          have HB3 := Lib.hid b3
          clear hn3 b3 hw3 x0 x1 x2 x3
          go_wp2_with fail
          refine (both_fork HB3.out HM64.out).mono ?_
          rintro e w4 ⟨xx, r, m', rfl, hp', hs', hx', hr', hw'⟩
          have HP' := Lib.hid hp'
          have HST' := Lib.hid hs'
          have HX' := Lib.hid hx'
          have HR' := Lib.hid hr'
          have HW' := Lib.hid hw'
          clear hp' hs' hx' hr' hw'
          go_wp2_with fail
          refine (both_forkR HB3.out HL64.out HST'.out HX'.out HR'.out HW'.out).mono ?_
          rintro e w5 ⟨y, rfl, bf⟩
          have HBF := Lib.hid bf
          have HM' := Lib.hid (show m'.length ≤ 64 by rw [HP'.out.length_eq]; exact HM64.out)
          have HLM := Lib.hid (HPM.out.trans HP'.out.symm)
          have HND' := Lib.hid (both_nodup bf)
          clear bf HST' HX' HR' HW'
          go_wp2_with fail
          refine (both_put HBF.out other_names.1 other_names.2 HM'.out).mono ?_
          rintro e w6 ⟨rfl, b6, k6⟩
          have HB6 := Lib.hid b6
          clear b6 k6
          go_wp2_with fail
          refine (both_putR HB6.out other_names.1 other_names.2 HL64.out HSR.out).mono ?_
          rintro e w7 ⟨l7, rfl, b7, s7, p7, k7⟩
          rw [code_perm HLM.out HND'.out]
          have HB7 := Lib.hid b7
          have HS7 := Lib.hid s7
          have HP7 := Lib.hid (p7.trans (putM_perm HLM.out HND'.out _ _))
          have HM7 := Lib.hid (putM_len (n := (ByteArray.mk #[79, 116, 104, 101, 114]).data.toList) (t := ⟨#[49]⟩) HM'.out)
          have HL7 := Lib.hid (show l7.length ≤ 64 by rw [HP7.out.length_eq]; exact HM7.out)
          have hbel : Below w3.heap.size w3 w7 := by obtain ⟨_, _, _, _, _, h5, _⟩ := HB7.out; exact h5
          have HW7 := Lib.hid hbel
          clear b7 s7 p7 k7 hbel HB6 HBF
          generalize putCode m' _ _ = cc
          go_wp2_with fail
          refine (plays_names (both_below HB3.out HW7.out) HPM.out HSR.out HM64.out).mono ?_
          rintro e w8 ⟨vw, rfl, hn8, _, hw8⟩
          have HN8 := Lib.hid hn8
          have HW8 := Lib.hid hw8
          clear hn8 hw8
          go_wp2_with fail
          refine (texts23 HN8.out (owned_below (owned_below HN3.out HW7.out) HW8.out) (by rw [List.length_map]; exact HL64.out)).mono ?_
          rintro e w9 ⟨rfl, hw9⟩
          have HB9 := Lib.hid (both_below (both_below (both_into (B1 := 0) HB3.out HB7.out) HW8.out) hw9)
          clear hw9 HN8 HN3 HW7 HW8
          go_wp2_with fail
          refine (plays_names HB9.out HP7.out HS7.out HM7.out).mono ?_
          rintro e w11 ⟨va, rfl, ha, bo11, hw11⟩
          have HA := Lib.hid ha
          have HB11 := Lib.hid bo11
          clear ha bo11 hw11
          go_wp2_with fail
          refine (plays_namesR HB11.out HL7.out).mono ?_
          rintro e w12 ⟨vb, rfl, hb12, bo12, hw12⟩
          have HA2 := Lib.hid (owned_below HA.out hw12)
          have HB12 := Lib.hid bo12
          have HVB := Lib.hid hb12
          clear hb12 bo12 hw12 HA HB11
          go_wp2_with fail
          refine (texts23 HA2.out HVB.out (by rw [List.length_map]; exact HL7.out)).mono ?_
          rintro e w13 ⟨rfl, hw13⟩
          have HB13 := Lib.hid (both_below HB12.out hw13)
          clear hw13 HA2 HVB HB12
          go_wp2_with fail
          go_roundw
          case rel => exact ⟨i + 1, by omega, by omega, by go_num, _, _, _, _, rfl, rfl, HB13.out, HP7.out, HS7.out, HM7.out⟩
          case measure => simp [intOf]; omega
        have hk3 : (k == 3) = false := by rw [beq_eq_false_iff_ne]; exact hk
        clear hk
        by_cases hk : k = 4
        · subst hk
          by_cases hN0 : 131070 ≤ N
          · by_cases hN1 : N ≤ 131074
            · obtain ⟨N', rfl⟩ : ∃ N' : Nat, N = (N' : Int) := ⟨N.toNat, by omega⟩
              have hz := made_zeros W0 N' (by omega)
              obtain ⟨hz1, hz2⟩ := hz
              have hN2 : decide ((131070 : Int) ≤ (N' : Int)) = true := by simp; omega
              have hN3 : decide ((N' : Int) ≤ 131074) = true := by simp; omega
              have hzs : (zeros N').size ≤ maxLen := by rw [zeros_size]; simp [maxLen]; omega
              have HZS := Lib.hid hzs
              have F : Below W0.heap.size W0 (W0.alloc (.cells (madeCells #[.int .u8 0] N') 5)) := (Below.refl _ _).alloc (Nat.le_refl _) _
              have HF := Lib.hid F
              clear hzs F
              generalize zeros N' = zs at *
              go_upto_region 29 with fail
              revert HF
              clear hz1 hz2
              generalize W0.alloc _ = W1
              intro HF
              have HX1 := Lib.hid (HX.out.keep (K41.below HF.out))
              have HB1 := Lib.hid (both_below HB0.out HF.out)
              have z1 := HX1.out.c1
              clear HX HB0 x0 x1 x2 x3
              refine wp_region_held_drew (S := fun w' => w'.cell? ⟨x, 1, none⟩ = some (.string nm)) (by kernel_rfl) z1 (fun hH => ?_)
              change wpAnyH _ _ _ _ _ 11 (Array.replicate 11 false) _ _
              refine takeH (i := 0) (d := 130) (v := ?_) rfl rfl (by kernel_rfl) (by kernel_rfl) (by kernel_rfl) (fun _ _ _ h => h) (by assumption) rfl ?_ ?_
              rotate_left
              · (intro w hSw; (try dsimp only at hSw); go_simp; (try with_reducible rfl))
              simp only [putD, List.setIfInBounds_toArray, List.set_cons_zero, List.set_cons_succ]
              refine takeH (i := 1) (d := 131) (v := ?_) rfl rfl (by kernel_rfl) (by kernel_rfl) (by kernel_rfl) (fun _ _ _ h => h) (by assumption) rfl ?_ ?_
              rotate_left
              · (intro w hSw; (try dsimp only at hSw); go_simp; (try with_reducible rfl))
              simp only [putD, List.setIfInBounds_toArray, List.set_cons_zero, List.set_cons_succ]
              refine takeH (i := 2) (d := 132) (v := ?_) rfl rfl (by kernel_rfl) (by kernel_rfl) (by kernel_rfl) (fun _ _ _ h => h) (by assumption) rfl ?_ ?_
              rotate_left
              · (intro w hSw; (try dsimp only at hSw); go_simp; (try with_reducible rfl))
              simp only [putD, List.setIfInBounds_toArray, List.set_cons_zero, List.set_cons_succ]
              refine takeH (i := 3) (d := 133) (v := ?_) rfl rfl (by kernel_rfl) (by kernel_rfl) (by kernel_rfl) (fun _ _ _ h => h) (by assumption) rfl ?_ ?_
              rotate_left
              · (intro w hSw; (try dsimp only at hSw); go_simp; (try with_reducible rfl))
              simp only [putD, List.setIfInBounds_toArray, List.set_cons_zero, List.set_cons_succ]
              refine takeH (i := 5) (d := 135) (v := ?_) rfl rfl (by kernel_rfl) (by kernel_rfl) (by kernel_rfl) (fun _ _ _ h => h) (by assumption) rfl ?_ ?_
              rotate_left
              · (intro w hSw; (try dsimp only at hSw); go_simp; (try with_reducible rfl))
              simp only [putD, List.setIfInBounds_toArray, List.set_cons_zero, List.set_cons_succ]
              refine takeH (i := 6) (d := 136) (v := ?_) rfl rfl (by kernel_rfl) (by kernel_rfl) (by kernel_rfl) (fun _ _ _ h => h) (by assumption) rfl ?_ ?_
              rotate_left
              · (intro w hSw; (try dsimp only at hSw); go_simp; (try with_reducible rfl))
              simp only [putD, List.setIfInBounds_toArray, List.set_cons_zero, List.set_cons_succ]
              refine takeH (i := 7) (d := 137) (v := ?_) rfl rfl (by kernel_rfl) (by kernel_rfl) (by kernel_rfl) (fun _ _ _ h => h) (by assumption) rfl ?_ ?_
              rotate_left
              · (intro w hSw; (try dsimp only at hSw); go_simp; (try with_reducible rfl))
              simp only [putD, List.setIfInBounds_toArray, List.set_cons_zero, List.set_cons_succ]
              refine takeH (i := 8) (d := 138) (v := ?_) rfl rfl (by kernel_rfl) (by kernel_rfl) (by kernel_rfl) (fun _ _ _ h => h) (by assumption) rfl ?_ ?_
              rotate_left
              · (intro w hSw; (try dsimp only at hSw); go_simp; (try with_reducible rfl))
              simp only [putD, List.setIfInBounds_toArray, List.set_cons_zero, List.set_cons_succ]
              refine ready1 (i := 4) (by kernel_rfl) (opCall (d := 134) (f := 12) (vals := #[.pointer (some ⟨b, 0, none⟩), .string nm, .string zs]) rfl rfl rfl (by go_simp) ?_)
              refine (both_put (both_below HB1.out ((Below.refl _ _).drew)) HNM.out HZS.out HM64.out).mono ?_
              rintro e w3 ⟨rfl, b3, k3⟩
              have hx3 := HX1.out.keep k3
              refine ⟨_, rfl, hx3.c1, ?_⟩
              simp only [putD, List.setIfInBounds_toArray, List.set_cons_zero, List.set_cons_succ]
              refine ready1 (i := 9) (by kernel_rfl) (opCall (d := 139) (f := 17) (vals := #[.pointer (some ⟨q, 0, none⟩), .string nm, .string zs]) rfl rfl rfl (by go_simp) ?_)
              refine (both_putR b3 HNM.out HZS.out HL64.out HSR.out).mono ?_
              rintro e w4 ⟨l4, rfl, b4, s4, p4, k4⟩
              have hHH := (hx3.keep k4).c1
              rw [code_perm HPM.out HND.out]
              refine ⟨_, rfl, hHH, ?_⟩
              have HB4 := Lib.hid b4
              have HS4 := Lib.hid s4
              have HP4 := Lib.hid (p4.trans (putM_perm HPM.out HND.out _ _))
              have HM4 := Lib.hid (putM_len (n := nm.data.toList) (t := zs) HM64.out)
              have HL4 := Lib.hid (show l4.length ≤ 64 by rw [HP4.out.length_eq]; exact HM4.out)
              clear b3 k3 hx3 b4 s4 p4 k4 hH z1
              simp only [putD, List.setIfInBounds_toArray, List.set_cons_zero, List.set_cons_succ]
              generalize putCode m nm.data.toList zs = cc
              refine takeH (i := 10) (d := 140) (v := ?_) rfl rfl (by kernel_rfl) (by kernel_rfl) (by kernel_rfl) (fun _ _ _ h => h) (by assumption) rfl ?_ ?_
              rotate_left
              · (intro w hSw; (try dsimp only at hSw); go_simp; (try with_reducible rfl))
              simp only [putD, List.setIfInBounds_toArray, List.set_cons_zero, List.set_cons_succ]
              refine ⟨by kernel_rfl, ?_⟩
              clear hHH
              go_wp2_with fail
              refine (plays_names HB4.out HP4.out HS4.out HM4.out).mono ?_
              rintro e w11 ⟨va, rfl, ha, bo11, hw11⟩
              have HA := Lib.hid ha
              have HB11 := Lib.hid bo11
              clear ha bo11 hw11
              go_wp2_with fail
              refine (plays_namesR HB11.out HL4.out).mono ?_
              rintro e w12 ⟨vb, rfl, hb12, bo12, hw12⟩
              have HA2 := Lib.hid (owned_below HA.out hw12)
              have HB12 := Lib.hid bo12
              have HVB := Lib.hid hb12
              clear hb12 bo12 hw12 HA HB11
              go_wp2_with fail
              refine (texts23 HA2.out HVB.out (by rw [List.length_map]; exact HL4.out)).mono ?_
              rintro e w13 ⟨rfl, hw13⟩
              have HB13 := Lib.hid (both_below HB12.out hw13)
              clear hw13 HA2 HVB HB12
              go_wp2_with fail
              go_roundw
              case rel => exact ⟨i + 1, by omega, by omega, by go_num, _, _, _, _, rfl, rfl, HB13.out, HP4.out, HS4.out, HM4.out⟩
              case measure => simp [intOf]; omega
            · have hN2 : decide ((131070 : Int) ≤ N) = true := by simp; omega
              have hN3 : decide (N ≤ (131074 : Int)) = false := by simp; omega
              go_wp2_with fail
              refine (plays_names HB0.out HPM.out HSR.out HM64.out).mono ?_
              rintro e w11 ⟨va, rfl, ha, bo11, hw11⟩
              have HA := Lib.hid ha
              have HB11 := Lib.hid bo11
              clear ha bo11 hw11
              go_wp2_with fail
              refine (plays_namesR HB11.out HL64.out).mono ?_
              rintro e w12 ⟨vb, rfl, hb12, bo12, hw12⟩
              have HA2 := Lib.hid (owned_below HA.out hw12)
              have HB12 := Lib.hid bo12
              have HVB := Lib.hid hb12
              clear hb12 bo12 hw12 HA HB11
              go_wp2_with fail
              refine (texts23 HA2.out HVB.out (by rw [List.length_map]; exact HL64.out)).mono ?_
              rintro e w13 ⟨rfl, hw13⟩
              have HB13 := Lib.hid (both_below HB12.out hw13)
              clear hw13 HA2 HVB HB12
              go_wp2_with fail
              go_roundw
              case rel => exact ⟨i + 1, by omega, by omega, by go_num, _, _, _, _, rfl, rfl, HB13.out, HPM.out, HSR.out, HM64.out⟩
              case measure => simp [intOf]; omega
          · have hN2 : decide ((131070 : Int) ≤ N) = false := by simp; omega
            go_wp2_with fail
            refine (plays_names HB0.out HPM.out HSR.out HM64.out).mono ?_
            rintro e w11 ⟨va, rfl, ha, bo11, hw11⟩
            have HA := Lib.hid ha
            have HB11 := Lib.hid bo11
            clear ha bo11 hw11
            go_wp2_with fail
            refine (plays_namesR HB11.out HL64.out).mono ?_
            rintro e w12 ⟨vb, rfl, hb12, bo12, hw12⟩
            have HA2 := Lib.hid (owned_below HA.out hw12)
            have HB12 := Lib.hid bo12
            have HVB := Lib.hid hb12
            clear hb12 bo12 hw12 HA HB11
            go_wp2_with fail
            refine (texts23 HA2.out HVB.out (by rw [List.length_map]; exact HL64.out)).mono ?_
            rintro e w13 ⟨rfl, hw13⟩
            have HB13 := Lib.hid (both_below HB12.out hw13)
            clear hw13 HA2 HVB HB12
            go_wp2_with fail
            go_roundw
            case rel => exact ⟨i + 1, by omega, by omega, by go_num, _, _, _, _, rfl, rfl, HB13.out, HPM.out, HSR.out, HM64.out⟩
            case measure => simp [intOf]; omega
        have hk4 : (k == 4) = false := by rw [beq_eq_false_iff_ne]; exact hk
        clear hk
        go_wp2_with fail
        refine (plays_names HB0.out HPM.out HSR.out HM64.out).mono ?_
        rintro e w11 ⟨va, rfl, ha, bo11, hw11⟩
        have HA := Lib.hid ha
        have HB11 := Lib.hid bo11
        clear ha bo11 hw11
        go_wp2_with fail
        refine (plays_namesR HB11.out HL64.out).mono ?_
        rintro e w12 ⟨vb, rfl, hb12, bo12, hw12⟩
        have HA2 := Lib.hid (owned_below HA.out hw12)
        have HB12 := Lib.hid bo12
        have HVB := Lib.hid hb12
        clear hb12 bo12 hw12 HA HB11
        go_wp2_with fail
        refine (texts23 HA2.out HVB.out (by rw [List.length_map]; exact HL64.out)).mono ?_
        rintro e w13 ⟨rfl, hw13⟩
        have HB13 := Lib.hid (both_below HB12.out hw13)
        clear hw13 HA2 HVB HB12
        go_wp2_with fail
        go_roundw
        case rel => exact ⟨i + 1, by omega, by omega, by go_num, _, _, _, _, rfl, rfl, HB13.out, HPM.out, HSR.out, HM64.out⟩
        case measure => simp [intOf]; omega
      · go_wp2_with fail
        refine (wakes8 _).mono ?_
        rintro e w9 ⟨rfl, hw⟩
        go_wp2
        go_ret
        exact ⟨rfl, both_end HBO.out hw⟩
    · go_wp2_with fail
      refine (wakes8 _).mono ?_
      rintro e w9 ⟨rfl, hw⟩
      go_wp2
      go_ret
      exact ⟨rfl, both_end HBO.out hw⟩
end storePlays
end Go.Proofs.Ytglichmmoibagaa
