/- The reference store's Put. -/
import Derived.Test.YtglichmmoibagaaE
namespace Go.Proofs.Ytglichmmoibagaa
open Go.RowKit
set_option linter.unusedVariables false

theorem ref_only {B q : Nat} {w w' : World} (h : Only (fun k => k = q) w w') : RefOnly B q w w' := h.mono fun k _ e => .inl e

theorem IsRef.drewn {B q : Nat} {w w' : World} {l : Files} (h : IsRef B w q l) (hw : w' = w) : IsRef B w' q l := by subst hw; exact h

/-- A text in the place of another one. -/
theorem ref_set {B q k g cap : Nat} {w : World} {l : Files} {v1 : Value} {n : List UInt8} {t : ByteArray} (hk : k < l.length) (hq : w.heap[q]? = some (.cells #[v1, .slice (some ⟨g, 0, none⟩) l.length cap] 39 (0, 0)))
    (h1 : w.ownsRow B 9 1 v1 l.length ((l.map (·.1)).map strV)) (h2 : w.ownsRow B 9 1 (.slice (some ⟨g, 0, none⟩) l.length cap) l.length (l.map fun x => Value.string x.2))
    (hne : ∀ k, v1.ownBlock = some k → (Value.slice (some ⟨g, 0, none⟩) l.length cap).ownBlock ≠ some k) (hBq : B ≤ q) (hB : B ≤ w.heap.size) (hn : l[k]?.map (·.1) = some n) :
    IsRef B (w.setCell ⟨g, k, none⟩ (.string t)) q (l.set k (n, t)) ∧ RefOnly B q w (w.setCell ⟨g, k, none⟩ (.string t)) := by
  obtain ⟨h3, h4⟩ := h2.stored k (.string t)
  have hgq : g ≠ q := fun e => owned_ne h2 hq (by simp) g rfl e
  have hkind : ∃ c fz, w.heap[g]? = some (.cells c 9 fz) := by
    obtain ⟨_, ⟨e, _⟩ | ⟨g', c', cur, e, _, hg, _⟩⟩ := h2
    · cases e
    · cases e; exact ⟨_, _, hg⟩
  have hnames : (l.set k (n, t)).map (·.1) = l.map (·.1) := by
    rw [List.map_set]
    apply List.ext_getElem?
    intro j
    rw [List.getElem?_set]
    split
    · rename_i h
      subst h
      rw [if_pos (by simpa using hk), List.getElem?_map, hn]
    · rfl
  refine ⟨⟨v1, _, ?_, ?_, ?_, hne, hBq, ?_⟩, ?_⟩
  · rw [heap_setCell_other w _ q _ (fun e => hgq e.symm), hq]
  · rw [hnames, List.length_set]
    exact h1.kept h4 (.inr (fun e => hne g e rfl))
  · rw [List.length_set]
    have e : (l.set k (n, t)).map (fun x => Value.string x.2) = (l.map fun x => Value.string x.2).set k (.string t) := by rw [List.map_set]
    rw [e]; exact h3
  · have := h4.size; omega
  · exact ⟨h4.os, h4.tape, h4.output, h4.size, fun k' hk' hs => h4.block k' hk' (fun e => hs (.inr ⟨(h2.lt k' e.symm).1, by cases e; exact hkind⟩))⟩

theorem put_code_bad {l : Files} {n : List UInt8} {t : ByteArray} (h : nameL n = false) : putCode l n t = 70 ∧ putM l n t = l := by simp [putM, putCode, h]
theorem put_code_long {l : Files} {n : List UInt8} {t : ByteArray} (h : nameL n = true) (ht : 131072 < t.size) : putCode l n t = 2 ∧ putM l n t = l := by simp [putM, putCode, h, ht]
theorem put_code_old {l : Files} {n : List UInt8} {t u : ByteArray} (h : nameL n = true) (ht : ¬ 131072 < t.size) (hg : l.get n = some u) : putCode l n t = 0 ∧ putM l n t = l.put n t := by simp [putM, putCode, h, ht, hg]
theorem put_code_many {l : Files} {n : List UInt8} {t : ByteArray} (h : nameL n = true) (ht : ¬ 131072 < t.size) (hg : l.get n = none) (hl : l.length = 64) : putCode l n t = 3 ∧ putM l n t = l := by simp [putM, putCode, h, ht, hg, hl]
theorem put_code_new {l : Files} {n : List UInt8} {t : ByteArray} (h : nameL n = true) (ht : ¬ 131072 < t.size) (hg : l.get n = none) (hl : ¬ l.length = 64) : putCode l n t = 0 ∧ putM l n t = l.put n t := by simp [putM, putCode, h, ht, hg, hl]

def PutRef (B q : Nat) (w : World) (l : Files) (n : List UInt8) (t : ByteArray) (e : Ending) (w' : World) : Prop :=
  ∃ l', e = .returned (.int .i64 (putCode l n t)) ∧ IsRef B w' q l' ∧ Srt l' ∧ l'.Perm (putM l n t) ∧ RefOnly B q w w'

theorem put_same_ref {B q : Nat} {w : World} {l : Files} {n : List UInt8} {t : ByteArray} {c : Int} (h : IsRef B w q l) (hs : Srt l) (hc : putCode l n t = c ∧ putM l n t = l) : PutRef B q w l n t (.returned (.int .i64 c)) w :=
  ⟨l, by rw [hc.1], h, hs, by rw [hc.2], ref_only (Only.refl _ _)⟩

theorem oneStr (s : ByteArray) : (Value.string s).oneCell' = true := rfl

set_option maxHeartbeats 2000000 in
theorem put17 {B q : Nat} {w : World} {l : Files} {n t : ByteArray} (h : IsRef B w q l) (hl : l.length ≤ 64) (hs : Srt l) (hn : n.size ≤ maxLen) (ht : t.size ≤ maxLen) :
    Calls Try.prog 17 #[.pointer (some ⟨q, 0, none⟩), .string n, .string t] w (PutRef B q w l n.data.toList t) := by
  have hR := h
  obtain ⟨v1, v2, hq, h1, h2, hne, hBq, hB⟩ := h
  have hlen : (l.map (·.1)).length = l.length := List.length_map _
  have hp := place28 (n := n) (ns := l.map (·.1)) hq (by rw [hlen]; exact h1) (by rw [hlen]; exact hl)
  have hnm := fun w => name10 n w hn
  clear hlen
  have HP := Lib.hid hp
  have HS := Lib.hid hs
  have HR := Lib.hid hR
  unfold maxLen at ht
  cases hnl : nameL n.data.toList with
  | false =>
    rw [hnl] at hnm
    have HN := Lib.hid hnm
    have HC := Lib.hid (put_code_bad (l := l) (t := t) hnl)
    clear hp hs hR h1 h2 hq hnm hnl
    go_enter Try.func17, Try.ntmps17
    go_wp2_with fail
    refine (HN.out _).mono ?_
    rintro e w1 ⟨rfl, rfl⟩
    go_wp2_with fail
    go_ret
    exact put_same_ref HR.out HS.out HC.out
  | true =>
    rw [hnl] at hnm
    have HN := Lib.hid hnm
    have HNL := Lib.hid hnl
    by_cases hts : 131072 < t.size
    · have HC := Lib.hid (put_code_long (l := l) hnl hts)
      clear hp hs hR h1 h2 hq hnm hnl
      go_enter Try.func17, Try.ntmps17
      go_wp2_with fail
      refine (HN.out _).mono ?_
      rintro e w1 ⟨rfl, rfl⟩
      go_wp2_with fail
      go_ret
      exact put_same_ref HR.out HS.out HC.out
    · have HTS := Lib.hid hts
      have hbt : decide (131072 < (t.size : Int)) = false := by simp; omega
      have H1 := Lib.hid h1
      have H2 := Lib.hid h2
      have HQ := Lib.hid hq
      have HNE := Lib.hid hne
      obtain ⟨ao1, cap1, rfl, hc1, hd1, _⟩ := owned_shape h1
      obtain ⟨ao2, cap2, rfl, hc2, hd2, hat2⟩ := owned_shape h2
      have hq0 : w.cell? ⟨q, 0, none⟩ = some (.slice ao1 l.length cap1) := by
        rw [cell_of_row w q 0 _ _ _ hq]; rfl
      have hq1 : w.cell? ⟨q, 1, none⟩ = some (.slice ao2 l.length cap2) := by
        rw [cell_of_row w q 1 _ _ _ hq]; rfl
      have hqlt : q < w.heap.size := (Array.getElem?_eq_some_iff.1 hq).1
      have HAT := Lib.hid hat2
      clear hp hs hR h1 h2 hq hnm hnl hts hat2 hne
      go_enter Try.func17, Try.ntmps17
      go_wp2_with fail
      refine (HN.out _).mono ?_
      rintro e w1 ⟨rfl, rfl⟩
      clear HN
      go_wp2_with fail
      refine HP.out.mono ?_
      rintro e w1 ⟨k, b, rfl, hpl, rfl⟩
      cases b with
      | true =>
        obtain ⟨u, hu⟩ := hpl.some
        have hk : k < l.length := (List.getElem?_eq_some_iff.1 hu).1
        obtain ⟨g2, u', rfl, hu', hcu⟩ := HAT.out k hk
        have hge := Files.get_of HS.out.nodup hu
        have HC := Lib.hid (put_code_old HNL.out HTS.out hge)
        have D := ref_set (t := t) (n := n.data.toList) hk HQ.out H1.out H2.out HNE.out hBq hB (by rw [hu]; rfl)
        have hfz : w1.frozen? ⟨g2, k, none⟩ = false := H2.out.frozenAt k
        have HD := Lib.hid D
        have HPO := Lib.hid (Files.put_old (t := t) HS.out.nodup hu)
        have HSS := Lib.hid (set_sorted (t := t) hu HS.out)
        clear hu hu' hge D hpl
        go_wp2_with fail
        go_ret
        exact ⟨_, by rw [HC.out.1]; rfl, HD.out.1, HSS.out, by rw [HC.out.2, HPO.out], HD.out.2⟩
      | false =>
        have hkl : k ≤ l.length := by have := hpl.1; simpa using this
        have hno := hpl.none HS.out
        have hgn := Files.get_none hno
        have HSS := Lib.hid (ins_sorted (t := t) hpl HS.out)
        by_cases h64 : l.length = 64
        · have HC := Lib.hid (put_code_many HNL.out HTS.out hgn h64)
          have hb64 : ((l.length : Int) == 64) = true := by rw [beq_iff_eq]; omega
          clear hno hgn hpl
          go_wp2_with fail
          go_ret
          exact put_same_ref HR.out HS.out HC.out
        · have HC := Lib.hid (put_code_new HNL.out HTS.out hgn h64)
          have hb64 : ((l.length : Int) == 64) = false := by rw [beq_eq_false_iff_ne]; omega
          have HPN := Lib.hid (Files.put_new (t := t) hno)
          have hip : (l.take k ++ (n.data.toList, t) :: l.drop k).Perm (l ++ [(n.data.toList, t)]) := ins_perm
          have HIP := Lib.hid hip
          obtain ⟨l', hl'⟩ : ∃ l', l' = l.take k ++ (n.data.toList, t) :: l.drop k := ⟨_, rfl⟩
          have hln : l'.length = 0 + k + 1 + (l.length - k) := by rw [hl']; simp; omega
          rw [← hl'] at HSS HIP
          have HL := Lib.hid hl'
          have HLN := Lib.hid hln
          have hpart := owned_part H1.out (strV_one _)
          have hmm : (l.map (·.1)).map strV = l.map fun x => strV x.1 := by simp [Function.comp_def]
          rw [hmm] at hpart
          have hpart2 := owned_part H2.out (textV_one _)
          have HPA := Lib.hid hpart
          have HPB := Lib.hid hpart2
          have HH1 := Lib.hid (owned_head H1.out)
          have HH2 := Lib.hid (owned_head H2.out)
          have hn1 : strV n.data.toList = .string n := by simp [strV]
          have HN1 := Lib.hid hn1
          clear hno hgn hpl hip hl' hln hpart hpart2 hmm hn1
          go_upto_region 13 with fail
          go_cut [] from 37 to 57 (fun wx => ∃ v3, wx.heap[q]? = some (.cells #[v3, .slice ao2 l.length cap2] 39 (0, 0)) ∧ wx.ownsRow w1.heap.size 9 1 v3 l'.length (l'.map fun x => strV x.1) ∧ Only (fun k => k = q) w1 wx)
          case first =>
            refine wp_region_snocN 21 (fun w' => w'.cell? ⟨q, 0, none⟩ = some (.slice ao1 l.length cap1) ∧ Below w1.heap.size w1 w') (by kernel_rfl) rfl (by kernel_rfl) ?_ (fun z hz hH => ?_)
            · exact ⟨hq0, (Below.refl _ _).drew⟩
            simp only [List.drop_succ_cons, List.drop_zero, List.cons.injEq, and_true] at hz
            subst hz
            simp only [List.take_succ_cons, List.take_zero]
            refine takeH (i := 0) (d := 37) (v := ?_) rfl rfl (by kernel_rfl) (by kernel_rfl) (by kernel_rfl) (fun _ _ _ h => h) (by assumption) rfl ?_ ?_
            rotate_left
            · (intro w hSw; (try dsimp only at hSw); go_simp; (try with_reducible rfl))
            simp only [putD, List.setIfInBounds_toArray, List.set_cons_zero, List.set_cons_succ]
            refine takeH (i := 2) (d := 39) (v := ?_) rfl rfl (by kernel_rfl) (by kernel_rfl) (by kernel_rfl) (fun _ _ _ h => h) (by assumption) rfl ?_ ?_
            rotate_left
            · (intro w hSw; (try dsimp only at hSw); go_simp; (try with_reducible rfl))
            simp only [putD, List.setIfInBounds_toArray, List.set_cons_zero, List.set_cons_succ]
            refine takeH (i := 3) (d := 40) (v := ?_) rfl rfl (by kernel_rfl) (by kernel_rfl) (by kernel_rfl) (fun _ _ _ h => h) (by assumption) rfl ?_ ?_
            rotate_left
            · (intro w hSw; (try dsimp only at hSw); go_simp; (try with_reducible rfl))
            simp only [putD, List.setIfInBounds_toArray, List.set_cons_zero, List.set_cons_succ]
            refine takeH (i := 4) (d := 41) (v := ?_) rfl rfl (by kernel_rfl) (by kernel_rfl) (by kernel_rfl) (fun _ _ _ h => h) (by assumption) rfl ?_ ?_
            rotate_left
            · (intro w hSw; (try dsimp only at hSw); go_simp; (try with_reducible rfl))
            simp only [putD, List.setIfInBounds_toArray, List.set_cons_zero, List.set_cons_succ]
            refine takeH (i := 5) (d := 42) (v := ?_) rfl rfl (by kernel_rfl) (by kernel_rfl) (by kernel_rfl) (fun _ _ _ h => h) (by assumption) rfl ?_ ?_
            rotate_left
            · (intro w hSw; (try dsimp only at hSw); go_simp; (try with_reducible rfl))
            simp only [putD, List.setIfInBounds_toArray, List.set_cons_zero, List.set_cons_succ]
            refine takeH (i := 6) (d := 43) (v := ?_) rfl rfl (by kernel_rfl) (by kernel_rfl) (by kernel_rfl) (fun _ _ _ h => h) (by assumption) rfl ?_ ?_
            rotate_left
            · (intro w hSw; (try dsimp only at hSw); go_simp; (try with_reducible rfl))
            simp only [putD, List.setIfInBounds_toArray, List.set_cons_zero, List.set_cons_succ]
            refine takeH (i := 7) (d := 44) rfl rfl (by kernel_rfl) (by kernel_rfl) (by kernel_rfl) (fun _ _ _ h => h) (by assumption) rfl (fun w _ => exec_sliceTo (n := l.length) (k := k) rfl rfl rfl (by omega) w) ?_
            simp only [putD, List.setIfInBounds_toArray, List.set_cons_zero, List.set_cons_succ]
            refine takeH (i := 9) (d := 46) (v := ?_) rfl rfl (by kernel_rfl) (by kernel_rfl) (by kernel_rfl) (fun _ _ _ h => h) (by assumption) rfl ?_ ?_
            rotate_left
            · (intro w hSw; (try dsimp only at hSw); go_simp; (try with_reducible rfl))
            simp only [putD, List.setIfInBounds_toArray, List.set_cons_zero, List.set_cons_succ]
            refine takeH (i := 12) (d := 49) (v := ?_) rfl rfl (by kernel_rfl) (by kernel_rfl) (by kernel_rfl) (fun _ _ _ h => h) (by assumption) rfl ?_ ?_
            rotate_left
            · (intro w hSw; (try dsimp only at hSw); go_simp; (try with_reducible rfl))
            simp only [putD, List.setIfInBounds_toArray, List.set_cons_zero, List.set_cons_succ]
            refine takeH (i := 13) (d := 50) (v := ?_) rfl rfl (by kernel_rfl) (by kernel_rfl) (by kernel_rfl) (fun _ _ _ h => h) (by assumption) rfl ?_ ?_
            rotate_left
            · (intro w hSw; (try dsimp only at hSw); go_simp; (try with_reducible rfl))
            simp only [putD, List.setIfInBounds_toArray, List.set_cons_zero, List.set_cons_succ]
            refine takeH (i := 14) (d := 51) (v := ?_) rfl rfl (by kernel_rfl) (by kernel_rfl) (by kernel_rfl) (fun _ _ _ h => h) (by assumption) rfl ?_ ?_
            rotate_left
            · (intro w hSw; (try dsimp only at hSw); go_simp; (try with_reducible rfl))
            simp only [putD, List.setIfInBounds_toArray, List.set_cons_zero, List.set_cons_succ]
            refine takeH (i := 15) (d := 52) (v := ?_) rfl rfl (by kernel_rfl) (by kernel_rfl) (by kernel_rfl) (fun _ _ _ h => h) (by assumption) rfl ?_ ?_
            rotate_left
            · (intro w hSw; (try dsimp only at hSw); go_simp; (try with_reducible rfl))
            simp only [putD, List.setIfInBounds_toArray, List.set_cons_zero, List.set_cons_succ]
            refine takeH (i := 16) (d := 53) (v := ?_) rfl rfl (by kernel_rfl) (by kernel_rfl) (by kernel_rfl) (fun _ _ _ h => h) (by assumption) rfl ?_ ?_
            rotate_left
            · (intro w hSw; (try dsimp only at hSw); go_simp; (try with_reducible rfl))
            simp only [putD, List.setIfInBounds_toArray, List.set_cons_zero, List.set_cons_succ]
            refine takeH (i := 17) (d := 54) rfl rfl (by kernel_rfl) (by kernel_rfl) (by kernel_rfl) (fun _ _ _ h => h) (by assumption) rfl (fun w _ => exec_sliceFrom (n := l.length) (k := k) rfl rfl rfl (by omega) w) ?_
            simp only [putD, List.setIfInBounds_toArray, List.set_cons_zero, List.set_cons_succ]
            refine ready2 (i := 1) (j := 10) (by kernel_rfl) (opNew (d := 38) rfl rfl rfl rfl ⟨held_alloc hH, ?_⟩) (opNew1 (d := 47) (s := n) (.tmp 46) rfl rfl rfl rfl rfl ⟨held_alloc hH, ?_⟩)
            · have hS1 := held_alloc (o := .cells #[] 9) hH
              have hP1 := HPA.out.below hS1.2
              have hO1 := made0 (B := w1.heap.size) w1.drew (Nat.le_refl _)
              simp only [putD, List.setIfInBounds_toArray, List.set_cons_zero, List.set_cons_succ]
              refine ready2 (i := 8) (j := 10) (by kernel_rfl) (opAppend (d := 45) (.tmp 38) (.tmp 44) rfl rfl rfl rfl rfl rfl hO1 (by simp; omega) (part_to hP1 HH1.out (k := k) (by simp; omega)) (by omega) hS1.2.size ?_) (opNew1 (d := 47) (s := n) (.tmp 46) rfl rfl rfl rfl rfl ⟨held_alloc hS1, ?_⟩)
              · intro v2 W2 hO2 hG2 _
                have hS2 := held_grow hS1 hG2 (fun k e => (hO1.lt k e).1) hqlt
                refine ⟨hS2, ?_⟩
                clear hS1 hP1 hG2 hO1 hH
                simp only [putD, List.setIfInBounds_toArray, List.set_cons_zero, List.set_cons_succ]
                refine ready1 (i := 10) (by kernel_rfl) (opNew1 (d := 47) (s := n) (.tmp 46) rfl rfl rfl rfl rfl ⟨held_alloc hS2, ?_⟩)
                have hO := hO2.alloc (.cells #[.string n] 9)
                have hN := part_new W2 (.string n) rfl
                have hS := held_alloc (o := .cells #[.string n] 9) hS2
                clear hO2 hS2
                simp only [putD, List.setIfInBounds_toArray, List.set_cons_zero, List.set_cons_succ]
                refine ready1 (i := 11) (by kernel_rfl) (opAppend (d := 48) (.tmp 45) (.tmp 47) rfl rfl rfl rfl rfl rfl hO (by rfl) hN (by omega) hS.2.size ?_)
                intro v4 W4 hO4 hG4 _
                have hS4 := held_grow hS hG4 (fun k e => (hO.lt k e).1) hqlt
                have hP4 := HPA.out.below hS4.2
                refine ⟨hS4, ?_⟩
                clear hG4 hO hS hN
                simp only [putD, List.setIfInBounds_toArray, List.set_cons_zero, List.set_cons_succ]
                refine ready1 (i := 18) (by kernel_rfl) (opAppend (d := 55) (.tmp 48) (.tmp 54) rfl rfl rfl rfl rfl rfl hO4 (by simp) (part_shift hP4 HH1.out (by simp; omega)) (by omega) hS4.2.size ?_)
                intro v5 W5 hO5 hG5 _
                have hS5 := held_grow hS4 hG5 (fun k e => (hO4.lt k e).1) hqlt
                refine ⟨hS5, ?_⟩
                clear hS4 hP4 hG5 hO4
                simp only [putD, List.setIfInBounds_toArray, List.set_cons_zero, List.set_cons_succ]
                refine takeH (i := 19) (d := 56) (v := ?_) rfl rfl (by kernel_rfl) (by kernel_rfl) (by kernel_rfl) (fun _ _ _ h => h) (by assumption) rfl ?_ ?_
                rotate_left
                · (intro w hSw; (try dsimp only at hSw); go_simp; (try with_reducible rfl))
                simp only [putD, List.setIfInBounds_toArray, List.set_cons_zero, List.set_cons_succ]
                refine takeH (i := 20) (d := 57) (v := ?_) rfl rfl (by kernel_rfl) (by kernel_rfl) (by kernel_rfl) (fun _ _ _ h => h) (by assumption) rfl ?_ ?_
                rotate_left
                · (intro w hSw; (try dsimp only at hSw); go_simp; (try with_reducible rfl))
                simp only [putD, List.setIfInBounds_toArray, List.set_cons_zero, List.set_cons_succ]
                refine ⟨by kernel_rfl, ?_⟩
                have hO6 := owned_list hO5 (ys := l'.map fun x => strV x.1) (by rw [HL.out]; simp [List.map_take, List.map_drop, Function.comp_def, HN1.out]) l'.length HLN.out.symm
                obtain ⟨ao3, cap3, rfl, _, _, _⟩ := owned_shape hO6
                have F := store_ref (f := 0) HQ.out hS5.2 hO6
                have hfz : W5.frozen? ⟨q, 0, none⟩ = false := by rw [hS5.2.frozen hqlt]; exact frozen_of_row _ _ _ _ _ HQ.out
                clear hO5 hO6
                simp only [LastQ]
                go_simp
                clear hS5 hfz
                revert F
                generalize W5.setCell _ _ = W6
                rintro ⟨f1, f2, f3⟩
                simp only [List.setIfInBounds_toArray, List.set_cons_zero] at f1
                go_wp2_with fail
                go_meet
                exact ⟨_, f1, f2, f3⟩
              · have hS2 := held_alloc (o := .cells #[.string n] 9) hS1
                have hP2 := HPA.out.below hS2.2
                have hO2 := hO1.alloc (.cells #[.string n] 9)
                have hN2 := part_new (w1.drew.alloc (.cells #[] 9)) (.string n) rfl
                simp only [putD, List.setIfInBounds_toArray, List.set_cons_zero, List.set_cons_succ]
                refine ready1 (i := 8) (by kernel_rfl) (opAppend (d := 45) (.tmp 38) (.tmp 44) rfl rfl rfl rfl rfl rfl hO2 (by simp; omega) (part_to hP2 HH1.out (k := k) (by simp; omega)) (by omega) hS2.2.size ?_)
                intro v2 W2 hO hG2 _
                have hS := held_grow hS2 hG2 (fun k e => (hO2.lt k e).1) hqlt
                have hN := part_grown hN2 hG2 (fun e => by have := Option.some.inj e; simp at this)
                refine ⟨hS, ?_⟩
                clear hS1 hP1 hG2 hO1 hH hS2 hP2 hO2 hN2
                simp only [putD, List.setIfInBounds_toArray, List.set_cons_zero, List.set_cons_succ]
                refine ready1 (i := 11) (by kernel_rfl) (opAppend (d := 48) (.tmp 45) (.tmp 47) rfl rfl rfl rfl rfl rfl hO (by rfl) hN (by omega) hS.2.size ?_)
                intro v4 W4 hO4 hG4 _
                have hS4 := held_grow hS hG4 (fun k e => (hO.lt k e).1) hqlt
                have hP4 := HPA.out.below hS4.2
                refine ⟨hS4, ?_⟩
                clear hG4 hO hS hN
                simp only [putD, List.setIfInBounds_toArray, List.set_cons_zero, List.set_cons_succ]
                refine ready1 (i := 18) (by kernel_rfl) (opAppend (d := 55) (.tmp 48) (.tmp 54) rfl rfl rfl rfl rfl rfl hO4 (by simp) (part_shift hP4 HH1.out (by simp; omega)) (by omega) hS4.2.size ?_)
                intro v5 W5 hO5 hG5 _
                have hS5 := held_grow hS4 hG5 (fun k e => (hO4.lt k e).1) hqlt
                refine ⟨hS5, ?_⟩
                clear hS4 hP4 hG5 hO4
                simp only [putD, List.setIfInBounds_toArray, List.set_cons_zero, List.set_cons_succ]
                refine takeH (i := 19) (d := 56) (v := ?_) rfl rfl (by kernel_rfl) (by kernel_rfl) (by kernel_rfl) (fun _ _ _ h => h) (by assumption) rfl ?_ ?_
                rotate_left
                · (intro w hSw; (try dsimp only at hSw); go_simp; (try with_reducible rfl))
                simp only [putD, List.setIfInBounds_toArray, List.set_cons_zero, List.set_cons_succ]
                refine takeH (i := 20) (d := 57) (v := ?_) rfl rfl (by kernel_rfl) (by kernel_rfl) (by kernel_rfl) (fun _ _ _ h => h) (by assumption) rfl ?_ ?_
                rotate_left
                · (intro w hSw; (try dsimp only at hSw); go_simp; (try with_reducible rfl))
                simp only [putD, List.setIfInBounds_toArray, List.set_cons_zero, List.set_cons_succ]
                refine ⟨by kernel_rfl, ?_⟩
                have hO6 := owned_list hO5 (ys := l'.map fun x => strV x.1) (by rw [HL.out]; simp [List.map_take, List.map_drop, Function.comp_def, HN1.out]) l'.length HLN.out.symm
                obtain ⟨ao3, cap3, rfl, _, _, _⟩ := owned_shape hO6
                have F := store_ref (f := 0) HQ.out hS5.2 hO6
                have hfz : W5.frozen? ⟨q, 0, none⟩ = false := by rw [hS5.2.frozen hqlt]; exact frozen_of_row _ _ _ _ _ HQ.out
                clear hO5 hO6
                simp only [LastQ]
                go_simp
                clear hS5 hfz
                revert F
                generalize W5.setCell _ _ = W6
                rintro ⟨f1, f2, f3⟩
                simp only [List.setIfInBounds_toArray, List.set_cons_zero] at f1
                go_wp2_with fail
                go_meet
                exact ⟨_, f1, f2, f3⟩
            · have hS1 := held_alloc (o := .cells #[.string n] 9) hH
              have hN1 := part_new w1.drew (.string n) rfl
              simp only [putD, List.setIfInBounds_toArray, List.set_cons_zero, List.set_cons_succ]
              refine ready1 (i := 1) (by kernel_rfl) (opNew (d := 38) rfl rfl rfl rfl ⟨held_alloc hS1, ?_⟩)
              have hS2 := held_alloc (o := .cells #[] 9) hS1
              have hP2 := HPA.out.below hS2.2
              have hO2 := made0 (B := w1.heap.size) (w1.drew.alloc (.cells #[.string n] 9)) hS1.2.size
              have hN2 := hN1.below ((Below.refl _ _).alloc (Nat.le_refl _) (.cells #[] 9))
              simp only [putD, List.setIfInBounds_toArray, List.set_cons_zero, List.set_cons_succ]
              refine ready1 (i := 8) (by kernel_rfl) (opAppend (d := 45) (.tmp 38) (.tmp 44) rfl rfl rfl rfl rfl rfl hO2 (by simp; omega) (part_to hP2 HH1.out (k := k) (by simp; omega)) (by omega) hS2.2.size ?_)
              intro v2 W2 hO hG2 _
              have hS := held_grow hS2 hG2 (fun k e => (hO2.lt k e).1) hqlt
              have hN := part_grown hN2 hG2 (fun e => by have := Option.some.inj e; simp at this)
              refine ⟨hS, ?_⟩
              clear hS1 hG2 hH hS2 hP2 hO2 hN2 hN1
              simp only [putD, List.setIfInBounds_toArray, List.set_cons_zero, List.set_cons_succ]
              refine ready1 (i := 11) (by kernel_rfl) (opAppend (d := 48) (.tmp 45) (.tmp 47) rfl rfl rfl rfl rfl rfl hO (by rfl) hN (by omega) hS.2.size ?_)
              intro v4 W4 hO4 hG4 _
              have hS4 := held_grow hS hG4 (fun k e => (hO.lt k e).1) hqlt
              have hP4 := HPA.out.below hS4.2
              refine ⟨hS4, ?_⟩
              clear hG4 hO hS hN
              simp only [putD, List.setIfInBounds_toArray, List.set_cons_zero, List.set_cons_succ]
              refine ready1 (i := 18) (by kernel_rfl) (opAppend (d := 55) (.tmp 48) (.tmp 54) rfl rfl rfl rfl rfl rfl hO4 (by simp) (part_shift hP4 HH1.out (by simp; omega)) (by omega) hS4.2.size ?_)
              intro v5 W5 hO5 hG5 _
              have hS5 := held_grow hS4 hG5 (fun k e => (hO4.lt k e).1) hqlt
              refine ⟨hS5, ?_⟩
              clear hS4 hP4 hG5 hO4
              simp only [putD, List.setIfInBounds_toArray, List.set_cons_zero, List.set_cons_succ]
              refine takeH (i := 19) (d := 56) (v := ?_) rfl rfl (by kernel_rfl) (by kernel_rfl) (by kernel_rfl) (fun _ _ _ h => h) (by assumption) rfl ?_ ?_
              rotate_left
              · (intro w hSw; (try dsimp only at hSw); go_simp; (try with_reducible rfl))
              simp only [putD, List.setIfInBounds_toArray, List.set_cons_zero, List.set_cons_succ]
              refine takeH (i := 20) (d := 57) (v := ?_) rfl rfl (by kernel_rfl) (by kernel_rfl) (by kernel_rfl) (fun _ _ _ h => h) (by assumption) rfl ?_ ?_
              rotate_left
              · (intro w hSw; (try dsimp only at hSw); go_simp; (try with_reducible rfl))
              simp only [putD, List.setIfInBounds_toArray, List.set_cons_zero, List.set_cons_succ]
              refine ⟨by kernel_rfl, ?_⟩
              have hO6 := owned_list hO5 (ys := l'.map fun x => strV x.1) (by rw [HL.out]; simp [List.map_take, List.map_drop, Function.comp_def, HN1.out]) l'.length HLN.out.symm
              obtain ⟨ao3, cap3, rfl, _, _, _⟩ := owned_shape hO6
              have F := store_ref (f := 0) HQ.out hS5.2 hO6
              have hfz : W5.frozen? ⟨q, 0, none⟩ = false := by rw [hS5.2.frozen hqlt]; exact frozen_of_row _ _ _ _ _ HQ.out
              clear hO5 hO6
              simp only [LastQ]
              go_simp
              clear hS5 hfz
              revert F
              generalize W5.setCell _ _ = W6
              rintro ⟨f1, f2, f3⟩
              simp only [List.setIfInBounds_toArray, List.set_cons_zero] at f1
              go_wp2_with fail
              go_meet
              exact ⟨_, f1, f2, f3⟩
          case rest =>
            obtain ⟨v3, f1, f2, f3⟩ := hcut
            have HQ4 := Lib.hid f1
            have H3 := Lib.hid f2
            have F3 := Lib.hid f3
            have H4 := Lib.hid (owned_only H2.out f3 (owned_ne H2.out HQ.out (by simp)))
            have HPC := Lib.hid (owned_part H4.out (textV_one _))
            have hq4 : wc.cell? ⟨q, 1, none⟩ = some (.slice ao2 l.length cap2) := by
              rw [cell_of_row wc q 1 _ _ _ f1]; rfl
            have hqlt4 : q < wc.heap.size := (Array.getElem?_eq_some_iff.1 f1).1
            clear f1 f2 f3 hq0 hq1 hqlt HPA HPB H1 H2 HQ HAT
            go_upto_region 14 with fail
            refine wp_region_snocN 21 (fun w' => w'.cell? ⟨q, 1, none⟩ = some (.slice ao2 l.length cap2) ∧ Below wc.heap.size wc w') (by kernel_rfl) rfl (by kernel_rfl) ?_ (fun z hz hH => ?_)
            · exact ⟨hq4, (Below.refl _ _).drew⟩
            simp only [List.drop_succ_cons, List.drop_zero, List.cons.injEq, and_true] at hz
            subst hz
            simp only [List.take_succ_cons, List.take_zero]
            refine takeH (i := 0) (d := 58) (v := ?_) rfl rfl (by kernel_rfl) (by kernel_rfl) (by kernel_rfl) (fun _ _ _ h => h) (by assumption) rfl ?_ ?_
            rotate_left
            · (intro w hSw; (try dsimp only at hSw); go_simp; (try with_reducible rfl))
            simp only [putD, List.setIfInBounds_toArray, List.set_cons_zero, List.set_cons_succ]
            refine takeH (i := 2) (d := 60) (v := ?_) rfl rfl (by kernel_rfl) (by kernel_rfl) (by kernel_rfl) (fun _ _ _ h => h) (by assumption) rfl ?_ ?_
            rotate_left
            · (intro w hSw; (try dsimp only at hSw); go_simp; (try with_reducible rfl))
            simp only [putD, List.setIfInBounds_toArray, List.set_cons_zero, List.set_cons_succ]
            refine takeH (i := 3) (d := 61) (v := ?_) rfl rfl (by kernel_rfl) (by kernel_rfl) (by kernel_rfl) (fun _ _ _ h => h) (by assumption) rfl ?_ ?_
            rotate_left
            · (intro w hSw; (try dsimp only at hSw); go_simp; (try with_reducible rfl))
            simp only [putD, List.setIfInBounds_toArray, List.set_cons_zero, List.set_cons_succ]
            refine takeH (i := 4) (d := 62) (v := ?_) rfl rfl (by kernel_rfl) (by kernel_rfl) (by kernel_rfl) (fun _ _ _ h => h) (by assumption) rfl ?_ ?_
            rotate_left
            · (intro w hSw; (try dsimp only at hSw); go_simp; (try with_reducible rfl))
            simp only [putD, List.setIfInBounds_toArray, List.set_cons_zero, List.set_cons_succ]
            refine takeH (i := 5) (d := 63) (v := ?_) rfl rfl (by kernel_rfl) (by kernel_rfl) (by kernel_rfl) (fun _ _ _ h => h) (by assumption) rfl ?_ ?_
            rotate_left
            · (intro w hSw; (try dsimp only at hSw); go_simp; (try with_reducible rfl))
            simp only [putD, List.setIfInBounds_toArray, List.set_cons_zero, List.set_cons_succ]
            refine takeH (i := 6) (d := 64) (v := ?_) rfl rfl (by kernel_rfl) (by kernel_rfl) (by kernel_rfl) (fun _ _ _ h => h) (by assumption) rfl ?_ ?_
            rotate_left
            · (intro w hSw; (try dsimp only at hSw); go_simp; (try with_reducible rfl))
            simp only [putD, List.setIfInBounds_toArray, List.set_cons_zero, List.set_cons_succ]
            refine takeH (i := 7) (d := 65) rfl rfl (by kernel_rfl) (by kernel_rfl) (by kernel_rfl) (fun _ _ _ h => h) (by assumption) rfl (fun w _ => exec_sliceTo (n := l.length) (k := k) rfl rfl rfl (by omega) w) ?_
            simp only [putD, List.setIfInBounds_toArray, List.set_cons_zero, List.set_cons_succ]
            refine takeH (i := 9) (d := 67) (v := ?_) rfl rfl (by kernel_rfl) (by kernel_rfl) (by kernel_rfl) (fun _ _ _ h => h) (by assumption) rfl ?_ ?_
            rotate_left
            · (intro w hSw; (try dsimp only at hSw); go_simp; (try with_reducible rfl))
            simp only [putD, List.setIfInBounds_toArray, List.set_cons_zero, List.set_cons_succ]
            refine takeH (i := 12) (d := 70) (v := ?_) rfl rfl (by kernel_rfl) (by kernel_rfl) (by kernel_rfl) (fun _ _ _ h => h) (by assumption) rfl ?_ ?_
            rotate_left
            · (intro w hSw; (try dsimp only at hSw); go_simp; (try with_reducible rfl))
            simp only [putD, List.setIfInBounds_toArray, List.set_cons_zero, List.set_cons_succ]
            refine takeH (i := 13) (d := 71) (v := ?_) rfl rfl (by kernel_rfl) (by kernel_rfl) (by kernel_rfl) (fun _ _ _ h => h) (by assumption) rfl ?_ ?_
            rotate_left
            · (intro w hSw; (try dsimp only at hSw); go_simp; (try with_reducible rfl))
            simp only [putD, List.setIfInBounds_toArray, List.set_cons_zero, List.set_cons_succ]
            refine takeH (i := 14) (d := 72) (v := ?_) rfl rfl (by kernel_rfl) (by kernel_rfl) (by kernel_rfl) (fun _ _ _ h => h) (by assumption) rfl ?_ ?_
            rotate_left
            · (intro w hSw; (try dsimp only at hSw); go_simp; (try with_reducible rfl))
            simp only [putD, List.setIfInBounds_toArray, List.set_cons_zero, List.set_cons_succ]
            refine takeH (i := 15) (d := 73) (v := ?_) rfl rfl (by kernel_rfl) (by kernel_rfl) (by kernel_rfl) (fun _ _ _ h => h) (by assumption) rfl ?_ ?_
            rotate_left
            · (intro w hSw; (try dsimp only at hSw); go_simp; (try with_reducible rfl))
            simp only [putD, List.setIfInBounds_toArray, List.set_cons_zero, List.set_cons_succ]
            refine takeH (i := 16) (d := 74) (v := ?_) rfl rfl (by kernel_rfl) (by kernel_rfl) (by kernel_rfl) (fun _ _ _ h => h) (by assumption) rfl ?_ ?_
            rotate_left
            · (intro w hSw; (try dsimp only at hSw); go_simp; (try with_reducible rfl))
            simp only [putD, List.setIfInBounds_toArray, List.set_cons_zero, List.set_cons_succ]
            refine takeH (i := 17) (d := 75) rfl rfl (by kernel_rfl) (by kernel_rfl) (by kernel_rfl) (fun _ _ _ h => h) (by assumption) rfl (fun w _ => exec_sliceFrom (n := l.length) (k := k) rfl rfl rfl (by omega) w) ?_
            simp only [putD, List.setIfInBounds_toArray, List.set_cons_zero, List.set_cons_succ]
            refine ready2 (i := 1) (j := 10) (by kernel_rfl) (opNew (d := 59) rfl rfl rfl rfl ⟨held_alloc hH, ?_⟩) (opNew1 (d := 68) (s := t) (.tmp 67) rfl rfl rfl rfl rfl ⟨held_alloc hH, ?_⟩)
            · have hS1 := held_alloc (o := .cells #[] 9) hH
              have hP1 := HPC.out.below hS1.2
              have hO1 := made0 (B := wc.heap.size) wc.drew (Nat.le_refl _)
              simp only [putD, List.setIfInBounds_toArray, List.set_cons_zero, List.set_cons_succ]
              refine ready2 (i := 8) (j := 10) (by kernel_rfl) (opAppend (d := 66) (.tmp 59) (.tmp 65) rfl rfl rfl rfl rfl rfl hO1 (by simp; omega) (part_to hP1 HH2.out (k := k) (by simp; omega)) (by omega) hS1.2.size ?_) (opNew1 (d := 68) (s := t) (.tmp 67) rfl rfl rfl rfl rfl ⟨held_alloc hS1, ?_⟩)
              · intro v2 W2 hO2 hG2 _
                have hS2 := held_grow hS1 hG2 (fun k e => (hO1.lt k e).1) hqlt4
                refine ⟨hS2, ?_⟩
                clear hS1 hP1 hG2 hO1 hH
                simp only [putD, List.setIfInBounds_toArray, List.set_cons_zero, List.set_cons_succ]
                refine ready1 (i := 10) (by kernel_rfl) (opNew1 (d := 68) (s := t) (.tmp 67) rfl rfl rfl rfl rfl ⟨held_alloc hS2, ?_⟩)
                have hO := hO2.alloc (.cells #[.string t] 9)
                have hN := part_new W2 (.string t) rfl
                have hS := held_alloc (o := .cells #[.string t] 9) hS2
                clear hO2 hS2
                simp only [putD, List.setIfInBounds_toArray, List.set_cons_zero, List.set_cons_succ]
                refine ready1 (i := 11) (by kernel_rfl) (opAppend (d := 69) (.tmp 66) (.tmp 68) rfl rfl rfl rfl rfl rfl hO (by rfl) hN (by omega) hS.2.size ?_)
                intro v4 W4 hO4 hG4 _
                have hS4 := held_grow hS hG4 (fun k e => (hO.lt k e).1) hqlt4
                have hP4 := HPC.out.below hS4.2
                refine ⟨hS4, ?_⟩
                clear hG4 hO hS hN
                simp only [putD, List.setIfInBounds_toArray, List.set_cons_zero, List.set_cons_succ]
                refine ready1 (i := 18) (by kernel_rfl) (opAppend (d := 76) (.tmp 69) (.tmp 75) rfl rfl rfl rfl rfl rfl hO4 (by simp) (part_shift hP4 HH2.out (by simp; omega)) (by omega) hS4.2.size ?_)
                intro v5 W5 hO5 hG5 _
                have hS5 := held_grow hS4 hG5 (fun k e => (hO4.lt k e).1) hqlt4
                refine ⟨hS5, ?_⟩
                clear hS4 hP4 hG5 hO4
                simp only [putD, List.setIfInBounds_toArray, List.set_cons_zero, List.set_cons_succ]
                refine takeH (i := 19) (d := 77) (v := ?_) rfl rfl (by kernel_rfl) (by kernel_rfl) (by kernel_rfl) (fun _ _ _ h => h) (by assumption) rfl ?_ ?_
                rotate_left
                · (intro w hSw; (try dsimp only at hSw); go_simp; (try with_reducible rfl))
                simp only [putD, List.setIfInBounds_toArray, List.set_cons_zero, List.set_cons_succ]
                refine takeH (i := 20) (d := 78) (v := ?_) rfl rfl (by kernel_rfl) (by kernel_rfl) (by kernel_rfl) (fun _ _ _ h => h) (by assumption) rfl ?_ ?_
                rotate_left
                · (intro w hSw; (try dsimp only at hSw); go_simp; (try with_reducible rfl))
                simp only [putD, List.setIfInBounds_toArray, List.set_cons_zero, List.set_cons_succ]
                refine ⟨by kernel_rfl, ?_⟩
                have hO6 := owned_list hO5 (ys := l'.map fun x => Value.string x.2) (by rw [HL.out]; simp [List.map_take, List.map_drop, Function.comp_def]) l'.length HLN.out.symm
                obtain ⟨ao3, cap3, rfl, _, _, _⟩ := owned_shape hO6
                have F := store_ref (f := 1) HQ4.out hS5.2 hO6
                have hfz : W5.frozen? ⟨q, 1, none⟩ = false := by rw [hS5.2.frozen hqlt4]; exact frozen_of_row _ _ _ _ _ HQ4.out
                clear hO5 hO6
                simp only [LastQ]
                go_simp
                clear hS5 hfz
                revert F
                generalize W5.setCell _ _ = W6
                rintro ⟨f1, f2, f3⟩
                simp only [List.setIfInBounds_toArray, List.set_cons_zero, List.set_cons_succ] at f1
                have D := ref_done hB hBq HQ4.out f1 H3.out f2 F3.out f3
                have HD := Lib.hid D
                clear f1 f2 f3 D
                go_wp2_with fail
                go_ret
                exact ⟨l', by rw [HC.out.1]; rfl, HD.out.1, HSS.out, by rw [HC.out.2, HPN.out]; exact HIP.out, ref_only HD.out.2⟩
              · have hS2 := held_alloc (o := .cells #[.string t] 9) hS1
                have hP2 := HPC.out.below hS2.2
                have hO2 := hO1.alloc (.cells #[.string t] 9)
                have hN2 := part_new (wc.drew.alloc (.cells #[] 9)) (.string t) rfl
                simp only [putD, List.setIfInBounds_toArray, List.set_cons_zero, List.set_cons_succ]
                refine ready1 (i := 8) (by kernel_rfl) (opAppend (d := 66) (.tmp 59) (.tmp 65) rfl rfl rfl rfl rfl rfl hO2 (by simp; omega) (part_to hP2 HH2.out (k := k) (by simp; omega)) (by omega) hS2.2.size ?_)
                intro v2 W2 hO hG2 _
                have hS := held_grow hS2 hG2 (fun k e => (hO2.lt k e).1) hqlt4
                have hN := part_grown hN2 hG2 (fun e => by have := Option.some.inj e; simp at this)
                refine ⟨hS, ?_⟩
                clear hS1 hP1 hG2 hO1 hH hS2 hP2 hO2 hN2
                simp only [putD, List.setIfInBounds_toArray, List.set_cons_zero, List.set_cons_succ]
                refine ready1 (i := 11) (by kernel_rfl) (opAppend (d := 69) (.tmp 66) (.tmp 68) rfl rfl rfl rfl rfl rfl hO (by rfl) hN (by omega) hS.2.size ?_)
                intro v4 W4 hO4 hG4 _
                have hS4 := held_grow hS hG4 (fun k e => (hO.lt k e).1) hqlt4
                have hP4 := HPC.out.below hS4.2
                refine ⟨hS4, ?_⟩
                clear hG4 hO hS hN
                simp only [putD, List.setIfInBounds_toArray, List.set_cons_zero, List.set_cons_succ]
                refine ready1 (i := 18) (by kernel_rfl) (opAppend (d := 76) (.tmp 69) (.tmp 75) rfl rfl rfl rfl rfl rfl hO4 (by simp) (part_shift hP4 HH2.out (by simp; omega)) (by omega) hS4.2.size ?_)
                intro v5 W5 hO5 hG5 _
                have hS5 := held_grow hS4 hG5 (fun k e => (hO4.lt k e).1) hqlt4
                refine ⟨hS5, ?_⟩
                clear hS4 hP4 hG5 hO4
                simp only [putD, List.setIfInBounds_toArray, List.set_cons_zero, List.set_cons_succ]
                refine takeH (i := 19) (d := 77) (v := ?_) rfl rfl (by kernel_rfl) (by kernel_rfl) (by kernel_rfl) (fun _ _ _ h => h) (by assumption) rfl ?_ ?_
                rotate_left
                · (intro w hSw; (try dsimp only at hSw); go_simp; (try with_reducible rfl))
                simp only [putD, List.setIfInBounds_toArray, List.set_cons_zero, List.set_cons_succ]
                refine takeH (i := 20) (d := 78) (v := ?_) rfl rfl (by kernel_rfl) (by kernel_rfl) (by kernel_rfl) (fun _ _ _ h => h) (by assumption) rfl ?_ ?_
                rotate_left
                · (intro w hSw; (try dsimp only at hSw); go_simp; (try with_reducible rfl))
                simp only [putD, List.setIfInBounds_toArray, List.set_cons_zero, List.set_cons_succ]
                refine ⟨by kernel_rfl, ?_⟩
                have hO6 := owned_list hO5 (ys := l'.map fun x => Value.string x.2) (by rw [HL.out]; simp [List.map_take, List.map_drop, Function.comp_def]) l'.length HLN.out.symm
                obtain ⟨ao3, cap3, rfl, _, _, _⟩ := owned_shape hO6
                have F := store_ref (f := 1) HQ4.out hS5.2 hO6
                have hfz : W5.frozen? ⟨q, 1, none⟩ = false := by rw [hS5.2.frozen hqlt4]; exact frozen_of_row _ _ _ _ _ HQ4.out
                clear hO5 hO6
                simp only [LastQ]
                go_simp
                clear hS5 hfz
                revert F
                generalize W5.setCell _ _ = W6
                rintro ⟨f1, f2, f3⟩
                simp only [List.setIfInBounds_toArray, List.set_cons_zero, List.set_cons_succ] at f1
                have D := ref_done hB hBq HQ4.out f1 H3.out f2 F3.out f3
                have HD := Lib.hid D
                clear f1 f2 f3 D
                go_wp2_with fail
                go_ret
                exact ⟨l', by rw [HC.out.1]; rfl, HD.out.1, HSS.out, by rw [HC.out.2, HPN.out]; exact HIP.out, ref_only HD.out.2⟩
            · have hS1 := held_alloc (o := .cells #[.string t] 9) hH
              have hN1 := part_new wc.drew (.string t) rfl
              simp only [putD, List.setIfInBounds_toArray, List.set_cons_zero, List.set_cons_succ]
              refine ready1 (i := 1) (by kernel_rfl) (opNew (d := 59) rfl rfl rfl rfl ⟨held_alloc hS1, ?_⟩)
              have hS2 := held_alloc (o := .cells #[] 9) hS1
              have hP2 := HPC.out.below hS2.2
              have hO2 := made0 (B := wc.heap.size) (wc.drew.alloc (.cells #[.string t] 9)) hS1.2.size
              have hN2 := hN1.below ((Below.refl _ _).alloc (Nat.le_refl _) (.cells #[] 9))
              simp only [putD, List.setIfInBounds_toArray, List.set_cons_zero, List.set_cons_succ]
              refine ready1 (i := 8) (by kernel_rfl) (opAppend (d := 66) (.tmp 59) (.tmp 65) rfl rfl rfl rfl rfl rfl hO2 (by simp; omega) (part_to hP2 HH2.out (k := k) (by simp; omega)) (by omega) hS2.2.size ?_)
              intro v2 W2 hO hG2 _
              have hS := held_grow hS2 hG2 (fun k e => (hO2.lt k e).1) hqlt4
              have hN := part_grown hN2 hG2 (fun e => by have := Option.some.inj e; simp at this)
              refine ⟨hS, ?_⟩
              clear hS1 hG2 hH hS2 hP2 hO2 hN2 hN1
              simp only [putD, List.setIfInBounds_toArray, List.set_cons_zero, List.set_cons_succ]
              refine ready1 (i := 11) (by kernel_rfl) (opAppend (d := 69) (.tmp 66) (.tmp 68) rfl rfl rfl rfl rfl rfl hO (by rfl) hN (by omega) hS.2.size ?_)
              intro v4 W4 hO4 hG4 _
              have hS4 := held_grow hS hG4 (fun k e => (hO.lt k e).1) hqlt4
              have hP4 := HPC.out.below hS4.2
              refine ⟨hS4, ?_⟩
              clear hG4 hO hS hN
              simp only [putD, List.setIfInBounds_toArray, List.set_cons_zero, List.set_cons_succ]
              refine ready1 (i := 18) (by kernel_rfl) (opAppend (d := 76) (.tmp 69) (.tmp 75) rfl rfl rfl rfl rfl rfl hO4 (by simp) (part_shift hP4 HH2.out (by simp; omega)) (by omega) hS4.2.size ?_)
              intro v5 W5 hO5 hG5 _
              have hS5 := held_grow hS4 hG5 (fun k e => (hO4.lt k e).1) hqlt4
              refine ⟨hS5, ?_⟩
              clear hS4 hP4 hG5 hO4
              simp only [putD, List.setIfInBounds_toArray, List.set_cons_zero, List.set_cons_succ]
              refine takeH (i := 19) (d := 77) (v := ?_) rfl rfl (by kernel_rfl) (by kernel_rfl) (by kernel_rfl) (fun _ _ _ h => h) (by assumption) rfl ?_ ?_
              rotate_left
              · (intro w hSw; (try dsimp only at hSw); go_simp; (try with_reducible rfl))
              simp only [putD, List.setIfInBounds_toArray, List.set_cons_zero, List.set_cons_succ]
              refine takeH (i := 20) (d := 78) (v := ?_) rfl rfl (by kernel_rfl) (by kernel_rfl) (by kernel_rfl) (fun _ _ _ h => h) (by assumption) rfl ?_ ?_
              rotate_left
              · (intro w hSw; (try dsimp only at hSw); go_simp; (try with_reducible rfl))
              simp only [putD, List.setIfInBounds_toArray, List.set_cons_zero, List.set_cons_succ]
              refine ⟨by kernel_rfl, ?_⟩
              have hO6 := owned_list hO5 (ys := l'.map fun x => Value.string x.2) (by rw [HL.out]; simp [List.map_take, List.map_drop, Function.comp_def]) l'.length HLN.out.symm
              obtain ⟨ao3, cap3, rfl, _, _, _⟩ := owned_shape hO6
              have F := store_ref (f := 1) HQ4.out hS5.2 hO6
              have hfz : W5.frozen? ⟨q, 1, none⟩ = false := by rw [hS5.2.frozen hqlt4]; exact frozen_of_row _ _ _ _ _ HQ4.out
              clear hO5 hO6
              simp only [LastQ]
              go_simp
              clear hS5 hfz
              revert F
              generalize W5.setCell _ _ = W6
              rintro ⟨f1, f2, f3⟩
              simp only [List.setIfInBounds_toArray, List.set_cons_zero, List.set_cons_succ] at f1
              have D := ref_done hB hBq HQ4.out f1 H3.out f2 F3.out f3
              have HD := Lib.hid D
              clear f1 f2 f3 D
              go_wp2_with fail
              go_ret
              exact ⟨l', by rw [HC.out.1]; rfl, HD.out.1, HSS.out, by rw [HC.out.2, HPN.out]; exact HIP.out, ref_only HD.out.2⟩
end Go.Proofs.Ytglichmmoibagaa
