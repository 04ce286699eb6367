/- The reference store's Delete. -/
import Derived.Test.YtglichmmoibagaaY
namespace Go.Proofs.Ytglichmmoibagaa
open Go.RowKit
set_option linter.unusedVariables false

theorem held_alloc {W0 w : World} {ad : Addr} {v : Value} {o : Obj} (h : w.cell? ad = some v ∧ Below W0.heap.size W0 w) : (w.alloc o).cell? ad = some v ∧ Below W0.heap.size W0 (w.alloc o) :=
  ⟨by rw [World.cell?_alloc_some _ _ _ (by rw [h.1]; rfl)]; exact h.1, h.2.alloc h.2.size _⟩

theorem held_grow {W0 w w' : World} {ad : Addr} {v : Value} {row : Option Nat} (h : w.cell? ad = some v ∧ Below W0.heap.size W0 w) (hg : w.grownBy w' row) (hr : ∀ k, row = some k → W0.heap.size ≤ k) (ha : ad.block < W0.heap.size) :
    w'.cell? ad = some v ∧ Below W0.heap.size W0 w' :=
  ⟨(hg.cell h.1 (fun e => by have := hr _ e.symm; omega)), h.2.grown hg h.2.size hr⟩

theorem part_take {w : World} {ao : Option Addr} {xs : List Value} (h : Part w ao xs) (k : Nat) : Part w ao (xs.take k) :=
  ⟨fun j u hu => h.1 j u (by
    rw [List.getElem?_take] at hu
    split at hu
    · exact hu
    · cases hu), fun u hu => h.2 u (List.mem_of_mem_take hu)⟩

theorem part_drop {w : World} {g k cap : Nat} {xs : List Value} (h : Part w (some ⟨g, 0, none⟩) xs) (hc : xs.length ≤ cap) : Part w (if cap = k then some ⟨g, 0, none⟩ else some ⟨g, k, none⟩) (xs.drop k) := by
  refine ⟨fun j u hu => ?_, fun u hu => h.2 u (List.mem_of_mem_drop hu)⟩
  rw [List.getElem?_drop] at hu
  have hlt := (List.getElem?_eq_some_iff.1 hu).1
  rw [if_neg (by omega)]
  obtain ⟨ad, e, hcell⟩ := h.1 _ u hu
  cases e
  refine ⟨_, rfl, ?_⟩
  have h1 : ∀ x y : Nat, (⟨g, x, none⟩ : Addr).add y = ⟨g, x + y, none⟩ := by intro x y; unfold Addr.add; split <;> simp_all
  rw [h1] at hcell ⊢
  rw [Nat.zero_add] at hcell
  exact hcell

theorem store_ref {W0 W3 : World} {q f n : Nat} {cs : Array Value} {v : Value} {xs : List Value} (hq : W0.heap[q]? = some (.cells cs 39 (0, 0))) (hb : Below W0.heap.size W0 W3) (hown : W3.ownsRow W0.heap.size 9 1 v n xs) :
    (W3.setCell ⟨q, f, none⟩ v).heap[q]? = some (.cells (cs.setIfInBounds f v) 39 (0, 0)) ∧ (W3.setCell ⟨q, f, none⟩ v).ownsRow W0.heap.size 9 1 v n xs ∧ Only (fun k => k = q) W0 (W3.setCell ⟨q, f, none⟩ v) := by
  have hlt : q < W0.heap.size := (Array.getElem?_eq_some_iff.1 hq).1
  have hq3 : W3.heap[q]? = some (.cells cs 39 (0, 0)) := (hb.block q hlt).trans hq
  refine ⟨heap_setCell_same W3 q f _ _ _ hq3, ownsRow_setCell_below hown hlt v, ?_⟩
  refine ⟨hb.os, hb.tape, hb.output, by have := hb.size; simpa [World.setCell] using this, fun k hk hs => ?_⟩
  rw [heap_setCell_other W3 _ k _ hs]
  exact hb.block k hk

/-- The files without number k. -/
theorem del_lists {l : Files} {n : List UInt8} {t : ByteArray} {k : Nat} (hs : Srt l) (ht : l[k]? = some (n, t)) : l.del n = l.take k ++ l.drop (k + 1) := by
  rw [Files.del_erase hs.nodup ht, List.eraseIdx_eq_take_drop_succ]

theorem owned_list {w : World} {B n : Nat} {v : Value} {xs ys : List Value} (h : w.ownsRow B 9 1 v n xs) (hl : ys = xs) (m : Nat) (hm : n = m) : w.ownsRow B 9 1 v m ys := by subst hl hm; exact h

theorem Only.then_below {S : Nat → Prop} {a b c : World} (h : Only S a b) (k : Only S b c) : Only S a c :=
  ⟨k.os.trans h.os, k.tape.trans h.tape, k.output.trans h.output, Nat.le_trans h.size k.size, fun i hi hs => (k.block i (Nat.lt_of_lt_of_le hi h.size) hs).trans (h.block i hi hs)⟩

/-- A row of the call's own behind what writes to other blocks alone. -/
theorem owned_only {S : Nat → Prop} {w w' : World} {B n : Nat} {v : Value} {xs : List Value} (h : w.ownsRow B 9 1 v n xs) (k : Only S w w') (hs : ∀ g, v.ownBlock = some g → ¬ S g) : w'.ownsRow B 9 1 v n xs := by
  obtain ⟨h1, h2 | ⟨g, cap, cur, rfl, hbg, hg, r⟩⟩ := h
  · exact ⟨h1, .inl h2⟩
  · exact ⟨h1, .inr ⟨g, cap, cur, rfl, hbg, (k.block g (Array.getElem?_eq_some_iff.1 hg).1 (hs g rfl)).trans hg, r⟩⟩

/-- A block of another kind is no row. -/
theorem owned_ne {w : World} {B n q : Nat} {v : Value} {xs : List Value} {o : Obj} (h : w.ownsRow B 9 1 v n xs) (hq : w.heap[q]? = some o) (ho : ∀ cur fz, o ≠ .cells cur 9 fz) : ∀ g, v.ownBlock = some g → ¬ g = q := by
  rintro g hg rfl
  obtain ⟨_, ⟨rfl, _⟩ | ⟨g', cap, cur, rfl, _, hg', _⟩⟩ := h
  · cases hg
  · cases hg
    rw [hq] at hg'
    cases hg'
    exact ho _ _ rfl

/-- Both rows anew: it is a reference store again. -/
theorem ref_done {B q : Nat} {w1 W4 W5 : World} {l' : Files} {v1 v2 : Value} {cs : Array Value} (hB : B ≤ w1.heap.size) (hBq : B ≤ q) (hq4 : W4.heap[q]? = some (.cells cs 39 (0, 0))) (hq5 : W5.heap[q]? = some (.cells #[v1, v2] 39 (0, 0)))
    (h3 : W4.ownsRow w1.heap.size 9 1 v1 l'.length (l'.map fun x => strV x.1)) (h5 : W5.ownsRow W4.heap.size 9 1 v2 l'.length (l'.map fun x => Value.string x.2)) (f3 : Only (fun k => k = q) w1 W4) (f5 : Only (fun k => k = q) W4 W5) :
    IsRef B W5 q l' ∧ Only (fun k => k = q) w1 W5 := by
  have h3' := owned_only h3 f5 (owned_ne h3 hq4 (by simp))
  refine ⟨⟨v1, v2, hq5, ?_, ?_, ?_, hBq, ?_⟩, f3.then_below f5⟩
  · refine owned_list (ownsRow_mono h3' hB) ?_ _ rfl
    simp [Function.comp_def]
  · exact ownsRow_mono h5 (Nat.le_trans hB f3.size)
  · intro k h1 h2
    have := (h3.lt k h1).2
    have := (h5.lt k h2).1
    omega
  · exact Nat.le_trans hB (Nat.le_trans f3.size f5.size)

set_option maxHeartbeats 2000000 in
theorem del19 {B q : Nat} {w : World} {l : Files} {n : ByteArray} (h : IsRef B w q l) (hl : l.length ≤ 64) (hs : Srt l) :
    Calls Try.prog 19 #[.pointer (some ⟨q, 0, none⟩), .string n] w fun e w' => e = .returned (.bool (l.get n.data.toList).isSome) ∧ IsRef B w' q (l.del n.data.toList) ∧ Only (fun k => k = q) w w' := by
  have hR := h
  obtain ⟨v1, v2, hq, h1, h2, hne, hBq, hB⟩ := h
  have hlen : (l.map (·.1)).length = l.length := List.length_map _
  have hp := place28 (n := n) (ns := l.map (·.1)) hq (by rw [hlen]; exact h1) (by rw [hlen]; exact hl)
  clear hlen
  have HP := Lib.hid hp
  have HS := Lib.hid hs
  have HR := Lib.hid hR
  clear hp hs hR
  go_enter Try.func19, Try.ntmps19
  go_wp2_with fail
  refine HP.out.mono ?_
  rintro e w1 ⟨k, b, rfl, hpl, rfl⟩
  cases b with
  | false =>
    have hno := hpl.none HS.out
    have HNO := Lib.hid hno
    clear hno hpl
    go_wp2_with fail
    go_ret
    exact ⟨by rw [Files.get_none HNO.out]; rfl, by rw [Files.del_none HNO.out]; exact HR.out, Only.refl _ _⟩
  | true =>
    obtain ⟨t, ht⟩ := hpl.some
    have hk : k < l.length := (List.getElem?_eq_some_iff.1 ht).1
    have hdl := del_lists HS.out ht
    obtain ⟨l', hl'⟩ : ∃ l', l.del n.data.toList = l' := ⟨_, rfl⟩
    rw [hl'] at hdl
    have HL' := Lib.hid hl'
    clear hl'
    have hge := Files.get_of HS.out.nodup ht
    have hdn : l'.length = 0 + k + (l.length - (k + 1)) := by
      rw [hdl, List.length_append, List.length_take, List.length_drop]; omega
    have HDN := Lib.hid hdn
    have H1 := Lib.hid h1
    have H2 := Lib.hid h2
    have HQ := Lib.hid hq
    have HDL := Lib.hid hdl
    have HGE := Lib.hid hge
    obtain ⟨ao1, cap1, rfl, hc1, hd1, hat1⟩ := owned_shape h1
    obtain ⟨g1, _, rfl, _, _⟩ := hat1 k hk
    obtain ⟨ao2, cap2, rfl, hc2, hd2, hat2⟩ := owned_shape h2
    obtain ⟨g2, _, rfl, _, _⟩ := hat2 k hk
    have hk1 : (0 : Int) ≤ (k : Int) ∧ (k : Int) ≤ (cap1 : Int) := by omega
    have hk2 : (0 : Int) ≤ (k : Int) ∧ (k : Int) ≤ (cap2 : Int) := by omega
    have hk3 : (0 : Int) ≤ (k : Int) + 1 ∧ (k : Int) + 1 ≤ (l.length : Int) := by omega
    have hk4 : IntKind.i64.wrap ((k : Int) + 1) = (k : Int) + 1 := by
      simp [IntKind.wrap, IntKind.bits, IntKind.signed]
      omega
    have hq0 : w1.cell? ⟨q, 0, none⟩ = some (.slice (some ⟨g1, 0, none⟩) l.length cap1) := by
      rw [cell_of_row w1 q 0 _ _ _ hq]; rfl
    have hqlt : q < w1.heap.size := (Array.getElem?_eq_some_iff.1 hq).1
    have hpart := owned_part h1 (strV_one _)
    have hmm : (l.map (·.1)).map strV = l.map fun x => strV x.1 := by simp [Function.comp_def]
    rw [hmm] at hpart
    clear hmm
    have hpart2 := owned_part h2 (textV_one _)
    have HPA := Lib.hid hpart
    have HPB := Lib.hid hpart2
    clear hdn hat1 hat2 h1 h2 hq hpart hpart2 hdl hge hpl HP HR
    go_upto_region 5 with fail
    refine wp_region_snocN 19 (fun w' => w'.cell? ⟨q, 0, none⟩ = some (.slice (some ⟨g1, 0, none⟩) l.length cap1) ∧ Below w1.heap.size w1 w') (by kernel_rfl) rfl (by kernel_rfl) ?_ (fun z hz hH => ?_)
    · exact ⟨hq0, (Below.refl _ _).drew⟩
    simp only [List.drop_succ_cons, List.drop_zero, List.cons.injEq, and_true] at hz
    subst hz
    simp only [List.take_succ_cons, List.take_zero]
    refine takeH (i := 0) (d := 16) (v := ?_) rfl rfl (by kernel_rfl) (by kernel_rfl) (by kernel_rfl) (fun _ _ _ h => h) (by assumption) rfl ?_ ?_
    rotate_left
    · (intro w hSw; (try dsimp only at hSw); go_simp; (try with_reducible rfl))
    simp only [putD, List.setIfInBounds_toArray, List.set_cons_zero, List.set_cons_succ]
    refine takeH (i := 2) (d := 18) (v := ?_) rfl rfl (by kernel_rfl) (by kernel_rfl) (by kernel_rfl) (fun _ _ _ h => h) (by assumption) rfl ?_ ?_
    rotate_left
    · (intro w hSw; (try dsimp only at hSw); go_simp; (try with_reducible rfl))
    simp only [putD, List.setIfInBounds_toArray, List.set_cons_zero, List.set_cons_succ]
    refine takeH (i := 3) (d := 19) (v := ?_) rfl rfl (by kernel_rfl) (by kernel_rfl) (by kernel_rfl) (fun _ _ _ h => h) (by assumption) rfl ?_ ?_
    rotate_left
    · (intro w hSw; (try dsimp only at hSw); go_simp; (try with_reducible rfl))
    simp only [putD, List.setIfInBounds_toArray, List.set_cons_zero, List.set_cons_succ]
    refine takeH (i := 4) (d := 20) (v := ?_) rfl rfl (by kernel_rfl) (by kernel_rfl) (by kernel_rfl) (fun _ _ _ h => h) (by assumption) rfl ?_ ?_
    rotate_left
    · (intro w hSw; (try dsimp only at hSw); go_simp; (try with_reducible rfl))
    simp only [putD, List.setIfInBounds_toArray, List.set_cons_zero, List.set_cons_succ]
    refine takeH (i := 5) (d := 21) (v := ?_) rfl rfl (by kernel_rfl) (by kernel_rfl) (by kernel_rfl) (fun _ _ _ h => h) (by assumption) rfl ?_ ?_
    rotate_left
    · (intro w hSw; (try dsimp only at hSw); go_simp; (try with_reducible rfl))
    simp only [putD, List.setIfInBounds_toArray, List.set_cons_zero, List.set_cons_succ]
    refine takeH (i := 6) (d := 22) (v := ?_) rfl rfl (by kernel_rfl) (by kernel_rfl) (by kernel_rfl) (fun _ _ _ h => h) (by assumption) rfl ?_ ?_
    rotate_left
    · (intro w hSw; (try dsimp only at hSw); go_simp; (try with_reducible rfl))
    simp only [putD, List.setIfInBounds_toArray, List.set_cons_zero, List.set_cons_succ]
    refine takeH (i := 7) (d := 23) (v := ?_) rfl rfl (by kernel_rfl) (by kernel_rfl) (by kernel_rfl) (fun _ _ _ h => h) (by assumption) rfl ?_ ?_
    rotate_left
    · (intro w hSw; (try dsimp only at hSw); go_simp; (try with_reducible rfl))
    simp only [putD, List.setIfInBounds_toArray, List.set_cons_zero, List.set_cons_succ]
    refine takeH (i := 9) (d := 25) (v := ?_) rfl rfl (by kernel_rfl) (by kernel_rfl) (by kernel_rfl) (fun _ _ _ h => h) (by assumption) rfl ?_ ?_
    rotate_left
    · (intro w hSw; (try dsimp only at hSw); go_simp; (try with_reducible rfl))
    simp only [putD, List.setIfInBounds_toArray, List.set_cons_zero, List.set_cons_succ]
    refine takeH (i := 10) (d := 26) (v := ?_) rfl rfl (by kernel_rfl) (by kernel_rfl) (by kernel_rfl) (fun _ _ _ h => h) (by assumption) rfl ?_ ?_
    rotate_left
    · (intro w hSw; (try dsimp only at hSw); go_simp; (try with_reducible rfl))
    simp only [putD, List.setIfInBounds_toArray, List.set_cons_zero, List.set_cons_succ]
    refine takeH (i := 11) (d := 27) (v := ?_) rfl rfl (by kernel_rfl) (by kernel_rfl) (by kernel_rfl) (fun _ _ _ h => h) (by assumption) rfl ?_ ?_
    rotate_left
    · (intro w hSw; (try dsimp only at hSw); go_simp; (try with_reducible rfl))
    simp only [putD, List.setIfInBounds_toArray, List.set_cons_zero, List.set_cons_succ]
    refine takeH (i := 12) (d := 28) (v := ?_) rfl rfl (by kernel_rfl) (by kernel_rfl) (by kernel_rfl) (fun _ _ _ h => h) (by assumption) rfl ?_ ?_
    rotate_left
    · (intro w hSw; (try dsimp only at hSw); go_simp; (try with_reducible rfl))
    simp only [putD, List.setIfInBounds_toArray, List.set_cons_zero, List.set_cons_succ]
    refine takeH (i := 13) (d := 29) (v := ?_) rfl rfl (by kernel_rfl) (by kernel_rfl) (by kernel_rfl) (fun _ _ _ h => h) (by assumption) rfl ?_ ?_
    rotate_left
    · (intro w hSw; (try dsimp only at hSw); go_simp; (try with_reducible rfl))
    simp only [putD, List.setIfInBounds_toArray, List.set_cons_zero, List.set_cons_succ]
    refine takeH (i := 14) (d := 30) (v := ?_) rfl rfl (by kernel_rfl) (by kernel_rfl) (by kernel_rfl) (fun _ _ _ h => h) (by assumption) rfl ?_ ?_
    rotate_left
    · (intro w hSw; (try dsimp only at hSw); go_simp; (try with_reducible rfl))
    simp only [putD, List.setIfInBounds_toArray, List.set_cons_zero, List.set_cons_succ]
    refine takeH (i := 15) (d := 31) (v := ?_) rfl rfl (by kernel_rfl) (by kernel_rfl) (by kernel_rfl) (fun _ _ _ h => h) (by assumption) rfl ?_ ?_
    rotate_left
    · (intro w hSw; (try dsimp only at hSw); go_simp; (try with_reducible rfl))
    simp only [putD, List.setIfInBounds_toArray, List.set_cons_zero, List.set_cons_succ]
    have hPD : ∀ w', Part w' (some ⟨g1, 0, none⟩) (l.map fun x => strV x.1) → Part w' (if cap1 = k + 1 then some ⟨g1, 0, none⟩ else some ⟨g1, k + 1, none⟩) ((l.map fun x => strV x.1).drop (k + 1)) := fun w' h => part_drop h (by simp; omega)
    revert hPD
    generalize (if cap1 = k + 1 then some (⟨g1, 0, none⟩ : Addr) else some ⟨g1, k + 1, none⟩) = aoD
    intro hPD
    refine ready1 (i := 1) (by kernel_rfl) (opNew (d := 17) rfl rfl rfl rfl ⟨held_alloc hH, ?_⟩)
    have hS1 := held_alloc (o := .cells #[] 9) hH
    have hP1 := HPA.out.below hS1.2
    have hO1 := made0 (B := w1.heap.size) w1.drew (Nat.le_refl _)
    simp only [putD, List.setIfInBounds_toArray, List.set_cons_zero, List.set_cons_succ]
    refine ready1 (i := 8) (by kernel_rfl) (opAppend (d := 24) (.tmp 17) (.tmp 23) rfl rfl rfl rfl rfl rfl hO1 (by simp; omega) (part_take hP1 k) (by omega) hS1.2.size ?_)
    intro v' W2 hO2 hG2 _
    have hS2 := held_grow hS1 hG2 (fun k e => (hO1.lt k e).1) hqlt
    have hP2 := HPA.out.below hS2.2
    refine ⟨hS2, ?_⟩
    clear hS1 hP1 hG2 hO1 hH
    simp only [putD, List.setIfInBounds_toArray, List.set_cons_zero, List.set_cons_succ]
    refine ready1 (i := 16) (by kernel_rfl) (opAppend (d := 32) (.tmp 24) (.tmp 31) rfl rfl rfl rfl rfl rfl hO2 (by simp) (hPD _ hP2) (by omega) hS2.2.size ?_)
    intro v3 W3 hO3 hG3 _
    have hS3 := held_grow hS2 hG3 (fun k e => (hO2.lt k e).1) hqlt
    refine ⟨hS3, ?_⟩
    clear hS2 hP2 hG3 hO2
    simp only [putD, List.setIfInBounds_toArray, List.set_cons_zero, List.set_cons_succ]
    refine takeH (i := 17) (d := 33) (v := ?_) rfl rfl (by kernel_rfl) (by kernel_rfl) (by kernel_rfl) (fun _ _ _ h => h) (by assumption) rfl ?_ ?_
    rotate_left
    · (intro w hSw; (try dsimp only at hSw); go_simp; (try with_reducible rfl))
    simp only [putD, List.setIfInBounds_toArray, List.set_cons_zero, List.set_cons_succ]
    refine takeH (i := 18) (d := 34) (v := ?_) rfl rfl (by kernel_rfl) (by kernel_rfl) (by kernel_rfl) (fun _ _ _ h => h) (by assumption) rfl ?_ ?_
    rotate_left
    · (intro w hSw; (try dsimp only at hSw); go_simp; (try with_reducible rfl))
    simp only [putD, List.setIfInBounds_toArray, List.set_cons_zero, List.set_cons_succ]
    refine ⟨by kernel_rfl, ?_⟩
    have hO4 := owned_list hO3 (ys := l'.map fun x => strV x.1) (by rw [HDL.out]; simp [List.map_take, List.map_drop, Function.comp_def]) l'.length HDN.out.symm
    obtain ⟨ao3, cap3, rfl, _, _, _⟩ := owned_shape hO4
    have hO3 := hO4
    clear hO4
    have F := store_ref (f := 0) HQ.out hS3.2 hO3
    have hfz : W3.frozen? ⟨q, 0, none⟩ = false := by rw [hS3.2.frozen hqlt]; exact frozen_of_row _ _ _ _ _ HQ.out
    clear hO3
    simp only [LastQ]
    go_simp
    clear hS3 hfz
    revert F
    generalize W3.setCell _ _ = W4
    rintro ⟨f1, f2, f3⟩
    rename_i ao3 cap3 _ _ _ _ _ _
    have H3 := Lib.hid f2
    simp only [List.setIfInBounds_toArray, List.set_cons_zero] at f1
    have HQ4 := Lib.hid f1
    have H4 := Lib.hid (owned_only H2.out f3 (owned_ne H2.out HQ.out (by simp)))
    have HPC := Lib.hid (owned_part H4.out (textV_one _))
    have hq4 : W4.cell? ⟨q, 1, none⟩ = some (.slice (some ⟨g2, 0, none⟩) l.length cap2) := by
      rw [cell_of_row W4 q 1 _ _ _ f1]; rfl
    have hqlt4 : q < W4.heap.size := (Array.getElem?_eq_some_iff.1 f1).1
    have F3 := Lib.hid f3
    clear f1 f2 f3 hq0 hqlt HPA HPB H1 H2 HQ
    go_upto_region 6 with fail
    refine wp_region_snocN 19 (fun w' => w'.cell? ⟨q, 1, none⟩ = some (.slice (some ⟨g2, 0, none⟩) l.length cap2) ∧ Below W4.heap.size W4 w') (by kernel_rfl) rfl (by kernel_rfl) ?_ (fun z hz hH => ?_)
    · exact ⟨hq4, (Below.refl _ _).drew⟩
    simp only [List.drop_succ_cons, List.drop_zero, List.cons.injEq, and_true] at hz
    subst hz
    simp only [List.take_succ_cons, List.take_zero]
    refine takeH (i := 0) (d := 35) (v := ?_) rfl rfl (by kernel_rfl) (by kernel_rfl) (by kernel_rfl) (fun _ _ _ h => h) (by assumption) rfl ?_ ?_
    rotate_left
    · (intro w hSw; (try dsimp only at hSw); go_simp; (try with_reducible rfl))
    simp only [putD, List.setIfInBounds_toArray, List.set_cons_zero, List.set_cons_succ]
    refine takeH (i := 2) (d := 37) (v := ?_) rfl rfl (by kernel_rfl) (by kernel_rfl) (by kernel_rfl) (fun _ _ _ h => h) (by assumption) rfl ?_ ?_
    rotate_left
    · (intro w hSw; (try dsimp only at hSw); go_simp; (try with_reducible rfl))
    simp only [putD, List.setIfInBounds_toArray, List.set_cons_zero, List.set_cons_succ]
    refine takeH (i := 3) (d := 38) (v := ?_) rfl rfl (by kernel_rfl) (by kernel_rfl) (by kernel_rfl) (fun _ _ _ h => h) (by assumption) rfl ?_ ?_
    rotate_left
    · (intro w hSw; (try dsimp only at hSw); go_simp; (try with_reducible rfl))
    simp only [putD, List.setIfInBounds_toArray, List.set_cons_zero, List.set_cons_succ]
    refine takeH (i := 4) (d := 39) (v := ?_) rfl rfl (by kernel_rfl) (by kernel_rfl) (by kernel_rfl) (fun _ _ _ h => h) (by assumption) rfl ?_ ?_
    rotate_left
    · (intro w hSw; (try dsimp only at hSw); go_simp; (try with_reducible rfl))
    simp only [putD, List.setIfInBounds_toArray, List.set_cons_zero, List.set_cons_succ]
    refine takeH (i := 5) (d := 40) (v := ?_) rfl rfl (by kernel_rfl) (by kernel_rfl) (by kernel_rfl) (fun _ _ _ h => h) (by assumption) rfl ?_ ?_
    rotate_left
    · (intro w hSw; (try dsimp only at hSw); go_simp; (try with_reducible rfl))
    simp only [putD, List.setIfInBounds_toArray, List.set_cons_zero, List.set_cons_succ]
    refine takeH (i := 6) (d := 41) (v := ?_) rfl rfl (by kernel_rfl) (by kernel_rfl) (by kernel_rfl) (fun _ _ _ h => h) (by assumption) rfl ?_ ?_
    rotate_left
    · (intro w hSw; (try dsimp only at hSw); go_simp; (try with_reducible rfl))
    simp only [putD, List.setIfInBounds_toArray, List.set_cons_zero, List.set_cons_succ]
    refine takeH (i := 7) (d := 42) (v := ?_) rfl rfl (by kernel_rfl) (by kernel_rfl) (by kernel_rfl) (fun _ _ _ h => h) (by assumption) rfl ?_ ?_
    rotate_left
    · (intro w hSw; (try dsimp only at hSw); go_simp; (try with_reducible rfl))
    simp only [putD, List.setIfInBounds_toArray, List.set_cons_zero, List.set_cons_succ]
    refine takeH (i := 9) (d := 44) (v := ?_) rfl rfl (by kernel_rfl) (by kernel_rfl) (by kernel_rfl) (fun _ _ _ h => h) (by assumption) rfl ?_ ?_
    rotate_left
    · (intro w hSw; (try dsimp only at hSw); go_simp; (try with_reducible rfl))
    simp only [putD, List.setIfInBounds_toArray, List.set_cons_zero, List.set_cons_succ]
    refine takeH (i := 10) (d := 45) (v := ?_) rfl rfl (by kernel_rfl) (by kernel_rfl) (by kernel_rfl) (fun _ _ _ h => h) (by assumption) rfl ?_ ?_
    rotate_left
    · (intro w hSw; (try dsimp only at hSw); go_simp; (try with_reducible rfl))
    simp only [putD, List.setIfInBounds_toArray, List.set_cons_zero, List.set_cons_succ]
    refine takeH (i := 11) (d := 46) (v := ?_) rfl rfl (by kernel_rfl) (by kernel_rfl) (by kernel_rfl) (fun _ _ _ h => h) (by assumption) rfl ?_ ?_
    rotate_left
    · (intro w hSw; (try dsimp only at hSw); go_simp; (try with_reducible rfl))
    simp only [putD, List.setIfInBounds_toArray, List.set_cons_zero, List.set_cons_succ]
    refine takeH (i := 12) (d := 47) (v := ?_) rfl rfl (by kernel_rfl) (by kernel_rfl) (by kernel_rfl) (fun _ _ _ h => h) (by assumption) rfl ?_ ?_
    rotate_left
    · (intro w hSw; (try dsimp only at hSw); go_simp; (try with_reducible rfl))
    simp only [putD, List.setIfInBounds_toArray, List.set_cons_zero, List.set_cons_succ]
    refine takeH (i := 13) (d := 48) (v := ?_) rfl rfl (by kernel_rfl) (by kernel_rfl) (by kernel_rfl) (fun _ _ _ h => h) (by assumption) rfl ?_ ?_
    rotate_left
    · (intro w hSw; (try dsimp only at hSw); go_simp; (try with_reducible rfl))
    simp only [putD, List.setIfInBounds_toArray, List.set_cons_zero, List.set_cons_succ]
    refine takeH (i := 14) (d := 49) (v := ?_) rfl rfl (by kernel_rfl) (by kernel_rfl) (by kernel_rfl) (fun _ _ _ h => h) (by assumption) rfl ?_ ?_
    rotate_left
    · (intro w hSw; (try dsimp only at hSw); go_simp; (try with_reducible rfl))
    simp only [putD, List.setIfInBounds_toArray, List.set_cons_zero, List.set_cons_succ]
    refine takeH (i := 15) (d := 50) (v := ?_) rfl rfl (by kernel_rfl) (by kernel_rfl) (by kernel_rfl) (fun _ _ _ h => h) (by assumption) rfl ?_ ?_
    rotate_left
    · (intro w hSw; (try dsimp only at hSw); go_simp; (try with_reducible rfl))
    simp only [putD, List.setIfInBounds_toArray, List.set_cons_zero, List.set_cons_succ]
    have hPD : ∀ w', Part w' (some ⟨g2, 0, none⟩) (l.map fun x => Value.string x.2) → Part w' (if cap2 = k + 1 then some ⟨g2, 0, none⟩ else some ⟨g2, k + 1, none⟩) ((l.map fun x => Value.string x.2).drop (k + 1)) := fun w' h => part_drop h (by simp; omega)
    revert hPD
    generalize (if cap2 = k + 1 then some (⟨g2, 0, none⟩ : Addr) else some ⟨g2, k + 1, none⟩) = aoD
    intro hPD
    refine ready1 (i := 1) (by kernel_rfl) (opNew (d := 36) rfl rfl rfl rfl ⟨held_alloc hH, ?_⟩)
    have hS1 := held_alloc (o := .cells #[] 9) hH
    have hP1 := HPC.out.below hS1.2
    have hO1 := made0 (B := W4.heap.size) W4.drew (Nat.le_refl _)
    simp only [putD, List.setIfInBounds_toArray, List.set_cons_zero, List.set_cons_succ]
    refine ready1 (i := 8) (by kernel_rfl) (opAppend (d := 43) (.tmp 36) (.tmp 42) rfl rfl rfl rfl rfl rfl hO1 (by simp; omega) (part_take hP1 k) (by omega) hS1.2.size ?_)
    intro v' W2 hO2 hG2 _
    have hS2 := held_grow hS1 hG2 (fun k e => (hO1.lt k e).1) hqlt4
    have hP2 := HPC.out.below hS2.2
    refine ⟨hS2, ?_⟩
    clear hS1 hP1 hG2 hO1 hH
    simp only [putD, List.setIfInBounds_toArray, List.set_cons_zero, List.set_cons_succ]
    refine ready1 (i := 16) (by kernel_rfl) (opAppend (d := 51) (.tmp 43) (.tmp 50) rfl rfl rfl rfl rfl rfl hO2 (by simp) (hPD _ hP2) (by omega) hS2.2.size ?_)
    intro v3 W3 hO3 hG3 _
    have hS3 := held_grow hS2 hG3 (fun k e => (hO2.lt k e).1) hqlt4
    refine ⟨hS3, ?_⟩
    clear hS2 hP2 hG3 hO2
    simp only [putD, List.setIfInBounds_toArray, List.set_cons_zero, List.set_cons_succ]
    refine takeH (i := 17) (d := 52) (v := ?_) rfl rfl (by kernel_rfl) (by kernel_rfl) (by kernel_rfl) (fun _ _ _ h => h) (by assumption) rfl ?_ ?_
    rotate_left
    · (intro w hSw; (try dsimp only at hSw); go_simp; (try with_reducible rfl))
    simp only [putD, List.setIfInBounds_toArray, List.set_cons_zero, List.set_cons_succ]
    refine takeH (i := 18) (d := 53) (v := ?_) rfl rfl (by kernel_rfl) (by kernel_rfl) (by kernel_rfl) (fun _ _ _ h => h) (by assumption) rfl ?_ ?_
    rotate_left
    · (intro w hSw; (try dsimp only at hSw); go_simp; (try with_reducible rfl))
    simp only [putD, List.setIfInBounds_toArray, List.set_cons_zero, List.set_cons_succ]
    refine ⟨by kernel_rfl, ?_⟩
    have hO4 := owned_list hO3 (ys := l'.map fun x => Value.string x.2) (by rw [HDL.out]; simp [List.map_take, List.map_drop, Function.comp_def]) l'.length HDN.out.symm
    obtain ⟨ao3, cap3, rfl, _, _, _⟩ := owned_shape hO4
    have hO3 := hO4
    clear hO4
    have F := store_ref (f := 1) HQ4.out hS3.2 hO3
    have hfz : W3.frozen? ⟨q, 1, none⟩ = false := by rw [hS3.2.frozen hqlt4]; exact frozen_of_row _ _ _ _ _ HQ4.out
    clear hO3
    simp only [LastQ]
    go_simp
    clear hS3 hfz
    revert F
    generalize W3.setCell _ _ = W5
    rintro ⟨f1, f2, f3⟩
    have F3' := Lib.hid f3
    have H5 := Lib.hid f2
    simp only [List.setIfInBounds_toArray, List.set_cons_zero, List.set_cons_succ] at f1
    have HQ5 := Lib.hid f1
    clear f1 f2 f3 hq4
    go_wp2_with fail
    go_ret
    have D := ref_done hB hBq HQ4.out HQ5.out H3.out H5.out F3.out F3'.out
    rw [HL'.out]
    exact ⟨by rw [show l.get n.data.toList = some t from HGE.out]; rfl, D⟩
end Go.Proofs.Ytglichmmoibagaa
