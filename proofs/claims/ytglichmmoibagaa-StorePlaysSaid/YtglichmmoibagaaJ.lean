/- The reference store's Fork, and Texts. -/
import Derived.Test.YtglichmmoibagaaI
namespace Go.Proofs.Ytglichmmoibagaa
open Go.RowKit
set_option linter.unusedVariables false

theorem held2_alloc {W0 w : World} {ad bd : Addr} {v u : Value} {o : Obj} (h : w.cell? ad = some v ∧ w.cell? bd = some u ∧ Below W0.heap.size W0 w) : (w.alloc o).cell? ad = some v ∧ (w.alloc o).cell? bd = some u ∧ Below W0.heap.size W0 (w.alloc o) :=
  ⟨(held_alloc ⟨h.1, h.2.2⟩).1, held_alloc ⟨h.2.1, h.2.2⟩⟩

theorem held2_grow {W0 w w' : World} {ad bd : Addr} {v u : Value} {row : Option Nat} (h : w.cell? ad = some v ∧ w.cell? bd = some u ∧ Below W0.heap.size W0 w) (hg : w.grownBy w' row) (hr : ∀ k, row = some k → W0.heap.size ≤ k) (ha : ad.block < W0.heap.size) (hb : bd.block < W0.heap.size) :
    w'.cell? ad = some v ∧ w'.cell? bd = some u ∧ Below W0.heap.size W0 w' :=
  ⟨(held_grow ⟨h.1, h.2.2⟩ hg hr ha).1, held_grow ⟨h.2.1, h.2.2⟩ hg hr hb⟩

/-- Two slices of the call's own, apart. -/
structure Pair (B : Nat) (w : World) (va : Value) (na : Nat) (xa : List Value) (vb : Value) (nb : Nat) (xb : List Value) : Prop where
  a : w.ownsRow B 9 1 va na xa
  b : w.ownsRow B 9 1 vb nb xb
  ne : ∀ k, va.ownBlock = some k → vb.ownBlock ≠ some k

theorem Pair.symm {B : Nat} {w : World} {va vb : Value} {na nb : Nat} {xa xb : List Value} (h : Pair B w va na xa vb nb xb) : Pair B w vb nb xb va na xa := ⟨h.b, h.a, fun k h1 h2 => h.ne k h2 h1⟩

theorem Pair.alloc {B : Nat} {w : World} {va vb : Value} {na nb : Nat} {xa xb : List Value} (h : Pair B w va na xa vb nb xb) (o : Obj) : Pair B (w.alloc o) va na xa vb nb xb := ⟨h.a.alloc o, h.b.alloc o, h.ne⟩

theorem Pair.new {B : Nat} {w : World} {va : Value} {na : Nat} {xa : List Value} (h : w.ownsRow B 9 1 va na xa) (hB : B ≤ w.heap.size) : Pair B (w.alloc (.cells #[] 9)) va na xa (.slice (some ⟨w.heap.size, 0, none⟩) 0 0) 0 [] :=
  ⟨h.alloc _, made0 w hB, fun k h1 h2 => by have := (h.lt k h1).2; have := Option.some.inj h2; simp at this; omega⟩

theorem Pair.step {B : Nat} {w w' : World} {va va' vb : Value} {na na' nb : Nat} {xa xa' xb : List Value} (h : Pair B w va na xa vb nb xb) (ho : w'.ownsRow B 9 1 va' na' xa') (hg : w.grownBy w' va.ownBlock)
    (hat : va'.ownBlock = va.ownBlock ∨ va'.ownBlock = some w.heap.size) : Pair B w' va' na' xa' vb nb xb := by
  refine ⟨ho, h.b.kept hg ?_, fun k h1 h2 => ?_⟩
  · cases hb : vb.ownBlock with
    | none => exact .inl rfl
    | some k => exact .inr (fun e => h.ne k e.symm hb)
  · rcases hat with e | e
    · exact h.ne k (e ▸ h1) h2
    · rw [e] at h1
      cases h1
      have := (h.b.lt _ h2).2
      omega

theorem fork_ref {w W : World} {l : Files} {va vb : Value} (h : Pair w.heap.size W va (0 + l.length) ([] ++ (l.map (·.1)).map strV) vb (0 + l.length) ([] ++ l.map fun x => Value.string x.2)) (hb : Below w.heap.size w W) :
    IsRef w.heap.size (W.alloc (.cells #[va, vb] 39)) W.heap.size l := by
  refine ⟨va, vb, heap_alloc_new _ _, ?_, ?_, h.ne, hb.size, by have := hb.size; simp; omega⟩
  · exact owned_list (h.a.alloc _) (by simp) _ (by simp)
  · exact owned_list (h.b.alloc _) (by simp) _ (by simp)

set_option maxHeartbeats 2000000 in
theorem fork22 {B q : Nat} {w : World} {l : Files} (h : IsRef B w q l) (hl : l.length ≤ 64) :
    Calls Try.prog 22 #[.pointer (some ⟨q, 0, none⟩)] w fun e w' => ∃ x, e = .returned (.pointer (some ⟨x, 0, none⟩)) ∧ IsRef w.heap.size w' x l ∧ Below w.heap.size w w' := by
  obtain ⟨v1, v2, hq, h1, h2, hne, hBq, hB⟩ := h
  have H1 := Lib.hid h1
  have H2 := Lib.hid h2
  obtain ⟨ao1, cap1, rfl, hc1, hd1, _⟩ := owned_shape h1
  obtain ⟨ao2, cap2, rfl, hc2, hd2, _⟩ := owned_shape h2
  have hq0 : w.cell? ⟨q, 0, none⟩ = some (.slice ao1 l.length cap1) := by
    rw [cell_of_row w q 0 _ _ _ hq]; rfl
  have hq1 : w.cell? ⟨q, 1, none⟩ = some (.slice ao2 l.length cap2) := by
    rw [cell_of_row w q 1 _ _ _ hq]; rfl
  have hqlt : q < w.heap.size := (Array.getElem?_eq_some_iff.1 hq).1
  have HPA := Lib.hid (owned_part h1 (strV_one _))
  have HPB := Lib.hid (owned_part h2 (textV_one _))
  clear h1 h2 hq hne
  go_enter Try.func22, Try.ntmps22
  go_upto_region 3 with fail
  refine wp_region_held_drew (S := fun w' => w'.cell? ⟨q, 0, none⟩ = some (.slice ao1 l.length cap1) ∧ w'.cell? ⟨q, 1, none⟩ = some (.slice ao2 l.length cap2) ∧ Below w.heap.size w w') (by kernel_rfl) ⟨hq0, hq1, (Below.refl _ _).drew⟩ (fun hH => ?_)
  change wpAnyH _ _ _ _ _ 15 (Array.replicate 15 false) _ _
  refine takeH (i := 1) (d := 6) (v := ?_) rfl rfl (by kernel_rfl) (by kernel_rfl) (by kernel_rfl) (fun _ _ _ h => h) (by assumption) rfl ?_ ?_
  rotate_left
  · (intro w hSw; (try dsimp only at hSw); go_simp; (try with_reducible rfl))
  simp only [putD, List.setIfInBounds_toArray, List.set_cons_zero, List.set_cons_succ]
  refine takeH (i := 2) (d := 7) (v := ?_) rfl rfl (by kernel_rfl) (by kernel_rfl) (by kernel_rfl) (fun _ _ _ h => h) (by assumption) rfl ?_ ?_
  rotate_left
  · (intro w hSw; (try dsimp only at hSw); go_simp; (try with_reducible rfl))
  simp only [putD, List.setIfInBounds_toArray, List.set_cons_zero, List.set_cons_succ]
  refine takeH (i := 3) (d := 8) (v := ?_) rfl rfl (by kernel_rfl) (by kernel_rfl) (by kernel_rfl) (fun _ _ _ h => h) (by assumption) rfl ?_ ?_
  rotate_left
  · (intro w hSw; (try dsimp only at hSw); go_simp; (try with_reducible rfl))
  simp only [putD, List.setIfInBounds_toArray, List.set_cons_zero, List.set_cons_succ]
  refine takeH (i := 4) (d := 9) (v := ?_) rfl rfl (by kernel_rfl) (by kernel_rfl) (by kernel_rfl) (fun _ _ _ h => h) (by assumption) rfl ?_ ?_
  rotate_left
  · (intro w hSw; (try dsimp only at hSw); go_simp; (try with_reducible rfl))
  simp only [putD, List.setIfInBounds_toArray, List.set_cons_zero, List.set_cons_succ]
  refine takeH (i := 7) (d := 12) (v := ?_) rfl rfl (by kernel_rfl) (by kernel_rfl) (by kernel_rfl) (fun _ _ _ h => h) (by assumption) rfl ?_ ?_
  rotate_left
  · (intro w hSw; (try dsimp only at hSw); go_simp; (try with_reducible rfl))
  simp only [putD, List.setIfInBounds_toArray, List.set_cons_zero, List.set_cons_succ]
  refine takeH (i := 8) (d := 13) (v := ?_) rfl rfl (by kernel_rfl) (by kernel_rfl) (by kernel_rfl) (fun _ _ _ h => h) (by assumption) rfl ?_ ?_
  rotate_left
  · (intro w hSw; (try dsimp only at hSw); go_simp; (try with_reducible rfl))
  simp only [putD, List.setIfInBounds_toArray, List.set_cons_zero, List.set_cons_succ]
  refine takeH (i := 9) (d := 14) (v := ?_) rfl rfl (by kernel_rfl) (by kernel_rfl) (by kernel_rfl) (fun _ _ _ h => h) (by assumption) rfl ?_ ?_
  rotate_left
  · (intro w hSw; (try dsimp only at hSw); go_simp; (try with_reducible rfl))
  simp only [putD, List.setIfInBounds_toArray, List.set_cons_zero, List.set_cons_succ]
  refine takeH (i := 10) (d := 15) (v := ?_) rfl rfl (by kernel_rfl) (by kernel_rfl) (by kernel_rfl) (fun _ _ _ h => h) (by assumption) rfl ?_ ?_
  rotate_left
  · (intro w hSw; (try dsimp only at hSw); go_simp; (try with_reducible rfl))
  simp only [putD, List.setIfInBounds_toArray, List.set_cons_zero, List.set_cons_succ]
  refine ready2 (i := 0) (j := 6) (by kernel_rfl) (opNew (d := 5) rfl rfl rfl rfl ⟨held2_alloc hH, ?_⟩) (opNew (d := 11) rfl rfl rfl rfl ⟨held2_alloc hH, ?_⟩)
  · have hS10 := held2_alloc (o := .cells #[] 9) hH
    have hO1 := made0 (B := w.heap.size) w.drew hH.2.2.size
    simp only [putD, List.setIfInBounds_toArray, List.set_cons_zero, List.set_cons_succ]
    refine ready2 (i := 5) (j := 6) (by kernel_rfl) (opAppend (d := 10) (.tmp 5) (.tmp 9) rfl rfl rfl rfl rfl rfl hO1 (by simp) (HPA.out.below hS10.2.2) (by omega) hS10.2.2.size ?_) (opNew (d := 11) rfl rfl rfl rfl ⟨held2_alloc hS10, ?_⟩)
    · intro va2 W2 hO2 hG2 hat2
      have hS20 := held2_grow hS10 hG2 (fun k e => (hO1.lt k e).1) hqlt hqlt
      refine ⟨hS20, ?_⟩
      simp only [putD, List.setIfInBounds_toArray, List.set_cons_zero, List.set_cons_succ]
      refine ready1 (i := 6) (by kernel_rfl) (opNew (d := 11) rfl rfl rfl rfl ⟨held2_alloc hS20, ?_⟩)
      have hS30 := held2_alloc (o := .cells #[] 9) hS20
      have hP3 := Pair.new hO2 hS20.2.2.size
      simp only [putD, List.setIfInBounds_toArray, List.set_cons_zero, List.set_cons_succ]
      refine ready1 (i := 11) (by kernel_rfl) (opAppend (d := 16) (.tmp 11) (.tmp 15) rfl rfl rfl rfl rfl rfl hP3.b (by simp) (HPB.out.below hS30.2.2) (by omega) hS30.2.2.size ?_)
      intro va4 W4 hO4 hG4 hat4
      have hS40 := held2_grow hS30 hG4 (fun k e => (hP3.b.lt k e).1) hqlt hqlt
      refine ⟨hS40, ?_⟩
      have hP4 := (hP3.symm.step hO4 hG4 hat4).symm
      simp only [putD, List.setIfInBounds_toArray, List.set_cons_zero, List.set_cons_succ]
      have hPP := hP4
      have hSS := hS40
      obtain ⟨aoA, capA, rfl, _, _, _⟩ := owned_shape hPP.a
      obtain ⟨aoB, capB, rfl, _, _, _⟩ := owned_shape hPP.b
      refine takeH (i := 12) (d := 17) (v := ?_) rfl rfl (by kernel_rfl) (by kernel_rfl) (by kernel_rfl) (fun _ _ _ h => h) (by assumption) rfl ?_ ?_
      rotate_left
      · (intro w hSw; (try dsimp only at hSw); go_simp; (try with_reducible rfl))
      simp only [putD, List.setIfInBounds_toArray, List.set_cons_zero, List.set_cons_succ]
      have hS8 := held2_alloc (o := .cells #[.slice aoA (0 + l.length) capA, .slice aoB (0 + l.length) capB] 39) hSS
      refine ready1 (i := 13) (by kernel_rfl) (op_wp (d := 18) rfl rfl rfl (by go_simp; rfl) ⟨hS8, ?_⟩)
      simp only [putD, List.setIfInBounds_toArray, List.set_cons_zero, List.set_cons_succ]
      refine takeH (i := 14) (d := 2) (v := ?_) rfl rfl (by kernel_rfl) (by kernel_rfl) (by kernel_rfl) (fun _ _ _ h => h) (by assumption) rfl ?_ ?_
      rotate_left
      · (intro w hSw; (try dsimp only at hSw); go_simp; (try with_reducible rfl))
      simp only [putD, List.setIfInBounds_toArray, List.set_cons_zero, List.set_cons_succ]
      refine ⟨by kernel_rfl, ?_⟩
      have D := fork_ref hPP hSS.2.2
      have HD := Lib.hid D
      have HS8 := Lib.hid hS8
      clear D hS8 hPP hSS hH
      go_wp2_with fail
      go_ret
      exact ⟨_, rfl, HD.out, HS8.out.2.2⟩
    · have hS50 := held2_alloc (o := .cells #[] 9) hS10
      have hP5 := Pair.new hO1 hS10.2.2.size
      simp only [putD, List.setIfInBounds_toArray, List.set_cons_zero, List.set_cons_succ]
      refine ready1 (i := 5) (by kernel_rfl) (opAppend (d := 10) (.tmp 5) (.tmp 9) rfl rfl rfl rfl rfl rfl hP5.a (by simp) (HPA.out.below hS50.2.2) (by omega) hS50.2.2.size ?_)
      intro va6 W6 hO6 hG6 hat6
      have hS60 := held2_grow hS50 hG6 (fun k e => (hP5.a.lt k e).1) hqlt hqlt
      refine ⟨hS60, ?_⟩
      have hP6 := hP5.step hO6 hG6 hat6
      simp only [putD, List.setIfInBounds_toArray, List.set_cons_zero, List.set_cons_succ]
      refine ready1 (i := 11) (by kernel_rfl) (opAppend (d := 16) (.tmp 11) (.tmp 15) rfl rfl rfl rfl rfl rfl hP6.b (by simp) (HPB.out.below hS60.2.2) (by omega) hS60.2.2.size ?_)
      intro va7 W7 hO7 hG7 hat7
      have hS70 := held2_grow hS60 hG7 (fun k e => (hP6.b.lt k e).1) hqlt hqlt
      refine ⟨hS70, ?_⟩
      have hP7 := (hP6.symm.step hO7 hG7 hat7).symm
      simp only [putD, List.setIfInBounds_toArray, List.set_cons_zero, List.set_cons_succ]
      have hPP := hP7
      have hSS := hS70
      obtain ⟨aoA, capA, rfl, _, _, _⟩ := owned_shape hPP.a
      obtain ⟨aoB, capB, rfl, _, _, _⟩ := owned_shape hPP.b
      refine takeH (i := 12) (d := 17) (v := ?_) rfl rfl (by kernel_rfl) (by kernel_rfl) (by kernel_rfl) (fun _ _ _ h => h) (by assumption) rfl ?_ ?_
      rotate_left
      · (intro w hSw; (try dsimp only at hSw); go_simp; (try with_reducible rfl))
      simp only [putD, List.setIfInBounds_toArray, List.set_cons_zero, List.set_cons_succ]
      have hS8 := held2_alloc (o := .cells #[.slice aoA (0 + l.length) capA, .slice aoB (0 + l.length) capB] 39) hSS
      refine ready1 (i := 13) (by kernel_rfl) (op_wp (d := 18) rfl rfl rfl (by go_simp; rfl) ⟨hS8, ?_⟩)
      simp only [putD, List.setIfInBounds_toArray, List.set_cons_zero, List.set_cons_succ]
      refine takeH (i := 14) (d := 2) (v := ?_) rfl rfl (by kernel_rfl) (by kernel_rfl) (by kernel_rfl) (fun _ _ _ h => h) (by assumption) rfl ?_ ?_
      rotate_left
      · (intro w hSw; (try dsimp only at hSw); go_simp; (try with_reducible rfl))
      simp only [putD, List.setIfInBounds_toArray, List.set_cons_zero, List.set_cons_succ]
      refine ⟨by kernel_rfl, ?_⟩
      have D := fork_ref hPP hSS.2.2
      have HD := Lib.hid D
      have HS8 := Lib.hid hS8
      clear D hS8 hPP hSS hH
      go_wp2_with fail
      go_ret
      exact ⟨_, rfl, HD.out, HS8.out.2.2⟩
  · have hS80 := held2_alloc (o := .cells #[] 9) hH
    have hO8 := made0 (B := w.heap.size) w.drew hH.2.2.size
    simp only [putD, List.setIfInBounds_toArray, List.set_cons_zero, List.set_cons_succ]
    refine ready1 (i := 0) (by kernel_rfl) (opNew (d := 5) rfl rfl rfl rfl ⟨held2_alloc hS80, ?_⟩)
    have hS90 := held2_alloc (o := .cells #[] 9) hS80
    have hP9 := Pair.new hO8 hS80.2.2.size
    have hQ9 := hP9.symm
    simp only [putD, List.setIfInBounds_toArray, List.set_cons_zero, List.set_cons_succ]
    refine ready1 (i := 5) (by kernel_rfl) (opAppend (d := 10) (.tmp 5) (.tmp 9) rfl rfl rfl rfl rfl rfl hQ9.a (by simp) (HPA.out.below hS90.2.2) (by omega) hS90.2.2.size ?_)
    intro va10 W10 hO10 hG10 hat10
    have hS100 := held2_grow hS90 hG10 (fun k e => (hQ9.a.lt k e).1) hqlt hqlt
    refine ⟨hS100, ?_⟩
    have hP10 := hQ9.step hO10 hG10 hat10
    simp only [putD, List.setIfInBounds_toArray, List.set_cons_zero, List.set_cons_succ]
    refine ready1 (i := 11) (by kernel_rfl) (opAppend (d := 16) (.tmp 11) (.tmp 15) rfl rfl rfl rfl rfl rfl hP10.b (by simp) (HPB.out.below hS100.2.2) (by omega) hS100.2.2.size ?_)
    intro va11 W11 hO11 hG11 hat11
    have hS110 := held2_grow hS100 hG11 (fun k e => (hP10.b.lt k e).1) hqlt hqlt
    refine ⟨hS110, ?_⟩
    have hP11 := (hP10.symm.step hO11 hG11 hat11).symm
    simp only [putD, List.setIfInBounds_toArray, List.set_cons_zero, List.set_cons_succ]
    have hPP := hP11
    have hSS := hS110
    obtain ⟨aoA, capA, rfl, _, _, _⟩ := owned_shape hPP.a
    obtain ⟨aoB, capB, rfl, _, _, _⟩ := owned_shape hPP.b
    refine takeH (i := 12) (d := 17) (v := ?_) rfl rfl (by kernel_rfl) (by kernel_rfl) (by kernel_rfl) (fun _ _ _ h => h) (by assumption) rfl ?_ ?_
    rotate_left
    · (intro w hSw; (try dsimp only at hSw); go_simp; (try with_reducible rfl))
    simp only [putD, List.setIfInBounds_toArray, List.set_cons_zero, List.set_cons_succ]
    have hS8 := held2_alloc (o := .cells #[.slice aoA (0 + l.length) capA, .slice aoB (0 + l.length) capB] 39) hSS
    refine ready1 (i := 13) (by kernel_rfl) (op_wp (d := 18) rfl rfl rfl (by go_simp; rfl) ⟨hS8, ?_⟩)
    simp only [putD, List.setIfInBounds_toArray, List.set_cons_zero, List.set_cons_succ]
    refine takeH (i := 14) (d := 2) (v := ?_) rfl rfl (by kernel_rfl) (by kernel_rfl) (by kernel_rfl) (fun _ _ _ h => h) (by assumption) rfl ?_ ?_
    rotate_left
    · (intro w hSw; (try dsimp only at hSw); go_simp; (try with_reducible rfl))
    simp only [putD, List.setIfInBounds_toArray, List.set_cons_zero, List.set_cons_succ]
    refine ⟨by kernel_rfl, ?_⟩
    have D := fork_ref hPP hSS.2.2
    have HD := Lib.hid D
    have HS8 := Lib.hid hS8
    clear D hS8 hPP hSS hH
    go_wp2_with fail
    go_ret
    exact ⟨_, rfl, HD.out, HS8.out.2.2⟩
end Go.Proofs.Ytglichmmoibagaa
