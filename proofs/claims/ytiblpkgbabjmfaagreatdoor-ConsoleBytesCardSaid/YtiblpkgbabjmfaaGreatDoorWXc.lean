/- console.failed: a fault's line. -/
import Derived.Test.YtiblpkgbabjmfaaGreatDoorWXb
import Derived.Test.YtiblpkgbabjmfaaGreatDoorWU
namespace Go.Proofs.YtiblpkgbabjmfaaGreatDoor
open Go.RowKit

def failL (c a : Int) : List UInt8 := [101, 114, 114, 111, 114, 32] ++ Lib.itoa c ++ [32, 97, 116, 32] ++ Lib.itoa a

theorem two_facts {W : World} {b : Nat} {v0 v1 : Value} {t : TypeId} (h : W.heap[b]? = some (.cells #[v0, v1] t (0, 0))) : W.cell? ⟨b, 0, none⟩ = some v0 ∧ W.cell? ⟨b, 1, none⟩ = some v1 := by
  refine ⟨?_, ?_⟩ <;> (rw [cell_of_row _ _ _ _ _ _ h]; rfl)

set_option maxRecDepth 100000 in
set_option maxHeartbeats 1000000 in
theorem failed26 (c a : Int) (w : World) (hL : Laid w) (hc : InInt c) (ha : InInt a) (hlc : (Lib.itoa c).length ≤ 100) (hla : (Lib.itoa a).length ≤ 100) : Calls Tryz.prog 26 #[.agg #[.int .i64 c, .int .i64 a]] w (TextPost w (failL c a)) := by
  have HL := Lib.hid hL
  have HC := Lib.hid hc
  have HA := Lib.hid ha
  have ha1 : ¬ 9223372036854775807 < 6 + (Lib.itoa c).length := by omega
  have ha2 : ¬ 9223372036854775807 < 6 + (Lib.itoa c).length + 4 := by omega
  have ha3 : ¬ 9223372036854775807 < 6 + (Lib.itoa c).length + 4 + (Lib.itoa a).length := by omega
  have h0b := Go.heap_alloc_new w (.cells #[.int .i64 c, .int .i64 a] 57)
  have hB : Below w.heap.size w (w.alloc (.cells #[.int .i64 c, .int .i64 a] 57)) := (Below.refl _ w).alloc (Nat.le_refl _) _
  have H0 := Lib.hid h0b
  have HB := Lib.hid hB
  clear hL hc ha hlc hla h0b hB
  go_enter Tryz.func26, Tryz.ntmps26
  go_wp2_with fail
  revert H0 HB
  generalize World.alloc w _ = W0
  intro H0 HB
  obtain ⟨q0, q1⟩ := two_facts (show W0.drew.heap[w.heap.size]? = _ from H0.out)
  have hB : Below w.heap.size w W0.drew := HB.out.drew
  go_region_held3 (fun w' => w'.cell? ⟨w.heap.size, 0, none⟩ = some (.int .i64 c) ∧ w'.cell? ⟨w.heap.size, 1, none⟩ = some (.int .i64 a) ∧ Below w.heap.size w w')
    (first | exact ⟨q0, q1, hB⟩ | exact ⟨keep_cell rfl q0 b1, keep_cell rfl q1 b1, below_after hB b1⟩ | exact ⟨keep_cell rfl u0 b2, keep_cell rfl u1 b2, below_after ub b2⟩)
    (first | (go_at_call 22; have hS1 : W1.cell? ⟨w.heap.size, 0, none⟩ = some (.int .i64 c) ∧ W1.cell? ⟨w.heap.size, 1, none⟩ = some (.int .i64 a) ∧ Below w.heap.size w W1 := (by assumption); obtain ⟨u0, u1, ub⟩ := hS1; refine (itoa22 a _ (HL.out.below ub) HA.out).mono ?_; rintro e W2 ⟨rfl, b2⟩) | (go_at_call 22; refine (itoa22 c _ (HL.out.below hB) HC.out).mono ?_; rintro e W1 ⟨rfl, b1⟩))
  have hS : W2.cell? ⟨w.heap.size, 0, none⟩ = some (.int .i64 c) ∧ W2.cell? ⟨w.heap.size, 1, none⟩ = some (.int .i64 a) ∧ Below w.heap.size w W2 := by assumption
  obtain ⟨s0, s1, hb1⟩ := hS
  have hcat : (⟨#[101, 114, 114, 111, 114, 32]⟩ : ByteArray) ++ ⟨(Lib.itoa c).toArray⟩ ++ ⟨#[32, 97, 116, 32]⟩ ++ ⟨(Lib.itoa a).toArray⟩ = ⟨(failL c a).toArray⟩ := by
    rw [failL, ← cat_arr, ← cat_arr, ← cat_arr]
  rw [hcat]
  go_wp2_with fail
  go_ret
  exact ⟨rfl, hb1⟩

set_option maxRecDepth 100000 in
set_option maxHeartbeats 1000000 in
theorem answer_bad (op c a : Int) (w : World) (hL : Laid w) (h0 : (c == 0) = false) (hc : InInt c) (ha : InInt a) (hlc : (Lib.itoa c).length ≤ 100) (hla : (Lib.itoa a).length ≤ 100) : Calls Tryz.prog 27 #[.int .i64 op, ansV c a] w (TextPost w (failL c a)) := by
  have HF := Lib.hid (fun w hL => failed26 c a w hL hc ha hlc hla)
  have HL := Lib.hid hL
  clear hL hc ha hlc hla
  unfold ansV ansC
  go_enter Tryz.func27, Tryz.ntmps27
  go_wp2_with (go_at_call 26; refine (HF.out _ (HL.out.below ((Below.refl _ w).alloc (Nat.le_refl _) _))).mono ?_; rintro e W1 ⟨rfl, b1⟩)
  go_ret
  exact ⟨rfl, below_after ((Below.refl _ w).alloc (Nat.le_refl _) _) b1⟩

set_option maxRecDepth 100000 in
set_option maxHeartbeats 1000000 in
theorem answer_ok (w : World) : Calls Tryz.prog 27 #[.int .i64 1, ansV 0 0] w (TextPost w [111, 107]) := by
  unfold ansV ansC
  go_enter Tryz.func27, Tryz.ntmps27
  go_wp2
  go_ret
  exact ⟨rfl, (Below.refl _ w).alloc (Nat.le_refl _) _⟩
end Go.Proofs.YtiblpkgbabjmfaaGreatDoor
