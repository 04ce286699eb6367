/- spinetkeep.Texts of two like rows; wakes. -/
import Derived.Test.YtiblpkgbabjmfaaGreatDoorWXd
import Derived.BigQuiet
namespace Go.Proofs.YtiblpkgbabjmfaaGreatDoor
open Go.RowKit

set_option maxRecDepth 100000 in
set_option maxHeartbeats 1000000 in
theorem texts14 (g1 c1 g2 c2 : Nat) (w : World) (h1 : RowAt w g1 runOut) (h2 : RowAt w g2 runOut) : Calls Tryz.prog 14 #[.slice (some ⟨g1, 0, none⟩) 3 c1, .slice (some ⟨g2, 0, none⟩) 3 c2] w (BoolPost w true) := by
  have a0 := h1 0 _ rfl
  have a1 := h1 1 _ rfl
  have a2 := h1 2 _ rfl
  have e0 := h2 0 _ rfl
  have e1 := h2 1 _ rfl
  have e2 := h2 2 _ rfl
  clear h1 h2
  go_enter Tryz.func14, Tryz.ntmps14
  go_wp2_with fail
  refine wp_loop_rounds 4 ?_
  rw [rounds_succ]
  go_upto_region 6 with fail
  go_quiet (fail)
  go_wp2_with fail
  rw [rounds_succ]
  go_upto_region 6 with fail
  go_quiet (fail)
  go_wp2_with fail
  rw [rounds_succ]
  go_upto_region 6 with fail
  go_quiet (fail)
  go_wp2_with fail
  rw [rounds_succ]
  go_wp2_with fail
  go_ret
  exact ⟨rfl, below_drewN (Below.refl _ _) _⟩

theorem row_new (w : World) (ws : List ByteArray) (cs : Array Value) (h : cs = (ws.map Value.string).toArray) : RowAt (w.alloc (.cells cs 9)) w.heap.size ws := by
  intro i x hx
  rw [cell_of_row _ _ _ _ _ _ (Go.heap_alloc_new w _), h]
  simp [hx]

theorem run_post {w w' : World} {v : Value} (h : w'.ownsRow w.heap.size 9 1 v 3 (runOut.map Value.string)) : ∃ g cap, v = .slice (some ⟨g, 0, none⟩) 3 cap ∧ RowAt w' g runOut :=
  row_of (ws := runOut) h (by simp [runOut])

set_option maxRecDepth 100000 in
set_option maxHeartbeats 1000000 in
theorem wakes7 (w : World) (hL : Laid w) : Calls Tryz.prog 7 #[] w (BoolPost w true) := by
  have HL := Lib.hid hL
  clear hL
  go_enter Tryz.func7, Tryz.ntmps7
  go_upto_region 3 with (first
    | (go_at_call 13; refine (run13 _ _ _ (HL.out.below ((Below.refl _ w).alloc (Nat.le_refl _) _)) (row_new w runLines _ rfl)).mono ?_; rintro e W1 ⟨v, rfl, hv, b1⟩; obtain ⟨g, cap, rfl, hrow⟩ := run_post hv; have B1 := Lib.hid (below_after ((Below.refl _ w).alloc (Nat.le_refl _) _) b1); have ROW := Lib.hid hrow; clear hv b1 hrow)
    | (go_at_call 8; refine (parse_load _ (HL.out.below B1.out)).mono ?_; rintro e W2 ⟨rfl, b2⟩; have B2 := Lib.hid (below_after B1.out b2); have ROW2 := Lib.hid (ROW.out.below b2); clear b2)
    | (refine store_cmd rfl (.tmp 3) (.tmp 12) rfl rfl _ rfl rfl rfl (by simp [Value.oneCell']) ?_; intro W3 c3 b3; have C3 := Lib.hid c3; have B3 := Lib.hid (below_after B2.out b3); have ROW3 := Lib.hid (ROW2.out.below b3); clear c3 b3))
  go_wp2_with (first
    | (go_at_call 14; refine (texts14 g cap _ _ _ (ROW3.out.below ((Below.refl _ W3).alloc (Nat.le_refl _) _)) (row_new W3 runOut _ rfl)).mono ?_; rintro e W4 ⟨rfl, b4⟩; have B4 := Lib.hid (below_after ((Below.refl _ W3).alloc (Nat.le_refl _) _) b4); have c4 := (B4.out.block _ (Array.getElem?_eq_some_iff.1 C3.out).1).trans C3.out; obtain ⟨q0, q1, q2, q3, q4, q5, -⟩ := blk_facts c4; clear c4 b4))
  go_ret
  exact ⟨rfl, below_after B3.out B4.out⟩
end Go.Proofs.YtiblpkgbabjmfaaGreatDoor
