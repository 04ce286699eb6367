/- ConsoleLines: the walk. -/
import Derived.Test.YtiblpkgbabjmfaaGreatDoorYB
namespace Go.Proofs.YtiblpkgbabjmfaaGreatDoor
open Go.RowKit

theorem lineV_eq (o : Option (List UInt8)) : ∃ (s : ByteArray) (n : Int), lineV o = .tuple #[.string s, .int .i64 n] := by
  cases o with
  | none => exact ⟨_, _, rfl⟩
  | some c => exact ⟨_, _, rfl⟩

/-- A command as an argument reads. -/
theorem box_cells (c : Cmd) (w : World) : (w.alloc (.cells (cmdC c) 26)).heap[w.heap.size]? = some (.cells (cmdC c) 26 (0, 0)) ∧ Below w.heap.size w (w.alloc (.cells (cmdC c) 26)) :=
  ⟨Go.heap_alloc_new _ _, (Below.refl _ w).alloc (Nat.le_refl _) _⟩

set_option maxRecDepth 100000 in
set_option maxHeartbeats 1000000 in
theorem lines_long (c : Cmd) (h : 40000 < c.name.length ∨ 40000 < c.text.length) (hn : c.name.length ≤ maxLen) (ht : c.text.length ≤ maxLen) (w : World) (hL : Laid w) : Calls Tryz.prog 4 #[cmdV c] w (BoolPost w true) := by
  unfold maxLen at hn ht
  obtain ⟨h0, hb⟩ := box_cells c w
  have HL := Lib.hid (hL.below hb)
  have HB := Lib.hid hb
  clear hL hb h0
  unfold cmdV cmdC at *
  by_cases h1 : 40000 < c.name.length
  · go_enter Tryz.func4, Tryz.ntmps4
    go_wp2_with (go_at_call 7; refine (wakes7 _ HL.out).mono ?_; rintro e W1 ⟨rfl, b1⟩)
    go_ret
    exact ⟨rfl, below_after HB.out b1⟩
  · have h2 : 40000 < c.text.length := by omega
    clear h
    go_enter Tryz.func4, Tryz.ntmps4
    go_wp2_with (go_at_call 7; refine (wakes7 _ HL.out).mono ?_; rintro e W1 ⟨rfl, b1⟩)
    go_ret
    exact ⟨rfl, below_after HB.out b1⟩

set_option maxRecDepth 100000 in
set_option maxHeartbeats 1000000 in
theorem lines_short (c : Cmd) (hn : ¬ 40000 < c.name.length) (ht : ¬ 40000 < c.text.length) (hf : InInt c.fuel) (hw : InInt c.words) (hst : InInt c.stack) (w : World) (hL : Laid w) : Calls Tryz.prog 4 #[cmdV c] w (BoolPost w true) := by
  obtain ⟨s, n, hc⟩ := lineV_eq (lineL c)
  have hnn : (n == n) = true := by simp
  have hss : (s.toList == s.toList) = true := by simp
  have hp := fun W hL => line11 c W hL (by omega) (by omega) hf hw hst
  have hr := fun W => rline12 c W (by omega) (by omega) hf hw hst
  unfold LinePost at hp hr
  rw [hc] at hp hr
  obtain ⟨h0, hb⟩ := box_cells c w
  have HL := Lib.hid hL
  have HB := Lib.hid hb
  have H0 := Lib.hid h0
  clear hc hL hb h0
  unfold cmdV cmdC at *
  have HP := Lib.hid hp
  have HR := Lib.hid hr
  clear hp hr hf hw hst
  go_enter Tryz.func4, Tryz.ntmps4
  go_upto_region 3 with fail
  revert HB H0
  generalize World.alloc w _ = W0
  intro HB H0
  obtain ⟨q0, q1, q2, q3, q4, q5, -⟩ := blk_facts H0.out
  go_upto_region 4 with (go_at_call 11; refine (HP.out _ (HL.out.below HB.out)).mono ?_; rintro e W1 ⟨rfl, b1⟩; obtain ⟨r0, r1, r2, r3, r4, r5, -⟩ := blk_facts ((b1.block _ (Array.getElem?_eq_some_iff.1 H0.out).1).trans H0.out); have B1 := Lib.hid (below_after HB.out b1); clear b1)
  go_wp2_with (first
    | (go_at_call 12; refine (HR.out _).mono ?_; rintro e W2 ⟨rfl, b2⟩; have B2 := Lib.hid (below_after B1.out b2); clear b2)
    | (go_at_call 7; refine (wakes7 _ (HL.out.below B2.out)).mono ?_; rintro e W3 ⟨rfl, b3⟩; have B3 := Lib.hid (below_after B2.out b3); clear b3))
  go_ret
  exact ⟨rfl, B3.out⟩

theorem lines4 (c : Cmd) (hn : c.name.length ≤ maxLen) (ht : c.text.length ≤ maxLen) (hf : InInt c.fuel) (hw : InInt c.words) (hst : InInt c.stack) (w : World) (hL : Laid w) : Calls Tryz.prog 4 #[cmdV c] w (BoolPost w true) := by
  by_cases h1 : 40000 < c.name.length
  · exact lines_long c (.inl h1) hn ht w hL
  · by_cases h2 : 40000 < c.text.length
    · exact lines_long c (.inr h2) hn ht w hL
    · exact lines_short c h1 h2 hf hw hst w hL
end Go.Proofs.YtiblpkgbabjmfaaGreatDoor
