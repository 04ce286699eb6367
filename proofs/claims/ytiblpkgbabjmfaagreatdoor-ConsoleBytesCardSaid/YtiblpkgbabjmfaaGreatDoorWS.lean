/- The contract of console.Parse: a line's command, or none. -/
import Derived.Test.YtiblpkgbabjmfaaGreatDoorWB
import Derived.Test.YtiblpkgbabjmfaaGreatDoorWR
namespace Go.Proofs.YtiblpkgbabjmfaaGreatDoor
open Go.RowKit

def cmd0 : Cmd := ⟨0, [], [], 0, 0, 0⟩
/-- A line's command, or the fault. -/
def parseV (o : Option Cmd) : Value := match o with
  | some c => .tuple #[cmdV c, .int .i64 0]
  | none => .tuple #[cmdV cmd0, .int .i64 60]
def CmdPost (w : World) (o : Option Cmd) (e : Ending) (w' : World) : Prop := e = .returned (parseV o) ∧ Below w.heap.size w w'

theorem cutGo_len : ∀ (l cur : List UInt8), (cutGo cur l).length ≤ l.length + 1 ∧ ∀ a ∈ cutGo cur l, a.length ≤ cur.length + l.length
  | [], cur => by simp [cutGo]
  | c :: r, cur => by
    rw [cutGo_cons]
    split
    · obtain ⟨h1, h2⟩ := cutGo_len r []
      refine ⟨by simp; omega, fun a ha => ?_⟩
      rcases List.mem_cons.1 ha with rfl | ha
      · simp
      · have := h2 a ha
        simp at this ⊢; omega
    · obtain ⟨h1, h2⟩ := cutGo_len r (cur ++ [c])
      refine ⟨by simp; omega, fun a ha => ?_⟩
      have := h2 a ha
      simp at this ⊢; omega

/-- A slice of words as the walk meets it. -/
theorem row_of {w : World} {B : Nat} {v : Value} {ws : List ByteArray} (h : w.ownsRow B 9 1 v ws.length (ws.map Value.string)) (hne : ws ≠ []) : ∃ g cap, v = .slice (some ⟨g, 0, none⟩) ws.length cap ∧ RowAt w g ws := by
  obtain ⟨hl, ⟨_, h0⟩ | ⟨g, cap, cur, rfl, hg, hh, hc, hm, hcs, ht⟩⟩ := h
  · exact absurd (List.eq_nil_of_length_eq_zero h0) hne
  · refine ⟨g, cap, rfl, fun i x hx => ?_⟩
    have hi : i < ws.length := by
      rcases Nat.lt_or_ge i ws.length with h | h
      · exact h
      · rw [List.getElem?_eq_none h] at hx; cases hx
    rw [cell_of_row w g i _ _ _ hh]
    have e : (ws.map Value.string)[i]? = some (.string x) := by rw [List.getElem?_map, hx]; rfl
    rw [← ht, List.getElem?_take_of_lt (by omega)] at e
    simpa using e

theorem cut_words {s : ByteArray} {ws : List ByteArray} (h : bytesL ws = cutL s.data.toList) (hs : s.size ≤ 1000000 - 1) : ws ≠ [] ∧ ws.length ≤ 1000000 ∧ ∀ x ∈ ws, x.size ≤ 1000000 := by
  obtain ⟨h1, h2⟩ := cutGo_len s.data.toList []
  have hl : s.data.toList.length = s.size := by simp
  have e := congrArg List.length h
  simp only [bytesL, List.length_map] at e
  refine ⟨?_, ?_, fun x hx => ?_⟩
  · rintro rfl
    exact cutGo_ne s.data.toList [] (by rw [cutL] at h; rw [← h]; rfl)
  · rw [cutL] at e; omega
  · have hm : x.data.toList ∈ bytesL ws := List.mem_map_of_mem hx
    rw [h, cutL] at hm
    have := h2 _ hm
    simp at this
    omega

theorem blk_later {W : World} {b : Nat} {v0 v1 v2 v3 v4 v5 : Value} (h : W.heap[b]? = some (.cells #[v0, v1, v2, v3, v4, v5] 26 (0, 0))) (o : Obj) :
    (W.alloc o).cell? ⟨b, 0, none⟩ = some v0 ∧ (W.alloc o).cell? ⟨b, 1, none⟩ = some v1 ∧ (W.alloc o).cell? ⟨b, 2, none⟩ = some v2 ∧ (W.alloc o).cell? ⟨b, 3, none⟩ = some v3 ∧ (W.alloc o).cell? ⟨b, 4, none⟩ = some v4 ∧ (W.alloc o).cell? ⟨b, 5, none⟩ = some v5 ∧ (∀ j, (W.alloc o).frozen? ⟨b, j, none⟩ = false) :=
  blk_facts ((Go.heap_alloc_old W o (Array.getElem?_eq_some_iff.1 h).1).trans h)

set_option maxRecDepth 100000 in
set_option maxHeartbeats 4000000 in
theorem parse8 (s : ByteArray) (w : World) (hL : Laid w) (hs : s.size ≤ 999999) : Calls Tryz.prog 8 #[.string s] w (CmdPost w (parseL s.data.toList)) := by
  have HL := Lib.hid hL
  clear hL
  go_enter Tryz.func8, Tryz.ntmps8
  go_wp2_with fail
  go_at_call 16
  refine (words16 s _ (by omega)).mono ?_
  rintro e W1 ⟨v, ws, rfl, hown, hcut, b1⟩
  obtain ⟨f1, f2⟩ := blk_below' b1
  obtain ⟨k1, k2, k3⟩ := cut_words hcut hs
  obtain ⟨g, cap, rfl, hrow⟩ := row_of hown k1
  have hp : parseL s.data.toList = parseW (bytesL ws) := by rw [hcut]; rfl
  have hpar := parsed15 ws g cap W1 (HL.out.below f2) k1 k2 k3 hrow
  have F1 := Lib.hid f1
  have F2 := Lib.hid f2
  have HPAR := Lib.hid hpar
  have HP := Lib.hid hp
  clear b1 f1 f2 k2 k3 hown hcut hrow hp hpar k1
  go_wp2_with fail
  go_at_call 15
  refine HPAR.out.mono ?_
  rintro e W2 ⟨b2, ⟨c, hc, rfl⟩ | ⟨hc, c, rfl⟩⟩
  · have F3 := Lib.hid ((b2.block _ (Array.getElem?_eq_some_iff.1 F1.out).1).trans F1.out)
    have F4 := Lib.hid (below_after F2.out b2)
    have HC := Lib.hid hc
    have q0 := fun o => (blk_later F3.out o).1
    have q1 := fun o => (blk_later F3.out o).2.1
    have q2 := fun o => (blk_later F3.out o).2.2.1
    have q3 := fun o => (blk_later F3.out o).2.2.2.1
    have q4 := fun o => (blk_later F3.out o).2.2.2.2.1
    have q5 := fun o => (blk_later F3.out o).2.2.2.2.2.1
    have qf := fun o => (blk_later F3.out o).2.2.2.2.2.2
    have FA := Lib.hid (fun o => (Go.heap_alloc_old W2 o (Array.getElem?_eq_some_iff.1 F3.out).1).trans F3.out)
    clear b2 hc
    unfold cmdV cmdC
    go_wp2_with fail
    refine ret_cmd (cs := cmdC c) Tryz.results8 rfl rfl (by rw [heap_set, heap_set, heap_set, heap_set, heap_set, heap_set, FA.out]; simp [setObj, cmdC]) rfl ⟨by rw [HP.out, HC.out]; rfl, ?_⟩
    repeat (with_reducible refine below_set ?_)
    exact F4.out.alloc F4.out.size _
  · have F3 := Lib.hid ((b2.block _ (Array.getElem?_eq_some_iff.1 F1.out).1).trans F1.out)
    have F4 := Lib.hid (below_after F2.out b2)
    have HC := Lib.hid hc
    have q0 := fun o => (blk_later F3.out o).1
    have q1 := fun o => (blk_later F3.out o).2.1
    have q2 := fun o => (blk_later F3.out o).2.2.1
    have q3 := fun o => (blk_later F3.out o).2.2.2.1
    have q4 := fun o => (blk_later F3.out o).2.2.2.2.1
    have q5 := fun o => (blk_later F3.out o).2.2.2.2.2.1
    have qf := fun o => (blk_later F3.out o).2.2.2.2.2.2
    have FA := Lib.hid (fun o => (Go.heap_alloc_old W2 o (Array.getElem?_eq_some_iff.1 F3.out).1).trans F3.out)
    clear b2 hc
    unfold cmdV cmdC
    go_wp2_with fail
    refine ret_cmd (cs := cmdC cmd0) Tryz.results8 rfl rfl (by rw [heap_set, heap_set, heap_set, heap_set, heap_set, heap_set, FA.out]; simp [setObj, cmdC, cmd0]) rfl ⟨by rw [HP.out, HC.out]; rfl, ?_⟩
    repeat (with_reducible refine below_set ?_)
    exact F4.out.alloc F4.out.size _
end Go.Proofs.YtiblpkgbabjmfaaGreatDoor
