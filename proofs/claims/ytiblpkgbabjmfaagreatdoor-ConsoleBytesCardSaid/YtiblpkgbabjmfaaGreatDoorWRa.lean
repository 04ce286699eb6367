/- Results that lie in a block: a command and what stands beside it. -/
import Derived.Test.YtiblpkgbabjmfaaGreatDoorWK
namespace Go.Proofs.YtiblpkgbabjmfaaGreatDoor
open Go.RowKit

/-- Words lie in block g. -/
def RowAt (w : World) (g : Nat) (ws : List ByteArray) : Prop := ∀ (i : Nat) (x : ByteArray), ws[i]? = some x → w.cell? ⟨g, i, none⟩ = some (.string x)

theorem RowAt.below {w w' : World} {g : Nat} {ws : List ByteArray} (h : RowAt w g ws) (hb : Below w.heap.size w w') : RowAt w' g ws := fun i x hx => by
  have h1 := h i x hx
  rw [hb.cell (p := ⟨g, i, none⟩) (cell_lt h1)]; exact h1

theorem word_eq (s : ByteArray) (l : List UInt8) : (s.toList == l) = decide (s.data.toList = l) := by
  rw [ByteArray.toList_eq, Bool.eq_iff_iff]
  simp

/-- A struct of six cells in a block. -/
theorem blk_facts {W : World} {b : Nat} {v0 v1 v2 v3 v4 v5 : Value} (h : W.heap[b]? = some (.cells #[v0, v1, v2, v3, v4, v5] 26 (0, 0))) :
    W.cell? ⟨b, 0, none⟩ = some v0 ∧ W.cell? ⟨b, 1, none⟩ = some v1 ∧ W.cell? ⟨b, 2, none⟩ = some v2 ∧ W.cell? ⟨b, 3, none⟩ = some v3 ∧ W.cell? ⟨b, 4, none⟩ = some v4 ∧ W.cell? ⟨b, 5, none⟩ = some v5 ∧ (∀ j, W.frozen? ⟨b, j, none⟩ = false) := by
  refine ⟨?_, ?_, ?_, ?_, ?_, ?_, fun j => frozen_of_row W b j _ _ h⟩ <;> (rw [cell_of_row _ _ _ _ _ _ h]; rfl)

theorem blk_below {w W1 : World} {cs : Array Value} (hb : Below (w.alloc (.cells cs 26)).drew.heap.size (w.alloc (.cells cs 26)).drew W1) : W1.heap[w.heap.size]? = some (.cells cs 26 (0, 0)) ∧ Below w.heap.size w W1 :=
  ⟨(hb.block _ (by simp)).trans (Go.heap_alloc_new w _), below_after ((Below.refl _ w).alloc (Nat.le_refl _) _).drew hb⟩
theorem blk_below' {w W1 : World} {cs : Array Value} (hb : Below (w.alloc (.cells cs 26)).heap.size (w.alloc (.cells cs 26)) W1) : W1.heap[w.heap.size]? = some (.cells cs 26 (0, 0)) ∧ Below w.heap.size w W1 :=
  ⟨(hb.block _ (by simp)).trans (Go.heap_alloc_new w _), below_after ((Below.refl _ w).alloc (Nat.le_refl _) _) hb⟩

theorem below_set {w W : World} {j : Nat} {v : Value} (h : Below w.heap.size w W) : Below w.heap.size w (W.setCell ⟨w.heap.size, j, none⟩ v) := h.setCell (Nat.le_refl _) _

def setObj (j : Nat) (v : Value) : Obj → Obj
  | .cells c elem fr => .cells (c.setIfInBounds j v) elem fr
  | o => o
theorem heap_set (W : World) (b j : Nat) (v : Value) : (W.setCell ⟨b, j, none⟩ v).heap[b]? = (W.heap[b]?).map (setObj j v) := by
  simp only [World.setCell, Array.getElem?_modify, if_true]
  cases W.heap[b]? with
  | none => rfl
  | some o => cases o <;> rfl

theorem run_load_cmd {W : World} {b : Nat} {cs : Array Value} (h : W.heap[b]? = some (.cells cs 26 (0, 0))) (hs : cs.size = 6) : (loadVar 26 ⟨b, 0, none⟩).run Tryz.prog W = .ok (.agg cs) W :=
  run_loadVar_row (P := Tryz.prog) W b 26 26 cs (0, 0) _ h Tryz.underlying26 rfl (by rw [hs]; kernel_rfl)

theorem ret_cmd {fn : Func} {W : World} {b : Nat} {cs : Array Value} {v : Value} {tmps : Array Value} {Q : Ending → World → Prop} (hfn : fn.results = #[.cell 2 26, .tmp 3]) (h2 : tmps.getD 2 undef = .pointer (some ⟨b, 0, none⟩)) (h3 : tmps.getD 3 undef = v)
    (hW : W.heap[b]? = some (.cells cs 26 (0, 0))) (hs : cs.size = 6) (hQ : Q (.returned (.tuple #[.agg cs, v])) W) : bodyPost Tryz.prog fn Q Exit.ret { tmps := tmps, defers := [] } W := by
  have hl := run_load_cmd hW hs
  have h2' : tmps[2]?.getD undef = .pointer (some ⟨b, 0, none⟩) := by simpa using h2
  have h3' : tmps[3]?.getD undef = v := by simpa using h3
  refine bodyPost_ret (v := .tuple #[.agg cs, v]) ?_ rfl hQ
  simp [results, hfn, asAddr, h2', h3', hl, Result.andThen]
end Go.Proofs.YtiblpkgbabjmfaaGreatDoor
