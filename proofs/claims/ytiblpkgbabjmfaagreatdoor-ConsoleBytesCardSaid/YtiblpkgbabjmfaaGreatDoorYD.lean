/- The closed facts that run over the whole table of types; a conjunction's step. -/
import Derived.Test.YtiblpkgbabjmfaaGreatDoorRows
import Derived.ProofKit
import Derived.JoinedOf
import Derived.ClosedOfChecked
namespace Go.Proofs.YtiblpkgbabjmfaaGreatDoor
open Go
theorem and_true2 {a b : Bool} (h : a = true) (k : b = true) : (a && b) = true := by rw [h, k]; rfl
theorem pinned_prog : Tryz.pinned.checked.prog = Tryz.prog := by kernel_rfl
theorem closedTypes : Tryz.checked.prog.types = Tryz.checked.src.types := by kernel_rfl
theorem closedRest : (Tryz.checked.prog.globals.all (fun g => decide (g.type < Tryz.checked.prog.types.size)) && Tryz.checked.prog.funcs.all (fun f => f.params.all fun t => decide (t < Tryz.checked.prog.types.size))) = true := by kernel_rfl
theorem closed2 : laidOutB Tryz.pinned.checked.prog = true ∧ mapsRowed Tryz.pinned.checked.prog = true :=
  ⟨Go.ClosedOfChecked.laidOutB_of (Go.ClosedOfChecked.allSpec_of Tryz.checked.wellFormed closedTypes) closedRest, Go.ClosedOfChecked.mapsRowed_of (Go.ClosedOfChecked.allSpec_of Tryz.checked.wellFormed closedTypes)⟩
end Go.Proofs.YtiblpkgbabjmfaaGreatDoor
