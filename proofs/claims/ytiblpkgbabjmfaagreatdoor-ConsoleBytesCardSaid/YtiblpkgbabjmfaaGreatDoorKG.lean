/- No function of the program starts a goroutine. -/
import Derived.Test.YtiblpkgbabjmfaaGreatDoorYD
import Derived.Test.YtiblpkgbabjmfaaGreatDoorCards
namespace Go.Proofs.YtiblpkgbabjmfaaGreatDoor
open Go
theorem no_goes : Tryz.prog.funcs.any Func.goes = false := by kernel_rfl
theorem goes_of (f : Nat) : Tryz.prog.goes f = false := by
  unfold Program.goes
  rw [no_goes, Bool.and_false, Bool.or_false, List.any_eq_false]
  intro g _ hg
  cases h : Tryz.prog.funcs[g]? with
  | none => rw [h] at hg; cases hg
  | some fn =>
    rw [h] at hg
    have h1 := no_goes
    rw [Array.any_eq_false'] at h1
    exact h1 fn (Array.mem_of_getElem? h) hg
theorem goes_from (n : String) : Tryz.prog.goesFrom n = false := by
  unfold Program.goesFrom
  rw [show Tryz.prog.goes = fun _ => false from funext goes_of]
  generalize Tryz.prog.funcNamed n = o
  cases o <;> rfl

end Go.Proofs.YtiblpkgbabjmfaaGreatDoor
