/- The tie's closed facts about the program's words; no condition. -/
import Derived.Test.YtiblpkgbabjmfaaGreatDoorRows
import Derived.LaidByTextLater
import Derived.SevenTiedAt
namespace Go.Proofs.YtiblpkgbabjmfaaGreatDoor
open Go
theorem fw : Tryz.prog.worded (varsWordLater true) = true := by kernel_rfl
theorem fw2 : Tryz.prog.worded (varsWordLater !true) = false := by kernel_rfl
theorem fr : Tryz.prog.worded rootWordLater = true := by kernel_rfl
theorem fg : (Tryz.prog.funcNamed "gosem.cut.vars").isSome = true := by kernel_rfl
end Go.Proofs.YtiblpkgbabjmfaaGreatDoor
