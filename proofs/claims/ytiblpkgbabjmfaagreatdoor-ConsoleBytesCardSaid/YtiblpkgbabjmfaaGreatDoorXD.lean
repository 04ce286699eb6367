/- The tie's closed fact that the run of gosem.cut.vars comes to its end; no condition. -/
import Derived.Test.YtiblpkgbabjmfaaGreatDoorRows
import Derived.LaidByTextLater
import Derived.SevenTiedAt
namespace Go.Proofs.YtiblpkgbabjmfaaGreatDoor
open Go
theorem fd : ∀ os tape, varsDone Tryz.prog 400 (varsId Tryz.prog) os tape = true := fun _ _ => by kernel_rfl
end Go.Proofs.YtiblpkgbabjmfaaGreatDoor
