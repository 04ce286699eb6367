/- A closed fact of the whole program. -/
import Derived.Test.YtiblpkgbabjmfaaGreatDoorYD
namespace Go.Proofs.YtiblpkgbabjmfaaGreatDoor
open Go
theorem enters : Tryz.pinned.checked.prog.mayEnter = true := by kernel_rfl
end Go.Proofs.YtiblpkgbabjmfaaGreatDoor
