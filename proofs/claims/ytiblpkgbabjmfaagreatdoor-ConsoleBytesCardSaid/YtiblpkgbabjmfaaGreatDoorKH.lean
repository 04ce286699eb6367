/- A closed fact of the whole program. -/
import Derived.Test.YtiblpkgbabjmfaaGreatDoorYD
namespace Go.Proofs.YtiblpkgbabjmfaaGreatDoor
open Go
theorem heard : Tryz.pinned.checked.prog.stopsHeard = true := by kernel_rfl
end Go.Proofs.YtiblpkgbabjmfaaGreatDoor
