/- The number of ConsoleBytes in the program. -/
import Derived.Test.YtiblpkgbabjmfaaGreatDoorYD
namespace Go.Proofs.YtiblpkgbabjmfaaGreatDoor
open Go
theorem named6 : Tryz.pinned.checked.prog.funcNamed "spinet/spinetlaw29.ConsoleBytes" = some 6 := by kernel_rfl
end Go.Proofs.YtiblpkgbabjmfaaGreatDoor
