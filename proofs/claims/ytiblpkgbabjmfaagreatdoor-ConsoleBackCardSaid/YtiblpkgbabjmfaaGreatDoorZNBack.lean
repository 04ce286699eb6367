/- The number of ConsoleBack in the program. -/
import Derived.Test.YtiblpkgbabjmfaaGreatDoorYD
namespace Go.Proofs.YtiblpkgbabjmfaaGreatDoor
open Go
theorem named5 : Tryz.pinned.checked.prog.funcNamed "spinet/spinetlaw29.ConsoleBack" = some 5 := by kernel_rfl
end Go.Proofs.YtiblpkgbabjmfaaGreatDoor
