/- The number of ConsoleLines in the program. -/
import Derived.Test.YtiblpkgbabjmfaaGreatDoorYD
namespace Go.Proofs.YtiblpkgbabjmfaaGreatDoor
open Go
theorem named4 : Tryz.pinned.checked.prog.funcNamed "spinet/spinetlaw29.ConsoleLines" = some 4 := by kernel_rfl
end Go.Proofs.YtiblpkgbabjmfaaGreatDoor
