/- The number of ConsoleReads in the program. -/
import Derived.Test.YtiblpkgbabjmfaaGreatDoorYD
namespace Go.Proofs.YtiblpkgbabjmfaaGreatDoor
open Go
theorem named3 : Tryz.pinned.checked.prog.funcNamed "spinet/spinetlaw29.ConsoleReads" = some 3 := by kernel_rfl
end Go.Proofs.YtiblpkgbabjmfaaGreatDoor
