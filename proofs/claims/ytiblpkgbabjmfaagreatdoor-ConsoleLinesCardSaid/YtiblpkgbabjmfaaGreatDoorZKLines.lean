/- The closed facts of the row consoleLines, each by itself. -/
import Derived.Test.YtiblpkgbabjmfaaGreatDoorKE
import Derived.Test.YtiblpkgbabjmfaaGreatDoorKH
import Derived.Test.YtiblpkgbabjmfaaGreatDoorKI
namespace Go.Proofs.YtiblpkgbabjmfaaGreatDoor.consoleLines
open Go
theorem k0 : (Rows.consoleLinesRow.wf (OpenSpec.ofChange Rows.consoleLinesSpec)) = true := by kernel_rfl
theorem k3 : (Tryz.f4.params.all (Tryz.pinned.checked.prog.readableRec ·)) = true := by kernel_rfl
theorem k4 : (namedTie Tryz.pinned.checked.prog Rows.consoleLinesRow.named Rows.consoleLinesSpec.vars) = true := by kernel_rfl
theorem k5 : ((Rows.consoleLinesRow.stops == [])) = true := by kernel_rfl
theorem k6 : ((Tryz.pinned.checked.prog.stops == [])) = true := by kernel_rfl
theorem k7 : ((Rows.consoleLinesRow.knobs == [])) = true := by kernel_rfl
theorem k8 : ((Tryz.pinned.checked.prog.stopKnobs == [])) = true := by kernel_rfl
theorem k9 : ((Rows.consoleLinesRow.inPlace == Tryz.pinned.checked.prog.inPlace 4)) = true := by rw [pinned_prog, inPlace_of closure4]; kernel_rfl
theorem k10 : ((Rows.consoleLinesRow.unfollowed == Tryz.pinned.checked.prog.unfollowed 4)) = true := by rw [pinned_prog, unfollowed4]; kernel_rfl
theorem k11 : ((Rows.consoleLinesRow.recurses == Tryz.pinned.checked.prog.recurses 4)) = true := by rw [pinned_prog, recurses_of unfollowed4]; kernel_rfl
theorem k12 : ((Rows.consoleLinesRow.named == Tryz.pinned.checked.prog.varsNamed 4)) = true := by rw [pinned_prog, varsNamed_of closure4]; kernel_rfl
theorem k13 : ((Rows.consoleLinesRow.maps == (Tryz.f4.params.toList ++ Rows.consoleLinesSpec.plain.varTypes Tryz.pinned.checked.prog).any (Tryz.pinned.checked.prog.mapsRec ·))) = true := by kernel_rfl
theorem k14 : ((Rows.consoleLinesRow.ifaces == (Tryz.f4.params.toList ++ Rows.consoleLinesSpec.plain.varTypes Tryz.pinned.checked.prog).any (Tryz.pinned.checked.prog.ifacesRec ·))) = true := by kernel_rfl
theorem k15 : ((Rows.consoleLinesRow.mapsOut == Tryz.pinned.checked.prog.mapsAmong Tryz.f4.resultTypes.toList)) = true := by kernel_rfl
theorem k16 : ((Rows.consoleLinesRow.loops == (Tryz.f4.params.toList ++ Rows.consoleLinesSpec.plain.varTypes Tryz.pinned.checked.prog).any (Tryz.pinned.checked.prog.loopsFrom ·))) = true := by kernel_rfl
theorem k17 : ((Rows.consoleLinesRow.wideKeys == (Tryz.f4.params.toList ++ Rows.consoleLinesSpec.plain.varTypes Tryz.pinned.checked.prog ++ Tryz.f4.resultTypes.toList).any (Tryz.pinned.checked.prog.wideKeysFrom ·))) = true := by kernel_rfl
theorem k18 : (Rows.consoleLinesSpec.vars.all (Tryz.pinned.checked.prog.varReadable ·)) = true := by kernel_rfl
theorem k19 : (Tryz.f4.resultTypes.all (fun t => Tryz.pinned.checked.prog.readableRec t && decide (t < Tryz.pinned.checked.prog.types.size))) = true := by kernel_rfl
theorem k20 : ((Rows.consoleLinesRow.ifacesOut == Tryz.f4.resultTypes.toList.any (Tryz.pinned.checked.prog.ifacesRec ·))) = true := by kernel_rfl
theorem k21 : ((Rows.consoleLinesRow.loopsOut == Tryz.f4.resultTypes.toList.any (Tryz.pinned.checked.prog.loopsFrom ·))) = true := by kernel_rfl
theorem k22 : ((Rows.consoleLinesRow.plainKeys == Tryz.pinned.checked.prog.plainKeys)) = true := by kernel_rfl
theorem k23 : (Rows.consoleLinesRow.shortTexts.isNone) = true := by kernel_rfl
theorem k26 : ((Rows.consoleLinesRow.lifted == Tryz.pinned.checked.prog.liftsFinal)) = true := by kernel_rfl
theorem k27 : ((Tryz.pinned.checked.prog.make == some Rows.consoleLinesRow.make)) = true := by kernel_rfl
theorem k29 : ((Rows.consoleLinesRow.pinned == Rows.consoleLinesRow.pinnedBy)) = true := by kernel_rfl
theorem k30 : ((Rows.consoleLinesRow.veiled == (Tryz.f4.params.toList ++ Rows.consoleLinesSpec.plain.varTypes Tryz.pinned.checked.prog ++ Tryz.f4.resultTypes.toList).any (Tryz.pinned.checked.prog.veiledRec ·))) = true := by kernel_rfl
theorem k31 : (Rows.consoleLinesRow.veiledFits Tryz.pinned.checked.prog Tryz.f4.params.toList (Tryz.f4.params.toList ++ Rows.consoleLinesSpec.plain.varTypes Tryz.pinned.checked.prog ++ Tryz.f4.resultTypes.toList)) = true := by kernel_rfl
theorem closed : joinedFacts Tryz.pinned.checked.prog 4 Tryz.f4 Rows.consoleLinesSpec Rows.consoleLinesRow = true := by
  unfold joinedFacts
  exact and_true2 (and_true2 (and_true2 (and_true2 (and_true2 (and_true2 (and_true2 (and_true2 (and_true2 (and_true2 (and_true2 (and_true2 (and_true2 (and_true2 (and_true2 (and_true2 (and_true2 (and_true2 (and_true2 (and_true2 (and_true2 (and_true2 (and_true2 (and_true2 (and_true2 (and_true2 (and_true2 (and_true2 (and_true2 (and_true2 (and_true2 k0 closed2.1) closed2.2) k3) k4) k5) k6) k7) k8) k9) k10) k11) k12) k13) k14) k15) k16) k17) k18) k19) k20) k21) k22) k23) heard) enters) k26) k27) (by kernel_rfl)) k29) k30) k31
end Go.Proofs.YtiblpkgbabjmfaaGreatDoor.consoleLines
