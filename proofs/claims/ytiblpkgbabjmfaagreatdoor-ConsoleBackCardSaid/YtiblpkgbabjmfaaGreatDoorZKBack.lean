/- The closed facts of the row consoleBack, each by itself. -/
import Derived.Test.YtiblpkgbabjmfaaGreatDoorKE
import Derived.Test.YtiblpkgbabjmfaaGreatDoorKH
import Derived.Test.YtiblpkgbabjmfaaGreatDoorKI
namespace Go.Proofs.YtiblpkgbabjmfaaGreatDoor.consoleBack
open Go
theorem k0 : (Rows.consoleBackRow.wf (OpenSpec.ofChange Rows.consoleBackSpec)) = true := by kernel_rfl
theorem k3 : (Tryz.f5.params.all (Tryz.pinned.checked.prog.readableRec ·)) = true := by kernel_rfl
theorem k4 : (namedTie Tryz.pinned.checked.prog Rows.consoleBackRow.named Rows.consoleBackSpec.vars) = true := by kernel_rfl
theorem k5 : ((Rows.consoleBackRow.stops == [])) = true := by kernel_rfl
theorem k6 : ((Tryz.pinned.checked.prog.stops == [])) = true := by kernel_rfl
theorem k7 : ((Rows.consoleBackRow.knobs == [])) = true := by kernel_rfl
theorem k8 : ((Tryz.pinned.checked.prog.stopKnobs == [])) = true := by kernel_rfl
theorem k9 : ((Rows.consoleBackRow.inPlace == Tryz.pinned.checked.prog.inPlace 5)) = true := by rw [pinned_prog, inPlace_of closure5]; kernel_rfl
theorem k10 : ((Rows.consoleBackRow.unfollowed == Tryz.pinned.checked.prog.unfollowed 5)) = true := by rw [pinned_prog, unfollowed5]; kernel_rfl
theorem k11 : ((Rows.consoleBackRow.recurses == Tryz.pinned.checked.prog.recurses 5)) = true := by rw [pinned_prog, recurses_of unfollowed5]; kernel_rfl
theorem k12 : ((Rows.consoleBackRow.named == Tryz.pinned.checked.prog.varsNamed 5)) = true := by rw [pinned_prog, varsNamed_of closure5]; kernel_rfl
theorem k13 : ((Rows.consoleBackRow.maps == (Tryz.f5.params.toList ++ Rows.consoleBackSpec.plain.varTypes Tryz.pinned.checked.prog).any (Tryz.pinned.checked.prog.mapsRec ·))) = true := by kernel_rfl
theorem k14 : ((Rows.consoleBackRow.ifaces == (Tryz.f5.params.toList ++ Rows.consoleBackSpec.plain.varTypes Tryz.pinned.checked.prog).any (Tryz.pinned.checked.prog.ifacesRec ·))) = true := by kernel_rfl
theorem k15 : ((Rows.consoleBackRow.mapsOut == Tryz.pinned.checked.prog.mapsAmong Tryz.f5.resultTypes.toList)) = true := by kernel_rfl
theorem k16 : ((Rows.consoleBackRow.loops == (Tryz.f5.params.toList ++ Rows.consoleBackSpec.plain.varTypes Tryz.pinned.checked.prog).any (Tryz.pinned.checked.prog.loopsFrom ·))) = true := by kernel_rfl
theorem k17 : ((Rows.consoleBackRow.wideKeys == (Tryz.f5.params.toList ++ Rows.consoleBackSpec.plain.varTypes Tryz.pinned.checked.prog ++ Tryz.f5.resultTypes.toList).any (Tryz.pinned.checked.prog.wideKeysFrom ·))) = true := by kernel_rfl
theorem k18 : (Rows.consoleBackSpec.vars.all (Tryz.pinned.checked.prog.varReadable ·)) = true := by kernel_rfl
theorem k19 : (Tryz.f5.resultTypes.all (fun t => Tryz.pinned.checked.prog.readableRec t && decide (t < Tryz.pinned.checked.prog.types.size))) = true := by kernel_rfl
theorem k20 : ((Rows.consoleBackRow.ifacesOut == Tryz.f5.resultTypes.toList.any (Tryz.pinned.checked.prog.ifacesRec ·))) = true := by kernel_rfl
theorem k21 : ((Rows.consoleBackRow.loopsOut == Tryz.f5.resultTypes.toList.any (Tryz.pinned.checked.prog.loopsFrom ·))) = true := by kernel_rfl
theorem k22 : ((Rows.consoleBackRow.plainKeys == Tryz.pinned.checked.prog.plainKeys)) = true := by kernel_rfl
theorem k23 : (Rows.consoleBackRow.shortTexts.isNone) = true := by kernel_rfl
theorem k26 : ((Rows.consoleBackRow.lifted == Tryz.pinned.checked.prog.liftsFinal)) = true := by kernel_rfl
theorem k27 : ((Tryz.pinned.checked.prog.make == some Rows.consoleBackRow.make)) = true := by kernel_rfl
theorem k29 : ((Rows.consoleBackRow.pinned == Rows.consoleBackRow.pinnedBy)) = true := by kernel_rfl
theorem k30 : ((Rows.consoleBackRow.veiled == (Tryz.f5.params.toList ++ Rows.consoleBackSpec.plain.varTypes Tryz.pinned.checked.prog ++ Tryz.f5.resultTypes.toList).any (Tryz.pinned.checked.prog.veiledRec ·))) = true := by kernel_rfl
theorem k31 : (Rows.consoleBackRow.veiledFits Tryz.pinned.checked.prog Tryz.f5.params.toList (Tryz.f5.params.toList ++ Rows.consoleBackSpec.plain.varTypes Tryz.pinned.checked.prog ++ Tryz.f5.resultTypes.toList)) = true := by kernel_rfl
theorem closed : joinedFacts Tryz.pinned.checked.prog 5 Tryz.f5 Rows.consoleBackSpec Rows.consoleBackRow = true := by
  unfold joinedFacts
  exact and_true2 (and_true2 (and_true2 (and_true2 (and_true2 (and_true2 (and_true2 (and_true2 (and_true2 (and_true2 (and_true2 (and_true2 (and_true2 (and_true2 (and_true2 (and_true2 (and_true2 (and_true2 (and_true2 (and_true2 (and_true2 (and_true2 (and_true2 (and_true2 (and_true2 (and_true2 (and_true2 (and_true2 (and_true2 (and_true2 (and_true2 k0 closed2.1) closed2.2) k3) k4) k5) k6) k7) k8) k9) k10) k11) k12) k13) k14) k15) k16) k17) k18) k19) k20) k21) k22) k23) heard) enters) k26) k27) (by kernel_rfl)) k29) k30) k31
end Go.Proofs.YtiblpkgbabjmfaaGreatDoor.consoleBack
