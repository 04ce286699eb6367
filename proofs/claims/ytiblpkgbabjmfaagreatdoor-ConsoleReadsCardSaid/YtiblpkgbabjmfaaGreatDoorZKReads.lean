/- The closed facts of the row consoleReads, each by itself. -/
import Derived.Test.YtiblpkgbabjmfaaGreatDoorKE
import Derived.Test.YtiblpkgbabjmfaaGreatDoorKH
import Derived.Test.YtiblpkgbabjmfaaGreatDoorKI
namespace Go.Proofs.YtiblpkgbabjmfaaGreatDoor.consoleReads
open Go
theorem k0 : (Rows.consoleReadsRow.wf (OpenSpec.ofChange Rows.consoleReadsSpec)) = true := by kernel_rfl
theorem k3 : (Tryz.f3.params.all (Tryz.pinned.checked.prog.readableRec ·)) = true := by kernel_rfl
theorem k4 : (namedTie Tryz.pinned.checked.prog Rows.consoleReadsRow.named Rows.consoleReadsSpec.vars) = true := by kernel_rfl
theorem k5 : ((Rows.consoleReadsRow.stops == [])) = true := by kernel_rfl
theorem k6 : ((Tryz.pinned.checked.prog.stops == [])) = true := by kernel_rfl
theorem k7 : ((Rows.consoleReadsRow.knobs == [])) = true := by kernel_rfl
theorem k8 : ((Tryz.pinned.checked.prog.stopKnobs == [])) = true := by kernel_rfl
theorem k9 : ((Rows.consoleReadsRow.inPlace == Tryz.pinned.checked.prog.inPlace 3)) = true := by rw [pinned_prog, inPlace_of closure3]; kernel_rfl
theorem k10 : ((Rows.consoleReadsRow.unfollowed == Tryz.pinned.checked.prog.unfollowed 3)) = true := by rw [pinned_prog, unfollowed3]; kernel_rfl
theorem k11 : ((Rows.consoleReadsRow.recurses == Tryz.pinned.checked.prog.recurses 3)) = true := by rw [pinned_prog, recurses_of unfollowed3]; kernel_rfl
theorem k12 : ((Rows.consoleReadsRow.named == Tryz.pinned.checked.prog.varsNamed 3)) = true := by rw [pinned_prog, varsNamed_of closure3]; kernel_rfl
theorem k13 : ((Rows.consoleReadsRow.maps == (Tryz.f3.params.toList ++ Rows.consoleReadsSpec.plain.varTypes Tryz.pinned.checked.prog).any (Tryz.pinned.checked.prog.mapsRec ·))) = true := by kernel_rfl
theorem k14 : ((Rows.consoleReadsRow.ifaces == (Tryz.f3.params.toList ++ Rows.consoleReadsSpec.plain.varTypes Tryz.pinned.checked.prog).any (Tryz.pinned.checked.prog.ifacesRec ·))) = true := by kernel_rfl
theorem k15 : ((Rows.consoleReadsRow.mapsOut == Tryz.pinned.checked.prog.mapsAmong Tryz.f3.resultTypes.toList)) = true := by kernel_rfl
theorem k16 : ((Rows.consoleReadsRow.loops == (Tryz.f3.params.toList ++ Rows.consoleReadsSpec.plain.varTypes Tryz.pinned.checked.prog).any (Tryz.pinned.checked.prog.loopsFrom ·))) = true := by kernel_rfl
theorem k17 : ((Rows.consoleReadsRow.wideKeys == (Tryz.f3.params.toList ++ Rows.consoleReadsSpec.plain.varTypes Tryz.pinned.checked.prog ++ Tryz.f3.resultTypes.toList).any (Tryz.pinned.checked.prog.wideKeysFrom ·))) = true := by kernel_rfl
theorem k18 : (Rows.consoleReadsSpec.vars.all (Tryz.pinned.checked.prog.varReadable ·)) = true := by kernel_rfl
theorem k19 : (Tryz.f3.resultTypes.all (fun t => Tryz.pinned.checked.prog.readableRec t && decide (t < Tryz.pinned.checked.prog.types.size))) = true := by kernel_rfl
theorem k20 : ((Rows.consoleReadsRow.ifacesOut == Tryz.f3.resultTypes.toList.any (Tryz.pinned.checked.prog.ifacesRec ·))) = true := by kernel_rfl
theorem k21 : ((Rows.consoleReadsRow.loopsOut == Tryz.f3.resultTypes.toList.any (Tryz.pinned.checked.prog.loopsFrom ·))) = true := by kernel_rfl
theorem k22 : ((Rows.consoleReadsRow.plainKeys == Tryz.pinned.checked.prog.plainKeys)) = true := by kernel_rfl
theorem k23 : (Rows.consoleReadsRow.shortTexts.isNone) = true := by kernel_rfl
theorem k26 : ((Rows.consoleReadsRow.lifted == Tryz.pinned.checked.prog.liftsFinal)) = true := by kernel_rfl
theorem k27 : ((Tryz.pinned.checked.prog.make == some Rows.consoleReadsRow.make)) = true := by kernel_rfl
theorem k29 : ((Rows.consoleReadsRow.pinned == Rows.consoleReadsRow.pinnedBy)) = true := by kernel_rfl
theorem k30 : ((Rows.consoleReadsRow.veiled == (Tryz.f3.params.toList ++ Rows.consoleReadsSpec.plain.varTypes Tryz.pinned.checked.prog ++ Tryz.f3.resultTypes.toList).any (Tryz.pinned.checked.prog.veiledRec ·))) = true := by kernel_rfl
theorem k31 : (Rows.consoleReadsRow.veiledFits Tryz.pinned.checked.prog Tryz.f3.params.toList (Tryz.f3.params.toList ++ Rows.consoleReadsSpec.plain.varTypes Tryz.pinned.checked.prog ++ Tryz.f3.resultTypes.toList)) = true := by kernel_rfl
theorem closed : joinedFacts Tryz.pinned.checked.prog 3 Tryz.f3 Rows.consoleReadsSpec Rows.consoleReadsRow = true := by
  unfold joinedFacts
  exact and_true2 (and_true2 (and_true2 (and_true2 (and_true2 (and_true2 (and_true2 (and_true2 (and_true2 (and_true2 (and_true2 (and_true2 (and_true2 (and_true2 (and_true2 (and_true2 (and_true2 (and_true2 (and_true2 (and_true2 (and_true2 (and_true2 (and_true2 (and_true2 (and_true2 (and_true2 (and_true2 (and_true2 (and_true2 (and_true2 (and_true2 k0 closed2.1) closed2.2) k3) k4) k5) k6) k7) k8) k9) k10) k11) k12) k13) k14) k15) k16) k17) k18) k19) k20) k21) k22) k23) heard) enters) k26) k27) (by kernel_rfl)) k29) k30) k31
end Go.Proofs.YtiblpkgbabjmfaaGreatDoor.consoleReads
