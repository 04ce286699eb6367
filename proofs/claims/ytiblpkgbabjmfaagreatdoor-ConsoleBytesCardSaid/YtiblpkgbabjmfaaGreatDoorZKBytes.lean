/- The closed facts of the row consoleBytes, each by itself. -/
import Derived.Test.YtiblpkgbabjmfaaGreatDoorKE
import Derived.Test.YtiblpkgbabjmfaaGreatDoorKH
import Derived.Test.YtiblpkgbabjmfaaGreatDoorKI
namespace Go.Proofs.YtiblpkgbabjmfaaGreatDoor.consoleBytes
open Go
theorem k0 : (Rows.consoleBytesRow.wf (OpenSpec.ofChange Rows.consoleBytesSpec)) = true := by kernel_rfl
theorem k3 : (Tryz.f6.params.all (Tryz.pinned.checked.prog.readableRec ·)) = true := by kernel_rfl
theorem k4 : (namedTie Tryz.pinned.checked.prog Rows.consoleBytesRow.named Rows.consoleBytesSpec.vars) = true := by kernel_rfl
theorem k5 : ((Rows.consoleBytesRow.stops == [])) = true := by kernel_rfl
theorem k6 : ((Tryz.pinned.checked.prog.stops == [])) = true := by kernel_rfl
theorem k7 : ((Rows.consoleBytesRow.knobs == [])) = true := by kernel_rfl
theorem k8 : ((Tryz.pinned.checked.prog.stopKnobs == [])) = true := by kernel_rfl
theorem k9 : ((Rows.consoleBytesRow.inPlace == Tryz.pinned.checked.prog.inPlace 6)) = true := by rw [pinned_prog, inPlace_of closure6]; kernel_rfl
theorem k10 : ((Rows.consoleBytesRow.unfollowed == Tryz.pinned.checked.prog.unfollowed 6)) = true := by rw [pinned_prog, unfollowed6]; kernel_rfl
theorem k11 : ((Rows.consoleBytesRow.recurses == Tryz.pinned.checked.prog.recurses 6)) = true := by rw [pinned_prog, recurses_of unfollowed6]; kernel_rfl
theorem k12 : ((Rows.consoleBytesRow.named == Tryz.pinned.checked.prog.varsNamed 6)) = true := by rw [pinned_prog, varsNamed_of closure6]; kernel_rfl
theorem k13 : ((Rows.consoleBytesRow.maps == (Tryz.f6.params.toList ++ Rows.consoleBytesSpec.plain.varTypes Tryz.pinned.checked.prog).any (Tryz.pinned.checked.prog.mapsRec ·))) = true := by kernel_rfl
theorem k14 : ((Rows.consoleBytesRow.ifaces == (Tryz.f6.params.toList ++ Rows.consoleBytesSpec.plain.varTypes Tryz.pinned.checked.prog).any (Tryz.pinned.checked.prog.ifacesRec ·))) = true := by kernel_rfl
theorem k15 : ((Rows.consoleBytesRow.mapsOut == Tryz.pinned.checked.prog.mapsAmong Tryz.f6.resultTypes.toList)) = true := by kernel_rfl
theorem k16 : ((Rows.consoleBytesRow.loops == (Tryz.f6.params.toList ++ Rows.consoleBytesSpec.plain.varTypes Tryz.pinned.checked.prog).any (Tryz.pinned.checked.prog.loopsFrom ·))) = true := by kernel_rfl
theorem k17 : ((Rows.consoleBytesRow.wideKeys == (Tryz.f6.params.toList ++ Rows.consoleBytesSpec.plain.varTypes Tryz.pinned.checked.prog ++ Tryz.f6.resultTypes.toList).any (Tryz.pinned.checked.prog.wideKeysFrom ·))) = true := by kernel_rfl
theorem k18 : (Rows.consoleBytesSpec.vars.all (Tryz.pinned.checked.prog.varReadable ·)) = true := by kernel_rfl
theorem k19 : (Tryz.f6.resultTypes.all (fun t => Tryz.pinned.checked.prog.readableRec t && decide (t < Tryz.pinned.checked.prog.types.size))) = true := by kernel_rfl
theorem k20 : ((Rows.consoleBytesRow.ifacesOut == Tryz.f6.resultTypes.toList.any (Tryz.pinned.checked.prog.ifacesRec ·))) = true := by kernel_rfl
theorem k21 : ((Rows.consoleBytesRow.loopsOut == Tryz.f6.resultTypes.toList.any (Tryz.pinned.checked.prog.loopsFrom ·))) = true := by kernel_rfl
theorem k22 : ((Rows.consoleBytesRow.plainKeys == Tryz.pinned.checked.prog.plainKeys)) = true := by kernel_rfl
theorem k23 : (Rows.consoleBytesRow.shortTexts.isNone) = true := by kernel_rfl
theorem k26 : ((Rows.consoleBytesRow.lifted == Tryz.pinned.checked.prog.liftsFinal)) = true := by kernel_rfl
theorem k27 : ((Tryz.pinned.checked.prog.make == some Rows.consoleBytesRow.make)) = true := by kernel_rfl
theorem k29 : ((Rows.consoleBytesRow.pinned == Rows.consoleBytesRow.pinnedBy)) = true := by kernel_rfl
theorem k30 : ((Rows.consoleBytesRow.veiled == (Tryz.f6.params.toList ++ Rows.consoleBytesSpec.plain.varTypes Tryz.pinned.checked.prog ++ Tryz.f6.resultTypes.toList).any (Tryz.pinned.checked.prog.veiledRec ·))) = true := by kernel_rfl
theorem k31 : (Rows.consoleBytesRow.veiledFits Tryz.pinned.checked.prog Tryz.f6.params.toList (Tryz.f6.params.toList ++ Rows.consoleBytesSpec.plain.varTypes Tryz.pinned.checked.prog ++ Tryz.f6.resultTypes.toList)) = true := by kernel_rfl
theorem closed : joinedFacts Tryz.pinned.checked.prog 6 Tryz.f6 Rows.consoleBytesSpec Rows.consoleBytesRow = true := by
  unfold joinedFacts
  exact and_true2 (and_true2 (and_true2 (and_true2 (and_true2 (and_true2 (and_true2 (and_true2 (and_true2 (and_true2 (and_true2 (and_true2 (and_true2 (and_true2 (and_true2 (and_true2 (and_true2 (and_true2 (and_true2 (and_true2 (and_true2 (and_true2 (and_true2 (and_true2 (and_true2 (and_true2 (and_true2 (and_true2 (and_true2 (and_true2 (and_true2 k0 closed2.1) closed2.2) k3) k4) k5) k6) k7) k8) k9) k10) k11) k12) k13) k14) k15) k16) k17) k18) k19) k20) k21) k22) k23) heard) enters) k26) k27) (by kernel_rfl)) k29) k30) k31
end Go.Proofs.YtiblpkgbabjmfaaGreatDoor.consoleBytes
