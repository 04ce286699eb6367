/- The statement ConsoleBytes: for every text the call ConsoleBytes(text) returns true, and the text reads as it did; where the listed variables of the library start as the program's text lays them. -/
import Derived.Test.YtiblpkgbabjmfaaGreatDoorYA
import Derived.Test.YtiblpkgbabjmfaaGreatDoorYE
import Derived.Test.YtiblpkgbabjmfaaGreatDoorCards
import Derived.Test.YtiblpkgbabjmfaaGreatDoorXU
import Derived.Test.YtiblpkgbabjmfaaGreatDoorZKBytes
import Derived.Test.YtiblpkgbabjmfaaGreatDoorZNBytes
import Derived.Test.YtiblpkgbabjmfaaGreatDoorKG
import Derived.WalkKit
import Derived.ProofKit
import Derived.OpenShut
import Derived.ShutString
import Derived.SevenTiedAt
namespace Go.Proofs.YtiblpkgbabjmfaaGreatDoor.consoleBytes
open Go.ChangeShapes Go.WideShapes Go.ChangeAt Go.RowKit
open Go.ChangeMaps (open_string shut_string)

theorem own : ownKnob Tryz.prog.godebug = none := by kernel_rfl

set_option maxRecDepth 100000 in
theorem lifted (os : Os) (started : os.Started) (H : Type) (enc : TypeId × Value → H) :
    ReturnsInHanded {} Tryz.checked os 6 .any (fun w args => (Rows.consoleBytesSpec.pre enc Tryz.prog Tryz.f6 [] false w args ∧ laidMetH Tryz.prog laids w) ∧ sizedMet enc Tryz.prog Tryz.f6 (OpenSpec.ofChange Rows.consoleBytesSpec) false w args)
      (Rows.consoleBytesSpec.post enc Tryz.prog Tryz.f6 false true false false) := by
  refine returnsInHanded_of_change_and (C := Tryz.checked) (X := fun w _ => laidMetH Tryz.prog laids w) (fun _ _ _ hh h => h.of_heap hh) own started (by kernel_rfl) Tryz.func6
    (ChangeSpec.witness_shaped (enc := enc) (C := Tryz.checked) (os := os) (X := fun w _ => laidMetH Tryz.prog laids w) false (World.laidAll Tryz.prog os laids) #[.string ByteArray.empty] 8 (World.laidAll_os _ _ _)
      (witness_shape os _) (by kernel_rfl) (by kernel_rfl) (by kernel_rfl) (witness_laid os _)) ?_
  intro W base args ds gs before hval0 hW _ _ hL _
  have hval : ∀ (j : Nat) t v, Tryz.f6.params[j]? = some t → args[j]? = some v → Value.okWide Tryz.prog W .any base t v := hval0
  have hW' := hW
  obtain ⟨p, q, hA0, hV, rfl, hfz, hnd⟩ := hW
  have hA : DataW.TrodAll enc Tryz.prog W 0 (fun _ => true) true Tryz.f6.params.toList args.toList ds p := hA0
  rw [Tryz.params6] at hA hval
  obtain ⟨v0, vs0, d0, ds0, p0, q0, hargs, rfl, rfl, h0, r0⟩ := trodAll_cons hA
  obtain ⟨rfl, rfl, rfl⟩ := trodAll_nil r0
  obtain rfl : args = #[v0] := by cases args; simp_all
  obtain ⟨rfl, rfl⟩ := trodVars_none hV
  obtain ⟨a0, rfl, rfl, rfl, w0⟩ := open_string Tryz.underlying9 (hval 0 9 v0 rfl rfl) h0
  clear hA0 hval0
  simp only [List.append_nil] at hW'
  refine (bytes6 a0 w0 W (of_laid hL)).mono fun e W' ⟨he, hg⟩ => ?_
  subst he
  exact ⟨_, rfl, post_of_below (pa := []) (pv := []) hW' (fun _ _ _ => (trodAll_cons_mk (shut_bool Tryz.underlying4 _) trodAll_mk0)) (fun sp _ => (trodAll_cons_mk (shut_string Tryz.underlying9 w0) trodAll_mk0)) (fun _ _ => rfl) rfl
    hg (ok_one (by kernel_rfl) rfl (okWide_bool_mk Tryz.underlying4 _))⟩

theorem lifted_at (C : Checked) (hC : C = Tryz.checked) (P : Program) (hP : P = Tryz.prog) (os : Os) (started : os.Started) (H : Type) (enc : TypeId × Value → H) :
    ReturnsInHanded {} C os 6 .any (fun w args => (Rows.consoleBytesSpec.pre enc P Tryz.f6 [] false w args ∧ laidMetH P laids w) ∧ sizedMet enc P Tryz.f6 (OpenSpec.ofChange Rows.consoleBytesSpec) false w args)
      (Rows.consoleBytesSpec.post enc P Tryz.f6 false true false false) := by
  subst hC; subst hP; exact lifted os started H enc
theorem pinned_checked : Tryz.pinned.checked = Tryz.checked := by kernel_rfl

theorem over : Rows.ConsoleBytesSaid :=
  OpenClaim.holds_of_wide 6 Tryz.f6 rfl rfl rfl rfl rfl rfl rfl ⟨rfl, rfl, rfl, rfl, rfl⟩ rfl rfl rfl rfl rfl named6 (by rw [pinned_prog]; exact Tryz.func6) closed
    (of_decide_eq_true (by kernel_rfl)) (by unfold Func.isWrapper; first | (rw [if_pos (by decide +kernel)]; kernel_rfl) | (rw [if_neg (by decide +kernel)]; exact ⟨rfl, rfl⟩))
    (fun os started H enc _ => lifted_at Tryz.pinned.checked pinned_checked Tryz.pinned.checked.prog pinned_prog os started H enc)
#print axioms over

/-- The card. -/
theorem proved : Rows.ConsoleBytesCardSaid :=
  Claim7.holds_tied_plain_at .later [] [.sentinel, .sentinel, .data, .data, .data, .data, .listed, .pinned, .data, .pinned] true (true, "6f8dc262c007ab9449760b7b96ab71612de9c99420d6719daf872c8b8ac488ee") true over (fun _ h => by cases h) (by kernel_rfl) (fun _ h => by cases h) consoleBytes_row_tie rfl ⟨rfl, rfl⟩ (by kernel_rfl) rfl
    (fun f fn hf hfn => by
      obtain rfl : f = 6 := (Option.some.inj (named6.symm.trans hf)).symm
      obtain rfl : fn = Tryz.f6 := by rw [pinned_prog] at hfn; exact (Option.some.inj (Tryz.func6.symm.trans hfn)).symm
      exact ⟨by kernel_rfl, fun j t ht => by
        rw [Tryz.params6] at ht
        have hm : t ∈ [9] := by simpa using Array.mem_of_getElem? ht
        have hall : ([9].all fun u => !Tryz.pinned.checked.prog.wantsStandIn u) = true := by kernel_rfl
        exact (show Tryz.pinned.checked.prog.wantsStandIn t = false by simpa using List.all_eq_true.1 hall t hm)⟩)
    (by unfold OpenClaim.goesBy Program.goesAt; rw [pinned_prog, goes_from]; rfl)
#print axioms proved
end Go.Proofs.YtiblpkgbabjmfaaGreatDoor.consoleBytes
