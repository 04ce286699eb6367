/- The statement StoreNames: for every text s the call StoreNames(s) returns true, and the text reads as it did; no condition. -/
import Derived.Test.YtglichmmoibagaaW
import Derived.Test.YtglichmmoibagaaC
import Derived.WalkKit
import Derived.ProofKit
import Derived.OpenShut
import Derived.ShutString
namespace Go.Proofs.Ytglichmmoibagaa.storeNames
open Go.ChangeShapes Go.WideShapes Go.ChangeAt Go.RowKit
open Go.ChangeMaps (open_string shut_string)
set_option linter.unusedVariables false

theorem own : ownKnob Try.prog.godebug = none := by kernel_rfl

/-- The whole call: true, and all that was there is as it was. -/
theorem walk_long (a0 : ByteArray) (h : 5000 < a0.size) (w0 : a0.size ≤ maxLen) (w : World) :
    Calls Try.prog 3 #[.string a0] w fun e w' => e = .returned (.bool true) ∧ Below w.heap.size w w' := by
  unfold maxLen at w0
  go_enter Try.func3, Try.ntmps3
  go_wp2_with fail
  refine (wakes8 _).mono ?_
  rintro e w1 ⟨rfl, h1⟩
  go_wp2
  go_ret
  exact ⟨rfl, h1⟩

theorem put_x (n : List UInt8) : putCode [] n ⟨#[120]⟩ = if nameL n = true then 0 else 70 := by
  unfold putCode
  have h : ¬ 131072 < (ByteArray.mk #[120]).size := by decide
  cases hn : nameL n <;> simp [h]

theorem walk_short (a0 : ByteArray) (h : ¬ 5000 < a0.size) (w0 : a0.size ≤ maxLen) (w : World) :
    Calls Try.prog 3 #[.string a0] w fun e w' => e = .returned (.bool true) ∧ Below w.heap.size w w' := by
  have w0' := w0
  unfold maxLen at w0
  have hp := fun (w1 : World) (hh : Own w.heap.size w w1 w.heap.size []) => own_put (t := ⟨#[120]⟩) hh w0' (by decide) (by simp)
  have h9 := name9 a0 w w0'
  have h10 := fun w1 => name10 a0 w1 w0'
  rw [put_x] at hp
  generalize nameL a0.data.toList = nb at *
  have HP := Lib.hid hp
  have H9 := Lib.hid h9
  have H10 := Lib.hid h10
  clear hp h9 h10
  cases nb
  all_goals
    go_enter Try.func3, Try.ntmps3
    go_wp2_with fail
    refine H9.out.mono ?_
    rintro e w1 ⟨rfl, rfl⟩
    go_wp2_with fail
    refine (H10.out _).mono ?_
    rintro e w1 ⟨rfl, rfl⟩
    go_wp2_with fail
    refine (own_new w).mono ?_
    rintro e w1 ⟨rfl, h1⟩
    go_wp2_with fail
    refine (HP.out _ h1).mono ?_
    rintro e w2 ⟨rfl, h2⟩
    go_wp2_with fail
    refine (H10.out _).mono ?_
    rintro e w1 ⟨rfl, rfl⟩
    go_wp2_with fail
    refine (wakes8 _).mono ?_
    rintro e w3 ⟨rfl, h3⟩
    go_wp2
    go_ret
    obtain ⟨_, _, _, _, hb, hB⟩ := h2
    exact ⟨rfl, hb.trans (h3.mono (Nat.le_trans hB hb.size))⟩

theorem walk (a0 : ByteArray) (w0 : a0.size ≤ maxLen) (w : World) :
    Calls Try.prog 3 #[.string a0] w fun e w' => e = .returned (.bool true) ∧ Below w.heap.size w w' := by
  by_cases h : 5000 < a0.size
  · exact walk_long a0 h w0 w
  · exact walk_short a0 h w0 w

/-! ### THE ROW's STEP: WRITTEN OUT: LEAVE IT -/
set_option maxRecDepth 100000 in
theorem lifted (os : Os) (started : os.Started) (H : Type) (enc : TypeId × Value → H) :
    ReturnsInHanded {} Try.checked os 3 .any (Rows.storeNamesSpec.pre6 enc Try.prog Try.f3 Rows.storeNamesRow.domain false) (Rows.storeNamesSpec.post enc Try.prog Try.f3 false true false false) := by
  refine returnsInHanded_of_change (C := Try.checked) own started (by kernel_rfl) Try.func3
    (ChangeSpec.witness6 (enc := enc) (C := Try.checked) false ⟨#[], #[.string ByteArray.empty], []⟩ 8 (by kernel_rfl) (by kernel_rfl) (by kernel_rfl) (by kernel_rfl)) ?_
  intro W base args ds gs before hval0 hW hcnd _
  have hval : ∀ (j : Nat) t v, Try.f3.params[j]? = some t → args[j]? = some v → Value.okWide Try.prog W .any base t v := hval0
  have hW' := hW
  obtain ⟨p, q, hA0, hV, rfl, hfz, hnd⟩ := hW
  have hA : DataW.TrodAll enc Try.prog W 0 (fun _ => true) true Try.f3.params.toList args.toList ds p := hA0
  rw [Try.params3] at hA hval
  obtain ⟨v0, vs0, d0, ds0, p0, q0, hargs, rfl, rfl, h0, r0⟩ := trodAll_cons hA
  obtain ⟨rfl, rfl, rfl⟩ := trodAll_nil r0
  obtain rfl : args = #[v0] := by cases args; simp_all
  obtain ⟨rfl, rfl⟩ := trodVars_none hV
  obtain ⟨a0, rfl, rfl, rfl, w0⟩ := open_string Try.underlying9 (hval 0 9 v0 rfl rfl) h0
  clear hA0 hval0
  simp only [List.append_nil] at hW'
  refine (walk a0 w0 W).mono fun e W' ⟨he, hg⟩ => ?_
  subst he
  exact ⟨_, rfl, post_of_below (pa := []) (pv := []) hW' (fun _ _ _ => (trodAll_cons_mk (shut_bool Try.underlying4 _) trodAll_mk0)) (fun sp _ => (trodAll_cons_mk (shut_string Try.underlying9 w0) trodAll_mk0)) (fun _ _ => rfl) rfl
    hg (ok_one (by kernel_rfl) rfl (okWide_bool_mk Try.underlying4 _))⟩

theorem over : Rows.storeNamesRow.holds Try.pinned (OpenSpec.ofChange Rows.storeNamesSpec) :=
  OpenClaim.holds_of_wide 3 Try.f3 rfl rfl rfl rfl rfl rfl rfl ⟨rfl, rfl, rfl, rfl, rfl⟩ rfl rfl rfl rfl rfl (by kernel_rfl) Try.func3 (by kernel_rfl)
    (of_decide_eq_true (by kernel_rfl)) (by unfold Func.isWrapper; first | (rw [if_pos (by decide +kernel)]; kernel_rfl) | (rw [if_neg (by decide +kernel)]; exact ⟨rfl, rfl⟩))
    (fun os started H enc _ => lifted os started H enc)

/-- ████ THE STATEMENT ████ -/
theorem proved : Rows.StoreNamesSaid :=
  over
#print axioms proved
end Go.Proofs.Ytglichmmoibagaa.storeNames
