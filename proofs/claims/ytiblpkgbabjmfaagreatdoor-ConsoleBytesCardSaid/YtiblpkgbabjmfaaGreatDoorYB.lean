/- The last step of a row whose call leaves all that was there as it was; ConsoleReads: the walk. -/
import Derived.Test.YtiblpkgbabjmfaaGreatDoorWXe
import Derived.Test.YtiblpkgbabjmfaaGreatDoorWT
import Derived.Test.YtiblpkgbabjmfaaGreatDoorWV
import Derived.Test.YtiblpkgbabjmfaaGreatDoorWK
import Derived.Below
import Derived.ChangeSame
namespace Go.Proofs.YtiblpkgbabjmfaaGreatDoor
section
open Go.RowKit Go.WideShapes Go.ChangeShapes
section
variable {H : Type} {enc : TypeId × Value → H} {P : Program}
theorem post_of_below {f : Func} {s : ChangeSpec} {apart fresh handsOn again : Bool} {W W' : World} {args : Array Value} {v : Value} {ds gs : List (DataW H)} {before pa pv : List MemPlace}
    (hW : DataW.Whole enc P f.params.toList s.vars apart W args.toList ds gs before)
    (hres : ∀ (b : Nat) (sp : Nat → Bool) (hd : Bool), DataW.TrodAll enc P W' b sp hd f.resultTypes.toList (v.resultList f.resultTypes.size) (s.fn H (ds ++ gs)).results [])
    (hargs : ∀ sp : Nat → Bool, (∀ p ∈ before, sp p.block = true) → DataW.TrodAll enc P W' 0 sp true f.params.toList args.toList (s.fn H (ds ++ gs)).args pa)
    (hvars : ∀ sp : Nat → Bool, (∀ p ∈ before, sp p.block = true) → DataW.TrodVars enc P W' sp s.vars (s.fn H (ds ++ gs)).vars pv)
    (hps : before = pa ++ pv) (hb : Below W.heap.size W W')
    (hok : ∀ (j : Nat) (t : TypeId) (r : Value), f.resultTypes[j]? = some t → (v.resultList f.resultTypes.size)[j]? = some r → Value.okWide P W' .any 0 t r) :
    s.post enc P f apart fresh handsOn again W args v W' := by
  have hlt : ∀ p ∈ before, p.block < W.heap.size := fun p hp => hW.lt p hp
  have hold : ∀ p ∈ before, (fun b => decide (b < W.heap.size)) p.block = true := fun p hp => by simpa using hlt p hp
  refine ⟨ds, gs, before, [], pa, pv, hW, hres _ _ _, hargs _ hold, hvars _ hold, World.keptBut_mono (fun p hp => ⟨hp, ?_⟩) (hb.frame (· ∈ before)), fun _ => ?_⟩
  · rw [hps, List.mem_append] at hp
    exact Or.inr hp
  · obtain ⟨_, _, _, _, _, hz, hn⟩ := hW
    refine ⟨hok, _, _, ([] ++ pa) ++ pv, ⟨[] ++ pa, pv, trodAll_append (hargs _ (fun _ _ => rfl)) (hres _ _ _), hvars _ (fun _ _ => rfl), rfl, ?_, ?_⟩, ?_⟩
    · intro b off hp
      have hin : MemPlace.cell b off ∈ before := by rw [hps]; simpa using hp
      rw [hb.frozen (hlt _ hin)]
      exact hz b off hin
    · intro ha
      have := hn ha
      rw [hps] at this
      simpa using this
    · intro p hp _
      rw [hps]
      simpa using hp
end
end
open Go.RowKit

theorem parseV_eq (o : Option Cmd) : ∃ c n, parseV o = .tuple #[.agg (cmdC c), .int .i64 n] := by
  cases o with
  | none => exact ⟨cmd0, 60, rfl⟩
  | some c => exact ⟨c, 0, rfl⟩

theorem same_self (c : Cmd) (w : World) : Calls Tryz.prog 10 #[.agg (cmdC c), .agg (cmdC c)] w (BoolPost w true) := by
  have h := same10 c c w
  rw [show decide (c = c) = true by simp] at h
  exact h

set_option maxRecDepth 100000 in
set_option maxHeartbeats 1000000 in
theorem reads_long (a0 : ByteArray) (h : 40000 < a0.size) (w0 : a0.size ≤ maxLen) (w : World) (hL : Laid w) : Calls Tryz.prog 3 #[.string a0] w (BoolPost w true) := by
  unfold maxLen at w0
  have HL := Lib.hid hL
  clear hL
  go_enter Tryz.func3, Tryz.ntmps3
  go_wp2_with (go_at_call 7; refine (wakes7 _ HL.out).mono ?_; rintro e W1 ⟨rfl, b1⟩)
  go_ret
  exact ⟨rfl, b1⟩

set_option maxRecDepth 100000 in
set_option maxHeartbeats 1000000 in
theorem reads_short (a0 : ByteArray) (h : ¬ 40000 < a0.size) (w : World) (hL : Laid w) : Calls Tryz.prog 3 #[.string a0] w (BoolPost w true) := by
  have HL := Lib.hid hL
  obtain ⟨c, n, hc⟩ := parseV_eq (parseL a0.data.toList)
  have hnn : (n == n) = true := by simp
  have hp := parse8 a0 w hL (by omega)
  have hr := fun W => ref9 a0 W (by omega)
  have HS := Lib.hid (same_self c)
  unfold CmdPost at hp hr
  rw [hc] at hp hr
  clear hc hL
  unfold cmdC at hp hr HS
  have HP := Lib.hid hp
  have HR := Lib.hid hr
  clear hp hr
  go_enter Tryz.func3, Tryz.ntmps3
  go_upto_region 4 with (first
    | (go_at_call 8; refine HP.out.mono ?_; rintro e W1 ⟨rfl, b1⟩; have B1 := Lib.hid b1; clear b1)
    | (refine store_cmd rfl (.tmp 3) (.tmp 14) rfl rfl _ rfl rfl rfl (by simp [Value.oneCell']) ?_; intro W2 c2 b2; have C2 := Lib.hid c2; have B2 := Lib.hid (below_after B1.out b2); clear c2 b2))
  go_upto_region 5 with (first
    | (go_at_call 9; refine (HR.out _).mono ?_; rintro e W3 ⟨rfl, b3⟩; have C3 := Lib.hid ((b3.block _ (Array.getElem?_eq_some_iff.1 C2.out).1).trans C2.out); have B3 := Lib.hid (below_after B2.out b3); clear b3)
    | (refine store_cmd rfl (.tmp 5) (.tmp 19) rfl rfl _ rfl rfl rfl (by simp [Value.oneCell']) ?_; intro W4 c4 b4; obtain ⟨r0, r1, r2, r3, r4, r5, -⟩ := blk_facts c4; obtain ⟨q0, q1, q2, q3, q4, q5, -⟩ := blk_facts ((b4.block _ (Array.getElem?_eq_some_iff.1 C3.out).1).trans C3.out); have B4 := Lib.hid (below_after B3.out b4); clear c4 b4))
  go_wp2_with (first
    | (go_at_call 10; refine (HS.out _).mono ?_; rintro e W5 ⟨rfl, b5⟩; have B5 := Lib.hid (below_after B4.out b5); clear b5 q0 q1 q2 q3 q4 q5 r0 r1 r2 r3 r4 r5)
    | (go_at_call 7; refine (wakes7 _ (HL.out.below B5.out)).mono ?_; rintro e W6 ⟨rfl, b6⟩; have B6 := Lib.hid (below_after B5.out b6); clear b6))
  go_ret
  exact ⟨rfl, B6.out⟩

theorem reads3 (a0 : ByteArray) (w0 : a0.size ≤ maxLen) (w : World) (hL : Laid w) : Calls Tryz.prog 3 #[.string a0] w (BoolPost w true) := by
  by_cases h : 40000 < a0.size
  · exact reads_long a0 h w0 w hL
  · exact reads_short a0 h w hL
end Go.Proofs.YtiblpkgbabjmfaaGreatDoor
