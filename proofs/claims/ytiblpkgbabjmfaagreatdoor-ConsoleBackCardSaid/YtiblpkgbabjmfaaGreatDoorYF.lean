/- ConsoleBack: the walk. -/
import Derived.Test.YtiblpkgbabjmfaaGreatDoorYC
import Derived.Lib.ParseIntBCases
namespace Go.Proofs.YtiblpkgbabjmfaaGreatDoor
open Go.RowKit

theorem bytes_eq2 (a0 : ByteArray) : (⟨a0.data.toList.toArray⟩ : ByteArray) = a0 := by
  obtain ⟨⟨l⟩⟩ := a0; rfl

theorem num_small {s : List UInt8} {n : Nat} (h : numL s = some n) : n ≤ 4294967295 := by
  unfold numL at h
  split at h
  · cases h
  · split at h
    · cases h
    · split at h
      · rename_i u hu
        have := Lib.parseUintB_le hu
        obtain rfl := Option.some.inj h
        simpa using this
      · cases h

theorem parse_small {l : List UInt8} {c : Cmd} (h : parseL l = some c) : c.fuel ≤ 4294967295 ∧ c.words ≤ 4294967295 ∧ c.stack ≤ 4294967295 ∧ (c.op = 1 ∨ c.op = 5 ∨ c.text = []) := by
  unfold parseL parseW at h
  split at h
  · split at h
    · obtain rfl := Option.some.inj h; simp
    · split at h
      · obtain rfl := Option.some.inj h; simp
      · cases h
  · split at h
    · obtain ⟨x, _, rfl⟩ := Option.map_eq_some_iff.1 h; simp
    · split at h
      · obtain ⟨k, hk, h⟩ := Option.bind_eq_some_iff.1 h
        have := num_small hk
        obtain ⟨x, _, rfl⟩ := Option.map_eq_some_iff.1 h; simp; omega
      · cases h
  · split at h
    · obtain ⟨k, hk, h⟩ := Option.bind_eq_some_iff.1 h
      have h1 := num_small hk
      obtain ⟨x, hx, rfl⟩ := Option.map_eq_some_iff.1 h
      have h2 := num_small hx
      simp; omega
    · cases h
  · cases h

theorem parse_lens {l : List UInt8} {c : Cmd} (h : parseL l = some c) : c.name.length ≤ l.length ∧ c.text.length ≤ l.length := by
  have hl := congrArg List.length (line_parse h)
  have hx := hexL_length c.text
  obtain ⟨_, _, _, ht⟩ := parse_small h
  have hop : c.op = 1 ∨ c.op = 2 ∨ c.op = 3 ∨ c.op = 4 ∨ c.op = 5 := by
    unfold parseL parseW at h
    split at h
    · split at h
      · obtain rfl := Option.some.inj h; simp
      · split at h
        · obtain rfl := Option.some.inj h; simp
        · cases h
    · split at h
      · obtain ⟨x, _, rfl⟩ := Option.map_eq_some_iff.1 h; simp
      · split at h
        · obtain ⟨k, hk, h⟩ := Option.bind_eq_some_iff.1 h
          obtain ⟨x, _, rfl⟩ := Option.map_eq_some_iff.1 h; simp
        · cases h
    · split at h
      · obtain ⟨k, hk, h⟩ := Option.bind_eq_some_iff.1 h
        obtain ⟨x, hx, rfl⟩ := Option.map_eq_some_iff.1 h
        simp
      · cases h
    · cases h
  have h5 : c.op = 5 → c.name = [] := by
    intro e
    unfold parseL parseW at h
    split at h
    · split at h
      · obtain rfl := Option.some.inj h; simp at e
      · split at h
        · obtain rfl := Option.some.inj h; simp at e
        · cases h
    · split at h
      · obtain ⟨x, _, rfl⟩ := Option.map_eq_some_iff.1 h; simp at e
      · split at h
        · obtain ⟨k, hk, h⟩ := Option.bind_eq_some_iff.1 h
          obtain ⟨x, _, rfl⟩ := Option.map_eq_some_iff.1 h; rfl
        · cases h
    · split at h
      · obtain ⟨k, hk, h⟩ := Option.bind_eq_some_iff.1 h
        obtain ⟨x, hx, rfl⟩ := Option.map_eq_some_iff.1 h
        simp at e
      · cases h
    · cases h
  rcases hop with e | e | e | e | e <;> simp only [lineW, e] at hl
  · simp [hx] at hl; omega
  all_goals
    rcases ht with h1 | h1 | h1
    · omega
    · first | omega | (rw [h5 e] at *; simp [hx] at hl ⊢; omega)
    · rw [h1]; first | (simp at hl ⊢; omega) | (rw [h5 e] at *; simp at hl ⊢)

theorem int_in {n : Int} (h : 0 ≤ n) (k : n ≤ 4294967295) : InInt n := by unfold InInt; omega

/-- The line of a command that a line gave is that line. -/
theorem back_line (a0 : ByteArray) (h : a0.size ≤ 40000) {k : Cmd} (hk : parseL a0.data.toList = some k) (W : World) (hL : Laid W) : Calls Tryz.prog 11 #[.agg (cmdC k)] W
    fun e w' => e = .returned (.tuple #[.string a0, .int .i64 0]) ∧ Below W.heap.size W w' := by
  have hal : a0.data.toList.length = a0.size := by simp
  obtain ⟨l1, l2⟩ := parse_lens hk
  obtain ⟨s1, s2, s3, _⟩ := parse_small hk
  obtain ⟨n1, n2, n3⟩ := parse_nonneg hk
  have h1 := line11 k W hL (by omega) (by omega) (int_in n1 s1) (int_in n2 s2) (int_in n3 s3)
  unfold LinePost at h1
  rw [lineL_parse hk] at h1
  simp only [lineV, bytes_eq2] at h1
  exact h1

theorem lineV_two (c : Cmd) : (∃ l, lineL c = some l ∧ parseL l = some c) ∨ lineL c = none := by
  cases h : lineL c with
  | none => exact .inr rfl
  | some l =>
    refine .inl ⟨l, rfl, ?_⟩
    unfold lineL at h
    split at h
    · rename_i e; rw [← Option.some.inj h]; exact e
    · cases h

set_option maxRecDepth 100000 in
set_option maxHeartbeats 1000000 in
theorem back_long (c : Cmd) (a0 : ByteArray) (h : 40000 < c.name.length ∨ 40000 < c.text.length ∨ 40000 < a0.size) (hn : c.name.length ≤ maxLen) (ht : c.text.length ≤ maxLen) (w0 : a0.size ≤ maxLen) (w : World) (hL : Laid w) : Calls Tryz.prog 5 #[cmdV c, .string a0] w (BoolPost w true) := by
  unfold maxLen at hn ht w0
  obtain ⟨h0, hb⟩ := box_cells c w
  have HL := Lib.hid (hL.below hb)
  have HB := Lib.hid hb
  clear hL hb h0
  unfold cmdV cmdC at *
  by_cases h1 : 40000 < c.name.length
  · clear h
    go_enter Tryz.func5, Tryz.ntmps5
    go_wp2_with (go_at_call 7; refine (wakes7 _ HL.out).mono ?_; rintro e W1 ⟨rfl, b1⟩)
    go_ret
    exact ⟨rfl, below_after HB.out b1⟩
  · by_cases h2 : 40000 < c.text.length
    · clear h
      go_enter Tryz.func5, Tryz.ntmps5
      go_wp2_with (go_at_call 7; refine (wakes7 _ HL.out).mono ?_; rintro e W1 ⟨rfl, b1⟩)
      go_ret
      exact ⟨rfl, below_after HB.out b1⟩
    · have h3 : 40000 < a0.size := by omega
      clear h
      go_enter Tryz.func5, Tryz.ntmps5
      go_wp2_with (go_at_call 7; refine (wakes7 _ HL.out).mono ?_; rintro e W1 ⟨rfl, b1⟩)
      go_ret
      exact ⟨rfl, below_after HB.out b1⟩
/-- Both ways of both halves. -/
theorem line_len (c : Cmd) (hn : ¬ 40000 < c.name.length) (ht : ¬ 40000 < c.text.length) (hf : InInt c.fuel) (hw : InInt c.words) (hst : InInt c.stack) {l : List UInt8} (hl : lineL c = some l) : l.length ≤ 999999 := by
  have e : l = lineW c := by
    unfold lineL at hl
    split at hl
    · exact (Option.some.inj hl).symm
    · cases hl
  have h1 := hexL_length c.text
  have h2 := Lib.itoa_length_le c.words hw.1 hw.2
  have h3 := Lib.itoa_length_le c.stack hst.1 hst.2
  have h4 := Lib.itoa_length_le c.fuel hf.1 hf.2
  rw [e]
  unfold lineW
  repeat' split
  all_goals simp [wWrite, wDelete, wCompile, wLoad, wRun, h1]
  all_goals omega

set_option maxRecDepth 100000 in
set_option maxHeartbeats 2000000 in
theorem back_ss (c : Cmd) (a0 : ByteArray) (hn : ¬ 40000 < c.name.length) (ht : ¬ 40000 < c.text.length) (h3 : ¬ 40000 < a0.size) (hf : InInt c.fuel) (hw : InInt c.words) (hst : InInt c.stack) {l : List UInt8} (hl : lineL c = some l) (hlen : l.length ≤ 999999) (hpl : parseL l = some c) {k : Cmd} (hk : parseL a0.data.toList = some k) (w : World) (hL : Laid w) : Calls Tryz.prog 5 #[cmdV c, .string a0] w (BoolPost w true) := by
  have hp1 := fun W hL => line11 c W hL (by omega) (by omega) hf hw hst
  unfold LinePost at hp1
  rw [hl] at hp1
  simp only [lineV] at hp1
  have hp2 : ∀ W, Laid W → Calls Tryz.prog 8 #[.string ⟨l.toArray⟩] W fun e w' => e = .returned (.tuple #[.agg (cmdC c), .int .i64 0]) ∧ Below W.heap.size W w' := fun W hL => by
    have h := parse8 ⟨l.toArray⟩ W hL (by show l.toArray.size ≤ _; simp; omega)
    unfold CmdPost at h
    rw [show (⟨l.toArray⟩ : ByteArray).data.toList = l by simp, hpl] at h
    exact h
  have hs := same_self c
  have hp3 : ∀ W, Laid W → Calls Tryz.prog 8 #[.string a0] W fun e w' => e = .returned (.tuple #[.agg (cmdC k), .int .i64 0]) ∧ Below W.heap.size W w' := fun W hL => by
    have h := parse8 a0 W hL (by omega)
    unfold CmdPost at h
    rw [hk] at h
    exact h
  have hp4 := fun W hL => back_line a0 (by omega) hk W hL
  have haa : (a0.toList == a0.toList) = true := by simp
  obtain ⟨h0, hb⟩ := box_cells c w
  have HL := Lib.hid hL
  have HB := Lib.hid hb
  have H0 := Lib.hid h0
  clear hl hL hb h0 hk hf hw hst
  unfold cmdV
  unfold cmdC at *
  have HP1 := Lib.hid hp1
  have HP3 := Lib.hid hp3
  clear hp1 hp3
  have HP2 := Lib.hid hp2
  have HS := Lib.hid hs
  clear hp2 hs hpl
  have HP4 := Lib.hid hp4
  clear hp4
  go_enter Tryz.func5, Tryz.ntmps5
  go_upto_region 3 with fail
  revert HB H0
  generalize World.alloc w _ = W0
  intro HB H0
  obtain ⟨q0, q1, q2, q3, q4, q5, -⟩ := blk_facts H0.out
  go_upto_region 5 with (go_at_call 11; refine (HP1.out _ (HL.out.below HB.out)).mono ?_; rintro e W1 ⟨rfl, b1⟩; have H1 := Lib.hid ((b1.block _ (Array.getElem?_eq_some_iff.1 H0.out).1).trans H0.out); have B1 := Lib.hid (below_after HB.out b1); clear b1)
  go_upto_region 6 with (first
    | (go_at_call 8; refine (HP2.out _ (HL.out.below B1.out)).mono ?_; rintro e W2 ⟨rfl, b2⟩; have H2 := Lib.hid ((b2.block _ (Array.getElem?_eq_some_iff.1 H1.out).1).trans H1.out); have B2 := Lib.hid (below_after B1.out b2); clear b2)
    | (refine store_cmd rfl (.tmp 7) (.tmp 39) rfl rfl _ rfl rfl rfl (by simp [Value.oneCell']) ?_; intro W3 c3 b3; obtain ⟨r0, r1, r2, r3, r4, r5, -⟩ := blk_facts c3; obtain ⟨p0, p1, p2, p3, p4, p5, -⟩ := blk_facts ((b3.block _ (Array.getElem?_eq_some_iff.1 H2.out).1).trans H2.out); have B3 := Lib.hid (below_after B2.out b3); clear c3 b3))
  go_upto_region 8 with (go_at_call 10; refine (HS.out _).mono ?_; rintro e W4 ⟨rfl, b4⟩; have BX := Lib.hid (below_after B3.out b4); clear b4)
  go_upto_region 9 with (first
    | (go_at_call 8; refine (HP3.out _ (HL.out.below BX.out)).mono ?_; rintro e W5 ⟨rfl, b5⟩; have B5 := Lib.hid (below_after BX.out b5); clear b5)
    | (refine store_cmd rfl (.tmp 9) (.tmp 52) rfl rfl _ rfl rfl rfl (by simp [Value.oneCell']) ?_; intro W6 c6 b6; obtain ⟨s0, s1, s2, s3, s4, s5, -⟩ := blk_facts c6; have B6 := Lib.hid (below_after B5.out b6); clear c6 b6))
  go_wp2_with (first
    | (go_at_call 11; refine (HP4.out _ (HL.out.below B6.out)).mono ?_; rintro e W7 ⟨rfl, b7⟩; have B7 := Lib.hid (below_after B6.out b7); clear b7)
    | (go_at_call 7; refine (wakes7 _ (HL.out.below B7.out)).mono ?_; rintro e W8 ⟨rfl, b8⟩; have B8 := Lib.hid (below_after B7.out b8); clear b8))
  go_ret
  exact ⟨rfl, B8.out⟩

set_option maxRecDepth 100000 in
set_option maxHeartbeats 2000000 in
theorem back_sn (c : Cmd) (a0 : ByteArray) (hn : ¬ 40000 < c.name.length) (ht : ¬ 40000 < c.text.length) (h3 : ¬ 40000 < a0.size) (hf : InInt c.fuel) (hw : InInt c.words) (hst : InInt c.stack) {l : List UInt8} (hl : lineL c = some l) (hlen : l.length ≤ 999999) (hpl : parseL l = some c) (hk : parseL a0.data.toList = none) (w : World) (hL : Laid w) : Calls Tryz.prog 5 #[cmdV c, .string a0] w (BoolPost w true) := by
  have hp1 := fun W hL => line11 c W hL (by omega) (by omega) hf hw hst
  unfold LinePost at hp1
  rw [hl] at hp1
  simp only [lineV] at hp1
  have hp2 : ∀ W, Laid W → Calls Tryz.prog 8 #[.string ⟨l.toArray⟩] W fun e w' => e = .returned (.tuple #[.agg (cmdC c), .int .i64 0]) ∧ Below W.heap.size W w' := fun W hL => by
    have h := parse8 ⟨l.toArray⟩ W hL (by show l.toArray.size ≤ _; simp; omega)
    unfold CmdPost at h
    rw [show (⟨l.toArray⟩ : ByteArray).data.toList = l by simp, hpl] at h
    exact h
  have hs := same_self c
  have hp3 : ∀ W, Laid W → Calls Tryz.prog 8 #[.string a0] W fun e w' => e = .returned (.tuple #[.agg (cmdC cmd0), .int .i64 60]) ∧ Below W.heap.size W w' := fun W hL => by
    have h := parse8 a0 W hL (by omega)
    unfold CmdPost at h
    rw [hk] at h
    exact h
  have hs0 := same_self cmd0
  obtain ⟨h0, hb⟩ := box_cells c w
  have HL := Lib.hid hL
  have HB := Lib.hid hb
  have H0 := Lib.hid h0
  clear hl hL hb h0 hk hf hw hst
  unfold cmdV
  unfold cmdC at *
  have HP1 := Lib.hid hp1
  have HP3 := Lib.hid hp3
  clear hp1 hp3
  have HP2 := Lib.hid hp2
  have HS := Lib.hid hs
  clear hp2 hs hpl
  unfold cmd0 at *
  have HS0 := Lib.hid hs0
  clear hs0
  go_enter Tryz.func5, Tryz.ntmps5
  go_upto_region 3 with fail
  revert HB H0
  generalize World.alloc w _ = W0
  intro HB H0
  obtain ⟨q0, q1, q2, q3, q4, q5, -⟩ := blk_facts H0.out
  go_upto_region 5 with (go_at_call 11; refine (HP1.out _ (HL.out.below HB.out)).mono ?_; rintro e W1 ⟨rfl, b1⟩; have H1 := Lib.hid ((b1.block _ (Array.getElem?_eq_some_iff.1 H0.out).1).trans H0.out); have B1 := Lib.hid (below_after HB.out b1); clear b1)
  go_upto_region 6 with (first
    | (go_at_call 8; refine (HP2.out _ (HL.out.below B1.out)).mono ?_; rintro e W2 ⟨rfl, b2⟩; have H2 := Lib.hid ((b2.block _ (Array.getElem?_eq_some_iff.1 H1.out).1).trans H1.out); have B2 := Lib.hid (below_after B1.out b2); clear b2)
    | (refine store_cmd rfl (.tmp 7) (.tmp 39) rfl rfl _ rfl rfl rfl (by simp [Value.oneCell']) ?_; intro W3 c3 b3; obtain ⟨r0, r1, r2, r3, r4, r5, -⟩ := blk_facts c3; obtain ⟨p0, p1, p2, p3, p4, p5, -⟩ := blk_facts ((b3.block _ (Array.getElem?_eq_some_iff.1 H2.out).1).trans H2.out); have B3 := Lib.hid (below_after B2.out b3); clear c3 b3))
  go_upto_region 8 with (go_at_call 10; refine (HS.out _).mono ?_; rintro e W4 ⟨rfl, b4⟩; have BX := Lib.hid (below_after B3.out b4); clear b4)
  go_upto_region 9 with (first
    | (go_at_call 8; refine (HP3.out _ (HL.out.below BX.out)).mono ?_; rintro e W5 ⟨rfl, b5⟩; have B5 := Lib.hid (below_after BX.out b5); clear b5)
    | (refine store_cmd rfl (.tmp 9) (.tmp 52) rfl rfl _ rfl rfl rfl (by simp [Value.oneCell']) ?_; intro W6 c6 b6; obtain ⟨s0, s1, s2, s3, s4, s5, -⟩ := blk_facts c6; have B6 := Lib.hid (below_after B5.out b6); clear c6 b6))
  go_wp2_with (first
    | (go_at_call 10; refine (HS0.out _).mono ?_; rintro e W7 ⟨rfl, b7⟩; have B7 := Lib.hid (below_after B6.out b7); clear b7)
    | (go_at_call 7; refine (wakes7 _ (HL.out.below B7.out)).mono ?_; rintro e W8 ⟨rfl, b8⟩; have B8 := Lib.hid (below_after B7.out b8); clear b8))
  go_ret
  exact ⟨rfl, B8.out⟩

set_option maxRecDepth 100000 in
set_option maxHeartbeats 2000000 in
theorem back_ns (c : Cmd) (a0 : ByteArray) (hn : ¬ 40000 < c.name.length) (ht : ¬ 40000 < c.text.length) (h3 : ¬ 40000 < a0.size) (hf : InInt c.fuel) (hw : InInt c.words) (hst : InInt c.stack) (hl : lineL c = none) {k : Cmd} (hk : parseL a0.data.toList = some k) (w : World) (hL : Laid w) : Calls Tryz.prog 5 #[cmdV c, .string a0] w (BoolPost w true) := by
  have hp1 := fun W hL => line11 c W hL (by omega) (by omega) hf hw hst
  unfold LinePost at hp1
  rw [hl] at hp1
  simp only [lineV] at hp1
  have hp3 : ∀ W, Laid W → Calls Tryz.prog 8 #[.string a0] W fun e w' => e = .returned (.tuple #[.agg (cmdC k), .int .i64 0]) ∧ Below W.heap.size W w' := fun W hL => by
    have h := parse8 a0 W hL (by omega)
    unfold CmdPost at h
    rw [hk] at h
    exact h
  have hp4 := fun W hL => back_line a0 (by omega) hk W hL
  have haa : (a0.toList == a0.toList) = true := by simp
  obtain ⟨h0, hb⟩ := box_cells c w
  have HL := Lib.hid hL
  have HB := Lib.hid hb
  have H0 := Lib.hid h0
  clear hl hL hb h0 hk hf hw hst
  unfold cmdV
  unfold cmdC at *
  have HP1 := Lib.hid hp1
  have HP3 := Lib.hid hp3
  clear hp1 hp3
  have HP4 := Lib.hid hp4
  clear hp4
  go_enter Tryz.func5, Tryz.ntmps5
  go_upto_region 3 with fail
  revert HB H0
  generalize World.alloc w _ = W0
  intro HB H0
  obtain ⟨q0, q1, q2, q3, q4, q5, -⟩ := blk_facts H0.out
  go_upto_region 8 with (go_at_call 11; refine (HP1.out _ (HL.out.below HB.out)).mono ?_; rintro e W4 ⟨rfl, b1⟩; have BX := Lib.hid (below_after HB.out b1); clear b1)
  go_upto_region 9 with (first
    | (go_at_call 8; refine (HP3.out _ (HL.out.below BX.out)).mono ?_; rintro e W5 ⟨rfl, b5⟩; have B5 := Lib.hid (below_after BX.out b5); clear b5)
    | (refine store_cmd rfl (.tmp 9) (.tmp 52) rfl rfl _ rfl rfl rfl (by simp [Value.oneCell']) ?_; intro W6 c6 b6; obtain ⟨s0, s1, s2, s3, s4, s5, -⟩ := blk_facts c6; have B6 := Lib.hid (below_after B5.out b6); clear c6 b6))
  go_wp2_with (first
    | (go_at_call 11; refine (HP4.out _ (HL.out.below B6.out)).mono ?_; rintro e W7 ⟨rfl, b7⟩; have B7 := Lib.hid (below_after B6.out b7); clear b7)
    | (go_at_call 7; refine (wakes7 _ (HL.out.below B7.out)).mono ?_; rintro e W8 ⟨rfl, b8⟩; have B8 := Lib.hid (below_after B7.out b8); clear b8))
  go_ret
  exact ⟨rfl, B8.out⟩

set_option maxRecDepth 100000 in
set_option maxHeartbeats 2000000 in
theorem back_nn (c : Cmd) (a0 : ByteArray) (hn : ¬ 40000 < c.name.length) (ht : ¬ 40000 < c.text.length) (h3 : ¬ 40000 < a0.size) (hf : InInt c.fuel) (hw : InInt c.words) (hst : InInt c.stack) (hl : lineL c = none) (hk : parseL a0.data.toList = none) (w : World) (hL : Laid w) : Calls Tryz.prog 5 #[cmdV c, .string a0] w (BoolPost w true) := by
  have hp1 := fun W hL => line11 c W hL (by omega) (by omega) hf hw hst
  unfold LinePost at hp1
  rw [hl] at hp1
  simp only [lineV] at hp1
  have hp3 : ∀ W, Laid W → Calls Tryz.prog 8 #[.string a0] W fun e w' => e = .returned (.tuple #[.agg (cmdC cmd0), .int .i64 60]) ∧ Below W.heap.size W w' := fun W hL => by
    have h := parse8 a0 W hL (by omega)
    unfold CmdPost at h
    rw [hk] at h
    exact h
  have hs0 := same_self cmd0
  obtain ⟨h0, hb⟩ := box_cells c w
  have HL := Lib.hid hL
  have HB := Lib.hid hb
  have H0 := Lib.hid h0
  clear hl hL hb h0 hk hf hw hst
  unfold cmdV
  unfold cmdC at *
  have HP1 := Lib.hid hp1
  have HP3 := Lib.hid hp3
  clear hp1 hp3
  unfold cmd0 at *
  have HS0 := Lib.hid hs0
  clear hs0
  go_enter Tryz.func5, Tryz.ntmps5
  go_upto_region 3 with fail
  revert HB H0
  generalize World.alloc w _ = W0
  intro HB H0
  obtain ⟨q0, q1, q2, q3, q4, q5, -⟩ := blk_facts H0.out
  go_upto_region 8 with (go_at_call 11; refine (HP1.out _ (HL.out.below HB.out)).mono ?_; rintro e W4 ⟨rfl, b1⟩; have BX := Lib.hid (below_after HB.out b1); clear b1)
  go_upto_region 9 with (first
    | (go_at_call 8; refine (HP3.out _ (HL.out.below BX.out)).mono ?_; rintro e W5 ⟨rfl, b5⟩; have B5 := Lib.hid (below_after BX.out b5); clear b5)
    | (refine store_cmd rfl (.tmp 9) (.tmp 52) rfl rfl _ rfl rfl rfl (by simp [Value.oneCell']) ?_; intro W6 c6 b6; obtain ⟨s0, s1, s2, s3, s4, s5, -⟩ := blk_facts c6; have B6 := Lib.hid (below_after B5.out b6); clear c6 b6))
  go_wp2_with (first
    | (go_at_call 10; refine (HS0.out _).mono ?_; rintro e W7 ⟨rfl, b7⟩; have B7 := Lib.hid (below_after B6.out b7); clear b7)
    | (go_at_call 7; refine (wakes7 _ (HL.out.below B7.out)).mono ?_; rintro e W8 ⟨rfl, b8⟩; have B8 := Lib.hid (below_after B7.out b8); clear b8))
  go_ret
  exact ⟨rfl, B8.out⟩

theorem back_short (c : Cmd) (a0 : ByteArray) (hn : ¬ 40000 < c.name.length) (ht : ¬ 40000 < c.text.length) (h3 : ¬ 40000 < a0.size) (hf : InInt c.fuel) (hw : InInt c.words) (hst : InInt c.stack) (w : World) (hL : Laid w) : Calls Tryz.prog 5 #[cmdV c, .string a0] w (BoolPost w true) := by
  rcases lineV_two c with ⟨l, hl, hpl⟩ | hl
  · have hlen := line_len c hn ht hf hw hst hl
    cases hk : parseL a0.data.toList with
    | none => exact back_sn c a0 hn ht h3 hf hw hst hl hlen hpl hk w hL
    | some k => exact back_ss c a0 hn ht h3 hf hw hst hl hlen hpl hk w hL
  · cases hk : parseL a0.data.toList with
    | none => exact back_nn c a0 hn ht h3 hf hw hst hl hk w hL
    | some k => exact back_ns c a0 hn ht h3 hf hw hst hl hk w hL

theorem back5 (c : Cmd) (a0 : ByteArray) (hn : c.name.length ≤ maxLen) (ht : c.text.length ≤ maxLen) (w0 : a0.size ≤ maxLen) (hf : InInt c.fuel) (hw : InInt c.words) (hst : InInt c.stack) (w : World) (hL : Laid w) : Calls Tryz.prog 5 #[cmdV c, .string a0] w (BoolPost w true) := by
  by_cases h1 : 40000 < c.name.length
  · exact back_long c a0 (.inl h1) hn ht w0 w hL
  · by_cases h2 : 40000 < c.text.length
    · exact back_long c a0 (.inr (.inl h2)) hn ht w0 w hL
    · by_cases h3 : 40000 < a0.size
      · exact back_long c a0 (.inr (.inr h3)) hn ht w0 w hL
      · exact back_short c a0 h1 h2 h3 hf hw hst w hL
end Go.Proofs.YtiblpkgbabjmfaaGreatDoor
