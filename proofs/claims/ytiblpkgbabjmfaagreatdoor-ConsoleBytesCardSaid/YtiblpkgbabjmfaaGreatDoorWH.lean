/- The contracts of the reference's digit and bytes; slices of bytes of a call's own. -/
import Derived.Test.YtiblpkgbabjmfaaGreatDoorWG
import Derived.Laws.BytesString
namespace Go.Proofs.YtiblpkgbabjmfaaGreatDoor
open Go.RowKit

theorem ret_i64 {a b : Int} (h : a = b) : Ending.returned (.int .i64 a) = .returned (.int .i64 b) := by rw [h]

theorem digI_low {c : UInt8} (h : 48 ≤ c.toNat) (h2 : c.toNat ≤ 57) : digI c = (c.toNat : Int) - 48 := by
  unfold digI unD; rw [if_pos ⟨h, h2⟩]; show ((c.toNat - 48 : Nat) : Int) = _; omega
theorem digI_high {c : UInt8} (h : 97 ≤ c.toNat) (h2 : c.toNat ≤ 102) : digI c = (c.toNat : Int) - 87 := by
  unfold digI unD; rw [if_neg (by omega), if_pos ⟨h, h2⟩]; show ((c.toNat - 87 : Nat) : Int) = _; omega
theorem digI_no {c : UInt8} (h : ¬ (48 ≤ c.toNat ∧ c.toNat ≤ 57)) (h2 : ¬ (97 ≤ c.toNat ∧ c.toNat ≤ 102)) : digI c = -1 := by
  unfold digI unD; rw [if_neg h, if_neg h2]

set_option maxHeartbeats 400000 in
theorem digit32 (c : UInt8) (w : World) : Calls Tryz.prog 32 #[.int .u8 (c.toNat : Int)] w fun e w' => e = .returned (.int .i64 (digI c)) ∧ w = w' := by
  have hc := c.toNat_lt
  by_cases h1 : 48 ≤ c.toNat ∧ c.toNat ≤ 57
  · have hd := digI_low h1.1 h1.2
    have HD := Lib.hid hd
    obtain ⟨a, b⟩ := h1
    clear hd
    go_enter Tryz.func32, Tryz.ntmps32
    go_wp2
    go_ret
    exact ⟨ret_i64 HD.out.symm, rfl⟩
  · by_cases h2 : 97 ≤ c.toNat ∧ c.toNat ≤ 102
    · have hd := digI_high h2.1 h2.2
      have HD := Lib.hid hd
      obtain ⟨a, b⟩ := h2
      clear hd h1
      go_enter Tryz.func32, Tryz.ntmps32
      go_wp2
      go_ret
      exact ⟨ret_i64 (by rw [HD.out]; omega), rfl⟩
    · have hd := digI_no h1 h2
      have HD := Lib.hid hd
      have H1 := Lib.hid h1
      have H2 := Lib.hid h2
      clear hd h1 h2
      go_enter Tryz.func32, Tryz.ntmps32
      go_wp2
      all_goals first
        | (exfalso; have := H1.out; have := H2.out; omega)
        | (go_ret; exact ⟨ret_i64 HD.out.symm, rfl⟩)

theorem foldl_bytes : ∀ (l : List UInt8) (r : ByteArray), (l.map fun b => (b.toNat : Int)).foldl (fun r n => r.push (UInt8.ofNat n.toNat)) r = ⟨r.data ++ l.toArray⟩
  | [], r => by simp
  | c :: l, r => by
    simp only [List.map_cons, List.foldl_cons]
    rw [foldl_bytes l]
    have : (UInt8.ofNat (c.toNat : Int).toNat) = c := by simp
    rw [this]
    simp [ByteArray.push]

/-- string(b) of a slice of bytes of the call's own. -/
theorem run_own_string {w : World} {B : Nat} {v : Value} {l : List UInt8} (h : w.ownsRow B 5 1 v l.length (Lib.byteCells l)) : (convert 65 9 v).run Tryz.prog w = .ok (.string ⟨l.toArray⟩) w := by
  obtain ⟨hl, ⟨rfl, h0⟩ | ⟨g, cap, cur, rfl, hg, hh, hc, hm, hcs, ht⟩⟩ := h
  · obtain rfl : l = [] := List.eq_nil_of_length_eq_zero h0
    rw [run_convert_bytes_string w 65 9 5 none 0 0 Tryz.underlying65 Tryz.underlying5 Tryz.underlying9]
    rfl
  · have hld : (loadCells ⟨g, 0, none⟩ l.length).run Tryz.prog w = .ok ((l.map fun b => (b.toNat : Int)).map (Value.int .u8)).toArray w := by
      have h := run_loadCells_list (P := Tryz.prog) w ⟨g, 0, none⟩ (Lib.byteCells l) (fun j v hv => by
        have hadd : (⟨g, 0, none⟩ : Addr).add j = ⟨g, j, none⟩ := by unfold Addr.add; split <;> simp_all
        rw [hadd, cell_of_row w g j _ _ _ hh]
        have hj : j < l.length := by
          rcases Nat.lt_or_ge j l.length with h | h
          · exact h
          · rw [List.getElem?_eq_none (by rw [Lib.byteCells_length]; exact h)] at hv; cases hv
        rw [← ht, List.getElem?_take_of_lt (by omega)] at hv
        simpa using hv)
      rw [Lib.byteCells_length] at h
      rw [h]
      simp [Lib.byteCells, List.map_map, Function.comp_def]
    rw [run_convert_bytes_string w 65 9 5 _ _ _ Tryz.underlying65 Tryz.underlying5 Tryz.underlying9, run_bytesToString (P := Tryz.prog) w ⟨g, 0, none⟩ l.length cap _ hld, foldl_bytes]
    simp

theorem dig_some {c : UInt8} {x : Nat} (h : unD c = some x) (w : World) : Calls Tryz.prog 32 #[.int .u8 (c.toNat : Int)] w fun e w' => e = .returned (.int .i64 (x : Int)) ∧ w' = w := by
  have := (digit32 c w).mono (R' := fun e w' => e = .returned (.int .i64 (digI c)) ∧ w' = w) (fun _ _ ⟨a, b⟩ => ⟨a, b.symm⟩)
  unfold digI at this; rw [h] at this; exact this
theorem dig_none {c : UInt8} (h : unD c = none) (w : World) : Calls Tryz.prog 32 #[.int .u8 (c.toNat : Int)] w fun e w' => e = .returned (.int .i64 (-1)) ∧ w' = w := by
  have := (digit32 c w).mono (R' := fun e w' => e = .returned (.int .i64 (digI c)) ∧ w' = w) (fun _ _ ⟨a, b⟩ => ⟨a, b.symm⟩)
  unfold digI at this; rw [h] at this; exact this
theorem dig_any (c : UInt8) (w : World) : Calls Tryz.prog 32 #[.int .u8 (c.toNat : Int)] w fun e w' => e = .returned (.int .i64 (digI c)) ∧ w' = w :=
  (digit32 c w).mono fun _ _ ⟨a, b⟩ => ⟨a, b.symm⟩

theorem digI_range (c : UInt8) : -1 ≤ digI c ∧ digI c ≤ 15 := by
  unfold digI
  cases h : unD c with
  | none => simp
  | some x => have := (unD_lt h).1; simp; omega
theorem digI_neg {c : UInt8} (h : unD c = none) : digI c < 0 := by unfold digI; rw [h]; decide
theorem digI_of {c : UInt8} {x : Nat} (h : unD c = some x) : digI c = x := by unfold digI; rw [h]

theorem one_int (k : IntKind) (x : Int) : ∀ u ∈ [Value.int k x], u.oneCell' = true := by
  intro u hu
  simp at hu
  subst hu
  rfl

theorem own_append {B : Nat} {w wr w' : World} {o : Obj} {v v' : Value} {l : List UInt8} {c : UInt8} (hbel : Below B w wr) (hB : B ≤ wr.heap.size) (hown : wr.ownsRow B 5 1 v l.length (Lib.byteCells l)) (hown' : w'.ownsRow B 5 1 v' (l.length + 1) (Lib.byteCells l ++ [Value.int .u8 (c.toNat : Int)])) (hg : (wr.alloc o).grownBy w' v.ownBlock) :
    w'.ownsRow B 5 1 v' (l ++ [c]).length (Lib.byteCells (l ++ [c])) ∧ Below B w w' :=
  ⟨by rw [Lib.byteCells_append, byteCells_one]; simpa using hown', (hbel.alloc hB o).grown hg (by simp; omega) (fun k hk => (hown.lt k hk).1)⟩

theorem byte_sum (x y : Nat) (hx : x < 16) (hy : y < 16) : ((16 : Int) * x + y) = ((UInt8.ofNat (16 * x + y)).toNat : Int) := by
  simp; omega

set_option maxRecDepth 100000 in
set_option maxHeartbeats 2000000 in
theorem bytes18 (s : ByteArray) (w : World) (hs : s.size ≤ 1000000) : Calls Tryz.prog 18 #[.string s] w (BytesPost w (unhexL s.data.toList)) := by
  have hl : s.data.toList.length = s.size := by simp
  by_cases hd : s.data.toList = [45]
  · have hn : unhexL s.data.toList = some [] := by unfold unhexL; rw [if_pos hd]
    have hdash : (s.toList == [45]) = true := by rw [dash_of]; simpa using hd
    have HN := Lib.hid hn
    clear hn hd hl
    go_enter Tryz.func18, Tryz.ntmps18
    go_wp2
    go_ret2
    exact ⟨ret_bytes (by rw [HN.out]; rfl), Below.refl _ _⟩
  have hdash : (s.toList == [45]) = false := by rw [dash_of]; simpa using hd
  by_cases h0 : s.size = 0
  · have hn : unhexL s.data.toList = none := by unfold unhexL; rw [if_neg hd, if_pos (List.eq_nil_of_length_eq_zero (by omega))]
    have HN := Lib.hid hn
    clear hn hd hl
    go_enter Tryz.func18, Tryz.ntmps18
    go_wp2
    go_ret2
    exact ⟨ret_bytes (by rw [HN.out]; rfl), Below.refl _ _⟩
  have b0 : ((s.size : Int) == 0) = false := by rw [beq_eq_false_iff_ne]; omega
  have hu : unhexL s.data.toList = unPairs s.data.toList := by unfold unhexL; rw [if_neg hd, if_neg (fun e => h0 (by rw [← hl, e]; rfl))]
  by_cases hodd : s.size % 2 = 1
  · have hn : unhexL s.data.toList = none := by rw [hu, unPairs_odd _ (by rw [hl]; exact hodd)]
    have b2 : ((s.size : Int) % 2 != 0) = true := by rw [bne_iff_ne]; omega
    have HN := Lib.hid hn
    clear hn hd hl hu hodd h0
    go_enter Tryz.func18, Tryz.ntmps18
    go_wp2
    go_ret2
    exact ⟨ret_bytes (by rw [HN.out]; rfl), Below.refl _ _⟩
  · have b2 : ((s.size : Int) % 2 != 0) = false := by rw [bne_eq_false_iff_eq]; omega
    have HU := Lib.hid hu
    clear hu hd hl h0
    go_enter Tryz.func18, Tryz.ntmps18
    go_wp2
    go_loopw [4, 5] (fun v i wr => ∃ k acc, k ≤ s.size ∧ k % 2 = 0 ∧ i = .int .i64 ((k : Nat) : Int) ∧ PairRel s acc k ∧ acc.length ≤ k ∧ wr.ownsRow w.heap.size 5 1 v acc.length (Lib.byteCells acc) ∧ Below w.heap.size w wr) (fun _ i _ => s.size - (intOf i).toNat)
    case atStart => exact ⟨0, [], by omega, rfl, rfl, by simp [PairRel], by simp, World.ownsRow_nil _ _ _ _, Below.refl _ w⟩
    case round =>
      obtain ⟨k, acc, hk, hev, rfl, hP, hal, hown, hb⟩ := hrel
      have hl3 : acc.length + 1 ≤ maxLen := by simp only [maxLen]; omega
      have hl4 : (acc.length + 1) * 1 ≤ 140737488355328 := by omega
      have hsz := hb.size
      have HL3 := Lib.hid hl3
      have HL4 := Lib.hid hl4
      have HP := Lib.hid hP
      have HOWN := Lib.hid hown
      have HB := Lib.hid hb
      clear hP hown hb hl3 hl4
      obtain ⟨i0, hi0, hz0, hz1, hz2⟩ := info_parts info5
      by_cases hlt : k < s.size
      · have hlt2 : k + 1 < s.size := by omega
        have hr1 := digI_range s[k]
        have hr2 := digI_range s[k + 1]
        cases hx : unD s[k] with
        | none =>
          have hbad := pair_bad HP.out hlt2 (.inl hx)
          have HBAD := Lib.hid hbad
          have hneg := digI_neg hx
          clear hx hbad
          have hw1 : IntKind.i64.wrap ((k : Int) + 1) = (k : Int) + 1 := IntWalk.i64_in _ (by omega)
          have hw2 : (0 : Int) ≤ (k : Int) + 1 := by omega
          have hw3 : ((k : Int) + 1).toNat = k + 1 := by omega
          have hw4 : (k : Int) + 1 < s.size := by omega
          go_wp2
          go_quiet ((go_at_call 32; exact Calls.quiet_of_same (dig_any _ _)))
          try clear hw1
          try clear hw3
          go_wp2
          go_ret2
          exact ⟨ret_bytes (by rw [HU.out, HBAD.out]; rfl), below_drewN HB.out _⟩
        | some x =>
          have hx0 := digI_of hx
          cases hy : unD s[k + 1] with
          | none =>
            have hbad := pair_bad HP.out hlt2 (.inr hy)
            have HBAD := Lib.hid hbad
            have hneg := digI_neg hy
            have hge : 0 ≤ digI s[k] := by rw [hx0]; omega
            clear hx hy hbad hx0
            have hw1 : IntKind.i64.wrap ((k : Int) + 1) = (k : Int) + 1 := IntWalk.i64_in _ (by omega)
            have hw2 : (0 : Int) ≤ (k : Int) + 1 := by omega
            have hw3 : ((k : Int) + 1).toNat = k + 1 := by omega
            have hw4 : (k : Int) + 1 < s.size := by omega
            go_wp2
            go_quiet ((go_at_call 32; exact Calls.quiet_of_same (dig_any _ _)))
            try clear hw1
            try clear hw3
            go_wp2
            go_ret2
            exact ⟨ret_bytes (by rw [HU.out, HBAD.out]; rfl), below_drewN HB.out _⟩
          | some y =>
            have hy0 := digI_of hy
            have hge : 0 ≤ digI s[k] := by rw [hx0]; omega
            have hge2 : 0 ≤ digI s[k + 1] := by rw [hy0]; omega
            have HX := Lib.hid hx
            have HY := Lib.hid hy
            have HX0 := Lib.hid hx0
            have HY0 := Lib.hid hy0
            clear hx hy hx0 hy0
            have hw1 : IntKind.i64.wrap ((k : Int) + 1) = (k : Int) + 1 := IntWalk.i64_in _ (by omega)
            have hw2 : (0 : Int) ≤ (k : Int) + 1 := by omega
            have hw3 : ((k : Int) + 1).toNat = k + 1 := by omega
            have hw4 : (k : Int) + 1 < s.size := by omega
            go_wp2
            go_quiet ((go_at_call 32; exact Calls.quiet_of_same (dig_any _ _)))
            try clear hw1
            try clear hw3
            have hown2 : ∀ n, (wr.drewN n).ownsRow w.heap.size 5 1 u4 acc.length (Lib.byteCells acc) := fun _ => HOWN.out
            have hl5 : ∀ n, w.heap.size ≤ ((wr.drewN n).alloc (.cells #[.int .u8 (16 * digI s[k] + digI s[k + 1])] 5)).heap.size := fun n => by simp; omega
            have HOWN2 := Lib.hid hown2
            have HL5 := Lib.hid hl5
            clear hown2 hl5
            go_wp2_with (first | (at_builtin; (refine wpList_append_own _ rfl (.tmp 40) (.tmp 46) 65 rfl (w.heap.size) 5 i0 (.int .u8 0) 1 1 Tryz.underlying65 hi0 hz0 hz1 hz2 rfl (by decide) u4 acc.length (Lib.byteCells acc) rfl ((HOWN2.out _).alloc _) ⟨wr.heap.size, 0, none⟩ 1 1 [.int .u8 (16 * digI s[k] + digI s[k + 1])] rfl rfl (new_cell (wr.drewN _) 5 _) (one_int _ _) HL3.out HL4.out (HL5.out _) ?_); intro v' w' hown' hgrow _))
            go_roundw
            case rel =>
              have hval : (16 * digI s[k] + digI s[k + 1]) = ((UInt8.ofNat (16 * x + y)).toNat : Int) := by
                rw [HX0.out, HY0.out]; exact byte_sum x y (unD_lt HX.out).1 (unD_lt HY.out).1
              rw [hval] at hown'
              obtain ⟨g1, g2⟩ := own_append (below_drewN HB.out _) (by simp; omega) (HOWN2.out _) hown' hgrow
              exact ⟨k + 2, _, by omega, by omega, by go_num, pair_step HP.out hlt2 HX.out HY.out, by simp; omega, g1, g2⟩
            case measure => simp [intOf]; omega
      · obtain rfl : k = s.size := by omega
        have hconv := run_own_string HOWN.out
        have HCONV := Lib.hid hconv
        go_wp2
        go_ret2
        exact ⟨ret_bytes (by rw [HU.out, pair_end HP.out]; rfl), HB.out⟩
end Go.Proofs.YtiblpkgbabjmfaaGreatDoor
