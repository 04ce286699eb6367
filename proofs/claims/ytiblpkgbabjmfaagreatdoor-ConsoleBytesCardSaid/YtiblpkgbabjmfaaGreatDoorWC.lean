/- The contracts of letter and Name (both texts): which texts are names. -/
import Derived.Test.YtiblpkgbabjmfaaGreatDoorWA
namespace Go.Proofs.YtiblpkgbabjmfaaGreatDoor
open Go.RowKit

theorem ret_bool {a b : Bool} (h : a = b) : Ending.returned (.bool a) = .returned (.bool b) := by rw [h]

set_option maxHeartbeats 400000 in
theorem letter51 (c : Int) (w : World) :
    Calls Tryz.prog 51 #[.int .u8 c] w fun e w' => e = .returned (.bool (letB c)) ∧ w = w' := by
  go_enter Tryz.func51, Tryz.ntmps51
  go_wp2
  all_goals (go_ret; refine ⟨ret_bool ?_, rfl⟩; simp only [letB]; grind)

set_option maxHeartbeats 400000 in
theorem letter33 (c : Int) (w : World) :
    Calls Tryz.prog 33 #[.int .u8 c] w fun e w' => e = .returned (.bool (letB c)) ∧ w = w' := by
  go_enter Tryz.func33, Tryz.ntmps33
  go_wp2
  all_goals (go_ret; refine ⟨ret_bool ?_, rfl⟩; simp only [letB]; grind)

theorem okL_snoc (l : List UInt8) (c : UInt8) : okL (l ++ [c]) = (okL l && okB c.toNat) := by simp [okL]

theorem nameL_snoc (s : ByteArray) (k : Nat) (h : k < s.size) :
    okL (s.data.toList.take (k + 1)) = (okL (s.data.toList.take k) && okB s[k].toNat) := by
  rw [take_snoc s k h, okL_snoc]

theorem nameL_of (s : ByteArray) (h0 : 0 < s.size) : nameL s.data.toList = (decide (s.size ≤ 24) && letB s[0].toNat && okL s.data.toList) := by
  have hl : s.data.toList.length = s.size := by simp
  have hx : s[0] = s.data.toList[0]'(by omega) := by rfl
  cases hs : s.data.toList with
  | nil => simp [hs] at hl; omega
  | cons c r =>
    simp only [hs] at hx hl
    simp only [nameL, hx, List.getElem_cons_zero, okL, List.all_cons]
    simp at hl
    have : decide (r.length < 24) = decide (s.size ≤ 24) := by simp; omega
    rw [this]
    have h2 : letB c.toNat = true → okB c.toNat = true := by intro h; simp [okB, h]
    cases h3 : letB (c.toNat : Int) <;> simp [h3, h2]

theorem okL_bad (s : ByteArray) (k : Nat) (h : k < s.size) (hb : okB s[k].toNat = false) : okL s.data.toList = false := by
  have hx : s[k] = s.data.toList[k]'(by simpa using h) := by rfl
  rw [hx] at hb
  rw [okL, List.all_eq_false]
  exact ⟨_, List.getElem_mem (by simpa using h), by simpa using hb⟩

set_option maxHeartbeats 400000 in
theorem name31 (s : ByteArray) (w : World) (hs : s.size ≤ maxLen) :
    Calls Tryz.prog 31 #[.string s] w fun e w' => e = .returned (.bool (nameL s.data.toList)) ∧ w = w' := by
  unfold maxLen at hs
  by_cases h0 : s.size = 0
  · have h : s.data.toList = [] := by rw [← List.length_eq_zero_iff]; simpa using h0
    have H := Lib.hid h; clear h
    go_enter Tryz.func31, Tryz.ntmps31
    go_wp2
    go_ret
    exact ⟨by rw [H.out]; rfl, rfl⟩
  have hn := nameL_of s (by omega)
  have HN := Lib.hid hn; clear hn
  by_cases h1 : 24 < s.size
  · go_enter Tryz.func31, Tryz.ntmps31
    go_wp2
    go_ret
    refine ⟨ret_bool ?_, rfl⟩
    rw [HN.out]; simp; omega
  by_cases h2 : letB (s[0].toNat : Int) = true
  · have Hs2 := Lib.hid h2
    have b1 : ((s.size : Int) == 0) = false := by rw [beq_eq_false_iff_ne]; omega
    have b2 : decide (24 < (s.size : Int)) = false := by simp; omega
    have b3 : decide ((s.size : Int) > 24) = false := by simp; omega
    have hp : 0 < s.size := by omega
    go_enter Tryz.func31, Tryz.ntmps31
    go_wp2_with (go_at_call 51; refine (letter51 _ _).mono ?_; rintro e w' ⟨rfl, rfl⟩)
    go_loop [21] (fun i => ∃ k : Nat, k ≤ s.size ∧ i = .int .i64 k ∧ okL (s.data.toList.take k) = true) (fun i => s.size - (intOf i).toNat)
    case atStart => exact ⟨0, Nat.zero_le _, rfl, rfl⟩
    case round =>
      obtain ⟨k, hk, rfl, hok⟩ := hrel
      have HK := Lib.hid hok; clear hok
      by_cases hlt : k < s.size
      · have hsn := nameL_snoc s k hlt
        have HS := Lib.hid hsn; clear hsn
        go_wp2_with (go_at_call 51; refine (letter51 _ _).mono ?_; rintro e w' ⟨rfl, rfl⟩)
        all_goals (try (
          go_round
          case rel => refine ⟨k + 1, by omega, by go_num, ?_⟩; rw [HS.out, HK.out]; simp [okB]; grind
          case measure => simp [intOf]; omega))
        all_goals
          go_ret
          refine ⟨ret_bool ?_, rfl⟩
          rw [HN.out, okL_bad s k hlt (by simp [okB]; grind)]; simp
      · have hkk : k = s.size := by omega
        go_wp2
        go_ret
        refine ⟨ret_bool ?_, rfl⟩
        have HK' := HK.out
        rw [List.take_of_length_le (by simp; omega)] at HK'
        rw [HN.out, HK', Hs2.out]; simp; omega
  · have h2' : letB (s[0].toNat : Int) = false := by simpa using h2
    have H2 := Lib.hid h2'; clear h2 h2'
    go_enter Tryz.func31, Tryz.ntmps31
    go_wp2_with (go_at_call 51; refine (letter51 _ _).mono ?_; rintro e w' ⟨rfl, rfl⟩)
    · go_ret
      refine ⟨ret_bool ?_, rfl⟩
      rw [HN.out, H2.out]
      simp
    · exfalso
      have := H2.out
      grind
set_option maxHeartbeats 400000 in
theorem name20 (s : ByteArray) (w : World) (hs : s.size ≤ maxLen) :
    Calls Tryz.prog 20 #[.string s] w fun e w' => e = .returned (.bool (nameL s.data.toList)) ∧ w = w' := by
  unfold maxLen at hs
  by_cases h0 : s.size = 0
  · have h : s.data.toList = [] := by rw [← List.length_eq_zero_iff]; simpa using h0
    have H := Lib.hid h; clear h
    go_enter Tryz.func20, Tryz.ntmps20
    go_wp2
    go_ret
    exact ⟨by rw [H.out]; rfl, rfl⟩
  have hn := nameL_of s (by omega)
  have HN := Lib.hid hn; clear hn
  by_cases h1 : 24 < s.size
  · go_enter Tryz.func20, Tryz.ntmps20
    go_wp2
    go_ret
    refine ⟨ret_bool ?_, rfl⟩
    rw [HN.out]; simp; omega
  by_cases h2 : letB (s[0].toNat : Int) = true
  · have Hs2 := Lib.hid h2
    have b1 : ((s.size : Int) == 0) = false := by rw [beq_eq_false_iff_ne]; omega
    have b2 : decide (24 < (s.size : Int)) = false := by simp; omega
    have b3 : decide ((s.size : Int) > 24) = false := by simp; omega
    have hp : 0 < s.size := by omega
    go_enter Tryz.func20, Tryz.ntmps20
    go_wp2_with (go_at_call 33; refine (letter33 _ _).mono ?_; rintro e w' ⟨rfl, rfl⟩)
    go_loop [3] (fun i => ∃ k : Nat, k ≤ s.size ∧ i = .int .i64 k ∧ okL (s.data.toList.take k) = true) (fun i => s.size - (intOf i).toNat)
    case atStart => exact ⟨0, Nat.zero_le _, rfl, rfl⟩
    case round =>
      obtain ⟨k, hk, rfl, hok⟩ := hrel
      have HK := Lib.hid hok; clear hok
      by_cases hlt : k < s.size
      · have hsn := nameL_snoc s k hlt
        have HS := Lib.hid hsn; clear hsn
        go_wp2_with (go_at_call 33; refine (letter33 _ _).mono ?_; rintro e w' ⟨rfl, rfl⟩)
        all_goals (try (
          go_round
          case rel => refine ⟨k + 1, by omega, by go_num, ?_⟩; rw [HS.out, HK.out]; simp [okB]; grind
          case measure => simp [intOf]; omega))
        all_goals
          go_ret
          refine ⟨ret_bool ?_, rfl⟩
          rw [HN.out, okL_bad s k hlt (by simp [okB]; grind)]; simp
      · have hkk : k = s.size := by omega
        go_wp2
        go_ret
        refine ⟨ret_bool ?_, rfl⟩
        have HK' := HK.out
        rw [List.take_of_length_le (by simp; omega)] at HK'
        rw [HN.out, HK', Hs2.out]; simp; omega
  · have h2' : letB (s[0].toNat : Int) = false := by simpa using h2
    have H2 := Lib.hid h2'; clear h2 h2'
    go_enter Tryz.func20, Tryz.ntmps20
    go_wp2_with (go_at_call 33; refine (letter33 _ _).mono ?_; rintro e w' ⟨rfl, rfl⟩)
    · go_ret
      refine ⟨ret_bool ?_, rfl⟩
      rw [HN.out, H2.out]
      simp
    · exfalso
      have := H2.out
      grind
end Go.Proofs.YtiblpkgbabjmfaaGreatDoor
