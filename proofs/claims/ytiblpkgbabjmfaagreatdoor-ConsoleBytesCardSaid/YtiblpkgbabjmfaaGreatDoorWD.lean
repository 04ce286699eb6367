/- The contracts of number, as the reference has it, and of digit. -/
import Derived.Test.YtiblpkgbabjmfaaGreatDoorWC
namespace Go.Proofs.YtiblpkgbabjmfaaGreatDoor
open Go.RowKit

theorem valL_lt : ∀ (n : Nat) (l : List UInt8), l.length = n → l.all isDig = true → valL 0 l < 10 ^ n := by
  intro n
  induction n with
  | zero => intro l hl _; rw [List.length_eq_zero_iff.1 hl, valL_nil]; decide
  | succ n ih =>
    intro l hl hd
    have hn : l ≠ [] := by rintro rfl; simp at hl
    have e : l = l.dropLast ++ [l.getLast hn] := (List.dropLast_concat_getLast hn).symm
    generalize l.getLast hn = c at e
    generalize l.dropLast = l' at e
    subst e
    simp only [List.all_append, Bool.and_eq_true, List.all_cons, List.all_nil, Bool.and_true] at hd
    have h1 := ih l' (by simpa using hl) hd.1
    have h2 := hd.2
    simp [isDig] at h2
    rw [valL_snoc, Nat.pow_succ]
    omega
theorem parse_all (M : Nat) (l : List UInt8) : ∀ acc, l.all isDig = true → valL acc l ≤ M → M < 18446744073709551616 → Lib.parseUintM M acc l = .ok (valL acc l) := by
  induction l with
  | nil => intro acc _ _ _; rw [parseM_end, valL_nil]
  | cons c r ih =>
    intro acc hd hv hM
    simp only [List.all_cons, Bool.and_eq_true] at hd
    have hc := hd.1
    simp [isDig] at hc
    rw [valL_cons] at hv ⊢
    have hge := valL_ge r (acc * 10 + (c.toNat - 48))
    rw [parseM_step, if_pos hc, if_neg (by omega), if_neg (by omega), ih _ hd.2 hv hM]

/-- A number's digits, plainly. -/
theorem num_eq (s : List UInt8) (h9 : s.length ≤ 9) (hz : ¬ (1 < s.length ∧ s.head? = some 48)) (hne : s ≠ []) : numL s = if s.all isDig = true then some (valL 0 s) else none := by
  unfold numL
  rw [if_neg (by omega), if_neg hz]
  have hu : Lib.parseUintB 32 s = Lib.parseUintM (2 ^ 32 - 1) 0 s := by unfold Lib.parseUintB; rw [if_neg hne]
  rw [hu]
  by_cases hd : s.all isDig = true
  · have hl := valL_lt s.length s rfl hd
    have hp : 10 ^ s.length ≤ 10 ^ 9 := Nat.pow_le_pow_right (by decide) h9
    have h9 : (10 : Nat) ^ 9 = 1000000000 := by decide
    have h32 : (2 : Nat) ^ 32 - 1 = 4294967295 := by decide
    rw [h32, parse_all 4294967295 s 0 hd (by omega) (by omega), if_pos hd]
  · rw [if_neg hd]
    split
    · rename_i u hu'
      exact absurd (parseM_val _ s 0 u hu').1 hd
    · rfl

def numV (o : Option Nat) : Value := match o with
  | some n => .tuple #[.int .i64 n, .bool true]
  | none => .tuple #[.int .i64 0, .bool false]

theorem ret_num {o : Option Nat} {v : Value} (h : v = numV o) : Ending.returned v = .returned (numV o) := by rw [h]

theorem all_snoc (s : ByteArray) (k : Nat) (h : k < s.size) : (s.data.toList.take (k + 1)).all isDig = ((s.data.toList.take k).all isDig && isDig s[k]) := by
  rw [take_snoc s k h]; simp
theorem val_snoc (s : ByteArray) (k : Nat) (h : k < s.size) : valL 0 (s.data.toList.take (k + 1)) = valL 0 (s.data.toList.take k) * 10 + (s[k].toNat - 48) := by
  rw [take_snoc s k h, valL_snoc]
theorem all_bad (s : ByteArray) (k : Nat) (h : k < s.size) (hb : isDig s[k] = false) : ¬ s.data.toList.all isDig = true := by
  have hx : s[k] = s.data.toList[k]'(by simpa using h) := by rfl
  rw [hx] at hb
  intro ha
  rw [List.all_eq_true] at ha
  have := ha _ (List.getElem_mem (by simpa using h))
  rw [hb] at this; cases this

theorem head_of (s : ByteArray) (h : 0 < s.size) : s.data.toList.head? = some s[0] := by
  have hx : s[0] = s.data.toList[0]'(by simpa using h) := by rfl
  rw [hx, List.head?_eq_getElem?]; simp [h]

/-- What stands under the loop of number. -/
def NumRel (s : ByteArray) (n k : Nat) : Prop := (s.data.toList.take k).all isDig = true ∧ n = valL 0 (s.data.toList.take k)

theorem num_step {s : ByteArray} {n k : Nat} (h : NumRel s n k) (hk : k < s.size) (hd : isDig s[k] = true) : NumRel s (n * 10 + (s[k].toNat - 48)) (k + 1) := by
  obtain ⟨h1, h2⟩ := h
  exact ⟨by rw [all_snoc s k hk, h1, hd]; rfl, by rw [val_snoc s k hk, h2]⟩

theorem num_lt {s : ByteArray} {n k : Nat} (h : NumRel s n k) (h9 : k ≤ 8) (hk : k ≤ s.size) : n < 100000000 := by
  obtain ⟨h1, h2⟩ := h
  have hl : (s.data.toList.take k).length = k := by simp; omega
  have := valL_lt k _ hl h1
  have hp : (10 : Nat) ^ k ≤ 10 ^ 8 := Nat.pow_le_pow_right (by decide) h9
  have h8 : (10 : Nat) ^ 8 = 100000000 := by decide
  omega

set_option maxRecDepth 100000 in
set_option maxHeartbeats 1000000 in
theorem number19 (s : ByteArray) (w : World) (hs : s.size ≤ 1000000) : Calls Tryz.prog 19 #[.string s] w fun e w' => e = .returned (numV (numL s.data.toList)) ∧ w = w' := by
  by_cases h0 : s.size = 0
  · have h : s.data.toList = [] := by rw [← List.length_eq_zero_iff]; simpa using h0
    have H := Lib.hid h; clear h
    go_enter Tryz.func19, Tryz.ntmps19
    go_wp2
    go_ret2
    exact ⟨ret_num (by rw [H.out]; rfl), rfl⟩
  by_cases h9 : 9 < s.size
  · have hn : numL s.data.toList = none := by unfold numL; rw [if_pos (by simpa using h9)]
    have HN := Lib.hid hn; clear hn
    go_enter Tryz.func19, Tryz.ntmps19
    go_wp2
    go_ret2
    exact ⟨ret_num (by rw [HN.out]; rfl), rfl⟩
  have hp : 0 < s.size := by omega
  have b0 : decide ((s.size : Int) < 1) = false := by simp; omega
  have b9 : decide ((s.size : Int) > 9) = false := by simp; omega
  have b9' : decide (9 < (s.size : Int)) = false := by simp; omega
  by_cases hz : 1 < s.size ∧ s[0] = 48
  · have hn : numL s.data.toList = none := by unfold numL; rw [if_neg (by simp; omega), if_pos ⟨by simpa using hz.1, by rw [head_of s hp, hz.2]⟩]
    have HN := Lib.hid hn; clear hn
    obtain ⟨hz1, hz2⟩ := hz
    have b48 : ((s[0].toNat : Int) == 48) = true := by rw [hz2]; rfl
    clear hz2
    go_enter Tryz.func19, Tryz.ntmps19
    go_wp2
    go_ret2
    exact ⟨ret_num (by rw [HN.out]; rfl), rfl⟩
  have hn := num_eq s.data.toList (by simp; omega) (by rw [head_of s hp]; simpa using hz) (fun e => h0 (by have := congrArg List.length e; simpa using this))
  have HN := Lib.hid hn
  have HZ := Lib.hid hz
  clear hn hz
  go_enter Tryz.func19, Tryz.ntmps19
  by_cases h1 : 1 < s.size
  · have b48 : ((s[0].toNat : Int) == 48) = false := by
      rw [beq_eq_false_iff_ne]
      intro e
      have e' : s[0].toNat = 48 := by omega
      exact HZ.out ⟨h1, UInt8.toNat_inj.1 e'⟩
    go_wp2
    clear b48 h1
    go_loop [4, 5] (fun n i => ∃ nn k : Nat, k ≤ s.size ∧ i = .int .i64 k ∧ n = .int .i64 nn ∧ NumRel s nn k) (fun _ i => s.size - (intOf i).toNat)
    case atStart => exact ⟨0, 0, by omega, rfl, rfl, by simp [NumRel, valL_nil]⟩
    case round =>
      obtain ⟨nn, k, hk, rfl, rfl, hR⟩ := hrel
      have HR := Lib.hid hR
      clear hR
      by_cases hlt : k < s.size
      · have hnn := num_lt HR.out (by omega) (by omega)
        have hc := s[k].toNat_lt
        by_cases hd : isDig s[k] = true
        · have hd' := hd
          simp [isDig] at hd'
          have HD := Lib.hid hd
          obtain ⟨hd1, hd2⟩ := hd'
          clear hd
          go_wp2
          go_round
          case rel => exact ⟨_, k + 1, by omega, by go_num, congrArg (Value.int .i64) (by omega), num_step HR.out hlt HD.out⟩
          case measure => simp [intOf]; omega
        · have hbad := all_bad s k hlt (by simpa using hd)
          have HBAD := Lib.hid hbad
          have hd' := hd
          simp [isDig] at hd'
          have HD := Lib.hid hd'
          clear hd hd' hbad
          by_cases h48 : s[k].toNat < 48
          · go_wp2
            go_ret2
            exact ⟨ret_num (by rw [HN.out, if_neg HBAD.out]; rfl), rfl⟩
          · have h57 : 57 < s[k].toNat := HD.out (by omega)
            go_wp2
            go_ret2
            exact ⟨ret_num (by rw [HN.out, if_neg HBAD.out]; rfl), rfl⟩
      · obtain rfl : k = s.size := by omega
        go_wp2
        go_ret2
        obtain ⟨r1, r2⟩ := HR.out
        rw [List.take_of_length_le (by simp)] at r1 r2
        exact ⟨ret_num (by rw [HN.out, if_pos r1, r2]; rfl), rfl⟩
  · go_wp2
    clear h1
    go_loop [4, 5] (fun n i => ∃ nn k : Nat, k ≤ s.size ∧ i = .int .i64 k ∧ n = .int .i64 nn ∧ NumRel s nn k) (fun _ i => s.size - (intOf i).toNat)
    case atStart => exact ⟨0, 0, by omega, rfl, rfl, by simp [NumRel, valL_nil]⟩
    case round =>
      obtain ⟨nn, k, hk, rfl, rfl, hR⟩ := hrel
      have HR := Lib.hid hR
      clear hR
      by_cases hlt : k < s.size
      · have hnn := num_lt HR.out (by omega) (by omega)
        have hc := s[k].toNat_lt
        by_cases hd : isDig s[k] = true
        · have hd' := hd
          simp [isDig] at hd'
          have HD := Lib.hid hd
          obtain ⟨hd1, hd2⟩ := hd'
          clear hd
          go_wp2
          go_round
          case rel => exact ⟨_, k + 1, by omega, by go_num, congrArg (Value.int .i64) (by omega), num_step HR.out hlt HD.out⟩
          case measure => simp [intOf]; omega
        · have hbad := all_bad s k hlt (by simpa using hd)
          have HBAD := Lib.hid hbad
          have hd' := hd
          simp [isDig] at hd'
          have HD := Lib.hid hd'
          clear hd hd' hbad
          by_cases h48 : s[k].toNat < 48
          · go_wp2
            go_ret2
            exact ⟨ret_num (by rw [HN.out, if_neg HBAD.out]; rfl), rfl⟩
          · have h57 : 57 < s[k].toNat := HD.out (by omega)
            go_wp2
            go_ret2
            exact ⟨ret_num (by rw [HN.out, if_neg HBAD.out]; rfl), rfl⟩
      · obtain rfl : k = s.size := by omega
        go_wp2
        go_ret2
        obtain ⟨r1, r2⟩ := HR.out
        rw [List.take_of_length_le (by simp)] at r1 r2
        exact ⟨ret_num (by rw [HN.out, if_pos r1, r2]; rfl), rfl⟩
end Go.Proofs.YtiblpkgbabjmfaaGreatDoor
