/- The contract of console.number, over strconv.ParseUint; what is asked of the world: two variables of the library's as they are laid. -/
import Derived.Test.YtiblpkgbabjmfaaGreatDoorWD
import Derived.Test.YtiblpkgbabjmfaaGreatDoorS
import Derived.Lib.AppendIntMem
import Derived.Lib.SmallJoins
import Derived.Deep.QuietTactic
import Derived.BigQuiet
namespace Go.Proofs.YtiblpkgbabjmfaaGreatDoor
open Go.RowKit

/-- What the contracts ask of the library's variables. -/
structure Laid (w : World) : Prop where
  ev : ∃ ev, w.cell? ⟨2, 0, none⟩ = some ev ∧ (ev = .nilIface ∨ ∃ te pe, ev = .iface te pe)
  tab : Lib.TabIs Tryz.prog w "internal/strconv.uint64pow10" .u64 Lib.pow10Tab

theorem cell_lt {w : World} {b o : Nat} {v : Value} (h : w.cell? ⟨b, o, none⟩ = some v) : b < w.heap.size := by
  rcases Nat.lt_or_ge b w.heap.size with h1 | h1
  · exact h1
  · simp [World.cell?, Array.getElem?_eq_none h1] at h

theorem Laid.below {w w' : World} (h : Laid w) (hb : Below w.heap.size w w') : Laid w' := by
  obtain ⟨⟨ev, h1, h2⟩, h3⟩ := h
  refine ⟨⟨ev, ?_, h2⟩, Lib.tabBelow_of_tabIs h3 w' hb⟩
  rw [hb.cell (p := ⟨2, 0, none⟩) (cell_lt h1)]; exact h1

theorem parse_bad (M : Nat) (hM : 1000000000 ≤ M) (l : List UInt8) : ∀ acc, (acc + 1) * 10 ^ l.length ≤ 1000000000 → ¬ l.all isDig = true → Lib.parseUintM M acc l = Lib.parseUintB 32 [] := by
  induction l with
  | nil => intro acc _ h; exact absurd rfl h
  | cons c r ih =>
    intro acc hb hd
    rw [parseM_step]
    by_cases hc : 48 ≤ c.toNat ∧ c.toNat ≤ 57
    · have hp : 1 ≤ 10 ^ r.length := Nat.one_le_pow _ _ (by decide)
      have e : (acc + 1) * 10 ^ (c :: r).length = (acc * 10 + 10) * 10 ^ r.length := by
        rw [List.length_cons, Nat.pow_succ, Nat.mul_comm (10 ^ r.length) 10, ← Nat.mul_assoc, Nat.add_mul, Nat.one_mul]
      rw [e] at hb
      have h1 : (acc * 10 + 10) * 1 ≤ (acc * 10 + 10) * 10 ^ r.length := Nat.mul_le_mul_left _ hp
      have h2 : (acc * 10 + (c.toNat - 48) + 1) * 10 ^ r.length ≤ (acc * 10 + 10) * 10 ^ r.length := Nat.mul_le_mul_right _ (by omega)
      rw [if_pos hc, if_neg (by omega), if_neg (by omega)]
      refine ih _ (by omega) (fun h => hd ?_)
      rw [List.all_cons, h]
      simp [isDig, hc]
    · rw [if_neg hc]

def NumPost (w : World) (o : Option Nat) (e : Ending) (w' : World) : Prop := e = .returned (numV o) ∧ Below w.heap.size w w'

theorem below_drewN {B : Nat} {a w : World} (h : Below B a w) (n : Nat) : Below B a (w.drewN n) := ⟨h.os, h.tape, h.output, h.size, h.block⟩

/-- What strconv.ParseUint answers of at most nine bytes. -/
def ParsePost (w : World) (o : Option Nat) (e : Ending) (w' : World) : Prop :=
  Below w.heap.size w w' ∧ ((∃ u : Nat, o = some u ∧ u < 1000000000 ∧ e = .returned (.tuple #[.int .u64 u, .nilIface])) ∨ (o = none ∧ ∃ te pe, e = .returned (.tuple #[.int .u64 0, .iface te pe])))

theorem parse50 (s : ByteArray) (w : World) (hL : Laid w) (h9 : s.size ≤ 9) (hz : ¬ (1 < s.size ∧ s.data.toList.head? = some 48)) :
    Calls Tryz.prog 50 #[.string s, .int .i64 10, .int .i64 32] w (ParsePost w (numL s.data.toList)) := by
  obtain ⟨ev, hv1, hv2⟩ := hL.ev
  have hl : s.data.toList.length = s.size := by simp
  by_cases h0 : s.data.toList = []
  · have hp : Lib.parseUintB 32 s.data.toList = Lib.parseUintB 32 [] := by rw [h0]
    have hn : numL s.data.toList = none := by rw [h0]; rfl
    refine (Tryz.strconv_ParseUint_10_at32_syntax s (by omega) hp ev w hv1 hv2).mono ?_
    rintro e w' ⟨N, rfl, _, _, hb⟩
    exact ⟨hb, .inr ⟨hn, _, _, rfl⟩⟩
  · have hn := num_eq s.data.toList (by omega) (by rw [hl]; exact hz) h0
    have hu : Lib.parseUintB 32 s.data.toList = Lib.parseUintM (2 ^ 32 - 1) 0 s.data.toList := by unfold Lib.parseUintB; rw [if_neg h0]
    have h32 : (2 : Nat) ^ 32 - 1 = 4294967295 := by decide
    rw [h32] at hu
    have hp : 10 ^ s.data.toList.length ≤ 10 ^ 9 := Nat.pow_le_pow_right (by decide) (by omega)
    have h10 : (10 : Nat) ^ 9 = 1000000000 := by decide
    by_cases hd : s.data.toList.all isDig = true
    · have hlt := valL_lt _ s.data.toList rfl hd
      rw [if_pos hd] at hn
      rw [parse_all 4294967295 s.data.toList 0 hd (by omega) (by omega)] at hu
      refine (Tryz.strconv_ParseUint_10_at32_ok s (by omega) _ hu w).mono ?_
      rintro e w' ⟨rfl, hw⟩
      refine ⟨?_, .inl ⟨_, hn, by omega, rfl⟩⟩
      rcases hw with rfl | rfl
      · exact Below.refl _ _
      · exact Joins.below_bytesWorld _ _ _ _ (Nat.le_refl _)
    · rw [if_neg hd] at hn
      rw [parse_bad 4294967295 (by omega) s.data.toList 0 (by omega) hd] at hu
      refine (Tryz.strconv_ParseUint_10_at32_syntax s (by omega) hu ev w hv1 hv2).mono ?_
      rintro e w' ⟨N, rfl, _, _, hb⟩
      exact ⟨hb, .inr ⟨hn, _, _, rfl⟩⟩

set_option maxRecDepth 100000 in
set_option maxHeartbeats 1000000 in
theorem number30 (s : ByteArray) (w : World) (hL : Laid w) (hs : s.size ≤ 1000000) : Calls Tryz.prog 30 #[.string s] w (NumPost w (numL s.data.toList)) := by
  by_cases h9 : 9 < s.size
  · have hn : numL s.data.toList = none := by unfold numL; rw [if_pos (by simpa using h9)]
    have HN := Lib.hid hn; clear hn hL
    go_enter Tryz.func30, Tryz.ntmps30
    go_wp2
    go_ret2
    exact ⟨ret_num (by rw [HN.out]; rfl), Below.refl _ _⟩
  have b9 : decide ((s.size : Int) > 9) = false := by simp; omega
  have b9' : decide (9 < (s.size : Int)) = false := by simp; omega
  by_cases hz : 1 < s.size ∧ s.data.toList.head? = some 48
  · have hn : numL s.data.toList = none := by unfold numL; rw [if_neg (by simp; omega), if_pos ⟨by simpa using hz.1, hz.2⟩]
    have HN := Lib.hid hn; clear hn hL
    obtain ⟨hz1, hz2⟩ := hz
    have hp : 0 < s.size := by omega
    have b48 : ((s[0].toNat : Int) == 48) = true := by
      rw [head_of s hp] at hz2
      rw [Option.some.inj hz2]; rfl
    clear hz2
    go_enter Tryz.func30, Tryz.ntmps30
    go_wp2
    go_ret2
    exact ⟨ret_num (by rw [HN.out]; rfl), Below.refl _ _⟩
  have hcall := parse50 s w hL (by omega) hz
  generalize numL s.data.toList = o at hcall ⊢
  have HC := Lib.hid hcall
  have HZ := Lib.hid hz
  clear hcall hL hz
  by_cases h1 : 1 < s.size
  · have hp : 0 < s.size := by omega
    have b48 : ((s[0].toNat : Int) == 48) = false := by
      rw [beq_eq_false_iff_ne]
      intro e
      have e' : s[0].toNat = 48 := by omega
      exact HZ.out ⟨h1, by rw [head_of s hp]; exact congrArg some (UInt8.toNat_inj.1 e')⟩
    go_enter Tryz.func30, Tryz.ntmps30
    go_wp2_with fail
    go_at_call 50
    refine HC.out.mono ?_
    rintro e w1 ⟨hb, ⟨u, ho, hu, rfl⟩ | ⟨ho, te, pe, rfl⟩⟩
    · have HO := Lib.hid ho
      have HB := Lib.hid hb
      clear ho hb
      go_wp2
      go_quiet (fail)
      go_wp2
      go_ret2
      exact ⟨ret_num (by rw [HO.out]; rfl), below_drewN HB.out _⟩
    · have HO := Lib.hid ho
      have HB := Lib.hid hb
      clear ho hb
      go_wp2
      go_quiet (fail)
      go_wp2
      go_ret2
      exact ⟨ret_num (by rw [HO.out]; rfl), below_drewN HB.out _⟩
  · have b1 : decide ((s.size : Int) > 1) = false := by simp; omega
    have b1' : decide (1 < (s.size : Int)) = false := by simp; omega
    go_enter Tryz.func30, Tryz.ntmps30
    go_wp2_with fail
    go_at_call 50
    refine HC.out.mono ?_
    rintro e w1 ⟨hb, ⟨u, ho, hu, rfl⟩ | ⟨ho, te, pe, rfl⟩⟩
    · have HO := Lib.hid ho
      have HB := Lib.hid hb
      clear ho hb
      go_wp2
      go_quiet (fail)
      go_wp2
      go_ret2
      exact ⟨ret_num (by rw [HO.out]; rfl), below_drewN HB.out _⟩
    · have HO := Lib.hid ho
      have HB := Lib.hid hb
      clear ho hb
      go_wp2
      go_quiet (fail)
      go_wp2
      go_ret2
      exact ⟨ret_num (by rw [HO.out]; rfl), below_drewN HB.out _⟩
end Go.Proofs.YtiblpkgbabjmfaaGreatDoor
