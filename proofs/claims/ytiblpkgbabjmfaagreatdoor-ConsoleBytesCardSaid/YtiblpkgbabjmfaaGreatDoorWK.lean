/- The contract of the reference's Dec: the decimal digits of a number that is not below 0. Then the contract of SameCmd; commands as values. -/
import Derived.Test.YtiblpkgbabjmfaaGreatDoorWJ
import Derived.Deep.RegionWith
import Derived.RegionTactic
import Derived.Lib.ItoaLen
namespace Go.Proofs.YtiblpkgbabjmfaaGreatDoor
open Go.RowKit

theorem run_one_string {w : World} {g : Nat} {c : UInt8} {cs : Array Value} (hg : w.heap[g]? = some (.cells cs 5 (0, 0))) (hc : cs[0]? = some (.int .u8 (c.toNat : Int))) : (convert 65 9 (.slice (some ⟨g, 0, none⟩) 1 1)).run Tryz.prog w = .ok (.string ⟨#[c]⟩) w := by
  have hld : (loadCells ⟨g, 0, none⟩ 1).run Tryz.prog w = .ok (([(c.toNat : Int)]).map (Value.int .u8)).toArray w := by
    have h := run_loadCells_list (P := Tryz.prog) w ⟨g, 0, none⟩ [.int .u8 (c.toNat : Int)] (fun j v hv => by
      cases j with
      | zero => simp at hv; subst hv; rw [show (⟨g, 0, none⟩ : Addr).add 0 = ⟨g, 0, none⟩ from rfl, cell_of_row w g 0 _ _ _ hg]; exact hc
      | succ j => simp at hv)
    exact h
  rw [run_convert_bytes_string w 65 9 5 _ _ _ Tryz.underlying65 Tryz.underlying5 Tryz.underlying9, run_bytesToString (P := Tryz.prog) w ⟨g, 0, none⟩ 1 1 [(c.toNat : Int)] hld]
  simp [ByteArray.push]

/-- A byte put into new memory, as a text. -/
theorem conv_here (c : UInt8) (W : World) : (convert 65 9 (.slice (some ⟨W.heap.size, 0, none⟩) 1 1)).run Tryz.prog (W.alloc (.cells #[.int .u8 (c.toNat : Int)] 5)) = .ok (.string ⟨#[c]⟩) (W.alloc (.cells #[.int .u8 (c.toNat : Int)] 5)) :=
  run_one_string (Go.heap_alloc_new _ _) rfl
theorem conv_later (c : UInt8) {A W1 : World} {g : Nat} (h : Below A.heap.size A W1) (hg : A.heap[g]? = some (.cells #[.int .u8 (c.toNat : Int)] 5 (0, 0))) : (convert 65 9 (.slice (some ⟨g, 0, none⟩) 1 1)).run Tryz.prog W1 = .ok (.string ⟨#[c]⟩) W1 :=
  run_one_string (cs := #[.int .u8 (c.toNat : Int)]) ((h.block _ (Array.getElem?_eq_some_iff.1 hg).1).trans hg) rfl

theorem below_after {w A W1 : World} (hA : Below w.heap.size w A) (b : Below A.heap.size A W1) : Below w.heap.size w W1 := hA.trans (b.mono hA.size)
theorem cat_byte (l : List UInt8) (c : UInt8) : (⟨l.toArray⟩ : ByteArray) ++ ⟨#[c]⟩ = ⟨(l ++ [c]).toArray⟩ := by
  apply ByteArray.ext
  rw [ByteArray.data_append]
  simp

set_option maxRecDepth 100000 in
set_option maxHeartbeats 4000000 in
theorem dec24 : ∀ (n : Nat) (_h : n ≤ 9223372036854775807) (w : World), Calls Tryz.prog 24 #[.int .i64 (n : Int)] w (TextPost w (Lib.decDigits n)) := by
  intro n
  induction n using Nat.strongRecOn with
  | _ n ih =>
    intro hn w
    have HI := Lib.hid ih
    clear ih
    by_cases h10 : n < 10
    · obtain ⟨c, hd, hv⟩ : ∃ c : UInt8, Lib.decDigits n = [c] ∧ (48 : Int) + (n : Int) = (c.toNat : Int) := ⟨_, Lib.decDigits_one h10, by simp; omega⟩
      have HD := Lib.hid hd
      have hc := c.toNat_lt
      have hcv := conv_here c
      clear hd
      go_enter Tryz.func24, Tryz.ntmps24
      go_wp2_with fail
      go_ret
      exact ⟨by rw [HD.out]; rfl, (Below.refl _ _).alloc (Nat.le_refl _) _⟩
    · obtain ⟨c, hd, hv⟩ : ∃ c : UInt8, Lib.decDigits n = Lib.decDigits (n / 10) ++ [c] ∧ (48 : Int) + ((n % 10 : Nat) : Int) = (c.toNat : Int) := ⟨_, by rw [Lib.decDigits, dif_neg h10], by simp; omega⟩
      have hc := c.toNat_lt
      have hq : IntKind.i64.wrap ((n : Int) / 10) = ((n / 10 : Nat) : Int) := by rw [IntWalk.i64_in _ (by omega)]; omega
      have hm : ((n : Int)).tmod 10 = ((n % 10 : Nat) : Int) := by rw [Int.tmod_eq_emod_of_nonneg (by omega)]; omega
      have hw : IntKind.i64.wrap (48 + (n : Int) % 10) = (c.toNat : Int) := by rw [IntWalk.i64_in _ (by omega)]; omega
      have hw8 : IntKind.u8.wrap (c.toNat : Int) = (c.toNat : Int) := IntWalk.u8_in _ (by omega)
      have hlen : (Lib.decDigits (n / 10)).length ≤ 20 := by rw [Lib.decDigits_length]; exact Lib.nDigits_le20 _ (by omega)
      have hlen2 : ((Lib.decDigits (n / 10)).length : Int) ≤ 20 := by omega
      clear hlen
      have HCALL := Lib.hid (fun W => HI.out (n / 10) (by omega) (by omega) W)
      have hc1 : (convert 65 9 (.slice (some ⟨w.heap.size, 0, none⟩) 1 1)).run Tryz.prog (w.alloc (.cells #[.int .u8 (c.toNat : Int)] 5)).drew = .ok (.string ⟨#[c]⟩) (w.alloc (.cells #[.int .u8 (c.toNat : Int)] 5)).drew := run_one_string (cs := #[.int .u8 (c.toNat : Int)]) (Go.heap_alloc_new w _) rfl
      have hc2 : (convert 65 9 (.slice (some ⟨w.heap.size, 0, none⟩) 1 1)).run Tryz.prog (w.drew.alloc (.cells #[.int .u8 (c.toNat : Int)] 5)) = .ok (.string ⟨#[c]⟩) (w.drew.alloc (.cells #[.int .u8 (c.toNat : Int)] 5)) := run_one_string (cs := #[.int .u8 (c.toNat : Int)]) (Go.heap_alloc_new w.drew _) rfl
      have hc3 := conv_here c
      have HD := Lib.hid hd
      clear hd hv HI
      go_enter Tryz.func24, Tryz.ntmps24
      go_wp2_with fail
      go_region_with (go_at_call 24; refine (HCALL.out _).mono ?_; rintro e W1 ⟨rfl, b1⟩; try (have hx := conv_later c (g := w.heap.size) b1 (Go.heap_alloc_new _ _)))
      all_goals
        go_wp2
        go_ret
        refine ⟨by rw [HD.out, ← cat_byte]; rfl, ?_⟩
        first
          | exact (below_after (Below.refl _ w).drew b1).alloc (below_after (Below.refl _ w).drew b1).size _
          | exact below_after ((Below.refl _ w).alloc (Nat.le_refl _) _).drew b1
          | exact below_after ((Below.refl _ w).drew.alloc (Nat.le_refl _) _) b1

/-- A command as a value: six cells. -/
def cmdC (c : Cmd) : Array Value := #[.int .i64 c.op, .string ⟨c.name.toArray⟩, .string ⟨c.text.toArray⟩, .int .i64 c.fuel, .int .i64 c.words, .int .i64 c.stack]
def cmdV (c : Cmd) : Value := .agg (cmdC c)

theorem str_eq (a b : List UInt8) : ((⟨a.toArray⟩ : ByteArray).toList == (⟨b.toArray⟩ : ByteArray).toList) = decide (a = b) := by
  rw [ByteArray.toList_eq, ByteArray.toList_eq, Bool.eq_iff_iff]
  simp

def BoolPost (w : World) (b : Bool) (e : Ending) (w' : World) : Prop := e = .returned (.bool b) ∧ Below w.heap.size w w'

set_option maxRecDepth 100000 in
set_option maxHeartbeats 4000000 in
theorem same10 (a b : Cmd) (w : World) : Calls Tryz.prog 10 #[cmdV a, cmdV b] w (BoolPost w (decide (a = b))) := by
  have e1 := str_eq a.name b.name
  have e2 := str_eq a.text b.text
  unfold cmdV cmdC
  obtain ⟨o1, n1, t1, f1, w1, s1⟩ := a
  obtain ⟨o2, n2, t2, f2, w2, s2⟩ := b
  simp only at *
  go_enter Tryz.func10, Tryz.ntmps10
  go_wp2
  all_goals
    go_ret
    refine ⟨ret_bool ?_, ((Below.refl _ _).alloc (Nat.le_refl _) _).alloc (by simp) _⟩
    rw [Bool.eq_iff_iff]
    simp only [decide_eq_true_eq, beq_iff_eq, Cmd.mk.injEq, Bool.false_eq_true]
    grind
end Go.Proofs.YtiblpkgbabjmfaaGreatDoor
