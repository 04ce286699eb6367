/- The reference store: where a name stands. -/
import Derived.Test.YtglichmmoibagaaN
import Derived.Test.YtglichmmoibagaaC
import Derived.Sort.Walk0
namespace Go.Proofs.Ytglichmmoibagaa
open Go.RowKit
set_option linter.unusedVariables false
open Go.WideShapes (bytes_inj)

/-- Where a name stands, or would. -/
def PlaceAt (ns : List (List UInt8)) (n : List UInt8) (k : Nat) (b : Bool) : Prop :=
  k ≤ ns.length ∧ (∀ j x, j < k → ns[j]? = some x → x < n) ∧ (b = true → ns[k]? = some n) ∧ (b = false → ∀ x, ns[k]? = some x → n < x)

/-- The shape of a slice of the call's own, and its cells. -/
theorem owned_shape {w : World} {B : Nat} {e : TypeId} {v : Value} {n : Nat} {xs : List Value} (h : w.ownsRow B e 1 v n xs) :
    ∃ ao cap, v = .slice ao n cap ∧ n ≤ cap ∧ cap ≤ maxLen ∧ (∀ k : Nat, k < n → ∃ g u, ao = some ⟨g, 0, none⟩ ∧ xs[k]? = some u ∧ w.cell? ⟨g, k, none⟩ = some u) := by
  have h' := h
  obtain ⟨h1, ⟨rfl, h0⟩ | ⟨g, cap, cur, rfl, hg, hh, hc, hm, hcs, ht⟩⟩ := h
  · exact ⟨none, 0, by rw [h0], by omega, by simp [maxLen], fun k hk => by omega⟩
  · refine ⟨_, cap, rfl, hc, hm, fun k hk => ⟨g, xs[k]'(by omega), rfl, List.getElem?_eq_getElem _, ?_⟩⟩
    rw [cell_of_row w g k _ _ _ hh]
    have hk2 : k < xs.length := by omega
    have e1 : xs[k]? = (cur.toList.take (n * 1))[k]? := by rw [ht]
    rw [List.getElem?_take_of_lt (by omega)] at e1
    rw [List.getElem?_eq_getElem hk2] at e1
    rw [e1]; simp

theorem place_hit {ns : List (List UInt8)} {n : ByteArray} {k : Nat} (hk : k < ns.length) (hpre : ∀ j x, j < k → ns[j]? = some x → x < n.data.toList) (h : (ns[k] == n.toList) = true) : PlaceAt ns n.data.toList k true := by
  rw [Lib.toList_data, beq_iff_eq] at h
  exact ⟨by omega, hpre, fun _ => by rw [List.getElem?_eq_getElem hk, h], by simp⟩

theorem place_miss {ns : List (List UInt8)} {n : ByteArray} {k : Nat} (hk : k < ns.length) (hpre : ∀ j x, j < k → ns[j]? = some x → x < n.data.toList) (h : (ns[k] == n.toList) = false) (h2 : (!Op.bytesLess ns[k] n.toList) = true) : PlaceAt ns n.data.toList k false := by
  rw [Lib.toList_data, beq_eq_false_iff_ne] at h
  rw [bytesLess_eq, Lib.toList_data] at h2
  have h3 : ¬ ns[k] < n.data.toList := by simpa using h2
  refine ⟨by omega, hpre, by simp, fun _ x hx => ?_⟩
  rw [List.getElem?_eq_getElem hk] at hx
  obtain rfl : ns[k] = x := by simpa using hx
  by_cases h4 : n.data.toList < ns[k]
  · exact h4
  · exact absurd (List.le_antisymm (List.not_lt.1 h4) (List.not_lt.1 h3)) h

theorem place_next {ns : List (List UInt8)} {n : ByteArray} {k : Nat} (hk : k < ns.length) (hpre : ∀ j x, j < k → ns[j]? = some x → x < n.data.toList) (h2 : (!Op.bytesLess ns[k] n.toList) = false) : ∀ j x, j < k + 1 → ns[j]? = some x → x < n.data.toList := by
  rw [bytesLess_eq, Lib.toList_data] at h2
  have h3 : ns[k] < n.data.toList := by simpa using h2
  intro j x hj hx
  rcases Nat.lt_or_ge j k with h | h
  · exact hpre j x h hx
  · obtain rfl : j = k := by omega
    rw [List.getElem?_eq_getElem hk] at hx
    obtain rfl : ns[j] = x := by simpa using hx
    exact h3

theorem place_end {ns : List (List UInt8)} {n : List UInt8} (hpre : ∀ j x, j < ns.length → ns[j]? = some x → x < n) : PlaceAt ns n ns.length false :=
  ⟨Nat.le_refl _, hpre, by simp, fun _ x hx => by simp at hx⟩

set_option maxHeartbeats 1000000 in
theorem place28 {w : World} {B q : Nat} {v1 v2 : Value} {ns : List (List UInt8)} {n : ByteArray} (hq : w.heap[q]? = some (.cells #[v1, v2] 39 (0, 0))) (h1 : w.ownsRow B 9 1 v1 ns.length (ns.map strV)) (hl : ns.length ≤ 64) :
    Calls Try.prog 28 #[.pointer (some ⟨q, 0, none⟩), .string n] w fun e w' => ∃ k b, e = .returned (.tuple #[.int .i64 (k : Nat), .bool b]) ∧ PlaceAt ns n.data.toList k b ∧ w' = w := by
  obtain ⟨ao, cap, rfl, hc1, hc2, hat⟩ := owned_shape h1
  have hc : w.cell? ⟨q, 0, none⟩ = some (.slice ao ns.length cap) := by
    rw [cell_of_row w q 0 _ _ _ hq]; rfl
  have HAT := Lib.hid hat
  clear hat hq h1
  go_enter Try.func28, Try.ntmps28
  go_wp2_with fail
  go_loop [6] (fun v => ∃ k : Nat, k ≤ ns.length ∧ v = .int .i64 k ∧ ∀ j x, j < k → ns[j]? = some x → x < n.data.toList) (fun v => ns.length - (intOf v).toNat)
  case atStart => exact ⟨0, Nat.zero_le _, rfl, fun j x h => by omega⟩
  case round =>
    obtain ⟨k, hk, rfl, hpre⟩ := hrel
    have HPRE := Lib.hid hpre
    clear hpre
    by_cases hlt : k < ns.length
    · obtain ⟨g, u, rfl, hu, hcu⟩ := HAT.out k hlt
      rw [List.getElem?_map, List.getElem?_eq_getElem hlt] at hu
      obtain rfl : strV ns[k] = u := by simpa using hu
      unfold strV at hcu
      clear hu
      go_wp2_with fail
      · go_ret2
        exact ⟨k, .inr ⟨rfl, place_hit hlt HPRE.out (by assumption), rfl⟩⟩
      · go_ret2
        exact ⟨k, .inl ⟨rfl, place_miss hlt HPRE.out (by assumption) (by assumption), rfl⟩⟩
      · go_round
        case rel => exact ⟨k + 1, by omega, by go_num, place_next hlt HPRE.out (by assumption)⟩
        case measure => simp [intOf]; omega
    · obtain rfl : k = ns.length := by omega
      go_wp2
      go_ret2
      exact ⟨ns.length, .inl ⟨rfl, place_end HPRE.out, rfl⟩⟩
end Go.Proofs.Ytglichmmoibagaa
