/- The reference store's calls: Get and Names. -/
import Derived.Test.YtglichmmoibagaaT
import Derived.Deep.RegionHeld
namespace Go.Proofs.Ytglichmmoibagaa
open Go.RowKit
set_option linter.unusedVariables false

/-- A reference store of the call's own at block q, from block B on: the files in the order of their names. -/
def IsRef (B : Nat) (w : World) (q : Nat) (l : Files) : Prop :=
  ∃ v1 v2, w.heap[q]? = some (.cells #[v1, v2] 39 (0, 0)) ∧ w.ownsRow B 9 1 v1 l.length ((l.map (·.1)).map strV) ∧ w.ownsRow B 9 1 v2 l.length (l.map fun x => Value.string x.2) ∧
    (∀ k, v1.ownBlock = some k → v2.ownBlock ≠ some k) ∧ B ≤ q ∧ B ≤ w.heap.size

def Srt (l : Files) : Prop := (l.map (·.1)).Pairwise (· < ·)

theorem Srt.nodup {l : Files} (h : Srt l) : (l.map (·.1)).Nodup := List.Pairwise.imp (fun {a b} hab e => by subst e; exact List.lt_irrefl _ hab) h

/-- Where no name is found there is none. -/
theorem PlaceAt.none {l : Files} {n : List UInt8} {k : Nat} (h : PlaceAt (l.map (·.1)) n k false) (hs : Srt l) : ∀ x ∈ l, x.1 ≠ n := by
  obtain ⟨h1, h2, _, h4⟩ := h
  intro x hx e
  obtain ⟨j, hj, rfl⟩ := List.getElem_of_mem hx
  have hjj : (l.map (·.1))[j]? = some l[j].1 := by simp [hj]
  rcases Nat.lt_or_ge j k with h | h
  · have := h2 j _ h hjj
    rw [e] at this
    exact List.lt_irrefl _ this
  · have hk : k < l.length := by omega
    have hkk : (l.map (·.1))[k]? = some l[k].1 := by simp [hk]
    have h5 := h4 rfl _ hkk
    rcases Nat.lt_or_ge k j with h6 | h6
    · have h7 := List.pairwise_iff_getElem.1 hs k j (by simpa using hk) (by simpa using hj) h6
      simp at h7
      rw [e] at h7
      exact List.lt_irrefl _ (List.lt_trans h5 h7)
    · obtain rfl : k = j := by omega
      rw [e] at h5
      exact List.lt_irrefl _ h5

theorem PlaceAt.some {l : Files} {n : List UInt8} {k : Nat} (h : PlaceAt (l.map (·.1)) n k true) : ∃ t, l[k]? = some (n, t) := by
  obtain ⟨h1, h2, h3, _⟩ := h
  have := h3 rfl
  rw [List.getElem?_map] at this
  cases hx : l[k]? with
  | none => rw [hx] at this; cases this
  | some x => rw [hx] at this; exact ⟨x.2, by simp at this; rw [← this]⟩

set_option maxHeartbeats 1000000 in
theorem get18 {B q : Nat} {w : World} {l : Files} {n : ByteArray} (h : IsRef B w q l) (hl : l.length ≤ 64) (hs : Srt l) :
    Calls Try.prog 18 #[.pointer (some ⟨q, 0, none⟩), .string n] w fun e w' => e = .returned (.tuple #[.string ((l.get n.data.toList).getD ByteArray.empty), .bool (l.get n.data.toList).isSome]) ∧ w' = w := by
  obtain ⟨v1, v2, hq, h1, h2, _⟩ := h
  have hlen : (l.map (·.1)).length = l.length := List.length_map _
  have hp := place28 (n := n) (ns := l.map (·.1)) hq (by rw [hlen]; exact h1) (by rw [hlen]; exact hl)
  clear hlen
  obtain ⟨ao, cap, rfl, hc1, hc2, hat⟩ := owned_shape h2
  have hc : w.cell? ⟨q, 1, none⟩ = some (.slice ao l.length cap) := by
    rw [cell_of_row w q 1 _ _ _ hq]; rfl
  have HAT := Lib.hid hat
  have HS := Lib.hid hs
  have HP := Lib.hid hp
  clear hat hq h1 h2 hs hp
  go_enter Try.func18, Try.ntmps18
  go_wp2_with fail
  refine HP.out.mono ?_
  rintro e w1 ⟨k, b, rfl, hpl, rfl⟩
  cases b with
  | false =>
    have hno := Files.get_none (hpl.none HS.out)
    have HNO := Lib.hid hno
    clear hno hpl
    go_wp2_with fail
    go_ret2
    exact ⟨by rw [HNO.out]; rfl, rfl⟩
  | true =>
    obtain ⟨t, ht⟩ := hpl.some
    have hk : k < l.length := (List.getElem?_eq_some_iff.1 ht).1
    have hge := Files.get_of HS.out.nodup ht
    have HGE := Lib.hid hge
    obtain ⟨g, u, rfl, hu, hcu⟩ := HAT.out k hk
    rw [List.getElem?_map, ht] at hu
    obtain rfl : Value.string t = u := by simpa using hu
    clear hu hge ht hpl
    go_wp2_with fail
    go_ret2
    exact ⟨by rw [show l.get n.data.toList = some t from HGE.out]; rfl, rfl⟩

set_option maxHeartbeats 1000000 in
theorem names20 {B q : Nat} {w : World} {l : Files} (h : IsRef B w q l) (hl : l.length ≤ 64) :
    Calls Try.prog 20 #[.pointer (some ⟨q, 0, none⟩)] w fun e w' => ∃ v, e = .returned v ∧ w'.ownsRow w.heap.size 9 1 v l.length ((l.map (·.1)).map strV) ∧ Below w.heap.size w w' := by
  obtain ⟨v1, v2, hq, h1, h2, _⟩ := h
  obtain ⟨ao, cap, rfl, hc1, hc2, hat⟩ := owned_shape h1
  have hc : w.cell? ⟨q, 0, none⟩ = some (.slice ao l.length cap) := by
    rw [cell_of_row w q 0 _ _ _ hq]; rfl
  have hpart := (owned_part h1 (strV_one _)).below ((Below.refl w.heap.size w).alloc (Nat.le_refl _) (.cells #[] 9))
  have hqa : (w.alloc (.cells #[] 9)).cell? ⟨q, 0, none⟩ = some (.slice ao l.length cap) := by
    rw [World.cell?_alloc_some _ _ _ (by rw [hc]; rfl)]; exact hc
  have hb := (Below.refl w.heap.size w).alloc (Nat.le_refl _) (.cells #[] 9)
  have HP := Lib.hid hpart
  have HB := Lib.hid hb
  clear hat hq h1 h2 hpart hb
  go_enter Try.func20, Try.ntmps20
  go_wp2_with (first | (at_builtin; (refine wpList_append_part rfl (.tmp 5) (.tmp 9) rfl rfl rfl (made0 w (Nat.le_refl _)) (by simp) HP.out (by omega) (by simp) ?_); intro v' w' hown hgrow hat))
  go_ret
  exact ⟨_, rfl, by simpa using hown, HB.out.grown hgrow (by simp) (fun k hk => Nat.le_of_eq (Option.some.inj hk))⟩
end Go.Proofs.Ytglichmmoibagaa
