/- Places that are all unlike, told by a mask of bits in place of a decision pair by pair; no condition. -/
import GoSem.ClaimSeven
namespace Go.Proofs.YtiblpkgbabjmfaaGreatDoor
open Go
/-- A place as a number. -/
def placeKey : MemPlace → Option Nat
  | .cell b o => if o < 65536 then some (b * 65536 + o) else none
  | _ => none
/-- No place twice: the numbers met so far as a mask. -/
def apartB : List MemPlace → Nat → Bool
  | [], _ => true
  | p :: l, m => match placeKey p with
    | some k => Nat.land (Nat.shiftRight m k) 1 == 0 && apartB l (Nat.lor m (Nat.shiftLeft 1 k))
    | none => false
theorem key_inj {p q : MemPlace} {k : Nat} (hp : placeKey p = some k) (hq : placeKey q = some k) : p = q := by
  cases p <;> cases q <;> simp [placeKey] at hp hq
  obtain ⟨h1, h2⟩ := hp
  obtain ⟨h3, h4⟩ := hq
  congr 1 <;> omega
theorem bit_set (m k : Nat) : (Nat.lor m (Nat.shiftLeft 1 k)).testBit k = true := by
  show (m ||| (1 <<< k)).testBit k = true
  rw [Nat.testBit_or, Nat.one_shiftLeft, Nat.testBit_two_pow_self, Bool.or_true]
theorem bit_keep {m k j : Nat} (h : m.testBit j = true) : (Nat.lor m (Nat.shiftLeft 1 k)).testBit j = true := by
  show (m ||| (1 <<< k)).testBit j = true
  rw [Nat.testBit_or, h, Bool.true_or]
theorem bit_free {m k : Nat} (h : (Nat.land (Nat.shiftRight m k) 1 == 0) = true) : m.testBit k = false := by
  have h1 : (m >>> k) &&& 1 = 0 := by simpa using h
  unfold Nat.testBit
  rw [Nat.and_comm, h1]; rfl
theorem apart_nodup : ∀ (l : List MemPlace) (m : Nat), apartB l m = true → l.Nodup ∧ ∀ p ∈ l, ∀ k, placeKey p = some k → m.testBit k = false
  | [], _, _ => ⟨List.nodup_nil, by simp⟩
  | p :: l, m, h => by
    unfold apartB at h
    cases hk : placeKey p with
    | none => rw [hk] at h; cases h
    | some k =>
      rw [hk] at h
      simp only [Bool.and_eq_true] at h
      obtain ⟨h1, h2⟩ := apart_nodup l _ h.2
      refine ⟨List.nodup_cons.2 ⟨fun hm => ?_, h1⟩, ?_⟩
      · have := h2 p hm k hk
        rw [bit_set] at this; cases this
      · intro q hq j hj
        rcases List.mem_cons.1 hq with rfl | hq
        · rw [hk] at hj; cases hj
          exact bit_free h.1
        · cases hb : m.testBit j with
          | false => rfl
          | true =>
            have := h2 q hq j hj
            rw [bit_keep hb] at this; cases this

theorem join_rows {α : Type} {o : Option (α × List MemPlace)} {f : List MemPlace → Bool} (h1 : o.map (fun x => apartB x.2 0) = some true) (h2 : o.map (fun x => f x.2) = some true) :
    o.map (fun x => decide x.2.Nodup && f x.2) = some true := by
  cases o with
  | none => cases h1
  | some x =>
    simp only [Option.map_some, Option.some.injEq] at h1 h2 ⊢
    rw [h2, Bool.and_true]
    exact decide_eq_true (apart_nodup _ _ h1).1
end Go.Proofs.YtiblpkgbabjmfaaGreatDoor
