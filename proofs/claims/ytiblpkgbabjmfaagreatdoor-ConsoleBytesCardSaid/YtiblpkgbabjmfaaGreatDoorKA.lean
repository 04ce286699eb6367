/- A closure by a certificate: what each function leads to, in the order in which the search comes to it. -/
import Derived.Test.YtiblpkgbabjmfaaGreatDoorYD
namespace Go.Proofs.YtiblpkgbabjmfaaGreatDoor
open Go

/-- The search, over a table in its own order; the mask holds what was seen. -/
def runT : Nat → List Nat → List (Nat × List Nat) → Nat → Bool
  | 0, _, _, _ => false
  | _ + 1, [], T, _ => T.isEmpty
  | n + 1, f :: todo, T, m => bif m.testBit f then runT n todo T m else match T with
    | [] => false
    | x :: r => (x.1 == f) && runT n (x.2 ++ todo) r (m ||| (1 <<< f))

theorem mask_step (m f g : Nat) : (m ||| (1 <<< f)).testBit g = (g == f || m.testBit g) := by
  rw [Nat.testBit_or, Nat.one_shiftLeft, Nat.testBit_two_pow]
  by_cases e : f = g
  · subst e; simp
  · have e2 : (g == f) = false := by rw [beq_eq_false_iff_ne]; exact fun h => e h.symm
    rw [decide_eq_false e, e2, Bool.or_false, Bool.false_or]

theorem closure_run (P : Program) : ∀ (n : Nat) (todo : List Nat) (T : List (Nat × List Nat)) (m : Nat) (seen : List Nat) (fuel : Nat), runT n todo T m = true → (∀ f, m.testBit f = seen.contains f) →
    (∀ x ∈ T, (P.funcs[x.1]?).elim [] P.leadsTo = x.2) → n ≤ fuel → P.closureVia fuel todo seen = seen.reverse ++ T.map (·.1)
  | 0, _, _, _, _, _, h, _, _, _ => by simp [runT] at h
  | n + 1, todo, T, m, seen, 0, _, _, _, hf => by omega
  | n + 1, [], T, m, seen, k + 1, h, hm, hT, hf => by
    simp only [runT, List.isEmpty_iff] at h
    subst h
    simp [Program.closureVia]
  | n + 1, f :: todo, T, m, seen, k + 1, h, hm, hT, hf => by
    simp only [runT] at h
    simp only [Program.closureVia]
    cases hb : m.testBit f with
    | true =>
      rw [hb, cond_true] at h
      rw [if_pos (by rw [← hm f]; exact hb)]
      exact closure_run P n todo T m seen k h hm hT (by omega)
    | false =>
      rw [hb, cond_false] at h
      rw [if_neg (by rw [← hm f, hb]; simp)]
      match T, h, hT with
      | [], h, _ => cases h
      | x :: r, h, hT =>
        simp only [Bool.and_eq_true, beq_iff_eq] at h
        obtain ⟨hx, h⟩ := h
        have hx2 := hT x (by simp)
        rw [hx] at hx2
        rw [hx2, closure_run P n (x.2 ++ todo) r _ (f :: seen) k h (fun g => by rw [mask_step, hm g, List.contains_cons]) (fun y hy => hT y (by simp [hy])) (by omega), ← hx]
        simp
end Go.Proofs.YtiblpkgbabjmfaaGreatDoor
