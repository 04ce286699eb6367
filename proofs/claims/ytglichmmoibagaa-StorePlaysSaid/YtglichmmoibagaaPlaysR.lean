/- The steps of StorePlays, read out of the argument. -/
import Derived.Test.YtglichmmoibagaaPlaysW
import Derived.Deep.Slices
import Derived.WideShapes
import Derived.OpenShut
namespace Go.Proofs.Ytglichmmoibagaa.storePlays
open Go.ChangeShapes Go.WideShapes Go.RowKit
set_option linter.unusedVariables false
section
variable {H : Type} {enc : TypeId × Value → H}

theorem cells41 : Try.prog.cellsOf 41 = 4 := by kernel_rfl
theorem cells3 : Try.prog.cellsOf 3 = 1 := by kernel_rfl
theorem cells9 : Try.prog.cellsOf 9 = 1 := by kernel_rfl

theorem plain_of_cell {w : World} {a : Addr} {v : Value} (h : w.cell? a = some v) : a = ⟨a.block, a.off, none⟩ := by
  obtain ⟨b, o, s⟩ := a
  cases s with
  | none => rfl
  | some x =>
    exfalso
    unfold World.cell? at h
    split at h
    · simp at h
    · cases h

theorem steps_open {r : Reach} {b0 : Nat} {W : World} {v : Value} {d : DataW H} {ps : List MemPlace} (hval : Value.okWide Try.prog W r b0 36 v) (hd : DataW.Trod enc Try.prog W 0 (fun _ => true) true 36 v d ps) :
    ∃ ao n cap, v = .slice ao n cap ∧ n ≤ maxLen ∧ StepsAt W ao n := by
  obtain ⟨ao, n, cap, rfl⟩ := okWide_slice Try.underlying36 hval
  obtain ⟨fuel, hf⟩ := hd
  refine ⟨ao, n, cap, rfl, ?_⟩
  rcases Deep.open_slice Try.underlying36 hf with ⟨h0, _⟩ | ⟨a, len, cap', m, fu, D, Pl, h0, hb, hl, hm, hmm, hx, hall⟩
  · simp [Value.cells] at h0
    obtain ⟨rfl, rfl, rfl⟩ := h0
    exact ⟨by simp [maxLen], fun i hi => by omega⟩
  · simp [Value.cells] at h0
    obtain ⟨rfl, rfl, rfl⟩ := h0
    refine ⟨by omega, fun i hi => ?_⟩
    have him : i < m := by rw [hmm]; simp; omega
    obtain ⟨cs', h1, h2⟩ := hall i him
    rw [cells41] at h1
    obtain ⟨_, hlen, hcell⟩ := World.cells?_some h1
    obtain ⟨xs, k, hk, _, _, hxl, hfd⟩ := DataW.trod_struct Try.underlying41 h2
    match xs, hxl, cs', hlen with
    | [y0, y1, y2, y3], _, [u0, u1, u2, u3], _ =>
      have g0 := hfd 0 _ rfl
      have g1 := hfd 1 _ rfl
      have g2 := hfd 2 _ rfl
      have g3 := hfd 3 _ rfl
      simp [cells3, cells9] at g0 g1 g2 g3
      obtain ⟨k0, e0, _⟩ := DataW.trod_int Try.underlying3 g0
      obtain ⟨s1, e1, _, l1⟩ := DataW.trod_string Try.underlying9 g1
      obtain ⟨s2, e2, _, l2⟩ := DataW.trod_string Try.underlying9 g2
      obtain ⟨k3, e3, _⟩ := DataW.trod_int Try.underlying3 g3
      simp at e0 e1 e2 e3
      subst e0 e1 e2 e3
      have c0 := hcell 0 (by omega)
      have c1 := hcell 1 (by omega)
      have c2 := hcell 2 (by omega)
      have c3 := hcell 3 (by omega)
      simp at c0 c1 c2 c3
      have ha0 : (a.add (i * 4)).add 0 = a.add (i * 4) := by unfold Addr.add; simp
      rw [ha0] at c0
      have hp := plain_of_cell c0
      obtain ⟨ad, had⟩ : ∃ ad, a.add (i * 4) = ad := ⟨_, rfl⟩
      rw [had] at c0 c1 c2 c3 hp
      obtain ⟨b, o, s⟩ := ad
      have hs : s = none := by simpa using congrArg Addr.spot hp
      subst hs
      have h3 : ∀ j, (⟨b, o, none⟩ : Addr).add j = ⟨b, o + j, none⟩ := by
        intro j
        unfold Addr.add
        split <;> simp_all
      rw [h3] at c1 c2 c3
      exact ⟨a, b, o, k0, s1, s2, k3, rfl, had, c0, c1, c2, c3, l1, l2⟩
end
end Go.Proofs.Ytglichmmoibagaa.storePlays
