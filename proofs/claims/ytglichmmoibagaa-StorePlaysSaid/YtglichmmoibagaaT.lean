/- Laws for the reference store: a part of a slice appended to a slice of the call's own. -/
import Derived.Test.YtglichmmoibagaaQ
import Derived.Deep.AppendLies
import Derived.Deep.RegionLaw
import Derived.BigRegion
namespace Go.Proofs.Ytglichmmoibagaa
open Go.RowKit
set_option linter.unusedVariables false

/-- A slice's value holds these texts. -/
def Part (w : World) (ao : Option Addr) (news : List Value) : Prop :=
  (∀ j u, news[j]? = some u → ∃ ad, ao = some ad ∧ w.cell? (ad.add j) = some u) ∧ ∀ u ∈ news, u.oneCell' = true

theorem run_append_part {w : World} {B : Nat} {v : Value} {n : Nat} {xs : List Value} (hown : w.ownsRow B 9 1 v n xs) {ao : Option Addr} {m c : Nat} {news : List Value} (hl : news.length = m) (hp : Part w ao news)
    (h63 : n + m ≤ 1000) (hB : B ≤ w.heap.size) (ty : TypeId) :
    ∃ v' w', (Builtin.append_ #[33, 33] ty #[v, .slice ao m c]).run Try.prog w = .ok v' w' ∧ w'.ownsRow B 9 1 v' (n + m) (xs ++ news) ∧ w.grownBy w' v.ownBlock ∧ (v'.ownBlock = v.ownBlock ∨ v'.ownBlock = some w.heap.size) := by
  obtain ⟨i0, hi0, hz0, hz1, hz2⟩ := info_parts info9
  cases ao with
  | none =>
    have hn : news = [] := by
      cases news with
      | nil => rfl
      | cons a l => obtain ⟨_, h, _⟩ := hp.1 0 a rfl; cases h
    subst hn
    obtain rfl : 0 = m := hl
    refine ⟨v, w, ?_, by simpa using hown, ⟨rfl, rfl, rfl, Nat.le_refl _, fun _ _ _ => rfl⟩, Or.inl rfl⟩
    rcases hown.2 with ⟨rfl, rfl⟩ | ⟨g, cap, cur, rfl, hbg, hg, hnc, hcm, hcs, htake⟩
    · simp [Builtin.append_, run_underlying Try.underlying33, sizeOf, typeInfo, hi0, Builtin.lenOf, Builtin.firstCells, run_underlying Try.underlying9]
    · simp [Builtin.append_, run_underlying Try.underlying33, sizeOf, typeInfo, hi0, Builtin.lenOf, Builtin.firstCells, hnc, storeCells]
  | some ad =>
    have hb : (n + m) * 16 ≤ 140737488355328 := by omega
    obtain ⟨v', w', h1, h2, h3, _, h5⟩ := run_append_own_at (P := Try.prog) w B 33 ty 9 i0 (.string ByteArray.empty) 1 16 Try.underlying33 hi0 hz0 hz1 hz2 rfl (by decide) v n xs hown ad m c news (by omega) (fun j u hu => by
      obtain ⟨ad', h, h'⟩ := hp.1 j u hu
      cases h
      exact h') hp.2 (by simp only [maxLen]; omega) hb hB
    exact ⟨v', w', h1, h2, h3, h5⟩

theorem step_append_part {ops : Array Oper} {o : Oper} {a : Act} {w : World} {K : Act → World → Prop} {Q : Exit → Act → World → Prop} {E : Prop} (hgd : o.guard = none) (s x : Operand)
    (ho : o.op = .call { callee := .builtin .append, args := #[s, x], argTypes := #[33, 33] })
    {B : Nat} {v : Value} {n : Nat} {xs : List Value} {ao : Option Addr} {m c : Nat} {news : List Value} (hs : a.eval s = v) (hx : a.eval x = .slice ao m c) (hown : w.ownsRow B 9 1 v n xs) (hl : news.length = m) (hp : Part w ao news)
    (h63 : n + m ≤ 1000) (hB : B ≤ w.heap.size)
    (h : ∀ v' w', w'.ownsRow B 9 1 v' (n + m) (xs ++ news) → w.grownBy w' v.ownBlock → (v'.ownBlock = v.ownBlock ∨ v'.ownBlock = some w.heap.size) → K (a.put o.dst v') w') :
    if Region.wanted o (yielded ops a.tmps) = true then Oper.wp Try.prog o a w K Q else E := by
  have hw : Region.wanted o (yielded ops a.tmps) = true := by simp [Region.wanted, hgd]
  rw [if_pos hw]
  obtain ⟨v', w', hr, h2, h3, h5⟩ := run_append_part hown hl hp h63 hB o.type
  unfold Oper.wp execOp
  simp only [ho, resolve, invoke, builtin, Sem.run_bind, Sem.run_pure, Result.andThen_ok, List.map_toArray, List.map_cons, List.map_nil, hs, hx]
  rw [hr]
  exact h v' w' h2 h3 h5

theorem wpList_append_part {ops : Array Oper} {rest : List Oper} {o : Oper} {a : Act} {w : World} {Q : Exit → Act → World → Prop} (hgd : o.guard = none) (s x : Operand)
    (ho : o.op = .call { callee := .builtin .append, args := #[s, x], argTypes := #[33, 33] })
    {B : Nat} {v : Value} {n : Nat} {xs : List Value} {ao : Option Addr} {m c : Nat} {news : List Value} (hs : a.eval s = v) (hx : a.eval x = .slice ao m c) (hown : w.ownsRow B 9 1 v n xs) (hl : news.length = m) (hp : Part w ao news)
    (h63 : n + m ≤ 1000) (hB : B ≤ w.heap.size)
    (h : ∀ v' w', w'.ownsRow B 9 1 v' (n + m) (xs ++ news) → w.grownBy w' v.ownBlock → (v'.ownBlock = v.ownBlock ∨ v'.ownBlock = some w.heap.size) → wpList Try.prog ops Q rest (a.put o.dst v') w') :
    wpList Try.prog ops Q (o :: rest) a w := by
  refine wpList_plain hgd fun K hK => ?_
  obtain ⟨v', w', hr, h2, h3, h5⟩ := run_append_part hown hl hp h63 hB o.type
  unfold Oper.wp execOp
  simp only [ho, resolve, invoke, builtin, Sem.run_bind, Sem.run_pure, Result.andThen_ok, List.map_toArray, List.map_cons, List.map_nil, hs, hx]
  rw [hr]
  exact hK _ _ (h v' w' h2 h3 h5)

theorem made0 {B : Nat} (w : World) (hB : B ≤ w.heap.size) : (w.alloc (.cells #[] 9)).ownsRow B 9 1 (.slice (some ⟨w.heap.size, 0, none⟩) 0 0) 0 [] :=
  World.ownsRow_made w #[] 0 hB (by simp [maxLen]) rfl

theorem Part.below {w w' : World} {ao : Option Addr} {news : List Value} (h : Part w ao news) (hb : Below w.heap.size w w') : Part w' ao news :=
  ⟨fun j u hu => by
    obtain ⟨ad, e, hc⟩ := h.1 j u hu
    refine ⟨ad, e, ?_⟩
    have hlt := World.block_lt_of_cell? w _ hc
    exact (World.cell?_of_block (hb.block _ hlt)).trans hc, h.2⟩

/-- What a slice of the call's own holds. -/
theorem owned_part {w : World} {B : Nat} {ao : Option Addr} {n cap : Nat} {xs : List Value} (h : w.ownsRow B 9 1 (.slice ao n cap) n xs) (h1 : ∀ u ∈ xs, u.oneCell' = true) : Part w ao xs := by
  refine ⟨fun j u hu => ?_, h1⟩
  have hj : j < n := by
    have := (List.getElem?_eq_some_iff.1 hu).1
    have := h.1
    omega
  obtain ⟨ao', cap', e, _, _, hat⟩ := owned_shape h
  obtain ⟨g, u', e2, hu', hc⟩ := hat j hj
  simp only [Value.slice.injEq] at e
  obtain ⟨rfl, _, _⟩ := e
  rw [hu] at hu'
  cases hu'
  refine ⟨⟨g, 0, none⟩, e2, ?_⟩
  have hadd : (⟨g, 0, none⟩ : Addr).add j = ⟨g, j, none⟩ := by unfold Addr.add; split <;> simp_all
  rw [hadd]; exact hc

theorem strV_one (l : List (List UInt8)) : ∀ u ∈ l.map strV, u.oneCell' = true := by
  intro u hu
  obtain ⟨x, _, rfl⟩ := List.mem_map.1 hu
  rfl
theorem textV_one (l : List (List UInt8 × ByteArray)) : ∀ u ∈ (l.map fun x => Value.string x.2), u.oneCell' = true := by
  intro u hu
  obtain ⟨x, _, rfl⟩ := List.mem_map.1 hu
  rfl
end Go.Proofs.Ytglichmmoibagaa
