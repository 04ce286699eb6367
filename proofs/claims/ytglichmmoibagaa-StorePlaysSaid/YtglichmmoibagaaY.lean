/- Steps of a region that draws its order: taken first; a new slice; a part appended. -/
import Derived.Test.YtglichmmoibagaaU
import Derived.Test.YtglichmmoibagaaZ
namespace Go.Proofs.Ytglichmmoibagaa
open Go.RowKit
set_option linter.unusedVariables false
section
variable {ops : Array Oper} {Q : Exit → Act → World → Prop} {S : World → Prop}

/-- The frame with another value in slot d. -/
def putD (a : Act) (d : Nat) (v : Value) : Act := { tmps := a.tmps.setIfInBounds d v, defers := a.defers }

theorem put_dst {a : Act} {o : Option Tmp} {d : Nat} (h : o = some d) (v : Value) : a.put o v = putD a d v := by subst h; rfl

theorem takeH {i d : Nat} {oi : Oper} {v : Value} {fuel : Nat} {listed : Array Bool} {a : Act} {w : World} (hi : ops[i]? = some oi) (hd : oi.dst = some d) (hs : Region.noSelect ops = true) (hf : Region.free .any ops listed i = true)
    (hr : (Region.ready .any ops listed).contains i = true) (hQ : ∀ c a w, Q (.panic c) (a.put oi.dst v) w → Q (.panic c) a w) (hS : S w) (hg : oi.guard = none) (hy : ∀ w, S w → (execOp a.eval oi).run Try.prog w = .ok (.value v) w)
    (h : wpAnyH Try.prog .any ops Q S fuel (listed.setIfInBounds i true) (putD a d v) w) : wpAnyH Try.prog .any ops Q S (fuel + 1) listed a w :=
  wpAnyH_take hi hs hf hr hQ (.inl ⟨by simp [Region.wanted, hg], hy⟩) hS (by rw [put_dst hd]; exact h)

theorem ready1 {i : Nat} {fuel : Nat} {listed : Array Bool} {a : Act} {w : World} (hr : Region.ready .any ops listed = [i])
    (h : wpOp Try.prog ops Q i (fun a' w' => S w' ∧ wpAnyH Try.prog .any ops Q S fuel (listed.setIfInBounds i true) a' w') a w) : wpAnyH Try.prog .any ops Q S (fuel + 1) listed a w :=
  wpAnyH_all hr (by simp) (fun j hj => by simp at hj; subst hj; exact h)

theorem ready2 {i j : Nat} {fuel : Nat} {listed : Array Bool} {a : Act} {w : World} (hr : Region.ready .any ops listed = [i, j])
    (h : wpOp Try.prog ops Q i (fun a' w' => S w' ∧ wpAnyH Try.prog .any ops Q S fuel (listed.setIfInBounds i true) a' w') a w)
    (h' : wpOp Try.prog ops Q j (fun a' w' => S w' ∧ wpAnyH Try.prog .any ops Q S fuel (listed.setIfInBounds j true) a' w') a w) : wpAnyH Try.prog .any ops Q S (fuel + 1) listed a w :=
  wpAnyH_all hr (by simp) (fun k hk => by
    simp at hk
    rcases hk with rfl | rfl
    · exact h
    · exact h')

theorem op_wp {i d : Nat} {o : Oper} {K : Act → World → Prop} {a : Act} {w w' : World} {v : Value} (hi : ops[i]? = some o) (hd : o.dst = some d) (hg : o.guard = none) (hr : (execOp a.eval o).run Try.prog w = .ok (.value v) w')
    (h : K (putD a d v) w') : wpOp Try.prog ops Q i K a w := by
  unfold wpOp
  simp only [hi, Region.wanted, hg, if_true]
  refine .inl ?_
  unfold Oper.wp
  rw [hr]
  simp only [Oper.upon]
  rw [put_dst hd]
  exact h

theorem opNew {i d : Nat} {o : Oper} {K : Act → World → Prop} {a : Act} {w : World} (hi : ops[i]? = some o) (hd : o.dst = some d) (hg : o.guard = none) (ho : o.op = .buildSlice 33 0 #[])
    (h : K (putD a d (.slice (some ⟨w.heap.size, 0, none⟩) 0 0)) (w.alloc (.cells #[] 9))) : wpOp Try.prog ops Q i K a w := by
  refine op_wp hi hd hg ?_ h
  obtain ⟨i0, hi0, hz0, hz1, hz2⟩ := info_parts info9
  unfold execOp
  simp only [ho]
  have e0 : Array.range 0 = #[] := rfl
  simp [Instr.buildSlice, run_underlying Try.underlying33, newRow, sizeOf, typeInfo, zeroValue, hi0, hz0, hz1, e0, Instr.fill, newObj]
  rfl

theorem opNew1 {i d : Nat} {o : Oper} {K : Act → World → Prop} {a : Act} {w : World} {s : ByteArray} (x : Operand) (hi : ops[i]? = some o) (hd : o.dst = some d) (hg : o.guard = none) (ho : o.op = .buildSlice 33 1 #[(0, x)]) (hx : a.eval x = .string s)
    (h : K (putD a d (.slice (some ⟨w.heap.size, 0, none⟩) 1 1)) (w.alloc (.cells #[.string s] 9))) : wpOp Try.prog ops Q i K a w := by
  refine op_wp hi hd hg ?_ h
  obtain ⟨i0, hi0, hz0, hz1, hz2⟩ := info_parts info9
  unfold execOp
  simp only [ho]
  have e0 : Array.range 1 = #[0] := rfl
  simp [Instr.buildSlice, run_underlying Try.underlying33, newRow, sizeOf, typeInfo, zeroValue, hi0, hz0, hz1, hx, e0, Instr.fill, newObj]
  rfl

theorem opAppend {i d : Nat} {o : Oper} {K : Act → World → Prop} {a : Act} {w : World} (s x : Operand) (hi : ops[i]? = some o) (hd : o.dst = some d) (hg : o.guard = none)
    (ho : o.op = .call { callee := .builtin .append, args := #[s, x], argTypes := #[33, 33] })
    {B : Nat} {v : Value} {n : Nat} {xs : List Value} {ao : Option Addr} {m c : Nat} {news : List Value} (hs : a.eval s = v) (hx : a.eval x = .slice ao m c) (hown : w.ownsRow B 9 1 v n xs) (hl : news.length = m) (hp : Part w ao news)
    (h63 : n + m ≤ 1000) (hB : B ≤ w.heap.size)
    (h : ∀ v' w', w'.ownsRow B 9 1 v' (n + m) (xs ++ news) → w.grownBy w' v.ownBlock → (v'.ownBlock = v.ownBlock ∨ v'.ownBlock = some w.heap.size) → K (putD a d v') w') : wpOp Try.prog ops Q i K a w := by
  obtain ⟨v', w', hr, h2, h3, h5⟩ := run_append_part hown hl hp h63 hB o.type
  refine op_wp (v := v') (w' := w') hi hd hg ?_ (h v' w' h2 h3 h5)
  unfold execOp
  simp only [ho, resolve, invoke, builtin, Sem.run_bind, Sem.run_pure, Result.andThen_ok, List.map_toArray, List.map_cons, List.map_nil, hs, hx]
  rw [hr]
  rfl
end
end Go.Proofs.Ytglichmmoibagaa
