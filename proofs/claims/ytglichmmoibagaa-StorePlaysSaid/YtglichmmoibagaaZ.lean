/- A region that draws its order and whose last operation waits for all others: the others under a condition on the world, the last one behind them. -/
import Derived.OrdersHeld
import Derived.StillTail
namespace Go.Proofs.Ytglichmmoibagaa

section
variable {P : Program} {md : Region.Mode}

/-- What is to hold behind all but the last. -/
def LastQ (P : Program) (z : Oper) (Q : Exit → Act → World → Prop) : Exit → Act → World → Prop
  | .normal, a, w => z.wp P a w (fun a' w' => Q .normal a' w') Q
  | e, a, w => Q e a w

def snocB (l : List Oper) (z : Oper) : Bool :=
  (l.all fun o => o.guard.isNone) && z.guard.isNone && ((List.range l.length).all fun j => match l[j]? with | some o => o.after.all fun e => decide (e.on < j) | none => true) &&
  (z.after.all fun e => decide (e.on < l.length)) && ((List.range l.length).all fun i => (z.after.any fun e => Region.binds .any e && e.on == i) || (List.range l.length).any fun j => decide (i < j) && match l[j]? with | some o => o.after.any fun e => Region.binds .any e && e.on == i | none => false)

structure Snoc (l : List Oper) (z : Oper) : Prop where
  guard : ∀ o ∈ l, o.guard = none
  guardz : z.guard = none
  back : ∀ (j : Nat) (o : Oper), l[j]? = some o → ∀ e ∈ o.after, e.on < j
  backz : ∀ e ∈ z.after, e.on < l.length
  wait : ∀ i, i < l.length → (∃ e ∈ z.after, Region.binds .any e = true ∧ e.on = i) ∨ ∃ j o, i < j ∧ l[j]? = some o ∧ ∃ e ∈ o.after, Region.binds .any e = true ∧ e.on = i

theorem snoc_of {l : List Oper} {z : Oper} (h : snocB l z = true) : Snoc l z := by
  simp only [snocB, Bool.and_eq_true] at h
  obtain ⟨⟨⟨⟨h1, h2⟩, h3⟩, h4⟩, h5⟩ := h
  refine ⟨?_, ?_, ?_, ?_, ?_⟩
  · intro o ho
    have := List.all_eq_true.1 h1 o ho
    simpa using this
  · simpa using h2
  · intro j o ho e he
    have hj : j < l.length := (List.getElem?_eq_some_iff.1 ho).1
    have := List.all_eq_true.1 h3 j (List.mem_range.2 hj)
    rw [ho] at this
    have h6 := Array.all_eq_true_iff_forall_mem.1 this e he
    simpa using h6
  · intro e he
    have h6 := Array.all_eq_true_iff_forall_mem.1 h4 e he
    simpa using h6
  · intro i hi
    have := List.all_eq_true.1 h5 i (List.mem_range.2 hi)
    rcases Bool.or_eq_true _ _ ▸ this with this | this
    · obtain ⟨e, he, hb⟩ := Array.any_eq_true'.1 this
      simp only [Bool.and_eq_true, beq_iff_eq] at hb
      exact .inl ⟨e, he, hb.1, hb.2⟩
    · obtain ⟨j, _, hj⟩ := List.any_eq_true.1 this
      simp only [Bool.and_eq_true, decide_eq_true_eq] at hj
      obtain ⟨hij, hj⟩ := hj
      cases ho : l[j]? with
      | none => rw [ho] at hj; cases hj
      | some o =>
        rw [ho] at hj
        obtain ⟨e, he, hb⟩ := Array.any_eq_true'.1 hj
        simp only [Bool.and_eq_true, beq_iff_eq] at hb
        exact .inr ⟨j, o, hij, ho, e, he, hb.1, hb.2⟩

/-- What has come up has all it waits for come up. -/
def Down (l : List Oper) (listed : Array Bool) : Prop := ∀ (j : Nat) (o : Oper), l[j]? = some o → listed.getD j false = true → ∀ e ∈ o.after, Region.binds .any e = true → listed.getD e.on false = true

theorem Down.set {l : List Oper} {listed : Array Bool} {i : Nat} (h : Down l listed) (hi : i ∈ Region.ready .any l.toArray listed) : Down l (listed.setIfInBounds i true) := by
  obtain ⟨_, oi, hoi, hall⟩ := mem_ready.1 hi
  intro j o hj hl e he hb
  by_cases hij : i = j
  · subst hij
    have : o = oi := Option.some.inj (hj.symm.trans (by simpa using hoi))
    subst this
    exact getD_set_true (hall e he hb)
  · rw [getD_set_ne false hij] at hl
    exact getD_set_true (h j o hj hl e he hb)

theorem getD_push {listed : Array Bool} {n i : Nat} (hs : listed.size = n) (hi : i < n) (d : Bool) : (listed.push false).getD i d = listed.getD i d := by
  have h1 : i < listed.size := by omega
  simp [Array.getD, h1, Array.getElem_push_lt, show i < listed.size + 1 by omega]

theorem getD_push_last {listed : Array Bool} {n : Nat} (hs : listed.size = n) (d : Bool) : (listed.push false).getD n d = false := by
  subst hs
  simp [Array.getD]

theorem all_listed {l : List Oper} {z : Oper} (S : Snoc l z) {listed : Array Bool} (hs : listed.size = l.length) (hr : Region.ready .any l.toArray listed = []) : ∀ i, i < l.length → listed.getD i true = true := by
  intro i
  induction i using Nat.strongRecOn with
  | _ i ih =>
    intro hi
    cases hg : listed.getD i true with
    | true => rfl
    | false =>
      exfalso
      have hm : i ∈ Region.ready .any l.toArray listed := mem_ready.2 ⟨hg, l[i], by simp [hi], fun e he _ => by
        have h1 := S.back i l[i] (List.getElem?_eq_getElem hi) e he
        have h2 := ih e.on h1 (by omega)
        have h3 : e.on < listed.size := by omega
        simp [Array.getD, h3] at h2 ⊢
        exact h2⟩
      rw [hr] at hm
      cases hm

theorem ready_old {l : List Oper} {z : Oper} (S : Snoc l z) {listed : Array Bool} (hs : listed.size = l.length) {i : Nat} (hi : i < l.length) : i ∈ Region.ready .any (l ++ [z]).toArray (listed.push false) ↔ i ∈ Region.ready .any l.toArray listed := by
  have e0 : (l ++ [z]).toArray[i]? = l.toArray[i]? := by simp [List.getElem?_append_left hi]
  rw [mem_ready, mem_ready, getD_push hs hi, e0]
  refine and_congr Iff.rfl (exists_congr fun o => and_congr_right fun ho => ?_)
  have ho' : l[i]? = some o := by simpa using ho
  refine forall_congr' fun e => forall_congr' fun he => ?_
  rw [getD_push hs (Nat.lt_trans (S.back i o ho' e he) hi)]

theorem ready_last {l : List Oper} {z : Oper} (S : Snoc l z) {listed : Array Bool} (hs : listed.size = l.length) (hD : Down l listed) (hr : l.length ∈ Region.ready .any (l ++ [z]).toArray (listed.push false)) : Region.ready .any l.toArray listed = [] := by
  obtain ⟨_, o, ho, hall⟩ := mem_ready.1 hr
  have : o = z := by simpa using ho.symm
  subst this
  have key : ∀ d i, i < l.length → l.length - i = d → listed.getD i false = true := by
    intro d
    induction d using Nat.strongRecOn with
    | _ d ih =>
      intro i hil hd
      rcases S.wait i hil with ⟨e, he, hb, hon⟩ | ⟨j, oj, hij, hoj, e, he, hb, hon⟩
      · have h2 := hall e he hb
        rw [hon, getD_push hs hil] at h2
        exact h2
      · have hjl : j < l.length := (List.getElem?_eq_some_iff.1 hoj).1
        have h2 := hD j oj hoj (ih (l.length - j) (by omega) j hjl rfl) e he hb
        rw [hon] at h2
        exact h2
  rcases List.eq_nil_or_concat (Region.ready .any l.toArray listed) with h | ⟨rs, i, h⟩
  · exact h
  · exfalso
    have hi : i ∈ Region.ready .any l.toArray listed := by rw [h]; simp
    obtain ⟨h1, oi, hoi, _⟩ := mem_ready.1 hi
    have hil : i < l.length := by have := (Array.getElem?_eq_some_iff.1 hoi).1; simpa using this
    have h2 := key _ i hil rfl
    have h3 : i < listed.size := by omega
    simp [Array.getD, h3] at h1 h2
    rw [h2] at h1; cases h1

theorem last_ready {l : List Oper} {z : Oper} (S : Snoc l z) {listed : Array Bool} (hs : listed.size = l.length) (hr : Region.ready .any l.toArray listed = []) : Region.ready .any (l ++ [z]).toArray (listed.push false) ≠ [] := by
  have hm : l.length ∈ Region.ready .any (l ++ [z]).toArray (listed.push false) := mem_ready.2 ⟨getD_push_last hs true, z, by simp, fun e he _ => by
    have h1 := S.backz e he
    rw [getD_push hs h1]
    have h2 := all_listed S hs hr e.on h1
    have h3 : e.on < listed.size := by omega
    simp [Array.getD, h3] at h2 ⊢
    exact h2⟩
  intro h
  rw [h] at hm; cases hm

theorem oper_wp_last {o z : Oper} {a : Act} {w : World} {K K' : Act → World → Prop} {Q : Exit → Act → World → Prop} (hK : ∀ a w, K a w → K' a w) (h : o.wp P a w K (LastQ P z Q)) : o.wp P a w K' Q := by
  unfold Oper.wp at *
  generalize (execOp a.eval o).run P w = r at *
  cases r with
  | ok n w' =>
    cases n <;> simp only [Oper.upon] at h ⊢
    case value u => exact hK _ _ h
    case skip => exact hK _ _ h
    case defer d => exact hK _ _ h
    case enter f args =>
      refine Calls.mono h fun e w'' he => ?_
      cases e with
      | returned u => exact hK _ _ he
      | panicked c => exact he
      | outgrown => exact he
    case row row args => exact Rows.mono h fun u w'' he => hK _ _ he
  | halt x w' =>
    cases x <;> simp only [Oper.upon] at h ⊢
    case panic u => exact h

theorem wpOp_last {l : List Oper} {z : Oper} (S : Snoc l z) {i : Nat} (hi : i < l.length) {a : Act} {w : World} {K K' : Act → World → Prop} {Q : Exit → Act → World → Prop} (hK : ∀ a w, K a w → K' a w)
    (h : wpOp P l.toArray (LastQ P z Q) i K a w) : wpOp P (l ++ [z]).toArray Q i K' a w := by
  have e0 : (l ++ [z]).toArray[i]? = some l[i] := by simp [List.getElem?_append_left hi, hi]
  have e1 : l.toArray[i]? = some l[i] := by simp [hi]
  unfold wpOp at *
  simp only [e0]
  simp only [e1] at h
  have hg := S.guard l[i] (List.getElem_mem hi)
  simp only [Region.wanted, hg, if_true] at h ⊢
  rcases h with h | ⟨h1, a', w', h2⟩
  · exact .inl (oper_wp_last hK h)
  · exact .inr ⟨h1, a', w', h2⟩

theorem set_push {listed : Array Bool} {n i : Nat} (hs : listed.size = n) (hi : i < n) : (listed.push false).setIfInBounds i true = (listed.setIfInBounds i true).push false := by
  subst hs
  obtain ⟨l⟩ := listed
  simp only [List.push_toArray, List.setIfInBounds_toArray]
  rw [List.set_append_left _ _ (by simpa using hi)]

theorem wpAny_last {l : List Oper} {z : Oper} (S : Snoc l z) {listed : Array Bool} (hs : listed.size = l.length) (hr : Region.ready .any l.toArray listed = []) {Q : Exit → Act → World → Prop} {a : Act} {w : World} (h : LastQ P z Q .normal a w) (f : Nat) :
    wpAny P .any (l ++ [z]).toArray Q (f + 1) (listed.push false) a w := by
  refine ⟨fun h0 => absurd h0 (last_ready S hs hr), fun i hi => ?_⟩
  have hil : i = l.length := by
    obtain ⟨_, o, ho, _⟩ := mem_ready.1 hi
    have h1 := (Array.getElem?_eq_some_iff.1 ho).1
    simp at h1
    rcases Nat.lt_or_ge i l.length with h2 | h2
    · have := (ready_old S hs h2).1 hi
      rw [hr] at this; cases this
    · omega
  subst hil
  have hnone : Region.ready .any (l ++ [z]).toArray ((listed.push false).setIfInBounds l.length true) = [] := by
    rcases List.eq_nil_or_concat (Region.ready .any (l ++ [z]).toArray ((listed.push false).setIfInBounds l.length true)) with h0 | ⟨rs, j, h0⟩
    · exact h0
    · exfalso
      have hj : j ∈ Region.ready .any (l ++ [z]).toArray ((listed.push false).setIfInBounds l.length true) := by rw [h0]; simp
      obtain ⟨h1, o, ho, _⟩ := mem_ready.1 hj
      have h2 := (Array.getElem?_eq_some_iff.1 ho).1
      simp at h2
      by_cases hjl : l.length = j
      · subst hjl
        have : l.length < (listed.push false).size := by simp; omega
        simp [Array.getD, hs] at h1
      · rw [getD_set_ne true hjl, getD_push hs (by omega), all_listed S hs hr j (by omega)] at h1
        cases h1
  unfold wpOp
  have e0 : (l ++ [z]).toArray[l.length]? = some z := by simp
  simp only [e0, Region.wanted, S.guardz, if_true]
  refine .inl (Oper.wp_mono (fun a' w' h' => ?_) h)
  cases f with
  | zero => exact ⟨hnone, h'⟩
  | succ f => exact ⟨fun _ => h', fun i hi => by rw [hnone] at hi; cases hi⟩

theorem wpAny_snoc {l : List Oper} {z : Oper} (S : Snoc l z) {Q : Exit → Act → World → Prop} : ∀ (f : Nat) (listed : Array Bool) (a : Act) (w : World), listed.size = l.length → Down l listed →
    wpAny P .any l.toArray (LastQ P z Q) f listed a w → wpAny P .any (l ++ [z]).toArray Q (f + 1) (listed.push false) a w
  | 0, listed, a, w, hs, hD, h => wpAny_last S hs h.1 h.2 0
  | f + 1, listed, a, w, hs, hD, h => by
    by_cases hr : Region.ready .any l.toArray listed = []
    · exact wpAny_last S hs hr (h.1 hr) (f + 1)
    · have hmem : ∀ i ∈ Region.ready .any (l ++ [z]).toArray (listed.push false), i < l.length ∧ i ∈ Region.ready .any l.toArray listed := by
        intro i hi
        obtain ⟨_, o, ho, _⟩ := mem_ready.1 hi
        have h1 := (Array.getElem?_eq_some_iff.1 ho).1
        simp at h1
        rcases Nat.lt_or_ge i l.length with h2 | h2
        · exact ⟨h2, (ready_old S hs h2).1 hi⟩
        · obtain rfl : i = l.length := by omega
          exact absurd (ready_last S hs hD hi) hr
      refine ⟨fun h0 => ?_, fun i hi => ?_⟩
      · exfalso
        rcases List.eq_nil_or_concat (Region.ready .any l.toArray listed) with h1 | ⟨rs, i, h1⟩
        · exact hr h1
        · have hi : i ∈ Region.ready .any l.toArray listed := by rw [h1]; simp
          obtain ⟨_, o, ho, _⟩ := mem_ready.1 hi
          have h2 : i < l.length := by have := (Array.getElem?_eq_some_iff.1 ho).1; simpa using this
          have := (ready_old S hs h2).2 hi
          rw [h0] at this; cases this
      · obtain ⟨h1, h2⟩ := hmem i hi
        refine wpOp_last S h1 (fun a' w' h' => ?_) (h.2 i h2)
        rw [set_push hs h1]
        exact wpAny_snoc S f _ a' w' (by simp [hs]) (hD.set h2) h'

/-- THE LAW. -/
theorem wp_region_snoc {id : Nat} {L : List Oper} {Q : Exit → Act → World → Prop} {a : Act} {w : World} (l : List Oper) (z : Oper) (S : World → Prop) (hL : L = l ++ [z]) (hm : P.follows .mixedOrders = true) (hB : snocB l z = true)
    (h : wpAnyH P .any l.toArray (LastQ P z Q) S l.toArray.size (Array.replicate l.toArray.size false) a w.drew) : (Code.region id L.toArray true).wp P Q a w := by
  subst hL
  refine wp_region_any hm ?_
  have h1 := wpAny_snoc (snoc_of hB) (Q := Q) l.toArray.size (Array.replicate l.toArray.size false) a w.drew (by simp) (fun j o _ hl => by rw [getD_replicate_false] at hl; cases hl) (wpAny_of_held _ _ _ _ h)
  have e1 : (l ++ [z]).toArray.size = l.toArray.size + 1 := by simp
  rw [e1, Array.replicate_succ]
  exact h1

theorem wp_region_snocN {id : Nat} {L : List Oper} {Q : Exit → Act → World → Prop} {a : Act} {w : World} (n : Nat) (S : World → Prop) (hm : P.follows .mixedOrders = true) (hn : n + 1 = L.length) (hB : ((L.drop n).all fun z => snocB (L.take n) z) = true)
    (hS : S w.drew) (h : ∀ z, L.drop n = [z] → S w.drew → wpAnyH P .any (L.take n).toArray (LastQ P z Q) S n (Array.replicate n false) a w.drew) : (Code.region id L.toArray true).wp P Q a w := by
  have hlt : n < L.length := by omega
  have hd : L.drop n = [L[n]] := by rw [List.drop_eq_getElem_cons hlt, List.drop_eq_nil_of_le (by omega)]
  have hsz : (L.take n).toArray.size = n := by simp; omega
  rw [hd] at hB
  refine wp_region_snoc (L.take n) L[n] S ?_ hm (by simpa using hB) ?_
  · rw [← hd, List.take_append_drop]
  · rw [hsz]; exact h _ hd hS
end
end Go.Proofs.Ytglichmmoibagaa
