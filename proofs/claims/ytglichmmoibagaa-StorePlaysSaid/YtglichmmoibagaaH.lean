/- A store and the reference's store side by side. -/
import Derived.Test.YtglichmmoibagaaK
import Derived.Test.YtglichmmoibagaaForksW
namespace Go.Proofs.Ytglichmmoibagaa
open Go.RowKit
set_option linter.unusedVariables false

/-- The step's block is as it was. -/
def K41 (w w' : World) : Prop := ∀ (k : Nat) (c : Array Value) (fz : Nat × Nat), w.heap[k]? = some (Obj.cells c 41 fz) → w'.heap[k]? = some (Obj.cells c 41 fz)

theorem K41.below {w w' : World} (h : Below w.heap.size w w') : K41 w w' := fun k c fz hk => (h.block k (Array.getElem?_eq_some_iff.1 hk).1).trans hk
theorem K41.only {S : Nat → Prop} {w w' : World} (h : Only S w w') (hs : ∀ k c fz, w.heap[k]? = some (.cells c 41 fz) → ¬ S k) : K41 w w' := fun k c fz hk => (h.block k (Array.getElem?_eq_some_iff.1 hk).1 (hs k c fz hk)).trans hk
theorem K41.trans {a b c : World} (h : K41 a b) (k : K41 b c) : K41 a c := fun i x fz hi => k i x fz (h i x fz hi)

theorem IsRef.only {S : Nat → Prop} {B q : Nat} {w w' : World} {l : Files} (h : IsRef B w q l) (k : Only S w w') (hq : ¬ S q) (hr : ∀ g c fz, w.heap[g]? = some (.cells c 9 fz) → ¬ S g) : IsRef B w' q l := by
  obtain ⟨v1, v2, h0, h1, h2, h3, h4, h5⟩ := h
  have row : ∀ {v : Value} {n : Nat} {xs : List Value}, w.ownsRow B 9 1 v n xs → ∀ g, v.ownBlock = some g → ¬ S g := by
    rintro v n xs ⟨_, ⟨rfl, _⟩ | ⟨g', cap, cur, rfl, _, hg, _⟩⟩ g e
    · cases e
    · cases e; exact hr _ _ _ hg
  refine ⟨v1, v2, (k.block q (Array.getElem?_eq_some_iff.1 h0).1 hq).trans h0, owned_only h1 k (row h1), owned_only h2 k (row h2), h3, h4, Nat.le_trans h5 k.size⟩

theorem IsRef.below {B q : Nat} {w w' : World} {l : Files} (h : IsRef B w q l) (k : Below w.heap.size w w') : IsRef B w' q l :=
  h.only (Only.of_below (S := fun _ => False) k) (fun f => f) (fun _ _ _ _ f => f)

theorem IsRef.mono {B B' q : Nat} {w : World} {l : Files} (h : IsRef B w q l) (hB : B' ≤ B) : IsRef B' w q l := by
  obtain ⟨v1, v2, h0, h1, h2, h3, h4, h5⟩ := h
  exact ⟨v1, v2, h0, ownsRow_mono h1 hB, ownsRow_mono h2 hB, h3, Nat.le_trans hB h4, Nat.le_trans hB h5⟩

def Both (B : Nat) (w w' : World) (b : Nat) (m : Files) (q : Nat) (l : Files) : Prop :=
  ∃ mo, IsStore w' b mo m ∧ IsRef B w' q l ∧ B ≤ b ∧ (∀ r, mo = some r → B ≤ r) ∧ Below B w w' ∧ B ≤ w.heap.size

theorem both_below {B b q : Nat} {w w1 w2 : World} {m l : Files} (h : Both B w w1 b m q l) (k : Below w1.heap.size w1 w2) : Both B w w2 b m q l := by
  obtain ⟨mo, h1, h2, h3, h4, h5, h6⟩ := h
  exact ⟨mo, h1.below k, h2.below k, h3, h4, h5.trans (k.mono (Nat.le_trans h6 h5.size)), h6⟩

theorem both_size {B b q : Nat} {w w1 : World} {m l : Files} (h : Both B w w1 b m q l) : B ≤ w1.heap.size := by
  obtain ⟨_, _, _, _, _, h5, h6⟩ := h
  exact Nat.le_trans h6 h5.size

theorem both_put {B b q : Nat} {w w1 : World} {m l : Files} {n t : ByteArray} (h : Both B w w1 b m q l) (hn : n.size ≤ maxLen) (ht : t.size ≤ maxLen) (hm : m.length ≤ 64) :
    Calls Try.prog 12 #[.pointer (some ⟨b, 0, none⟩), .string n, .string t] w1 fun e w' => e = .returned (.int .i64 (putCode m n.data.toList t)) ∧ Both B w w' b (putM m n.data.toList t) q l ∧ K41 w1 w' := by
  obtain ⟨mo, h1, h2, h3, h4, h5, h6⟩ := h
  have hb := h1.1
  have hno : ∀ k ty c fz, ty ≠ 51 → w1.heap[k]? = some (.cells c ty fz) → ¬ (k = b ∨ mo = some k) := by
    rintro k ty c fz hty hk (rfl | e)
    · rw [hb] at hk; cases hk; exact hty rfl
    · obtain ⟨es, clock, e2⟩ := h1.map_at e
      rw [e2] at hk; cases hk
  refine (put12 h1 hn ht hm).mono fun e w' ⟨mo', he, hs', ho, hmo⟩ => ⟨he, ⟨mo', hs', ?_, h3, ?_, ?_, h6⟩, ?_⟩
  · obtain ⟨v1, v2, g0, _⟩ := id h2
    exact h2.only ho (hno q 39 _ _ (by decide) g0) (fun g c fz hg => hno g 9 c fz (by decide) hg)
  · intro r e1
    rcases hmo r e1 with h | h
    · exact h4 r h
    · exact Nat.le_trans h6 (Nat.le_trans h5.size h)
  · refine Only.below h5 ho h6 ?_
    rintro i (rfl | h)
    · exact h3
    · exact h4 i h
  · exact K41.only ho (fun k c fz hk => hno k 41 c fz (by decide) hk)

theorem refOnly_store {B q b : Nat} {w w' : World} {mo : Option Nat} {m l : Files} (h : IsStore w b mo m) (hr : IsRef B w q l) (k : RefOnly B q w w') : IsStore w' b mo m := by
  obtain ⟨v1, v2, g0, _⟩ := hr
  refine h.only k ?_ ?_
  · rintro (rfl | ⟨_, c, fz, hc⟩)
    · have := h.1; rw [g0] at this; cases this
    · have := h.1; rw [hc] at this; cases this
  · intro r e
    obtain ⟨es, clock, e2⟩ := h.map_at e
    rintro (rfl | ⟨_, c, fz, hc⟩)
    · rw [g0] at e2; cases e2
    · rw [hc] at e2; cases e2

theorem refOnly_both {B b q : Nat} {w w1 w' : World} {m l l' : Files} (h : Both B w w1 b m q l) (hr : IsRef B w' q l') (k : RefOnly B q w1 w') : Both B w w' b m q l' ∧ K41 w1 w' := by
  obtain ⟨mo, h1, h2, h3, h4, h5, h6⟩ := h
  refine ⟨⟨mo, refOnly_store h1 h2 k, hr, h3, h4, ?_, h6⟩, ?_⟩
  · refine Only.below h5 k h6 ?_
    rintro i (rfl | h)
    · obtain ⟨_, _, _, _, _, _, h7, _⟩ := h2; exact h7
    · exact h.1
  · obtain ⟨v1, v2, g0, _⟩ := h2
    refine K41.only k ?_
    rintro i c fz hi (rfl | ⟨_, c', fz', hc⟩)
    · rw [g0] at hi; cases hi
    · rw [hc] at hi; cases hi

theorem both_putR {B b q : Nat} {w w1 : World} {m l : Files} {n t : ByteArray} (h : Both B w w1 b m q l) (hn : n.size ≤ maxLen) (ht : t.size ≤ maxLen) (hl : l.length ≤ 64) (hs : Srt l) :
    Calls Try.prog 17 #[.pointer (some ⟨q, 0, none⟩), .string n, .string t] w1 fun e w' => ∃ l', e = .returned (.int .i64 (putCode l n.data.toList t)) ∧ Both B w w' b m q l' ∧ Srt l' ∧ l'.Perm (putM l n.data.toList t) ∧ K41 w1 w' := by
  have hr : IsRef B w1 q l := by obtain ⟨mo, h1, h2, _⟩ := h; exact h2
  refine (put17 hr hl hs hn ht).mono fun e w' ⟨l', he, hr', hs', hp, ho⟩ => ?_
  obtain ⟨a, b⟩ := refOnly_both h hr' ho
  exact ⟨l', he, a, hs', hp, b⟩

theorem both_get {B b q : Nat} {w w1 : World} {m l : Files} {n : ByteArray} (h : Both B w w1 b m q l) (hn : n.size ≤ maxLen) :
    Calls Try.prog 13 #[.pointer (some ⟨b, 0, none⟩), .string n] w1 fun e w' => e = .returned (.tuple #[.string ((m.get n.data.toList).getD ByteArray.empty), .bool (m.get n.data.toList).isSome]) ∧ Both B w w' b m q l ∧ K41 w1 w' := by
  have h' := h
  obtain ⟨mo, h1, _⟩ := h
  exact (get13 h1 hn).mono fun e w' ⟨he, hw⟩ => ⟨he, both_below h' hw, K41.below hw⟩

theorem both_getR {B b q : Nat} {w w1 : World} {m l : Files} {n : ByteArray} (h : Both B w w1 b m q l) (hl : l.length ≤ 64) (hs : Srt l) :
    Calls Try.prog 18 #[.pointer (some ⟨q, 0, none⟩), .string n] w1 fun e w' => e = .returned (.tuple #[.string ((l.get n.data.toList).getD ByteArray.empty), .bool (l.get n.data.toList).isSome]) ∧ Both B w w' b m q l ∧ K41 w1 w' := by
  have hr : IsRef B w1 q l := by obtain ⟨mo, h1, h2, _⟩ := h; exact h2
  exact (get18 hr hl hs).mono fun e w' ⟨he, hw⟩ => ⟨he, by rw [hw]; exact h, by rw [hw]; exact fun _ _ _ h => h⟩

theorem both_del {B b q : Nat} {w w1 : World} {m l : Files} {n : ByteArray} (h : Both B w w1 b m q l) (hn : n.size ≤ maxLen) :
    Calls Try.prog 14 #[.pointer (some ⟨b, 0, none⟩), .string n] w1 fun e w' => e = .returned (.bool (m.get n.data.toList).isSome) ∧ Both B w w' b (m.del n.data.toList) q l ∧ K41 w1 w' := by
  obtain ⟨mo, h1, h2, h3, h4, h5, h6⟩ := h
  have hno : ∀ k ty c fz, w1.heap[k]? = some (.cells c ty fz) → ¬ (mo = some k) := by
    rintro k ty c fz hk e
    obtain ⟨es, clock, e2⟩ := h1.map_at e
    rw [e2] at hk; cases hk
  refine (del14 h1 hn).mono fun e w' ⟨he, hs', ho⟩ => ⟨he, ⟨mo, hs', ?_, h3, h4, Only.below h5 ho h6 (fun i h => h4 i h), h6⟩, K41.only ho (fun k c fz hk => hno k 41 c fz hk)⟩
  obtain ⟨v1, v2, g0, _⟩ := id h2
  exact h2.only ho (hno q 39 _ _ g0) (fun g c fz hg => hno g 9 c fz hg)

theorem both_delR {B b q : Nat} {w w1 : World} {m l : Files} {n : ByteArray} (h : Both B w w1 b m q l) (hl : l.length ≤ 64) (hs : Srt l) :
    Calls Try.prog 19 #[.pointer (some ⟨q, 0, none⟩), .string n] w1 fun e w' => e = .returned (.bool (l.get n.data.toList).isSome) ∧ Both B w w' b m q (l.del n.data.toList) ∧ K41 w1 w' := by
  have hr : IsRef B w1 q l := by obtain ⟨mo, h1, h2, _⟩ := h; exact h2
  refine (del19 hr hl hs).mono fun e w' ⟨he, hr', ho⟩ => ⟨he, refOnly_both h hr' (ref_only ho)⟩

theorem both_names {B b q : Nat} {w w1 : World} {m l : Files} (h : Both B w w1 b m q l) (hm : m.length ≤ 64) :
    Calls Try.prog 16 #[.pointer (some ⟨b, 0, none⟩)] w1 fun e w' => ∃ v, e = .returned v ∧ w'.ownsRow w1.heap.size 9 1 v m.length ((sortN (m.map (·.1))).map strV) ∧ Both B w w' b m q l ∧ Below w1.heap.size w1 w' := by
  have h' := h
  obtain ⟨mo, h1, _⟩ := h
  exact (names16 h1 hm).mono fun e w' ⟨v, he, hown, hw⟩ => ⟨v, he, hown, both_below h' hw, hw⟩

theorem both_namesR {B b q : Nat} {w w1 : World} {m l : Files} (h : Both B w w1 b m q l) (hl : l.length ≤ 64) :
    Calls Try.prog 20 #[.pointer (some ⟨q, 0, none⟩)] w1 fun e w' => ∃ v, e = .returned v ∧ w'.ownsRow w1.heap.size 9 1 v l.length ((l.map (·.1)).map strV) ∧ Both B w w' b m q l ∧ Below w1.heap.size w1 w' := by
  have hr : IsRef B w1 q l := by obtain ⟨mo, h1, h2, _⟩ := h; exact h2
  exact (names20 hr hl).mono fun e w' ⟨v, he, hown, hw⟩ => ⟨v, he, hown, both_below h hw, hw⟩

/-- Fork of the store, then of the reference's: another pair, in new memory. -/
theorem both_fork {B b q : Nat} {w w1 : World} {m l : Files} (h : Both B w w1 b m q l) (hm : m.length ≤ 64) :
    Calls Try.prog 21 #[.pointer (some ⟨b, 0, none⟩)] w1 fun e w' => ∃ x r m', e = .returned (.pointer (some ⟨x, 0, none⟩)) ∧ m'.Perm m ∧ IsStore w' x (some r) m' ∧ w1.heap.size ≤ x ∧ w1.heap.size ≤ r ∧ Below w1.heap.size w1 w' := by
  obtain ⟨mo, h1, _⟩ := h
  exact (fork21 h1 hm).mono fun e w' ⟨x, r, m', he, hs', hp, hx, hr', hw⟩ => ⟨x, r, m', he, hp, hs', hx, hr', hw⟩

theorem both_forkR {B b q x r : Nat} {w w1 w2 : World} {m m' l : Files} (h : Both B w w1 b m q l) (hl : l.length ≤ 64) (hs : IsStore w2 x (some r) m') (hx : w1.heap.size ≤ x) (hr : w1.heap.size ≤ r) (hw : Below w1.heap.size w1 w2) :
    Calls Try.prog 22 #[.pointer (some ⟨q, 0, none⟩)] w2 fun e w' => ∃ y, e = .returned (.pointer (some ⟨y, 0, none⟩)) ∧ Both w1.heap.size w1 w' x m' y l := by
  have hq : IsRef B w1 q l := by obtain ⟨mo, h1, h2, _⟩ := h; exact h2
  refine (fork22 (hq.below hw) hl).mono fun e w' ⟨y, he, hy, hw'⟩ => ⟨y, he, some r, hs.below hw', hy.mono hw.size, hx, ?_, hw.trans (hw'.mono hw.size), Nat.le_refl _⟩
  intro r' e1
  cases e1
  exact hr

theorem both_new {w w1 : World} (h : Own w.heap.size w w1 w.heap.size []) : Both w.heap.size w (w1.alloc (.cells #[.slice none 0 0, .slice none 0 0] 39)) w.heap.size [] w1.heap.size [] := by
  obtain ⟨mo, hs, hb, hr, hbel, hB⟩ := h
  have hba := (Below.refl w1.heap.size w1).alloc (Nat.le_refl _) (.cells #[.slice none 0 0, .slice none 0 0] 39)
  exact ⟨mo, hs.below hba, ⟨_, _, heap_alloc_new _ _, World.ownsRow_nil _ _ _ _, World.ownsRow_nil _ _ _ _, (fun k h => by cases h), hbel.size, Nat.le_trans hbel.size hba.size⟩, hb, hr, hbel.trans (hba.mono hbel.size), hB⟩

theorem both_end {B b q : Nat} {w w1 w2 : World} {m l : Files} (h : Both B w w1 b m q l) (k : Below w1.heap.size w1 w2) : Below B w w2 := by
  obtain ⟨mo, h1, h2, h3, h4, h5, h6⟩ := h
  exact h5.trans (k.mono (Nat.le_trans h6 h5.size))

/-- A pair of new memory is one of older memory's. -/
theorem both_into {B B1 b q b1 q1 : Nat} {w w1 w2 : World} {m l m1 l1 : Files} (h : Both B w w1 b m q l) (k : Both w1.heap.size w1 w2 b1 m1 q1 l1) : Both B w w2 b1 m1 q1 l1 := by
  have hB := both_size h
  obtain ⟨mo, h1, h2, h3, h4, h5, h6⟩ := h
  obtain ⟨mo', k1, k2, k3, k4, k5, k6⟩ := k
  exact ⟨mo', k1, k2.mono hB, Nat.le_trans hB k3, fun r e => Nat.le_trans hB (k4 r e), h5.trans (k5.mono hB), h6⟩

theorem putM_len {m : Files} {n : List UInt8} {t : ByteArray} (h : m.length ≤ 64) : (putM m n t).length ≤ 64 := by
  unfold putM
  split
  · rename_i h0
    unfold Files.put
    split
    · simpa using h
    · rename_i hany
      rw [List.length_append]
      have hg : m.get n = none := Files.get_none (fun x hx e => hany (EntOf.any_iff.2 ⟨x, hx, e⟩))
      unfold putCode at h0
      rw [hg] at h0
      have : ¬ m.length = 64 := by
        intro e
        rw [e] at h0
        simp at h0
        split at h0
        · cases h0
        · split at h0 <;> cases h0
      simp; omega
  · exact h

theorem del_len {m : Files} {n : List UInt8} (h : m.length ≤ 64) : (m.del n).length ≤ 64 := Nat.le_trans (List.length_filter_le _ _) h

theorem both_nodup {B b q : Nat} {w w1 : World} {m l : Files} (h : Both B w w1 b m q l) : (m.map (·.1)).Nodup := by
  obtain ⟨mo, h1, _⟩ := h
  exact h1.nodup
end Go.Proofs.Ytglichmmoibagaa
