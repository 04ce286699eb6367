/- Plain laws of files in order, and of parts of slices that may be nil. -/
import Derived.Test.YtglichmmoibagaaD
namespace Go.Proofs.Ytglichmmoibagaa
open Go.RowKit
set_option linter.unusedVariables false

theorem get_perm {l m : Files} (h : l.Perm m) (hd : (m.map (·.1)).Nodup) (n : List UInt8) : l.get n = m.get n := by
  have hdl : (l.map (·.1)).Nodup := ((h.map (·.1)).nodup_iff).2 hd
  by_cases hx : ∃ x ∈ m, x.1 = n
  · obtain ⟨x, hx, rfl⟩ := hx
    obtain ⟨i, hi⟩ := List.getElem?_of_mem hx
    obtain ⟨j, hj⟩ := List.getElem?_of_mem (h.mem_iff.2 hx)
    rw [Files.get_of hd hi, Files.get_of hdl hj]
  · rw [Files.get_none (fun x hx' e => hx ⟨x, hx', e⟩), Files.get_none (fun x hx' e => hx ⟨x, h.mem_iff.1 hx', e⟩)]

theorem put_perm {l m : Files} (h : l.Perm m) (n : List UInt8) (t : ByteArray) : (l.put n t).Perm (m.put n t) := by
  have he : l.any (·.1 == n) = m.any (·.1 == n) := by
    rw [Bool.eq_iff_iff]
    simp only [List.any_eq_true]
    constructor
    · rintro ⟨x, hx, h1⟩; exact ⟨x, h.mem_iff.1 hx, h1⟩
    · rintro ⟨x, hx, h1⟩; exact ⟨x, h.mem_iff.2 hx, h1⟩
  unfold Files.put
  rw [he]
  split
  · exact h.map _
  · exact h.append_right _

theorem del_perm {l m : Files} (h : l.Perm m) (n : List UInt8) : (l.del n).Perm (m.del n) := h.filter _

theorem code_perm {l m : Files} (h : l.Perm m) (hd : (m.map (·.1)).Nodup) (n : List UInt8) (t : ByteArray) : putCode l n t = putCode m n t := by
  unfold putCode
  rw [get_perm h hd, h.length_eq]

theorem putM_perm {l m : Files} (h : l.Perm m) (hd : (m.map (·.1)).Nodup) (n : List UInt8) (t : ByteArray) : (putM l n t).Perm (putM m n t) := by
  unfold putM
  rw [code_perm h hd]
  split
  · exact put_perm h n t
  · exact h

theorem Srt.del {l : Files} (h : Srt l) (n : List UInt8) : Srt (l.del n) := by
  unfold Srt Files.del
  exact List.Pairwise.sublist (List.Sublist.map _ List.filter_sublist) h

theorem sorted_names {l : Files} (h : Srt l) : sortN (l.map (·.1)) = l.map (·.1) := by
  refine List.Perm.eq_of_pairwise (fun x y _ _ h1 h2 => leB_anti x y h1 h2) (sortN_sorted _) ?_ (List.mergeSort_perm _ _)
  refine List.Pairwise.imp ?_ h
  intro a b hab
  have : a ≤ b := List.le_of_lt hab
  simpa using this

theorem ins_sorted {l : Files} {n : List UInt8} {t : ByteArray} {k : Nat} (hp : PlaceAt (l.map (·.1)) n k false) (hs : Srt l) : Srt (l.take k ++ (n, t) :: l.drop k) := by
  obtain ⟨h1, h2, _, h4⟩ := hp
  unfold Srt at *
  have e : (l.take k ++ (n, t) :: l.drop k).map (·.1) = (l.map (·.1)).take k ++ n :: (l.map (·.1)).drop k := by simp [List.map_take, List.map_drop]
  rw [e]
  generalize l.map (·.1) = ns at *
  have hlo : ∀ a ∈ ns.take k, a < n := by
    intro a ha
    obtain ⟨j, hj⟩ := List.getElem?_of_mem ha
    rw [List.getElem?_take] at hj
    split at hj
    · exact h2 j a (by assumption) hj
    · cases hj
  have hhi : ∀ b ∈ ns.drop k, n < b := by
    intro b hb
    obtain ⟨j, hj⟩ := List.getElem?_of_mem hb
    rw [List.getElem?_drop] at hj
    have hlt := (List.getElem?_eq_some_iff.1 hj).1
    have hk : k < ns.length := by omega
    have h5 := h4 rfl ns[k] (List.getElem?_eq_getElem hk)
    by_cases h0 : j = 0
    · subst h0
      rw [Nat.add_zero, List.getElem?_eq_getElem hk] at hj
      cases hj
      exact h5
    · have h6 := List.pairwise_iff_getElem.1 hs k (k + j) hk hlt (by omega)
      rw [List.getElem?_eq_getElem hlt] at hj
      cases hj
      exact List.lt_trans h5 h6
  refine List.pairwise_append.2 ⟨hs.sublist (List.take_sublist _ _), List.pairwise_cons.2 ⟨hhi, hs.sublist (List.drop_sublist _ _)⟩, ?_⟩
  intro a ha b hb
  rcases List.mem_cons.1 hb with rfl | hb
  · exact hlo a ha
  · exact List.lt_trans (hlo a ha) (hhi b hb)

theorem ins_perm {l : Files} {x : List UInt8 × ByteArray} {k : Nat} : (l.take k ++ x :: l.drop k).Perm (l ++ [x]) := by
  refine List.perm_middle.trans ?_
  rw [List.take_append_drop]
  exact (List.perm_append_singleton x l).symm

theorem set_sorted {l : Files} {n : List UInt8} {t u : ByteArray} {k : Nat} (hk : l[k]? = some (n, u)) (hs : Srt l) : Srt (l.set k (n, t)) := by
  unfold Srt at *
  have e : (l.set k (n, t)).map (·.1) = l.map (·.1) := by
    rw [List.map_set]
    apply List.ext_getElem?
    intro j
    rw [List.getElem?_set]
    split
    · rename_i h
      subst h
      have hlt := (List.getElem?_eq_some_iff.1 hk).1
      rw [if_pos (by simpa using hlt), List.getElem?_map, hk]; rfl
    · rfl
  rw [e]; exact hs

/-- Where a part begins. -/
def shift (ao : Option Addr) (cap l : Nat) : Option Addr := if cap = l then ao else ao.map (·.add (l * 1))

theorem size9 (w : World) : (sizeOf 9).run Try.prog w = .ok 1 w := by
  obtain ⟨i0, hi0, hz0, hz1, hz2⟩ := info_parts info9
  simp [sizeOf, typeInfo, hi0, hz1]

theorem run_sliceTo {w : World} {ao : Option Addr} {n cap k : Nat} (hk : k ≤ cap) : (Instr.sliceAt 33 (.slice ao n cap) none (some (.int .i64 (k : Int))) none).run Try.prog w = .ok (.slice (shift ao cap 0) k cap) w := by
  have h1 : (0 : Int) ≤ k ∧ (k : Int) ≤ (cap : Int) := by omega
  simp only [Instr.sliceAt, Sem.run_bind, run_underlying Try.underlying33, Result.andThen_ok, Instr.slice, Instr.sliceBounds, Instr.sliceBound, asIntOf, Sem.run_pure, if_pos h1, Int.toNat_natCast, size9, shift, Nat.sub_zero]

theorem run_sliceFrom {w : World} {ao : Option Addr} {n cap k : Nat} (hk : k ≤ n) : (Instr.sliceAt 33 (.slice ao n cap) (some (.int .i64 (k : Int))) none none).run Try.prog w = .ok (.slice (shift ao cap k) (n - k) (cap - k)) w := by
  have h1 : (0 : Int) ≤ k ∧ (k : Int) ≤ (n : Int) := by omega
  simp only [Instr.sliceAt, Sem.run_bind, run_underlying Try.underlying33, Result.andThen_ok, Instr.slice, Instr.sliceBounds, Instr.sliceBound, asIntOf, Sem.run_pure, if_pos h1, Int.toNat_natCast, size9, shift]

theorem exec_sliceTo {o : Oper} {a : Act} {x y : Operand} {ao : Option Addr} {n cap k : Nat} (ho : o.op = .slice 33 x none (some y) none) (hx : a.eval x = .slice ao n cap) (hy : a.eval y = .int .i64 (k : Int)) (hk : k ≤ cap) (w : World) :
    (execOp a.eval o).run Try.prog w = .ok (.value (.slice (shift ao cap 0) k cap)) w := by
  unfold execOp
  simp only [ho, Option.map_some, Option.map_none, hx, hy, Sem.run_bind]
  rw [run_sliceTo hk]
  rfl

theorem exec_sliceFrom {o : Oper} {a : Act} {x y : Operand} {ao : Option Addr} {n cap k : Nat} (ho : o.op = .slice 33 x (some y) none none) (hx : a.eval x = .slice ao n cap) (hy : a.eval y = .int .i64 (k : Int)) (hk : k ≤ n) (w : World) :
    (execOp a.eval o).run Try.prog w = .ok (.value (.slice (shift ao cap k) (n - k) (cap - k))) w := by
  unfold execOp
  simp only [ho, Option.map_some, Option.map_none, hx, hy, Sem.run_bind]
  rw [run_sliceFrom hk]
  rfl

/-- A slice's value that is nil or begins at the head of a row. -/
def Head (ao : Option Addr) : Prop := ao = none ∨ ∃ g, ao = some ⟨g, 0, none⟩

theorem owned_head {w : World} {B n cap : Nat} {ao : Option Addr} {xs : List Value} (h : w.ownsRow B 9 1 (.slice ao n cap) n xs) : Head ao := by
  obtain ⟨_, ⟨h1, _⟩ | ⟨g, cap', _, h1, _⟩⟩ := h
  · cases h1; exact .inl rfl
  · cases h1; exact .inr ⟨g, rfl⟩

theorem part_shift {w : World} {ao : Option Addr} {xs : List Value} (h : Part w ao xs) (hh : Head ao) {cap k : Nat} (hc : xs.length ≤ cap) : Part w (shift ao cap k) (xs.drop k) := by
  rcases hh with rfl | ⟨g, rfl⟩
  · have : xs = [] := by
      cases xs with
      | nil => rfl
      | cons a l => obtain ⟨_, e, _⟩ := h.1 0 a rfl; cases e
    subst this
    exact ⟨by simp, by simp⟩
  · have := part_drop (k := k) h hc
    have e : shift (some ⟨g, 0, none⟩) cap k = if cap = k then some ⟨g, 0, none⟩ else some ⟨g, k, none⟩ := by
      unfold shift
      split
      · rfl
      · simp [Addr.add]
        intro h; exact h.symm
    rw [e]; exact this

theorem part_to {w : World} {ao : Option Addr} {xs : List Value} (h : Part w ao xs) (hh : Head ao) {cap k : Nat} (hc : xs.length ≤ cap) : Part w (shift ao cap 0) (xs.take k) := by
  have := part_shift (k := 0) h hh hc
  exact part_take this k

theorem part_new (w : World) (v : Value) (hv : v.oneCell' = true) : Part (w.alloc (.cells #[v] 9)) (some ⟨w.heap.size, 0, none⟩) [v] :=
  ⟨fun j u hu => ⟨_, rfl, new_cell w 9 v j u hu⟩, fun u hu => by simp at hu; subst hu; exact hv⟩

theorem part_grown {w w' : World} {g : Nat} {row : Option Nat} {xs : List Value} (h : Part w (some ⟨g, 0, none⟩) xs) (hg : w.grownBy w' row) (hne : row ≠ some g) : Part w' (some ⟨g, 0, none⟩) xs :=
  ⟨fun j u hu => by
    obtain ⟨ad, e, hc⟩ := h.1 j u hu
    cases e
    refine ⟨_, rfl, hg.cell hc (fun e => hne ?_)⟩
    have : (((⟨g, 0, none⟩ : Addr)).add j).block = g := by unfold Addr.add; split <;> simp_all
    rw [this] at e
    exact e.symm, h.2⟩

/-- The texts' rows of the call's own. -/
def RefOnly (B q : Nat) (w w' : World) : Prop := Only (fun k => k = q ∨ (B ≤ k ∧ ∃ c fz, w.heap[k]? = some (.cells c 9 fz))) w w'
end Go.Proofs.Ytglichmmoibagaa
