/- Going through a store's map: what the iterator's step gives. -/
import Derived.Test.YtglichmmoibagaaW
namespace Go.Proofs.Ytglichmmoibagaa
open Go.RowKit

/-- The world with another iterator at block i. -/
def setIter (w : World) (i : Nat) (o : Obj) : World := { w with heap := w.heap.setIfInBounds i o }
theorem setIter_same {w : World} {i : Nat} {o : Obj} (h : i < w.heap.size) : (setIter w i o).heap[i]? = some o := by simp [setIter, h]
theorem setIter_other {w : World} {i k : Nat} {o : Obj} (h : k ≠ i) : (setIter w i o).heap[k]? = w.heap[k]? := by
  simp only [setIter]; rw [Array.getElem?_setIfInBounds_ne (by omega)]
theorem setIter_size {w : World} {i : Nat} {o : Obj} : (setIter w i o).heap.size = w.heap.size := by simp [setIter]
theorem setIter_below {B : Nat} {a w : World} (h : Below B a w) {i : Nat} (hi : B ≤ i) (o : Obj) : Below B a (setIter w i o) :=
  ⟨h.os, h.tape, h.output, by simpa [setIter] using h.size, fun k hk => (setIter_other (by omega)).trans (h.block k hk)⟩

theorem run_getObj_map {P : Program} {w : World} {r : Nat} {es : Array MapEntry} {clock : Nat} (hr : w.heap[r]? = some (.map es clock)) : (getObj r).run P w = .ok (.map es clock) w := by simp [getObj, Sem.run, hr]
theorem run_getObj_iter {P : Program} {w : World} {r : Nat} {m : Option Nat} {a c : Nat} {b : Array Nat} (hr : w.heap[r]? = some (.mapIter m a b c)) : (getObj r).run P w = .ok (.mapIter m a b c) w := by simp [getObj, Sem.run, hr]
theorem run_setObj_iter {P : Program} {w : World} {r : Nat} {m : Option Nat} {a c : Nat} {b : Array Nat} (hr : w.heap[r]? = some (.mapIter m a b c)) (o : Obj) : (setObj r o).run P w = .ok () (setIter w r o) := by simp [setObj, Sem.run, hr, setIter]

theorem run_choose_next {P : Program} (w : World) (k : Nat) (hk : 0 < k) : ∃ i n, (choose (.mapNext k)).run P w = .ok i (w.drewN n) ∧ i < k := by
  by_cases h : k ≤ 1
  · refine ⟨0, 0, ?_, hk⟩
    simp [choose, Sem.run, Question.forced, h]
    rfl
  · refine ⟨w.tape w.drawn (.mapNext k) % k, 1, ?_, Nat.mod_lt _ hk⟩
    simp [choose, Sem.run, Question.forced, h, Question.cut]
    rfl

/-- One step of the iterator over a map none of whose entries is younger than the iterator: an entry that was not met yet, or the end. -/
theorem run_next_map {P : Program} {w : World} {it r : Nat} {es : Array MapEntry} {clock : Nat} {seen : Array Nat} (hi : w.heap[it]? = some (.mapIter (some r) clock seen clock)) (hr : w.heap[r]? = some (.map es clock))
    (hb : ∀ e ∈ es.toList, e.born < clock) (ty : TypeId) :
    ((∀ e ∈ es.toList, seen.contains e.born = true) ∧ (Instr.next (.pointer (some ⟨it, 0, none⟩)) false ty).run P w = .ok (.tuple #[.bool false]) w) ∨
    ∃ e ∈ es.toList, seen.contains e.born = false ∧ ∃ n, (Instr.next (.pointer (some ⟨it, 0, none⟩)) false ty).run P w = .ok (.tuple #[.bool true, e.key, e.val]) (setIter (w.drewN n) it (.mapIter (some r) clock (seen.push e.born) clock)) := by
  have hg := run_getObj_iter (P := P) hi
  have hm := run_getObj_map (P := P) hr
  have hall : (!seen.isEmpty && !es.isEmpty && es.all (·.born ≥ clock)) = false := by
    cases h : es.isEmpty with
    | true => simp
    | false =>
      have : es.all (·.born ≥ clock) = false := by
        have h0 : 0 < es.size := by
          rw [Array.isEmpty_eq_false_iff] at h
          exact Array.size_pos_iff.2 h
        rw [Array.all_eq_false]
        refine ⟨0, h0, ?_⟩
        have := hb es[0] (by simp)
        simp; omega
      simp [this]
  have hold : (es.filter fun e => !seen.contains e.born).filter (fun e => decide (e.born < clock)) = es.filter fun e => !seen.contains e.born := by
    rw [Array.filter_eq_self]
    intro e he
    simpa using hb e (by simpa using (Array.mem_filter.1 he).1)
  have hnew : (es.filter fun e => !seen.contains e.born).filter (fun e => decide (e.born ≥ clock)) = #[] := by
    rw [Array.filter_eq_empty_iff]
    intro e he
    have := hb e (by simpa using (Array.mem_filter.1 he).1)
    simp; omega
  generalize hL : (es.filter fun e => !seen.contains e.born) = L at hold hnew
  cases hE : L.isEmpty with
  | true =>
    left
    have h0 : L = #[] := by simpa using hE
    refine ⟨?_, ?_⟩
    · intro e he
      rw [h0, Array.filter_eq_empty_iff] at hL
      have := hL (a := e) (by simpa using he)
      simpa using this
    · simp only [Instr.next, Sem.run_bind, hg, hm, Result.andThen_ok, hall, hL, hold, hnew, hE]
      subst h0
      simp [choose, Sem.run, Question.forced]
  | false =>
    right
    have h0 : 0 < L.size := by
      rw [Array.isEmpty_eq_false_iff] at hE
      exact Array.size_pos_iff.2 hE
    obtain ⟨i, n, hc, hlt⟩ := run_choose_next (P := P) w L.size h0
    have hmem : ∀ e ∈ L, e ∈ es.toList ∧ seen.contains e.born = false := by
      intro e he
      rw [← hL] at he
      have h2 := Array.mem_filter.1 he
      exact ⟨by simpa using h2.1, by simpa using h2.2⟩
    have hi' := hmem L[i] (Array.getElem_mem hlt)
    have hget : (L.map (some : MapEntry → Option MapEntry))[i]? = some (some L[i]) := by simp [hlt]
    generalize L[i] = e at hi' hget
    refine ⟨e, hi'.1, hi'.2, n, ?_⟩
    have hcs : ((if L.isEmpty = true then #[none] else #[]) ++ (L ++ #[]).map some) = L.map some := by
      rw [hE]; simp
    have hsz : (L.map (some : MapEntry → Option MapEntry)).size = L.size := by simp
    have hs := run_setObj_iter (P := P) (w := w.drewN n) (r := it) hi
    simp only [Instr.next, Sem.run_bind, hg, hm, Result.andThen_ok, hall, hL, hold, hnew, hcs, Bool.false_eq_true, if_false, hsz, hc, hget, hs, Sem.run_pure]

theorem run_entry_map {P : Program} {w : World} {it r since clock : Nat} {es : Array MapEntry} {seen : Array Nat} {e : MapEntry} (hi : w.heap[it]? = some (.mapIter (some r) since (seen.push e.born) clock)) (hr : w.heap[r]? = some (.map es clock))
    (he : e ∈ es.toList) (hd : (es.toList.map (·.born)).Nodup) : (Instr.entry (.pointer (some ⟨it, 0, none⟩))).run P w = .ok (.tuple #[e.key, e.val]) w := by
  have hg := run_getObj_iter (P := P) hi
  have hm := run_getObj_map (P := P) hr
  have hf : es.find? (fun x => x.born == e.born) = some e := by
    have key : ∀ l : List MapEntry, (l.map (·.born)).Nodup → e ∈ l → l.find? (fun x => x.born == e.born) = some e := by
      intro l
      induction l with
      | nil => intro _ h; cases h
      | cons x l ih =>
        intro hd h
        simp only [List.map_cons, List.nodup_cons] at hd
        rcases List.mem_cons.1 h with rfl | h
        · simp
        · have hne : (x.born == e.born) = false := by
            rw [beq_eq_false_iff_ne]
            intro h2
            exact hd.1 (by rw [h2]; exact List.mem_map_of_mem (f := (·.born)) h)
          rw [List.find?_cons, hne]
          exact ih hd.2 h
    rw [← Array.find?_toList]
    exact key _ hd he
  simp only [Instr.entry, Sem.run_bind, hg, hm, Result.andThen_ok, Array.back?_push, hf, bne_self_eq_false, Bool.false_eq_true, if_false, Sem.run_pure]
end Go.Proofs.Ytglichmmoibagaa
