/- The map of a store: its keys, and what its operations do. -/
import Derived.Test.YtiblpkgbabjmfaaGreatDoorWN
import Derived.Maps.Own
import Derived.DeepKeys4
namespace Go.Proofs.YtiblpkgbabjmfaaGreatDoor
open Go.RowKit Go.Maps

theorem K53 : Keyed Tryz.prog 155 := Keyed.of_law (deep_law (m := 2) (by omega) (by kernel_rfl) (show Tryz.prog.tiled 2 155 = true by kernel_rfl) (by rw [Tryz.underlying155]))

/-- A name as a key. -/
def keyV (l : List UInt8) : Value := .agg (keyL l).toArray

theorem mapM_some {α β : Type} (f : α → Option β) : ∀ l : List α, (∀ i ∈ l, ∃ y, f i = some y) → ∃ ys, l.mapM f = some ys
  | [], _ => ⟨[], by simp⟩
  | a :: l, h => by
    obtain ⟨y, hy⟩ := h a (by simp)
    obtain ⟨ys, hys⟩ := mapM_some f l (fun i hi => h i (by simp [hi]))
    exact ⟨y :: ys, by simp [List.mapM_cons, hy, hys]⟩

theorem cells53 : Tryz.prog.cellsOf 155 = 24 := by kernel_rfl
theorem cells5 : Tryz.prog.cellsOf 5 = 1 := by kernel_rfl

theorem keyLits_ok (d : Nat) (cs : List Value) (hl : cs.length = 24) (h : ∀ v ∈ cs, ∃ n : UInt8, v = .int .u8 n.toNat) : ∃ x, Tryz.prog.keyLits (d + 2) 155 cs = some x := by
  rw [Program.keyLits.eq_def]
  simp only [Tryz.underlying155, cells53, hl, if_true, cells5]
  obtain ⟨ys, hys⟩ := mapM_some (fun i => Tryz.prog.keyLits (d + 1) 5 (List.take 1 (List.drop (i * 1) cs))) (List.range 24) (by
    intro i hi
    have hi' : i < cs.length := by rw [hl]; simpa using hi
    obtain ⟨n, hn⟩ := h cs[i] (List.getElem_mem _)
    have e : List.take 1 (List.drop (i * 1) cs) = [.int .u8 n.toNat] := by
      rw [Nat.mul_one, List.drop_eq_getElem_cons hi', hn]; simp
    refine ⟨[.int .u8 n.toNat], ?_⟩
    simp only [e]
    rw [Program.keyLits.eq_def]
    have hb := n.toNat_lt
    simp only [Tryz.underlying5]
    rw [if_pos]
    refine ⟨trivial, ?_⟩
    simp [Lit.wf, IntKind.min, IntKind.max, IntKind.bits, IntKind.signed]
    omega)
  exact ⟨_, by rw [hys]; rfl⟩

theorem key_of (l : List UInt8) : ∃ x, keyOf Tryz.prog 155 (keyV l) = some x := by
  have hk := keyL_length l
  have h1 : ∀ v ∈ keyL l, ∃ n : UInt8, v = .int .u8 n.toNat := by
    intro v hv
    simp only [keyL, List.mem_append, List.mem_map, List.mem_replicate] at hv
    rcases hv with ⟨b, _, rfl⟩ | ⟨_, rfl⟩
    · exact ⟨b, rfl⟩
    · exact ⟨0, rfl⟩
  obtain ⟨x, hx⟩ := keyLits_ok (Tryz.prog.types.size - 1) (keyL l) hk h1
  have e2 : Tryz.prog.types.size - 1 + 2 = Tryz.prog.types.size + 1 := by
    have : 0 < Tryz.prog.types.size := of_decide_eq_true (by kernel_rfl)
    omega
  rw [e2] at hx
  have h3 : Tryz.prog.keyType 155 = true := by kernel_rfl
  have h4 : (keyV l).formed Tryz.prog 155 = true := by simp [keyV, Value.formed, Tryz.underlying155, cells53, hk]
  refine ⟨.string (keyBytes x), ?_⟩
  unfold keyOf
  simp only [Tryz.underlying155, h3, h4, Bool.and_self, if_true]
  simp only [keyV, Value.cells]
  rw [hx]
  rfl

theorem nameL_len {l : List UInt8} (h : nameL l = true) : 0 < l.length ∧ l.length ≤ 24 ∧ ∀ c ∈ l, c ≠ 0 := by
  cases l with
  | nil => simp [nameL] at h
  | cons c r =>
    simp only [nameL, Bool.and_eq_true, decide_eq_true_eq] at h
    obtain ⟨⟨h1, h2⟩, h3⟩ := h
    refine ⟨by simp, by simp; omega, ?_⟩
    have hz : ∀ x : UInt8, okB x.toNat = true → x ≠ 0 := by
      intro x hx e
      subst e
      simp [okB, letB] at hx
    intro x hx
    rcases List.mem_cons.1 hx with rfl | hx
    · exact hz _ (by simp [okB, h2])
    · exact hz _ (by simpa using (List.all_eq_true.1 h3) x hx)

theorem keyL_inj {a b : List UInt8} (ha : nameL a = true) (hb : nameL b = true) (h : keyL a = keyL b) : a = b := by
  obtain ⟨_, la, za⟩ := nameL_len ha
  obtain ⟨_, lb, zb⟩ := nameL_len hb
  simp only [keyL, List.take_of_length_le la, List.take_of_length_le lb] at h
  have key : ∀ (a b : List UInt8) (m n : Nat), (∀ c ∈ a, c ≠ 0) → (∀ c ∈ b, c ≠ 0) →
      a.map (fun b => Value.int .u8 (b.toNat : Int)) ++ List.replicate m (.int .u8 0) = b.map (fun b => Value.int .u8 (b.toNat : Int)) ++ List.replicate n (.int .u8 0) → a = b := by
    intro a
    induction a with
    | nil =>
      intro b m n _ hb h
      cases b with
      | nil => rfl
      | cons c r =>
        cases m with
        | zero => simp at h
        | succ m =>
          simp [List.replicate_succ] at h
          exact absurd (UInt8.toNat_inj.1 (by simpa using h.1.symm)) (hb c (by simp))
    | cons c r ih =>
      intro b m n ha hb h
      cases b with
      | nil =>
        cases n with
        | zero => simp at h
        | succ n =>
          simp [List.replicate_succ] at h
          exact absurd (UInt8.toNat_inj.1 (by simpa using h.1)) (ha c (by simp))
      | cons d r' =>
        simp at h
        obtain ⟨h1, h2⟩ := h
        have e : c = d := UInt8.toNat_inj.1 (by omega)
        rw [e, ih r' m n (fun x hx => ha x (by simp [hx])) (fun x hx => hb x (by simp [hx])) h2]
  exact key a b _ _ za zb h

theorem keyV_inj {a b : List UInt8} (ha : nameL a = true) (hb : nameL b = true) (h : keyV a = keyV b) : a = b := by
  refine keyL_inj ha hb ?_
  simpa [keyV] using h

/-- What a store holds: names and texts. -/
abbrev Files := List (List UInt8 × ByteArray)

def Files.get (m : Files) (n : List UInt8) : Option ByteArray := (m.find? (·.1 == n)).map (·.2)
def Files.put (m : Files) (n : List UInt8) (t : ByteArray) : Files :=
  if m.any (·.1 == n) then m.map (fun x => if x.1 = n then (n, t) else x) else m ++ [(n, t)]
def Files.del (m : Files) (n : List UInt8) : Files := m.filter (fun x => !(x.1 == n))

/-- Entries of a map that hold just such files. -/
structure EntOf (es : Array MapEntry) (clock : Nat) (m : Files) : Prop where
  eq : es.toList.map (fun e => (e.key, e.val)) = m.map (fun x => (keyV x.1, Value.string x.2))
  born : ∀ e ∈ es.toList, e.born < clock
  apart : (es.toList.map (·.born)).Nodup
  names : ∀ x ∈ m, nameL x.1 = true
  nodup : (m.map (·.1)).Nodup

theorem EntOf.len {es : Array MapEntry} {clock : Nat} {m : Files} (h : EntOf es clock m) : es.size = m.length := by
  have := congrArg List.length h.eq
  simpa using this

theorem EntOf.at {es : Array MapEntry} {clock : Nat} {m : Files} (h : EntOf es clock m) (j : Nat) (e : MapEntry) (he : es.toList[j]? = some e) :
    ∃ x, m[j]? = some x ∧ e.key = keyV x.1 ∧ e.val = .string x.2 := by
  have h1 : (es.toList.map (fun e => (e.key, e.val)))[j]? = some (e.key, e.val) := by rw [List.getElem?_map, he]; rfl
  rw [h.eq, List.getElem?_map] at h1
  cases hx : m[j]? with
  | none => simp [hx] at h1
  | some x =>
    simp [hx] at h1
    exact ⟨x, rfl, h1.1.symm, h1.2.symm⟩

theorem Files.get_of {m : Files} (hd : (m.map (·.1)).Nodup) {j : Nat} {x : List UInt8 × ByteArray} (hx : m[j]? = some x) : m.get x.1 = some x.2 := by
  unfold Files.get
  induction m generalizing j with
  | nil => simp at hx
  | cons y r ih =>
    simp only [List.map_cons, List.nodup_cons] at hd
    cases j with
    | zero =>
      simp at hx
      subst hx
      simp
    | succ j =>
      simp at hx
      have hm : x ∈ r := List.mem_of_getElem? hx
      have hne : (y.1 == x.1) = false := by
        rw [beq_eq_false_iff_ne]
        intro e
        exact hd.1 (by rw [e]; exact List.mem_map_of_mem hm)
      rw [List.find?_cons, hne]
      exact ih hd.2 hx

theorem Files.get_none {m : Files} {n : List UInt8} (h : ∀ x ∈ m, x.1 ≠ n) : m.get n = none := by
  unfold Files.get
  rw [List.find?_eq_none.2 (by intro x hx; simpa using h x hx)]
  rfl

theorem zero9 (w : World) : (zeroValue 9).run Tryz.prog w = .ok (.string ByteArray.empty) w := by kernel_rfl

/-- Where a name stands among the entries, or that it does not. -/
theorem EntOf.find {es : Array MapEntry} {clock : Nat} {m : Files} (E : EntOf es clock m) (w : World) {n : List UInt8} (hn : nameL n = true) :
    ((Instr.findKey 155 (keyV n) es.toList).run Tryz.prog w = .ok none w ∧ (∀ x ∈ m, x.1 ≠ n)) ∨
    ∃ j t, (Instr.findKey 155 (keyV n) es.toList).run Tryz.prog w = .ok (some (j, .string t)) w ∧ m[j]? = some (n, t) ∧ ∃ e, es[j]? = some e ∧ e.key = keyV n := by
  obtain ⟨lx, hlx⟩ := key_of n
  have hall : ∀ e ∈ es.toList, ∃ l, keyOf Tryz.prog 155 e.key = some l := by
    intro e he
    obtain ⟨j, hj⟩ := List.getElem?_of_mem he
    obtain ⟨x, _, hk, _⟩ := E.at j e hj
    rw [hk]
    exact key_of x.1
  rcases K53.find w hlx es.toList hall with ⟨hr, hne⟩ | ⟨j, e, hr, hj, hk⟩
  · left
    refine ⟨hr, ?_⟩
    intro x hx e1
    obtain ⟨j, hj⟩ := List.getElem?_of_mem hx
    have hlt : j < es.toList.length := by
      have := E.len
      have h2 : j < m.length := by
        rcases Nat.lt_or_ge j m.length with h | h
        · exact h
        · rw [List.getElem?_eq_none h] at hj; cases hj
      simp; omega
    obtain ⟨y, hy, hk, _⟩ := E.at j _ (List.getElem?_eq_getElem hlt)
    rw [hj] at hy
    cases hy
    exact hne _ (List.getElem_mem hlt) (by rw [hk, e1])
  · right
    obtain ⟨x, hx, hkx, hv⟩ := E.at j e hj
    have e1 : x.1 = n := keyV_inj (E.names x (List.mem_of_getElem? hx)) hn (by rw [← hkx, hk])
    refine ⟨j, x.2, by rw [hr, hv], by rw [hx, ← e1], e, by simpa using hj, hk⟩

theorem run_lookup {w : World} {r : Nat} {es : Array MapEntry} {clock : Nat} {m : Files} (hr : w.heap[r]? = some (.map es clock)) (E : EntOf es clock m) {n : List UInt8} (hn : nameL n = true) :
    (Instr.lookup 99 (.map (some r)) (keyV n) true).run Tryz.prog w = .ok (.tuple #[.string ((m.get n).getD ByteArray.empty), .bool (m.get n).isSome]) w := by
  obtain ⟨lx, hlx⟩ := key_of n
  have hc := K53.check w es.isEmpty hlx
  have hg : (getObj r).run Tryz.prog w = .ok (.map es clock) w := by simp [getObj, Sem.run, hr]
  rcases E.find w hn with ⟨hf, hne⟩ | ⟨j, t, hf, hj, _⟩
  · rw [Files.get_none hne]
    simp [Instr.lookup, run_underlying Tryz.underlying99, hg, hc, hf]
    rfl
  · have := Files.get_of E.nodup hj
    rw [show m.get n = some t from this]
    simp [Instr.lookup, run_underlying Tryz.underlying99, hg, hc, hf]

theorem run_lookup_nil {w : World} {n : List UInt8} :
    (Instr.lookup 99 (.map none) (keyV n) true).run Tryz.prog w = .ok (.tuple #[.string ByteArray.empty, .bool false]) w := by
  obtain ⟨lx, hlx⟩ := key_of n
  have hc := K53.check w true hlx
  have hf : (Instr.findKey 155 (keyV n) []).run Tryz.prog w = .ok none w := by
    rcases K53.find w hlx [] (by simp) with ⟨h, _⟩ | ⟨j, e, _, hj, _⟩
    · exact h
    · simp at hj
  simp [Instr.lookup, run_underlying Tryz.underlying99, hc, hf]
  rfl

theorem EntOf.any_iff {m : Files} {n : List UInt8} : (m.any (·.1 == n) = true) ↔ ∃ x ∈ m, x.1 = n := by simp

theorem Files.put_new {m : Files} {n : List UInt8} {t : ByteArray} (h : ∀ x ∈ m, x.1 ≠ n) : m.put n t = m ++ [(n, t)] := by
  unfold Files.put
  rw [if_neg]
  intro hh
  obtain ⟨x, hx, e⟩ := EntOf.any_iff.1 hh
  exact h x hx e

theorem Files.put_old {m : Files} {n : List UInt8} {t u : ByteArray} {j : Nat} (hd : (m.map (·.1)).Nodup) (hj : m[j]? = some (n, u)) : m.put n t = m.set j (n, t) := by
  unfold Files.put
  rw [if_pos (EntOf.any_iff.2 ⟨(n, u), List.mem_of_getElem? hj, rfl⟩)]
  induction m generalizing j with
  | nil => simp at hj
  | cons y r ih =>
    simp only [List.map_cons, List.nodup_cons] at hd
    cases j with
    | zero =>
      simp at hj
      subst hj
      simp only [List.map_cons, if_true, List.set_cons_zero]
      congr 1
      have hne : ∀ x ∈ r, ¬ x.1 = n := fun x hx e => hd.1 (by rw [← e]; exact List.mem_map_of_mem (f := (·.1)) hx)
      refine (List.map_congr_left (g := id) fun x hx => ?_).trans (List.map_id r)
      rw [if_neg (hne x hx)]; rfl
    | succ j =>
      simp at hj
      have hne : ¬ y.1 = n := fun e => hd.1 (by rw [e]; exact List.mem_map_of_mem (f := (·.1)) (List.mem_of_getElem? hj))
      simp only [List.map_cons, if_neg hne, List.set_cons_succ]
      rw [ih hd.2 hj]

theorem EntOf.push {es : Array MapEntry} {clock : Nat} {m : Files} (E : EntOf es clock m) {n : List UInt8} (hn : nameL n = true) (t : ByteArray) (h : ∀ x ∈ m, x.1 ≠ n) :
    EntOf (es.push { key := keyV n, val := .string t, born := clock }) (clock + 1) (m.put n t) := by
  rw [Files.put_new h]
  refine ⟨?_, ?_, ?_, ?_, ?_⟩
  · simp [E.eq]
  · intro e he
    simp at he
    rcases he with he | rfl
    · exact Nat.lt_succ_of_lt (E.born e (by simpa using he))
    · exact Nat.lt_succ_self _
  · simp only [Array.toList_push, List.map_append, List.map_cons, List.map_nil]
    rw [List.nodup_append]
    refine ⟨E.apart, by simp, ?_⟩
    intro a ha b hb e
    simp at hb
    simp only [List.mem_map] at ha
    obtain ⟨x, hx, rfl⟩ := ha
    have := E.born x hx
    omega
  · intro x hx
    rcases List.mem_append.1 hx with hx | hx
    · exact E.names x hx
    · simp at hx; subst hx; exact hn
  · rw [List.map_append, List.nodup_append]
    refine ⟨E.nodup, by simp, ?_⟩
    intro a ha b hb e
    simp at hb
    simp only [List.mem_map] at ha
    obtain ⟨x, hx, rfl⟩ := ha
    exact h x hx (by rw [e, hb])

theorem EntOf.set {es : Array MapEntry} {clock : Nat} {m : Files} (E : EntOf es clock m) {n : List UInt8} (t : ByteArray) {j : Nat} {u : ByteArray} (hj : m[j]? = some (n, u)) :
    EntOf (es.modify j fun e => { e with key := keyV n, val := .string t }) clock (m.put n t) := by
  rw [Files.put_old E.nodup hj]
  have hlt : j < m.length := by
    rcases Nat.lt_or_ge j m.length with h | h
    · exact h
    · rw [List.getElem?_eq_none h] at hj; cases hj
  have hlt' : j < es.toList.length := by have := E.len; simp; omega
  have emod : (es.modify j fun e => { e with key := keyV n, val := .string t }).toList = es.toList.modify j (fun e => { e with key := keyV n, val := .string t }) := by simp
  have hx : m.set j (n, t) = m.modify j (fun x => (n, t)) := by
    apply List.ext_getElem?
    intro i
    rw [List.getElem?_set, List.getElem?_modify]
    by_cases h : j = i
    · subst h; simp [hlt]
    · simp [h]
  have hborn : (es.toList.modify j (fun e => { e with key := keyV n, val := .string t })).map (·.born) = es.toList.map (·.born) := by
    apply List.ext_getElem?
    intro i
    simp only [List.getElem?_map, List.getElem?_modify]
    cases es.toList[i]? with
    | none => rfl
    | some e => simp; split <;> rfl
  refine ⟨?_, ?_, ?_, ?_, ?_⟩
  · rw [emod, hx]
    apply List.ext_getElem?
    intro i
    have h0 : (es.toList.map (fun e => (e.key, e.val)))[i]? = (m.map (fun x => (keyV x.1, Value.string x.2)))[i]? := by rw [E.eq]
    simp only [List.getElem?_map, List.getElem?_modify] at h0 ⊢
    by_cases hij : j = i
    · subst hij
      rw [List.getElem?_eq_getElem hlt', List.getElem?_eq_getElem hlt]
      simp
    · simp only [if_neg hij]
      cases h1 : es.toList[i]? <;> cases h2 : m[i]? <;> simp_all
  · intro e he
    rw [emod] at he
    have : e.born ∈ es.toList.map (·.born) := by rw [← hborn]; exact List.mem_map_of_mem he
    obtain ⟨e', he', e1⟩ := List.mem_map.1 this
    rw [← e1]
    exact E.born e' he'
  · rw [emod, hborn]; exact E.apart
  · intro x hx'
    rcases List.mem_or_eq_of_mem_set hx' with h | h
    · exact E.names x h
    · subst h; exact E.names (n, u) (List.mem_of_getElem? hj)
  · rw [List.map_set]
    have : (m.map (·.1)).set j n = m.map (·.1) := by
      apply List.ext_getElem?
      intro i
      rw [List.getElem?_set]
      split
      · rename_i h; subst h
        split
        · simp [List.getElem?_map, hj]
        · rename_i h2; simp at h2; omega
      · rfl
    rw [this]; exact E.nodup

theorem run_update {w : World} {r : Nat} {es : Array MapEntry} {clock : Nat} {m : Files} (hr : w.heap[r]? = some (.map es clock)) (E : EntOf es clock m) {n : List UInt8} (hn : nameL n = true) (t : ByteArray) :
    ∃ es' clock', (Instr.mapUpdate 99 (.map (some r)) (keyV n) (.string t)).run Tryz.prog w = .ok () { w with heap := w.heap.setIfInBounds r (.map es' clock') } ∧ EntOf es' clock' (m.put n t) := by
  obtain ⟨lx, hlx⟩ := key_of n
  have hc := K53.check w false hlx
  have hg : (getObj r).run Tryz.prog w = .ok (.map es clock) w := by simp [getObj, Sem.run, hr]
  have hs : ∀ o, (setObj r o).run Tryz.prog w = .ok () { w with heap := w.heap.setIfInBounds r o } := fun o => by simp [setObj, Sem.run, hr]
  have hst := K53.stays w hlx
  rcases E.find w hn with ⟨hf, hne⟩ | ⟨j, u, hf, hj, e, he, hk⟩
  · refine ⟨es.push { key := keyV n, val := .string t, born := clock }, clock + 1, ?_, E.push hn t hne⟩
    simp [Instr.mapUpdate, run_underlying Tryz.underlying99, hg, hc, hf, hs]
  · refine ⟨es.modify j fun e => { e with key := keyV n, val := .string t }, clock, ?_, E.set t hj⟩
    simp [Instr.mapUpdate, run_underlying Tryz.underlying99, hg, hc, hf, hs, he, hk, hst]

theorem Files.del_none {m : Files} {n : List UInt8} (h : ∀ x ∈ m, x.1 ≠ n) : m.del n = m := by
  unfold Files.del
  rw [List.filter_eq_self]
  intro x hx
  simpa using h x hx

theorem Files.del_erase {m : Files} {n : List UInt8} {u : ByteArray} {j : Nat} (hd : (m.map (·.1)).Nodup) (hj : m[j]? = some (n, u)) : m.del n = m.eraseIdx j := by
  unfold Files.del
  induction m generalizing j with
  | nil => simp at hj
  | cons y r ih =>
    simp only [List.map_cons, List.nodup_cons] at hd
    cases j with
    | zero =>
      simp at hj
      subst hj
      have hne : ∀ x ∈ r, x.1 ≠ n := fun x hx e => hd.1 (by rw [← e]; exact List.mem_map_of_mem (f := (·.1)) hx)
      rw [List.filter_cons_of_neg (by simp)]
      exact Files.del_none hne
    | succ j =>
      simp at hj
      have hne : ¬ y.1 = n := fun e => hd.1 (by rw [e]; exact List.mem_map_of_mem (f := (·.1)) (List.mem_of_getElem? hj))
      rw [List.filter_cons_of_pos (by simpa using hne), List.eraseIdx_cons_succ, ih hd.2 hj]

theorem map_erase {α β : Type} (f : α → β) : ∀ (l : List α) (j : Nat), (l.eraseIdx j).map f = (l.map f).eraseIdx j
  | [], _ => by simp
  | a :: l, 0 => by simp
  | a :: l, j + 1 => by simp [map_erase f l j]

theorem EntOf.erase {es : Array MapEntry} {clock : Nat} {m : Files} (E : EntOf es clock m) {n : List UInt8} {j : Nat} {u : ByteArray} (hj : m[j]? = some (n, u)) :
    EntOf (es.eraseIdxIfInBounds j) clock (m.del n) := by
  rw [Files.del_erase E.nodup hj]
  have hlt : j < m.length := by
    rcases Nat.lt_or_ge j m.length with h | h
    · exact h
    · rw [List.getElem?_eq_none h] at hj; cases hj
  have hlt' : j < es.size := by have := E.len; omega
  have el : (es.eraseIdxIfInBounds j).toList = es.toList.eraseIdx j := by
    simp [Array.eraseIdxIfInBounds, hlt']
  refine ⟨?_, ?_, ?_, ?_, ?_⟩
  · rw [el, map_erase, E.eq, map_erase]
  · intro e he
    rw [el] at he
    exact E.born e (List.mem_of_mem_eraseIdx he)
  · rw [el, map_erase]
    exact E.apart.sublist (List.eraseIdx_sublist _ _)
  · intro x hx
    exact E.names x (List.mem_of_mem_eraseIdx hx)
  · rw [map_erase]
    exact E.nodup.sublist (List.eraseIdx_sublist _ _)

theorem run_delete {w : World} {r : Nat} {es : Array MapEntry} {clock : Nat} {m : Files} (hr : w.heap[r]? = some (.map es clock)) (E : EntOf es clock m) {n : List UInt8} (hn : nameL n = true) (ty : TypeId) :
    ∃ es', (Builtin.delete_ #[99, 155] ty #[.map (some r), keyV n]).run Tryz.prog w = .ok (.tuple #[]) { w with heap := w.heap.setIfInBounds r (.map es' clock) } ∧ EntOf es' clock (m.del n) := by
  obtain ⟨lx, hlx⟩ := key_of n
  have hc := K53.check w es.isEmpty hlx
  have hg : (getObj r).run Tryz.prog w = .ok (.map es clock) w := by simp [getObj, Sem.run, hr]
  have hs : ∀ o, (setObj r o).run Tryz.prog w = .ok () { w with heap := w.heap.setIfInBounds r o } := fun o => by simp [setObj, Sem.run, hr]
  rcases E.find w hn with ⟨hf, hne⟩ | ⟨j, u, hf, hj, e, he, hk⟩
  · refine ⟨es, ?_, by rw [Files.del_none hne]; exact E⟩
    simp [Builtin.delete_, run_underlying Tryz.underlying99, hg, hc, hf, hs]
  · refine ⟨es.eraseIdxIfInBounds j, ?_, E.erase hj⟩
    simp [Builtin.delete_, run_underlying Tryz.underlying99, hg, hc, hf, hs]

theorem run_delete_nil {w : World} {n : List UInt8} (ty : TypeId) : (Builtin.delete_ #[99, 155] ty #[.map none, keyV n]).run Tryz.prog w = .ok (.tuple #[]) w := by
  obtain ⟨lx, hlx⟩ := key_of n
  have hc := K53.check w true hlx
  simp [Builtin.delete_, run_underlying Tryz.underlying99, hc]
end Go.Proofs.YtiblpkgbabjmfaaGreatDoor
