/- The contracts of a store's functions. -/
import Derived.Test.YtiblpkgbabjmfaaGreatDoorWM
import Derived.Deep.CutRange
import Derived.Deep.DeepCutAuto
namespace Go.Proofs.YtiblpkgbabjmfaaGreatDoor
open Go.RowKit

/-- A store at block b, over the map mo, that holds the files m. -/
def IsStore (w : World) (b : Nat) (mo : Option Nat) (m : Files) : Prop :=
  w.heap[b]? = some (.cells #[.map mo] 101 (0, 0)) ∧ match mo with
    | none => m = []
    | some r => ∃ es clock, w.heap[r]? = some (.map es clock) ∧ EntOf es clock m

/-- But for the blocks of S all that was there is as it was. -/
structure Only (S : Nat → Prop) (w w' : World) : Prop where
  os : w'.os = w.os
  tape : w'.tape = w.tape
  output : w'.output = w.output
  size : w.heap.size ≤ w'.heap.size
  block : ∀ k, k < w.heap.size → ¬ S k → w'.heap[k]? = w.heap[k]?

theorem Only.of_below {S : Nat → Prop} {w w' : World} (h : Below w.heap.size w w') : Only S w w' := ⟨h.os, h.tape, h.output, h.size, fun k hk _ => h.block k hk⟩
theorem Only.refl (S : Nat → Prop) (w : World) : Only S w w := ⟨rfl, rfl, rfl, Nat.le_refl _, fun _ _ _ => rfl⟩
theorem Only.trans {S : Nat → Prop} {a b c : World} (h : Only S a b) (k : Only (fun i => i < a.heap.size → S i) b c) : Only S a c :=
  ⟨k.os.trans h.os, k.tape.trans h.tape, k.output.trans h.output, Nat.le_trans h.size k.size, fun i hi hs => (k.block i (Nat.lt_of_lt_of_le hi h.size) (fun f => hs (f hi))).trans (h.block i hi hs)⟩
theorem Only.drew {S : Nat → Prop} {a w : World} (h : Only S a w) : Only S a w.drew := ⟨h.os, h.tape, h.output, h.size, h.block⟩
theorem Only.mono {S T : Nat → Prop} {a w : World} (h : Only S a w) (hs : ∀ k, k < a.heap.size → S k → T k) : Only T a w := ⟨h.os, h.tape, h.output, h.size, fun k hk ht => h.block k hk (fun f => ht (hs k hk f))⟩

theorem IsStore.only {S : Nat → Prop} {w w' : World} {b : Nat} {mo : Option Nat} {m : Files} (h : IsStore w b mo m) (k : Only S w w') (hb : ¬ S b) (hr : ∀ r, mo = some r → ¬ S r) : IsStore w' b mo m := by
  obtain ⟨h1, h2⟩ := h
  have lt : ∀ {j : Nat} {o : Obj}, w.heap[j]? = some o → j < w.heap.size := fun hj => (Array.getElem?_eq_some_iff.1 hj).1
  refine ⟨(k.block b (lt h1) hb).trans h1, ?_⟩
  cases mo with
  | none => exact h2
  | some r =>
    obtain ⟨es, clock, he, hE⟩ := h2
    exact ⟨es, clock, (k.block r (lt he) (hr r rfl)).trans he, hE⟩

/-- What Put answers. -/
def putCode (m : Files) (n : List UInt8) (t : ByteArray) : Int :=
  if nameL n = false then 70 else if 131072 < t.size then 2 else if (m.get n).isSome = false ∧ m.length = 64 then 3 else 0
def putM (m : Files) (n : List UInt8) (t : ByteArray) : Files := if putCode m n t = 0 then m.put n t else m

def PutPost (w : World) (b : Nat) (mo : Option Nat) (m : Files) (n : List UInt8) (t : ByteArray) (e : Ending) (w' : World) : Prop :=
  ∃ mo', e = .returned (.int .i64 (putCode m n t)) ∧ IsStore w' b mo' (putM m n t) ∧ Only (fun k => k = b ∨ mo = some k) w w' ∧ (∀ r, mo' = some r → mo = some r ∨ w.heap.size ≤ r)

set_option maxRecDepth 100000 in
set_option maxHeartbeats 400000 in
theorem new11 (w : World) : Calls Tryz.prog 38 #[] w fun e w' => e = .returned (.pointer (some ⟨w.heap.size, 0, none⟩)) ∧ w' = w.alloc (.cells #[.map none] 101) := by
  go_enter Tryz.func38, Tryz.ntmps38
  go_wp2
  go_ret
  exact ⟨rfl, rfl⟩

theorem key_laid (w w1 : World) (z ks : Array Value) (hb : Below w.heap.size w w1) :
    ((w1.alloc (.cells z 155)).setRow w1.heap.size ks).heap[w1.heap.size]? = some (.cells ks 155 (0, 0)) ∧ Below w.heap.size w ((w1.alloc (.cells z 155)).setRow w1.heap.size ks) ∧ w.heap.size ≤ w1.heap.size ∧ w1.heap.size < ((w1.alloc (.cells z 155)).setRow w1.heap.size ks).heap.size :=
  ⟨setRow_heap _ _ _ _ _ _ (heap_alloc_new _ _), below_setRow (hb.alloc hb.size _) hb.size _, hb.size, by simp⟩

theorem IsStore.below {w w' : World} {b : Nat} {mo : Option Nat} {m : Files} (h : IsStore w b mo m) (k : Below w.heap.size w w') : IsStore w' b mo m :=
  h.only (Only.of_below (S := fun _ => False) k) (fun h => h) (fun _ _ h => h)

theorem ret_i64 {a b : Int} (h : a = b) : Ending.returned (.int .i64 a) = .returned (.int .i64 b) := by rw [h]

set_option maxRecDepth 100000 in
set_option maxHeartbeats 400000 in
theorem put_bad {w : World} {b : Nat} {mo : Option Nat} {m : Files} {n t : ByteArray} (hs : IsStore w b mo m) (hn : n.size ≤ maxLen) (hb : nameL n.data.toList = false) :
    Calls Tryz.prog 60 #[.pointer (some ⟨b, 0, none⟩), .string n, .string t] w (PutPost w b mo m n.data.toList t) := by
  have ho := fun w => of26 n w hn
  have hk1 := keyL_one n.data.toList
  have hkl := keyL_length n.data.toList
  generalize hN : nameL n.data.toList = nb at *
  generalize hK : keyL n.data.toList = ks at *
  subst hb
  have HO := Lib.hid ho
  have HN := Lib.hid hN
  have HK := Lib.hid hK
  have HK1 := Lib.hid hk1
  have HKL := Lib.hid hkl
  have HS := Lib.hid hs
  clear ho hN hK hk1 hkl hs
  go_enter Tryz.func60, Tryz.ntmps60
  go_upto_region 2 with (first | (go_at_call 81; refine (HO.out _).mono ?_; rintro e w1 ⟨rfl, hb⟩) | (refine wpList_store_row rfl 155 (.tmp 7) (.tmp 14) rfl _ rfl 155 ks.toArray _ rfl (heap_alloc_new _ _) (by rw [List.size_toArray, HKL.out]; rfl) (by rw [List.size_toArray, HKL.out]; kernel_rfl) (by simpa using HK1.out) ?_))
  have F := key_laid w w1 zero24 ks.toArray hb
  simp only [zero24, List.replicate] at F
  revert F
  generalize World.setRow _ w1.heap.size ks.toArray = W2
  generalize w1.heap.size = g
  rintro ⟨f1, f2, f3, f4⟩
  have F1 := Lib.hid f1
  clear f1 hb
  go_wp2
  go_ret
  refine ⟨mo, ?_, ?_, Only.of_below f2, fun r h => .inl h⟩
  · simp [putCode, HN.out]
  · have : putM m n.data.toList t = m := by simp [putM, putCode, HN.out]
    rw [this]; exact HS.out.below f2
set_option maxRecDepth 100000 in
set_option maxHeartbeats 400000 in
theorem put_long {w : World} {b : Nat} {mo : Option Nat} {m : Files} {n t : ByteArray} (hs : IsStore w b mo m) (hn : n.size ≤ maxLen) (ht : 131072 < t.size) (htm : t.size ≤ maxLen) (hb : nameL n.data.toList = true) :
    Calls Tryz.prog 60 #[.pointer (some ⟨b, 0, none⟩), .string n, .string t] w (PutPost w b mo m n.data.toList t) := by
  have ho := fun w => of26 n w hn
  unfold maxLen at htm
  have hk1 := keyL_one n.data.toList
  have hkl := keyL_length n.data.toList
  generalize hN : nameL n.data.toList = nb at *
  generalize hK : keyL n.data.toList = ks at *
  subst hb
  have HO := Lib.hid ho
  have HN := Lib.hid hN
  have HK := Lib.hid hK
  have HK1 := Lib.hid hk1
  have HKL := Lib.hid hkl
  have HS := Lib.hid hs
  clear ho hN hK hk1 hkl hs
  go_enter Tryz.func60, Tryz.ntmps60
  go_upto_region 2 with (first | (go_at_call 81; refine (HO.out _).mono ?_; rintro e w1 ⟨rfl, hb⟩) | (refine wpList_store_row rfl 155 (.tmp 7) (.tmp 14) rfl _ rfl 155 ks.toArray _ rfl (heap_alloc_new _ _) (by rw [List.size_toArray, HKL.out]; rfl) (by rw [List.size_toArray, HKL.out]; kernel_rfl) (by simpa using HK1.out) ?_))
  have F := key_laid w w1 zero24 ks.toArray hb
  simp only [zero24, List.replicate] at F
  revert F
  generalize World.setRow _ w1.heap.size ks.toArray = W2
  generalize w1.heap.size = g
  rintro ⟨f1, f2, f3, f4⟩
  have F1 := Lib.hid f1
  clear f1 hb
  go_wp2
  go_ret
  refine ⟨mo, ?_, ?_, Only.of_below f2, fun r h => .inl h⟩
  · simp [putCode, HN.out, ht]
  · have : putM m n.data.toList t = m := by simp [putM, putCode, HN.out, ht]
    rw [this]; exact HS.out.below f2

theorem run_len_map {w : World} {r : Nat} {es : Array MapEntry} {clock : Nat} {m : Files} (hr : w.heap[r]? = some (.map es clock)) (E : EntOf es clock m) (ty : TypeId) :
    (Builtin.len_ #[99] ty #[.map (some r)]).run Tryz.prog w = .ok (goInt (m.length : Nat)) w := by
  have hg : (getObj r).run Tryz.prog w = .ok (.map es clock) w := by simp [getObj, Sem.run, hr]
  simp [Builtin.len_, run_underlying Tryz.underlying99, hg, E.len]

/-- The world with another map at block r. -/
def setMap (w : World) (r : Nat) (es : Array MapEntry) (clock : Nat) : World := { w with heap := w.heap.setIfInBounds r (.map es clock) }

theorem setMap_same {w : World} {r : Nat} {es : Array MapEntry} {clock : Nat} (h : r < w.heap.size) : (setMap w r es clock).heap[r]? = some (.map es clock) := by
  simp [setMap, h]
theorem setMap_other {w : World} {r k : Nat} {es : Array MapEntry} {clock : Nat} (h : k ≠ r) : (setMap w r es clock).heap[k]? = w.heap[k]? := by
  simp only [setMap]
  rw [Array.getElem?_setIfInBounds_ne (by omega)]
theorem setMap_only {S : Nat → Prop} {a w : World} (h : Only S a w) (r : Nat) (es : Array MapEntry) (clock : Nat) (hr : r < a.heap.size → S r) : Only S a (setMap w r es clock) :=
  ⟨h.os, h.tape, h.output, by simpa [setMap] using h.size, fun k hk hs => (setMap_other (fun e => hs (by subst e; exact hr hk))).trans (h.block k hk hs)⟩

theorem wpList_put_map {ops : Array Oper} {rest : List Oper} {o : Oper} {a : Act} {w : World} {Q : Exit → Act → World → Prop} (hgd : o.guard = none) (x y z : Operand) (ho : o.op = .mapUpdate 99 x y z)
    (r : Nat) (n : List UInt8) (t : ByteArray) (hx : a.eval x = .map (some r)) (hy : a.eval y = keyV n) (hz : a.eval z = .string t) {es : Array MapEntry} {clock : Nat} {m : Files}
    (hr : w.heap[r]? = some (.map es clock)) (E : EntOf es clock m) (hn : nameL n = true)
    (h : ∀ es' clock', EntOf es' clock' (m.put n t) → wpList Tryz.prog ops Q rest (a.put o.dst undef) (setMap w r es' clock')) : wpList Tryz.prog ops Q (o :: rest) a w := by
  refine wpList_plain hgd fun K hK => ?_
  obtain ⟨es', clock', hrun, E'⟩ := run_update hr E hn t
  unfold Oper.wp execOp
  simp only [ho, hx, hy, hz, Sem.run_bind, hrun, Result.andThen_ok]
  exact hK _ _ (h es' clock' E')

theorem Below.drewOf {B : Nat} {a w : World} (h : Below B a w) : Below B a w.drew := h.drew

theorem WW_old {w : World} {o : Obj} {i : Nat} (h : i < w.heap.size) : (w.alloc o).heap[i]? = w.heap[i]? := Below.heap_alloc w o i h

theorem nil_laid {w W : World} {b g : Nat} {z : Array Value} (f2 : Below w.heap.size w W) (hb : W.heap[b]? = some (.cells #[.map none] 101 (0, 0))) (hg : W.heap[g]? = some (.cells z 155 (0, 0))) :
    ((W.setCell ⟨b, 0, none⟩ (.map (some W.heap.size))).alloc (.map #[] 0)).heap[b]? = some (.cells #[.map (some W.heap.size)] 101 (0, 0)) ∧
    ((W.setCell ⟨b, 0, none⟩ (.map (some W.heap.size))).alloc (.map #[] 0)).heap[W.heap.size]? = some (.map #[] 0) ∧
    ((W.setCell ⟨b, 0, none⟩ (.map (some W.heap.size))).alloc (.map #[] 0)).heap[g]? = some (.cells z 155 (0, 0)) ∧
    Only (fun k => k = b) w ((W.setCell ⟨b, 0, none⟩ (.map (some W.heap.size))).alloc (.map #[] 0)) ∧ w.heap.size ≤ W.heap.size := by
  have lt : ∀ {j : Nat} {o : Obj}, W.heap[j]? = some o → j < W.heap.size := fun hj => (Array.getElem?_eq_some_iff.1 hj).1
  have hbl := lt hb
  have hgl := lt hg
  have hne : g ≠ b := by rintro rfl; rw [hb] at hg; cases hg
  have hsz : (W.setCell ⟨b, 0, none⟩ (.map (some W.heap.size))).heap.size = W.heap.size := by simp [World.setCell]
  refine ⟨?_, ?_, ?_, ?_, f2.size⟩
  · rw [WW_old (by rw [hsz]; exact hbl), heap_setCell_same W b 0 _ _ _ hb]; rfl
  · have := heap_alloc_new (W.setCell ⟨b, 0, none⟩ (.map (some W.heap.size))) (.map #[] 0)
    rw [hsz] at this
    exact this
  · rw [WW_old (by rw [hsz]; exact hgl), heap_setCell_other W _ g _ hne]; exact hg
  · refine ⟨f2.os, f2.tape, f2.output, by have := f2.size; simp [World.setCell]; omega, fun k hk hs => ?_⟩
    have hk' := Nat.lt_of_lt_of_le hk f2.size
    rw [WW_old (by rw [hsz]; exact hk'), heap_setCell_other W _ k _ hs]
    exact f2.block k hk

theorem put_first {w W3 : World} {b r : Nat} {n : List UInt8} {t : ByteArray} (hb : nameL n = true) (ht : ¬ 131072 < t.size)
    (h1 : W3.heap[b]? = some (.cells #[.map (some r)] 101 (0, 0))) (h2 : W3.heap[r]? = some (.map #[] 0)) (h3 : Only (fun k => k = b) w W3) (hr : w.heap.size ≤ r)
    {es' : Array MapEntry} {clock' : Nat} (E' : EntOf es' clock' (Files.put [] n t)) :
    PutPost w b none [] n t (.returned (.int .i64 0)) (setMap W3.drew.drew r es' clock') := by
  have hc : putCode [] n t = 0 := by
    unfold putCode
    rw [if_neg (by simp [hb]), if_neg ht, if_neg]
    rintro ⟨_, h⟩
    simp at h
  have hne : b ≠ r := by rintro rfl; rw [h1] at h2; cases h2
  refine ⟨some r, by rw [hc], ?_, ?_, fun r' h => .inr (by cases h; exact hr)⟩
  · have : putM [] n t = Files.put [] n t := by simp [putM, hc]
    rw [this]
    refine ⟨?_, es', clock', setMap_same ?_, E'⟩
    · rw [setMap_other hne]; exact h1
    · exact (Array.getElem?_eq_some_iff.1 h2).1
  · exact setMap_only (h3.mono (fun k _ h => .inl h)).drew.drew _ _ _ (fun h => by omega)

theorem EntOf.nil : EntOf #[] 0 [] := ⟨rfl, by simp, by simp, by simp, by simp⟩

theorem put_done {w W2 : World} {b r : Nat} {m : Files} {n : List UInt8} {t : ByteArray} (hs : IsStore w b (some r) m) (hb : nameL n = true) (ht : ¬ 131072 < t.size)
    (hx : (m.get n).isSome = true ∨ ¬ m.length = 64) (f2 : Below w.heap.size w W2) {es' : Array MapEntry} {clock' : Nat} (E' : EntOf es' clock' (m.put n t)) :
    PutPost w b (some r) m n t (.returned (.int .i64 0)) (setMap W2.drew.drew r es' clock') := by
  have hc : putCode m n t = 0 := by
    unfold putCode
    rw [if_neg (by simp [hb]), if_neg ht, if_neg]
    rintro ⟨h1, h2⟩
    rcases hx with h | h
    · simp [h] at h1
    · exact h h2
  obtain ⟨h1, es, clock, h2, _⟩ := hs
  have lt : ∀ {j : Nat} {o : Obj}, w.heap[j]? = some o → j < w.heap.size := fun hj => (Array.getElem?_eq_some_iff.1 hj).1
  have hne : b ≠ r := by rintro rfl; rw [h1] at h2; cases h2
  refine ⟨some r, by rw [hc], ?_, ?_, fun r' h => .inl h⟩
  · have : putM m n t = m.put n t := by simp [putM, hc]
    rw [this]
    refine ⟨?_, es', clock', setMap_same ?_, E'⟩
    · rw [setMap_other hne]
      exact (f2.block b (lt h1)).trans h1
    · have := f2.size
      have := lt h2
      show r < W2.heap.size
      omega
  · exact setMap_only (Only.of_below f2).drew.drew _ _ _ (fun _ => .inr rfl)

theorem put_full {w W2 : World} {b r : Nat} {m : Files} {n : List UInt8} {t : ByteArray} (hs : IsStore w b (some r) m) (hb : nameL n = true) (ht : ¬ 131072 < t.size)
    (hx : (m.get n).isSome = false) (h64 : m.length = 64) (f2 : Below w.heap.size w W2) : PutPost w b (some r) m n t (.returned (.int .i64 3)) W2.drew := by
  have hc : putCode m n t = 3 := by
    unfold putCode
    rw [if_neg (by simp [hb]), if_neg ht, if_pos ⟨hx, h64⟩]
  refine ⟨some r, by rw [hc], ?_, (Only.of_below f2).drew, fun r' h => .inl h⟩
  have : putM m n t = m := by simp [putM, hc]
  rw [this]
  exact hs.below f2.drew

set_option maxRecDepth 100000 in
set_option maxHeartbeats 1000000 in
theorem put_some {w : World} {b r : Nat} {m : Files} {n t : ByteArray} (hs : IsStore w b (some r) m) (hn : n.size ≤ maxLen) (ht : ¬ 131072 < t.size) (hb : nameL n.data.toList = true)
    (_hm : m.length ≤ 64) :
    Calls Tryz.prog 60 #[.pointer (some ⟨b, 0, none⟩), .string n, .string t] w (PutPost w b (some r) m n.data.toList t) := by
  have hlook : ∀ W, Below w.heap.size w W → (Instr.lookup 99 (.map (some r)) (.agg (keyL n.data.toList).toArray) true).run Tryz.prog W = .ok (.tuple #[.string ((m.get n.data.toList).getD ByteArray.empty), .bool (m.get n.data.toList).isSome]) W := by
    intro W hW
    obtain ⟨_, es, clock, h1, h2⟩ := hs.below hW
    exact run_lookup h1 h2 hb
  have ho := fun w => of26 n w hn
  have hk1 := keyL_one n.data.toList
  have hkl := keyL_length n.data.toList
  generalize hN : nameL n.data.toList = nb at *
  generalize hK : keyL n.data.toList = ks at *
  subst hb
  have HO := Lib.hid ho
  have HN := Lib.hid hN
  have HK := Lib.hid hK
  have HK1 := Lib.hid hk1
  have HKL := Lib.hid hkl
  have HS := Lib.hid hs
  clear ho hN hK hk1 hkl hs
  go_enter Tryz.func60, Tryz.ntmps60
  go_upto_region 2 with (first | (go_at_call 81; refine (HO.out _).mono ?_; rintro e w1 ⟨rfl, hb⟩) | (refine wpList_store_row rfl 155 (.tmp 7) (.tmp 14) rfl _ rfl 155 ks.toArray _ rfl (heap_alloc_new _ _) (by rw [List.size_toArray, HKL.out]; rfl) (by rw [List.size_toArray, HKL.out]; kernel_rfl) (by simpa using HK1.out) ?_))
  have F := key_laid w w1 zero24 ks.toArray hb
  simp only [zero24, List.replicate] at F
  revert F
  generalize World.setRow _ w1.heap.size ks.toArray = W2
  generalize w1.heap.size = g
  rintro ⟨f1, f2, f3, f4⟩
  have F1 := Lib.hid f1
  clear f1 hb
  have HL := Lib.hid hlook
  clear hlook
  go_upto_region 8 with fail
  obtain ⟨hbk, es, clock, hr, hE⟩ := HS.out.below f2
  have hcb : W2.drew.cell? ⟨b, 0, none⟩ = some (.map (some r)) := by
    show W2.cell? _ = _
    rw [cell_of_row W2 b 0 _ _ _ hbk]; rfl
  have hl := HL.out W2.drew f2.drew
  have HE := Lib.hid hE
  have HR := Lib.hid hr
  have HBK := Lib.hid hbk
  clear hE hr hbk
  generalize hgt : (m.get n.data.toList).isSome = there at *
  have HGT := Lib.hid hgt
  clear hgt
  refine wp_region_still_lit (by kernel_rfl) (by kernel_rfl) ?_
  change wpStill _ _ W2.drew (fun a' => (Exit.then _ _) .normal a' W2.drew) _ _
  still_step
  still_step
  still_step
  still_step
  refine wpStill_step (fun K hK => ?_)
  refine still_load_row rfl 155 (.tmp 7) rfl g rfl 155 ks.toArray (0, 0) _ F1.out Tryz.underlying155 rfl (by rw [List.size_toArray, HKL.out]; kernel_rfl) ?_
  refine hK _ ?_
  clear hK K
  repeat still_step
  refine wpStill_nil ?_
  clear hl
  have hnil := run_eql_map_nil (P := Tryz.prog) W2.drew 99 155 9 (some r) Tryz.underlying99
  have hlen := run_len_map (w := W2.drew) HR.out HE.out 3
  cases there with
  | true =>
    clear hlen
    go_upto_region 13 with fail
    refine wp_region_still_tail 6 (by kernel_rfl) (by kernel_rfl) ?_
    simp only [List.take_succ_cons, List.take_zero, List.drop_succ_cons, List.drop_zero]
    change wpStill _ _ W2.drew.drew (fun a' => wpList _ _ _ _ a' W2.drew.drew) _ _
    have hcb2 : W2.drew.drew.cell? ⟨b, 0, none⟩ = some (.map (some r)) := hcb
    still_step
    still_step
    still_step
    still_step
    refine wpStill_step (fun K hK => ?_)
    refine still_load_row rfl 155 (.tmp 7) rfl g rfl 155 ks.toArray (0, 0) _ F1.out Tryz.underlying155 rfl (by rw [List.size_toArray, HKL.out]; kernel_rfl) ?_
    refine hK _ ?_
    clear hK K
    still_step
    refine wpStill_nil ?_
    refine wpList_put_map rfl (.tmp 57) (.tmp 58) (.tmp 59) rfl r n.data.toList t rfl (by rw [keyV, HK.out]; rfl) rfl HR.out HE.out HN.out ?_
    intro es' clock' E'
    go_wp2
    go_ret
    exact put_done HS.out HN.out ht (.inl HGT.out) f2 E'
  | false =>
    by_cases h64 : m.length = 64
    · have b64 : ((m.length : Int) == 64) = true := by rw [beq_iff_eq]; omega
      go_wp2
      go_ret
      exact put_full HS.out HN.out ht HGT.out h64 f2
    · have b64 : ((m.length : Int) == 64) = false := by rw [beq_eq_false_iff_ne]; omega
      go_upto_region 13 with fail
      refine wp_region_still_tail 6 (by kernel_rfl) (by kernel_rfl) ?_
      simp only [List.take_succ_cons, List.take_zero, List.drop_succ_cons, List.drop_zero]
      change wpStill _ _ W2.drew.drew (fun a' => wpList _ _ _ _ a' W2.drew.drew) _ _
      have hcb2 : W2.drew.drew.cell? ⟨b, 0, none⟩ = some (.map (some r)) := hcb
      still_step
      still_step
      still_step
      still_step
      refine wpStill_step (fun K hK => ?_)
      refine still_load_row rfl 155 (.tmp 7) rfl g rfl 155 ks.toArray (0, 0) _ F1.out Tryz.underlying155 rfl (by rw [List.size_toArray, HKL.out]; kernel_rfl) ?_
      refine hK _ ?_
      clear hK K
      still_step
      refine wpStill_nil ?_
      refine wpList_put_map rfl (.tmp 57) (.tmp 58) (.tmp 59) rfl r n.data.toList t rfl (by rw [keyV, HK.out]; rfl) rfl HR.out HE.out HN.out ?_
      intro es' clock' E'
      go_wp2
      go_ret
      exact put_done HS.out HN.out ht (.inr h64) f2 E'
set_option maxRecDepth 100000 in
set_option maxHeartbeats 1000000 in
theorem put_none {w : World} {b : Nat} {n t : ByteArray} (hs : IsStore w b none []) (hn : n.size ≤ maxLen) (ht : ¬ 131072 < t.size) (hb : nameL n.data.toList = true) :
    Calls Tryz.prog 60 #[.pointer (some ⟨b, 0, none⟩), .string n, .string t] w (PutPost w b none [] n.data.toList t) := by
  have hlook : ∀ W, (Instr.lookup 99 (.map none) (.agg (keyL n.data.toList).toArray) true).run Tryz.prog W = .ok (.tuple #[.string ByteArray.empty, .bool false]) W := fun W => run_lookup_nil
  have ho := fun w => of26 n w hn
  have hk1 := keyL_one n.data.toList
  have hkl := keyL_length n.data.toList
  generalize hN : nameL n.data.toList = nb at *
  generalize hK : keyL n.data.toList = ks at *
  subst hb
  have HO := Lib.hid ho
  have HN := Lib.hid hN
  have HK := Lib.hid hK
  have HK1 := Lib.hid hk1
  have HKL := Lib.hid hkl
  have HS := Lib.hid hs
  clear ho hN hK hk1 hkl hs
  go_enter Tryz.func60, Tryz.ntmps60
  go_upto_region 2 with (first | (go_at_call 81; refine (HO.out _).mono ?_; rintro e w1 ⟨rfl, hb⟩) | (refine wpList_store_row rfl 155 (.tmp 7) (.tmp 14) rfl _ rfl 155 ks.toArray _ rfl (heap_alloc_new _ _) (by rw [List.size_toArray, HKL.out]; rfl) (by rw [List.size_toArray, HKL.out]; kernel_rfl) (by simpa using HK1.out) ?_))
  have F := key_laid w w1 zero24 ks.toArray hb
  simp only [zero24, List.replicate] at F
  revert F
  generalize World.setRow _ w1.heap.size ks.toArray = W2
  generalize w1.heap.size = g
  rintro ⟨f1, f2, f3, f4⟩
  have F1 := Lib.hid f1
  clear f1 hb
  have HL := Lib.hid hlook
  clear hlook
  go_upto_region 8 with fail
  obtain ⟨hbk, _⟩ := HS.out.below f2
  have hcb : W2.drew.cell? ⟨b, 0, none⟩ = some (.map none) := by
    show W2.cell? _ = _
    rw [cell_of_row W2 b 0 _ _ _ hbk]; rfl
  have hfb : W2.drew.frozen? ⟨b, 0, none⟩ = false := frozen_of_row W2 b 0 _ _ hbk
  have hl := HL.out W2.drew
  have HBK := Lib.hid hbk
  clear hbk
  refine wp_region_still_lit (by kernel_rfl) (by kernel_rfl) ?_
  change wpStill _ _ W2.drew (fun a' => (Exit.then _ _) .normal a' W2.drew) _ _
  still_step
  still_step
  still_step
  still_step
  refine wpStill_step (fun K hK => ?_)
  refine still_load_row rfl 155 (.tmp 7) rfl g rfl 155 ks.toArray (0, 0) _ F1.out Tryz.underlying155 rfl (by rw [List.size_toArray, HKL.out]; kernel_rfl) ?_
  refine hK _ ?_
  clear hK K
  repeat still_step
  refine wpStill_nil ?_
  clear hl
  have hnil := run_eql_map_nil (P := Tryz.prog) W2.drew 99 155 9 none Tryz.underlying99
  have hlen : (Builtin.len_ #[99] 3 #[.map none]).run Tryz.prog W2.drew = .ok (goInt 0) W2.drew := by simp [Builtin.len_, run_underlying Tryz.underlying99]
  have hmm := @run_makeMap Tryz.prog
  have hblt : b < W2.heap.size := (Array.getElem?_eq_some_iff.1 HBK.out).1
  have hA : (W2.alloc (.map #[] 0)).heap[b]? = some (.cells #[.map none] 101 (0, 0)) := (WW_old hblt).trans HBK.out
  have hcb3 : (W2.alloc (.map #[] 0)).cell? ⟨b, 0, none⟩ = some (.map none) := by
    rw [cell_of_row _ b 0 _ _ _ hA]; rfl
  have hfb3 : (W2.alloc (.map #[] 0)).frozen? ⟨b, 0, none⟩ = false := frozen_of_row _ b 0 _ _ hA
  have hfb : W2.frozen? ⟨b, 0, none⟩ = false := hfb
  have hcb : W2.cell? ⟨b, 0, none⟩ = some (.map none) := hcb
  have HA := Lib.hid hA
  clear hA
  go_upto_region 13 with fail
  have G := nil_laid f2 HBK.out F1.out
  clear hcb hfb hcb3 hfb3 HA hlen hnil hmm
  revert G
  generalize (W2.setCell ⟨b, 0, none⟩ (.map (some W2.heap.size))).alloc (.map #[] 0) = W3
  generalize W2.heap.size = r
  rintro ⟨g1, g2, g3, g4, g5⟩
  have G1 := Lib.hid g1
  have G2 := Lib.hid g2
  have G3 := Lib.hid g3
  refine wp_region_still_tail 6 (by kernel_rfl) (by kernel_rfl) ?_
  simp only [List.take_succ_cons, List.take_zero, List.drop_succ_cons, List.drop_zero]
  change wpStill _ _ W3.drew.drew (fun a' => wpList _ _ _ _ a' W3.drew.drew) _ _
  have hcb2 : W3.drew.drew.cell? ⟨b, 0, none⟩ = some (.map (some r)) := by
    show W3.cell? _ = _
    rw [cell_of_row _ b 0 _ _ _ g1]; rfl
  clear g1 g2 g3
  still_step
  still_step
  still_step
  still_step
  refine wpStill_step (fun K hK => ?_)
  refine still_load_row rfl 155 (.tmp 7) rfl g rfl 155 ks.toArray (0, 0) _ G3.out Tryz.underlying155 rfl (by rw [List.size_toArray, HKL.out]; kernel_rfl) ?_
  refine hK _ ?_
  clear hK K
  still_step
  refine wpStill_nil ?_
  refine wpList_put_map rfl (.tmp 57) (.tmp 58) (.tmp 59) rfl r n.data.toList t rfl (by rw [keyV, HK.out]; rfl) rfl G2.out EntOf.nil HN.out ?_
  intro es' clock' E'
  go_wp2
  go_ret
  exact put_first HN.out ht G1.out G2.out g4 g5 E'

/-- PUT: whatever the store holds. -/
theorem put12 {w : World} {b : Nat} {mo : Option Nat} {m : Files} {n t : ByteArray} (hs : IsStore w b mo m) (hn : n.size ≤ maxLen) (ht : t.size ≤ maxLen) (hm : m.length ≤ 64) :
    Calls Tryz.prog 60 #[.pointer (some ⟨b, 0, none⟩), .string n, .string t] w (PutPost w b mo m n.data.toList t) := by
  cases hb : nameL n.data.toList with
  | false => exact put_bad hs hn hb
  | true =>
    by_cases h : 131072 < t.size
    · exact put_long hs hn h ht hb
    · cases mo with
      | none =>
        obtain rfl : m = [] := hs.2
        exact put_none hs hn h hb
      | some r => exact put_some hs hn h hb hm
end Go.Proofs.YtiblpkgbabjmfaaGreatDoor
