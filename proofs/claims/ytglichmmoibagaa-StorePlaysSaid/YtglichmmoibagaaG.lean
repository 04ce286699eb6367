/- The contracts of a store's functions Get and Delete. -/
import Derived.Test.YtglichmmoibagaaP
namespace Go.Proofs.Ytglichmmoibagaa
open Go.RowKit

theorem IsStore.names {w : World} {b : Nat} {mo : Option Nat} {m : Files} (h : IsStore w b mo m) : ∀ x ∈ m, nameL x.1 = true := by
  obtain ⟨_, h2⟩ := h
  cases mo with
  | none => obtain rfl : m = [] := h2; intro x hx; cases hx
  | some r => obtain ⟨_, _, _, hE⟩ := h2; exact hE.names

theorem IsStore.nodup {w : World} {b : Nat} {mo : Option Nat} {m : Files} (h : IsStore w b mo m) : (m.map (·.1)).Nodup := by
  obtain ⟨_, h2⟩ := h
  cases mo with
  | none => obtain rfl : m = [] := h2; simp
  | some r => obtain ⟨_, _, _, hE⟩ := h2; exact hE.nodup

theorem IsStore.get_bad {w : World} {b : Nat} {mo : Option Nat} {m : Files} (h : IsStore w b mo m) {n : List UInt8} (hn : nameL n = false) : m.get n = none :=
  Files.get_none (fun x hx e => by have := h.names x hx; rw [e, hn] at this; cases this)

def GetPost (w : World) (m : Files) (n : List UInt8) (e : Ending) (w' : World) : Prop :=
  e = .returned (.tuple #[.string ((m.get n).getD ByteArray.empty), .bool (m.get n).isSome]) ∧ Below w.heap.size w w'

set_option maxHeartbeats 400000 in
theorem get_bad {w : World} {b : Nat} {mo : Option Nat} {m : Files} {n : ByteArray} (hs : IsStore w b mo m) (hn : n.size ≤ maxLen) (hb : nameL n.data.toList = false) :
    Calls Try.prog 13 #[.pointer (some ⟨b, 0, none⟩), .string n] w (GetPost w m n.data.toList) := by
  have ho := fun w => of26 n w hn
  have hk1 := keyL_one n.data.toList
  have hkl := keyL_length n.data.toList
  generalize hN : nameL n.data.toList = nb at *
  generalize hK : keyL n.data.toList = ks at *
  subst hb
  have HO := Lib.hid ho
  have HN := Lib.hid hN
  have HK := Lib.hid hK
  have HK1 := Lib.hid hk1
  have HKL := Lib.hid hkl
  have HS := Lib.hid hs
  clear ho hN hK hk1 hkl hs
  go_enter Try.func13, Try.ntmps13
  go_upto_region 2 with (first | (go_at_call 26; refine (HO.out _).mono ?_; rintro e w1 ⟨rfl, hb⟩) | (refine wpList_store_row rfl 53 (.tmp 6) (.tmp 12) rfl _ rfl 53 ks.toArray _ rfl (heap_alloc_new _ _) (by rw [List.size_toArray, HKL.out]; rfl) (by rw [List.size_toArray, HKL.out]; kernel_rfl) (by simpa using HK1.out) ?_))
  have F := key_laid w w1 zero24 ks.toArray hb
  simp only [zero24, List.replicate] at F
  revert F
  generalize World.setRow _ w1.heap.size ks.toArray = W2
  generalize w1.heap.size = g
  rintro ⟨f1, f2, f3, f4⟩
  have F1 := Lib.hid f1
  clear f1 hb
  go_wp2
  go_ret2
  have := HS.out.get_bad HN.out
  exact ⟨by rw [this]; rfl, f2⟩

set_option maxHeartbeats 1000000 in
theorem get_some {w : World} {b r : Nat} {m : Files} {n : ByteArray} (hs : IsStore w b (some r) m) (hn : n.size ≤ maxLen) (hb : nameL n.data.toList = true) :
    Calls Try.prog 13 #[.pointer (some ⟨b, 0, none⟩), .string n] w (GetPost w m n.data.toList) := by
  have hlook : ∀ W, Below w.heap.size w W → (Instr.lookup 49 (.map (some r)) (.agg (keyL n.data.toList).toArray) true).run Try.prog W = .ok (.tuple #[.string ((m.get n.data.toList).getD ByteArray.empty), .bool (m.get n.data.toList).isSome]) W := by
    intro W hW
    obtain ⟨_, es, clock, h1, h2⟩ := hs.below hW
    exact run_lookup h1 h2 hb
  have ho := fun w => of26 n w hn
  have hk1 := keyL_one n.data.toList
  have hkl := keyL_length n.data.toList
  generalize hN : nameL n.data.toList = nb at *
  generalize hK : keyL n.data.toList = ks at *
  subst hb
  have HO := Lib.hid ho
  have HN := Lib.hid hN
  have HK := Lib.hid hK
  have HK1 := Lib.hid hk1
  have HKL := Lib.hid hkl
  have HS := Lib.hid hs
  clear ho hN hK hk1 hkl hs
  go_enter Try.func13, Try.ntmps13
  go_upto_region 2 with (first | (go_at_call 26; refine (HO.out _).mono ?_; rintro e w1 ⟨rfl, hb⟩) | (refine wpList_store_row rfl 53 (.tmp 6) (.tmp 12) rfl _ rfl 53 ks.toArray _ rfl (heap_alloc_new _ _) (by rw [List.size_toArray, HKL.out]; rfl) (by rw [List.size_toArray, HKL.out]; kernel_rfl) (by simpa using HK1.out) ?_))
  have F := key_laid w w1 zero24 ks.toArray hb
  simp only [zero24, List.replicate] at F
  revert F
  generalize World.setRow _ w1.heap.size ks.toArray = W2
  generalize w1.heap.size = g
  rintro ⟨f1, f2, f3, f4⟩
  have F1 := Lib.hid f1
  clear f1 hb
  have HL := Lib.hid hlook
  clear hlook
  go_upto_region 4 with fail
  obtain ⟨hbk, es, clock, hr, hE⟩ := HS.out.below f2
  have hcb : W2.drew.cell? ⟨b, 0, none⟩ = some (.map (some r)) := by
    show W2.cell? _ = _
    rw [cell_of_row W2 b 0 _ _ _ hbk]; rfl
  have hl := HL.out W2.drew f2.drew
  have HE := Lib.hid hE
  have HR := Lib.hid hr
  have HBK := Lib.hid hbk
  clear hE hr hbk
  refine wp_region_still_lit (by kernel_rfl) (by kernel_rfl) ?_
  change wpStill _ _ W2.drew (fun a' => (Exit.then _ _) .normal a' W2.drew) _ _
  still_step
  still_step
  still_step
  still_step
  refine wpStill_step (fun K hK => ?_)
  refine still_load_row rfl 53 (.tmp 6) rfl g rfl 53 ks.toArray (0, 0) _ F1.out Try.underlying53 rfl (by rw [List.size_toArray, HKL.out]; kernel_rfl) ?_
  refine hK _ ?_
  clear hK K
  repeat still_step
  refine wpStill_nil ?_
  go_wp2
  go_ret2
  exact ⟨rfl, f2.drew⟩

set_option maxHeartbeats 1000000 in
theorem get_none {w : World} {b : Nat} {n : ByteArray} (hs : IsStore w b none []) (hn : n.size ≤ maxLen) (hb : nameL n.data.toList = true) :
    Calls Try.prog 13 #[.pointer (some ⟨b, 0, none⟩), .string n] w (GetPost w [] n.data.toList) := by
  have hlook : ∀ W, (Instr.lookup 49 (.map none) (.agg (keyL n.data.toList).toArray) true).run Try.prog W = .ok (.tuple #[.string ByteArray.empty, .bool false]) W := fun W => run_lookup_nil
  have ho := fun w => of26 n w hn
  have hk1 := keyL_one n.data.toList
  have hkl := keyL_length n.data.toList
  generalize hN : nameL n.data.toList = nb at *
  generalize hK : keyL n.data.toList = ks at *
  subst hb
  have HO := Lib.hid ho
  have HN := Lib.hid hN
  have HK := Lib.hid hK
  have HK1 := Lib.hid hk1
  have HKL := Lib.hid hkl
  have HS := Lib.hid hs
  clear ho hN hK hk1 hkl hs
  go_enter Try.func13, Try.ntmps13
  go_upto_region 2 with (first | (go_at_call 26; refine (HO.out _).mono ?_; rintro e w1 ⟨rfl, hb⟩) | (refine wpList_store_row rfl 53 (.tmp 6) (.tmp 12) rfl _ rfl 53 ks.toArray _ rfl (heap_alloc_new _ _) (by rw [List.size_toArray, HKL.out]; rfl) (by rw [List.size_toArray, HKL.out]; kernel_rfl) (by simpa using HK1.out) ?_))
  have F := key_laid w w1 zero24 ks.toArray hb
  simp only [zero24, List.replicate] at F
  revert F
  generalize World.setRow _ w1.heap.size ks.toArray = W2
  generalize w1.heap.size = g
  rintro ⟨f1, f2, f3, f4⟩
  have F1 := Lib.hid f1
  clear f1 hb
  have HL := Lib.hid hlook
  clear hlook
  go_upto_region 4 with fail
  obtain ⟨hbk, _⟩ := HS.out.below f2
  have hcb : W2.drew.cell? ⟨b, 0, none⟩ = some (.map none) := by
    show W2.cell? _ = _
    rw [cell_of_row W2 b 0 _ _ _ hbk]; rfl
  have hl := HL.out W2.drew
  have HBK := Lib.hid hbk
  clear hbk
  refine wp_region_still_lit (by kernel_rfl) (by kernel_rfl) ?_
  change wpStill _ _ W2.drew (fun a' => (Exit.then _ _) .normal a' W2.drew) _ _
  still_step
  still_step
  still_step
  still_step
  refine wpStill_step (fun K hK => ?_)
  refine still_load_row rfl 53 (.tmp 6) rfl g rfl 53 ks.toArray (0, 0) _ F1.out Try.underlying53 rfl (by rw [List.size_toArray, HKL.out]; kernel_rfl) ?_
  refine hK _ ?_
  clear hK K
  repeat still_step
  refine wpStill_nil ?_
  go_wp2
  go_ret2
  exact ⟨rfl, f2.drew⟩

/-- GET: whatever the store holds. -/
theorem get13 {w : World} {b : Nat} {mo : Option Nat} {m : Files} {n : ByteArray} (hs : IsStore w b mo m) (hn : n.size ≤ maxLen) :
    Calls Try.prog 13 #[.pointer (some ⟨b, 0, none⟩), .string n] w (GetPost w m n.data.toList) := by
  cases hb : nameL n.data.toList with
  | false => exact get_bad hs hn hb
  | true =>
    cases mo with
    | none =>
      obtain rfl : m = [] := hs.2
      exact get_none hs hn hb
    | some r => exact get_some hs hn hb

def DelPost (w : World) (b : Nat) (mo : Option Nat) (m : Files) (n : List UInt8) (e : Ending) (w' : World) : Prop :=
  e = .returned (.bool (m.get n).isSome) ∧ IsStore w' b mo (m.del n) ∧ Only (fun k => mo = some k) w w'

theorem IsStore.del_bad {w : World} {b : Nat} {mo : Option Nat} {m : Files} (h : IsStore w b mo m) {n : List UInt8} (hn : nameL n = false) : m.del n = m :=
  Files.del_none (fun x hx e => by have := h.names x hx; rw [e, hn] at this; cases this)

theorem wpList_del_map {ops : Array Oper} {rest : List Oper} {o : Oper} {a : Act} {w : World} {Q : Exit → Act → World → Prop} (hgd : o.guard = none) (x y : Operand) (ho : o.op = .call { callee := .builtin .delete, args := #[x, y], argTypes := #[49, 53] })
    (r : Nat) (n : List UInt8) (hx : a.eval x = .map (some r)) (hy : a.eval y = keyV n) {es : Array MapEntry} {clock : Nat} {m : Files}
    (hr : w.heap[r]? = some (.map es clock)) (E : EntOf es clock m) (hn : nameL n = true)
    (h : ∀ es', EntOf es' clock (m.del n) → wpList Try.prog ops Q rest (a.put o.dst (.tuple #[])) (setMap w r es' clock)) : wpList Try.prog ops Q (o :: rest) a w := by
  refine wpList_plain hgd fun K hK => ?_
  obtain ⟨es', hrun, E'⟩ := run_delete hr E hn o.type
  unfold Oper.wp
  simp [execOp, ho, resolve, invoke, builtin, hx, hy, hrun, Result.andThen]
  exact hK _ _ (h es' E')

theorem wpList_del_nil {ops : Array Oper} {rest : List Oper} {o : Oper} {a : Act} {w : World} {Q : Exit → Act → World → Prop} (hgd : o.guard = none) (x y : Operand) (ho : o.op = .call { callee := .builtin .delete, args := #[x, y], argTypes := #[49, 53] })
    (n : List UInt8) (hx : a.eval x = .map none) (hy : a.eval y = keyV n)
    (h : wpList Try.prog ops Q rest (a.put o.dst (.tuple #[])) w) : wpList Try.prog ops Q (o :: rest) a w := by
  refine wpList_plain hgd fun K hK => ?_
  have hrun := run_delete_nil (w := w) (n := n) o.type
  unfold Oper.wp
  simp [execOp, ho, resolve, invoke, builtin, hx, hy, hrun, Result.andThen]
  exact hK _ _ h

set_option maxHeartbeats 400000 in
theorem del_bad {w : World} {b : Nat} {mo : Option Nat} {m : Files} {n : ByteArray} (hs : IsStore w b mo m) (hn : n.size ≤ maxLen) (hb : nameL n.data.toList = false) :
    Calls Try.prog 14 #[.pointer (some ⟨b, 0, none⟩), .string n] w (DelPost w b mo m n.data.toList) := by
  have ho := fun w => of26 n w hn
  have hk1 := keyL_one n.data.toList
  have hkl := keyL_length n.data.toList
  generalize hN : nameL n.data.toList = nb at *
  generalize hK : keyL n.data.toList = ks at *
  subst hb
  have HO := Lib.hid ho
  have HN := Lib.hid hN
  have HK := Lib.hid hK
  have HK1 := Lib.hid hk1
  have HKL := Lib.hid hkl
  have HS := Lib.hid hs
  clear ho hN hK hk1 hkl hs
  go_enter Try.func14, Try.ntmps14
  go_upto_region 2 with (first | (go_at_call 26; refine (HO.out _).mono ?_; rintro e w1 ⟨rfl, hb⟩) | (refine wpList_store_row rfl 53 (.tmp 5) (.tmp 12) rfl _ rfl 53 ks.toArray _ rfl (heap_alloc_new _ _) (by rw [List.size_toArray, HKL.out]; rfl) (by rw [List.size_toArray, HKL.out]; kernel_rfl) (by simpa using HK1.out) ?_))
  have F := key_laid w w1 zero24 ks.toArray hb
  simp only [zero24, List.replicate] at F
  revert F
  generalize World.setRow _ w1.heap.size ks.toArray = W2
  generalize w1.heap.size = g
  rintro ⟨f1, f2, f3, f4⟩
  have F1 := Lib.hid f1
  clear f1 hb
  go_wp2
  go_ret
  have := HS.out.get_bad HN.out
  exact ⟨by rw [this]; rfl, by rw [HS.out.del_bad HN.out]; exact HS.out.below f2, Only.of_below f2⟩

theorem del_store {w W2 : World} {b r : Nat} {m : Files} {n : List UInt8} (hs : IsStore w b (some r) m) (f2 : Below w.heap.size w W2) {es' : Array MapEntry} {clock : Nat} (E' : EntOf es' clock (m.del n)) :
    IsStore (setMap W2.drew.drew r es' clock) b (some r) (m.del n) := by
  obtain ⟨h1, es, clock0, h2, _⟩ := hs
  have lt : ∀ {j : Nat} {o : Obj}, w.heap[j]? = some o → j < w.heap.size := fun hj => (Array.getElem?_eq_some_iff.1 hj).1
  have hne : b ≠ r := by rintro rfl; rw [h1] at h2; cases h2
  refine ⟨?_, es', clock, setMap_same ?_, E'⟩
  · rw [setMap_other hne]
    exact (f2.block b (lt h1)).trans h1
  · have := f2.size
    have := lt h2
    show r < W2.heap.size
    omega

theorem del_only {w W2 : World} {b r : Nat} {m : Files} (_hs : IsStore w b (some r) m) (f2 : Below w.heap.size w W2) {es' : Array MapEntry} {clock : Nat} :
    Only (fun k => some r = some k) w (setMap W2.drew.drew r es' clock) :=
  setMap_only (Only.of_below f2).drew.drew _ _ _ (fun _ => rfl)

set_option maxHeartbeats 1000000 in
theorem del_some {w : World} {b r : Nat} {m : Files} {n : ByteArray} (hs : IsStore w b (some r) m) (hn : n.size ≤ maxLen) (hb : nameL n.data.toList = true) :
    Calls Try.prog 14 #[.pointer (some ⟨b, 0, none⟩), .string n] w (DelPost w b (some r) m n.data.toList) := by
  have hlook : ∀ W, Below w.heap.size w W → (Instr.lookup 49 (.map (some r)) (.agg (keyL n.data.toList).toArray) true).run Try.prog W = .ok (.tuple #[.string ((m.get n.data.toList).getD ByteArray.empty), .bool (m.get n.data.toList).isSome]) W := by
    intro W hW
    obtain ⟨_, es, clock, h1, h2⟩ := hs.below hW
    exact run_lookup h1 h2 hb
  have ho := fun w => of26 n w hn
  have hk1 := keyL_one n.data.toList
  have hkl := keyL_length n.data.toList
  generalize hN : nameL n.data.toList = nb at *
  generalize hK : keyL n.data.toList = ks at *
  subst hb
  have HO := Lib.hid ho
  have HN := Lib.hid hN
  have HK := Lib.hid hK
  have HK1 := Lib.hid hk1
  have HKL := Lib.hid hkl
  have HS := Lib.hid hs
  clear ho hN hK hk1 hkl hs
  go_enter Try.func14, Try.ntmps14
  go_upto_region 2 with (first | (go_at_call 26; refine (HO.out _).mono ?_; rintro e w1 ⟨rfl, hb⟩) | (refine wpList_store_row rfl 53 (.tmp 5) (.tmp 12) rfl _ rfl 53 ks.toArray _ rfl (heap_alloc_new _ _) (by rw [List.size_toArray, HKL.out]; rfl) (by rw [List.size_toArray, HKL.out]; kernel_rfl) (by simpa using HK1.out) ?_))
  have F := key_laid w w1 zero24 ks.toArray hb
  simp only [zero24, List.replicate] at F
  revert F
  generalize World.setRow _ w1.heap.size ks.toArray = W2
  generalize w1.heap.size = g
  rintro ⟨f1, f2, f3, f4⟩
  have F1 := Lib.hid f1
  clear f1 hb
  have HL := Lib.hid hlook
  clear hlook
  go_upto_region 4 with fail
  obtain ⟨hbk, es, clock, hr, hE⟩ := HS.out.below f2
  have hcb : W2.drew.cell? ⟨b, 0, none⟩ = some (.map (some r)) := by
    show W2.cell? _ = _
    rw [cell_of_row W2 b 0 _ _ _ hbk]; rfl
  have hl := HL.out W2.drew f2.drew
  have HE := Lib.hid hE
  have HR := Lib.hid hr
  have HBK := Lib.hid hbk
  clear hE hr hbk
  refine wp_region_still_lit (by kernel_rfl) (by kernel_rfl) ?_
  change wpStill _ _ W2.drew (fun a' => (Exit.then _ _) .normal a' W2.drew) _ _
  still_step
  still_step
  still_step
  still_step
  refine wpStill_step (fun K hK => ?_)
  refine still_load_row rfl 53 (.tmp 5) rfl g rfl 53 ks.toArray (0, 0) _ F1.out Try.underlying53 rfl (by rw [List.size_toArray, HKL.out]; kernel_rfl) ?_
  refine hK _ ?_
  clear hK K
  repeat still_step
  refine wpStill_nil ?_
  clear hl
  go_upto_region 5 with fail
  refine wp_region_still_tail 5 (by kernel_rfl) (by kernel_rfl) ?_
  simp only [List.take_succ_cons, List.take_zero, List.drop_succ_cons, List.drop_zero]
  change wpStill _ _ W2.drew.drew (fun a' => wpList _ _ _ _ a' W2.drew.drew) _ _
  have hcb2 : W2.drew.drew.cell? ⟨b, 0, none⟩ = some (.map (some r)) := hcb
  still_step
  still_step
  still_step
  still_step
  refine wpStill_step (fun K hK => ?_)
  refine still_load_row rfl 53 (.tmp 5) rfl g rfl 53 ks.toArray (0, 0) _ F1.out Try.underlying53 rfl (by rw [List.size_toArray, HKL.out]; kernel_rfl) ?_
  refine hK _ ?_
  clear hK K
  refine wpStill_nil ?_
  refine wpList_del_map rfl (.tmp 32) (.tmp 33) rfl r n.data.toList rfl (by rw [keyV, HK.out]; rfl) HR.out HE.out HN.out ?_
  intro es' E'
  go_wp2
  go_ret
  exact ⟨rfl, del_store HS.out f2 E', del_only HS.out f2⟩

set_option maxHeartbeats 1000000 in
theorem del_none {w : World} {b : Nat} {n : ByteArray} (hs : IsStore w b none []) (hn : n.size ≤ maxLen) (hb : nameL n.data.toList = true) :
    Calls Try.prog 14 #[.pointer (some ⟨b, 0, none⟩), .string n] w (DelPost w b none [] n.data.toList) := by
  have hlook : ∀ W, (Instr.lookup 49 (.map none) (.agg (keyL n.data.toList).toArray) true).run Try.prog W = .ok (.tuple #[.string ByteArray.empty, .bool false]) W := fun W => run_lookup_nil
  have ho := fun w => of26 n w hn
  have hk1 := keyL_one n.data.toList
  have hkl := keyL_length n.data.toList
  generalize hN : nameL n.data.toList = nb at *
  generalize hK : keyL n.data.toList = ks at *
  subst hb
  have HO := Lib.hid ho
  have HN := Lib.hid hN
  have HK := Lib.hid hK
  have HK1 := Lib.hid hk1
  have HKL := Lib.hid hkl
  have HS := Lib.hid hs
  clear ho hN hK hk1 hkl hs
  go_enter Try.func14, Try.ntmps14
  go_upto_region 2 with (first | (go_at_call 26; refine (HO.out _).mono ?_; rintro e w1 ⟨rfl, hb⟩) | (refine wpList_store_row rfl 53 (.tmp 5) (.tmp 12) rfl _ rfl 53 ks.toArray _ rfl (heap_alloc_new _ _) (by rw [List.size_toArray, HKL.out]; rfl) (by rw [List.size_toArray, HKL.out]; kernel_rfl) (by simpa using HK1.out) ?_))
  have F := key_laid w w1 zero24 ks.toArray hb
  simp only [zero24, List.replicate] at F
  revert F
  generalize World.setRow _ w1.heap.size ks.toArray = W2
  generalize w1.heap.size = g
  rintro ⟨f1, f2, f3, f4⟩
  have F1 := Lib.hid f1
  clear f1 hb
  have HL := Lib.hid hlook
  clear hlook
  go_upto_region 4 with fail
  obtain ⟨hbk, _⟩ := HS.out.below f2
  have hcb : W2.drew.cell? ⟨b, 0, none⟩ = some (.map none) := by
    show W2.cell? _ = _
    rw [cell_of_row W2 b 0 _ _ _ hbk]; rfl
  have hl := HL.out W2.drew
  have HBK := Lib.hid hbk
  clear hbk
  refine wp_region_still_lit (by kernel_rfl) (by kernel_rfl) ?_
  change wpStill _ _ W2.drew (fun a' => (Exit.then _ _) .normal a' W2.drew) _ _
  still_step
  still_step
  still_step
  still_step
  refine wpStill_step (fun K hK => ?_)
  refine still_load_row rfl 53 (.tmp 5) rfl g rfl 53 ks.toArray (0, 0) _ F1.out Try.underlying53 rfl (by rw [List.size_toArray, HKL.out]; kernel_rfl) ?_
  refine hK _ ?_
  clear hK K
  repeat still_step
  refine wpStill_nil ?_
  clear hl
  go_upto_region 5 with fail
  refine wp_region_still_tail 5 (by kernel_rfl) (by kernel_rfl) ?_
  simp only [List.take_succ_cons, List.take_zero, List.drop_succ_cons, List.drop_zero]
  change wpStill _ _ W2.drew.drew (fun a' => wpList _ _ _ _ a' W2.drew.drew) _ _
  have hcb2 : W2.drew.drew.cell? ⟨b, 0, none⟩ = some (.map none) := hcb
  still_step
  still_step
  still_step
  still_step
  refine wpStill_step (fun K hK => ?_)
  refine still_load_row rfl 53 (.tmp 5) rfl g rfl 53 ks.toArray (0, 0) _ F1.out Try.underlying53 rfl (by rw [List.size_toArray, HKL.out]; kernel_rfl) ?_
  refine hK _ ?_
  clear hK K
  refine wpStill_nil ?_
  refine wpList_del_nil rfl (.tmp 32) (.tmp 33) rfl n.data.toList rfl (by rw [keyV, HK.out]; rfl) ?_
  go_wp2
  go_ret
  exact ⟨rfl, HS.out.below f2.drew.drew, (Only.of_below f2).drew.drew⟩

/-- DELETE: whatever the store holds. -/
theorem del14 {w : World} {b : Nat} {mo : Option Nat} {m : Files} {n : ByteArray} (hs : IsStore w b mo m) (hn : n.size ≤ maxLen) :
    Calls Try.prog 14 #[.pointer (some ⟨b, 0, none⟩), .string n] w (DelPost w b mo m n.data.toList) := by
  cases hb : nameL n.data.toList with
  | false => exact del_bad hs hn hb
  | true =>
    cases mo with
    | none =>
      obtain rfl : m = [] := hs.2
      exact del_none hs hn hb
    | some r => exact del_some hs hn hb
end Go.Proofs.Ytglichmmoibagaa
