/- The walk of StoreLast. -/
import Derived.Test.YtglichmmoibagaaW
import Derived.Test.YtglichmmoibagaaC
namespace Go.Proofs.Ytglichmmoibagaa
open Go.RowKit
open Go.WideShapes (bytes_inj)

theorem own_row {B b g : Nat} {w w1 : World} {m : Files} {o : Obj} (h : Own B w w1 b m) (hg : w.heap[g]? = some o) (hlt : g < B) : w1.heap[g]? = some o := by
  obtain ⟨_, _, _, _, hb, _⟩ := h
  exact (hb.block g hlt).trans hg

theorem boxed {w w1 : World} {o : Obj} (h : Below (w.alloc o).heap.size (w.alloc o) w1) : Below w.heap.size w w1 :=
  ((Below.refl w.heap.size w).alloc (Nat.le_refl _) o).trans (h.mono (by simp))

theorem eqb_true {a b : ByteArray} (h : a = b) : (a.toList == b.toList) = true := by rw [h]; simp
theorem eqb_false {a b : ByteArray} (h : ¬ a = b) : (a.toList == b.toList) = false := by
  rw [beq_eq_false_iff_ne, ByteArray.toList_eq, ByteArray.toList_eq]
  exact fun e => h (bytes_inj e)

theorem ne_list {a b : ByteArray} (h : ¬ a = b) : ¬ a.data.toList = b.data.toList := fun e => h (bytes_inj e)

namespace storeLast

set_option maxHeartbeats 400000 in
theorem guard1 (a b t0 t1 t2 : ByteArray) (wa : a.size ≤ maxLen) (wb : b.size ≤ maxLen) (h1 : 200 < a.size) (w : World) :
    Calls Try.prog 4 #[.string a, .string b, .agg #[.string t0, .string t1, .string t2]] w fun e w' => e = .returned (.bool true) ∧ Below w.heap.size w w' := by
  have hA := name10 a (w.alloc (.cells #[.string t0, .string t1, .string t2] 28)) wa
  have hB := fun w => name10 b w wb
  clear hA hB
  unfold maxLen at wa wb
  go_enter Try.func4, Try.ntmps4
  go_wp2_with fail
  refine (wakes8 _).mono ?_
  rintro e w1 ⟨rfl, hw⟩
  go_wp2
  go_ret
  exact ⟨rfl, boxed hw⟩

set_option maxHeartbeats 400000 in
theorem guard2 (a b t0 t1 t2 : ByteArray) (wa : a.size ≤ maxLen) (wb : b.size ≤ maxLen) (h1 : ¬ 200 < a.size) (h2 : 200 < b.size) (w : World) :
    Calls Try.prog 4 #[.string a, .string b, .agg #[.string t0, .string t1, .string t2]] w fun e w' => e = .returned (.bool true) ∧ Below w.heap.size w w' := by
  have hA := name10 a (w.alloc (.cells #[.string t0, .string t1, .string t2] 28)) wa
  have hB := fun w => name10 b w wb
  clear hA hB
  unfold maxLen at wa wb
  go_enter Try.func4, Try.ntmps4
  go_wp2_with fail
  refine (wakes8 _).mono ?_
  rintro e w1 ⟨rfl, hw⟩
  go_wp2
  go_ret
  exact ⟨rfl, boxed hw⟩

set_option maxHeartbeats 400000 in
theorem guard3 (a b t0 t1 t2 : ByteArray) (wa : a.size ≤ maxLen) (wb : b.size ≤ maxLen) (h1 : ¬ 200 < a.size) (h2 : ¬ 200 < b.size) (h3 : nameL a.data.toList = false) (w : World) :
    Calls Try.prog 4 #[.string a, .string b, .agg #[.string t0, .string t1, .string t2]] w fun e w' => e = .returned (.bool true) ∧ Below w.heap.size w w' := by
  have hA := name10 a (w.alloc (.cells #[.string t0, .string t1, .string t2] 28)) wa
  have hB := fun w => name10 b w wb
  rw [h3] at hA
  have HA := Lib.hid hA
  clear h3
  clear hA hB
  unfold maxLen at wa wb
  go_enter Try.func4, Try.ntmps4
  go_wp2_with fail
  refine HA.out.mono ?_
  rintro e w1 ⟨rfl, rfl⟩
  go_wp2_with fail
  refine (wakes8 _).mono ?_
  rintro e w1 ⟨rfl, hw⟩
  go_wp2
  go_ret
  exact ⟨rfl, boxed hw⟩

set_option maxHeartbeats 400000 in
theorem guard4 (a b t0 t1 t2 : ByteArray) (wa : a.size ≤ maxLen) (wb : b.size ≤ maxLen) (h1 : ¬ 200 < a.size) (h2 : ¬ 200 < b.size) (h3 : nameL a.data.toList = true) (h4 : nameL b.data.toList = false) (w : World) :
    Calls Try.prog 4 #[.string a, .string b, .agg #[.string t0, .string t1, .string t2]] w fun e w' => e = .returned (.bool true) ∧ Below w.heap.size w w' := by
  have hA := name10 a (w.alloc (.cells #[.string t0, .string t1, .string t2] 28)) wa
  have hB := fun w => name10 b w wb
  rw [h3] at hA
  have HA := Lib.hid hA
  clear h3
  rw [h4] at hB
  have HB := Lib.hid hB
  clear h4
  clear hA hB
  unfold maxLen at wa wb
  go_enter Try.func4, Try.ntmps4
  go_wp2_with fail
  refine HA.out.mono ?_
  rintro e w1 ⟨rfl, rfl⟩
  go_wp2_with fail
  refine (HB.out _).mono ?_
  rintro e w1 ⟨rfl, rfl⟩
  go_wp2_with fail
  refine (wakes8 _).mono ?_
  rintro e w1 ⟨rfl, hw⟩
  go_wp2
  go_ret
  exact ⟨rfl, boxed hw⟩

set_option maxHeartbeats 400000 in
theorem guard5 (a b t0 t1 t2 : ByteArray) (wa : a.size ≤ maxLen) (wb : b.size ≤ maxLen) (h1 : ¬ 200 < a.size) (h2 : ¬ 200 < b.size) (h3 : nameL a.data.toList = true) (h4 : nameL b.data.toList = true) (h5 : a = b) (w : World) :
    Calls Try.prog 4 #[.string a, .string b, .agg #[.string t0, .string t1, .string t2]] w fun e w' => e = .returned (.bool true) ∧ Below w.heap.size w w' := by
  have hA := name10 a (w.alloc (.cells #[.string t0, .string t1, .string t2] 28)) wa
  have hB := fun w => name10 b w wb
  rw [h3] at hA
  have HA := Lib.hid hA
  clear h3
  rw [h4] at hB
  have HB := Lib.hid hB
  clear h4
  clear hA hB
  unfold maxLen at wa wb
  have e5 := eqb_true h5
  clear h5
  go_enter Try.func4, Try.ntmps4
  go_wp2_with fail
  refine HA.out.mono ?_
  rintro e w1 ⟨rfl, rfl⟩
  go_wp2_with fail
  refine (HB.out _).mono ?_
  rintro e w1 ⟨rfl, rfl⟩
  go_wp2_with fail
  refine (wakes8 _).mono ?_
  rintro e w1 ⟨rfl, hw⟩
  go_wp2
  go_ret
  exact ⟨rfl, boxed hw⟩

/-- The texts that were gone through are none too long. -/
def Short (t0 t1 t2 : ByteArray) (k : Nat) : Prop := (0 < k → ¬ 131072 < t0.size) ∧ (1 < k → ¬ 131072 < t1.size) ∧ (2 < k → ¬ 131072 < t2.size)

theorem put_ok {m : Files} {n : List UInt8} {t : ByteArray} (hn : nameL n = true) (ht : ¬ 131072 < t.size) (hm : m.length < 64) : putM m n t = m.put n t ∧ putCode m n t = 0 := by
  have hc : putCode m n t = 0 := by
    unfold putCode
    rw [if_neg (by simp [hn]), if_neg ht, if_neg]
    rintro ⟨_, h⟩; omega
  exact ⟨by simp [putM, hc], hc⟩

theorem own_put_ok {B b : Nat} {w w1 : World} {m m' : Files} {n t : ByteArray} (h : Own B w w1 b m) (hn : n.size ≤ maxLen) (ht : t.size ≤ maxLen) (hm : m.length < 64)
    (hnm : nameL n.data.toList = true) (hts : ¬ 131072 < t.size) (hm' : m.put n.data.toList t = m') :
    Calls Try.prog 12 #[.pointer (some ⟨b, 0, none⟩), .string n, .string t] w1 fun e w' => e = .returned (.int .i64 0) ∧ Own B w w' b m' :=
  (own_put h hn ht (by omega)).mono fun e w' ⟨he, ho⟩ => ⟨by rw [he, (put_ok hnm hts hm).2], by rw [(put_ok hnm hts hm).1, hm'] at ho; exact ho⟩

theorem own_get_some {B b : Nat} {w w1 : World} {m : Files} {n t : ByteArray} (h : Own B w w1 b m) (hn : n.size ≤ maxLen) (hg : m.get n.data.toList = some t) :
    Calls Try.prog 13 #[.pointer (some ⟨b, 0, none⟩), .string n] w1 fun e w' => e = .returned (.tuple #[.string t, .bool true]) ∧ Own B w w' b m :=
  (own_get h hn).mono fun e w' ⟨he, ho⟩ => ⟨by rw [he, hg]; rfl, ho⟩

theorem own_get_none {B b : Nat} {w w1 : World} {m : Files} {n : ByteArray} (h : Own B w w1 b m) (hn : n.size ≤ maxLen) (hg : m.get n.data.toList = none) :
    Calls Try.prog 13 #[.pointer (some ⟨b, 0, none⟩), .string n] w1 fun e w' => e = .returned (.tuple #[.string ByteArray.empty, .bool false]) ∧ Own B w w' b m :=
  (own_get h hn).mono fun e w' ⟨he, ho⟩ => ⟨by rw [he, hg]; rfl, ho⟩

theorem own_del_to {B b : Nat} {w w1 : World} {m m' : Files} {n : ByteArray} {x : Bool} (h : Own B w w1 b m) (hn : n.size ≤ maxLen) (hx : (m.get n.data.toList).isSome = x) (hm' : m.del n.data.toList = m') :
    Calls Try.prog 14 #[.pointer (some ⟨b, 0, none⟩), .string n] w1 fun e w' => e = .returned (.bool x) ∧ Own B w w' b m' :=
  (own_del h hn).mono fun e w' ⟨he, ho⟩ => ⟨by rw [he, hx], by rw [← hm']; exact ho⟩

theorem cells3 {w : World} {g : Nat} {t0 t1 t2 : ByteArray} (hg : w.heap[g]? = some (.cells #[.string t0, .string t1, .string t2] 28 (0, 0))) :
    w.cell? ⟨g, 0, none⟩ = some (.string t0) ∧ w.cell? ⟨g, 1, none⟩ = some (.string t1) ∧ w.cell? ⟨g, 2, none⟩ = some (.string t2) :=
  ⟨cell_of_row w g 0 _ _ _ hg, cell_of_row w g 1 _ _ _ hg, cell_of_row w g 2 _ _ _ hg⟩

theorem put2 {x y : List UInt8} {t0 t1 : ByteArray} (h : ¬ x = y) : Files.put [(x, t0)] y t1 = [(x, t0), (y, t1)] := by
  rw [Files.put_new (by simpa using h)]; rfl
theorem put3 {x y : List UInt8} {t0 t1 t2 : ByteArray} (h : ¬ x = y) : Files.put [(x, t0), (y, t1)] x t2 = [(x, t2), (y, t1)] := by
  rw [Files.put_old (j := 0) (u := t0) (by simpa using h) rfl]; rfl
theorem get1 {x : List UInt8} {t : ByteArray} (r : Files) : Files.get ((x, t) :: r) x = some t := by simp [Files.get]
theorem get2 {x y : List UInt8} {t u : ByteArray} (h : ¬ x = y) : Files.get [(x, t), (y, u)] y = some u := by simp [Files.get, h]
theorem get3 {x y : List UInt8} {u : ByteArray} (h : ¬ x = y) : Files.get [(y, u)] x = none := by
  simp [Files.get]; exact fun e => h e.symm
theorem del1 {x y : List UInt8} {t u : ByteArray} (h : ¬ x = y) : Files.del [(x, t), (y, u)] x = [(y, u)] := by
  have : ¬ y = x := fun e => h e.symm
  simp [Files.del, this]
theorem del2 {x y : List UInt8} {u : ByteArray} (h : ¬ x = y) : Files.del [(y, u)] x = [(y, u)] := by
  have : ¬ y = x := fun e => h e.symm
  simp [Files.del, this]

set_option maxHeartbeats 2000000 in
theorem main (a b t0 t1 t2 : ByteArray) (wa : a.size ≤ maxLen) (wb : b.size ≤ maxLen) (l0 : t0.size ≤ maxLen) (l1 : t1.size ≤ maxLen) (l2 : t2.size ≤ maxLen) (h1 : ¬ 200 < a.size) (h2 : ¬ 200 < b.size) (h3 : nameL a.data.toList = true) (h4 : nameL b.data.toList = true) (h5 : ¬ a = b) (w : World) :
    Calls Try.prog 4 #[.string a, .string b, .agg #[.string t0, .string t1, .string t2]] w fun e w' => e = .returned (.bool true) ∧ Below w.heap.size w w' := by
  have hA := name10 a (w.alloc (.cells #[.string t0, .string t1, .string t2] 28)) wa
  have hB := fun w => name10 b w wb
  rw [h3] at hA
  rw [h4] at hB
  have HA := Lib.hid hA
  have HB := Lib.hid hB
  have NA := Lib.hid h3
  have NB := Lib.hid h4
  have NE := Lib.hid (ne_list h5)
  have LA := Lib.hid wa
  have LB := Lib.hid wb
  have L0 := Lib.hid l0
  have L1 := Lib.hid l1
  have L2 := Lib.hid l2
  have hcells : (w.alloc (.cells #[.string t0, .string t1, .string t2] 28)).heap[w.heap.size]? = some (.cells #[.string t0, .string t1, .string t2] 28 (0, 0)) := heap_alloc_new _ _
  have hbx : ∀ w1, Below (w.alloc (.cells #[.string t0, .string t1, .string t2] 28)).heap.size (w.alloc (.cells #[.string t0, .string t1, .string t2] 28)) w1 → Below w.heap.size w w1 := fun w1 => boxed
  have hlt : w.heap.size < (w.alloc (.cells #[.string t0, .string t1, .string t2] 28)).heap.size := by simp
  have e5 := eqb_false h5
  have e1 : decide (200 < (a.size : Int)) = false := by simp; omega
  have e2 : decide (200 < (b.size : Int)) = false := by simp; omega
  clear hA hB h3 h4 h5
  unfold maxLen at wa wb l0 l1 l2
  go_enter Try.func4, Try.ntmps4
  go_upto_region 1 with fail
  revert HA hcells hbx hlt
  generalize w.alloc (.cells #[.string t0, .string t1, .string t2] 28) = W0
  generalize hgg : w.heap.size = g
  intro HA hcells hbx hlt
  have HC := Lib.hid hcells
  have HBX := Lib.hid hbx
  have HGG := Lib.hid hgg
  obtain ⟨c0, c1, c2⟩ := cells3 hcells
  clear hcells hbx hgg
  go_wp2_with fail
  refine HA.out.mono ?_
  rintro e w1 ⟨rfl, rfl⟩
  go_wp2_with fail
  refine (HB.out _).mono ?_
  rintro e w1 ⟨rfl, rfl⟩
  go_wp2_with fail
  go_loop [7] (fun i => ∃ k : Nat, k ≤ 3 ∧ i = .int .i64 k ∧ Short t0 t1 t2 k) (fun i => 3 - (intOf i).toNat)
  case atStart => exact ⟨0, by omega, rfl, by simp [Short]⟩
  case round =>
    obtain ⟨k, hk, rfl, hsh⟩ := hrel
    have HSH := Lib.hid hsh
    clear hsh
    have hk4 : k = 0 ∨ k = 1 ∨ k = 2 ∨ k = 3 := by omega
    rcases hk4 with rfl | rfl | rfl | rfl
    · by_cases hs : 131072 < t0.size
      · have hs' : decide (131072 < (t0.size : Int)) = true := by simp; omega
        go_wp2_with (go_at_call 8; refine (wakes8 _).mono ?_; rintro e w1 ⟨rfl, hw⟩)
        go_ret
        exact ⟨rfl, by rw [HGG.out]; exact HBX.out _ hw⟩
      · have hs' : decide (131072 < (t0.size : Int)) = false := by simp; omega
        have HSN := Lib.hid hs
        clear hs
        go_wp2
        go_round
        case rel => exact ⟨1, by omega, rfl, by have := HSH.out; have := HSN.out; simp [Short] at *; omega⟩
        case measure => simp [intOf]
    · by_cases hs : 131072 < t1.size
      · have hs' : decide (131072 < (t1.size : Int)) = true := by simp; omega
        go_wp2_with (go_at_call 8; refine (wakes8 _).mono ?_; rintro e w1 ⟨rfl, hw⟩)
        go_ret
        exact ⟨rfl, by rw [HGG.out]; exact HBX.out _ hw⟩
      · have hs' : decide (131072 < (t1.size : Int)) = false := by simp; omega
        have HSN := Lib.hid hs
        clear hs
        go_wp2
        go_round
        case rel => exact ⟨2, by omega, rfl, by have := HSH.out; have := HSN.out; simp [Short] at *; omega⟩
        case measure => simp [intOf]
    · by_cases hs : 131072 < t2.size
      · have hs' : decide (131072 < (t2.size : Int)) = true := by simp; omega
        go_wp2_with (go_at_call 8; refine (wakes8 _).mono ?_; rintro e w1 ⟨rfl, hw⟩)
        go_ret
        exact ⟨rfl, by rw [HGG.out]; exact HBX.out _ hw⟩
      · have hs' : decide (131072 < (t2.size : Int)) = false := by simp; omega
        have HSN := Lib.hid hs
        clear hs
        go_wp2
        go_round
        case rel => exact ⟨3, by omega, rfl, by have := HSH.out; have := HSN.out; simp [Short] at *; omega⟩
        case measure => simp [intOf]
    · go_wp2_with fail
      obtain ⟨s0, s1, s2⟩ := HSH.out
      have S0 := Lib.hid (s0 (by omega))
      have S1 := Lib.hid (s1 (by omega))
      have S2 := Lib.hid (s2 (by omega))
      clear s0 s1 s2
      clear c0 c1 c2
      refine (own_new W0).mono ?_
      rintro e w1 ⟨rfl, o1⟩
      have hc := own_row o1 HC.out hlt
      obtain ⟨c0, c1, c2⟩ := cells3 hc
      clear hc
      go_wp2_with fail
      refine (own_put_ok (m' := [(a.data.toList, t0)]) o1 LA.out L0.out (by simp) NA.out S0.out rfl).mono ?_
      rintro e w2 ⟨rfl, o2⟩
      clear o1
      have hc := own_row o2 HC.out hlt
      obtain ⟨c0, c1, c2⟩ := cells3 hc
      clear hc
      go_wp2_with fail
      refine (own_put_ok (m' := [(a.data.toList, t0), (b.data.toList, t1)]) o2 LB.out L1.out (by simp) NB.out S1.out (put2 NE.out)).mono ?_
      rintro e w3 ⟨rfl, o3⟩
      clear o2
      have hc := own_row o3 HC.out hlt
      obtain ⟨c0, c1, c2⟩ := cells3 hc
      clear hc
      go_wp2_with fail
      refine (own_put_ok (m' := [(a.data.toList, t2), (b.data.toList, t1)]) o3 LA.out L2.out (by simp) NA.out S2.out (put3 NE.out)).mono ?_
      rintro e w4 ⟨rfl, o4⟩
      clear o3
      go_wp2_with fail
      refine (own_get_some (t := t2) o4 LA.out (get1 _)).mono ?_
      rintro e w5 ⟨rfl, o5⟩
      clear o4
      go_wp2_with fail
      refine (own_get_some (t := t1) o5 LB.out (get2 NE.out)).mono ?_
      rintro e w6 ⟨rfl, o6⟩
      clear o5
      go_wp2_with fail
      refine (own_del_to (m' := [(b.data.toList, t1)]) (x := true) o6 LA.out (by rw [get1]; rfl) (del1 NE.out)).mono ?_
      rintro e w7 ⟨rfl, o7⟩
      clear o6
      go_wp2_with fail
      refine (own_get_none o7 LA.out (get3 NE.out)).mono ?_
      rintro e w8 ⟨rfl, o8⟩
      clear o7
      go_wp2_with fail
      refine (own_get_some (t := t1) o8 LB.out (get1 _)).mono ?_
      rintro e w9 ⟨rfl, o9⟩
      clear o8
      have hc := own_row o9 HC.out hlt
      obtain ⟨c0, c1, c2⟩ := cells3 hc
      clear hc
      go_wp2_with fail
      refine (own_del_to (m' := [(b.data.toList, t1)]) (x := false) o9 LA.out (by rw [get3 NE.out]; rfl) (del2 NE.out)).mono ?_
      rintro e w10 ⟨rfl, o10⟩
      clear o9
      go_wp2_with fail
      refine (wakes8 _).mono ?_
      rintro e w11 ⟨rfl, hw⟩
      go_wp2
      go_ret
      obtain ⟨_, _, _, _, hb, hB⟩ := o10
      exact ⟨rfl, by rw [HGG.out]; exact HBX.out _ (hb.trans (hw.mono (Nat.le_trans hB hb.size)))⟩

/-- The whole call. -/
theorem walk (a b t0 t1 t2 : ByteArray) (wa : a.size ≤ maxLen) (wb : b.size ≤ maxLen) (l0 : t0.size ≤ maxLen) (l1 : t1.size ≤ maxLen) (l2 : t2.size ≤ maxLen) (w : World) :
    Calls Try.prog 4 #[.string a, .string b, .agg #[.string t0, .string t1, .string t2]] w fun e w' => e = .returned (.bool true) ∧ Below w.heap.size w w' := by
  by_cases h1 : 200 < a.size
  · exact guard1 a b t0 t1 t2 wa wb h1 w
  by_cases h2 : 200 < b.size
  · exact guard2 a b t0 t1 t2 wa wb h1 h2 w
  cases h3 : nameL a.data.toList with
  | false => exact guard3 a b t0 t1 t2 wa wb h1 h2 h3 w
  | true =>
    cases h4 : nameL b.data.toList with
    | false => exact guard4 a b t0 t1 t2 wa wb h1 h2 h3 h4 w
    | true =>
      by_cases h5 : a = b
      · exact guard5 a b t0 t1 t2 wa wb h1 h2 h3 h4 h5 w
      · exact main a b t0 t1 t2 wa wb l0 l1 l2 h1 h2 h3 h4 h5 w
end storeLast
end Go.Proofs.Ytglichmmoibagaa
