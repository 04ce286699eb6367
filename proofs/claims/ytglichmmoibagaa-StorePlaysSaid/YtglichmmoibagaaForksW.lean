/- The walk of StoreForks. -/
import Derived.Test.YtglichmmoibagaaF
import Derived.Test.YtglichmmoibagaaFullW
import Derived.Test.YtglichmmoibagaaLastW
namespace Go.Proofs.Ytglichmmoibagaa
open Go.RowKit
set_option linter.unusedVariables false
open Go.WideShapes (bytes_inj)

/-- Two stores of the call's own, apart. -/
def Own2 (B : Nat) (w w' : World) (x : Nat) (mx : Files) (y : Nat) (my : Files) : Prop :=
  ∃ rx ry, IsStore w' x rx mx ∧ IsStore w' y ry my ∧ x ≠ y ∧ (∀ r, rx = some r → ry ≠ some r) ∧ B ≤ x ∧ B ≤ y ∧ (∀ r, rx = some r → B ≤ r) ∧ (∀ r, ry = some r → B ≤ r) ∧ Below B w w' ∧ B ≤ w.heap.size

theorem Own2.swap {B : Nat} {w w' : World} {x y : Nat} {mx my : Files} (h : Own2 B w w' x mx y my) : Own2 B w w' y my x mx := by
  obtain ⟨rx, ry, h1, h2, h3, h4, h5, h6, h7, h8, h9, h10⟩ := h
  exact ⟨ry, rx, h2, h1, h3.symm, fun r hr hx => h4 r hx hr, h6, h5, h8, h7, h9, h10⟩

theorem IsStore.cells_ne {w : World} {b r : Nat} {mo : Option Nat} {m : Files} {es : Array MapEntry} {clock : Nat} (h : IsStore w b mo m) (hr : w.heap[r]? = some (.map es clock)) : b ≠ r := by
  rintro rfl
  rw [h.1] at hr; cases hr

theorem IsStore.map_at {w : World} {b r : Nat} {mo : Option Nat} {m : Files} (h : IsStore w b mo m) (hr : mo = some r) : ∃ es clock, w.heap[r]? = some (.map es clock) := by
  subst hr
  obtain ⟨_, es, clock, h1, _⟩ := h
  exact ⟨es, clock, h1⟩

theorem IsStore.lt {w : World} {b : Nat} {mo : Option Nat} {m : Files} (h : IsStore w b mo m) : b < w.heap.size := (Array.getElem?_eq_some_iff.1 h.1).1
theorem IsStore.map_lt {w : World} {b r : Nat} {mo : Option Nat} {m : Files} (h : IsStore w b mo m) (hr : mo = some r) : r < w.heap.size := by
  obtain ⟨es, clock, h1⟩ := h.map_at hr
  exact (Array.getElem?_eq_some_iff.1 h1).1

theorem own2_put {B x y : Nat} {w w1 : World} {mx my : Files} {n t : ByteArray} (h : Own2 B w w1 x mx y my) (hn : n.size ≤ maxLen) (ht : t.size ≤ maxLen) (hm : mx.length ≤ 64) :
    Calls Try.prog 12 #[.pointer (some ⟨x, 0, none⟩), .string n, .string t] w1 fun e w' => e = .returned (.int .i64 (putCode mx n.data.toList t)) ∧ Own2 B w w' x (putM mx n.data.toList t) y my := by
  obtain ⟨rx, ry, h1, h2, h3, h4, h5, h6, h7, h8, h9, h10⟩ := h
  refine (put12 h1 hn ht hm).mono fun e w' ⟨rx', he, hs', ho, hmo⟩ => ⟨he, rx', ry, hs', ?_, h3, ?_, h5, h6, ?_, h8, ?_, h10⟩
  · refine h2.only ho ?_ ?_
    · rintro (e1 | e1)
      · exact h3 e1.symm
      · obtain ⟨es, clock, e2⟩ := h1.map_at e1
        exact h2.cells_ne e2 rfl
    · intro r hr
      rintro (e1 | e1)
      · subst e1
        obtain ⟨es, clock, e2⟩ := h2.map_at hr
        exact h1.cells_ne e2 rfl
      · exact h4 r e1 hr
  · intro r e1 e2
    rcases hmo r e1 with h | h
    · exact h4 r h e2
    · have := h2.map_lt e2
      omega
  · intro r e1
    rcases hmo r e1 with h | h
    · exact h7 r h
    · exact Nat.le_trans h10 (Nat.le_trans h9.size h)
  · refine Only.below h9 ho h10 ?_
    rintro i (rfl | h)
    · exact h5
    · exact h7 i h

theorem own2_below {B x y : Nat} {w w1 w2 : World} {mx my : Files} (h : Own2 B w w1 x mx y my) (k : Below w1.heap.size w1 w2) : Own2 B w w2 x mx y my := by
  obtain ⟨rx, ry, h1, h2, h3, h4, h5, h6, h7, h8, h9, h10⟩ := h
  exact ⟨rx, ry, h1.below k, h2.below k, h3, h4, h5, h6, h7, h8, h9.trans (k.mono (Nat.le_trans h10 h9.size)), h10⟩

theorem own2_end {B x y : Nat} {w w1 w2 : World} {mx my : Files} (h : Own2 B w w1 x mx y my) (k : Below w1.heap.size w1 w2) : Below B w w2 := by
  obtain ⟨rx, ry, h1, h2, h3, h4, h5, h6, h7, h8, h9, h10⟩ := h
  exact h9.trans (k.mono (Nat.le_trans h10 h9.size))

theorem own2_get {B x y : Nat} {w w1 : World} {mx my : Files} {n : ByteArray} (h : Own2 B w w1 x mx y my) (hn : n.size ≤ maxLen) :
    Calls Try.prog 13 #[.pointer (some ⟨x, 0, none⟩), .string n] w1 fun e w' => e = .returned (.tuple #[.string ((mx.get n.data.toList).getD ByteArray.empty), .bool (mx.get n.data.toList).isSome]) ∧ Own2 B w w' x mx y my := by
  have h' := h
  obtain ⟨rx, ry, h1, _⟩ := h
  exact (get13 h1 hn).mono fun e w' ⟨he, hw⟩ => ⟨he, own2_below h' hw⟩

theorem own2_del {B x y : Nat} {w w1 : World} {mx my : Files} {n : ByteArray} (h : Own2 B w w1 x mx y my) (hn : n.size ≤ maxLen) :
    Calls Try.prog 14 #[.pointer (some ⟨x, 0, none⟩), .string n] w1 fun e w' => e = .returned (.bool (mx.get n.data.toList).isSome) ∧ Own2 B w w' x (mx.del n.data.toList) y my := by
  obtain ⟨rx, ry, h1, h2, h3, h4, h5, h6, h7, h8, h9, h10⟩ := h
  refine (del14 h1 hn).mono fun e w' ⟨he, hs', ho⟩ => ⟨he, rx, ry, hs', ?_, h3, h4, h5, h6, h7, h8, Only.below h9 ho h10 (fun i h => h7 i h), h10⟩
  refine h2.only ho ?_ ?_
  · intro e1
    obtain ⟨es, clock, e2⟩ := h1.map_at e1
    exact h2.cells_ne e2 rfl
  · intro r hr e1
    exact h4 r e1 hr

theorem own2_names {B x y : Nat} {w w1 : World} {mx my : Files} (h : Own2 B w w1 x mx y my) (hm : mx.length ≤ 64) :
    Calls Try.prog 16 #[.pointer (some ⟨x, 0, none⟩)] w1 fun e w' => ∃ ao cap, e = .returned (.slice ao mx.length cap) ∧ w'.ownsRow w1.heap.size 9 1 (.slice ao mx.length cap) mx.length ((sortN (mx.map (·.1))).map strV) ∧ Own2 B w w' x mx y my := by
  have h' := h
  obtain ⟨rx, ry, h1, _⟩ := h
  refine (names16 h1 hm).mono fun e w' ⟨v, he, hown, hw⟩ => ?_
  have hsh : ∃ ao cap, v = .slice ao mx.length cap := by
    obtain ⟨_, ⟨rfl, h0⟩ | ⟨g, cap, _, rfl, _⟩⟩ := hown
    · exact ⟨none, 0, by rw [h0]⟩
    · exact ⟨_, cap, rfl⟩
  obtain ⟨ao, cap, rfl⟩ := hsh
  exact ⟨ao, cap, he, hown, own2_below h' hw⟩

theorem own_fork {B b : Nat} {w w1 : World} {m : Files} (h : Own B w w1 b m) (hm : m.length ≤ 64) :
    Calls Try.prog 21 #[.pointer (some ⟨b, 0, none⟩)] w1 fun e w' => ∃ x m', e = .returned (.pointer (some ⟨x, 0, none⟩)) ∧ m'.Perm m ∧ Own2 B w w' x m' b m := by
  obtain ⟨mo, hs, hb, hr, hbel, hB⟩ := h
  refine (fork21 hs hm).mono fun e w' ⟨x, r, m', he, hs', hp, hx, hr', hw⟩ => ⟨x, m', he, hp, some r, mo, hs', hs.below hw, ?_, ?_, by have := hbel.size; omega, hb, ?_, hr, hbel.trans (hw.mono (Nat.le_trans hB hbel.size)), hB⟩
  · have := hs.lt; omega
  · intro r2 e1 e2
    cases e1
    have := hs.map_lt e2
    omega
  · intro r2 e1
    cases e1
    have := hbel.size; omega

theorem own2_put_ok {B x y : Nat} {w w1 : World} {mx my mx' : Files} {n t : ByteArray} (h : Own2 B w w1 x mx y my) (hn : n.size ≤ maxLen) (ht : t.size ≤ maxLen) (hm : mx.length < 64)
    (hnm : nameL n.data.toList = true) (hts : ¬ 131072 < t.size) (hm' : mx.put n.data.toList t = mx') :
    Calls Try.prog 12 #[.pointer (some ⟨x, 0, none⟩), .string n, .string t] w1 fun e w' => e = .returned (.int .i64 0) ∧ Own2 B w w' x mx' y my :=
  (own2_put h hn ht (by omega)).mono fun e w' ⟨he, ho⟩ => ⟨by rw [he, (storeLast.put_ok hnm hts hm).2], by rw [(storeLast.put_ok hnm hts hm).1, hm'] at ho; exact ho⟩

theorem own2_get_some {B x y : Nat} {w w1 : World} {mx my : Files} {n t : ByteArray} (h : Own2 B w w1 x mx y my) (hn : n.size ≤ maxLen) (hg : mx.get n.data.toList = some t) :
    Calls Try.prog 13 #[.pointer (some ⟨x, 0, none⟩), .string n] w1 fun e w' => e = .returned (.tuple #[.string t, .bool true]) ∧ Own2 B w w' x mx y my :=
  (own2_get h hn).mono fun e w' ⟨he, ho⟩ => ⟨by rw [he, hg]; rfl, ho⟩

theorem own2_get_none {B x y : Nat} {w w1 : World} {mx my : Files} {n : ByteArray} (h : Own2 B w w1 x mx y my) (hn : n.size ≤ maxLen) (hg : mx.get n.data.toList = none) :
    Calls Try.prog 13 #[.pointer (some ⟨x, 0, none⟩), .string n] w1 fun e w' => e = .returned (.tuple #[.string ByteArray.empty, .bool false]) ∧ Own2 B w w' x mx y my :=
  (own2_get h hn).mono fun e w' ⟨he, ho⟩ => ⟨by rw [he, hg]; rfl, ho⟩

theorem own2_del_to {B x y : Nat} {w w1 : World} {mx my mx' : Files} {n : ByteArray} {z : Bool} (h : Own2 B w w1 x mx y my) (hn : n.size ≤ maxLen) (hx : (mx.get n.data.toList).isSome = z) (hm' : mx.del n.data.toList = mx') :
    Calls Try.prog 14 #[.pointer (some ⟨x, 0, none⟩), .string n] w1 fun e w' => e = .returned (.bool z) ∧ Own2 B w w' x mx' y my :=
  (own2_del h hn).mono fun e w' ⟨he, ho⟩ => ⟨by rw [he, hx], by rw [← hm']; exact ho⟩

theorem own2_row {B x y g : Nat} {w w1 : World} {mx my : Files} {o : Obj} (h : Own2 B w w1 x mx y my) (hg : w.heap[g]? = some o) (hlt : g < B) : w1.heap[g]? = some o := by
  obtain ⟨_, _, _, _, _, _, _, _, _, _, hb, _⟩ := h
  exact (hb.block g hlt).trans hg

theorem array2 {α : Type} {cs : Array α} (h : cs.size = 2) : ∃ c0 c1, cs = #[c0, c1] := by
  obtain ⟨l⟩ := cs
  match l, h with
  | [a, b], _ => exact ⟨a, b, rfl⟩

namespace storeForks
theorem cells2 {w : World} {g : Nat} {t0 t1 : ByteArray} (hg : w.heap[g]? = some (.cells #[.string t0, .string t1] 47 (0, 0))) :
    w.cell? ⟨g, 0, none⟩ = some (.string t0) ∧ w.cell? ⟨g, 1, none⟩ = some (.string t1) :=
  ⟨cell_of_row w g 0 _ _ _ hg, cell_of_row w g 1 _ _ _ hg⟩

set_option maxHeartbeats 400000 in
theorem guard1 (a b t0 t1 : ByteArray) (wa : a.size ≤ maxLen) (wb : b.size ≤ maxLen) (l0 : t0.size ≤ maxLen) (l1 : t1.size ≤ maxLen) (h1 : 200 < a.size) (w : World) :
    Calls Try.prog 7 #[.string a, .string b, .agg #[.string t0, .string t1]] w fun e w' => e = .returned (.bool true) ∧ Below w.heap.size w w' := by
  have hA := name10 a (w.alloc (.cells #[.string t0, .string t1] 47)) wa
  have hB := fun w => name10 b w wb
  clear hA hB
  unfold maxLen at wa wb l0 l1
  go_enter Try.func7, Try.ntmps7
  go_wp2_with fail
  refine (wakes8 _).mono ?_
  rintro e w1 ⟨rfl, hw⟩
  go_wp2
  go_ret
  exact ⟨rfl, boxed hw⟩

set_option maxHeartbeats 400000 in
theorem guard2 (a b t0 t1 : ByteArray) (wa : a.size ≤ maxLen) (wb : b.size ≤ maxLen) (l0 : t0.size ≤ maxLen) (l1 : t1.size ≤ maxLen) (h1 : ¬ 200 < a.size) (h2 : 200 < b.size) (w : World) :
    Calls Try.prog 7 #[.string a, .string b, .agg #[.string t0, .string t1]] w fun e w' => e = .returned (.bool true) ∧ Below w.heap.size w w' := by
  have hA := name10 a (w.alloc (.cells #[.string t0, .string t1] 47)) wa
  have hB := fun w => name10 b w wb
  clear hA hB
  unfold maxLen at wa wb l0 l1
  go_enter Try.func7, Try.ntmps7
  go_wp2_with fail
  refine (wakes8 _).mono ?_
  rintro e w1 ⟨rfl, hw⟩
  go_wp2
  go_ret
  exact ⟨rfl, boxed hw⟩

set_option maxHeartbeats 400000 in
theorem guard3 (a b t0 t1 : ByteArray) (wa : a.size ≤ maxLen) (wb : b.size ≤ maxLen) (l0 : t0.size ≤ maxLen) (l1 : t1.size ≤ maxLen) (h1 : ¬ 200 < a.size) (h2 : ¬ 200 < b.size) (h3 : nameL a.data.toList = false) (w : World) :
    Calls Try.prog 7 #[.string a, .string b, .agg #[.string t0, .string t1]] w fun e w' => e = .returned (.bool true) ∧ Below w.heap.size w w' := by
  have hA := name10 a (w.alloc (.cells #[.string t0, .string t1] 47)) wa
  have hB := fun w => name10 b w wb
  rw [h3] at hA
  have HA := Lib.hid hA
  have NA := Lib.hid h3
  clear h3
  clear hA hB
  unfold maxLen at wa wb l0 l1
  go_enter Try.func7, Try.ntmps7
  go_wp2_with fail
  refine HA.out.mono ?_
  rintro e w1 ⟨rfl, rfl⟩
  go_wp2_with fail
  refine (wakes8 _).mono ?_
  rintro e w1 ⟨rfl, hw⟩
  go_wp2
  go_ret
  exact ⟨rfl, boxed hw⟩

set_option maxHeartbeats 400000 in
theorem guard4 (a b t0 t1 : ByteArray) (wa : a.size ≤ maxLen) (wb : b.size ≤ maxLen) (l0 : t0.size ≤ maxLen) (l1 : t1.size ≤ maxLen) (h1 : ¬ 200 < a.size) (h2 : ¬ 200 < b.size) (h3 : nameL a.data.toList = true) (h4 : nameL b.data.toList = false) (w : World) :
    Calls Try.prog 7 #[.string a, .string b, .agg #[.string t0, .string t1]] w fun e w' => e = .returned (.bool true) ∧ Below w.heap.size w w' := by
  have hA := name10 a (w.alloc (.cells #[.string t0, .string t1] 47)) wa
  have hB := fun w => name10 b w wb
  rw [h3] at hA
  have HA := Lib.hid hA
  have NA := Lib.hid h3
  clear h3
  rw [h4] at hB
  have HB := Lib.hid hB
  have NB := Lib.hid h4
  clear h4
  clear hA hB
  unfold maxLen at wa wb l0 l1
  go_enter Try.func7, Try.ntmps7
  go_wp2_with fail
  refine HA.out.mono ?_
  rintro e w1 ⟨rfl, rfl⟩
  go_wp2_with fail
  refine (HB.out _).mono ?_
  rintro e w1 ⟨rfl, rfl⟩
  go_wp2_with fail
  refine (wakes8 _).mono ?_
  rintro e w1 ⟨rfl, hw⟩
  go_wp2
  go_ret
  exact ⟨rfl, boxed hw⟩

set_option maxHeartbeats 400000 in
theorem guard5 (a b t0 t1 : ByteArray) (wa : a.size ≤ maxLen) (wb : b.size ≤ maxLen) (l0 : t0.size ≤ maxLen) (l1 : t1.size ≤ maxLen) (h1 : ¬ 200 < a.size) (h2 : ¬ 200 < b.size) (h3 : nameL a.data.toList = true) (h4 : nameL b.data.toList = true) (h5 : 131072 < t0.size) (w : World) :
    Calls Try.prog 7 #[.string a, .string b, .agg #[.string t0, .string t1]] w fun e w' => e = .returned (.bool true) ∧ Below w.heap.size w w' := by
  have hA := name10 a (w.alloc (.cells #[.string t0, .string t1] 47)) wa
  have hB := fun w => name10 b w wb
  rw [h3] at hA
  have HA := Lib.hid hA
  have NA := Lib.hid h3
  clear h3
  rw [h4] at hB
  have HB := Lib.hid hB
  have NB := Lib.hid h4
  clear h4
  clear hA hB
  unfold maxLen at wa wb l0 l1
  go_enter Try.func7, Try.ntmps7
  go_wp2_with fail
  refine HA.out.mono ?_
  rintro e w1 ⟨rfl, rfl⟩
  go_wp2_with fail
  refine (HB.out _).mono ?_
  rintro e w1 ⟨rfl, rfl⟩
  go_wp2_with fail
  refine (wakes8 _).mono ?_
  rintro e w1 ⟨rfl, hw⟩
  go_wp2
  go_ret
  exact ⟨rfl, boxed hw⟩

set_option maxHeartbeats 400000 in
theorem guard6 (a b t0 t1 : ByteArray) (wa : a.size ≤ maxLen) (wb : b.size ≤ maxLen) (l0 : t0.size ≤ maxLen) (l1 : t1.size ≤ maxLen) (h1 : ¬ 200 < a.size) (h2 : ¬ 200 < b.size) (h3 : nameL a.data.toList = true) (h4 : nameL b.data.toList = true) (h5 : ¬ 131072 < t0.size) (h6 : 131072 < t1.size) (w : World) :
    Calls Try.prog 7 #[.string a, .string b, .agg #[.string t0, .string t1]] w fun e w' => e = .returned (.bool true) ∧ Below w.heap.size w w' := by
  have hA := name10 a (w.alloc (.cells #[.string t0, .string t1] 47)) wa
  have hB := fun w => name10 b w wb
  rw [h3] at hA
  have HA := Lib.hid hA
  have NA := Lib.hid h3
  clear h3
  rw [h4] at hB
  have HB := Lib.hid hB
  have NB := Lib.hid h4
  clear h4
  clear hA hB
  unfold maxLen at wa wb l0 l1
  go_enter Try.func7, Try.ntmps7
  go_wp2_with fail
  refine HA.out.mono ?_
  rintro e w1 ⟨rfl, rfl⟩
  go_wp2_with fail
  refine (HB.out _).mono ?_
  rintro e w1 ⟨rfl, rfl⟩
  go_wp2_with fail
  refine (wakes8 _).mono ?_
  rintro e w1 ⟨rfl, hw⟩
  go_wp2
  go_ret
  exact ⟨rfl, boxed hw⟩

theorem perm1 {x : List UInt8 × ByteArray} {m : Files} (h : m.Perm [x]) : m = [x] := List.perm_singleton.1 h

theorem put_same {x y : List UInt8} {t0 t1 : ByteArray} (h : x = y) : Files.put [(x, t0)] y t1 = [(x, t1)] := by
  subst h
  rw [Files.put_old (j := 0) (u := t0) (by simp) rfl]; rfl
theorem get_same {x y : List UInt8} {t : ByteArray} (h : x = y) : Files.get [(x, t)] y = some t := by
  subst h
  exact storeLast.get1 _

set_option maxHeartbeats 2000000 in
theorem main_same (a b t0 t1 : ByteArray) (wa : a.size ≤ maxLen) (wb : b.size ≤ maxLen) (l0 : t0.size ≤ maxLen) (l1 : t1.size ≤ maxLen) (h1 : ¬ 200 < a.size) (h2 : ¬ 200 < b.size) (h3 : nameL a.data.toList = true) (h4 : nameL b.data.toList = true) (h5 : ¬ 131072 < t0.size) (h6 : ¬ 131072 < t1.size) (h7 : a = b) (w : World) :
    Calls Try.prog 7 #[.string a, .string b, .agg #[.string t0, .string t1]] w fun e w' => e = .returned (.bool true) ∧ Below w.heap.size w w' := by
  have hA := name10 a (w.alloc (.cells #[.string t0, .string t1] 47)) wa
  have hB := fun w => name10 b w wb
  rw [h3] at hA
  rw [h4] at hB
  have HA := Lib.hid hA
  have HB := Lib.hid hB
  have NA := Lib.hid h3
  have NB := Lib.hid h4
  have S0 := Lib.hid h5
  have S1 := Lib.hid h6
  have LA := Lib.hid wa
  have LB := Lib.hid wb
  have L0 := Lib.hid l0
  have L1 := Lib.hid l1
  have e7 := eqb_true h7
  have NE := Lib.hid (congrArg (fun z : ByteArray => z.data.toList) h7)
  have hcells : (w.alloc (.cells #[.string t0, .string t1] 47)).heap[w.heap.size]? = some (.cells #[.string t0, .string t1] 47 (0, 0)) := heap_alloc_new _ _
  have hbx : ∀ w1, Below (w.alloc (.cells #[.string t0, .string t1] 47)).heap.size (w.alloc (.cells #[.string t0, .string t1] 47)) w1 → Below w.heap.size w w1 := fun w1 => boxed
  have hlt : w.heap.size < (w.alloc (.cells #[.string t0, .string t1] 47)).heap.size := by simp
  clear hA hB h3 h4 h7
  unfold maxLen at wa wb l0 l1
  go_enter Try.func7, Try.ntmps7
  go_upto_region 1 with fail
  revert HA hcells hbx hlt
  generalize w.alloc (.cells #[.string t0, .string t1] 47) = W0
  generalize hgg : w.heap.size = g
  intro HA hcells hbx hlt
  have HC := Lib.hid hcells
  have HBX := Lib.hid hbx
  have HGG := Lib.hid hgg
  obtain ⟨c0, c1⟩ := cells2 hcells
  clear hcells hbx hgg
  go_wp2_with fail
  refine HA.out.mono ?_
  rintro e w1 ⟨rfl, rfl⟩
  go_wp2_with fail
  refine (HB.out _).mono ?_
  rintro e w1 ⟨rfl, rfl⟩
  go_wp2_with fail
  refine (own_new W0).mono ?_
  rintro e w1 ⟨rfl, o1⟩
  have hc := own_row o1 HC.out hlt
  clear c0 c1
  obtain ⟨c0, c1⟩ := cells2 hc
  clear hc
  go_wp2_with fail
  refine (storeLast.own_put_ok (m' := [(a.data.toList, t0)]) o1 LA.out L0.out (by simp) NA.out S0.out rfl).mono ?_
  rintro e w2 ⟨rfl, o2⟩
  clear o1
  have hc := own_row o2 HC.out hlt
  clear c0 c1
  obtain ⟨c0, c1⟩ := cells2 hc
  clear hc
  go_wp2_with fail
  refine (own_fork o2 (by simp)).mono ?_
  rintro e w3 ⟨x, m', rfl, hp, o3⟩
  have hm' := perm1 hp
  subst hm'
  clear o2 hp
  have hc := own2_row o3 HC.out hlt
  clear c0 c1
  obtain ⟨c0, c1⟩ := cells2 hc
  clear hc
  go_wp2_with fail
  refine (own2_put_ok (mx' := [(a.data.toList, t1)]) o3 LB.out L1.out (by simp) NB.out S1.out (put_same NE.out)).mono ?_
  rintro e w4 ⟨rfl, o4⟩
  clear o3
  have hc := own2_row o4 HC.out hlt
  clear c0 c1
  obtain ⟨c0, c1⟩ := cells2 hc
  clear hc
  go_wp2_with fail
  refine (own2_del_to (mx' := []) (z := true) o4.swap LA.out (by rw [storeLast.get1]; rfl) (by simp [Files.del])).mono ?_
  rintro e w5 ⟨rfl, o5⟩
  clear o4
  have hc := own2_row o5 HC.out hlt
  clear c0 c1
  obtain ⟨c0, c1⟩ := cells2 hc
  clear hc
  go_wp2_with fail
  refine (own2_get_some (t := t1) o5.swap LA.out (storeLast.get1 _)).mono ?_
  rintro e w6 ⟨rfl, o6⟩
  clear o5
  go_wp2_with fail
  refine (own2_get_some (t := t1) o6 LB.out (get_same NE.out)).mono ?_
  rintro e w7 ⟨rfl, o7⟩
  clear o6
  go_wp2_with fail
  refine (own2_get_none o7.swap LB.out rfl).mono ?_
  rintro e w8 ⟨rfl, o8⟩
  clear o7
  have hc := own2_row o8 HC.out hlt
  clear c0 c1
  obtain ⟨c0, c1⟩ := cells2 hc
  clear hc
  go_wp2_with fail
  refine (own2_names o8 (by simp)).mono ?_
  rintro e w9 ⟨ao, cap, rfl, _, o9⟩
  clear o8
  go_wp2_with fail
  refine (wakes8 _).mono ?_
  rintro e w10 ⟨rfl, hw⟩
  go_wp2
  go_ret
  exact ⟨rfl, by rw [HGG.out]; exact HBX.out _ (own2_end o9 hw)⟩

set_option maxHeartbeats 2000000 in
theorem main_other (a b t0 t1 : ByteArray) (wa : a.size ≤ maxLen) (wb : b.size ≤ maxLen) (l0 : t0.size ≤ maxLen) (l1 : t1.size ≤ maxLen) (h1 : ¬ 200 < a.size) (h2 : ¬ 200 < b.size) (h3 : nameL a.data.toList = true) (h4 : nameL b.data.toList = true) (h5 : ¬ 131072 < t0.size) (h6 : ¬ 131072 < t1.size) (h7 : ¬ a = b) (w : World) :
    Calls Try.prog 7 #[.string a, .string b, .agg #[.string t0, .string t1]] w fun e w' => e = .returned (.bool true) ∧ Below w.heap.size w w' := by
  have hA := name10 a (w.alloc (.cells #[.string t0, .string t1] 47)) wa
  have hB := fun w => name10 b w wb
  rw [h3] at hA
  rw [h4] at hB
  have HA := Lib.hid hA
  have HB := Lib.hid hB
  have NA := Lib.hid h3
  have NB := Lib.hid h4
  have S0 := Lib.hid h5
  have S1 := Lib.hid h6
  have LA := Lib.hid wa
  have LB := Lib.hid wb
  have L0 := Lib.hid l0
  have L1 := Lib.hid l1
  have e7 := eqb_false h7
  have NE := Lib.hid (ne_list h7)
  have hcells : (w.alloc (.cells #[.string t0, .string t1] 47)).heap[w.heap.size]? = some (.cells #[.string t0, .string t1] 47 (0, 0)) := heap_alloc_new _ _
  have hbx : ∀ w1, Below (w.alloc (.cells #[.string t0, .string t1] 47)).heap.size (w.alloc (.cells #[.string t0, .string t1] 47)) w1 → Below w.heap.size w w1 := fun w1 => boxed
  have hlt : w.heap.size < (w.alloc (.cells #[.string t0, .string t1] 47)).heap.size := by simp
  clear hA hB h3 h4 h7
  unfold maxLen at wa wb l0 l1
  go_enter Try.func7, Try.ntmps7
  go_upto_region 1 with fail
  revert HA hcells hbx hlt
  generalize w.alloc (.cells #[.string t0, .string t1] 47) = W0
  generalize hgg : w.heap.size = g
  intro HA hcells hbx hlt
  have HC := Lib.hid hcells
  have HBX := Lib.hid hbx
  have HGG := Lib.hid hgg
  obtain ⟨c0, c1⟩ := cells2 hcells
  clear hcells hbx hgg
  go_wp2_with fail
  refine HA.out.mono ?_
  rintro e w1 ⟨rfl, rfl⟩
  go_wp2_with fail
  refine (HB.out _).mono ?_
  rintro e w1 ⟨rfl, rfl⟩
  go_wp2_with fail
  refine (own_new W0).mono ?_
  rintro e w1 ⟨rfl, o1⟩
  have hc := own_row o1 HC.out hlt
  clear c0 c1
  obtain ⟨c0, c1⟩ := cells2 hc
  clear hc
  go_wp2_with fail
  refine (storeLast.own_put_ok (m' := [(a.data.toList, t0)]) o1 LA.out L0.out (by simp) NA.out S0.out rfl).mono ?_
  rintro e w2 ⟨rfl, o2⟩
  clear o1
  have hc := own_row o2 HC.out hlt
  clear c0 c1
  obtain ⟨c0, c1⟩ := cells2 hc
  clear hc
  go_wp2_with fail
  refine (own_fork o2 (by simp)).mono ?_
  rintro e w3 ⟨x, m', rfl, hp, o3⟩
  have hm' := perm1 hp
  subst hm'
  clear o2 hp
  have hc := own2_row o3 HC.out hlt
  clear c0 c1
  obtain ⟨c0, c1⟩ := cells2 hc
  clear hc
  go_wp2_with fail
  refine (own2_put_ok (mx' := [(a.data.toList, t0), (b.data.toList, t1)]) o3 LB.out L1.out (by simp) NB.out S1.out (storeLast.put2 NE.out)).mono ?_
  rintro e w4 ⟨rfl, o4⟩
  clear o3
  have hc := own2_row o4 HC.out hlt
  clear c0 c1
  obtain ⟨c0, c1⟩ := cells2 hc
  clear hc
  go_wp2_with fail
  refine (own2_del_to (mx' := []) (z := true) o4.swap LA.out (by rw [storeLast.get1]; rfl) (by simp [Files.del])).mono ?_
  rintro e w5 ⟨rfl, o5⟩
  clear o4
  have hc := own2_row o5 HC.out hlt
  clear c0 c1
  obtain ⟨c0, c1⟩ := cells2 hc
  clear hc
  go_wp2_with fail
  refine (own2_get_some (t := t0) o5.swap LA.out (storeLast.get1 _)).mono ?_
  rintro e w6 ⟨rfl, o6⟩
  clear o5
  go_wp2_with fail
  refine (own2_get_some (t := t1) o6 LB.out (storeLast.get2 NE.out)).mono ?_
  rintro e w7 ⟨rfl, o7⟩
  clear o6
  go_wp2_with fail
  refine (own2_get_none o7.swap LB.out rfl).mono ?_
  rintro e w8 ⟨rfl, o8⟩
  clear o7
  have hc := own2_row o8 HC.out hlt
  clear c0 c1
  obtain ⟨c0, c1⟩ := cells2 hc
  clear hc
  go_wp2_with fail
  refine (own2_names o8 (by simp)).mono ?_
  rintro e w9 ⟨ao, cap, rfl, _, o9⟩
  clear o8
  go_wp2_with fail
  refine (wakes8 _).mono ?_
  rintro e w10 ⟨rfl, hw⟩
  go_wp2
  go_ret
  exact ⟨rfl, by rw [HGG.out]; exact HBX.out _ (own2_end o9 hw)⟩

/-- The whole call. -/
theorem walk (a b t0 t1 : ByteArray) (wa : a.size ≤ maxLen) (wb : b.size ≤ maxLen) (l0 : t0.size ≤ maxLen) (l1 : t1.size ≤ maxLen) (w : World) :
    Calls Try.prog 7 #[.string a, .string b, .agg #[.string t0, .string t1]] w fun e w' => e = .returned (.bool true) ∧ Below w.heap.size w w' := by
  by_cases h1 : 200 < a.size
  · exact guard1 a b t0 t1 wa wb l0 l1 h1 w
  by_cases h2 : 200 < b.size
  · exact guard2 a b t0 t1 wa wb l0 l1 h1 h2 w
  cases h3 : nameL a.data.toList with
  | false => exact guard3 a b t0 t1 wa wb l0 l1 h1 h2 h3 w
  | true =>
    cases h4 : nameL b.data.toList with
    | false => exact guard4 a b t0 t1 wa wb l0 l1 h1 h2 h3 h4 w
    | true =>
      by_cases h5 : 131072 < t0.size
      · exact guard5 a b t0 t1 wa wb l0 l1 h1 h2 h3 h4 h5 w
      by_cases h6 : 131072 < t1.size
      · exact guard6 a b t0 t1 wa wb l0 l1 h1 h2 h3 h4 h5 h6 w
      by_cases h7 : a = b
      · exact main_same a b t0 t1 wa wb l0 l1 h1 h2 h3 h4 h5 h6 h7 w
      · exact main_other a b t0 t1 wa wb l0 l1 h1 h2 h3 h4 h5 h6 h7 w
end storeForks
end Go.Proofs.Ytglichmmoibagaa
