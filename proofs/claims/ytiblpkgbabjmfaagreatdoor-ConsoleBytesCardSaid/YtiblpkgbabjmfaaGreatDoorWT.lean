/- The contract of the reference's Parse: a line's command, or none. -/
import Derived.Test.YtiblpkgbabjmfaaGreatDoorWS
import Derived.BigRegion
namespace Go.Proofs.YtiblpkgbabjmfaaGreatDoor
open Go.RowKit

theorem bytes2 {ws : List ByteArray} {a b : List UInt8} (h : bytesL ws = [a, b]) : ∃ x y, ws = [x, y] ∧ x.data.toList = a ∧ y.data.toList = b := by
  match ws, h with
  | [x, y], h => simp [bytesL] at h; exact ⟨x, y, rfl, h.1, h.2⟩
theorem bytes3 {ws : List ByteArray} {a b c : List UInt8} (h : bytesL ws = [a, b, c]) : ∃ x y z, ws = [x, y, z] ∧ x.data.toList = a ∧ y.data.toList = b ∧ z.data.toList = c := by
  match ws, h with
  | [x, y, z], h => simp [bytesL] at h; exact ⟨x, y, z, rfl, h.1, h.2.1, h.2.2⟩
theorem bytes4 {ws : List ByteArray} {a b c d : List UInt8} (h : bytesL ws = [a, b, c, d]) : ∃ x y z u, ws = [x, y, z, u] ∧ x.data.toList = a ∧ y.data.toList = b ∧ z.data.toList = c ∧ u.data.toList = d := by
  match ws, h with
  | [x, y, z, u], h => simp [bytesL] at h; exact ⟨x, y, z, u, rfl, h.1, h.2.1, h.2.2.1, h.2.2.2⟩
theorem bytes_cons {ws : List ByteArray} {a : List UInt8} {r : List (List UInt8)} (h : bytesL ws = a :: r) : ∃ x ys, ws = x :: ys ∧ x.data.toList = a ∧ ys.length = r.length := by
  match ws, h with
  | x :: ys, h => simp [bytesL] at h; exact ⟨x, ys, rfl, h.1, by rw [← h.2]; simp⟩

/-- A struct that lies below stays as it is when another block is written. -/
theorem heap_far {W : World} {b b' j : Nat} {v : Value} (h : b < b') : (W.setCell ⟨b', j, none⟩ v).heap[b]? = W.heap[b]? := Go.heap_setCell_other _ _ _ _ (by show b ≠ b'; omega)

theorem heap_drew (W : World) (b : Nat) : W.drew.heap[b]? = W.heap[b]? := rfl
theorem arr_of {x : ByteArray} {l : List UInt8} (h : x.data.toList = l) : (⟨l.toArray⟩ : ByteArray) = x := by subst h; rfl

theorem lt_of_heap {W : World} {b : Nat} {o : Obj} (h : W.heap[b]? = some o) : b < W.heap.size := (Array.getElem?_eq_some_iff.1 h).1

/-- Behind a call: the struct at hand, the result's block, what was there. -/
theorem two_later {w W1 W2 : World} {cs zs : Array Value} (f0 : W1.heap[w.heap.size]? = some (.cells zs 26 (0, 0))) (f2 : Below w.heap.size w W1)
    (b : Below (W1.alloc (.cells cs 26)).drew.heap.size (W1.alloc (.cells cs 26)).drew W2) : W2.heap[w.heap.size]? = some (.cells zs 26 (0, 0)) ∧ W2.heap[W1.heap.size]? = some (.cells cs 26 (0, 0)) ∧ Below w.heap.size w W2 ∧ w.heap.size < W1.heap.size := by
  obtain ⟨g1, g2⟩ := blk_below b
  exact ⟨(g2.block _ (lt_of_heap f0)).trans f0, g1, below_after f2 g2, lt_of_heap f0⟩
theorem two_later' {w W1 W2 : World} {cs zs : Array Value} (f0 : W1.heap[w.heap.size]? = some (.cells zs 26 (0, 0))) (f2 : Below w.heap.size w W1)
    (b : Below (W1.alloc (.cells cs 26)).heap.size (W1.alloc (.cells cs 26)) W2) : W2.heap[w.heap.size]? = some (.cells zs 26 (0, 0)) ∧ W2.heap[W1.heap.size]? = some (.cells cs 26 (0, 0)) ∧ Below w.heap.size w W2 ∧ w.heap.size < W1.heap.size := by
  obtain ⟨g1, g2⟩ := blk_below' b
  exact ⟨(g2.block _ (lt_of_heap f0)).trans f0, g1, below_after f2 g2, lt_of_heap f0⟩
theorem two_on {w W2 W3 : World} {g : Nat} {cs zs : Array Value} (f0 : W2.heap[w.heap.size]? = some (.cells zs 26 (0, 0))) (f1 : W2.heap[g]? = some (.cells cs 26 (0, 0))) (f2 : Below w.heap.size w W2) (b : Below W2.heap.size W2 W3) :
    W3.heap[w.heap.size]? = some (.cells zs 26 (0, 0)) ∧ W3.heap[g]? = some (.cells cs 26 (0, 0)) ∧ Below w.heap.size w W3 :=
  ⟨(b.block _ (lt_of_heap f0)).trans f0, (b.block _ (lt_of_heap f1)).trans f1, below_after f2 b⟩
theorem below_set2 {w W : World} {g j : Nat} {v : Value} (hg : w.heap.size < g) (h : Below w.heap.size w W) : Below w.heap.size w (W.setCell ⟨g, j, none⟩ v) := h.setCell (Nat.le_of_lt hg) _

set_option maxRecDepth 100000 in
set_option maxHeartbeats 4000000 in
theorem ref_write (s : ByteArray) (n t : List UInt8) (w : World) (hs : s.size ≤ 999999) (hc : cutL s.data.toList = [wWrite, n, t]) :
    Calls Tryz.prog 9 #[.string s] w (CmdPost w (parseL s.data.toList)) := by
  have hp : parseL s.data.toList = parseW [wWrite, n, t] := by unfold parseL; rw [hc]
  have HC := Lib.hid hc
  have HP := Lib.hid hp
  clear hc hp
  go_enter Tryz.func9, Tryz.ntmps9
  go_wp2_with fail
  go_at_call 17
  refine (cut17 s _ (by omega)).mono ?_
  rintro e W1 ⟨v, ws, rfl, hown, hcut, b1⟩
  obtain ⟨f1, f2⟩ := blk_below' b1
  obtain ⟨k1, _, k3⟩ := cut_words hcut hs
  obtain ⟨g, cap, rfl, hrow⟩ := row_of hown k1
  rw [HC.out] at hcut
  obtain ⟨a, n', t', rfl, ha, hn, ht⟩ := bytes3 hcut
  have hsz := k3 t' (by simp)
  have hnz := k3 n' (by simp)
  clear k3 hcut
  have e0 : (a.toList == [119, 114, 105, 116, 101]) = true := by rw [word_eq, ha]; decide
  have e1 : (a.toList == [100, 101, 108, 101, 116, 101]) = false := by rw [word_eq, ha]; decide
  have e2 : (a.toList == [99, 111, 109, 112, 105, 108, 101]) = false := by rw [word_eq, ha]; decide
  have e3 : (a.toList == [108, 111, 97, 100]) = false := by rw [word_eq, ha]; decide
  have e4 : (a.toList == [114, 117, 110]) = false := by rw [word_eq, ha]; decide
  have c0 := hrow 0 a rfl
  have c1 := hrow 1 n' rfl
  have c2 := hrow 2 t' rfl
  have hg := cell_lt c0
  have HR := Lib.hid hrow
  have F1 := Lib.hid f1
  have F2 := Lib.hid f2
  clear b1 hown k1 hrow f1 f2
  have HN := Lib.hid (show n'.size ≤ maxLen by simp only [maxLen]; omega)
  have HT := Lib.hid ht
  have HNN := Lib.hid hn
  clear ha hn ht hnz
  go_wp2_with fail
  go_region
  go_wp2_with fail
  go_at_call 18
  refine (bytes18 t' _ hsz).mono ?_
  rintro e W2 ⟨rfl, b2⟩
  obtain ⟨g0, g1, g2, g3⟩ := two_later F1.out F2.out b2
  have G0 := Lib.hid g0
  have G1 := Lib.hid g1
  have G2 := Lib.hid g2
  have LT := Lib.hid g3
  clear b2 g0 g1 g2 c0 c1 c2
  have q0 := (blk_facts G0.out).1
  have q1 := (blk_facts G0.out).2.1
  have q2 := (blk_facts G0.out).2.2.1
  have q3 := (blk_facts G0.out).2.2.2.1
  have q4 := (blk_facts G0.out).2.2.2.2.1
  have q5 := (blk_facts G0.out).2.2.2.2.2.1
  have qf := (blk_facts G0.out).2.2.2.2.2.2
  have r0 := (blk_facts G1.out).1
  have r1 := (blk_facts G1.out).2.1
  have r2 := (blk_facts G1.out).2.2.1
  have r3 := (blk_facts G1.out).2.2.2.1
  have r4 := (blk_facts G1.out).2.2.2.2.1
  have r5 := (blk_facts G1.out).2.2.2.2.2.1
  have rf := (blk_facts G1.out).2.2.2.2.2.2
  rw [HT.out]
  cases hu : unhexL t with
  | none =>
    have HU := Lib.hid hu
    clear hu
    simp only [bytesV]
    go_wp2_with fail
    refine ret_cmd (cs := cmdC cmd0) Tryz.results9 rfl rfl (by (try rw [heap_drew]); rw [heap_set, heap_set, heap_set, heap_set, heap_set, heap_set]; rw [heap_far LT.out, G0.out]; simp [setObj, cmdC, cmd0]) rfl ⟨?_, ?_⟩
    · rw [HP.out]
      simp only [parseW, HU.out]
      first | rfl | (split <;> rfl)
    · try (with_reducible refine Below.drew ?_)
      repeat (with_reducible refine below_set ?_)
      refine below_set2 LT.out ?_
      exact G2.out
  | some x =>
    have HU := Lib.hid hu
    clear hu
    simp only [bytesV]
    go_wp2_with fail
    go_at_call 20
    refine (name20 n' _ HN.out).mono ?_
    rintro e W3 ⟨rfl, rfl⟩
    rw [HNN.out]
    cases hnm : nameL n with
    | false =>
      have HNM := Lib.hid hnm
      clear hnm
      go_wp2_with fail
      refine ret_cmd (cs := cmdC cmd0) Tryz.results9 rfl rfl (by (try rw [heap_drew]); rw [heap_set, heap_set, heap_set, heap_set, heap_set, heap_set]; rw [heap_far LT.out, G0.out]; simp [setObj, cmdC, cmd0]) rfl ⟨?_, ?_⟩
      · rw [HP.out]
        simp only [parseW, HU.out, HNM.out]
        first | rfl | (split <;> rfl)
      · try (with_reducible refine Below.drew ?_)
        repeat (with_reducible refine below_set ?_)
        refine below_set2 LT.out ?_
        exact G2.out
    | true =>
      have HNM := Lib.hid hnm
      clear hnm
      go_wp2_with fail
      refine ret_cmd (cs := cmdC ⟨1, n, x, 0, 0, 0⟩) Tryz.results9 rfl rfl (by (try rw [heap_drew]); rw [heap_set, heap_set, heap_set, heap_set, heap_set, heap_set]; rw [heap_far LT.out, G0.out]; simp [setObj, cmdC, arr_of HNN.out]) rfl ⟨?_, ?_⟩
      · rw [HP.out]
        simp only [parseW, HU.out, HNM.out]
        first | rfl | (split <;> rfl)
      · try (with_reducible refine Below.drew ?_)
        repeat (with_reducible refine below_set ?_)
        refine below_set2 LT.out ?_
        exact G2.out

set_option maxRecDepth 100000 in
set_option maxHeartbeats 4000000 in
theorem ref_delete (s : ByteArray) (n : List UInt8) (w : World) (hs : s.size ≤ 999999) (hc : cutL s.data.toList = [wDelete, n]) :
    Calls Tryz.prog 9 #[.string s] w (CmdPost w (parseL s.data.toList)) := by
  have hp : parseL s.data.toList = parseW [wDelete, n] := by unfold parseL; rw [hc]
  have HC := Lib.hid hc
  have HP := Lib.hid hp
  clear hc hp
  go_enter Tryz.func9, Tryz.ntmps9
  go_wp2_with fail
  go_at_call 17
  refine (cut17 s _ (by omega)).mono ?_
  rintro e W1 ⟨v, ws, rfl, hown, hcut, b1⟩
  obtain ⟨f1, f2⟩ := blk_below' b1
  obtain ⟨k1, _, k3⟩ := cut_words hcut hs
  obtain ⟨g, cap, rfl, hrow⟩ := row_of hown k1
  rw [HC.out] at hcut
  obtain ⟨a, n', rfl, ha, hn⟩ := bytes2 hcut
  have hnz := k3 n' (by simp)
  clear k3 hcut
  have e0 : (a.toList == [119, 114, 105, 116, 101]) = false := by rw [word_eq, ha]; decide
  have e1 : (a.toList == [100, 101, 108, 101, 116, 101]) = true := by rw [word_eq, ha]; decide
  have e2 : (a.toList == [99, 111, 109, 112, 105, 108, 101]) = false := by rw [word_eq, ha]; decide
  have e3 : (a.toList == [108, 111, 97, 100]) = false := by rw [word_eq, ha]; decide
  have e4 : (a.toList == [114, 117, 110]) = false := by rw [word_eq, ha]; decide
  have c0 := hrow 0 a rfl
  have c1 := hrow 1 n' rfl
  have hg := cell_lt c0
  have HR := Lib.hid hrow
  have F1 := Lib.hid f1
  have F2 := Lib.hid f2
  clear b1 hown k1 hrow f1 f2
  have HN := Lib.hid (show n'.size ≤ maxLen by simp only [maxLen]; omega)
  have HNN := Lib.hid hn
  have FA := Lib.hid (fun o => (Go.heap_alloc_old W1 o (lt_of_heap F1.out)).trans F1.out)
  have FD := Lib.hid (fun o => (show (W1.alloc o).drew.heap[w.heap.size]? = _ from (Go.heap_alloc_old W1 o (lt_of_heap F1.out)).trans F1.out))
  have q0 := fun o => (blk_later F1.out o).1
  have q1 := fun o => (blk_later F1.out o).2.1
  have q2 := fun o => (blk_later F1.out o).2.2.1
  have q3 := fun o => (blk_later F1.out o).2.2.2.1
  have q4 := fun o => (blk_later F1.out o).2.2.2.2.1
  have q5 := fun o => (blk_later F1.out o).2.2.2.2.2.1
  have qf := fun o => (blk_later F1.out o).2.2.2.2.2.2
  clear ha hn hnz
  go_wp2_with fail
  go_region
  go_wp2_with fail
  go_at_call 20
  refine (name20 n' _ HN.out).mono ?_
  rintro e W3 ⟨rfl, rfl⟩
  rw [HNN.out]
  cases hnm : nameL n with
  | false =>
    have HNM := Lib.hid hnm
    clear hnm
    go_wp2_with fail
    refine ret_cmd (cs := cmdC cmd0) Tryz.results9 rfl rfl (by (try rw [heap_drew]); rw [heap_set, heap_set, heap_set, heap_set, heap_set, heap_set]; (first | rw [FA.out] | rw [FD.out]); simp [setObj, cmdC, cmd0]) rfl ⟨?_, ?_⟩
    · rw [HP.out]
      simp only [parseW, HNM.out]
      first | rfl | (split <;> rfl)
    · try (with_reducible refine Below.drew ?_)
      repeat (with_reducible refine below_set ?_)
      first
        | exact F2.out.alloc F2.out.size _
        | exact (F2.out.alloc F2.out.size _).drew
  | true =>
    have HNM := Lib.hid hnm
    clear hnm
    go_wp2_with fail
    refine ret_cmd (cs := cmdC ⟨2, n, [], 0, 0, 0⟩) Tryz.results9 rfl rfl (by (try rw [heap_drew]); rw [heap_set, heap_set, heap_set, heap_set, heap_set, heap_set]; (first | rw [FA.out] | rw [FD.out]); simp [setObj, cmdC, arr_of HNN.out]) rfl ⟨?_, ?_⟩
    · rw [HP.out]
      simp only [parseW, HNM.out]
      first | rfl | (split <;> rfl)
    · try (with_reducible refine Below.drew ?_)
      repeat (with_reducible refine below_set ?_)
      first
        | exact F2.out.alloc F2.out.size _
        | exact (F2.out.alloc F2.out.size _).drew

set_option maxRecDepth 100000 in
set_option maxHeartbeats 4000000 in
theorem ref_compile (s : ByteArray) (n : List UInt8) (w : World) (hs : s.size ≤ 999999) (hc : cutL s.data.toList = [wCompile, n]) :
    Calls Tryz.prog 9 #[.string s] w (CmdPost w (parseL s.data.toList)) := by
  have hp : parseL s.data.toList = parseW [wCompile, n] := by unfold parseL; rw [hc]
  have HC := Lib.hid hc
  have HP := Lib.hid hp
  clear hc hp
  go_enter Tryz.func9, Tryz.ntmps9
  go_wp2_with fail
  go_at_call 17
  refine (cut17 s _ (by omega)).mono ?_
  rintro e W1 ⟨v, ws, rfl, hown, hcut, b1⟩
  obtain ⟨f1, f2⟩ := blk_below' b1
  obtain ⟨k1, _, k3⟩ := cut_words hcut hs
  obtain ⟨g, cap, rfl, hrow⟩ := row_of hown k1
  rw [HC.out] at hcut
  obtain ⟨a, n', rfl, ha, hn⟩ := bytes2 hcut
  have hnz := k3 n' (by simp)
  clear k3 hcut
  have e0 : (a.toList == [119, 114, 105, 116, 101]) = false := by rw [word_eq, ha]; decide
  have e1 : (a.toList == [100, 101, 108, 101, 116, 101]) = false := by rw [word_eq, ha]; decide
  have e2 : (a.toList == [99, 111, 109, 112, 105, 108, 101]) = true := by rw [word_eq, ha]; decide
  have e3 : (a.toList == [108, 111, 97, 100]) = false := by rw [word_eq, ha]; decide
  have e4 : (a.toList == [114, 117, 110]) = false := by rw [word_eq, ha]; decide
  have c0 := hrow 0 a rfl
  have c1 := hrow 1 n' rfl
  have hg := cell_lt c0
  have HR := Lib.hid hrow
  have F1 := Lib.hid f1
  have F2 := Lib.hid f2
  clear b1 hown k1 hrow f1 f2
  have HN := Lib.hid (show n'.size ≤ maxLen by simp only [maxLen]; omega)
  have HNN := Lib.hid hn
  have FA := Lib.hid (fun o => (Go.heap_alloc_old W1 o (lt_of_heap F1.out)).trans F1.out)
  have FD := Lib.hid (fun o => (show (W1.alloc o).drew.heap[w.heap.size]? = _ from (Go.heap_alloc_old W1 o (lt_of_heap F1.out)).trans F1.out))
  have q0 := fun o => (blk_later F1.out o).1
  have q1 := fun o => (blk_later F1.out o).2.1
  have q2 := fun o => (blk_later F1.out o).2.2.1
  have q3 := fun o => (blk_later F1.out o).2.2.2.1
  have q4 := fun o => (blk_later F1.out o).2.2.2.2.1
  have q5 := fun o => (blk_later F1.out o).2.2.2.2.2.1
  have qf := fun o => (blk_later F1.out o).2.2.2.2.2.2
  clear ha hn hnz
  go_wp2_with fail
  go_region
  go_wp2_with fail
  go_at_call 20
  refine (name20 n' _ HN.out).mono ?_
  rintro e W3 ⟨rfl, rfl⟩
  rw [HNN.out]
  cases hnm : nameL n with
  | false =>
    have HNM := Lib.hid hnm
    clear hnm
    go_wp2_with fail
    refine ret_cmd (cs := cmdC cmd0) Tryz.results9 rfl rfl (by (try rw [heap_drew]); rw [heap_set, heap_set, heap_set, heap_set, heap_set, heap_set]; (first | rw [FA.out] | rw [FD.out]); simp [setObj, cmdC, cmd0]) rfl ⟨?_, ?_⟩
    · rw [HP.out]
      simp only [parseW, HNM.out]
      first | rfl | (split <;> rfl)
    · try (with_reducible refine Below.drew ?_)
      repeat (with_reducible refine below_set ?_)
      first
        | exact F2.out.alloc F2.out.size _
        | exact (F2.out.alloc F2.out.size _).drew
  | true =>
    have HNM := Lib.hid hnm
    clear hnm
    go_wp2_with fail
    refine ret_cmd (cs := cmdC ⟨3, n, [], 0, 0, 0⟩) Tryz.results9 rfl rfl (by (try rw [heap_drew]); rw [heap_set, heap_set, heap_set, heap_set, heap_set, heap_set]; (first | rw [FA.out] | rw [FD.out]); simp [setObj, cmdC, arr_of HNN.out]) rfl ⟨?_, ?_⟩
    · rw [HP.out]
      simp only [parseW, HNM.out]
      first | rfl | (split <;> rfl)
    · try (with_reducible refine Below.drew ?_)
      repeat (with_reducible refine below_set ?_)
      first
        | exact F2.out.alloc F2.out.size _
        | exact (F2.out.alloc F2.out.size _).drew

set_option maxRecDepth 100000 in
set_option maxHeartbeats 4000000 in
theorem ref_load (s : ByteArray) (n x y : List UInt8) (w : World) (hs : s.size ≤ 999999) (hc : cutL s.data.toList = [wLoad, n, x, y]) :
    Calls Tryz.prog 9 #[.string s] w (CmdPost w (parseL s.data.toList)) := by
  have hp : parseL s.data.toList = parseW [wLoad, n, x, y] := by unfold parseL; rw [hc]
  have HC := Lib.hid hc
  have HP := Lib.hid hp
  clear hc hp
  go_enter Tryz.func9, Tryz.ntmps9
  go_wp2_with fail
  go_at_call 17
  refine (cut17 s _ (by omega)).mono ?_
  rintro e W1 ⟨v, ws, rfl, hown, hcut, b1⟩
  obtain ⟨f1, f2⟩ := blk_below' b1
  obtain ⟨k1, _, k3⟩ := cut_words hcut hs
  obtain ⟨g, cap, rfl, hrow⟩ := row_of hown k1
  rw [HC.out] at hcut
  obtain ⟨a, n', x', y', rfl, ha, hn, hx, hy⟩ := bytes4 hcut
  have hnz := k3 n' (by simp)
  have hxz := k3 x' (by simp)
  have hyz := k3 y' (by simp)
  clear k3 hcut
  have e0 : (a.toList == [119, 114, 105, 116, 101]) = false := by rw [word_eq, ha]; decide
  have e1 : (a.toList == [100, 101, 108, 101, 116, 101]) = false := by rw [word_eq, ha]; decide
  have e2 : (a.toList == [99, 111, 109, 112, 105, 108, 101]) = false := by rw [word_eq, ha]; decide
  have e3 : (a.toList == [108, 111, 97, 100]) = true := by rw [word_eq, ha]; decide
  have e4 : (a.toList == [114, 117, 110]) = false := by rw [word_eq, ha]; decide
  have c0 := hrow 0 a rfl
  have c1 := hrow 1 n' rfl
  have c2 := hrow 2 x' rfl
  have c3 := hrow 3 y' rfl
  have hg := cell_lt c0
  have HR := Lib.hid hrow
  have F1 := Lib.hid f1
  have F2 := Lib.hid f2
  clear b1 hown k1 hrow f1 f2
  have HN := Lib.hid (show n'.size ≤ maxLen by simp only [maxLen]; omega)
  have HNN := Lib.hid hn
  have HX := Lib.hid hx
  have HY := Lib.hid hy
  have HXZ := Lib.hid hxz
  have HYZ := Lib.hid hyz
  have FA := Lib.hid (fun o => (Go.heap_alloc_old W1 o (lt_of_heap F1.out)).trans F1.out)
  have FD := Lib.hid (fun o => (show (W1.alloc o).drew.heap[w.heap.size]? = _ from (Go.heap_alloc_old W1 o (lt_of_heap F1.out)).trans F1.out))
  have q0 := fun o => (blk_later F1.out o).1
  have q1 := fun o => (blk_later F1.out o).2.1
  have q2 := fun o => (blk_later F1.out o).2.2.1
  have q3 := fun o => (blk_later F1.out o).2.2.2.1
  have q4 := fun o => (blk_later F1.out o).2.2.2.2.1
  have q5 := fun o => (blk_later F1.out o).2.2.2.2.2.1
  have qf := fun o => (blk_later F1.out o).2.2.2.2.2.2
  clear ha hn hx hy hnz hxz hyz
  go_wp2_with fail
  go_at_call 19
  refine (number19 x' _ HXZ.out).mono ?_
  rintro e W3 ⟨rfl, rfl⟩
  rw [HX.out]
  cases hnx : numL x with
  | none =>
    have HNX := Lib.hid hnx
    clear hnx
    simp only [numV]
    go_wp2_with fail
    go_at_call 19
    refine (number19 y' _ HYZ.out).mono ?_
    rintro e W3 ⟨rfl, rfl⟩
    rw [HY.out]
    cases hny : numL y with
    | none =>
      have HNY := Lib.hid hny
      clear hny
      simp only [numV]
      go_wp2_with fail
      refine ret_cmd (cs := cmdC cmd0) Tryz.results9 rfl rfl (by (try rw [heap_drew]); rw [heap_set, heap_set, heap_set, heap_set, heap_set, heap_set]; (first | rw [FA.out] | rw [FD.out]); simp [setObj, cmdC, cmd0]) rfl ⟨?_, ?_⟩
      · rw [HP.out]
        simp only [parseW, HNX.out, HNY.out]
        first | rfl | (split <;> rfl)
      · try (with_reducible refine Below.drew ?_)
        repeat (with_reducible refine below_set ?_)
        first
          | exact F2.out.alloc F2.out.size _
          | exact (F2.out.alloc F2.out.size _).drew
    | some j =>
      have HNY := Lib.hid hny
      clear hny
      simp only [numV]
      go_wp2_with fail
      refine ret_cmd (cs := cmdC cmd0) Tryz.results9 rfl rfl (by (try rw [heap_drew]); rw [heap_set, heap_set, heap_set, heap_set, heap_set, heap_set]; (first | rw [FA.out] | rw [FD.out]); simp [setObj, cmdC, cmd0]) rfl ⟨?_, ?_⟩
      · rw [HP.out]
        simp only [parseW, HNX.out, HNY.out]
        first | rfl | (split <;> rfl)
      · try (with_reducible refine Below.drew ?_)
        repeat (with_reducible refine below_set ?_)
        first
          | exact F2.out.alloc F2.out.size _
          | exact (F2.out.alloc F2.out.size _).drew
  | some i =>
    have HNX := Lib.hid hnx
    clear hnx
    simp only [numV]
    go_wp2_with fail
    go_at_call 19
    refine (number19 y' _ HYZ.out).mono ?_
    rintro e W3 ⟨rfl, rfl⟩
    rw [HY.out]
    cases hny : numL y with
    | none =>
      have HNY := Lib.hid hny
      clear hny
      simp only [numV]
      go_wp2_with fail
      refine ret_cmd (cs := cmdC cmd0) Tryz.results9 rfl rfl (by (try rw [heap_drew]); rw [heap_set, heap_set, heap_set, heap_set, heap_set, heap_set]; (first | rw [FA.out] | rw [FD.out]); simp [setObj, cmdC, cmd0]) rfl ⟨?_, ?_⟩
      · rw [HP.out]
        simp only [parseW, HNX.out, HNY.out]
        first | rfl | (split <;> rfl)
      · try (with_reducible refine Below.drew ?_)
        repeat (with_reducible refine below_set ?_)
        first
          | exact F2.out.alloc F2.out.size _
          | exact (F2.out.alloc F2.out.size _).drew
    | some j =>
      have HNY := Lib.hid hny
      clear hny
      simp only [numV]
      go_wp2_with fail
      go_at_call 20
      refine (name20 n' _ HN.out).mono ?_
      rintro e W3 ⟨rfl, rfl⟩
      rw [HNN.out]
      cases hnm : nameL n with
      | false =>
        have HNM := Lib.hid hnm
        clear hnm
        go_wp2_with fail
        refine ret_cmd (cs := cmdC cmd0) Tryz.results9 rfl rfl (by (try rw [heap_drew]); rw [heap_set, heap_set, heap_set, heap_set, heap_set, heap_set]; (first | rw [FA.out] | rw [FD.out]); simp [setObj, cmdC, cmd0]) rfl ⟨?_, ?_⟩
        · rw [HP.out]
          simp only [parseW, HNX.out, HNY.out, HNM.out]
          first | rfl | (split <;> rfl)
        · try (with_reducible refine Below.drew ?_)
          repeat (with_reducible refine below_set ?_)
          first
            | exact F2.out.alloc F2.out.size _
            | exact (F2.out.alloc F2.out.size _).drew
      | true =>
        have HNM := Lib.hid hnm
        clear hnm
        go_wp2_with fail
        refine ret_cmd (cs := cmdC ⟨4, n, [], 0, i, j⟩) Tryz.results9 rfl rfl (by (try rw [heap_drew]); rw [heap_set, heap_set, heap_set, heap_set, heap_set, heap_set]; (first | rw [FA.out] | rw [FD.out]); simp [setObj, cmdC, arr_of HNN.out]) rfl ⟨?_, ?_⟩
        · rw [HP.out]
          simp only [parseW, HNX.out, HNY.out, HNM.out]
          first | rfl | (split <;> rfl)
        · try (with_reducible refine Below.drew ?_)
          repeat (with_reducible refine below_set ?_)
          first
            | exact F2.out.alloc F2.out.size _
            | exact (F2.out.alloc F2.out.size _).drew

set_option maxRecDepth 100000 in
set_option maxHeartbeats 4000000 in
theorem ref_run (s : ByteArray) (n t : List UInt8) (w : World) (hs : s.size ≤ 999999) (hc : cutL s.data.toList = [wRun, n, t]) :
    Calls Tryz.prog 9 #[.string s] w (CmdPost w (parseL s.data.toList)) := by
  have hp : parseL s.data.toList = parseW [wRun, n, t] := by unfold parseL; rw [hc]
  have HC := Lib.hid hc
  have HP := Lib.hid hp
  clear hc hp
  go_enter Tryz.func9, Tryz.ntmps9
  go_wp2_with fail
  go_at_call 17
  refine (cut17 s _ (by omega)).mono ?_
  rintro e W1 ⟨v, ws, rfl, hown, hcut, b1⟩
  obtain ⟨f1, f2⟩ := blk_below' b1
  obtain ⟨k1, _, k3⟩ := cut_words hcut hs
  obtain ⟨g, cap, rfl, hrow⟩ := row_of hown k1
  rw [HC.out] at hcut
  obtain ⟨a, n', t', rfl, ha, hn, ht⟩ := bytes3 hcut
  have hsz := k3 t' (by simp)
  have hnz := k3 n' (by simp)
  clear k3 hcut
  have e0 : (a.toList == [119, 114, 105, 116, 101]) = false := by rw [word_eq, ha]; decide
  have e1 : (a.toList == [100, 101, 108, 101, 116, 101]) = false := by rw [word_eq, ha]; decide
  have e2 : (a.toList == [99, 111, 109, 112, 105, 108, 101]) = false := by rw [word_eq, ha]; decide
  have e3 : (a.toList == [108, 111, 97, 100]) = false := by rw [word_eq, ha]; decide
  have e4 : (a.toList == [114, 117, 110]) = true := by rw [word_eq, ha]; decide
  have c0 := hrow 0 a rfl
  have c1 := hrow 1 n' rfl
  have c2 := hrow 2 t' rfl
  have hg := cell_lt c0
  have HR := Lib.hid hrow
  have F1 := Lib.hid f1
  have F2 := Lib.hid f2
  clear b1 hown k1 hrow f1 f2
  have HT := Lib.hid ht
  have HNN := Lib.hid hn
  clear ha hn ht
  go_wp2_with fail
  go_at_call 19
  refine (number19 n' _ hnz).mono ?_
  rintro e W3 ⟨rfl, rfl⟩
  rw [HNN.out]
  cases hnx : numL n with
  | none =>
    have HNX := Lib.hid hnx
    clear hnx
    simp only [numV]
    go_wp2_with fail
    go_at_call 18
    refine (bytes18 t' _ hsz).mono ?_
    rintro e W2 ⟨rfl, b2⟩
    obtain ⟨g0, g1, g2, g3⟩ := two_later' F1.out F2.out b2
    have G0 := Lib.hid g0
    have G1 := Lib.hid g1
    have G2 := Lib.hid g2
    have LT := Lib.hid g3
    clear b2 g0 g1 g2 c0 c1 c2
    have q0 := (blk_facts G0.out).1
    have q1 := (blk_facts G0.out).2.1
    have q2 := (blk_facts G0.out).2.2.1
    have q3 := (blk_facts G0.out).2.2.2.1
    have q4 := (blk_facts G0.out).2.2.2.2.1
    have q5 := (blk_facts G0.out).2.2.2.2.2.1
    have qf := (blk_facts G0.out).2.2.2.2.2.2
    have r0 := (blk_facts G1.out).1
    have r1 := (blk_facts G1.out).2.1
    have r2 := (blk_facts G1.out).2.2.1
    have r3 := (blk_facts G1.out).2.2.2.1
    have r4 := (blk_facts G1.out).2.2.2.2.1
    have r5 := (blk_facts G1.out).2.2.2.2.2.1
    have rf := (blk_facts G1.out).2.2.2.2.2.2
    rw [HT.out]
    cases hu : unhexL t with
    | none =>
      have HU := Lib.hid hu
      clear hu
      simp only [bytesV]
      go_wp2_with fail
      refine ret_cmd (cs := cmdC cmd0) Tryz.results9 rfl rfl (by (try rw [heap_drew]); rw [heap_set, heap_set, heap_set, heap_set, heap_set, heap_set]; rw [heap_far LT.out, heap_far LT.out, heap_far LT.out, heap_far LT.out, heap_far LT.out, heap_far LT.out, G0.out]; simp [setObj, cmdC, cmd0]) rfl ⟨?_, ?_⟩
      · rw [HP.out]
        simp only [parseW, HNX.out, HU.out]
        first | rfl | (split <;> rfl)
      · try (with_reducible refine Below.drew ?_)
        repeat (with_reducible refine below_set ?_)
        refine below_set2 LT.out ?_
        refine below_set2 LT.out ?_
        refine below_set2 LT.out ?_
        refine below_set2 LT.out ?_
        refine below_set2 LT.out ?_
        refine below_set2 LT.out ?_
        exact G2.out
    | some x =>
      have HU := Lib.hid hu
      clear hu
      simp only [bytesV]
      go_wp2_with fail
      refine ret_cmd (cs := cmdC cmd0) Tryz.results9 rfl rfl (by (try rw [heap_drew]); rw [heap_set, heap_set, heap_set, heap_set, heap_set, heap_set]; rw [heap_far LT.out, heap_far LT.out, heap_far LT.out, heap_far LT.out, heap_far LT.out, heap_far LT.out, G0.out]; simp [setObj, cmdC, cmd0]) rfl ⟨?_, ?_⟩
      · rw [HP.out]
        simp only [parseW, HNX.out, HU.out]
        first | rfl | (split <;> rfl)
      · try (with_reducible refine Below.drew ?_)
        repeat (with_reducible refine below_set ?_)
        refine below_set2 LT.out ?_
        refine below_set2 LT.out ?_
        refine below_set2 LT.out ?_
        refine below_set2 LT.out ?_
        refine below_set2 LT.out ?_
        refine below_set2 LT.out ?_
        exact G2.out
  | some i =>
    have HNX := Lib.hid hnx
    clear hnx
    simp only [numV]
    go_wp2_with fail
    go_at_call 18
    refine (bytes18 t' _ hsz).mono ?_
    rintro e W2 ⟨rfl, b2⟩
    obtain ⟨g0, g1, g2, g3⟩ := two_later' F1.out F2.out b2
    have G0 := Lib.hid g0
    have G1 := Lib.hid g1
    have G2 := Lib.hid g2
    have LT := Lib.hid g3
    clear b2 g0 g1 g2 c0 c1 c2
    have q0 := (blk_facts G0.out).1
    have q1 := (blk_facts G0.out).2.1
    have q2 := (blk_facts G0.out).2.2.1
    have q3 := (blk_facts G0.out).2.2.2.1
    have q4 := (blk_facts G0.out).2.2.2.2.1
    have q5 := (blk_facts G0.out).2.2.2.2.2.1
    have qf := (blk_facts G0.out).2.2.2.2.2.2
    have r0 := (blk_facts G1.out).1
    have r1 := (blk_facts G1.out).2.1
    have r2 := (blk_facts G1.out).2.2.1
    have r3 := (blk_facts G1.out).2.2.2.1
    have r4 := (blk_facts G1.out).2.2.2.2.1
    have r5 := (blk_facts G1.out).2.2.2.2.2.1
    have rf := (blk_facts G1.out).2.2.2.2.2.2
    rw [HT.out]
    cases hu : unhexL t with
    | none =>
      have HU := Lib.hid hu
      clear hu
      simp only [bytesV]
      go_wp2_with fail
      refine ret_cmd (cs := cmdC cmd0) Tryz.results9 rfl rfl (by (try rw [heap_drew]); rw [heap_set, heap_set, heap_set, heap_set, heap_set, heap_set]; rw [heap_far LT.out, heap_far LT.out, heap_far LT.out, heap_far LT.out, heap_far LT.out, heap_far LT.out, G0.out]; simp [setObj, cmdC, cmd0]) rfl ⟨?_, ?_⟩
      · rw [HP.out]
        simp only [parseW, HNX.out, HU.out]
        first | rfl | (split <;> rfl)
      · try (with_reducible refine Below.drew ?_)
        repeat (with_reducible refine below_set ?_)
        refine below_set2 LT.out ?_
        refine below_set2 LT.out ?_
        refine below_set2 LT.out ?_
        refine below_set2 LT.out ?_
        refine below_set2 LT.out ?_
        refine below_set2 LT.out ?_
        exact G2.out
    | some x =>
      have HU := Lib.hid hu
      clear hu
      simp only [bytesV]
      go_wp2_with fail
      refine ret_cmd (cs := cmdC ⟨5, [], x, i, 0, 0⟩) Tryz.results9 rfl rfl (by (try rw [heap_drew]); rw [heap_set, heap_set, heap_set, heap_set, heap_set, heap_set]; rw [heap_far LT.out, heap_far LT.out, heap_far LT.out, heap_far LT.out, heap_far LT.out, heap_far LT.out, G0.out]; simp [setObj, cmdC]) rfl ⟨?_, ?_⟩
      · rw [HP.out]
        simp only [parseW, HNX.out, HU.out]
        first | rfl | (split <;> rfl)
      · try (with_reducible refine Below.drew ?_)
        repeat (with_reducible refine below_set ?_)
        refine below_set2 LT.out ?_
        refine below_set2 LT.out ?_
        refine below_set2 LT.out ?_
        refine below_set2 LT.out ?_
        refine below_set2 LT.out ?_
        refine below_set2 LT.out ?_
        exact G2.out

set_option maxRecDepth 100000 in
set_option maxHeartbeats 4000000 in
theorem ref_write_other (s : ByteArray) (r : List (List UInt8)) (w : World) (hs : s.size ≤ 999999) (hc : cutL s.data.toList = wWrite :: r) (hl : r.length ≠ 2) :
    Calls Tryz.prog 9 #[.string s] w (CmdPost w (parseL s.data.toList)) := by
  have hp : parseL s.data.toList = none := by unfold parseL; rw [hc]; exact parse_write_other _ _ rfl hl
  have HC := Lib.hid hc
  have HP := Lib.hid hp
  clear hc hp
  go_enter Tryz.func9, Tryz.ntmps9
  go_wp2_with fail
  go_at_call 17
  refine (cut17 s _ (by omega)).mono ?_
  rintro e W1 ⟨v, ws, rfl, hown, hcut, b1⟩
  obtain ⟨f1, f2⟩ := blk_below' b1
  obtain ⟨k1, k2, k3⟩ := cut_words hcut hs
  obtain ⟨g, cap, rfl, hrow⟩ := row_of hown k1
  rw [HC.out] at hcut
  obtain ⟨a, ys, rfl, ha, hlen⟩ := bytes_cons hcut
  clear k3 hcut hown k1
  have e0 : (a.toList == [119, 114, 105, 116, 101]) = true := by rw [word_eq, ha]; decide
  have e1 : (a.toList == [100, 101, 108, 101, 116, 101]) = false := by rw [word_eq, ha]; decide
  have e2 : (a.toList == [99, 111, 109, 112, 105, 108, 101]) = false := by rw [word_eq, ha]; decide
  have e3 : (a.toList == [108, 111, 97, 100]) = false := by rw [word_eq, ha]; decide
  have e4 : (a.toList == [114, 117, 110]) = false := by rw [word_eq, ha]; decide
  have c0 := hrow 0 a rfl
  have bl : (((ys.length : Int) + 1) == 3) = false := by rw [beq_eq_false_iff_ne]; omega
  have hk2 : ys.length + 1 ≤ 1000000 := by simpa using k2
  have hg := cell_lt c0
  have F1 := Lib.hid f1
  have F2 := Lib.hid f2
  have FA := Lib.hid (fun o => (Go.heap_alloc_old W1 o (lt_of_heap F1.out)).trans F1.out)
  have FD := Lib.hid (fun o => (show (W1.alloc o).drew.heap[w.heap.size]? = _ from (Go.heap_alloc_old W1 o (lt_of_heap F1.out)).trans F1.out))
  have q0 := fun o => (blk_later F1.out o).1
  have q1 := fun o => (blk_later F1.out o).2.1
  have q2 := fun o => (blk_later F1.out o).2.2.1
  have q3 := fun o => (blk_later F1.out o).2.2.2.1
  have q4 := fun o => (blk_later F1.out o).2.2.2.2.1
  have q5 := fun o => (blk_later F1.out o).2.2.2.2.2.1
  have qf := fun o => (blk_later F1.out o).2.2.2.2.2.2
  clear b1 hrow f1 f2 ha hlen k2 hl
  simp only [List.length_cons]
  go_wp2_with fail
  refine ret_cmd (cs := cmdC cmd0) Tryz.results9 rfl rfl (by (try rw [heap_drew]); rw [heap_set, heap_set, heap_set, heap_set, heap_set, heap_set]; (first | rw [FA.out] | rw [FD.out]); simp [setObj, cmdC, cmd0]) rfl ⟨?_, ?_⟩
  · rw [HP.out]
    rfl
  · try (with_reducible refine Below.drew ?_)
    repeat (with_reducible refine below_set ?_)
    first
      | exact F2.out.alloc F2.out.size _
      | exact (F2.out.alloc F2.out.size _).drew

set_option maxRecDepth 100000 in
set_option maxHeartbeats 4000000 in
theorem ref_delete_other (s : ByteArray) (r : List (List UInt8)) (w : World) (hs : s.size ≤ 999999) (hc : cutL s.data.toList = wDelete :: r) (hl : r.length ≠ 1) :
    Calls Tryz.prog 9 #[.string s] w (CmdPost w (parseL s.data.toList)) := by
  have hp : parseL s.data.toList = none := by unfold parseL; rw [hc]; exact parse_delete_other _ _ rfl hl
  have HC := Lib.hid hc
  have HP := Lib.hid hp
  clear hc hp
  go_enter Tryz.func9, Tryz.ntmps9
  go_wp2_with fail
  go_at_call 17
  refine (cut17 s _ (by omega)).mono ?_
  rintro e W1 ⟨v, ws, rfl, hown, hcut, b1⟩
  obtain ⟨f1, f2⟩ := blk_below' b1
  obtain ⟨k1, k2, k3⟩ := cut_words hcut hs
  obtain ⟨g, cap, rfl, hrow⟩ := row_of hown k1
  rw [HC.out] at hcut
  obtain ⟨a, ys, rfl, ha, hlen⟩ := bytes_cons hcut
  clear k3 hcut hown k1
  have e0 : (a.toList == [119, 114, 105, 116, 101]) = false := by rw [word_eq, ha]; decide
  have e1 : (a.toList == [100, 101, 108, 101, 116, 101]) = true := by rw [word_eq, ha]; decide
  have e2 : (a.toList == [99, 111, 109, 112, 105, 108, 101]) = false := by rw [word_eq, ha]; decide
  have e3 : (a.toList == [108, 111, 97, 100]) = false := by rw [word_eq, ha]; decide
  have e4 : (a.toList == [114, 117, 110]) = false := by rw [word_eq, ha]; decide
  have c0 := hrow 0 a rfl
  have bl : (((ys.length : Int) + 1) == 2) = false := by rw [beq_eq_false_iff_ne]; omega
  have hk2 : ys.length + 1 ≤ 1000000 := by simpa using k2
  have hg := cell_lt c0
  have F1 := Lib.hid f1
  have F2 := Lib.hid f2
  have FA := Lib.hid (fun o => (Go.heap_alloc_old W1 o (lt_of_heap F1.out)).trans F1.out)
  have FD := Lib.hid (fun o => (show (W1.alloc o).drew.heap[w.heap.size]? = _ from (Go.heap_alloc_old W1 o (lt_of_heap F1.out)).trans F1.out))
  have q0 := fun o => (blk_later F1.out o).1
  have q1 := fun o => (blk_later F1.out o).2.1
  have q2 := fun o => (blk_later F1.out o).2.2.1
  have q3 := fun o => (blk_later F1.out o).2.2.2.1
  have q4 := fun o => (blk_later F1.out o).2.2.2.2.1
  have q5 := fun o => (blk_later F1.out o).2.2.2.2.2.1
  have qf := fun o => (blk_later F1.out o).2.2.2.2.2.2
  clear b1 hrow f1 f2 ha hlen k2 hl
  simp only [List.length_cons]
  go_wp2_with fail
  refine ret_cmd (cs := cmdC cmd0) Tryz.results9 rfl rfl (by (try rw [heap_drew]); rw [heap_set, heap_set, heap_set, heap_set, heap_set, heap_set]; (first | rw [FA.out] | rw [FD.out]); simp [setObj, cmdC, cmd0]) rfl ⟨?_, ?_⟩
  · rw [HP.out]
    rfl
  · try (with_reducible refine Below.drew ?_)
    repeat (with_reducible refine below_set ?_)
    first
      | exact F2.out.alloc F2.out.size _
      | exact (F2.out.alloc F2.out.size _).drew

set_option maxRecDepth 100000 in
set_option maxHeartbeats 4000000 in
theorem ref_compile_other (s : ByteArray) (r : List (List UInt8)) (w : World) (hs : s.size ≤ 999999) (hc : cutL s.data.toList = wCompile :: r) (hl : r.length ≠ 1) :
    Calls Tryz.prog 9 #[.string s] w (CmdPost w (parseL s.data.toList)) := by
  have hp : parseL s.data.toList = none := by unfold parseL; rw [hc]; exact parse_compile_other _ _ rfl hl
  have HC := Lib.hid hc
  have HP := Lib.hid hp
  clear hc hp
  go_enter Tryz.func9, Tryz.ntmps9
  go_wp2_with fail
  go_at_call 17
  refine (cut17 s _ (by omega)).mono ?_
  rintro e W1 ⟨v, ws, rfl, hown, hcut, b1⟩
  obtain ⟨f1, f2⟩ := blk_below' b1
  obtain ⟨k1, k2, k3⟩ := cut_words hcut hs
  obtain ⟨g, cap, rfl, hrow⟩ := row_of hown k1
  rw [HC.out] at hcut
  obtain ⟨a, ys, rfl, ha, hlen⟩ := bytes_cons hcut
  clear k3 hcut hown k1
  have e0 : (a.toList == [119, 114, 105, 116, 101]) = false := by rw [word_eq, ha]; decide
  have e1 : (a.toList == [100, 101, 108, 101, 116, 101]) = false := by rw [word_eq, ha]; decide
  have e2 : (a.toList == [99, 111, 109, 112, 105, 108, 101]) = true := by rw [word_eq, ha]; decide
  have e3 : (a.toList == [108, 111, 97, 100]) = false := by rw [word_eq, ha]; decide
  have e4 : (a.toList == [114, 117, 110]) = false := by rw [word_eq, ha]; decide
  have c0 := hrow 0 a rfl
  have bl : (((ys.length : Int) + 1) == 2) = false := by rw [beq_eq_false_iff_ne]; omega
  have hk2 : ys.length + 1 ≤ 1000000 := by simpa using k2
  have hg := cell_lt c0
  have F1 := Lib.hid f1
  have F2 := Lib.hid f2
  have FA := Lib.hid (fun o => (Go.heap_alloc_old W1 o (lt_of_heap F1.out)).trans F1.out)
  have FD := Lib.hid (fun o => (show (W1.alloc o).drew.heap[w.heap.size]? = _ from (Go.heap_alloc_old W1 o (lt_of_heap F1.out)).trans F1.out))
  have q0 := fun o => (blk_later F1.out o).1
  have q1 := fun o => (blk_later F1.out o).2.1
  have q2 := fun o => (blk_later F1.out o).2.2.1
  have q3 := fun o => (blk_later F1.out o).2.2.2.1
  have q4 := fun o => (blk_later F1.out o).2.2.2.2.1
  have q5 := fun o => (blk_later F1.out o).2.2.2.2.2.1
  have qf := fun o => (blk_later F1.out o).2.2.2.2.2.2
  clear b1 hrow f1 f2 ha hlen k2 hl
  simp only [List.length_cons]
  go_wp2_with fail
  refine ret_cmd (cs := cmdC cmd0) Tryz.results9 rfl rfl (by (try rw [heap_drew]); rw [heap_set, heap_set, heap_set, heap_set, heap_set, heap_set]; (first | rw [FA.out] | rw [FD.out]); simp [setObj, cmdC, cmd0]) rfl ⟨?_, ?_⟩
  · rw [HP.out]
    rfl
  · try (with_reducible refine Below.drew ?_)
    repeat (with_reducible refine below_set ?_)
    first
      | exact F2.out.alloc F2.out.size _
      | exact (F2.out.alloc F2.out.size _).drew

set_option maxRecDepth 100000 in
set_option maxHeartbeats 4000000 in
theorem ref_load_other (s : ByteArray) (r : List (List UInt8)) (w : World) (hs : s.size ≤ 999999) (hc : cutL s.data.toList = wLoad :: r) (hl : r.length ≠ 3) :
    Calls Tryz.prog 9 #[.string s] w (CmdPost w (parseL s.data.toList)) := by
  have hp : parseL s.data.toList = none := by unfold parseL; rw [hc]; exact parse_load_other _ _ rfl hl
  have HC := Lib.hid hc
  have HP := Lib.hid hp
  clear hc hp
  go_enter Tryz.func9, Tryz.ntmps9
  go_wp2_with fail
  go_at_call 17
  refine (cut17 s _ (by omega)).mono ?_
  rintro e W1 ⟨v, ws, rfl, hown, hcut, b1⟩
  obtain ⟨f1, f2⟩ := blk_below' b1
  obtain ⟨k1, k2, k3⟩ := cut_words hcut hs
  obtain ⟨g, cap, rfl, hrow⟩ := row_of hown k1
  rw [HC.out] at hcut
  obtain ⟨a, ys, rfl, ha, hlen⟩ := bytes_cons hcut
  clear k3 hcut hown k1
  have e0 : (a.toList == [119, 114, 105, 116, 101]) = false := by rw [word_eq, ha]; decide
  have e1 : (a.toList == [100, 101, 108, 101, 116, 101]) = false := by rw [word_eq, ha]; decide
  have e2 : (a.toList == [99, 111, 109, 112, 105, 108, 101]) = false := by rw [word_eq, ha]; decide
  have e3 : (a.toList == [108, 111, 97, 100]) = true := by rw [word_eq, ha]; decide
  have e4 : (a.toList == [114, 117, 110]) = false := by rw [word_eq, ha]; decide
  have c0 := hrow 0 a rfl
  have bl : (((ys.length : Int) + 1) == 4) = false := by rw [beq_eq_false_iff_ne]; omega
  have hk2 : ys.length + 1 ≤ 1000000 := by simpa using k2
  have hg := cell_lt c0
  have F1 := Lib.hid f1
  have F2 := Lib.hid f2
  have FA := Lib.hid (fun o => (Go.heap_alloc_old W1 o (lt_of_heap F1.out)).trans F1.out)
  have FD := Lib.hid (fun o => (show (W1.alloc o).drew.heap[w.heap.size]? = _ from (Go.heap_alloc_old W1 o (lt_of_heap F1.out)).trans F1.out))
  have q0 := fun o => (blk_later F1.out o).1
  have q1 := fun o => (blk_later F1.out o).2.1
  have q2 := fun o => (blk_later F1.out o).2.2.1
  have q3 := fun o => (blk_later F1.out o).2.2.2.1
  have q4 := fun o => (blk_later F1.out o).2.2.2.2.1
  have q5 := fun o => (blk_later F1.out o).2.2.2.2.2.1
  have qf := fun o => (blk_later F1.out o).2.2.2.2.2.2
  clear b1 hrow f1 f2 ha hlen k2 hl
  simp only [List.length_cons]
  go_wp2_with fail
  refine ret_cmd (cs := cmdC cmd0) Tryz.results9 rfl rfl (by (try rw [heap_drew]); rw [heap_set, heap_set, heap_set, heap_set, heap_set, heap_set]; (first | rw [FA.out] | rw [FD.out]); simp [setObj, cmdC, cmd0]) rfl ⟨?_, ?_⟩
  · rw [HP.out]
    rfl
  · try (with_reducible refine Below.drew ?_)
    repeat (with_reducible refine below_set ?_)
    first
      | exact F2.out.alloc F2.out.size _
      | exact (F2.out.alloc F2.out.size _).drew

set_option maxRecDepth 100000 in
set_option maxHeartbeats 4000000 in
theorem ref_run_other (s : ByteArray) (r : List (List UInt8)) (w : World) (hs : s.size ≤ 999999) (hc : cutL s.data.toList = wRun :: r) (hl : r.length ≠ 2) :
    Calls Tryz.prog 9 #[.string s] w (CmdPost w (parseL s.data.toList)) := by
  have hp : parseL s.data.toList = none := by unfold parseL; rw [hc]; exact parse_run_other _ _ rfl hl
  have HC := Lib.hid hc
  have HP := Lib.hid hp
  clear hc hp
  go_enter Tryz.func9, Tryz.ntmps9
  go_wp2_with fail
  go_at_call 17
  refine (cut17 s _ (by omega)).mono ?_
  rintro e W1 ⟨v, ws, rfl, hown, hcut, b1⟩
  obtain ⟨f1, f2⟩ := blk_below' b1
  obtain ⟨k1, k2, k3⟩ := cut_words hcut hs
  obtain ⟨g, cap, rfl, hrow⟩ := row_of hown k1
  rw [HC.out] at hcut
  obtain ⟨a, ys, rfl, ha, hlen⟩ := bytes_cons hcut
  clear k3 hcut hown k1
  have e0 : (a.toList == [119, 114, 105, 116, 101]) = false := by rw [word_eq, ha]; decide
  have e1 : (a.toList == [100, 101, 108, 101, 116, 101]) = false := by rw [word_eq, ha]; decide
  have e2 : (a.toList == [99, 111, 109, 112, 105, 108, 101]) = false := by rw [word_eq, ha]; decide
  have e3 : (a.toList == [108, 111, 97, 100]) = false := by rw [word_eq, ha]; decide
  have e4 : (a.toList == [114, 117, 110]) = true := by rw [word_eq, ha]; decide
  have c0 := hrow 0 a rfl
  have bl : (((ys.length : Int) + 1) == 3) = false := by rw [beq_eq_false_iff_ne]; omega
  have hk2 : ys.length + 1 ≤ 1000000 := by simpa using k2
  have hg := cell_lt c0
  have F1 := Lib.hid f1
  have F2 := Lib.hid f2
  have FA := Lib.hid (fun o => (Go.heap_alloc_old W1 o (lt_of_heap F1.out)).trans F1.out)
  have FD := Lib.hid (fun o => (show (W1.alloc o).drew.heap[w.heap.size]? = _ from (Go.heap_alloc_old W1 o (lt_of_heap F1.out)).trans F1.out))
  have q0 := fun o => (blk_later F1.out o).1
  have q1 := fun o => (blk_later F1.out o).2.1
  have q2 := fun o => (blk_later F1.out o).2.2.1
  have q3 := fun o => (blk_later F1.out o).2.2.2.1
  have q4 := fun o => (blk_later F1.out o).2.2.2.2.1
  have q5 := fun o => (blk_later F1.out o).2.2.2.2.2.1
  have qf := fun o => (blk_later F1.out o).2.2.2.2.2.2
  clear b1 hrow f1 f2 ha hlen k2 hl
  simp only [List.length_cons]
  go_wp2_with fail
  refine ret_cmd (cs := cmdC cmd0) Tryz.results9 rfl rfl (by (try rw [heap_drew]); rw [heap_set, heap_set, heap_set, heap_set, heap_set, heap_set]; (first | rw [FA.out] | rw [FD.out]); simp [setObj, cmdC, cmd0]) rfl ⟨?_, ?_⟩
  · rw [HP.out]
    rfl
  · try (with_reducible refine Below.drew ?_)
    repeat (with_reducible refine below_set ?_)
    first
      | exact F2.out.alloc F2.out.size _
      | exact (F2.out.alloc F2.out.size _).drew

set_option maxRecDepth 100000 in
set_option maxHeartbeats 4000000 in
theorem ref_none (s : ByteArray) (b : List UInt8) (r : List (List UInt8)) (w : World) (hs : s.size ≤ 999999) (hc : cutL s.data.toList = b :: r) (hno : b ≠ wWrite ∧ b ≠ wDelete ∧ b ≠ wCompile ∧ b ≠ wLoad ∧ b ≠ wRun) :
    Calls Tryz.prog 9 #[.string s] w (CmdPost w (parseL s.data.toList)) := by
  have hp : parseL s.data.toList = none := by unfold parseL; rw [hc]; exact parse_none_other _ _ hno
  have HC := Lib.hid hc
  have HP := Lib.hid hp
  clear hc hp
  go_enter Tryz.func9, Tryz.ntmps9
  go_wp2_with fail
  go_at_call 17
  refine (cut17 s _ (by omega)).mono ?_
  rintro e W1 ⟨v, ws, rfl, hown, hcut, b1⟩
  obtain ⟨f1, f2⟩ := blk_below' b1
  obtain ⟨k1, k2, k3⟩ := cut_words hcut hs
  obtain ⟨g, cap, rfl, hrow⟩ := row_of hown k1
  rw [HC.out] at hcut
  obtain ⟨a, ys, rfl, ha, hlen⟩ := bytes_cons hcut
  clear k3 hcut hown k1
  have e0 : (a.toList == [119, 114, 105, 116, 101]) = false := by rw [word_eq, ha]; simpa [wWrite] using hno.1
  have e1 : (a.toList == [100, 101, 108, 101, 116, 101]) = false := by rw [word_eq, ha]; simpa [wDelete] using hno.2.1
  have e2 : (a.toList == [99, 111, 109, 112, 105, 108, 101]) = false := by rw [word_eq, ha]; simpa [wCompile] using hno.2.2.1
  have e3 : (a.toList == [108, 111, 97, 100]) = false := by rw [word_eq, ha]; simpa [wLoad] using hno.2.2.2.1
  have e4 : (a.toList == [114, 117, 110]) = false := by rw [word_eq, ha]; simpa [wRun] using hno.2.2.2.2
  have c0 := hrow 0 a rfl
  have hk2 : ys.length + 1 ≤ 1000000 := by simpa using k2
  have hg := cell_lt c0
  have F1 := Lib.hid f1
  have F2 := Lib.hid f2
  have FA := Lib.hid (fun o => (Go.heap_alloc_old W1 o (lt_of_heap F1.out)).trans F1.out)
  have FD := Lib.hid (fun o => (show (W1.alloc o).drew.heap[w.heap.size]? = _ from (Go.heap_alloc_old W1 o (lt_of_heap F1.out)).trans F1.out))
  have q0 := fun o => (blk_later F1.out o).1
  have q1 := fun o => (blk_later F1.out o).2.1
  have q2 := fun o => (blk_later F1.out o).2.2.1
  have q3 := fun o => (blk_later F1.out o).2.2.2.1
  have q4 := fun o => (blk_later F1.out o).2.2.2.2.1
  have q5 := fun o => (blk_later F1.out o).2.2.2.2.2.1
  have qf := fun o => (blk_later F1.out o).2.2.2.2.2.2
  clear b1 hrow f1 f2 ha hlen k2 hno
  simp only [List.length_cons]
  go_wp2_with fail
  refine ret_cmd (cs := cmdC cmd0) Tryz.results9 rfl rfl (by (try rw [heap_drew]); rw [heap_set, heap_set, heap_set, heap_set, heap_set, heap_set]; (first | rw [FA.out] | rw [FD.out]); simp [setObj, cmdC, cmd0]) rfl ⟨?_, ?_⟩
  · rw [HP.out]
    rfl
  · try (with_reducible refine Below.drew ?_)
    repeat (with_reducible refine below_set ?_)
    first
      | exact F2.out.alloc F2.out.size _
      | exact (F2.out.alloc F2.out.size _).drew

/-- THE REFERENCE's PARSE: whatever the line. -/
theorem ref9 (s : ByteArray) (w : World) (hs : s.size ≤ 999999) : Calls Tryz.prog 9 #[.string s] w (CmdPost w (parseL s.data.toList)) := by
  cases hc : cutL s.data.toList with
  | nil => exact absurd hc (cutGo_ne _ _)
  | cons a r =>
    by_cases h1 : a = wWrite
    · subst h1
      by_cases hl : r.length = 2
      · match r, hl with
        | [n, t], _ => exact ref_write s n t w hs hc
      · exact ref_write_other s r w hs hc hl
    by_cases h2 : a = wDelete
    · subst h2
      by_cases hl : r.length = 1
      · match r, hl with
        | [n], _ => exact ref_delete s n w hs hc
      · exact ref_delete_other s r w hs hc hl
    by_cases h3 : a = wCompile
    · subst h3
      by_cases hl : r.length = 1
      · match r, hl with
        | [n], _ => exact ref_compile s n w hs hc
      · exact ref_compile_other s r w hs hc hl
    by_cases h4 : a = wLoad
    · subst h4
      by_cases hl : r.length = 3
      · match r, hl with
        | [n, x, y], _ => exact ref_load s n x y w hs hc
      · exact ref_load_other s r w hs hc hl
    by_cases h5 : a = wRun
    · subst h5
      by_cases hl : r.length = 2
      · match r, hl with
        | [n, t], _ => exact ref_run s n t w hs hc
      · exact ref_run_other s r w hs hc hl
    · exact ref_none s a r w hs hc ⟨h1, h2, h3, h4, h5⟩
end Go.Proofs.YtiblpkgbabjmfaaGreatDoor
