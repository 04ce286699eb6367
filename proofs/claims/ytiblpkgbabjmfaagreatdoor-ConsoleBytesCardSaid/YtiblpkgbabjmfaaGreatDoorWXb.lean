/- farm.Do: the table of functions, made anew in each call. -/
import Derived.Test.YtiblpkgbabjmfaaGreatDoorWXa
namespace Go.Proofs.YtiblpkgbabjmfaaGreatDoor
open Go.RowKit

def fnV (k : Nat) : Value := .func (.func k) #[] #[]
def tab1 : Array MapEntry := #[⟨.int .i64 1, fnV 43, 0⟩]
def tab2 : Array MapEntry := #[⟨.int .i64 1, fnV 43, 0⟩, ⟨.int .i64 2, fnV 44, 1⟩]
def tab3 : Array MapEntry := #[⟨.int .i64 1, fnV 43, 0⟩, ⟨.int .i64 2, fnV 44, 1⟩, ⟨.int .i64 3, fnV 45, 2⟩]
def tab4 : Array MapEntry := #[⟨.int .i64 1, fnV 43, 0⟩, ⟨.int .i64 2, fnV 44, 1⟩, ⟨.int .i64 3, fnV 45, 2⟩, ⟨.int .i64 4, fnV 46, 3⟩]
def tab5 : Array MapEntry := #[⟨.int .i64 1, fnV 43, 0⟩, ⟨.int .i64 2, fnV 44, 1⟩, ⟨.int .i64 3, fnV 45, 2⟩, ⟨.int .i64 4, fnV 46, 3⟩, ⟨.int .i64 5, fnV 47, 4⟩]

theorem check3 (w : World) (k : Int) (b : Bool) : (Instr.checkKey b 10000 3 (.int .i64 k)).run Tryz.prog w = .ok () w := by
  have h : ∀ n, (Instr.checkKey b (n + 1) 3 (.int .i64 k)).run Tryz.prog w = .ok () w := fun n => by
    simp [Instr.checkKey, run_underlying Tryz.underlying3]
  exact h 9999

theorem run_put92 {w : World} {r : Nat} {es : Array MapEntry} {clock : Nat} (hr : w.heap[r]? = some (.map es clock)) (k : Int) (v : Value) (hn : Instr.findNow (.int .i64) (.int .i64 k) es.toList 0 = some none) :
    (Instr.mapUpdate 92 (.map (some r)) (.int .i64 k) v).run Tryz.prog w = .ok () (setMap w r (es.push { key := .int .i64 k, val := v, born := clock }) (clock + 1)) := by
  have hg : (getObj r).run Tryz.prog w = .ok (.map es clock) w := by simp [getObj, Sem.run, hr]
  have hs : ∀ o, (Go.setObj r o).run Tryz.prog w = .ok () { w with heap := w.heap.setIfInBounds r o } := fun o => by simp [Go.setObj, Sem.run, hr]
  have hc := check3 w k false
  have hf : (Instr.findKey 3 (.int .i64 k) es.toList).run Tryz.prog w = .ok none w := by
    simp [Instr.findKey, run_underlying Tryz.underlying3, hn]
  simp [Instr.mapUpdate, run_underlying Tryz.underlying92, hg, hc, hf, hs, setMap]

theorem run_get92 {w : World} {r : Nat} {es : Array MapEntry} {clock : Nat} (hr : w.heap[r]? = some (.map es clock)) (he : es.isEmpty = false) (k : Int) {i : Nat} {v : Value} (hn : Instr.findNow (.int .i64) (.int .i64 k) es.toList 0 = some (some (i, v))) :
    (Instr.lookup 92 (.map (some r)) (.int .i64 k) true).run Tryz.prog w = .ok (.tuple #[v, .bool true]) w := by
  have hg : (getObj r).run Tryz.prog w = .ok (.map es clock) w := by simp [getObj, Sem.run, hr]
  have hc := check3 w k false
  have hf : (Instr.findKey 3 (.int .i64 k) es.toList).run Tryz.prog w = .ok (some (i, v)) w := by
    simp [Instr.findKey, run_underlying Tryz.underlying3, hn]
  simp [Instr.lookup, run_underlying Tryz.underlying92, hg, hc, hf, he]

theorem setMap_size (w : World) (r : Nat) (es : Array MapEntry) (clock : Nat) : (setMap w r es clock).heap.size = w.heap.size := by simp [setMap]
theorem setMap_below {a W : World} {r : Nat} (h : Below a.heap.size a W) (hr : a.heap.size ≤ r) (es : Array MapEntry) (clock : Nat) : Below a.heap.size a (setMap W r es clock) :=
  ⟨h.os, h.tape, h.output, by rw [setMap_size]; exact h.size, fun k hk => by rw [setMap_other (by omega)]; exact h.block k hk⟩

/-- Do's own memory: the command, the answer, the table. -/
structure DoAt (w W : World) (cs : Array Value) (es : Array MapEntry) (clock : Nat) : Prop where
  cmd : W.heap[w.heap.size]? = some (.cells cs 26 (0, 0))
  ans : W.heap[w.heap.size + 1]? = some (.cells (ansC 0 0) 63 (0, 0))
  tab : W.heap[w.heap.size + 1 + 1]? = some (.map es clock)
  below : Below w.heap.size w W

theorem do_start (w : World) (cs : Array Value) : DoAt w (((w.alloc (.cells cs 26)).alloc (.cells (ansC 0 0) 63)).alloc (.map #[] 0)) cs #[] 0 := by
  have e1 : (w.alloc (.cells cs 26)).heap.size = w.heap.size + 1 := by simp
  have e2 : ((w.alloc (.cells cs 26)).alloc (.cells (ansC 0 0) 63)).heap.size = w.heap.size + 1 + 1 := by simp
  have ha := heap_old (.map #[] 0) (Go.heap_alloc_new (w.alloc (.cells cs 26)) (.cells (ansC 0 0) 63))
  rw [e1] at ha
  have hm := Go.heap_alloc_new ((w.alloc (.cells cs 26)).alloc (.cells (ansC 0 0) 63)) (.map #[] 0)
  rw [e2] at hm
  exact ⟨heap_old _ (heap_old _ (Go.heap_alloc_new w (.cells cs 26))), ha, hm, (((Below.refl _ w).alloc (Nat.le_refl _) _).alloc (by omega) _).alloc (by omega) _⟩

theorem DoAt.put {w W : World} {cs : Array Value} {es : Array MapEntry} {clock : Nat} (h : DoAt w W cs es clock) (es' : Array MapEntry) (clock' : Nat) : DoAt w (setMap W (w.heap.size + 1 + 1) es' clock') cs es' clock' :=
  ⟨(setMap_other (by omega)).trans h.cmd, (setMap_other (by omega)).trans h.ans, setMap_same (Array.getElem?_eq_some_iff.1 h.tab).1, setMap_below h.below (by omega) _ _⟩

theorem wpList_put92 {ops : Array Oper} {rest : List Oper} {o : Oper} {a : Act} {w W : World} {Q : Exit → Act → World → Prop} (hgd : o.guard = none) (x y z : Operand) (ho : o.op = .insert 92 x y z)
    (k : Int) (v : Value) (hx : a.eval x = .map (some (w.heap.size + 1 + 1))) (hy : a.eval y = .int .i64 k) (hz : a.eval z = v) {cs : Array Value} {es : Array MapEntry} {clock : Nat}
    (hd : DoAt w W cs es clock) (hn : Instr.findNow (.int .i64) (.int .i64 k) es.toList 0 = some none)
    (es' : Array MapEntry) (clock' : Nat) (he : es.push { key := .int .i64 k, val := v, born := clock } = es') (hc : clock + 1 = clock')
    (h : ∀ V, DoAt w V cs es' clock' → wpList Tryz.prog ops Q rest (a.put o.dst undef) V) : wpList Tryz.prog ops Q (o :: rest) a W := by
  subst he; subst hc
  refine wpList_plain hgd fun K hK => ?_
  unfold Oper.wp execOp
  simp only [ho, hx, hy, hz, Sem.run_bind, run_put92 hd.tab k v hn, Result.andThen_ok]
  exact hK _ _ (h _ (hd.put _ _))

set_option maxRecDepth 100000 in
set_option maxHeartbeats 400000 in
theorem do_run (p : Nat) (b c d e f : Value) (w : World) (s : Nat) (hp : w.heap[p]? = some (.cells (farmC s) 84 (0, 0))) : Calls Tryz.prog 28 #[.pointer (some ⟨p, 0, none⟩), .agg #[.int .i64 5, b, c, d, e, f]] w (AnsPost w 250 0) := by
  have hmm := @run_makeMap Tryz.prog
  have HP := Lib.hid hp
  clear hp
  go_enter Tryz.func28, Tryz.ntmps28
  go_upto_region 2 with (first
    | (refine wpList_put92 (w := w) rfl _ _ _ rfl 1 (fnV 43) rfl rfl rfl (do_start w #[.int .i64 5, b, c, d, e, f]) rfl tab1 1 rfl rfl ?_; intro V1 D1; have E1 := Lib.hid D1; clear D1)
    | (refine wpList_put92 (w := w) rfl _ _ _ rfl 2 (fnV 44) rfl rfl rfl E1.out rfl tab2 2 rfl rfl ?_; intro V2 D2; have E2 := Lib.hid D2; clear D2)
    | (refine wpList_put92 (w := w) rfl _ _ _ rfl 3 (fnV 45) rfl rfl rfl E2.out rfl tab3 3 rfl rfl ?_; intro V3 D3; have E3 := Lib.hid D3; clear D3)
    | (refine wpList_put92 (w := w) rfl _ _ _ rfl 4 (fnV 46) rfl rfl rfl E3.out rfl tab4 4 rfl rfl ?_; intro V4 D4; have E4 := Lib.hid D4; clear D4)
    | (refine wpList_put92 (w := w) rfl _ _ _ rfl 5 (fnV 47) rfl rfl rfl E4.out rfl tab5 5 rfl rfl ?_; intro V5 D5
       obtain ⟨c0, c1, c2, c3, c4, c5, -⟩ := blk_facts D5.cmd
       have hget := run_get92 D5.tab rfl 5 (i := 4) (v := fnV 47) rfl
       have E5 := Lib.hid D5; clear D5 E1 E2 E3 E4))
  unfold fnV
  go_wp2_with (first
    | (go_at_call 47; refine (run47 p _ _ _ _ _ _ _ s ((E5.out.below.block _ (Array.getElem?_eq_some_iff.1 HP.out).1).trans HP.out)).mono ?_; rintro e W1 ⟨rfl, b1⟩; have f1 := (b1.block _ (Array.getElem?_eq_some_iff.1 E5.out.ans).1).trans E5.out.ans)
    | (refine wpList_store_row rfl 63 (.tmp 4) (.tmp 25) rfl _ rfl 63 (ansC 250 0) _ rfl f1 rfl (by kernel_rfl) (ansC_one _ _) ?_))
  exact ret_ans (cs := ansC 250 0) Tryz.results28 rfl (setRow_heap _ _ _ _ _ _ f1) rfl ⟨rfl, below_setRow (below_after E5.out.below b1) (by omega) _⟩

set_option maxRecDepth 100000 in
set_option maxHeartbeats 400000 in
theorem do_write (p : Nat) (n t : ByteArray) (d e f : Value) (w : World) (s : Nat) (hp : w.heap[p]? = some (.cells (farmC s) 84 (0, 0))) (hs : IsStore w s none []) (hn : n.size ≤ maxLen) (ht : t.size ≤ 131072) (hnm : nameL n.data.toList = true) :
    Calls Tryz.prog 28 #[.pointer (some ⟨p, 0, none⟩), .agg #[.int .i64 1, .string n, .string t, d, e, f]] w fun e w' => e = .returned (ansV 0 0) ∧ Only (fun k => k = s) w w' := by
  have hmm := @run_makeMap Tryz.prog
  have HP := Lib.hid hp
  have HSt := Lib.hid hs
  have hsl := (Array.getElem?_eq_some_iff.1 hs.1).1
  clear hp hs
  go_enter Tryz.func28, Tryz.ntmps28
  go_upto_region 2 with (first
    | (refine wpList_put92 (w := w) rfl _ _ _ rfl 1 (fnV 43) rfl rfl rfl (do_start w #[.int .i64 1, .string n, .string t, d, e, f]) rfl tab1 1 rfl rfl ?_; intro V1 D1; have E1 := Lib.hid D1; clear D1)
    | (refine wpList_put92 (w := w) rfl _ _ _ rfl 2 (fnV 44) rfl rfl rfl E1.out rfl tab2 2 rfl rfl ?_; intro V2 D2; have E2 := Lib.hid D2; clear D2)
    | (refine wpList_put92 (w := w) rfl _ _ _ rfl 3 (fnV 45) rfl rfl rfl E2.out rfl tab3 3 rfl rfl ?_; intro V3 D3; have E3 := Lib.hid D3; clear D3)
    | (refine wpList_put92 (w := w) rfl _ _ _ rfl 4 (fnV 46) rfl rfl rfl E3.out rfl tab4 4 rfl rfl ?_; intro V4 D4; have E4 := Lib.hid D4; clear D4)
    | (refine wpList_put92 (w := w) rfl _ _ _ rfl 5 (fnV 47) rfl rfl rfl E4.out rfl tab5 5 rfl rfl ?_; intro V5 D5
       obtain ⟨c0, c1, c2, c3, c4, c5, -⟩ := blk_facts D5.cmd
       have hget := run_get92 D5.tab rfl 1 (i := 0) (v := fnV 43) rfl
       have E5 := Lib.hid D5; clear D5 E1 E2 E3 E4))
  unfold fnV
  go_wp2_with (first
    | (go_at_call 43; refine (write43 p s _ _ _ _ n t _ ((E5.out.below.block _ (Array.getElem?_eq_some_iff.1 HP.out).1).trans HP.out) (HSt.out.below E5.out.below) hn ht hnm).mono ?_; rintro e W1 ⟨rfl, b1⟩; have f1 := (b1.block _ (Array.getElem?_eq_some_iff.1 E5.out.ans).1 (by omega)).trans E5.out.ans)
    | (refine wpList_store_row rfl 63 (.tmp 4) (.tmp 25) rfl _ rfl 63 (ansC 0 0) _ rfl f1 rfl (by kernel_rfl) (ansC_one _ _) ?_))
  refine ret_ans (cs := ansC 0 0) Tryz.results28 rfl (setRow_heap _ _ _ _ _ _ f1) rfl ⟨rfl, b1.os.trans E5.out.below.os, b1.tape.trans E5.out.below.tape, b1.output.trans E5.out.below.output, ?_, fun k hk hks => ?_⟩
  · rw [setRow_size]
    exact Nat.le_trans E5.out.below.size b1.size
  · rw [setRow_other _ _ _ _ (by omega)]
    exact (b1.block k (Nat.lt_of_lt_of_le hk E5.out.below.size) hks).trans (E5.out.below.block k hk)
end Go.Proofs.YtiblpkgbabjmfaaGreatDoor
