/- farm.refused and a farm's answers. -/
import Derived.Test.YtiblpkgbabjmfaaGreatDoorWP
import Derived.Test.YtiblpkgbabjmfaaGreatDoorWRa
namespace Go.Proofs.YtiblpkgbabjmfaaGreatDoor
open Go.RowKit

/-- An answer that bears a code alone. -/
def ansC (c a : Int) : Array Value := #[.int .i64 c, .int .i64 a, .int .u32 0, .slice none 0 0, .int .i64 0, .int .i64 0, .string ⟨#[]⟩, .int .i64 0, .int .i64 0]
def ansV (c a : Int) : Value := .agg (ansC c a)

theorem ret_ans {fn : Func} {W : World} {b : Nat} {cs : Array Value} {tmps : Array Value} {Q : Ending → World → Prop} (hfn : fn.results = #[.cell 4 63]) (h2 : tmps.getD 4 undef = .pointer (some ⟨b, 0, none⟩))
    (hW : W.heap[b]? = some (.cells cs 63 (0, 0))) (hs : cs.size = 9) (hQ : Q (.returned (.agg cs)) W) : bodyPost Tryz.prog fn Q Exit.ret { tmps := tmps, defers := [] } W := by
  have hl := run_loadVar_row (P := Tryz.prog) W b 63 63 cs (0, 0) _ hW Tryz.underlying63 rfl (by rw [hs]; kernel_rfl)
  have h2' : tmps[4]?.getD undef = .pointer (some ⟨b, 0, none⟩) := by simpa using h2
  refine bodyPost_ret (v := .agg cs) ?_ rfl hQ
  simp [results, hfn, asAddr, h2', hl]

def AnsPost (w : World) (c a : Int) (e : Ending) (w' : World) : Prop := e = .returned (ansV c a) ∧ Below w.heap.size w w'

set_option maxRecDepth 100000 in
set_option maxHeartbeats 400000 in
theorem refused48 (c a : Int) (w : World) : Calls Tryz.prog 48 #[.int .i64 c, .int .i64 a] w (AnsPost w c a) := by
  go_enter Tryz.func48, Tryz.ntmps48
  go_wp2
  exact ret_ans (cs := ansC c a) Tryz.results48 rfl (Go.heap_alloc_new _ _) rfl ⟨rfl, (Below.refl _ w).alloc (Nat.le_refl _) _⟩

/-- A farm that holds nothing but a store at s. -/
def farmC (s : Nat) : Array Value := #[.pointer (some ⟨s, 0, none⟩), .slice none 0 0, .int .i64 0, .slice none 0 0, .bool false]

set_option maxRecDepth 100000 in
set_option maxHeartbeats 400000 in
theorem farm25 (w : World) : Calls Tryz.prog 25 #[] w fun e w' => e = .returned (.pointer (some ⟨w.heap.size + 1, 0, none⟩)) ∧ w' = (w.alloc (.cells #[.map none] 101)).alloc (.cells (farmC w.heap.size) 84) := by
  go_enter Tryz.func25, Tryz.ntmps25
  go_wp2_with (go_at_call 38; refine (new11 _).mono ?_; rintro e w1 ⟨rfl, rfl⟩)
  go_ret
  exact ⟨rfl, rfl⟩

theorem heap_old {w : World} {p : Nat} {ob : Obj} (o : Obj) (h : w.heap[p]? = some ob) : (w.alloc o).heap[p]? = some ob :=
  (Go.heap_alloc_old w o (Array.getElem?_eq_some_iff.1 h).1).trans h

theorem farm_cells {W : World} {p s : Nat} (h : W.heap[p]? = some (.cells (farmC s) 84 (0, 0))) : W.cell? ⟨p, 0, none⟩ = some (.pointer (some ⟨s, 0, none⟩)) ∧ W.cell? ⟨p, 4, none⟩ = some (.bool false) := by
  refine ⟨?_, ?_⟩ <;> (rw [cell_of_row _ _ _ _ _ _ h]; rfl)

def ans0 : Array Value := ansC 0 0
theorem ans_block {w W1 : World} {c6 z9 : Array Value} (hb : Below ((w.alloc (.cells c6 26)).alloc (.cells z9 63)).heap.size ((w.alloc (.cells c6 26)).alloc (.cells z9 63)) W1) :
    W1.heap[w.heap.size + 1]? = some (.cells z9 63 (0, 0)) ∧ Below w.heap.size w W1 := by
  have e : (w.alloc (.cells c6 26)).heap.size = w.heap.size + 1 := by simp
  have h := Go.heap_alloc_new (w.alloc (.cells c6 26)) (.cells z9 63)
  rw [e] at h
  exact ⟨(hb.block _ (by simp)).trans h, below_after (((Below.refl _ w).alloc (Nat.le_refl _) _).alloc (by simp) _) hb⟩

theorem ansC_one (c a : Int) : ∀ v ∈ (ansC c a).toList, v.oneCell' = true := by simp [ansC, Value.oneCell']

set_option maxRecDepth 100000 in
set_option maxHeartbeats 400000 in
theorem run47 (p : Nat) (a b c d e f : Value) (w : World) (s : Nat) (hp : w.heap[p]? = some (.cells (farmC s) 84 (0, 0))) : Calls Tryz.prog 47 #[.pointer (some ⟨p, 0, none⟩), .agg #[a, b, c, d, e, f]] w (AnsPost w 250 0) := by
  have c4 := fun o o' => (farm_cells (heap_old o' (heap_old o hp))).2
  have hlt := (Array.getElem?_eq_some_iff.1 hp).1
  clear hp
  go_enter Tryz.func47, Tryz.ntmps47
  go_wp2_with (first
    | (go_at_call 48; refine (refused48 _ _ _).mono ?_; rintro e W1 ⟨rfl, b1⟩; obtain ⟨f1, f2⟩ := ans_block b1)
    | (refine wpList_store_row rfl 63 (.tmp 4) (.tmp 12) rfl _ rfl 63 (ansC 250 0) _ rfl f1 rfl (by kernel_rfl) (ansC_one _ _) ?_))
  exact ret_ans (cs := ansC 250 0) Tryz.results47 rfl (setRow_heap _ _ _ _ _ _ f1) rfl ⟨rfl, below_setRow f2 (by omega) _⟩

theorem write_facts {w W : World} {p s : Nat} {op fu wo st : Value} {n t : ByteArray} (hW : W = (w.alloc (.cells #[op, .string n, .string t, fu, wo, st] 26)).alloc (.cells (ansC 0 0) 63)) (hp : w.heap[p]? = some (.cells (farmC s) 84 (0, 0))) (hs : IsStore w s none []) :
    W.cell? ⟨p, 0, none⟩ = some (.pointer (some ⟨s, 0, none⟩)) ∧ W.cell? ⟨w.heap.size, 1, none⟩ = some (.string n) ∧ W.cell? ⟨w.heap.size, 2, none⟩ = some (.string t) ∧ W.heap[w.heap.size + 1]? = some (.cells (ansC 0 0) 63 (0, 0)) ∧ Below w.heap.size w W ∧ IsStore W s none [] ∧ p < W.heap.size ∧ w.heap.size + 1 < W.heap.size := by
  have hB : Below w.heap.size w W := by rw [hW]; exact ((Below.refl _ w).alloc (Nat.le_refl _) _).alloc (by simp) _
  have e1 : (w.alloc (.cells #[op, .string n, .string t, fu, wo, st] 26)).heap.size = w.heap.size + 1 := by simp
  have hc : W.heap[w.heap.size]? = some (.cells #[op, .string n, .string t, fu, wo, st] 26 (0, 0)) := by
    rw [hW]; exact heap_old _ (Go.heap_alloc_new w _)
  have ha : W.heap[w.heap.size + 1]? = some (.cells (ansC 0 0) 63 (0, 0)) := by
    have h := Go.heap_alloc_new (w.alloc (.cells #[op, .string n, .string t, fu, wo, st] 26)) (.cells (ansC 0 0) 63)
    rw [e1] at h; rw [hW]; exact h
  have hp' := (hB.block _ (Array.getElem?_eq_some_iff.1 hp).1).trans hp
  refine ⟨(farm_cells hp').1, ?_, ?_, ha, hB, hs.below hB, (Array.getElem?_eq_some_iff.1 hp').1, (Array.getElem?_eq_some_iff.1 ha).1⟩ <;> (rw [cell_of_row _ _ _ _ _ _ hc]; rfl)

set_option maxRecDepth 100000 in
set_option maxHeartbeats 400000 in
theorem write43 (p s : Nat) (op fu wo st : Value) (n t : ByteArray) (w : World) (hp : w.heap[p]? = some (.cells (farmC s) 84 (0, 0))) (hs : IsStore w s none []) (hn : n.size ≤ maxLen) (ht : t.size ≤ 131072) (hnm : nameL n.data.toList = true) :
    Calls Tryz.prog 43 #[.pointer (some ⟨p, 0, none⟩), .agg #[op, .string n, .string t, fu, wo, st]] w fun e w' => e = .returned (ansV 0 0) ∧ Only (fun k => k = s) w w' := by
  have HF := Lib.hid (fun W hW => write_facts (w := w) (W := W) (op := op) (fu := fu) (wo := wo) (st := st) (n := n) (t := t) hW hp hs)
  have hlt := (Array.getElem?_eq_some_iff.1 hp).1
  have hsl := (Array.getElem?_eq_some_iff.1 hs.1).1
  clear hp hs
  go_enter Tryz.func43, Tryz.ntmps43
  go_upto_region 1 with fail
  obtain ⟨c0, c1, c2, f1, f2, f3, f4, f5⟩ := HF.out _ rfl
  have F1 := Lib.hid f1
  have F2 := Lib.hid f2
  have F3 := Lib.hid f3
  clear f1 f2 f3 HF
  revert c0 c1 c2 F1 F2 F3 f4 f5
  unfold ansC
  generalize World.alloc (World.alloc w _) _ = W0
  intro c0 c1 c2 f4 f5 F1 F2 F3
  refine wp_region_still_tail 8 (by kernel_rfl) (by kernel_rfl) ?_
  simp only [List.take_succ_cons, List.take_zero, List.drop_succ_cons, List.drop_zero]
  change wpStill _ _ W0.drew (fun a' => wpList _ _ _ _ a' W0.drew) _ _
  have d0 : W0.drew.cell? ⟨p, 0, none⟩ = some (.pointer (some ⟨s, 0, none⟩)) := c0
  have d1 : W0.drew.cell? ⟨w.heap.size, 1, none⟩ = some (.string n) := c1
  have d2 : W0.drew.cell? ⟨w.heap.size, 2, none⟩ = some (.string t) := c2
  repeat still_step
  refine wpStill_nil ?_
  have hput := put12 (w := W0.drew) (b := s) (mo := none) (m := []) (n := n) (t := t) F3.out hn (by unfold maxLen; omega) (by simp)
  have HP := Lib.hid hput
  clear hput
  have hcode : putCode [] n.data.toList t = 0 := by
    have : ¬ 131072 < t.size := by omega
    simp [putCode, hnm, this]
  unfold PutPost at HP
  rw [hcode] at HP
  go_wp2_with (first
    | (go_at_call 60; refine HP.out.mono ?_; rintro e W1 ⟨mo', rfl, g1, g2, g3⟩)
    | (go_at_call 48; refine (refused48 _ _ _).mono ?_; rintro e W2 ⟨rfl, b1⟩; have f6 := (b1.block _ (Nat.lt_of_lt_of_le f5 g2.size)).trans ((g2.block _ f5 (by rintro (h | h); (omega); cases h)).trans F1.out))
    | (refine wpList_store_row rfl 63 (.tmp 4) (.tmp 14) rfl _ rfl 63 (ansC 0 0) _ rfl f6 rfl (by kernel_rfl) (ansC_one _ _) ?_))
  refine ret_ans (cs := ansC 0 0) Tryz.results43 rfl (setRow_heap _ _ _ _ _ _ f6) rfl ⟨rfl, ?_⟩
  refine ⟨b1.os.trans (g2.os.trans F2.out.os), b1.tape.trans (g2.tape.trans F2.out.tape), b1.output.trans (g2.output.trans F2.out.output), ?_, fun k hk hks => ?_⟩
  · rw [setRow_size]
    exact Nat.le_trans F2.out.size (Nat.le_trans g2.size b1.size)
  · rw [setRow_other _ _ _ _ (by omega)]
    have h1 := F2.out.block k hk
    have hk2 := Nat.lt_of_lt_of_le hk F2.out.size
    have h2 := g2.block k hk2 (by rintro (h | h); (exact hks h); cases h)
    exact (b1.block k (Nat.lt_of_lt_of_le hk2 g2.size)).trans (h2.trans h1)
end Go.Proofs.YtiblpkgbabjmfaaGreatDoor
