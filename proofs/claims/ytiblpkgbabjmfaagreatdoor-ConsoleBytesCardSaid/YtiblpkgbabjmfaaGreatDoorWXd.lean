/- console.Run: the state between two lines. -/
import Derived.Test.YtiblpkgbabjmfaaGreatDoorWXc
namespace Go.Proofs.YtiblpkgbabjmfaaGreatDoor
open Go.RowKit

theorem p_run : parseL [114, 117, 110, 32, 53, 32, 45] = some ⟨5, [], [], 5, 0, 0⟩ := by decide +kernel
theorem p_write : parseL [119, 114, 105, 116, 101, 32, 65, 46, 77, 111, 100, 32, 48, 48] = some ⟨1, [65, 46, 77, 111, 100], [0], 0, 0, 0⟩ := by decide +kernel
theorem p_what : parseL [119, 104, 97, 116] = none := by decide +kernel
theorem p_load : parseL [108, 111, 97, 100, 32, 65, 32, 51, 48, 48, 32, 54, 52] = some ⟨4, [65], [], 0, 300, 64⟩ := by decide +kernel
theorem f_run : failL 250 0 = [101, 114, 114, 111, 114, 32, 50, 53, 48, 32, 97, 116, 32, 48] := by decide +kernel
theorem f_what : failL 60 0 = [101, 114, 114, 111, 114, 32, 54, 48, 32, 97, 116, 32, 48] := by decide +kernel
theorem n_mod : nameL [65, 46, 77, 111, 100] = true := by decide +kernel
theorem i250 : (Lib.itoa 250).length ≤ 100 := by decide +kernel
theorem i60 : (Lib.itoa 60).length ≤ 100 := by decide +kernel
theorem i0 : (Lib.itoa 0).length ≤ 100 := by decide +kernel

/-- The world W of a run that began in w; v holds the lines so far. -/
structure RunAt (w W : World) (v : Value) (ws : List ByteArray) : Prop where
  own : W.ownsRow (w.heap.size + 1 + 1) 9 1 v ws.length (ws.map Value.string)
  below : Below w.heap.size w W
  farm : W.heap[w.heap.size + 1]? = some (.cells (farmC w.heap.size) 84 (0, 0))
  size : w.heap.size + 1 + 1 ≤ W.heap.size

theorem run_start (w : World) {W : World} (h : W = (w.alloc (.cells #[.map none] 101)).alloc (.cells (farmC w.heap.size) 84)) : RunAt w W (.slice none 0 0) [] ∧ IsStore W w.heap.size none [] := by
  subst h
  have e1 : (w.alloc (.cells #[.map none] 101)).heap.size = w.heap.size + 1 := by simp
  have hf := Go.heap_alloc_new (w.alloc (.cells #[.map none] 101)) (.cells (farmC w.heap.size) 84)
  rw [e1] at hf
  exact ⟨⟨World.ownsRow_nil _ _ _ _, ((Below.refl _ w).alloc (Nat.le_refl _) _).alloc (by omega) _, hf, by simp⟩, heap_old _ (Go.heap_alloc_new w _), rfl⟩

theorem RunAt.later {w W W' : World} {v : Value} {ws : List ByteArray} (h : RunAt w W v ws) (b : Below W.heap.size W W') : RunAt w W' v ws :=
  ⟨ownsRow_below h.own b, below_after h.below b, (b.block _ (by have := h.size; omega)).trans h.farm, Nat.le_trans h.size b.size⟩
theorem RunAt.drew {w W : World} {v : Value} {ws : List ByteArray} (h : RunAt w W v ws) : RunAt w W.drew v ws := h.later (Below.refl _ _).drew

theorem RunAt.only {w W W' : World} {v : Value} {ws : List ByteArray} (h : RunAt w W v ws) (b : Only (fun k => k = w.heap.size) W W') : RunAt w W' v ws := by
  refine ⟨?_, ⟨b.os.trans h.below.os, b.tape.trans h.below.tape, b.output.trans h.below.output, Nat.le_trans h.below.size b.size, fun k hk => ?_⟩, (b.block _ (by have := h.size; omega) (by omega)).trans h.farm, Nat.le_trans h.size b.size⟩
  · obtain ⟨hl, h0 | ⟨g, cap, cur, rfl, hg, hh, hr⟩⟩ := h.own
    · exact ⟨hl, .inl h0⟩
    · exact ⟨hl, .inr ⟨g, cap, cur, rfl, hg, (b.block g (Array.getElem?_eq_some_iff.1 hh).1 (by omega)).trans hh, hr⟩⟩
  · exact (b.block k (Nat.lt_of_lt_of_le hk h.below.size) (by omega)).trans (h.below.block k hk)

theorem RunAt.more {w W W' : World} {o : Obj} {v v' : Value} {ws : List ByteArray} {x : ByteArray} (h : RunAt w W v ws) (ho : W'.ownsRow (w.heap.size + 1 + 1) 9 1 v' (ws.length + 1) (ws.map Value.string ++ [Value.string x])) (hg : (W.alloc o).grownBy W' v.ownBlock) : RunAt w W' v' (ws ++ [x]) := by
  have hb : Below (w.heap.size + 1 + 1) W W' := ((Below.refl _ W).alloc h.size o).grown hg (by have := h.size; simp; omega) (fun k hk => (h.own.lt k hk).1)
  exact ⟨by simpa using ho, h.below.trans (hb.mono (by omega)), (hb.block _ (by omega)).trans h.farm, Nat.le_trans h.size hb.size⟩

theorem store_more {w W W' : World} {o : Obj} {v : Value} {ws : List ByteArray} (h : RunAt w W v ws) (hs : IsStore W w.heap.size none []) (hg : (W.alloc o).grownBy W' v.ownBlock) : IsStore W' w.heap.size none [] := by
  have hb : Below (w.heap.size + 1 + 1) W W' := ((Below.refl _ W).alloc h.size o).grown hg (by have := h.size; simp; omega) (fun k hk => (h.own.lt k hk).1)
  exact ⟨(hb.block _ (by omega)).trans hs.1, rfl⟩

theorem cmd_laid (W : World) (z cs : Array Value) : ((W.alloc (.cells z 26)).setRow W.heap.size cs).heap[W.heap.size]? = some (.cells cs 26 (0, 0)) ∧ Below W.heap.size W ((W.alloc (.cells z 26)).setRow W.heap.size cs) :=
  ⟨setRow_heap _ _ _ _ _ _ (Go.heap_alloc_new _ _), below_setRow ((Below.refl _ W).alloc (Nat.le_refl _) _) (Nat.le_refl _) _⟩
theorem cmdC_one (c : Cmd) : ∀ v ∈ (cmdC c).toList, v.oneCell' = true := by simp [cmdC, Value.oneCell']

def runLines : List ByteArray := [⟨#[114, 117, 110, 32, 53, 32, 45]⟩, ⟨#[119, 114, 105, 116, 101, 32, 65, 46, 77, 111, 100, 32, 48, 48]⟩, ⟨#[119, 104, 97, 116]⟩]
def runOut : List ByteArray := [⟨#[101, 114, 114, 111, 114, 32, 50, 53, 48, 32, 97, 116, 32, 48]⟩, ⟨#[111, 107]⟩, ⟨#[101, 114, 114, 111, 114, 32, 54, 48, 32, 97, 116, 32, 48]⟩]

def RunPost (w : World) (e : Ending) (w' : World) : Prop := ∃ v, e = .returned (.tuple #[v, .int .i64 0]) ∧ w'.ownsRow w.heap.size 9 1 v 3 (runOut.map Value.string) ∧ Below w.heap.size w w'

theorem e_arr : (([] : List UInt8).toArray) = #[] := rfl

theorem parse_run (w : World) (hL : Laid w) : Calls Tryz.prog 8 #[.string ⟨#[114, 117, 110, 32, 53, 32, 45]⟩] w fun e w' => e = .returned (.tuple #[.agg #[.int .i64 5, .string ⟨#[]⟩, .string ⟨#[]⟩, .int .i64 5, .int .i64 0, .int .i64 0], .int .i64 0]) ∧ Below w.heap.size w w' := by
  refine (parse8 ⟨#[114, 117, 110, 32, 53, 32, 45]⟩ w hL (by decide)).mono ?_
  rintro e w' ⟨rfl, b⟩
  exact ⟨by rw [show (⟨#[114, 117, 110, 32, 53, 32, 45]⟩ : ByteArray).data.toList = [114, 117, 110, 32, 53, 32, 45] from rfl, p_run]; rfl, b⟩
theorem parse_write (w : World) (hL : Laid w) : Calls Tryz.prog 8 #[.string ⟨#[119, 114, 105, 116, 101, 32, 65, 46, 77, 111, 100, 32, 48, 48]⟩] w fun e w' => e = .returned (.tuple #[.agg #[.int .i64 1, .string ⟨#[65, 46, 77, 111, 100]⟩, .string ⟨#[0]⟩, .int .i64 0, .int .i64 0, .int .i64 0], .int .i64 0]) ∧ Below w.heap.size w w' := by
  refine (parse8 ⟨#[119, 114, 105, 116, 101, 32, 65, 46, 77, 111, 100, 32, 48, 48]⟩ w hL (by decide)).mono ?_
  rintro e w' ⟨rfl, b⟩
  exact ⟨by rw [show (⟨#[119, 114, 105, 116, 101, 32, 65, 46, 77, 111, 100, 32, 48, 48]⟩ : ByteArray).data.toList = [119, 114, 105, 116, 101, 32, 65, 46, 77, 111, 100, 32, 48, 48] from rfl, p_write]; rfl, b⟩
theorem parse_what (w : World) (hL : Laid w) : Calls Tryz.prog 8 #[.string ⟨#[119, 104, 97, 116]⟩] w fun e w' => e = .returned (.tuple #[.agg #[.int .i64 0, .string ⟨#[]⟩, .string ⟨#[]⟩, .int .i64 0, .int .i64 0, .int .i64 0], .int .i64 60]) ∧ Below w.heap.size w w' := by
  refine (parse8 ⟨#[119, 104, 97, 116]⟩ w hL (by decide)).mono ?_
  rintro e w' ⟨rfl, b⟩
  exact ⟨by rw [show (⟨#[119, 104, 97, 116]⟩ : ByteArray).data.toList = [119, 104, 97, 116] from rfl, p_what]; rfl, b⟩
theorem parse_load (w : World) (hL : Laid w) : Calls Tryz.prog 8 #[.string ⟨#[108, 111, 97, 100, 32, 65, 32, 51, 48, 48, 32, 54, 52]⟩] w fun e w' => e = .returned (.tuple #[.agg #[.int .i64 4, .string ⟨#[65]⟩, .string ⟨#[]⟩, .int .i64 0, .int .i64 300, .int .i64 64], .int .i64 0]) ∧ Below w.heap.size w w' := by
  refine (parse8 ⟨#[108, 111, 97, 100, 32, 65, 32, 51, 48, 48, 32, 54, 52]⟩ w hL (by decide)).mono ?_
  rintro e w' ⟨rfl, b⟩
  exact ⟨by rw [show (⟨#[108, 111, 97, 100, 32, 65, 32, 51, 48, 48, 32, 54, 52]⟩ : ByteArray).data.toList = [108, 111, 97, 100, 32, 65, 32, 51, 48, 48, 32, 54, 52] from rfl, p_load]; rfl, b⟩

theorem store_cmd {ops : Array Oper} {rest : List Oper} {o : Oper} {a : Act} {W : World} {Q : Exit → Act → World → Prop} (hgd : o.guard = none) (x y : Operand) (ho : o.op = .store 26 x y) {z : Array Value}
    (hx : a.eval x = .pointer (some ⟨W.heap.size, 0, none⟩)) (cs : Array Value) (hy : a.eval y = .agg cs) (hz : z.size = 6) (hs : cs.size = 6) (h1 : ∀ v ∈ cs.toList, v.oneCell' = true)
    (h : ∀ V, V.heap[W.heap.size]? = some (.cells cs 26 (0, 0)) → Below W.heap.size W V → wpList Tryz.prog ops Q rest (a.put o.dst undef) V) : wpList Tryz.prog ops Q (o :: rest) a (W.alloc (.cells z 26)) := by
  obtain ⟨h2, h3⟩ := cmd_laid W z cs
  exact wpList_store_row hgd 26 x y ho _ hx 26 cs z hy (Go.heap_alloc_new _ _) (by rw [hs, hz]) (by rw [hs]; kernel_rfl) h1 (h _ h2 h3)

theorem six_keep {W W' : World} {b : Nat} {v0 v1 v2 v3 v4 v5 : Value} (h : W.cell? ⟨b, 0, none⟩ = some v0 ∧ W.cell? ⟨b, 1, none⟩ = some v1 ∧ W.cell? ⟨b, 2, none⟩ = some v2 ∧ W.cell? ⟨b, 3, none⟩ = some v3 ∧ W.cell? ⟨b, 4, none⟩ = some v4 ∧ W.cell? ⟨b, 5, none⟩ = some v5) (hb : Below W.heap.size W W') :
    W'.cell? ⟨b, 0, none⟩ = some v0 ∧ W'.cell? ⟨b, 1, none⟩ = some v1 ∧ W'.cell? ⟨b, 2, none⟩ = some v2 ∧ W'.cell? ⟨b, 3, none⟩ = some v3 ∧ W'.cell? ⟨b, 4, none⟩ = some v4 ∧ W'.cell? ⟨b, 5, none⟩ = some v5 :=
  ⟨keep_cell rfl h.1 hb, keep_cell rfl h.2.1 hb, keep_cell rfl h.2.2.1 hb, keep_cell rfl h.2.2.2.1 hb, keep_cell rfl h.2.2.2.2.1 hb, keep_cell rfl h.2.2.2.2.2 hb⟩

theorem six_block {W W' : World} {b : Nat} {v0 v1 v2 v3 v4 v5 : Value} (h : W.cell? ⟨b, 0, none⟩ = some v0 ∧ W.cell? ⟨b, 1, none⟩ = some v1 ∧ W.cell? ⟨b, 2, none⟩ = some v2 ∧ W.cell? ⟨b, 3, none⟩ = some v3 ∧ W.cell? ⟨b, 4, none⟩ = some v4 ∧ W.cell? ⟨b, 5, none⟩ = some v5) (hb : W'.heap[b]? = W.heap[b]?) :
    W'.cell? ⟨b, 0, none⟩ = some v0 ∧ W'.cell? ⟨b, 1, none⟩ = some v1 ∧ W'.cell? ⟨b, 2, none⟩ = some v2 ∧ W'.cell? ⟨b, 3, none⟩ = some v3 ∧ W'.cell? ⟨b, 4, none⟩ = some v4 ∧ W'.cell? ⟨b, 5, none⟩ = some v5 := by
  have e : ∀ j, W'.cell? ⟨b, j, none⟩ = W.cell? ⟨b, j, none⟩ := fun j => World.cell?_of_block (w := W) (a := ⟨b, j, none⟩) hb
  simp only [e]; exact h

theorem grown_block {W W' : World} {o : Obj} {row : Option Nat} (hg : (W.alloc o).grownBy W' row) {k : Nat} (hk : k < W.heap.size) (hr : row ≠ some k) : W'.heap[k]? = W.heap[k]? :=
  (hg.block k (by simp; omega) (fun e => hr e.symm)).trans (Below.heap_alloc W o k hk)

set_option maxRecDepth 100000 in
set_option maxHeartbeats 2000000 in
theorem run13 (g cap : Nat) (w : World) (hL : Laid w) (hr : RowAt w g runLines) : Calls Tryz.prog 13 #[.slice (some ⟨g, 0, none⟩) 3 cap] w (RunPost w) := by
  have HL := Lib.hid hL
  have HR := Lib.hid hr
  clear hL hr
  obtain ⟨j0, hi0, hz0, hz1, hz2⟩ := info_parts info9
  go_enter Tryz.func13, Tryz.ntmps13
  go_wp2_with (go_at_call 25; refine (farm25 _).mono ?_; rintro e W1 ⟨rfl, hW1⟩; obtain ⟨r1, s1⟩ := run_start w hW1; have R1 := Lib.hid r1; have S1 := Lib.hid s1; clear hW1 r1 s1)
  refine wp_loop_rounds 4 ?_
  rw [rounds_succ]
  have hg1 : W1.cell? ⟨g, 0, none⟩ = _ := (HR.out.below R1.out.below) 0 _ rfl
  go_upto_region 11 with (first
    | (go_at_call 8; refine (parse_run _ (HL.out.below R1.out.below)).mono ?_; rintro e W1a ⟨rfl, b1a⟩; have B1a := Lib.hid b1a; have L1a := b1a.size; clear b1a hg1)
    | (refine store_cmd rfl (.tmp 8) (.tmp 23) rfl rfl _ rfl rfl rfl (by simp [Value.oneCell']) ?_; intro W1b c1 b1b; obtain ⟨q0, q1, q2, q3, q4, q5, -⟩ := blk_facts c1; have R1b := Lib.hid ((R1.out.later B1a.out).later b1b); have L1b := (Array.getElem?_eq_some_iff.1 c1).1; have S1b := Lib.hid ((S1.out.below B1a.out).below b1b); clear c1 b1b))
  have d1 := six_block ⟨q0, q1, q2, q3, q4, q5⟩ (show W1b.drew.heap[W1a.heap.size]? = W1b.heap[W1a.heap.size]? from rfl)
  clear q0 q1 q2 q3 q4 q5
  go_region_held3 (fun w' => w'.cell? ⟨W1a.heap.size, 0, none⟩ = some (.int .i64 5) ∧ w'.cell? ⟨W1a.heap.size, 1, none⟩ = some (.string ⟨#[]⟩) ∧ w'.cell? ⟨W1a.heap.size, 2, none⟩ = some (.string ⟨#[]⟩) ∧ w'.cell? ⟨W1a.heap.size, 3, none⟩ = some (.int .i64 5) ∧ w'.cell? ⟨W1a.heap.size, 4, none⟩ = some (.int .i64 0) ∧ w'.cell? ⟨W1a.heap.size, 5, none⟩ = some (.int .i64 0))
    (first | exact d1 | exact six_keep d1 b1c | exact six_keep (six_keep d1 b1c) b1d | exact six_keep (six_keep (six_keep d1 b1c) b1d) ((Below.refl _ _).alloc (Nat.le_refl _) _) | exact six_block (six_keep (six_keep d1 b1c) b1d) hq1)
    (first
     | (go_at_call 28; refine (do_run (w.heap.size + 1) _ _ _ _ _ _ w.heap.size R1b.out.drew.farm).mono ?_; rintro e W1c ⟨rfl, b1c⟩; have L1c := b1c.size)
     | (go_at_call 27; refine (answer_bad 5 250 0 _ (HL.out.below ((R1b.out.drew.later b1c).below)) rfl (by unfold InInt; omega) (by unfold InInt; omega) i250 i0).mono ?_; rintro e W1d ⟨rfl, b1d⟩; have L1d := b1d.size)
     | (rw [if_pos (by rfl)]; refine wp_append_own _ (.tmp 33) (.tmp 40) 40 rfl (w.heap.size + 1 + 1) 9 j0 (.string ByteArray.empty) 1 16 Tryz.underlying40 hi0 hz0 hz1 hz2 rfl (by decide) (.slice none 0 0) ([] : List ByteArray).length (([] : List ByteArray).map Value.string) rfl (((R1b.out.drew.later b1c).later b1d).own.alloc _) ⟨W1d.heap.size, 0, none⟩ 1 1 [.string ⟨(failL 250 0).toArray⟩] rfl rfl (new_cell W1d 9 _) (one_str _) (by decide) (by decide) (by have := ((R1b.out.drew.later b1c).later b1d).size; simp; omega) ?_; intro v1 W1e hown1 hgrow1 _; have hq1 := grown_block hgrow1 (k := W1a.heap.size) (by first | omega | (have : W1b.drew.heap.size = W1b.heap.size := rfl; omega)) (by simp [Value.ownBlock])))
  have R2 := Lib.hid (((R1b.out.drew.later b1c).later b1d).more hown1 hgrow1)
  have S2 := Lib.hid (store_more ((R1b.out.drew.later b1c).later b1d) (((S1b.out.below (Below.refl _ _).drew).below b1c).below b1d) hgrow1)
  clear d1 hq1 hown1 hgrow1
  go_wp2_with fail
  rw [rounds_succ]
  have hg2 : W1e.cell? ⟨g, 1, none⟩ = _ := (HR.out.below R2.out.below) 1 _ rfl
  go_upto_region 11 with (first
    | (go_at_call 8; refine (parse_write _ (HL.out.below R2.out.below)).mono ?_; rintro e W2a ⟨rfl, b2a⟩; have B2a := Lib.hid b2a; have L2a := b2a.size; clear b2a hg2)
    | (refine store_cmd rfl (.tmp 8) (.tmp 23) rfl rfl _ rfl rfl rfl (by simp [Value.oneCell']) ?_; intro W2b c2 b2b; obtain ⟨q0, q1, q2, q3, q4, q5, -⟩ := blk_facts c2; have R2b := Lib.hid ((R2.out.later B2a.out).later b2b); have L2b := (Array.getElem?_eq_some_iff.1 c2).1; have S2b := Lib.hid ((S2.out.below B2a.out).below b2b); clear c2 b2b))
  have d2 := six_block ⟨q0, q1, q2, q3, q4, q5⟩ (show W2b.drew.heap[W2a.heap.size]? = W2b.heap[W2a.heap.size]? from rfl)
  clear q0 q1 q2 q3 q4 q5
  go_region_held3 (fun w' => w'.cell? ⟨W2a.heap.size, 0, none⟩ = some (.int .i64 1) ∧ w'.cell? ⟨W2a.heap.size, 1, none⟩ = some (.string ⟨#[65, 46, 77, 111, 100]⟩) ∧ w'.cell? ⟨W2a.heap.size, 2, none⟩ = some (.string ⟨#[0]⟩) ∧ w'.cell? ⟨W2a.heap.size, 3, none⟩ = some (.int .i64 0) ∧ w'.cell? ⟨W2a.heap.size, 4, none⟩ = some (.int .i64 0) ∧ w'.cell? ⟨W2a.heap.size, 5, none⟩ = some (.int .i64 0))
    (first | exact d2 | exact six_block d2 hc2 | exact six_keep (six_block d2 hc2) b2d | exact six_keep (six_keep (six_block d2 hc2) b2d) ((Below.refl _ _).alloc (Nat.le_refl _) _) | exact six_block (six_keep (six_block d2 hc2) b2d) hq2)
    (first
     | (go_at_call 28; refine (do_write (w.heap.size + 1) ⟨#[65, 46, 77, 111, 100]⟩ ⟨#[0]⟩ _ _ _ _ w.heap.size R2b.out.drew.farm (S2b.out.below (Below.refl _ _).drew) (by decide) (by decide) n_mod).mono ?_; rintro e W2c ⟨rfl, b2c⟩; have L2c := b2c.size; have hc2 := b2c.block W2a.heap.size L2b (by have := R2.out.size; omega))
     | (go_at_call 27; refine (answer_ok _).mono ?_; rintro e W2d ⟨rfl, b2d⟩; have L2d := b2d.size)
     | (rw [if_pos (by rfl)]; refine wp_append_own _ (.tmp 33) (.tmp 40) 40 rfl (w.heap.size + 1 + 1) 9 j0 (.string ByteArray.empty) 1 16 Tryz.underlying40 hi0 hz0 hz1 hz2 rfl (by decide) v1 ([⟨(failL 250 0).toArray⟩] : List ByteArray).length (([⟨(failL 250 0).toArray⟩] : List ByteArray).map Value.string) rfl (((R2b.out.drew.only b2c).later b2d).own.alloc _) ⟨W2d.heap.size, 0, none⟩ 1 1 [.string ⟨#[111, 107]⟩] rfl rfl (new_cell W2d 9 _) (one_str _) (by decide) (by decide) (by have := ((R2b.out.drew.only b2c).later b2d).size; simp; omega) ?_; intro v2 W2e hown2 hgrow2 _; have hq2 := grown_block hgrow2 (k := W2a.heap.size) (by first | omega | (have : W2b.drew.heap.size = W2b.heap.size := rfl; omega)) (by intro hk; have := (R2.out.own.lt _ hk).2; omega)))
  have R3 := Lib.hid (((R2b.out.drew.only b2c).later b2d).more hown2 hgrow2)
  clear d2 hq2 hown2 hgrow2
  go_wp2_with fail
  rw [rounds_succ]
  have hg3 : W2e.cell? ⟨g, 2, none⟩ = _ := (HR.out.below R3.out.below) 2 _ rfl
  go_wp2_with (first
    | (go_at_call 8; refine (parse_what _ (HL.out.below R3.out.below)).mono ?_; rintro e W3a ⟨rfl, b3a⟩; have B3a := Lib.hid b3a; clear b3a hg3)
    | (refine store_cmd rfl (.tmp 8) (.tmp 23) rfl rfl _ rfl rfl rfl (by simp [Value.oneCell']) ?_; intro W3b c3 b3b; have R3b := Lib.hid ((R3.out.later B3a.out).later b3b); clear c3 b3b)
    | (go_at_call 26; refine (failed26 60 0 _ (HL.out.below R3b.out.below) (by unfold InInt; omega) (by unfold InInt; omega) i60 i0).mono ?_; rintro e W3d ⟨rfl, b3d⟩)
    | (at_builtin; refine wpList_append_own _ rfl (.tmp 27) (.tmp 31) 40 rfl (w.heap.size + 1 + 1) 9 j0 (.string ByteArray.empty) 1 16 Tryz.underlying40 hi0 hz0 hz1 hz2 rfl (by decide) v2 ([⟨(failL 250 0).toArray⟩, ⟨#[111, 107]⟩] : List ByteArray).length (([⟨(failL 250 0).toArray⟩, ⟨#[111, 107]⟩] : List ByteArray).map Value.string) rfl ((R3b.out.later b3d).own.alloc _) ⟨W3d.heap.size, 0, none⟩ 1 1 [.string ⟨(failL 60 0).toArray⟩] rfl rfl (new_cell W3d 9 _) (one_str _) (by decide) (by decide) (by have := (R3b.out.later b3d).size; simp; omega) ?_; intro v3 W3e hown3 hgrow3 _; have R4 := Lib.hid ((R3b.out.later b3d).more hown3 hgrow3); clear hown3 hgrow3))
  rw [rounds_succ]
  go_wp2_with fail
  go_ret2
  have hw : RunAt w W3e v3 _ := R4.out
  rw [f_run, f_what] at hw
  refine ⟨v3, rfl, ?_, hw.below⟩
  obtain ⟨hl, h⟩ := hw.own
  rcases h with ⟨_, h⟩ | ⟨g', cap', cur, e1, e2, e3⟩
  · cases h
  · exact ⟨hl, .inr ⟨g', cap', cur, e1, by omega, e3⟩⟩
end Go.Proofs.YtiblpkgbabjmfaaGreatDoor
