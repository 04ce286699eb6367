/- The contract of console.Line: a command's line, or none. -/
import Derived.Test.YtiblpkgbabjmfaaGreatDoorWS
import Derived.Deep.RegionHeld3
import Derived.Lib.ItoaLen
namespace Go.Proofs.YtiblpkgbabjmfaaGreatDoor
open Go.RowKit

/-- What Line answers. -/
def lineV (o : Option (List UInt8)) : Value := match o with
  | some l => .tuple #[.string ⟨l.toArray⟩, .int .i64 0]
  | none => .tuple #[.string ⟨#[]⟩, .int .i64 1]
def LinePost (w : World) (o : Option (List UInt8)) (e : Ending) (w' : World) : Prop := e = .returned (lineV o) ∧ Below w.heap.size w w'

theorem keep_cell {w w1 : World} {a : Addr} {v : Value} (ha : a.spot = none) (h : w.cell? a = some v) (hb : Below w.heap.size w w1) : w1.cell? a = some v := by
  obtain ⟨b, o, s⟩ := a
  obtain rfl : s = none := ha
  rw [hb.cell (p := ⟨b, o, none⟩) (cell_lt h)]; exact h

theorem cat_arr (a b : List UInt8) : (⟨a.toArray⟩ : ByteArray) ++ ⟨b.toArray⟩ = ⟨(a ++ b).toArray⟩ := by
  apply ByteArray.ext
  rw [ByteArray.data_append]
  simp

theorem hexed_l (l : List UInt8) (w : World) (hs : l.length ≤ 100000) : Calls Tryz.prog 21 #[.string ⟨l.toArray⟩] w (TextPost w (hexL l)) :=
  hexed21 ⟨l.toArray⟩ w (by show l.toArray.size ≤ _; simp; omega)
theorem hexa_l (l : List UInt8) (w : World) (hs : l.length ≤ 100000) : Calls Tryz.prog 23 #[.string ⟨l.toArray⟩] w (TextPost w (hexL l)) :=
  hexa23 ⟨l.toArray⟩ w (by show l.toArray.size ≤ _; simp; omega)
theorem parse_l (l : List UInt8) (w : World) (hL : Laid w) (hs : l.length ≤ 999999) : Calls Tryz.prog 8 #[.string ⟨l.toArray⟩] w (CmdPost w (parseL l)) :=
  parse8 ⟨l.toArray⟩ w hL (by show l.toArray.size ≤ _; simpa using hs)

theorem below_grow {w : World} (k : Nat) (os : Array Obj) : Below w.heap.size w (Go.Sort.grow (w.drewN k) os) := by
  refine ⟨rfl, rfl, rfl, ?_, fun i hi => ?_⟩
  · show w.heap.size ≤ (w.heap ++ os).size
    simp
  · show (w.heap ++ os)[i]? = w.heap[i]?
    rw [Array.getElem?_append_left hi]

/-- A number of the machine's. -/
def InInt (n : Int) : Prop := -9223372036854775808 ≤ n ∧ n ≤ 9223372036854775807

theorem itoa22 (n : Int) (w : World) (hL : Laid w) (hn : InInt n) : Calls Tryz.prog 22 #[.int .i64 n] w (TextPost w (Lib.itoa n)) := by
  refine (Tryz.strconv_Itoa n hn.1 hn.2 w hL.tab).mono ?_
  rintro e w' ⟨rfl, k, os, rfl⟩
  exact ⟨rfl, below_grow k os⟩
theorem dec_i (n : Int) (w : World) (h0 : 0 ≤ n) (hn : InInt n) : Calls Tryz.prog 24 #[.int .i64 n] w (TextPost w (Lib.itoa n)) := by
  have e : Lib.itoa n = Lib.decDigits n.toNat := by unfold Lib.itoa; rw [if_neg (by omega)]
  have h := dec24 n.toNat (by have := hn.2; omega) w
  rw [Int.toNat_of_nonneg h0] at h
  rw [e]; exact h

/-- The box's cells. -/
def boxC (c : Cmd) : Obj := .cells #[.int .i64 c.op, .string ⟨c.name.toArray⟩, .string ⟨c.text.toArray⟩, .int .i64 c.fuel, .int .i64 c.words, .int .i64 c.stack] 26

theorem box_start (c : Cmd) (w : World) : (w.alloc (boxC c)).heap[w.heap.size]? = some (boxC c) ∧ Below w.heap.size w (w.alloc (boxC c)) :=
  ⟨Go.heap_alloc_new _ _, (Below.refl _ w).alloc (Nat.le_refl _) _⟩

theorem line_ok {c : Cmd} (h : parseL (lineW c) = some c) : lineL c = some (lineW c) := by unfold lineL; rw [if_pos h]
theorem line_bad {c : Cmd} (h : parseL (lineW c) ≠ some c) : lineL c = none := by unfold lineL; rw [if_neg h]
theorem line_neg {c : Cmd} (h : c.fuel < 0 ∨ c.words < 0 ∨ c.stack < 0) : lineL c = none := line_bad fun e => by
  have := parse_nonneg e
  omega

set_option maxRecDepth 100000 in
set_option maxHeartbeats 4000000 in
theorem line_1 (c : Cmd) (w : World) (hL : Laid w) (ho : c.op = 1) (ht : c.text.length ≤ 100000) (hn : c.name.length ≤ 100000) (hf : InInt c.fuel) (hw : InInt c.words) (hst : InInt c.stack) :
    Calls Tryz.prog 11 #[cmdV c] w (LinePost w (lineL c)) := by
  have HT := Lib.hid ht
  have HF := Lib.hid hf
  have HWD := Lib.hid hw
  have HST := Lib.hid hst
  have HL := Lib.hid hL
  have hxl := hexL_length c.text
  have hlw : lineW c = [119, 114, 105, 116, 101, 32] ++ c.name ++ [32] ++ hexL c.text := by simp [lineW, ho, wWrite]
  have hlen : (lineW c).length ≤ 999999 := by
    rw [hlw]; simp; omega
  have HLEN := Lib.hid hlen
  have HLW := Lib.hid hlw
  have ha1 : ¬ 9223372036854775807 < 6 + c.name.length := by omega
  have ha2 : ¬ 9223372036854775807 < 6 + c.name.length + 1 := by omega
  have ha3 : ¬ 9223372036854775807 < 6 + c.name.length + 1 + (hexL c.text).length := by omega
  obtain ⟨h0b, hB⟩ := box_start c w
  have H0 := Lib.hid h0b
  have HB := Lib.hid hB
  clear ht hn hL hlen hlw h0b hB hf hw hst hxl
  unfold cmdV cmdC boxC at *
  generalize hop : c.op = op at *
  subst ho
  go_enter Tryz.func11, Tryz.ntmps11
  go_wp2_with fail
  revert H0 HB
  generalize World.alloc w _ = W0
  intro H0 HB
  obtain ⟨q0, q1, q2, q3, q4, q5, qf⟩ := blk_facts (show W0.drew.heap[w.heap.size]? = _ from H0.out)
  have hB : Below w.heap.size w W0.drew := HB.out.drew
  go_region_held3 (fun w' => w'.cell? ⟨w.heap.size, 0, none⟩ = some (.int .i64 1) ∧ w'.cell? ⟨w.heap.size, 1, none⟩ = some (.string ⟨c.name.toArray⟩) ∧ w'.cell? ⟨w.heap.size, 2, none⟩ = some (.string ⟨c.text.toArray⟩) ∧ w'.cell? ⟨w.heap.size, 3, none⟩ = some (.int .i64 c.fuel) ∧ w'.cell? ⟨w.heap.size, 4, none⟩ = some (.int .i64 c.words) ∧ w'.cell? ⟨w.heap.size, 5, none⟩ = some (.int .i64 c.stack) ∧ Below w.heap.size w w')
    (first | exact ⟨q0, q1, q2, q3, q4, q5, hB⟩ | exact ⟨keep_cell rfl q0 b1, keep_cell rfl q1 b1, keep_cell rfl q2 b1, keep_cell rfl q3 b1, keep_cell rfl q4 b1, keep_cell rfl q5 b1, below_after hB b1⟩ | exact ⟨keep_cell rfl u0 b2, keep_cell rfl u1 b2, keep_cell rfl u2 b2, keep_cell rfl u3 b2, keep_cell rfl u4 b2, keep_cell rfl u5 b2, below_after ub b2⟩)
    ((go_at_call 21; refine (hexed_l _ _ HT.out).mono ?_; rintro e W1 ⟨rfl, b1⟩))
  have hS : W1.cell? ⟨w.heap.size, 0, none⟩ = some (.int .i64 1) ∧ W1.cell? ⟨w.heap.size, 1, none⟩ = some (.string ⟨c.name.toArray⟩) ∧ W1.cell? ⟨w.heap.size, 2, none⟩ = some (.string ⟨c.text.toArray⟩) ∧ W1.cell? ⟨w.heap.size, 3, none⟩ = some (.int .i64 c.fuel) ∧ W1.cell? ⟨w.heap.size, 4, none⟩ = some (.int .i64 c.words) ∧ W1.cell? ⟨w.heap.size, 5, none⟩ = some (.int .i64 c.stack) ∧ Below w.heap.size w W1 := by assumption
  obtain ⟨s0, s1, s2, s3, s4, s5, hb1⟩ := hS
  have hcat : (⟨#[119, 114, 105, 116, 101, 32]⟩ : ByteArray) ++ ⟨c.name.toArray⟩ ++ ⟨#[32]⟩ ++ ⟨(hexL c.text).toArray⟩ = ⟨(lineW c).toArray⟩ := by
    rw [HLW.out, ← cat_arr, ← cat_arr, ← cat_arr]
  rw [hcat]
  clear hcat q0 q1 q2 q3 q4 q5 qf ha1 ha2 ha3
  have HB1 := Lib.hid hb1
  clear hb1
  go_wp2_with fail
  go_at_call 8
  refine (parse_l (lineW c) _ (HL.out.below HB1.out) HLEN.out).mono ?_
  rintro e W3 ⟨rfl, b3⟩
  have t0 := keep_cell rfl s0 b3
  have t1 := keep_cell rfl s1 b3
  have t2 := keep_cell rfl s2 b3
  have t3 := keep_cell rfl s3 b3
  have t4 := keep_cell rfl s4 b3
  have t5 := keep_cell rfl s5 b3
  have hlt := cell_lt t0
  have HB2 := Lib.hid (below_after HB1.out b3)
  clear s0 s1 s2 s3 s4 s5 b3
  cases hp : parseL (lineW c) with
  | none =>
    have HP := Lib.hid (line_bad (c := c) (by rw [hp]; simp))
    clear hp
    unfold parseV cmdV cmdC cmd0
    go_wp2_with fail
    go_ret2
    exact ⟨by rw [HP.out]; rfl, HB2.out.alloc HB2.out.size _⟩
  | some d =>
    by_cases hdc : d = c
    · have HP := Lib.hid (line_ok (c := c) (by rw [hp, hdc]))
      subst hdc
      clear hp
      unfold parseV cmdV cmdC
      simp only [hop]
      go_wp2_with fail
      go_ret2
      exact ⟨by rw [HP.out]; rfl, HB2.out.alloc HB2.out.size _⟩
    · have HP := Lib.hid (line_bad (c := c) (by rw [hp]; simpa using hdc))
      have HDC := Lib.hid hdc
      clear hp hdc
      unfold parseV cmdV cmdC
      have hop' := Lib.hid hop
      clear hop
      obtain ⟨o1, n1, x1, f1, w1, z1⟩ := c
      obtain ⟨o2, n2, x2, f2, w2, z2⟩ := d
      simp only at *
      have e1 := str_eq n2 n1
      have e2 := str_eq x2 x1
      go_wp2_with fail
      all_goals first
        | (go_ret2; exact ⟨by rw [HP.out]; rfl, HB2.out.alloc HB2.out.size _⟩)
        | (exfalso; apply HDC.out; have := hop'.out; simp_all)

set_option maxRecDepth 100000 in
set_option maxHeartbeats 4000000 in
theorem line_2 (c : Cmd) (w : World) (hL : Laid w) (ho : c.op = 2) (ht : c.text.length ≤ 100000) (hn : c.name.length ≤ 100000) (hf : InInt c.fuel) (hw : InInt c.words) (hst : InInt c.stack) :
    Calls Tryz.prog 11 #[cmdV c] w (LinePost w (lineL c)) := by
  have HT := Lib.hid ht
  have HF := Lib.hid hf
  have HWD := Lib.hid hw
  have HST := Lib.hid hst
  have HL := Lib.hid hL
  have hlw : lineW c = [100, 101, 108, 101, 116, 101, 32] ++ c.name := by simp [lineW, ho, wDelete]
  have hlen : (lineW c).length ≤ 999999 := by
    rw [hlw]; simp; omega
  have HLEN := Lib.hid hlen
  have HLW := Lib.hid hlw
  have ha1 : ¬ 9223372036854775807 < 7 + c.name.length := by omega
  obtain ⟨h0b, hB⟩ := box_start c w
  have H0 := Lib.hid h0b
  have HB := Lib.hid hB
  clear ht hn hL hlen hlw h0b hB hf hw hst
  unfold cmdV cmdC boxC at *
  generalize hop : c.op = op at *
  subst ho
  go_enter Tryz.func11, Tryz.ntmps11
  go_wp2_with fail
  revert H0 HB
  generalize World.alloc w _ = W1
  intro H0 HB
  obtain ⟨s0, s1, s2, s3, s4, s5, qf⟩ := blk_facts H0.out
  have hb1 := HB.out
  have hcat : (⟨#[100, 101, 108, 101, 116, 101, 32]⟩ : ByteArray) ++ ⟨c.name.toArray⟩ = ⟨(lineW c).toArray⟩ := by
    rw [HLW.out, ← cat_arr]
  rw [hcat]
  clear hcat qf ha1
  have HB1 := Lib.hid hb1
  clear hb1
  go_wp2_with fail
  go_at_call 8
  refine (parse_l (lineW c) _ (HL.out.below HB1.out) HLEN.out).mono ?_
  rintro e W3 ⟨rfl, b3⟩
  have t0 := keep_cell rfl s0 b3
  have t1 := keep_cell rfl s1 b3
  have t2 := keep_cell rfl s2 b3
  have t3 := keep_cell rfl s3 b3
  have t4 := keep_cell rfl s4 b3
  have t5 := keep_cell rfl s5 b3
  have hlt := cell_lt t0
  have HB2 := Lib.hid (below_after HB1.out b3)
  clear s0 s1 s2 s3 s4 s5 b3
  cases hp : parseL (lineW c) with
  | none =>
    have HP := Lib.hid (line_bad (c := c) (by rw [hp]; simp))
    clear hp
    unfold parseV cmdV cmdC cmd0
    go_wp2_with fail
    go_ret2
    exact ⟨by rw [HP.out]; rfl, HB2.out.alloc HB2.out.size _⟩
  | some d =>
    by_cases hdc : d = c
    · have HP := Lib.hid (line_ok (c := c) (by rw [hp, hdc]))
      subst hdc
      clear hp
      unfold parseV cmdV cmdC
      simp only [hop]
      go_wp2_with fail
      go_ret2
      exact ⟨by rw [HP.out]; rfl, HB2.out.alloc HB2.out.size _⟩
    · have HP := Lib.hid (line_bad (c := c) (by rw [hp]; simpa using hdc))
      have HDC := Lib.hid hdc
      clear hp hdc
      unfold parseV cmdV cmdC
      have hop' := Lib.hid hop
      clear hop
      obtain ⟨o1, n1, x1, f1, w1, z1⟩ := c
      obtain ⟨o2, n2, x2, f2, w2, z2⟩ := d
      simp only at *
      have e1 := str_eq n2 n1
      have e2 := str_eq x2 x1
      go_wp2_with fail
      all_goals first
        | (go_ret2; exact ⟨by rw [HP.out]; rfl, HB2.out.alloc HB2.out.size _⟩)
        | (exfalso; apply HDC.out; have := hop'.out; simp_all)

set_option maxRecDepth 100000 in
set_option maxHeartbeats 4000000 in
theorem line_3 (c : Cmd) (w : World) (hL : Laid w) (ho : c.op = 3) (ht : c.text.length ≤ 100000) (hn : c.name.length ≤ 100000) (hf : InInt c.fuel) (hw : InInt c.words) (hst : InInt c.stack) :
    Calls Tryz.prog 11 #[cmdV c] w (LinePost w (lineL c)) := by
  have HT := Lib.hid ht
  have HF := Lib.hid hf
  have HWD := Lib.hid hw
  have HST := Lib.hid hst
  have HL := Lib.hid hL
  have hlw : lineW c = [99, 111, 109, 112, 105, 108, 101, 32] ++ c.name := by simp [lineW, ho, wCompile]
  have hlen : (lineW c).length ≤ 999999 := by
    rw [hlw]; simp; omega
  have HLEN := Lib.hid hlen
  have HLW := Lib.hid hlw
  have ha1 : ¬ 9223372036854775807 < 8 + c.name.length := by omega
  obtain ⟨h0b, hB⟩ := box_start c w
  have H0 := Lib.hid h0b
  have HB := Lib.hid hB
  clear ht hn hL hlen hlw h0b hB hf hw hst
  unfold cmdV cmdC boxC at *
  generalize hop : c.op = op at *
  subst ho
  go_enter Tryz.func11, Tryz.ntmps11
  go_wp2_with fail
  revert H0 HB
  generalize World.alloc w _ = W1
  intro H0 HB
  obtain ⟨s0, s1, s2, s3, s4, s5, qf⟩ := blk_facts H0.out
  have hb1 := HB.out
  have hcat : (⟨#[99, 111, 109, 112, 105, 108, 101, 32]⟩ : ByteArray) ++ ⟨c.name.toArray⟩ = ⟨(lineW c).toArray⟩ := by
    rw [HLW.out, ← cat_arr]
  rw [hcat]
  clear hcat qf ha1
  have HB1 := Lib.hid hb1
  clear hb1
  go_wp2_with fail
  go_at_call 8
  refine (parse_l (lineW c) _ (HL.out.below HB1.out) HLEN.out).mono ?_
  rintro e W3 ⟨rfl, b3⟩
  have t0 := keep_cell rfl s0 b3
  have t1 := keep_cell rfl s1 b3
  have t2 := keep_cell rfl s2 b3
  have t3 := keep_cell rfl s3 b3
  have t4 := keep_cell rfl s4 b3
  have t5 := keep_cell rfl s5 b3
  have hlt := cell_lt t0
  have HB2 := Lib.hid (below_after HB1.out b3)
  clear s0 s1 s2 s3 s4 s5 b3
  cases hp : parseL (lineW c) with
  | none =>
    have HP := Lib.hid (line_bad (c := c) (by rw [hp]; simp))
    clear hp
    unfold parseV cmdV cmdC cmd0
    go_wp2_with fail
    go_ret2
    exact ⟨by rw [HP.out]; rfl, HB2.out.alloc HB2.out.size _⟩
  | some d =>
    by_cases hdc : d = c
    · have HP := Lib.hid (line_ok (c := c) (by rw [hp, hdc]))
      subst hdc
      clear hp
      unfold parseV cmdV cmdC
      simp only [hop]
      go_wp2_with fail
      go_ret2
      exact ⟨by rw [HP.out]; rfl, HB2.out.alloc HB2.out.size _⟩
    · have HP := Lib.hid (line_bad (c := c) (by rw [hp]; simpa using hdc))
      have HDC := Lib.hid hdc
      clear hp hdc
      unfold parseV cmdV cmdC
      have hop' := Lib.hid hop
      clear hop
      obtain ⟨o1, n1, x1, f1, w1, z1⟩ := c
      obtain ⟨o2, n2, x2, f2, w2, z2⟩ := d
      simp only at *
      have e1 := str_eq n2 n1
      have e2 := str_eq x2 x1
      go_wp2_with fail
      all_goals first
        | (go_ret2; exact ⟨by rw [HP.out]; rfl, HB2.out.alloc HB2.out.size _⟩)
        | (exfalso; apply HDC.out; have := hop'.out; simp_all)

set_option maxRecDepth 100000 in
set_option maxHeartbeats 4000000 in
theorem line_4 (c : Cmd) (w : World) (hL : Laid w) (ho : c.op = 4) (ht : c.text.length ≤ 100000) (hn : c.name.length ≤ 100000) (hf : InInt c.fuel) (hw : InInt c.words) (hst : InInt c.stack) :
    Calls Tryz.prog 11 #[cmdV c] w (LinePost w (lineL c)) := by
  have HT := Lib.hid ht
  have HF := Lib.hid hf
  have HWD := Lib.hid hw
  have HST := Lib.hid hst
  have HL := Lib.hid hL
  have hil := Lib.itoa_length_le c.words hw.1 hw.2
  have hil2 := Lib.itoa_length_le c.stack hst.1 hst.2
  have hlw : lineW c = [108, 111, 97, 100, 32] ++ c.name ++ [32] ++ Lib.itoa c.words ++ [32] ++ Lib.itoa c.stack := by simp [lineW, ho, wLoad]
  have hlen : (lineW c).length ≤ 999999 := by
    rw [hlw]; simp; omega
  have HLEN := Lib.hid hlen
  have HLW := Lib.hid hlw
  have ha1 : ¬ 9223372036854775807 < 5 + c.name.length := by omega
  have ha2 : ¬ 9223372036854775807 < 5 + c.name.length + 1 := by omega
  have ha3 : ¬ 9223372036854775807 < 5 + c.name.length + 1 + (Lib.itoa c.words).length := by omega
  have ha4 : ¬ 9223372036854775807 < 5 + c.name.length + 1 + (Lib.itoa c.words).length + 1 := by omega
  have ha5 : ¬ 9223372036854775807 < 5 + c.name.length + 1 + (Lib.itoa c.words).length + 1 + (Lib.itoa c.stack).length := by omega
  obtain ⟨h0b, hB⟩ := box_start c w
  have H0 := Lib.hid h0b
  have HB := Lib.hid hB
  clear ht hn hL hlen hlw h0b hB hf hw hst hil hil2
  unfold cmdV cmdC boxC at *
  generalize hop : c.op = op at *
  subst ho
  go_enter Tryz.func11, Tryz.ntmps11
  go_wp2_with fail
  revert H0 HB
  generalize World.alloc w _ = W0
  intro H0 HB
  obtain ⟨q0, q1, q2, q3, q4, q5, qf⟩ := blk_facts (show W0.drew.heap[w.heap.size]? = _ from H0.out)
  have hB : Below w.heap.size w W0.drew := HB.out.drew
  go_region_held3 (fun w' => w'.cell? ⟨w.heap.size, 0, none⟩ = some (.int .i64 4) ∧ w'.cell? ⟨w.heap.size, 1, none⟩ = some (.string ⟨c.name.toArray⟩) ∧ w'.cell? ⟨w.heap.size, 2, none⟩ = some (.string ⟨c.text.toArray⟩) ∧ w'.cell? ⟨w.heap.size, 3, none⟩ = some (.int .i64 c.fuel) ∧ w'.cell? ⟨w.heap.size, 4, none⟩ = some (.int .i64 c.words) ∧ w'.cell? ⟨w.heap.size, 5, none⟩ = some (.int .i64 c.stack) ∧ Below w.heap.size w w')
    (first | exact ⟨q0, q1, q2, q3, q4, q5, hB⟩ | exact ⟨keep_cell rfl q0 b1, keep_cell rfl q1 b1, keep_cell rfl q2 b1, keep_cell rfl q3 b1, keep_cell rfl q4 b1, keep_cell rfl q5 b1, below_after hB b1⟩ | exact ⟨keep_cell rfl u0 b2, keep_cell rfl u1 b2, keep_cell rfl u2 b2, keep_cell rfl u3 b2, keep_cell rfl u4 b2, keep_cell rfl u5 b2, below_after ub b2⟩)
    (first | (go_at_call 22; have hS1 : W1.cell? ⟨w.heap.size, 0, none⟩ = some (.int .i64 4) ∧ W1.cell? ⟨w.heap.size, 1, none⟩ = some (.string ⟨c.name.toArray⟩) ∧ W1.cell? ⟨w.heap.size, 2, none⟩ = some (.string ⟨c.text.toArray⟩) ∧ W1.cell? ⟨w.heap.size, 3, none⟩ = some (.int .i64 c.fuel) ∧ W1.cell? ⟨w.heap.size, 4, none⟩ = some (.int .i64 c.words) ∧ W1.cell? ⟨w.heap.size, 5, none⟩ = some (.int .i64 c.stack) ∧ Below w.heap.size w W1 := (by assumption); obtain ⟨u0, u1, u2, u3, u4, u5, ub⟩ := hS1; refine (itoa22 c.stack _ (HL.out.below ub) HST.out).mono ?_; rintro e W2 ⟨rfl, b2⟩) | (go_at_call 22; refine (itoa22 c.words _ (HL.out.below hB) HWD.out).mono ?_; rintro e W1 ⟨rfl, b1⟩))
  have hS : W2.cell? ⟨w.heap.size, 0, none⟩ = some (.int .i64 4) ∧ W2.cell? ⟨w.heap.size, 1, none⟩ = some (.string ⟨c.name.toArray⟩) ∧ W2.cell? ⟨w.heap.size, 2, none⟩ = some (.string ⟨c.text.toArray⟩) ∧ W2.cell? ⟨w.heap.size, 3, none⟩ = some (.int .i64 c.fuel) ∧ W2.cell? ⟨w.heap.size, 4, none⟩ = some (.int .i64 c.words) ∧ W2.cell? ⟨w.heap.size, 5, none⟩ = some (.int .i64 c.stack) ∧ Below w.heap.size w W2 := by assumption
  obtain ⟨s0, s1, s2, s3, s4, s5, hb1⟩ := hS
  have hcat : (⟨#[108, 111, 97, 100, 32]⟩ : ByteArray) ++ ⟨c.name.toArray⟩ ++ ⟨#[32]⟩ ++ ⟨(Lib.itoa c.words).toArray⟩ ++ ⟨#[32]⟩ ++ ⟨(Lib.itoa c.stack).toArray⟩ = ⟨(lineW c).toArray⟩ := by
    rw [HLW.out, ← cat_arr, ← cat_arr, ← cat_arr, ← cat_arr, ← cat_arr]
  rw [hcat]
  clear hcat q0 q1 q2 q3 q4 q5 qf ha1 ha2 ha3 ha4 ha5
  have HB1 := Lib.hid hb1
  clear hb1
  go_wp2_with fail
  go_at_call 8
  refine (parse_l (lineW c) _ (HL.out.below HB1.out) HLEN.out).mono ?_
  rintro e W3 ⟨rfl, b3⟩
  have t0 := keep_cell rfl s0 b3
  have t1 := keep_cell rfl s1 b3
  have t2 := keep_cell rfl s2 b3
  have t3 := keep_cell rfl s3 b3
  have t4 := keep_cell rfl s4 b3
  have t5 := keep_cell rfl s5 b3
  have hlt := cell_lt t0
  have HB2 := Lib.hid (below_after HB1.out b3)
  clear s0 s1 s2 s3 s4 s5 b3
  cases hp : parseL (lineW c) with
  | none =>
    have HP := Lib.hid (line_bad (c := c) (by rw [hp]; simp))
    clear hp
    unfold parseV cmdV cmdC cmd0
    go_wp2_with fail
    go_ret2
    exact ⟨by rw [HP.out]; rfl, HB2.out.alloc HB2.out.size _⟩
  | some d =>
    by_cases hdc : d = c
    · have HP := Lib.hid (line_ok (c := c) (by rw [hp, hdc]))
      subst hdc
      clear hp
      unfold parseV cmdV cmdC
      simp only [hop]
      go_wp2_with fail
      go_ret2
      exact ⟨by rw [HP.out]; rfl, HB2.out.alloc HB2.out.size _⟩
    · have HP := Lib.hid (line_bad (c := c) (by rw [hp]; simpa using hdc))
      have HDC := Lib.hid hdc
      clear hp hdc
      unfold parseV cmdV cmdC
      have hop' := Lib.hid hop
      clear hop
      obtain ⟨o1, n1, x1, f1, w1, z1⟩ := c
      obtain ⟨o2, n2, x2, f2, w2, z2⟩ := d
      simp only at *
      have e1 := str_eq n2 n1
      have e2 := str_eq x2 x1
      go_wp2_with fail
      all_goals first
        | (go_ret2; exact ⟨by rw [HP.out]; rfl, HB2.out.alloc HB2.out.size _⟩)
        | (exfalso; apply HDC.out; have := hop'.out; simp_all)

set_option maxRecDepth 100000 in
set_option maxHeartbeats 4000000 in
theorem line_5 (c : Cmd) (w : World) (hL : Laid w) (ho : c.op = 5) (ht : c.text.length ≤ 100000) (_hn : c.name.length ≤ 100000) (hf : InInt c.fuel) (hw : InInt c.words) (hst : InInt c.stack) :
    Calls Tryz.prog 11 #[cmdV c] w (LinePost w (lineL c)) := by
  have HT := Lib.hid ht
  have HF := Lib.hid hf
  have HWD := Lib.hid hw
  have HST := Lib.hid hst
  have HL := Lib.hid hL
  have hxl := hexL_length c.text
  have hil := Lib.itoa_length_le c.fuel hf.1 hf.2
  have hlw : lineW c = [114, 117, 110, 32] ++ Lib.itoa c.fuel ++ [32] ++ hexL c.text := by simp [lineW, ho, wRun]
  have hlen : (lineW c).length ≤ 999999 := by
    rw [hlw]; simp; omega
  have HLEN := Lib.hid hlen
  have HLW := Lib.hid hlw
  have ha1 : ¬ 9223372036854775807 < 4 + (Lib.itoa c.fuel).length := by omega
  have ha2 : ¬ 9223372036854775807 < 4 + (Lib.itoa c.fuel).length + 1 := by omega
  have ha3 : ¬ 9223372036854775807 < 4 + (Lib.itoa c.fuel).length + 1 + (hexL c.text).length := by omega
  obtain ⟨h0b, hB⟩ := box_start c w
  have H0 := Lib.hid h0b
  have HB := Lib.hid hB
  clear ht hL hlen hlw h0b hB hf hw hst hxl hil
  unfold cmdV cmdC boxC at *
  generalize hop : c.op = op at *
  subst ho
  go_enter Tryz.func11, Tryz.ntmps11
  go_wp2_with fail
  revert H0 HB
  generalize World.alloc w _ = W0
  intro H0 HB
  obtain ⟨q0, q1, q2, q3, q4, q5, qf⟩ := blk_facts (show W0.drew.heap[w.heap.size]? = _ from H0.out)
  have hB : Below w.heap.size w W0.drew := HB.out.drew
  go_region_held3 (fun w' => w'.cell? ⟨w.heap.size, 0, none⟩ = some (.int .i64 5) ∧ w'.cell? ⟨w.heap.size, 1, none⟩ = some (.string ⟨c.name.toArray⟩) ∧ w'.cell? ⟨w.heap.size, 2, none⟩ = some (.string ⟨c.text.toArray⟩) ∧ w'.cell? ⟨w.heap.size, 3, none⟩ = some (.int .i64 c.fuel) ∧ w'.cell? ⟨w.heap.size, 4, none⟩ = some (.int .i64 c.words) ∧ w'.cell? ⟨w.heap.size, 5, none⟩ = some (.int .i64 c.stack) ∧ Below w.heap.size w w')
    (first | exact ⟨q0, q1, q2, q3, q4, q5, hB⟩ | exact ⟨keep_cell rfl q0 b1, keep_cell rfl q1 b1, keep_cell rfl q2 b1, keep_cell rfl q3 b1, keep_cell rfl q4 b1, keep_cell rfl q5 b1, below_after hB b1⟩ | exact ⟨keep_cell rfl u0 b2, keep_cell rfl u1 b2, keep_cell rfl u2 b2, keep_cell rfl u3 b2, keep_cell rfl u4 b2, keep_cell rfl u5 b2, below_after ub b2⟩)
    (first | (go_at_call 21; have hS1 : W1.cell? ⟨w.heap.size, 0, none⟩ = some (.int .i64 5) ∧ W1.cell? ⟨w.heap.size, 1, none⟩ = some (.string ⟨c.name.toArray⟩) ∧ W1.cell? ⟨w.heap.size, 2, none⟩ = some (.string ⟨c.text.toArray⟩) ∧ W1.cell? ⟨w.heap.size, 3, none⟩ = some (.int .i64 c.fuel) ∧ W1.cell? ⟨w.heap.size, 4, none⟩ = some (.int .i64 c.words) ∧ W1.cell? ⟨w.heap.size, 5, none⟩ = some (.int .i64 c.stack) ∧ Below w.heap.size w W1 := (by assumption); obtain ⟨u0, u1, u2, u3, u4, u5, ub⟩ := hS1; refine (hexed_l _ _ HT.out).mono ?_; rintro e W2 ⟨rfl, b2⟩) | (go_at_call 22; refine (itoa22 c.fuel _ (HL.out.below hB) HF.out).mono ?_; rintro e W1 ⟨rfl, b1⟩))
  have hS : W2.cell? ⟨w.heap.size, 0, none⟩ = some (.int .i64 5) ∧ W2.cell? ⟨w.heap.size, 1, none⟩ = some (.string ⟨c.name.toArray⟩) ∧ W2.cell? ⟨w.heap.size, 2, none⟩ = some (.string ⟨c.text.toArray⟩) ∧ W2.cell? ⟨w.heap.size, 3, none⟩ = some (.int .i64 c.fuel) ∧ W2.cell? ⟨w.heap.size, 4, none⟩ = some (.int .i64 c.words) ∧ W2.cell? ⟨w.heap.size, 5, none⟩ = some (.int .i64 c.stack) ∧ Below w.heap.size w W2 := by assumption
  obtain ⟨s0, s1, s2, s3, s4, s5, hb1⟩ := hS
  have hcat : (⟨#[114, 117, 110, 32]⟩ : ByteArray) ++ ⟨(Lib.itoa c.fuel).toArray⟩ ++ ⟨#[32]⟩ ++ ⟨(hexL c.text).toArray⟩ = ⟨(lineW c).toArray⟩ := by
    rw [HLW.out, ← cat_arr, ← cat_arr, ← cat_arr]
  rw [hcat]
  clear hcat q0 q1 q2 q3 q4 q5 qf ha1 ha2 ha3
  have HB1 := Lib.hid hb1
  clear hb1
  go_wp2_with fail
  go_at_call 8
  refine (parse_l (lineW c) _ (HL.out.below HB1.out) HLEN.out).mono ?_
  rintro e W3 ⟨rfl, b3⟩
  have t0 := keep_cell rfl s0 b3
  have t1 := keep_cell rfl s1 b3
  have t2 := keep_cell rfl s2 b3
  have t3 := keep_cell rfl s3 b3
  have t4 := keep_cell rfl s4 b3
  have t5 := keep_cell rfl s5 b3
  have hlt := cell_lt t0
  have HB2 := Lib.hid (below_after HB1.out b3)
  clear s0 s1 s2 s3 s4 s5 b3
  cases hp : parseL (lineW c) with
  | none =>
    have HP := Lib.hid (line_bad (c := c) (by rw [hp]; simp))
    clear hp
    unfold parseV cmdV cmdC cmd0
    go_wp2_with fail
    go_ret2
    exact ⟨by rw [HP.out]; rfl, HB2.out.alloc HB2.out.size _⟩
  | some d =>
    by_cases hdc : d = c
    · have HP := Lib.hid (line_ok (c := c) (by rw [hp, hdc]))
      subst hdc
      clear hp
      unfold parseV cmdV cmdC
      simp only [hop]
      go_wp2_with fail
      go_ret2
      exact ⟨by rw [HP.out]; rfl, HB2.out.alloc HB2.out.size _⟩
    · have HP := Lib.hid (line_bad (c := c) (by rw [hp]; simpa using hdc))
      have HDC := Lib.hid hdc
      clear hp hdc
      unfold parseV cmdV cmdC
      have hop' := Lib.hid hop
      clear hop
      obtain ⟨o1, n1, x1, f1, w1, z1⟩ := c
      obtain ⟨o2, n2, x2, f2, w2, z2⟩ := d
      simp only at *
      have e1 := str_eq n2 n1
      have e2 := str_eq x2 x1
      go_wp2_with fail
      all_goals first
        | (go_ret2; exact ⟨by rw [HP.out]; rfl, HB2.out.alloc HB2.out.size _⟩)
        | (exfalso; apply HDC.out; have := hop'.out; simp_all)

set_option maxRecDepth 100000 in
set_option maxHeartbeats 4000000 in
theorem line_0 (c : Cmd) (w : World) (hL : Laid w) (h1 : c.op ≠ 1) (h2 : c.op ≠ 2) (h3 : c.op ≠ 3) (h4 : c.op ≠ 4) (h5 : c.op ≠ 5) :
    Calls Tryz.prog 11 #[cmdV c] w (LinePost w (lineL c)) := by
  have hlw : lineW c = [] := by simp [lineW, h1, h2, h3, h4, h5]
  have hpe : parseL [] = none := by decide +kernel
  have HP := Lib.hid (line_bad (c := c) (by rw [hlw, hpe]; simp))
  have HPE := Lib.hid hpe
  have e1 : (c.op == 1) = false := by rw [beq_eq_false_iff_ne]; exact h1
  have e2 : (c.op == 2) = false := by rw [beq_eq_false_iff_ne]; exact h2
  have e3 : (c.op == 3) = false := by rw [beq_eq_false_iff_ne]; exact h3
  have e4 : (c.op == 4) = false := by rw [beq_eq_false_iff_ne]; exact h4
  have e5 : (c.op == 5) = false := by rw [beq_eq_false_iff_ne]; exact h5
  obtain ⟨h0b, hB⟩ := box_start c w
  have HB := Lib.hid hB
  have HL := Lib.hid hL
  clear hlw hpe h0b hB h1 h2 h3 h4 h5 hL
  unfold cmdV cmdC boxC at *
  go_enter Tryz.func11, Tryz.ntmps11
  go_wp2_with fail
  revert HB
  generalize World.alloc w _ = W1
  intro HB
  go_at_call 8
  refine (parse_l [] _ (HL.out.below HB.out) (by simp)).mono ?_
  rintro e W3 ⟨rfl, b3⟩
  have HB2 := Lib.hid (below_after HB.out b3)
  clear b3
  rw [HPE.out]
  unfold parseV cmdV cmdC cmd0
  go_wp2_with fail
  go_ret2
  exact ⟨by rw [HP.out]; rfl, HB2.out.alloc HB2.out.size _⟩

/-- LINE: whatever the command. -/
theorem line11 (c : Cmd) (w : World) (hL : Laid w) (ht : c.text.length ≤ 100000) (hn : c.name.length ≤ 100000) (hf : InInt c.fuel) (hw : InInt c.words) (hst : InInt c.stack) : Calls Tryz.prog 11 #[cmdV c] w (LinePost w (lineL c)) := by
  by_cases h1 : c.op = 1
  · exact line_1 c w hL h1 ht hn hf hw hst
  by_cases h2 : c.op = 2
  · exact line_2 c w hL h2 ht hn hf hw hst
  by_cases h3 : c.op = 3
  · exact line_3 c w hL h3 ht hn hf hw hst
  by_cases h4 : c.op = 4
  · exact line_4 c w hL h4 ht hn hf hw hst
  by_cases h5 : c.op = 5
  · exact line_5 c w hL h5 ht hn hf hw hst
  · exact line_0 c w hL h1 h2 h3 h4 h5
end Go.Proofs.YtiblpkgbabjmfaaGreatDoor
