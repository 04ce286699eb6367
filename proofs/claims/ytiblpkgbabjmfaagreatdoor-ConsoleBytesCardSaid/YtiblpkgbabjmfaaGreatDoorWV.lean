/- The contract of the reference's Line: a command's line, or none. -/
import Derived.Test.YtiblpkgbabjmfaaGreatDoorWT
import Derived.Test.YtiblpkgbabjmfaaGreatDoorWU
namespace Go.Proofs.YtiblpkgbabjmfaaGreatDoor
open Go.RowKit

theorem ref_l (l : List UInt8) (w : World) (hs : l.length ≤ 999999) : Calls Tryz.prog 9 #[.string ⟨l.toArray⟩] w (CmdPost w (parseL l)) :=
  ref9 ⟨l.toArray⟩ w (by show l.toArray.size ≤ _; simpa using hs)

set_option maxRecDepth 100000 in
set_option maxHeartbeats 4000000 in
theorem rline_1 (c : Cmd) (w : World) (ho : c.op = 1) (ht : c.text.length ≤ 100000) (hn : c.name.length ≤ 100000) (hf : InInt c.fuel) (hw : InInt c.words) (hst : InInt c.stack) :
    Calls Tryz.prog 12 #[cmdV c] w (LinePost w (lineL c)) := by
  have HT := Lib.hid ht
  have HF := Lib.hid hf
  have HWD := Lib.hid hw
  have HST := Lib.hid hst
  have hxl := hexL_length c.text
  have hlw : lineW c = [119, 114, 105, 116, 101, 32] ++ c.name ++ [32] ++ hexL c.text := by simp [lineW, ho, wWrite]
  have hlen : (lineW c).length ≤ 999999 := by
    rw [hlw]; simp; omega
  have HLEN := Lib.hid hlen
  have HLW := Lib.hid hlw
  have ha1 : ¬ 9223372036854775807 < 6 + c.name.length := by omega
  have ha2 : ¬ 9223372036854775807 < 6 + c.name.length + 1 := by omega
  have ha3 : ¬ 9223372036854775807 < 6 + c.name.length + 1 + (hexL c.text).length := by omega
  obtain ⟨h0b, hB⟩ := box_start c w
  have H0 := Lib.hid h0b
  have HB := Lib.hid hB
  clear ht hn hlen hlw h0b hB hf hw hst hxl
  unfold cmdV cmdC boxC at *
  generalize hop : c.op = op at *
  subst ho
  go_enter Tryz.func12, Tryz.ntmps12
  go_wp2_with fail
  revert H0 HB
  generalize World.alloc w _ = W0
  intro H0 HB
  obtain ⟨q0, q1, q2, q3, q4, q5, qf⟩ := blk_facts (show W0.drew.heap[w.heap.size]? = _ from H0.out)
  have hB : Below w.heap.size w W0.drew := HB.out.drew
  go_region_held3 (fun w' => w'.cell? ⟨w.heap.size, 0, none⟩ = some (.int .i64 1) ∧ w'.cell? ⟨w.heap.size, 1, none⟩ = some (.string ⟨c.name.toArray⟩) ∧ w'.cell? ⟨w.heap.size, 2, none⟩ = some (.string ⟨c.text.toArray⟩) ∧ w'.cell? ⟨w.heap.size, 3, none⟩ = some (.int .i64 c.fuel) ∧ w'.cell? ⟨w.heap.size, 4, none⟩ = some (.int .i64 c.words) ∧ w'.cell? ⟨w.heap.size, 5, none⟩ = some (.int .i64 c.stack) ∧ Below w.heap.size w w')
    (first | exact ⟨q0, q1, q2, q3, q4, q5, hB⟩ | exact ⟨keep_cell rfl q0 b1, keep_cell rfl q1 b1, keep_cell rfl q2 b1, keep_cell rfl q3 b1, keep_cell rfl q4 b1, keep_cell rfl q5 b1, below_after hB b1⟩ | exact ⟨keep_cell rfl u0 b2, keep_cell rfl u1 b2, keep_cell rfl u2 b2, keep_cell rfl u3 b2, keep_cell rfl u4 b2, keep_cell rfl u5 b2, below_after ub b2⟩)
    ((go_at_call 23; refine (hexa_l _ _ HT.out).mono ?_; rintro e W1 ⟨rfl, b1⟩))
  have hS : W1.cell? ⟨w.heap.size, 0, none⟩ = some (.int .i64 1) ∧ W1.cell? ⟨w.heap.size, 1, none⟩ = some (.string ⟨c.name.toArray⟩) ∧ W1.cell? ⟨w.heap.size, 2, none⟩ = some (.string ⟨c.text.toArray⟩) ∧ W1.cell? ⟨w.heap.size, 3, none⟩ = some (.int .i64 c.fuel) ∧ W1.cell? ⟨w.heap.size, 4, none⟩ = some (.int .i64 c.words) ∧ W1.cell? ⟨w.heap.size, 5, none⟩ = some (.int .i64 c.stack) ∧ Below w.heap.size w W1 := by assumption
  obtain ⟨s0, s1, s2, s3, s4, s5, hb1⟩ := hS
  have hcat : (⟨#[119, 114, 105, 116, 101, 32]⟩ : ByteArray) ++ ⟨c.name.toArray⟩ ++ ⟨#[32]⟩ ++ ⟨(hexL c.text).toArray⟩ = ⟨(lineW c).toArray⟩ := by
    rw [HLW.out, ← cat_arr, ← cat_arr, ← cat_arr]
  rw [hcat]
  clear hcat q0 q1 q2 q3 q4 q5 qf ha1 ha2 ha3
  have HB1 := Lib.hid hb1
  clear hb1
  go_wp2_with fail
  go_at_call 9
  refine (ref_l (lineW c) _ HLEN.out).mono ?_
  rintro e W3 ⟨rfl, b3⟩
  have t0 := keep_cell rfl s0 b3
  have t1 := keep_cell rfl s1 b3
  have t2 := keep_cell rfl s2 b3
  have t3 := keep_cell rfl s3 b3
  have t4 := keep_cell rfl s4 b3
  have t5 := keep_cell rfl s5 b3
  have hlt := cell_lt t0
  have HB2 := Lib.hid (below_after HB1.out b3)
  clear s0 s1 s2 s3 s4 s5 b3
  cases hp : parseL (lineW c) with
  | none =>
    have HP := Lib.hid (line_bad (c := c) (by rw [hp]; simp))
    clear hp
    unfold parseV cmdV cmdC cmd0
    go_wp2_with fail
    go_ret2
    exact ⟨by rw [HP.out]; rfl, HB2.out.alloc HB2.out.size _⟩
  | some d =>
    by_cases hdc : d = c
    · have HP := Lib.hid (line_ok (c := c) (by rw [hp, hdc]))
      subst hdc
      clear hp
      have hsame := fun W => same10 d d W
      simp only [decide_true] at hsame
      unfold parseV cmdV cmdC at *
      simp only [hop] at *
      have HSM := Lib.hid hsame
      clear hsame
      go_wp2_with fail
      go_at_call 10
      refine (HSM.out _).mono ?_
      rintro e W4 ⟨rfl, b4⟩
      have HB4 := Lib.hid (below_after (HB2.out.alloc HB2.out.size _) b4)
      clear b4
      go_wp2_with fail
      go_ret2
      exact ⟨by rw [HP.out]; rfl, HB4.out⟩
    · have HP := Lib.hid (line_bad (c := c) (by rw [hp]; simpa using hdc))
      have hsame := fun W => same10 d c W
      rw [decide_eq_false hdc] at hsame
      clear hp hdc
      unfold parseV cmdV cmdC at *
      simp only [hop] at *
      have HSM := Lib.hid hsame
      clear hsame
      go_wp2_with fail
      go_at_call 10
      refine (HSM.out _).mono ?_
      rintro e W4 ⟨rfl, b4⟩
      have HB4 := Lib.hid (below_after (HB2.out.alloc HB2.out.size _) b4)
      clear b4
      go_wp2_with fail
      go_ret2
      exact ⟨by rw [HP.out]; rfl, HB4.out⟩

set_option maxRecDepth 100000 in
set_option maxHeartbeats 4000000 in
theorem rline_2 (c : Cmd) (w : World) (ho : c.op = 2) (ht : c.text.length ≤ 100000) (hn : c.name.length ≤ 100000) (hf : InInt c.fuel) (hw : InInt c.words) (hst : InInt c.stack) :
    Calls Tryz.prog 12 #[cmdV c] w (LinePost w (lineL c)) := by
  have HT := Lib.hid ht
  have HF := Lib.hid hf
  have HWD := Lib.hid hw
  have HST := Lib.hid hst
  have hlw : lineW c = [100, 101, 108, 101, 116, 101, 32] ++ c.name := by simp [lineW, ho, wDelete]
  have hlen : (lineW c).length ≤ 999999 := by
    rw [hlw]; simp; omega
  have HLEN := Lib.hid hlen
  have HLW := Lib.hid hlw
  have ha1 : ¬ 9223372036854775807 < 7 + c.name.length := by omega
  obtain ⟨h0b, hB⟩ := box_start c w
  have H0 := Lib.hid h0b
  have HB := Lib.hid hB
  clear ht hn hlen hlw h0b hB hf hw hst
  unfold cmdV cmdC boxC at *
  generalize hop : c.op = op at *
  subst ho
  go_enter Tryz.func12, Tryz.ntmps12
  go_wp2_with fail
  revert H0 HB
  generalize World.alloc w _ = W1
  intro H0 HB
  obtain ⟨s0, s1, s2, s3, s4, s5, qf⟩ := blk_facts H0.out
  have hb1 := HB.out
  have hcat : (⟨#[100, 101, 108, 101, 116, 101, 32]⟩ : ByteArray) ++ ⟨c.name.toArray⟩ = ⟨(lineW c).toArray⟩ := by
    rw [HLW.out, ← cat_arr]
  rw [hcat]
  clear hcat qf ha1
  have HB1 := Lib.hid hb1
  clear hb1
  go_wp2_with fail
  go_at_call 9
  refine (ref_l (lineW c) _ HLEN.out).mono ?_
  rintro e W3 ⟨rfl, b3⟩
  have t0 := keep_cell rfl s0 b3
  have t1 := keep_cell rfl s1 b3
  have t2 := keep_cell rfl s2 b3
  have t3 := keep_cell rfl s3 b3
  have t4 := keep_cell rfl s4 b3
  have t5 := keep_cell rfl s5 b3
  have hlt := cell_lt t0
  have HB2 := Lib.hid (below_after HB1.out b3)
  clear s0 s1 s2 s3 s4 s5 b3
  cases hp : parseL (lineW c) with
  | none =>
    have HP := Lib.hid (line_bad (c := c) (by rw [hp]; simp))
    clear hp
    unfold parseV cmdV cmdC cmd0
    go_wp2_with fail
    go_ret2
    exact ⟨by rw [HP.out]; rfl, HB2.out.alloc HB2.out.size _⟩
  | some d =>
    by_cases hdc : d = c
    · have HP := Lib.hid (line_ok (c := c) (by rw [hp, hdc]))
      subst hdc
      clear hp
      have hsame := fun W => same10 d d W
      simp only [decide_true] at hsame
      unfold parseV cmdV cmdC at *
      simp only [hop] at *
      have HSM := Lib.hid hsame
      clear hsame
      go_wp2_with fail
      go_at_call 10
      refine (HSM.out _).mono ?_
      rintro e W4 ⟨rfl, b4⟩
      have HB4 := Lib.hid (below_after (HB2.out.alloc HB2.out.size _) b4)
      clear b4
      go_wp2_with fail
      go_ret2
      exact ⟨by rw [HP.out]; rfl, HB4.out⟩
    · have HP := Lib.hid (line_bad (c := c) (by rw [hp]; simpa using hdc))
      have hsame := fun W => same10 d c W
      rw [decide_eq_false hdc] at hsame
      clear hp hdc
      unfold parseV cmdV cmdC at *
      simp only [hop] at *
      have HSM := Lib.hid hsame
      clear hsame
      go_wp2_with fail
      go_at_call 10
      refine (HSM.out _).mono ?_
      rintro e W4 ⟨rfl, b4⟩
      have HB4 := Lib.hid (below_after (HB2.out.alloc HB2.out.size _) b4)
      clear b4
      go_wp2_with fail
      go_ret2
      exact ⟨by rw [HP.out]; rfl, HB4.out⟩

set_option maxRecDepth 100000 in
set_option maxHeartbeats 4000000 in
theorem rline_3 (c : Cmd) (w : World) (ho : c.op = 3) (ht : c.text.length ≤ 100000) (hn : c.name.length ≤ 100000) (hf : InInt c.fuel) (hw : InInt c.words) (hst : InInt c.stack) :
    Calls Tryz.prog 12 #[cmdV c] w (LinePost w (lineL c)) := by
  have HT := Lib.hid ht
  have HF := Lib.hid hf
  have HWD := Lib.hid hw
  have HST := Lib.hid hst
  have hlw : lineW c = [99, 111, 109, 112, 105, 108, 101, 32] ++ c.name := by simp [lineW, ho, wCompile]
  have hlen : (lineW c).length ≤ 999999 := by
    rw [hlw]; simp; omega
  have HLEN := Lib.hid hlen
  have HLW := Lib.hid hlw
  have ha1 : ¬ 9223372036854775807 < 8 + c.name.length := by omega
  obtain ⟨h0b, hB⟩ := box_start c w
  have H0 := Lib.hid h0b
  have HB := Lib.hid hB
  clear ht hn hlen hlw h0b hB hf hw hst
  unfold cmdV cmdC boxC at *
  generalize hop : c.op = op at *
  subst ho
  go_enter Tryz.func12, Tryz.ntmps12
  go_wp2_with fail
  revert H0 HB
  generalize World.alloc w _ = W1
  intro H0 HB
  obtain ⟨s0, s1, s2, s3, s4, s5, qf⟩ := blk_facts H0.out
  have hb1 := HB.out
  have hcat : (⟨#[99, 111, 109, 112, 105, 108, 101, 32]⟩ : ByteArray) ++ ⟨c.name.toArray⟩ = ⟨(lineW c).toArray⟩ := by
    rw [HLW.out, ← cat_arr]
  rw [hcat]
  clear hcat qf ha1
  have HB1 := Lib.hid hb1
  clear hb1
  go_wp2_with fail
  go_at_call 9
  refine (ref_l (lineW c) _ HLEN.out).mono ?_
  rintro e W3 ⟨rfl, b3⟩
  have t0 := keep_cell rfl s0 b3
  have t1 := keep_cell rfl s1 b3
  have t2 := keep_cell rfl s2 b3
  have t3 := keep_cell rfl s3 b3
  have t4 := keep_cell rfl s4 b3
  have t5 := keep_cell rfl s5 b3
  have hlt := cell_lt t0
  have HB2 := Lib.hid (below_after HB1.out b3)
  clear s0 s1 s2 s3 s4 s5 b3
  cases hp : parseL (lineW c) with
  | none =>
    have HP := Lib.hid (line_bad (c := c) (by rw [hp]; simp))
    clear hp
    unfold parseV cmdV cmdC cmd0
    go_wp2_with fail
    go_ret2
    exact ⟨by rw [HP.out]; rfl, HB2.out.alloc HB2.out.size _⟩
  | some d =>
    by_cases hdc : d = c
    · have HP := Lib.hid (line_ok (c := c) (by rw [hp, hdc]))
      subst hdc
      clear hp
      have hsame := fun W => same10 d d W
      simp only [decide_true] at hsame
      unfold parseV cmdV cmdC at *
      simp only [hop] at *
      have HSM := Lib.hid hsame
      clear hsame
      go_wp2_with fail
      go_at_call 10
      refine (HSM.out _).mono ?_
      rintro e W4 ⟨rfl, b4⟩
      have HB4 := Lib.hid (below_after (HB2.out.alloc HB2.out.size _) b4)
      clear b4
      go_wp2_with fail
      go_ret2
      exact ⟨by rw [HP.out]; rfl, HB4.out⟩
    · have HP := Lib.hid (line_bad (c := c) (by rw [hp]; simpa using hdc))
      have hsame := fun W => same10 d c W
      rw [decide_eq_false hdc] at hsame
      clear hp hdc
      unfold parseV cmdV cmdC at *
      simp only [hop] at *
      have HSM := Lib.hid hsame
      clear hsame
      go_wp2_with fail
      go_at_call 10
      refine (HSM.out _).mono ?_
      rintro e W4 ⟨rfl, b4⟩
      have HB4 := Lib.hid (below_after (HB2.out.alloc HB2.out.size _) b4)
      clear b4
      go_wp2_with fail
      go_ret2
      exact ⟨by rw [HP.out]; rfl, HB4.out⟩

set_option maxRecDepth 100000 in
set_option maxHeartbeats 4000000 in
theorem rline_4 (c : Cmd) (w : World) (ho : c.op = 4) (ht : c.text.length ≤ 100000) (hn : c.name.length ≤ 100000) (hf : InInt c.fuel) (hw : InInt c.words) (hst : InInt c.stack) (h0 : 0 ≤ c.words) (h1 : 0 ≤ c.stack) :
    Calls Tryz.prog 12 #[cmdV c] w (LinePost w (lineL c)) := by
  have HT := Lib.hid ht
  have HF := Lib.hid hf
  have HWD := Lib.hid hw
  have HST := Lib.hid hst
  have hil := Lib.itoa_length_le c.words hw.1 hw.2
  have hil2 := Lib.itoa_length_le c.stack hst.1 hst.2
  have hlw : lineW c = [108, 111, 97, 100, 32] ++ c.name ++ [32] ++ Lib.itoa c.words ++ [32] ++ Lib.itoa c.stack := by simp [lineW, ho, wLoad]
  have hlen : (lineW c).length ≤ 999999 := by
    rw [hlw]; simp; omega
  have HLEN := Lib.hid hlen
  have HLW := Lib.hid hlw
  have ha1 : ¬ 9223372036854775807 < 5 + c.name.length := by omega
  have ha2 : ¬ 9223372036854775807 < 5 + c.name.length + 1 := by omega
  have ha3 : ¬ 9223372036854775807 < 5 + c.name.length + 1 + (Lib.itoa c.words).length := by omega
  have ha4 : ¬ 9223372036854775807 < 5 + c.name.length + 1 + (Lib.itoa c.words).length + 1 := by omega
  have ha5 : ¬ 9223372036854775807 < 5 + c.name.length + 1 + (Lib.itoa c.words).length + 1 + (Lib.itoa c.stack).length := by omega
  obtain ⟨h0b, hB⟩ := box_start c w
  have H0 := Lib.hid h0b
  have HB := Lib.hid hB
  have HN0 := Lib.hid h0
  have HN1 := Lib.hid h1
  clear ht hn hlen hlw h0b hB hf hw hst hil hil2
  unfold cmdV cmdC boxC at *
  generalize hop : c.op = op at *
  subst ho
  go_enter Tryz.func12, Tryz.ntmps12
  go_wp2_with fail
  revert H0 HB
  generalize World.alloc w _ = W0
  intro H0 HB
  obtain ⟨q0, q1, q2, q3, q4, q5, qf⟩ := blk_facts (show W0.drew.heap[w.heap.size]? = _ from H0.out)
  have hB : Below w.heap.size w W0.drew := HB.out.drew
  go_region_held3 (fun w' => w'.cell? ⟨w.heap.size, 0, none⟩ = some (.int .i64 4) ∧ w'.cell? ⟨w.heap.size, 1, none⟩ = some (.string ⟨c.name.toArray⟩) ∧ w'.cell? ⟨w.heap.size, 2, none⟩ = some (.string ⟨c.text.toArray⟩) ∧ w'.cell? ⟨w.heap.size, 3, none⟩ = some (.int .i64 c.fuel) ∧ w'.cell? ⟨w.heap.size, 4, none⟩ = some (.int .i64 c.words) ∧ w'.cell? ⟨w.heap.size, 5, none⟩ = some (.int .i64 c.stack) ∧ Below w.heap.size w w')
    (first | exact ⟨q0, q1, q2, q3, q4, q5, hB⟩ | exact ⟨keep_cell rfl q0 b1, keep_cell rfl q1 b1, keep_cell rfl q2 b1, keep_cell rfl q3 b1, keep_cell rfl q4 b1, keep_cell rfl q5 b1, below_after hB b1⟩ | exact ⟨keep_cell rfl u0 b2, keep_cell rfl u1 b2, keep_cell rfl u2 b2, keep_cell rfl u3 b2, keep_cell rfl u4 b2, keep_cell rfl u5 b2, below_after ub b2⟩)
    (first | (go_at_call 24; have hS1 : W1.cell? ⟨w.heap.size, 0, none⟩ = some (.int .i64 4) ∧ W1.cell? ⟨w.heap.size, 1, none⟩ = some (.string ⟨c.name.toArray⟩) ∧ W1.cell? ⟨w.heap.size, 2, none⟩ = some (.string ⟨c.text.toArray⟩) ∧ W1.cell? ⟨w.heap.size, 3, none⟩ = some (.int .i64 c.fuel) ∧ W1.cell? ⟨w.heap.size, 4, none⟩ = some (.int .i64 c.words) ∧ W1.cell? ⟨w.heap.size, 5, none⟩ = some (.int .i64 c.stack) ∧ Below w.heap.size w W1 := (by assumption); obtain ⟨u0, u1, u2, u3, u4, u5, ub⟩ := hS1; refine (dec_i c.stack _ HN1.out HST.out).mono ?_; rintro e W2 ⟨rfl, b2⟩) | (go_at_call 24; refine (dec_i c.words _ HN0.out HWD.out).mono ?_; rintro e W1 ⟨rfl, b1⟩))
  have hS : W2.cell? ⟨w.heap.size, 0, none⟩ = some (.int .i64 4) ∧ W2.cell? ⟨w.heap.size, 1, none⟩ = some (.string ⟨c.name.toArray⟩) ∧ W2.cell? ⟨w.heap.size, 2, none⟩ = some (.string ⟨c.text.toArray⟩) ∧ W2.cell? ⟨w.heap.size, 3, none⟩ = some (.int .i64 c.fuel) ∧ W2.cell? ⟨w.heap.size, 4, none⟩ = some (.int .i64 c.words) ∧ W2.cell? ⟨w.heap.size, 5, none⟩ = some (.int .i64 c.stack) ∧ Below w.heap.size w W2 := by assumption
  obtain ⟨s0, s1, s2, s3, s4, s5, hb1⟩ := hS
  have hcat : (⟨#[108, 111, 97, 100, 32]⟩ : ByteArray) ++ ⟨c.name.toArray⟩ ++ ⟨#[32]⟩ ++ ⟨(Lib.itoa c.words).toArray⟩ ++ ⟨#[32]⟩ ++ ⟨(Lib.itoa c.stack).toArray⟩ = ⟨(lineW c).toArray⟩ := by
    rw [HLW.out, ← cat_arr, ← cat_arr, ← cat_arr, ← cat_arr, ← cat_arr]
  rw [hcat]
  clear hcat q0 q1 q2 q3 q4 q5 qf ha1 ha2 ha3 ha4 ha5
  have HB1 := Lib.hid hb1
  clear hb1
  go_wp2_with fail
  go_at_call 9
  refine (ref_l (lineW c) _ HLEN.out).mono ?_
  rintro e W3 ⟨rfl, b3⟩
  have t0 := keep_cell rfl s0 b3
  have t1 := keep_cell rfl s1 b3
  have t2 := keep_cell rfl s2 b3
  have t3 := keep_cell rfl s3 b3
  have t4 := keep_cell rfl s4 b3
  have t5 := keep_cell rfl s5 b3
  have hlt := cell_lt t0
  have HB2 := Lib.hid (below_after HB1.out b3)
  clear s0 s1 s2 s3 s4 s5 b3
  cases hp : parseL (lineW c) with
  | none =>
    have HP := Lib.hid (line_bad (c := c) (by rw [hp]; simp))
    clear hp
    unfold parseV cmdV cmdC cmd0
    go_wp2_with fail
    go_ret2
    exact ⟨by rw [HP.out]; rfl, HB2.out.alloc HB2.out.size _⟩
  | some d =>
    by_cases hdc : d = c
    · have HP := Lib.hid (line_ok (c := c) (by rw [hp, hdc]))
      subst hdc
      clear hp
      have hsame := fun W => same10 d d W
      simp only [decide_true] at hsame
      unfold parseV cmdV cmdC at *
      simp only [hop] at *
      have HSM := Lib.hid hsame
      clear hsame
      go_wp2_with fail
      go_at_call 10
      refine (HSM.out _).mono ?_
      rintro e W4 ⟨rfl, b4⟩
      have HB4 := Lib.hid (below_after (HB2.out.alloc HB2.out.size _) b4)
      clear b4
      go_wp2_with fail
      go_ret2
      exact ⟨by rw [HP.out]; rfl, HB4.out⟩
    · have HP := Lib.hid (line_bad (c := c) (by rw [hp]; simpa using hdc))
      have hsame := fun W => same10 d c W
      rw [decide_eq_false hdc] at hsame
      clear hp hdc
      unfold parseV cmdV cmdC at *
      simp only [hop] at *
      have HSM := Lib.hid hsame
      clear hsame
      go_wp2_with fail
      go_at_call 10
      refine (HSM.out _).mono ?_
      rintro e W4 ⟨rfl, b4⟩
      have HB4 := Lib.hid (below_after (HB2.out.alloc HB2.out.size _) b4)
      clear b4
      go_wp2_with fail
      go_ret2
      exact ⟨by rw [HP.out]; rfl, HB4.out⟩

set_option maxRecDepth 100000 in
set_option maxHeartbeats 4000000 in
theorem rline_5 (c : Cmd) (w : World) (ho : c.op = 5) (ht : c.text.length ≤ 100000) (_hn : c.name.length ≤ 100000) (hf : InInt c.fuel) (hw : InInt c.words) (hst : InInt c.stack) (h0 : 0 ≤ c.fuel) :
    Calls Tryz.prog 12 #[cmdV c] w (LinePost w (lineL c)) := by
  have HT := Lib.hid ht
  have HF := Lib.hid hf
  have HWD := Lib.hid hw
  have HST := Lib.hid hst
  have hxl := hexL_length c.text
  have hil := Lib.itoa_length_le c.fuel hf.1 hf.2
  have hlw : lineW c = [114, 117, 110, 32] ++ Lib.itoa c.fuel ++ [32] ++ hexL c.text := by simp [lineW, ho, wRun]
  have hlen : (lineW c).length ≤ 999999 := by
    rw [hlw]; simp; omega
  have HLEN := Lib.hid hlen
  have HLW := Lib.hid hlw
  have ha1 : ¬ 9223372036854775807 < 4 + (Lib.itoa c.fuel).length := by omega
  have ha2 : ¬ 9223372036854775807 < 4 + (Lib.itoa c.fuel).length + 1 := by omega
  have ha3 : ¬ 9223372036854775807 < 4 + (Lib.itoa c.fuel).length + 1 + (hexL c.text).length := by omega
  obtain ⟨h0b, hB⟩ := box_start c w
  have H0 := Lib.hid h0b
  have HB := Lib.hid hB
  have HN0 := Lib.hid h0
  clear ht hlen hlw h0b hB hf hw hst hxl hil
  unfold cmdV cmdC boxC at *
  generalize hop : c.op = op at *
  subst ho
  go_enter Tryz.func12, Tryz.ntmps12
  go_wp2_with fail
  revert H0 HB
  generalize World.alloc w _ = W0
  intro H0 HB
  obtain ⟨q0, q1, q2, q3, q4, q5, qf⟩ := blk_facts (show W0.drew.heap[w.heap.size]? = _ from H0.out)
  have hB : Below w.heap.size w W0.drew := HB.out.drew
  go_region_held3 (fun w' => w'.cell? ⟨w.heap.size, 0, none⟩ = some (.int .i64 5) ∧ w'.cell? ⟨w.heap.size, 1, none⟩ = some (.string ⟨c.name.toArray⟩) ∧ w'.cell? ⟨w.heap.size, 2, none⟩ = some (.string ⟨c.text.toArray⟩) ∧ w'.cell? ⟨w.heap.size, 3, none⟩ = some (.int .i64 c.fuel) ∧ w'.cell? ⟨w.heap.size, 4, none⟩ = some (.int .i64 c.words) ∧ w'.cell? ⟨w.heap.size, 5, none⟩ = some (.int .i64 c.stack) ∧ Below w.heap.size w w')
    (first | exact ⟨q0, q1, q2, q3, q4, q5, hB⟩ | exact ⟨keep_cell rfl q0 b1, keep_cell rfl q1 b1, keep_cell rfl q2 b1, keep_cell rfl q3 b1, keep_cell rfl q4 b1, keep_cell rfl q5 b1, below_after hB b1⟩ | exact ⟨keep_cell rfl u0 b2, keep_cell rfl u1 b2, keep_cell rfl u2 b2, keep_cell rfl u3 b2, keep_cell rfl u4 b2, keep_cell rfl u5 b2, below_after ub b2⟩)
    (first | (go_at_call 23; have hS1 : W1.cell? ⟨w.heap.size, 0, none⟩ = some (.int .i64 5) ∧ W1.cell? ⟨w.heap.size, 1, none⟩ = some (.string ⟨c.name.toArray⟩) ∧ W1.cell? ⟨w.heap.size, 2, none⟩ = some (.string ⟨c.text.toArray⟩) ∧ W1.cell? ⟨w.heap.size, 3, none⟩ = some (.int .i64 c.fuel) ∧ W1.cell? ⟨w.heap.size, 4, none⟩ = some (.int .i64 c.words) ∧ W1.cell? ⟨w.heap.size, 5, none⟩ = some (.int .i64 c.stack) ∧ Below w.heap.size w W1 := (by assumption); obtain ⟨u0, u1, u2, u3, u4, u5, ub⟩ := hS1; refine (hexa_l _ _ HT.out).mono ?_; rintro e W2 ⟨rfl, b2⟩) | (go_at_call 24; refine (dec_i c.fuel _ HN0.out HF.out).mono ?_; rintro e W1 ⟨rfl, b1⟩))
  have hS : W2.cell? ⟨w.heap.size, 0, none⟩ = some (.int .i64 5) ∧ W2.cell? ⟨w.heap.size, 1, none⟩ = some (.string ⟨c.name.toArray⟩) ∧ W2.cell? ⟨w.heap.size, 2, none⟩ = some (.string ⟨c.text.toArray⟩) ∧ W2.cell? ⟨w.heap.size, 3, none⟩ = some (.int .i64 c.fuel) ∧ W2.cell? ⟨w.heap.size, 4, none⟩ = some (.int .i64 c.words) ∧ W2.cell? ⟨w.heap.size, 5, none⟩ = some (.int .i64 c.stack) ∧ Below w.heap.size w W2 := by assumption
  obtain ⟨s0, s1, s2, s3, s4, s5, hb1⟩ := hS
  have hcat : (⟨#[114, 117, 110, 32]⟩ : ByteArray) ++ ⟨(Lib.itoa c.fuel).toArray⟩ ++ ⟨#[32]⟩ ++ ⟨(hexL c.text).toArray⟩ = ⟨(lineW c).toArray⟩ := by
    rw [HLW.out, ← cat_arr, ← cat_arr, ← cat_arr]
  rw [hcat]
  clear hcat q0 q1 q2 q3 q4 q5 qf ha1 ha2 ha3
  have HB1 := Lib.hid hb1
  clear hb1
  go_wp2_with fail
  go_at_call 9
  refine (ref_l (lineW c) _ HLEN.out).mono ?_
  rintro e W3 ⟨rfl, b3⟩
  have t0 := keep_cell rfl s0 b3
  have t1 := keep_cell rfl s1 b3
  have t2 := keep_cell rfl s2 b3
  have t3 := keep_cell rfl s3 b3
  have t4 := keep_cell rfl s4 b3
  have t5 := keep_cell rfl s5 b3
  have hlt := cell_lt t0
  have HB2 := Lib.hid (below_after HB1.out b3)
  clear s0 s1 s2 s3 s4 s5 b3
  cases hp : parseL (lineW c) with
  | none =>
    have HP := Lib.hid (line_bad (c := c) (by rw [hp]; simp))
    clear hp
    unfold parseV cmdV cmdC cmd0
    go_wp2_with fail
    go_ret2
    exact ⟨by rw [HP.out]; rfl, HB2.out.alloc HB2.out.size _⟩
  | some d =>
    by_cases hdc : d = c
    · have HP := Lib.hid (line_ok (c := c) (by rw [hp, hdc]))
      subst hdc
      clear hp
      have hsame := fun W => same10 d d W
      simp only [decide_true] at hsame
      unfold parseV cmdV cmdC at *
      simp only [hop] at *
      have HSM := Lib.hid hsame
      clear hsame
      go_wp2_with fail
      go_at_call 10
      refine (HSM.out _).mono ?_
      rintro e W4 ⟨rfl, b4⟩
      have HB4 := Lib.hid (below_after (HB2.out.alloc HB2.out.size _) b4)
      clear b4
      go_wp2_with fail
      go_ret2
      exact ⟨by rw [HP.out]; rfl, HB4.out⟩
    · have HP := Lib.hid (line_bad (c := c) (by rw [hp]; simpa using hdc))
      have hsame := fun W => same10 d c W
      rw [decide_eq_false hdc] at hsame
      clear hp hdc
      unfold parseV cmdV cmdC at *
      simp only [hop] at *
      have HSM := Lib.hid hsame
      clear hsame
      go_wp2_with fail
      go_at_call 10
      refine (HSM.out _).mono ?_
      rintro e W4 ⟨rfl, b4⟩
      have HB4 := Lib.hid (below_after (HB2.out.alloc HB2.out.size _) b4)
      clear b4
      go_wp2_with fail
      go_ret2
      exact ⟨by rw [HP.out]; rfl, HB4.out⟩

set_option maxRecDepth 100000 in
set_option maxHeartbeats 4000000 in
theorem rline_0 (c : Cmd) (w : World) (h1 : c.op ≠ 1) (h2 : c.op ≠ 2) (h3 : c.op ≠ 3) (h4 : c.op ≠ 4) (h5 : c.op ≠ 5) :
    Calls Tryz.prog 12 #[cmdV c] w (LinePost w (lineL c)) := by
  have hlw : lineW c = [] := by simp [lineW, h1, h2, h3, h4, h5]
  have hpe : parseL [] = none := by decide +kernel
  have HP := Lib.hid (line_bad (c := c) (by rw [hlw, hpe]; simp))
  have HPE := Lib.hid hpe
  have e1 : (c.op == 1) = false := by rw [beq_eq_false_iff_ne]; exact h1
  have e2 : (c.op == 2) = false := by rw [beq_eq_false_iff_ne]; exact h2
  have e3 : (c.op == 3) = false := by rw [beq_eq_false_iff_ne]; exact h3
  have e4 : (c.op == 4) = false := by rw [beq_eq_false_iff_ne]; exact h4
  have e5 : (c.op == 5) = false := by rw [beq_eq_false_iff_ne]; exact h5
  obtain ⟨h0b, hB⟩ := box_start c w
  have HB := Lib.hid hB
  clear hlw hpe h0b hB h1 h2 h3 h4 h5
  unfold cmdV cmdC boxC at *
  go_enter Tryz.func12, Tryz.ntmps12
  go_wp2_with fail
  revert HB
  generalize World.alloc w _ = W1
  intro HB
  go_at_call 9
  refine (ref_l [] _ (by simp)).mono ?_
  rintro e W3 ⟨rfl, b3⟩
  have HB2 := Lib.hid (below_after HB.out b3)
  clear b3
  rw [HPE.out]
  unfold parseV cmdV cmdC cmd0
  go_wp2_with fail
  go_ret2
  exact ⟨by rw [HP.out]; rfl, HB2.out.alloc HB2.out.size _⟩

set_option maxRecDepth 100000 in
set_option maxHeartbeats 4000000 in
theorem rline_neg4w (c : Cmd) (w : World) (ho : c.op = 4) (h : c.words < 0) :
    Calls Tryz.prog 12 #[cmdV c] w (LinePost w (lineL c)) := by
  have HP := Lib.hid (line_neg (c := c) (.inr (.inl h)))
  obtain ⟨h0b, hB⟩ := box_start c w
  have HB := Lib.hid hB
  clear h0b hB
  unfold cmdV cmdC boxC at *
  generalize hop : c.op = op at *
  subst ho
  go_enter Tryz.func12, Tryz.ntmps12
  go_wp2_with fail
  go_ret2
  exact ⟨by rw [HP.out]; rfl, HB.out⟩

set_option maxRecDepth 100000 in
set_option maxHeartbeats 4000000 in
theorem rline_neg4s (c : Cmd) (w : World) (ho : c.op = 4) (h : 0 ≤ c.words ∧ c.stack < 0) :
    Calls Tryz.prog 12 #[cmdV c] w (LinePost w (lineL c)) := by
  have HP := Lib.hid (line_neg (c := c) (.inr (.inr h.2)))
  obtain ⟨h0b, hB⟩ := box_start c w
  have HB := Lib.hid hB
  obtain ⟨h6, h7⟩ := h
  clear h0b hB
  unfold cmdV cmdC boxC at *
  generalize hop : c.op = op at *
  subst ho
  go_enter Tryz.func12, Tryz.ntmps12
  go_wp2_with fail
  go_ret2
  exact ⟨by rw [HP.out]; rfl, HB.out⟩

set_option maxRecDepth 100000 in
set_option maxHeartbeats 4000000 in
theorem rline_neg5f (c : Cmd) (w : World) (ho : c.op = 5) (h : c.fuel < 0) :
    Calls Tryz.prog 12 #[cmdV c] w (LinePost w (lineL c)) := by
  have HP := Lib.hid (line_neg (c := c) (.inl h))
  obtain ⟨h0b, hB⟩ := box_start c w
  have HB := Lib.hid hB
  clear h0b hB
  unfold cmdV cmdC boxC at *
  generalize hop : c.op = op at *
  subst ho
  go_enter Tryz.func12, Tryz.ntmps12
  go_wp2_with fail
  go_ret2
  exact ⟨by rw [HP.out]; rfl, HB.out⟩

/-- THE REFERENCE's LINE: whatever the command. -/
theorem rline12 (c : Cmd) (w : World) (ht : c.text.length ≤ 100000) (hn : c.name.length ≤ 100000) (hf : InInt c.fuel) (hw : InInt c.words) (hst : InInt c.stack) : Calls Tryz.prog 12 #[cmdV c] w (LinePost w (lineL c)) := by
  by_cases h1 : c.op = 1
  · exact rline_1 c w h1 ht hn hf hw hst
  by_cases h2 : c.op = 2
  · exact rline_2 c w h2 ht hn hf hw hst
  by_cases h3 : c.op = 3
  · exact rline_3 c w h3 ht hn hf hw hst
  by_cases h4 : c.op = 4
  · by_cases k : c.words < 0
    · exact rline_neg4w c w h4 k
    by_cases k2 : c.stack < 0
    · exact rline_neg4s c w h4 ⟨by omega, k2⟩
    exact rline_4 c w h4 ht hn hf hw hst (by omega) (by omega)
  by_cases h5 : c.op = 5
  · by_cases k : c.fuel < 0
    · exact rline_neg5f c w h5 k
    exact rline_5 c w h5 ht hn hf hw hst (by omega)
  · exact rline_0 c w h1 h2 h3 h4 h5
end Go.Proofs.YtiblpkgbabjmfaaGreatDoor
