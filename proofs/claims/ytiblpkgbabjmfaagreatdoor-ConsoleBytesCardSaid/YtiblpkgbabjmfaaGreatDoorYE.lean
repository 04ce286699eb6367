/- ConsoleBytes: the walk. -/
import Derived.Test.YtiblpkgbabjmfaaGreatDoorYC
namespace Go.Proofs.YtiblpkgbabjmfaaGreatDoor
open Go.RowKit

theorem line_str (c : Cmd) {l : List UInt8} (h : lineL c = some l) (hl : l.length ≤ 100000) (w : World) (hL : Laid w) : Calls Tryz.prog 8 #[.string ⟨l.toArray⟩] w fun e w' => e = .returned (.tuple #[.agg (cmdC c), .int .i64 0]) ∧ Below w.heap.size w w' := by
  have hp : parseL l = some c := by
    unfold lineL at h
    split at h
    · rename_i e; rw [← Option.some.inj h]; exact e
    · cases h
  refine (parse8 ⟨l.toArray⟩ w hL (by show l.toArray.size ≤ _; simp; omega)).mono ?_
  rintro e w' ⟨rfl, b⟩
  exact ⟨by rw [show (⟨l.toArray⟩ : ByteArray).data.toList = l by simp, hp]; rfl, b⟩

def wrB (t : List UInt8) : List UInt8 := wWrite ++ [32] ++ nameAMod ++ [32] ++ hexL t
def rnB (t : List UInt8) : List UInt8 := wRun ++ [32] ++ [55] ++ [32] ++ hexL t

theorem bytes_eq (a0 : ByteArray) : (⟨a0.data.toList.toArray⟩ : ByteArray) = a0 := by
  obtain ⟨⟨l⟩⟩ := a0; rfl

set_option maxRecDepth 100000 in
set_option maxHeartbeats 1000000 in
theorem bytes_long (a0 : ByteArray) (h : 3000 < a0.size) (w0 : a0.size ≤ maxLen) (w : World) (hL : Laid w) : Calls Tryz.prog 6 #[.string a0] w (BoolPost w true) := by
  unfold maxLen at w0
  have HL := Lib.hid hL
  clear hL
  go_enter Tryz.func6, Tryz.ntmps6
  go_wp2_with (go_at_call 7; refine (wakes7 _ HL.out).mono ?_; rintro e W1 ⟨rfl, b1⟩)
  go_ret
  exact ⟨rfl, b1⟩

theorem w_line (a0 : ByteArray) (h : a0.size ≤ 3000) (W : World) (hL : Laid W) : Calls Tryz.prog 11 #[.agg #[.int .i64 1, .string ⟨#[65, 46, 77, 111, 100]⟩, .string a0, .int .i64 0, .int .i64 0, .int .i64 0]] W
    fun e w' => e = .returned (.tuple #[.string ⟨(wrB a0.data.toList).toArray⟩, .int .i64 0]) ∧ Below W.heap.size W w' := by
  have hal : a0.data.toList.length = a0.size := by simp
  have h1 := line11 ⟨1, nameAMod, a0.data.toList, 0, 0, 0⟩ W hL (by simp only; omega) (by simp [nameAMod]) (by unfold InInt; simp) (by unfold InInt; simp) (by unfold InInt; simp)
  unfold LinePost at h1
  rw [show lineL ⟨1, nameAMod, a0.data.toList, 0, 0, 0⟩ = some (wrB a0.data.toList) from line_write _] at h1
  simp only [cmdV, cmdC, bytes_eq] at h1
  exact h1
theorem r_line (a0 : ByteArray) (h : a0.size ≤ 3000) (W : World) (hL : Laid W) : Calls Tryz.prog 11 #[.agg #[.int .i64 5, .string ⟨#[]⟩, .string a0, .int .i64 7, .int .i64 0, .int .i64 0]] W
    fun e w' => e = .returned (.tuple #[.string ⟨(rnB a0.data.toList).toArray⟩, .int .i64 0]) ∧ Below W.heap.size W w' := by
  have hal : a0.data.toList.length = a0.size := by simp
  have h1 := line11 ⟨5, [], a0.data.toList, 7, 0, 0⟩ W hL (by simp only; omega) (by simp) (by unfold InInt; simp) (by unfold InInt; simp) (by unfold InInt; simp)
  unfold LinePost at h1
  rw [show lineL ⟨5, [], a0.data.toList, 7, 0, 0⟩ = some (rnB a0.data.toList) from line_run _] at h1
  simp only [cmdV, cmdC, bytes_eq] at h1
  exact h1
theorem w_back (a0 : ByteArray) (h : (wrB a0.data.toList).length ≤ 100000) (W : World) (hL : Laid W) : Calls Tryz.prog 8 #[.string ⟨(wrB a0.data.toList).toArray⟩] W
    fun e w' => e = .returned (.tuple #[.agg #[.int .i64 1, .string ⟨#[65, 46, 77, 111, 100]⟩, .string a0, .int .i64 0, .int .i64 0, .int .i64 0], .int .i64 0]) ∧ Below W.heap.size W w' := by
  have h1 := line_str _ (show lineL ⟨1, nameAMod, a0.data.toList, 0, 0, 0⟩ = some (wrB a0.data.toList) from line_write _) h W hL
  simp only [cmdC, bytes_eq] at h1
  exact h1
theorem r_back (a0 : ByteArray) (h : (rnB a0.data.toList).length ≤ 100000) (W : World) (hL : Laid W) : Calls Tryz.prog 8 #[.string ⟨(rnB a0.data.toList).toArray⟩] W
    fun e w' => e = .returned (.tuple #[.agg #[.int .i64 5, .string ⟨#[]⟩, .string a0, .int .i64 7, .int .i64 0, .int .i64 0], .int .i64 0]) ∧ Below W.heap.size W w' := by
  have h1 := line_str _ (show lineL ⟨5, [], a0.data.toList, 7, 0, 0⟩ = some (rnB a0.data.toList) from line_run _) h W hL
  simp only [cmdC, bytes_eq] at h1
  exact h1

set_option maxRecDepth 100000 in
set_option maxHeartbeats 1000000 in
theorem bytes_short (a0 : ByteArray) (h : ¬ 3000 < a0.size) (w : World) (hL : Laid w) : Calls Tryz.prog 6 #[.string a0] w (BoolPost w true) := by
  have HL := Lib.hid hL
  clear hL
  have hx := hexL_length a0.data.toList
  have l1 : (wrB a0.data.toList).length = 12 + max 1 (2 * a0.size) := by
    simp [wrB, wWrite, nameAMod, hx]; omega
  have l2 : (rnB a0.data.toList).length ≤ 100000 := by
    simp [rnB, wRun, hx]; omega
  have hw := w_line a0 (by omega)
  have hr := r_line a0 (by omega)
  have hpw := w_back a0 (by omega)
  have hpr := r_back a0 l2
  have hsz : (⟨(wrB a0.data.toList).toArray⟩ : ByteArray).size = 12 + max 1 (2 * a0.size) := by rw [← l1]; rfl
  clear hx l1 l2
  generalize (⟨(wrB a0.data.toList).toArray⟩ : ByteArray) = sw at *
  generalize (⟨(rnB a0.data.toList).toArray⟩ : ByteArray) = sr at *
  have HW := Lib.hid hw
  have HR := Lib.hid hr
  have HPW := Lib.hid hpw
  have HPR := Lib.hid hpr
  have HSZ := Lib.hid hsz
  clear hw hr hpw hpr hsz
  have haa : (a0.toList == a0.toList) = true := by simp
  go_enter Tryz.func6, Tryz.ntmps6
  go_upto_region 4 with (go_at_call 11; refine (HW.out _ HL.out).mono ?_; rintro e W1 ⟨rfl, b1⟩; have B1 := Lib.hid b1; clear b1)
  go_upto_region 5 with (go_at_call 11; refine (HR.out _ (HL.out.below B1.out)).mono ?_; rintro e W2 ⟨rfl, b2⟩; have B2 := Lib.hid (below_after B1.out b2); clear b2)
  go_upto_region 6 with (first
    | (go_at_call 8; refine (HPW.out _ (HL.out.below B2.out)).mono ?_; rintro e W3 ⟨rfl, b3⟩; have B3 := Lib.hid (below_after B2.out b3); clear b3)
    | (refine store_cmd rfl (.tmp 7) (.tmp 30) rfl rfl _ rfl rfl rfl (by simp [Value.oneCell']) ?_; intro W4 c4 b4; have C4 := Lib.hid c4; have B4 := Lib.hid (below_after B3.out b4); clear c4 b4))
  go_upto_region 7 with (first
    | (go_at_call 8; refine (HPR.out _ (HL.out.below B4.out)).mono ?_; rintro e W5 ⟨rfl, b5⟩; have C5 := Lib.hid ((b5.block _ (Array.getElem?_eq_some_iff.1 C4.out).1).trans C4.out); have B5 := Lib.hid (below_after B4.out b5); clear b5)
    | (refine store_cmd rfl (.tmp 9) (.tmp 35) rfl rfl _ rfl rfl rfl (by simp [Value.oneCell']) ?_; intro W6 c6 b6; obtain ⟨r0, r1, r2, r3, r4, r5, -⟩ := blk_facts c6; obtain ⟨q0, q1, q2, q3, q4, q5, -⟩ := blk_facts ((b6.block _ (Array.getElem?_eq_some_iff.1 C5.out).1).trans C5.out); have B6 := Lib.hid (below_after B5.out b6); clear c6 b6))
  have hq : (sw.size : Int) = 12 + max 1 (2 * (a0.size : Int)) := by have := HSZ.out; omega
  go_wp2_with (first
    | (go_at_call 7; refine (wakes7 _ (HL.out.below B6.out)).mono ?_; rintro e W7 ⟨rfl, b7⟩; have B7 := Lib.hid (below_after B6.out b7); clear b7))
  go_ret
  exact ⟨rfl, B7.out⟩

theorem bytes6 (a0 : ByteArray) (w0 : a0.size ≤ maxLen) (w : World) (hL : Laid w) : Calls Tryz.prog 6 #[.string a0] w (BoolPost w true) := by
  by_cases h : 3000 < a0.size
  · exact bytes_long a0 h w0 w hL
  · exact bytes_short a0 h w hL
end Go.Proofs.YtiblpkgbabjmfaaGreatDoor
