/- The contracts of hexed and bytes: bytes as digits, with strings.Builder. -/
import Derived.Test.YtiblpkgbabjmfaaGreatDoorWE
import Derived.Shelf.Strings.BuilderK
namespace Go.Proofs.YtiblpkgbabjmfaaGreatDoor
open Go.RowKit

def TextPost (w : World) (l : List UInt8) (e : Ending) (w' : World) : Prop := e = .returned (.string ⟨l.toArray⟩) ∧ Below w.heap.size w w'

/-- The digits of the bytes so far. -/
def hexP (l : List UInt8) : List UInt8 := l.flatMap fun c => [hexD (c.toNat / 16), hexD (c.toNat % 16)]

theorem empty_of (s : ByteArray) : s.toList.isEmpty = decide (s.data.toList = []) := by
  rw [ByteArray.toList_eq]
  cases s.data.toList <;> simp

theorem dig_at (x : Nat) (h : x < 16) (h' : x < (⟨#[48, 49, 50, 51, 52, 53, 54, 55, 56, 57, 97, 98, 99, 100, 101, 102]⟩ : ByteArray).size) :
    (⟨#[48, 49, 50, 51, 52, 53, 54, 55, 56, 57, 97, 98, 99, 100, 101, 102]⟩ : ByteArray)[x] = hexD x := by
  have : ∀ x : Fin 16, (⟨#[48, 49, 50, 51, 52, 53, 54, 55, 56, 57, 97, 98, 99, 100, 101, 102]⟩ : ByteArray)[x.val]'(x.isLt) = hexD x.val := by decide
  exact this ⟨x, h⟩

theorem hexP_snoc (s : ByteArray) (k : Nat) (h : k < s.size) : hexP (s.data.toList.take (k + 1)) = hexP (s.data.toList.take k) ++ [hexD (s[k].toNat / 16)] ++ [hexD (s[k].toNat % 16)] := by
  rw [take_snoc s k h]; simp [hexP]
theorem hexP_length (l : List UInt8) : (hexP l).length = 2 * l.length := by
  induction l with
  | nil => rfl
  | cons c t ih => simp only [hexP, List.flatMap_cons, List.length_append] at ih ⊢; rw [ih]; simp; omega
theorem byteCells_one (c : UInt8) : Lib.byteCells [c] = [.int .u8 c.toNat] := rfl

set_option maxRecDepth 100000 in
set_option maxHeartbeats 1000000 in
theorem hexed21 (s : ByteArray) (w : World) (hs : s.size ≤ 1000000) : Calls Tryz.prog 21 #[.string s] w (TextPost w (hexL s.data.toList)) := by
  by_cases h0 : s.data.toList = []
  · have hem : s.toList.isEmpty = true := by rw [empty_of]; simpa using h0
    have H0 := Lib.hid h0
    clear h0
    go_enter Tryz.func21, Tryz.ntmps21
    go_wp2
    go_ret
    exact ⟨by rw [H0.out]; rfl, Below.refl _ _⟩
  · have hem : s.toList.isEmpty = false := by rw [empty_of]; simpa using h0
    have H0 := Lib.hid h0
    clear h0
    go_enter Tryz.func21, Tryz.ntmps21
    go_wp2
    go_loopw [9] (fun i wr => ∃ k : Nat, k ≤ s.size ∧ i = .int .i64 k ∧ Lib.IsBuilderF 70 5 w.heap.size w.heap.size (Lib.byteCells (hexP (s.data.toList.take k))) wr ∧ Below w.heap.size w wr ∧ w.heap.size < wr.heap.size) (fun i _ => s.size - (intOf i).toNat)
    case atStart => exact ⟨0, by omega, rfl, (Lib.IsBuilderF.of (Lib.fresh_isBuilder 70 5 w)), (Below.refl _ w).alloc (Nat.le_refl _) _, by simp⟩
    case round =>
      obtain ⟨k, hk, rfl, hI, hb, hlt⟩ := hrel
      have HI := Lib.hid hI
      have HB := Lib.hid hb
      have hlen : (Lib.byteCells (hexP (s.data.toList.take k))).length ≤ 2 * s.size := by
        rw [Lib.byteCells_length, hexP_length]; simp; omega
      clear hI hb
      by_cases hlt : k < s.size
      · have hc := s[k].toNat_lt
        have hd1 : (0 : Int) ≤ (s[k].toNat : Int) / 16 := by omega
        have hd2 : (s[k].toNat : Int) / 16 < 16 := by omega
        have hm1 : (0 : Int) ≤ (s[k].toNat : Int) % 16 := by omega
        have hm2 : (s[k].toNat : Int) % 16 < 16 := by omega
        go_wp2_with fail
        go_at_call 34
        refine (Tryz.Builder_WriteByte_k w.heap.size w.heap.size _ _ _ HI.out (by omega) (by omega)).mono ?_
        rintro e W1 ⟨rfl, h1, b1, k1⟩
        have hsz := b1.size
        have H1 := Lib.hid h1
        have B1 := Lib.hid b1
        clear h1 b1 k1
        go_wp2_with fail
        go_at_call 34
        refine (Tryz.Builder_WriteByte_k w.heap.size w.heap.size _ _ _ (.inr H1.out) (by simp; omega) (by omega)).mono ?_
        rintro e W2 ⟨rfl, h2, b2, k2⟩
        have hsz2 := b2.size
        have H2 := Lib.hid h2
        have B2 := Lib.hid b2
        clear h2 b2 k2
        go_wp2
        go_roundw
        case rel =>
          refine ⟨k + 1, by omega, by go_num, ?_, (HB.out.trans B1.out).trans B2.out, by omega⟩
          have h := H2.out
          rw [dig_at _ (by omega), dig_at _ (by omega)] at h
          rw [hexP_snoc s k hlt, Lib.byteCells_append, Lib.byteCells_append, byteCells_one, byteCells_one]
          exact .inr h
        case measure => simp [intOf]; omega
      · obtain rfl : k = s.size := by omega
        go_wp2_with fail
        go_at_call 35
        refine (Tryz.Builder_String_any_k w.heap.size w.heap.size _ _ HI.out (by omega)).mono ?_
        rintro e W1 ⟨rfl, _, b1, _⟩
        go_wp2
        go_ret
        refine ⟨?_, HB.out.trans b1⟩
        rw [List.take_of_length_le (by simp)]
        have : hexL s.data.toList = hexP s.data.toList := by unfold hexL; rw [if_neg H0.out]; rfl
        rw [this]
        rfl
end Go.Proofs.YtiblpkgbabjmfaaGreatDoor
