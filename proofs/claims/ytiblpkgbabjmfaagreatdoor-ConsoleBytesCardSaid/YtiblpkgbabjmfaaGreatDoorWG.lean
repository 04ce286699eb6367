/- The contract of console.bytes: digits as bytes. -/
import Derived.Test.YtiblpkgbabjmfaaGreatDoorWF
import Derived.IntWalk
namespace Go.Proofs.YtiblpkgbabjmfaaGreatDoor
open Go.RowKit

def digs : ByteArray := ⟨#[48, 49, 50, 51, 52, 53, 54, 55, 56, 57, 97, 98, 99, 100, 101, 102]⟩
def digI (c : UInt8) : Int := match unD c with
  | some x => x
  | none => -1

theorem index_digs (c : UInt8) : Lib.indexByte [48, 49, 50, 51, 52, 53, 54, 55, 56, 57, 97, 98, 99, 100, 101, 102] c = digI c := by
  have h : ∀ n : Fin 256, Lib.indexByte [48, 49, 50, 51, 52, 53, 54, 55, 56, 57, 97, 98, 99, 100, 101, 102] (UInt8.ofNat n.val) = digI (UInt8.ofNat n.val) := by decide +kernel
  have := h ⟨c.toNat, c.toNat_lt⟩
  simpa using this

theorem idx49 (c : UInt8) (w : World) : Calls Tryz.prog 49 #[.string ⟨#[48, 49, 50, 51, 52, 53, 54, 55, 56, 57, 97, 98, 99, 100, 101, 102]⟩, .int .u8 (c.toNat : Int)] w fun e w' => e = .returned (.int .i64 (digI c)) ∧ w' = w := by
  refine (Tryz.strings_IndexByte _ _ w).mono ?_
  rintro e w' ⟨rfl, rfl⟩
  refine ⟨?_, rfl⟩
  rw [show ((c.toNat : Int).toNat.toUInt8) = c by simp, ← index_digs c]

theorem idx_some {c : UInt8} {x : Nat} (h : unD c = some x) (w : World) : Calls Tryz.prog 49 #[.string ⟨#[48, 49, 50, 51, 52, 53, 54, 55, 56, 57, 97, 98, 99, 100, 101, 102]⟩, .int .u8 (c.toNat : Int)] w fun e w' => e = .returned (.int .i64 (x : Int)) ∧ w' = w := by
  have := idx49 c w
  unfold digI at this; rw [h] at this; exact this
theorem idx_none {c : UInt8} (h : unD c = none) (w : World) : Calls Tryz.prog 49 #[.string ⟨#[48, 49, 50, 51, 52, 53, 54, 55, 56, 57, 97, 98, 99, 100, 101, 102]⟩, .int .u8 (c.toNat : Int)] w fun e w' => e = .returned (.int .i64 (-1)) ∧ w' = w := by
  have := idx49 c w
  unfold digI at this; rw [h] at this; exact this

/-- What bytes answers: the bytes and yes, or nothing and no. -/
def bytesV (o : Option (List UInt8)) : Value := match o with
  | some t => .tuple #[.string ⟨t.toArray⟩, .bool true]
  | none => .tuple #[.string ⟨#[]⟩, .bool false]
def BytesPost (w : World) (o : Option (List UInt8)) (e : Ending) (w' : World) : Prop := e = .returned (bytesV o) ∧ Below w.heap.size w w'
theorem ret_bytes {o : Option (List UInt8)} {v : Value} (h : v = bytesV o) : Ending.returned v = .returned (bytesV o) := by rw [h]

/-- What stands under the loop: acc is what the first k digits say. -/
def PairRel (s : ByteArray) (acc : List UInt8) (k : Nat) : Prop := unPairs s.data.toList = (unPairs (s.data.toList.drop k)).map (acc ++ ·)

theorem drop_two (s : ByteArray) (k : Nat) (h : k + 1 < s.size) : s.data.toList.drop k = s[k] :: s[k + 1] :: s.data.toList.drop (k + 2) := by
  rw [drop_cons s k (by omega), drop_cons s (k + 1) h]
theorem pair_step {s : ByteArray} {acc : List UInt8} {k x y : Nat} (h : PairRel s acc k) (hk : k + 1 < s.size) (hx : unD s[k] = some x) (hy : unD s[k + 1] = some y) : PairRel s (acc ++ [UInt8.ofNat (16 * x + y)]) (k + 2) := by
  unfold PairRel at *
  rw [h, drop_two s k hk, unPairs, hx, hy]
  cases unPairs (s.data.toList.drop (k + 2)) <;> simp
theorem pair_bad {s : ByteArray} {acc : List UInt8} {k : Nat} (h : PairRel s acc k) (hk : k + 1 < s.size) (hb : unD s[k] = none ∨ unD s[k + 1] = none) : unPairs s.data.toList = none := by
  unfold PairRel at *
  rw [h, drop_two s k hk, unPairs]
  rcases hb with hb | hb
  · rw [hb]; rfl
  · rw [hb]; cases unD s[k] <;> rfl
theorem pair_end {s : ByteArray} {acc : List UInt8} (h : PairRel s acc s.size) : unPairs s.data.toList = some acc := by
  unfold PairRel at *
  rw [h, List.drop_of_length_le (by simp)]
  simp [unPairs]

theorem unPairs_odd : ∀ l : List UInt8, l.length % 2 = 1 → unPairs l = none
  | [], h => by simp at h
  | [_], _ => rfl
  | a :: b :: r, h => by
    have := unPairs_odd r (by simp at h; omega)
    rw [unPairs, this]
    cases unD a <;> cases unD b <;> rfl

theorem dash_of (s : ByteArray) : (s.toList == [45]) = decide (s.data.toList = [45]) := by
  rw [ByteArray.toList_eq, Bool.eq_iff_iff]
  simp

theorem or_byte (x y : Nat) (hx : x < 16) (hy : y < 16) : bits BinOp.or IntKind.u8 ((x : Int) * 16) (y : Int) = ((UInt8.ofNat (16 * x + y)).toNat : Int) := by
  have : ∀ x y : Fin 16, bits BinOp.or IntKind.u8 ((x.val : Int) * 16) (y.val : Int) = ((UInt8.ofNat (16 * x.val + y.val)).toNat : Int) := by decide +kernel
  exact this ⟨x, hx⟩ ⟨y, hy⟩

theorem nil_of (s : ByteArray) : (s.toList = []) = (s.data.toList = []) := by rw [ByteArray.toList_eq]

set_option maxRecDepth 100000 in
set_option maxHeartbeats 2000000 in
theorem bytes29 (s : ByteArray) (w : World) (hs : s.size ≤ 1000000) : Calls Tryz.prog 29 #[.string s] w (BytesPost w (unhexL s.data.toList)) := by
  have hl : s.data.toList.length = s.size := by simp
  by_cases hd : s.data.toList = [45]
  · have hn : unhexL s.data.toList = some [] := by unfold unhexL; rw [if_pos hd]
    have hdash : (s.toList == [45]) = true := by rw [dash_of]; simpa using hd
    have HN := Lib.hid hn
    clear hn hd hl
    go_enter Tryz.func29, Tryz.ntmps29
    go_wp2
    go_ret2
    exact ⟨ret_bytes (by rw [HN.out]; rfl), Below.refl _ _⟩
  have hdash : (s.toList == [45]) = false := by rw [dash_of]; simpa using hd
  by_cases h0 : s.data.toList = []
  · have hn : unhexL s.data.toList = none := by unfold unhexL; rw [if_neg hd, if_pos h0]
    have hem : s.toList.isEmpty = true := by rw [empty_of]; simpa using h0
    have hem2 : s.toList = [] := by rw [nil_of]; exact h0
    have HN := Lib.hid hn
    clear hn hd hl h0
    go_enter Tryz.func29, Tryz.ntmps29
    go_wp2
    go_ret2
    exact ⟨ret_bytes (by rw [HN.out]; rfl), Below.refl _ _⟩
  have hem : s.toList.isEmpty = false := by rw [empty_of]; simpa using h0
  have hem2 : ¬ s.toList = [] := by rw [nil_of]; exact h0
  have hu : unhexL s.data.toList = unPairs s.data.toList := by unfold unhexL; rw [if_neg hd, if_neg h0]
  by_cases hodd : s.size % 2 = 1
  · have hn : unhexL s.data.toList = none := by rw [hu, unPairs_odd _ (by rw [hl]; exact hodd)]
    have b2 : ((s.size : Int) % 2 != 0) = true := by rw [bne_iff_ne]; omega
    have HN := Lib.hid hn
    clear hn hd hl h0 hu hodd
    go_enter Tryz.func29, Tryz.ntmps29
    go_wp2
    go_ret2
    exact ⟨ret_bytes (by rw [HN.out]; rfl), Below.refl _ _⟩
  · have b2 : ((s.size : Int) % 2 != 0) = false := by rw [bne_eq_false_iff_eq]; omega
    have HU := Lib.hid hu
    clear hu hd hl h0
    go_enter Tryz.func29, Tryz.ntmps29
    go_wp2
    go_loopw [5] (fun i wr => ∃ k acc, k ≤ s.size ∧ k % 2 = 0 ∧ i = .int .i64 ((k : Nat) : Int) ∧ PairRel s acc k ∧ acc.length ≤ k ∧ Lib.IsBuilderF 70 5 w.heap.size w.heap.size (Lib.byteCells acc) wr ∧ Below w.heap.size w wr ∧ w.heap.size < wr.heap.size) (fun i _ => s.size - (intOf i).toNat)
    case atStart => exact ⟨0, [], by omega, rfl, rfl, by simp [PairRel], by simp, (Lib.IsBuilderF.of (Lib.fresh_isBuilder 70 5 w)), (Below.refl _ w).alloc (Nat.le_refl _) _, by simp⟩
    case round =>
      obtain ⟨k, acc, hk, hev, rfl, hP, hal, hI, hb, hlt⟩ := hrel
      have HP := Lib.hid hP
      have HI := Lib.hid hI
      have HB := Lib.hid hb
      have hcl : (Lib.byteCells acc).length ≤ s.size := by rw [Lib.byteCells_length]; omega
      clear hP hI hb
      by_cases hlt : k < s.size
      · have hlt2 : k + 1 < s.size := by omega
        cases hx : unD s[k] with
        | none =>
          have hbad := pair_bad HP.out hlt2 (.inl hx)
          have HBAD := Lib.hid hbad
          have HX := Lib.hid hx
          clear hx hbad
          have hw1 : IntKind.i64.wrap ((k : Int) + 1) = (k : Int) + 1 := IntWalk.i64_in _ (by omega)
          have hw2 : (0 : Int) ≤ (k : Int) + 1 := by omega
          have hw3 : ((k : Int) + 1).toNat = k + 1 := by omega
          have hw4 : (k : Int) + 1 < s.size := by omega
          go_wp2
          go_quiet ((first | (go_at_call 49; exact Calls.quiet_of_same (idx_none HX.out _)) | (go_at_call 49; exact Calls.quiet_of_same (idx49 _ _))))
          try clear hw1
          try clear hw3
          go_wp2
          go_ret2
          exact ⟨ret_bytes (by rw [HU.out, HBAD.out]; rfl), below_drewN HB.out _⟩
        | some x =>
          cases hy : unD s[k + 1] with
          | none =>
            have hbad := pair_bad HP.out hlt2 (.inr hy)
            have HBAD := Lib.hid hbad
            have HX := Lib.hid hx
            have HY := Lib.hid hy
            clear hx hy hbad
            have hw1 : IntKind.i64.wrap ((k : Int) + 1) = (k : Int) + 1 := IntWalk.i64_in _ (by omega)
            have hw2 : (0 : Int) ≤ (k : Int) + 1 := by omega
            have hw3 : ((k : Int) + 1).toNat = k + 1 := by omega
            have hw4 : (k : Int) + 1 < s.size := by omega
            go_wp2
            go_quiet ((first | (go_at_call 49; exact Calls.quiet_of_same (idx_some HX.out _)) | (go_at_call 49; exact Calls.quiet_of_same (idx_none HY.out _))))
            try clear hw1
            try clear hw3
            go_wp2
            go_ret2
            exact ⟨ret_bytes (by rw [HU.out, HBAD.out]; rfl), below_drewN HB.out _⟩
          | some y =>
            have HX := Lib.hid hx
            have HY := Lib.hid hy
            have x16 := (unD_lt hx).1
            have y16 := (unD_lt hy).1
            clear hx hy
            have hw1 : IntKind.i64.wrap ((k : Int) + 1) = (k : Int) + 1 := IntWalk.i64_in _ (by omega)
            have hw2 : (0 : Int) ≤ (k : Int) + 1 := by omega
            have hw3 : ((k : Int) + 1).toNat = k + 1 := by omega
            have hw4 : (k : Int) + 1 < s.size := by omega
            go_wp2
            go_quiet ((first | (go_at_call 49; exact Calls.quiet_of_same (idx_some HX.out _)) | (go_at_call 49; exact Calls.quiet_of_same (idx_some HY.out _))))
            try clear hw1
            try clear hw3
            go_wp2_with fail
            go_at_call 34
            rw [or_byte x y x16 y16]
            refine (Tryz.Builder_WriteByte_k w.heap.size w.heap.size _ _ _ (by exact HI.out) (by omega) (by simp; omega)).mono ?_
            rintro e W1 ⟨rfl, h1, b1, k1⟩
            have hsz := b1.size
            simp at hsz
            have H1 := Lib.hid h1
            have B1 := Lib.hid b1
            clear h1 b1 k1
            go_wp2
            go_roundw
            case rel =>
              refine ⟨k + 2, _, by omega, by omega, by go_num, pair_step HP.out hlt2 HX.out HY.out, by simp; omega, ?_, (below_drewN HB.out _).trans B1.out, by omega⟩
              rw [Lib.byteCells_append]
              exact .inr H1.out
            case measure => simp [intOf]; omega
      · obtain rfl : k = s.size := by omega
        go_wp2_with fail
        go_at_call 35
        refine (Tryz.Builder_String_any_k w.heap.size w.heap.size _ _ HI.out (by omega)).mono ?_
        rintro e W1 ⟨rfl, _, b1, _⟩
        have B1 := Lib.hid b1
        clear b1
        go_wp2
        go_ret2
        exact ⟨ret_bytes (by rw [HU.out, pair_end HP.out]; rfl), HB.out.trans B1.out⟩
end Go.Proofs.YtiblpkgbabjmfaaGreatDoor
