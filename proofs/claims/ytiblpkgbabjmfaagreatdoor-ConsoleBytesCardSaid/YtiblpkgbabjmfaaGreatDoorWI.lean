/- The contracts of the reference's Hex (of a byte), Hexa and Dec. -/
import Derived.Test.YtiblpkgbabjmfaaGreatDoorWH
import Derived.Lib.AppendStr
namespace Go.Proofs.YtiblpkgbabjmfaaGreatDoor
open Go.RowKit

theorem and0 (c : UInt8) : bits BinOp.and IntKind.u32 ((c.toNat : Int) / 268435456) 15 = 0 := by
  have : ∀ c : Fin 256, bits BinOp.and IntKind.u32 ((c.val : Int) / 268435456) 15 = 0 := by decide +kernel
  exact this ⟨c.toNat, c.toNat_lt⟩
theorem and1 (c : UInt8) : bits BinOp.and IntKind.u32 ((c.toNat : Int) / 16777216) 15 = 0 := by
  have : ∀ c : Fin 256, bits BinOp.and IntKind.u32 ((c.val : Int) / 16777216) 15 = 0 := by decide +kernel
  exact this ⟨c.toNat, c.toNat_lt⟩
theorem and2 (c : UInt8) : bits BinOp.and IntKind.u32 ((c.toNat : Int) / 1048576) 15 = 0 := by
  have : ∀ c : Fin 256, bits BinOp.and IntKind.u32 ((c.val : Int) / 1048576) 15 = 0 := by decide +kernel
  exact this ⟨c.toNat, c.toNat_lt⟩
theorem and3 (c : UInt8) : bits BinOp.and IntKind.u32 ((c.toNat : Int) / 65536) 15 = 0 := by
  have : ∀ c : Fin 256, bits BinOp.and IntKind.u32 ((c.val : Int) / 65536) 15 = 0 := by decide +kernel
  exact this ⟨c.toNat, c.toNat_lt⟩
theorem and4 (c : UInt8) : bits BinOp.and IntKind.u32 ((c.toNat : Int) / 4096) 15 = 0 := by
  have : ∀ c : Fin 256, bits BinOp.and IntKind.u32 ((c.val : Int) / 4096) 15 = 0 := by decide +kernel
  exact this ⟨c.toNat, c.toNat_lt⟩
theorem and5 (c : UInt8) : bits BinOp.and IntKind.u32 ((c.toNat : Int) / 256) 15 = 0 := by
  have : ∀ c : Fin 256, bits BinOp.and IntKind.u32 ((c.val : Int) / 256) 15 = 0 := by decide +kernel
  exact this ⟨c.toNat, c.toNat_lt⟩
theorem and6 (c : UInt8) : bits BinOp.and IntKind.u32 ((c.toNat : Int) / 16) 15 = ((c.toNat / 16 : Nat) : Int) := by
  have : ∀ c : Fin 256, bits BinOp.and IntKind.u32 ((c.val : Int) / 16) 15 = ((c.val / 16 : Nat) : Int) := by decide +kernel
  exact this ⟨c.toNat, c.toNat_lt⟩
theorem and7 (c : UInt8) : bits BinOp.and IntKind.u32 ((c.toNat : Int)) 15 = ((c.toNat % 16 : Nat) : Int) := by
  have : ∀ c : Fin 256, bits BinOp.and IntKind.u32 ((c.val : Int)) 15 = ((c.val % 16 : Nat) : Int) := by decide +kernel
  exact this ⟨c.toNat, c.toNat_lt⟩

/-- The digits of a byte's word. -/
def hex8 (c : UInt8) : List UInt8 := [48, 48, 48, 48, 48, 48, hexD (c.toNat / 16), hexD (c.toNat % 16)]
theorem hex8_length (c : UInt8) : (hex8 c).length = 8 := rfl
theorem hex8_take (c : UInt8) (j : Nat) (h : j < 8) (x : UInt8) (hx : (hex8 c)[j]'(by rw [hex8_length]; exact h) = x) : Lib.byteCells ((hex8 c).take (j + 1)) = Lib.byteCells ((hex8 c).take j) ++ [.int .u8 (x.toNat : Int)] := by
  rw [List.take_succ_eq_append_getElem (by rw [hex8_length]; exact h), Lib.byteCells_append, hx]; rfl

theorem hex_grown {w wr w' : World} {o : Obj} {v v' : Value} {c : UInt8} {j : Nat} {x : UInt8} (h : j < 8) (hx : (hex8 c)[j]'(by rw [hex8_length]; exact h) = x) (hbel : Below w.heap.size w wr) (hown : wr.ownsRow w.heap.size 5 1 v j (Lib.byteCells ((hex8 c).take j)))
    (hown' : w'.ownsRow w.heap.size 5 1 v' (j + 1) (Lib.byteCells ((hex8 c).take j) ++ [Value.int .u8 (x.toNat : Int)])) (hg : (wr.alloc o).grownBy w' v.ownBlock) :
    w'.ownsRow w.heap.size 5 1 v' (j + 1) (Lib.byteCells ((hex8 c).take (j + 1))) ∧ Below w.heap.size w w' :=
  ⟨by rw [hex8_take c j h x hx]; exact hown', (hbel.alloc hbel.size o).grown hg (by have := hbel.size; simp; omega) (fun k hk => (hown.lt k hk).1)⟩

set_option maxRecDepth 100000 in
set_option maxHeartbeats 4000000 in
theorem hex37 (c : UInt8) (w : World) : Calls Tryz.prog 37 #[.int .u32 (c.toNat : Int)] w (TextPost w (hex8 c)) := by
  have hc := c.toNat_lt
  go_enter Tryz.func37, Tryz.ntmps37
  go_wp2
  go_loopw [3, 4] (fun v i wr => ∃ (j : Nat) (iv : Int), j ≤ 8 ∧ iv = 7 - (j : Int) ∧ i = .int .i64 iv ∧ wr.ownsRow w.heap.size 5 1 v j (Lib.byteCells ((hex8 c).take j)) ∧ Below w.heap.size w wr) (fun _ i _ => (intOf i + 1).toNat)
  case atStart => exact ⟨0, 7, by omega, by omega, rfl, World.ownsRow_nil _ _ _ _, Below.refl _ _⟩
  case round =>
    obtain ⟨j, iv, hj, hiv, rfl, hown, hb⟩ := hrel
    have hl3 : j + 1 ≤ maxLen := by simp only [maxLen]; omega
    have hl4 : (j + 1) * 1 ≤ 140737488355328 := by omega
    have hl5 : ∀ x, w.heap.size ≤ (wr.alloc (.cells #[.int .u8 x] 5)).heap.size := fun x => by have := hb.size; simp; omega
    have HL3 := Lib.hid hl3
    have HL4 := Lib.hid hl4
    have HL5 := Lib.hid hl5
    have HOWN := Lib.hid hown
    have HB := Lib.hid hb
    clear hown hb hl3 hl4 hl5
    obtain ⟨i0, hi0, hz0, hz1, hz2⟩ := info_parts info5
    rcases (by omega : j = 0 ∨ j = 1 ∨ j = 2 ∨ j = 3 ∨ j = 4 ∨ j = 5 ∨ j = 6 ∨ j = 7 ∨ j = 8) with rfl | rfl | rfl | rfl | rfl | rfl | rfl | rfl | rfl
    · obtain rfl : iv = 7 := by omega
      have ha := and0 c
      clear hiv hj
      go_wp2_with (first | (at_builtin; (refine wpList_append_own _ rfl (.tmp 17) (.tmp 20) 65 rfl (w.heap.size) 5 i0 (.int .u8 0) 1 1 Tryz.underlying65 hi0 hz0 hz1 hz2 rfl (by decide) u3 0 (Lib.byteCells ((hex8 c).take 0)) rfl (HOWN.out.alloc _) ⟨wr.heap.size, 0, none⟩ 1 1 [.int .u8 48] rfl rfl (new_cell wr 5 _) (one_int _ _) HL3.out HL4.out (HL5.out _) ?_); intro v' w' hown' hgrow _))
      go_roundw
      case rel =>
        obtain ⟨g1, g2⟩ := hex_grown (x := 48) (by omega) rfl HB.out HOWN.out hown' hgrow
        exact ⟨1, _, by omega, by omega, rfl, g1, g2⟩
      case measure => simp [intOf]
    · obtain rfl : iv = 6 := by omega
      have ha := and1 c
      clear hiv hj
      go_wp2_with (first | (at_builtin; (refine wpList_append_own _ rfl (.tmp 17) (.tmp 20) 65 rfl (w.heap.size) 5 i0 (.int .u8 0) 1 1 Tryz.underlying65 hi0 hz0 hz1 hz2 rfl (by decide) u3 1 (Lib.byteCells ((hex8 c).take 1)) rfl (HOWN.out.alloc _) ⟨wr.heap.size, 0, none⟩ 1 1 [.int .u8 48] rfl rfl (new_cell wr 5 _) (one_int _ _) HL3.out HL4.out (HL5.out _) ?_); intro v' w' hown' hgrow _))
      go_roundw
      case rel =>
        obtain ⟨g1, g2⟩ := hex_grown (x := 48) (by omega) rfl HB.out HOWN.out hown' hgrow
        exact ⟨2, _, by omega, by omega, rfl, g1, g2⟩
      case measure => simp [intOf]
    · obtain rfl : iv = 5 := by omega
      have ha := and2 c
      clear hiv hj
      go_wp2_with (first | (at_builtin; (refine wpList_append_own _ rfl (.tmp 17) (.tmp 20) 65 rfl (w.heap.size) 5 i0 (.int .u8 0) 1 1 Tryz.underlying65 hi0 hz0 hz1 hz2 rfl (by decide) u3 2 (Lib.byteCells ((hex8 c).take 2)) rfl (HOWN.out.alloc _) ⟨wr.heap.size, 0, none⟩ 1 1 [.int .u8 48] rfl rfl (new_cell wr 5 _) (one_int _ _) HL3.out HL4.out (HL5.out _) ?_); intro v' w' hown' hgrow _))
      go_roundw
      case rel =>
        obtain ⟨g1, g2⟩ := hex_grown (x := 48) (by omega) rfl HB.out HOWN.out hown' hgrow
        exact ⟨3, _, by omega, by omega, rfl, g1, g2⟩
      case measure => simp [intOf]
    · obtain rfl : iv = 4 := by omega
      have ha := and3 c
      clear hiv hj
      go_wp2_with (first | (at_builtin; (refine wpList_append_own _ rfl (.tmp 17) (.tmp 20) 65 rfl (w.heap.size) 5 i0 (.int .u8 0) 1 1 Tryz.underlying65 hi0 hz0 hz1 hz2 rfl (by decide) u3 3 (Lib.byteCells ((hex8 c).take 3)) rfl (HOWN.out.alloc _) ⟨wr.heap.size, 0, none⟩ 1 1 [.int .u8 48] rfl rfl (new_cell wr 5 _) (one_int _ _) HL3.out HL4.out (HL5.out _) ?_); intro v' w' hown' hgrow _))
      go_roundw
      case rel =>
        obtain ⟨g1, g2⟩ := hex_grown (x := 48) (by omega) rfl HB.out HOWN.out hown' hgrow
        exact ⟨4, _, by omega, by omega, rfl, g1, g2⟩
      case measure => simp [intOf]
    · obtain rfl : iv = 3 := by omega
      have ha := and4 c
      clear hiv hj
      go_wp2_with (first | (at_builtin; (refine wpList_append_own _ rfl (.tmp 17) (.tmp 20) 65 rfl (w.heap.size) 5 i0 (.int .u8 0) 1 1 Tryz.underlying65 hi0 hz0 hz1 hz2 rfl (by decide) u3 4 (Lib.byteCells ((hex8 c).take 4)) rfl (HOWN.out.alloc _) ⟨wr.heap.size, 0, none⟩ 1 1 [.int .u8 48] rfl rfl (new_cell wr 5 _) (one_int _ _) HL3.out HL4.out (HL5.out _) ?_); intro v' w' hown' hgrow _))
      go_roundw
      case rel =>
        obtain ⟨g1, g2⟩ := hex_grown (x := 48) (by omega) rfl HB.out HOWN.out hown' hgrow
        exact ⟨5, _, by omega, by omega, rfl, g1, g2⟩
      case measure => simp [intOf]
    · obtain rfl : iv = 2 := by omega
      have ha := and5 c
      clear hiv hj
      go_wp2_with (first | (at_builtin; (refine wpList_append_own _ rfl (.tmp 17) (.tmp 20) 65 rfl (w.heap.size) 5 i0 (.int .u8 0) 1 1 Tryz.underlying65 hi0 hz0 hz1 hz2 rfl (by decide) u3 5 (Lib.byteCells ((hex8 c).take 5)) rfl (HOWN.out.alloc _) ⟨wr.heap.size, 0, none⟩ 1 1 [.int .u8 48] rfl rfl (new_cell wr 5 _) (one_int _ _) HL3.out HL4.out (HL5.out _) ?_); intro v' w' hown' hgrow _))
      go_roundw
      case rel =>
        obtain ⟨g1, g2⟩ := hex_grown (x := 48) (by omega) rfl HB.out HOWN.out hown' hgrow
        exact ⟨6, _, by omega, by omega, rfl, g1, g2⟩
      case measure => simp [intOf]
    · obtain rfl : iv = 1 := by omega
      have ha := and6 c
      have a1 : (0 : Int) ≤ ((c.toNat / 16 : Nat) : Int) := by omega
      have a2 : ((c.toNat / 16 : Nat) : Int) < 16 := by omega
      clear hiv hj
      go_wp2_with (first | (at_builtin; (refine wpList_append_own _ rfl (.tmp 17) (.tmp 20) 65 rfl (w.heap.size) 5 i0 (.int .u8 0) 1 1 Tryz.underlying65 hi0 hz0 hz1 hz2 rfl (by decide) u3 6 (Lib.byteCells ((hex8 c).take 6)) rfl (HOWN.out.alloc _) ⟨wr.heap.size, 0, none⟩ 1 1 [.int .u8 ((⟨#[48, 49, 50, 51, 52, 53, 54, 55, 56, 57, 97, 98, 99, 100, 101, 102]⟩ : ByteArray)[c.toNat / 16]'(by have := c.toNat_lt; show _ < 16; omega)).toNat] rfl rfl (new_cell wr 5 _) (one_int _ _) HL3.out HL4.out (HL5.out _) ?_); intro v' w' hown' hgrow _))
      go_roundw
      case rel =>
        rw [dig_at _ (by omega)] at hown'
        obtain ⟨g1, g2⟩ := hex_grown (x := hexD (c.toNat / 16)) (by omega) rfl HB.out HOWN.out hown' hgrow
        exact ⟨7, _, by omega, by omega, rfl, g1, g2⟩
      case measure => simp [intOf]
    · obtain rfl : iv = 0 := by omega
      have ha := and7 c
      have a1 : (0 : Int) ≤ ((c.toNat % 16 : Nat) : Int) := by omega
      have a2 : ((c.toNat % 16 : Nat) : Int) < 16 := by omega
      clear hiv hj
      go_wp2_with (first | (at_builtin; (refine wpList_append_own _ rfl (.tmp 17) (.tmp 20) 65 rfl (w.heap.size) 5 i0 (.int .u8 0) 1 1 Tryz.underlying65 hi0 hz0 hz1 hz2 rfl (by decide) u3 7 (Lib.byteCells ((hex8 c).take 7)) rfl (HOWN.out.alloc _) ⟨wr.heap.size, 0, none⟩ 1 1 [.int .u8 ((⟨#[48, 49, 50, 51, 52, 53, 54, 55, 56, 57, 97, 98, 99, 100, 101, 102]⟩ : ByteArray)[c.toNat % 16]'(by have := c.toNat_lt; show _ < 16; omega)).toNat] rfl rfl (new_cell wr 5 _) (one_int _ _) HL3.out HL4.out (HL5.out _) ?_); intro v' w' hown' hgrow _))
      go_roundw
      case rel =>
        rw [dig_at _ (by omega)] at hown'
        obtain ⟨g1, g2⟩ := hex_grown (x := hexD (c.toNat % 16)) (by omega) rfl HB.out HOWN.out hown' hgrow
        exact ⟨8, _, by omega, by omega, rfl, g1, g2⟩
      case measure => simp [intOf]
    · obtain rfl : iv = -1 := by omega
      have hconv := run_own_string (l := hex8 c) HOWN.out
      clear hiv hj
      go_wp2
      go_ret
      exact ⟨rfl, HB.out⟩
end Go.Proofs.YtiblpkgbabjmfaaGreatDoor
