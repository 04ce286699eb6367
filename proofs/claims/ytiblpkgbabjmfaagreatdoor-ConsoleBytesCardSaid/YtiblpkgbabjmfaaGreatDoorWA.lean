/- The contracts of the functions that cut a line into words: both come to the words between the blanks, in a slice of the call's own. -/
import Derived.Test.YtiblpkgbabjmfaaGreatDoorProg
import Derived.Test.YtiblpkgbabjmfaaGreatDoorPA
import Derived.WalkKit
import Derived.WalkSpells
import Derived.WalkLawsBesides
import Derived.Lib.Hide
import Derived.Lib.Strings
import Derived.Lib.OthersKept
import Derived.Laws.AppendOwn
import Derived.Laws.Rows
import Derived.Outline
namespace Go.Proofs.YtiblpkgbabjmfaaGreatDoor
open Go.RowKit

theorem info9 : (Tryz.prog.info? 9).map (fun i => (i.zero, i.size, i.bytes)) = some (some (.string ByteArray.empty), 1, 16) := by kernel_rfl

theorem info5 : (Tryz.prog.info? 5).map (fun i => (i.zero, i.size, i.bytes)) = some (some (.int .u8 0), 1, 1) := by kernel_rfl

/-- Texts as lists of bytes. -/
def bytesL (ws : List ByteArray) : List (List UInt8) := ws.map (·.data.toList)

/-- What a cutter answers: a slice of the call's own with the words. -/
def CutPost (w : World) (l : List UInt8) (e : Ending) (w' : World) : Prop :=
  ∃ v ws, e = .returned v ∧ w'.ownsRow w.heap.size 9 1 v ws.length (ws.map Value.string) ∧ bytesL ws = cutL l ∧ Below w.heap.size w w'

/-- Words so far, and what is left to be cut. -/
def CutRel (B : Nat) (w : World) (s : ByteArray) (v : Value) (f k : Nat) (wr : World) : Prop :=
  ∃ ws : List ByteArray, wr.ownsRow B 9 1 v ws.length (ws.map Value.string) ∧ ws.length ≤ k ∧ Below w.heap.size w wr ∧
    ((f ≤ k ∧ k ≤ s.size ∧ bytesL ws ++ cutGo ((s.data.toList.take k).drop f) (s.data.toList.drop k) = cutL s.data.toList) ∨ (k = s.size + 1 ∧ bytesL ws = cutL s.data.toList))

theorem new_cell (w : World) (t : TypeId) (v : Value) : ∀ j u, [v][j]? = some u → (w.alloc (.cells #[v] t)).cell? ((⟨w.heap.size, 0, none⟩ : Addr).add j) = some u := by
  intro j u h
  cases j with
  | zero => simp at h; subst h; rw [show (⟨w.heap.size, 0, none⟩ : Addr).add 0 = ⟨w.heap.size, 0, none⟩ from rfl, cell_of_row _ _ _ _ _ _ (Go.heap_alloc_new w _)]; rfl
  | succ j => simp at h

theorem one_str (x : ByteArray) : ∀ u ∈ [Value.string x], u.oneCell' = true := by
  intro u hu
  simp at hu
  subst hu
  rfl

theorem ext_bytes (s : ByteArray) (f k : Nat) (_h : k ≤ s.size) : (s.extract f k).data.toList = (s.data.toList.take k).drop f := by
  rw [Lib.extract_data, List.drop_take]

theorem drop_cons (s : ByteArray) (k : Nat) (h : k < s.size) : s.data.toList.drop k = s[k] :: s.data.toList.drop (k + 1) := by
  rw [List.drop_eq_getElem_cons (by simpa using h)]; rfl
theorem take_snoc (s : ByteArray) (k : Nat) (h : k < s.size) : s.data.toList.take (k + 1) = s.data.toList.take k ++ [s[k]] := by
  rw [List.take_succ_eq_append_getElem (by simpa using h)]; rfl

theorem bytes_snoc (ws : List ByteArray) (x : ByteArray) : bytesL (ws ++ [x]) = bytesL ws ++ [x.data.toList] := by simp [bytesL]

/-- At a blank. -/
theorem cut_blank {s : ByteArray} {f k : Nat} {ws : List ByteArray} (hk : k < s.size) (h32 : s[k] = 32) (h : bytesL ws ++ cutGo ((s.data.toList.take k).drop f) (s.data.toList.drop k) = cutL s.data.toList) :
    bytesL (ws ++ [s.extract f k]) ++ cutGo ((s.data.toList.take (k + 1)).drop (k + 1)) (s.data.toList.drop (k + 1)) = cutL s.data.toList := by
  rw [← h, drop_cons s k hk, cutGo_cons, if_pos h32, bytes_snoc, ext_bytes s f k (by omega), List.drop_of_length_le (l := s.data.toList.take (k + 1)) (by simp; omega)]
  simp
/-- At another byte. -/
theorem cut_other {s : ByteArray} {f k : Nat} {ws : List ByteArray} (hk : k < s.size) (hf : f ≤ k) (h32 : s[k] ≠ 32) (h : bytesL ws ++ cutGo ((s.data.toList.take k).drop f) (s.data.toList.drop k) = cutL s.data.toList) :
    bytesL ws ++ cutGo ((s.data.toList.take (k + 1)).drop f) (s.data.toList.drop (k + 1)) = cutL s.data.toList := by
  have hl : f ≤ (s.data.toList.take k).length := by simp; omega
  rw [← h, drop_cons s k hk, cutGo_cons, if_neg h32, take_snoc s k hk, List.drop_append_of_le_length hl]
/-- At the end. -/
theorem cut_end {s : ByteArray} {f : Nat} {ws : List ByteArray} (h : bytesL ws ++ cutGo ((s.data.toList.take s.size).drop f) (s.data.toList.drop s.size) = cutL s.data.toList) :
    bytesL (ws ++ [s.extract f s.size]) = cutL s.data.toList := by
  rw [← h, bytes_snoc, ext_bytes s f s.size (Nat.le_refl _), List.drop_of_length_le (l := s.data.toList) (by simp)]
  simp [cutGo]

theorem byte_of {c : UInt8} (h : ((c.toNat : Int) == 32) = true) : c = 32 := by
  apply UInt8.toNat_inj.1
  have : (c.toNat : Int) = 32 := by simpa using h
  show c.toNat = 32
  omega
theorem byte_not {c : UInt8} (h : ¬ ((c.toNat : Int) == 32) = true) : c ≠ 32 := by
  rintro rfl; exact h rfl

theorem row_grown {w wr w' : World} {o : Obj} {v : Value} {n : Nat} {xs : List Value} (hbel : Below w.heap.size w wr) (hown : wr.ownsRow w.heap.size 9 1 v n xs) (hg : (wr.alloc o).grownBy w' v.ownBlock) : Below w.heap.size w w' :=
  (hbel.alloc hbel.size o).grown hg (by have := hbel.size; simp; omega) (fun k hk => (hown.lt k hk).1)

theorem append_done {w wr w' : World} {o : Obj} {v v' : Value} {ws : List ByteArray} {x : ByteArray} (hbel : Below w.heap.size w wr) (hown : wr.ownsRow w.heap.size 9 1 v ws.length (ws.map Value.string)) (hown' : w'.ownsRow w.heap.size 9 1 v' (ws.length + 1) (ws.map Value.string ++ [Value.string x])) (hg : (wr.alloc o).grownBy w' v.ownBlock) :
    w'.ownsRow w.heap.size 9 1 v' (ws ++ [x]).length ((ws ++ [x]).map Value.string) ∧ (ws ++ [x]).length ≤ ws.length + 1 ∧ Below w.heap.size w w' :=
  ⟨by simpa using hown', by simp, row_grown hbel hown hg⟩

set_option maxRecDepth 100000 in
set_option maxHeartbeats 1000000 in
theorem cut17 (s : ByteArray) (w : World) (hs : s.size ≤ 1000000) : Calls Tryz.prog 17 #[.string s] w (CutPost w s.data.toList) := by
  go_enter Tryz.func17, Tryz.ntmps17
  go_wp2
  go_loopw [3, 4, 5] (fun v f i wr => ∃ fn k : Nat, k ≤ s.size + 1 ∧ f = .int .i64 fn ∧ i = .int .i64 k ∧ CutRel w.heap.size w s v fn k wr) (fun _ _ i _ => s.size + 1 - (intOf i).toNat)
  case atStart => exact ⟨0, 0, by omega, rfl, rfl, [], World.ownsRow_nil _ _ _ _, by simp, Below.refl _ _, .inl ⟨by omega, by omega, by simp [bytesL, cutL]⟩⟩
  case round =>
    obtain ⟨fn, k, hk, rfl, rfl, ws, hown, hlen, hbel, hcut⟩ := hrel
    have hl3 : ws.length + 1 ≤ maxLen := by simp only [maxLen]; omega
    have hl4 : (ws.length + 1) * 16 ≤ 140737488355328 := by omega
    have hl5 : w.heap.size ≤ (wr.alloc (.cells #[.string (s.extract fn k)] 9)).heap.size := by have := hbel.size; simp; omega
    have hi4 : k ≤ 9223372036854775806 := by omega
    have HOWN := Lib.hid hown
    have HCUT := Lib.hid hcut
    have HBEL := Lib.hid hbel
    have HLEN := Lib.hid hlen
    have HL3 := Lib.hid hl3
    have HL4 := Lib.hid hl4
    have HL5 := Lib.hid hl5
    clear hown hcut hbel hlen hl3 hl4 hl5
    obtain ⟨i0, hi0, hz0, hz1, hz2⟩ := info_parts info9
    by_cases hlt : k < s.size
    · obtain ⟨hfk, hks, hc⟩ : fn ≤ k ∧ k ≤ s.size ∧ bytesL ws ++ cutGo ((s.data.toList.take k).drop fn) (s.data.toList.drop k) = cutL s.data.toList := by
        rcases HCUT.out with h | h
        · exact h
        · omega
      have HC := Lib.hid hc
      clear hc hks
      have b1 : ((k : Int) == (s.size : Int)) = false := by rw [beq_eq_false_iff_ne]; omega
      by_cases h32 : ((s[k].toNat : Int) == 32) = true
      · go_wp2_with (first | (at_builtin; (refine wpList_append_own _ rfl (.tmp 22) (.tmp 27) 40 rfl (w.heap.size) 9 i0 (.string ByteArray.empty) 1 16 Tryz.underlying40 hi0 hz0 hz1 hz2 rfl (by decide) u3 ws.length (ws.map Value.string) rfl (HOWN.out.alloc _) ⟨wr.heap.size, 0, none⟩ 1 1 [.string (s.extract fn k)] rfl rfl (new_cell wr 9 _) (one_str _) HL3.out HL4.out HL5.out ?_); intro v' w' hown' hgrow _))
        go_roundw
        case rel =>
          obtain ⟨g1, g2, g3⟩ := append_done HBEL.out HOWN.out hown' hgrow
          have := HLEN.out
          exact ⟨k + 1, k + 1, by omega, by go_num, by go_num, _, g1, by omega, g3, .inl ⟨by omega, by omega, cut_blank hlt (byte_of h32) HC.out⟩⟩
        case measure => simp [intOf]; omega
      · have h33 : ((s[k].toNat : Int) == 32) = false := by simpa using h32
        have H32 := Lib.hid h32
        clear h32
        go_wp2
        go_roundw
        case rel =>
          have := HLEN.out
          exact ⟨fn, k + 1, by omega, rfl, by go_num, ws, HOWN.out, by omega, HBEL.out, .inl ⟨by omega, by omega, cut_other hlt hfk (byte_not H32.out) HC.out⟩⟩
        case measure => simp [intOf]; omega
    · by_cases hke : k = s.size
      · obtain ⟨hfk, hks, hc⟩ : fn ≤ k ∧ k ≤ s.size ∧ bytesL ws ++ cutGo ((s.data.toList.take k).drop fn) (s.data.toList.drop k) = cutL s.data.toList := by
          rcases HCUT.out with h | h
          · exact h
          · omega
        have HC := Lib.hid hc
        clear hc hks hlt
        subst hke
        go_wp2_with (first | (at_builtin; (refine wpList_append_own _ rfl (.tmp 22) (.tmp 27) 40 rfl (w.heap.size) 9 i0 (.string ByteArray.empty) 1 16 Tryz.underlying40 hi0 hz0 hz1 hz2 rfl (by decide) u3 ws.length (ws.map Value.string) rfl (HOWN.out.alloc _) ⟨wr.heap.size, 0, none⟩ 1 1 [.string (s.extract fn s.size)] rfl rfl (new_cell wr 9 _) (one_str _) HL3.out HL4.out HL5.out ?_); intro v' w' hown' hgrow _))
        go_roundw
        case rel =>
          obtain ⟨g1, g2, g3⟩ := append_done HBEL.out HOWN.out hown' hgrow
          have := HLEN.out
          exact ⟨s.size + 1, s.size + 1, by omega, by go_num, by go_num, _, g1, by omega, g3, .inr ⟨rfl, cut_end HC.out⟩⟩
        case measure => simp [intOf]
      · have hke2 : k = s.size + 1 := by omega
        have hc : bytesL ws = cutL s.data.toList := by
          rcases HCUT.out with ⟨_, h, _⟩ | ⟨_, h⟩
          · omega
          · exact h
        have HC := Lib.hid hc
        clear hc hlt hke
        subst hke2
        go_wp2
        go_ret
        exact ⟨_, ws, rfl, HOWN.out, HC.out, HBEL.out⟩
end Go.Proofs.YtiblpkgbabjmfaaGreatDoor
