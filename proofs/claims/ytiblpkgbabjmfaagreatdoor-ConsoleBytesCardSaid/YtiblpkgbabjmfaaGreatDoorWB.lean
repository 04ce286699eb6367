/- The contract of words, which goes through a line by its runes: a blank stands for itself alone. -/
import Derived.Test.YtiblpkgbabjmfaaGreatDoorWA
import Derived.Laws.RangeAny
namespace Go.Proofs.YtiblpkgbabjmfaaGreatDoor
open Go.RowKit

theorem get_byte (s : ByteArray) (k : Nat) (h : k < s.size) : s.get! k = s[k] := by
  simp [ByteArray.get!, getElem!_pos, h]
  rfl

/-- The bytes of a rune that is not ASCII: none is below 128, all are there. -/
theorem decode_bytes (s : ByteArray) (pos : Nat) (h : pos < s.size) (ha : 128 ≤ (s[pos]'h).toNat) :
    pos + (Utf8.decode s pos).2 ≤ s.size ∧ ∀ j, pos ≤ j → j < pos + (Utf8.decode s pos).2 → 128 ≤ (s.get! j).toNat := by
  have e0 : (s.get! (pos + 0)).toNat = (s[pos]'h).toNat := by rw [Nat.add_zero, get_byte s pos h]
  have key : ∀ n, 1 ≤ n → n ≤ 4 → (∀ j, 1 ≤ j → j < n → pos + j < s.size ∧ (s.get! (pos + j)).toNat / 64 = 2) → pos + n ≤ s.size ∧ ∀ j, pos ≤ j → j < pos + n → 128 ≤ (s.get! j).toNat := by
    intro n h1 h4 hc
    refine ⟨?_, ?_⟩
    · by_cases h2 : n = 1
      · omega
      · have := (hc (n - 1) (by omega) (by omega)).1
        omega
    · intro j hj1 hj2
      by_cases hj : j = pos
      · subst hj; rw [get_byte s j h]; exact ha
      · have := (hc (j - pos) (by omega) (by omega)).2
        rw [show pos + (j - pos) = j by omega] at this
        omega
  have hn : ¬ (s[pos]'h).toNat < 128 := by omega
  simp only [Utf8.decode, e0, hn, if_false]
  repeat' split
  all_goals simp only []
  all_goals (try (exact key 1 (by omega) (by omega) (fun j _ _ => by omega)))
  · rename_i hc _
    simp only [Bool.and_eq_true, decide_eq_true_eq, beq_iff_eq] at hc
    exact key 2 (by omega) (by omega) (fun j j1 j2 => by obtain rfl : j = 1 := by omega
                                                         exact hc.2)
  · rename_i hc _
    simp only [Bool.and_eq_true, decide_eq_true_eq, beq_iff_eq] at hc
    refine key 3 (by omega) (by omega) (fun j j1 j2 => ?_)
    rcases (by omega : j = 1 ∨ j = 2) with rfl | rfl
    · exact hc.1.2
    · exact hc.2
  · rename_i hc _
    simp only [Bool.and_eq_true, decide_eq_true_eq, beq_iff_eq] at hc
    refine key 4 (by omega) (by omega) (fun j j1 j2 => ?_)
    rcases (by omega : j = 1 ∨ j = 2 ∨ j = 3) with rfl | rfl | rfl
    · exact hc.1.1.2
    · exact hc.1.2
    · exact hc.2

/-- A rune at hand: its width, and whether it is the blank. -/
theorem rune_cases (s : ByteArray) (pos : Nat) (h : pos < s.size) :
    (((Utf8.decode s pos).1 : Int) == 32) = true ∧ (Utf8.decode s pos).2 = 1 ∧ s[pos] = 32 ∨
    (((Utf8.decode s pos).1 : Int) == 32) = false ∧ 1 ≤ (Utf8.decode s pos).2 ∧ pos + (Utf8.decode s pos).2 ≤ s.size ∧ ∀ j (hj : j < s.size), pos ≤ j → j < pos + (Utf8.decode s pos).2 → s[j] ≠ 32 := by
  by_cases ha : (s[pos]'h).toNat < 128
  · rw [decode_ascii s pos h ha]
    by_cases h32 : (s[pos]'h) = 32
    · left
      rw [h32]
      exact ⟨rfl, rfl, rfl⟩
    · right
      refine ⟨?_, Nat.le_refl _, by omega, fun j hj h1 h2 => ?_⟩
      · rw [beq_eq_false_iff_ne]
        intro e
        have e : ((s[pos]'h).toNat : Int) = 32 := e
        exact h32 (UInt8.toNat_inj.1 (by show _ = 32; omega))
      · obtain rfl : j = pos := by omega
        exact h32
  · right
    obtain ⟨h1, h2⟩ := decode_bytes s pos h (by omega)
    obtain ⟨h3, h4⟩ := decode_high s pos h (by omega)
    refine ⟨?_, h4, h1, fun j hj h5 h6 => ?_⟩
    · rw [beq_eq_false_iff_ne]; omega
    · have := h2 j h5 h6
      rw [get_byte s j hj] at this
      intro e
      rw [e] at this
      exact absurd this (by decide)

theorem cut_many {s : ByteArray} {f : Nat} {ws : List ByteArray} : ∀ (n k : Nat), k + n ≤ s.size → f ≤ k → (∀ j (hj : j < s.size), k ≤ j → j < k + n → s[j] ≠ 32) → bytesL ws ++ cutGo ((s.data.toList.take k).drop f) (s.data.toList.drop k) = cutL s.data.toList →
    bytesL ws ++ cutGo ((s.data.toList.take (k + n)).drop f) (s.data.toList.drop (k + n)) = cutL s.data.toList
  | 0, _, _, _, _, h => h
  | n + 1, k, hk, hf, hb, h => by
    have h1 := cut_other (by omega) hf (hb k (by omega) (Nat.le_refl _) (by omega)) h
    have h2 := cut_many n (k + 1) (by omega) (by omega) (fun j hj a b => hb j hj (by omega) (by omega)) h1
    rw [show k + (n + 1) = k + 1 + n by omega]
    exact h2

/-- Words so far; the iterator stands at pos, in the block at B. -/
def WordsRel (B : Nat) (w : World) (s : ByteArray) (v : Value) (f pos : Nat) (wr : World) : Prop :=
  ∃ ws : List ByteArray, wr.ownsRow (B + 1) 9 1 v ws.length (ws.map Value.string) ∧ ws.length ≤ pos ∧ Below w.heap.size w wr ∧ wr.heap[B]? = some (.stringIter s pos) ∧ f ≤ pos ∧ pos ≤ s.size ∧
    bytesL ws ++ cutGo ((s.data.toList.take pos).drop f) (s.data.toList.drop pos) = cutL s.data.toList

theorem ownsRow_iter {w : World} {B k : Nat} {v : Value} {n : Nat} {xs : List Value} {s : ByteArray} {pos : Nat} (h : w.ownsRow B 9 1 v n xs) (hk : k < B) : (w.iterAt k s pos).ownsRow B 9 1 v n xs := by
  refine World.ownsRow.kept (w := w) (row := some k) h ⟨rfl, rfl, rfl, by rw [Lib.iterAt_size]; exact Nat.le_refl _, fun j _ hj => Lib.iterAt_other w k j s pos (fun e => hj (by rw [e]))⟩ ?_
  cases hvb : v.ownBlock with
  | none => exact .inl rfl
  | some g =>
    refine .inr (fun e => ?_)
    have := (h.lt g hvb).1
    cases e
    omega

theorem ownsRow_mono {w : World} {B B' : Nat} {e : TypeId} {size : Nat} {v : Value} {n : Nat} {xs : List Value} (h : w.ownsRow B e size v n xs) (hB : B' ≤ B) : w.ownsRow B' e size v n xs := by
  obtain ⟨h1, h2⟩ := h
  refine ⟨h1, ?_⟩
  rcases h2 with h2 | ⟨g, cap, cur, hv, hg, r⟩
  · exact Or.inl h2
  · exact Or.inr ⟨g, cap, cur, hv, by omega, r⟩

theorem words_append {w W w' : World} {o : Obj} {v v' : Value} {ws : List ByteArray} {x : ByteArray} {t : ByteArray} {p : Nat} (hbel : Below w.heap.size w W) (hown : W.ownsRow (w.heap.size + 1) 9 1 v ws.length (ws.map Value.string)) (hit : W.heap[w.heap.size]? = some (.stringIter t p))
    (hown' : w'.ownsRow (w.heap.size + 1) 9 1 v' (ws.length + 1) (ws.map Value.string ++ [Value.string x])) (hg : (W.alloc o).grownBy w' v.ownBlock) :
    w'.ownsRow (w.heap.size + 1) 9 1 v' (ws ++ [x]).length ((ws ++ [x]).map Value.string) ∧ (ws ++ [x]).length ≤ ws.length + 1 ∧ Below w.heap.size w w' ∧ w'.heap[w.heap.size]? = some (.stringIter t p) := by
  have hlt : w.heap.size < W.heap.size := (Array.getElem?_eq_some_iff.1 hit).1
  refine ⟨by simpa using hown', by simp, (hbel.alloc hbel.size o).grown hg (by simp; omega) (fun k hk => by have := (hown.lt k hk).1; omega), ?_⟩
  rw [hg.block _ (by simp; omega) (fun e => by have := (hown.lt _ e.symm).1; omega), Go.heap_alloc_old W o hlt]
  exact hit

set_option maxRecDepth 100000 in
set_option maxHeartbeats 1000000 in
theorem words16 (s : ByteArray) (w : World) (hs : s.size ≤ 1000000) : Calls Tryz.prog 16 #[.string s] w (CutPost w s.data.toList) := by
  go_enter Tryz.func16, Tryz.ntmps16
  go_wp2
  go_loopw [3, 4] (fun v f wr => ∃ fn pos : Nat, f = .int .i64 fn ∧ WordsRel w.heap.size w s v fn pos wr) (fun _ _ wr => s.size - wr.iterPos w.heap.size)
  case atStart => exact ⟨0, 0, rfl, [], World.ownsRow_nil _ _ _ _, by simp, (Below.refl _ _).alloc (Nat.le_refl _) _, Go.heap_alloc_new _ _, by omega, by omega, by simp [bytesL, cutL]⟩
  case round =>
    obtain ⟨fn, pos, rfl, ws, hown, hlen, hbel, hit, hfk, hks, hcut⟩ := hrel
    have hl3 : ws.length + 1 ≤ maxLen := by simp only [maxLen]; omega
    have hl4 : (ws.length + 1) * 16 ≤ 140737488355328 := by omega
    have hlw : w.heap.size < wr.heap.size := (Array.getElem?_eq_some_iff.1 hit).1
    have HOWN := Lib.hid hown
    have HCUT := Lib.hid hcut
    have HBEL := Lib.hid hbel
    have HLEN := Lib.hid hlen
    have HL3 := Lib.hid hl3
    have HL4 := Lib.hid hl4
    have HIT := Lib.hid hit
    clear hown hcut hbel hlen hl3 hl4 hit
    obtain ⟨i0, hi0, hz0, hz1, hz2⟩ := info_parts info9
    by_cases hp : pos < s.size
    · have hnx : ∀ ty, (Instr.next (.pointer (some ⟨w.heap.size, 0, none⟩)) true ty).run Tryz.prog wr = _ := fun ty => Lib.run_next_any_at wr w.heap.size s pos ty HIT.out hp
      have hd1 := decode_le s pos
      rcases rune_cases s pos hp with ⟨hb, hw, h32⟩ | ⟨hb, hw1, hw2, hno⟩
      · rw [hw] at hnx
        have H32 := Lib.hid h32
        have HOWN2 := Lib.hid (ownsRow_iter (s := s) (pos := pos + 1) HOWN.out (Nat.lt_succ_self _))
        have HBEL2 := Lib.hid (Lib.below_iterAt HBEL.out (Nat.le_refl _) s (pos + 1))
        have HIT2 := Lib.hid (Lib.iterAt_heap wr w.heap.size s pos (pos + 1) HIT.out)
        have hl5 : w.heap.size + 1 ≤ ((wr.iterAt w.heap.size s (pos + 1)).alloc (.cells #[.string (s.extract fn pos)] 9)).heap.size := by
          have := Lib.iterAt_size wr w.heap.size s (pos + 1)
          simp; omega
        have HL5 := Lib.hid hl5
        clear hl5
        clear h32 hw
        go_wp2_with (first | (at_builtin; (refine wpList_append_own _ rfl (.tmp 15) (.tmp 20) 40 rfl (w.heap.size + 1) 9 i0 (.string ByteArray.empty) 1 16 Tryz.underlying40 hi0 hz0 hz1 hz2 rfl (by decide) u3 ws.length (ws.map Value.string) rfl (HOWN2.out.alloc _) ⟨(wr.iterAt w.heap.size s (pos + 1)).heap.size, 0, none⟩ 1 1 [.string (s.extract fn pos)] rfl rfl (new_cell (wr.iterAt w.heap.size s (pos + 1)) 9 _) (one_str _) HL3.out HL4.out HL5.out ?_); intro v' w' hown' hgrow _))
        go_roundw
        case rel =>
          obtain ⟨g1, g2, g3, g4⟩ := words_append HBEL2.out HOWN2.out HIT2.out hown' hgrow
          have := HLEN.out
          exact ⟨pos + 1, pos + 1, by go_num, _, g1, by omega, g3, g4, by omega, by omega, cut_blank hp H32.out HCUT.out⟩
        case measure =>
          obtain ⟨g1, g2, g3, g4⟩ := words_append HBEL2.out HOWN2.out HIT2.out hown' hgrow
          simp only [World.iterPos, g4, HIT.out]
          omega
      · have HOWN2 := Lib.hid (ownsRow_iter (s := s) (pos := pos + (Utf8.decode s pos).2) HOWN.out (Nat.lt_succ_self _))
        have HBEL2 := Lib.hid (Lib.below_iterAt HBEL.out (Nat.le_refl _) s (pos + (Utf8.decode s pos).2))
        have HIT2 := Lib.hid (Lib.iterAt_heap wr w.heap.size s pos (pos + (Utf8.decode s pos).2) HIT.out)
        have HNO := Lib.hid hno
        clear hno
        go_wp2
        go_roundw
        case rel =>
          have := HLEN.out
          exact ⟨fn, pos + (Utf8.decode s pos).2, rfl, ws, HOWN2.out, by omega, HBEL2.out, HIT2.out, by omega, hw2, cut_many _ _ hw2 hfk HNO.out HCUT.out⟩
        case measure =>
          simp only [World.iterPos, HIT2.out, HIT.out]
          omega
    · have hnx : ∀ ty, (Instr.next (.pointer (some ⟨w.heap.size, 0, none⟩)) true ty).run Tryz.prog wr = _ := fun ty => Lib.run_next_end_at wr w.heap.size s pos ty HIT.out hp
      obtain rfl : pos = s.size := by omega
      have hl5 : w.heap.size + 1 ≤ (wr.alloc (.cells #[.string (s.extract fn s.size)] 9)).heap.size := by simp; omega
      have HL5 := Lib.hid hl5
      clear hl5
      clear hp hks
      go_wp2_with (first | (at_builtin; (refine wpList_append_own _ rfl (.tmp 24) (.tmp 28) 40 rfl (w.heap.size + 1) 9 i0 (.string ByteArray.empty) 1 16 Tryz.underlying40 hi0 hz0 hz1 hz2 rfl (by decide) u3 ws.length (ws.map Value.string) rfl (HOWN.out.alloc _) ⟨wr.heap.size, 0, none⟩ 1 1 [.string (s.extract fn s.size)] rfl rfl (new_cell wr 9 _) (one_str _) HL3.out HL4.out HL5.out ?_); intro v' w' hown' hgrow _))
      go_ret
      obtain ⟨g1, g2, g3, g4⟩ := words_append HBEL.out HOWN.out HIT.out hown' hgrow
      exact ⟨_, _, rfl, ownsRow_mono g1 (by omega), cut_end HCUT.out, g3⟩
end Go.Proofs.YtiblpkgbabjmfaaGreatDoor
