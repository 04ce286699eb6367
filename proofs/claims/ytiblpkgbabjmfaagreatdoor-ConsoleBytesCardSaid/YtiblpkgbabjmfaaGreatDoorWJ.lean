/- The contract of the reference's Hexa. -/
import Derived.Test.YtiblpkgbabjmfaaGreatDoorWI
namespace Go.Proofs.YtiblpkgbabjmfaaGreatDoor
open Go.RowKit

theorem ownsRow_below {w w' : World} {B : Nat} {e : TypeId} {v : Value} {n : Nat} {xs : List Value} (h : w.ownsRow B e 1 v n xs) (hb : Below w.heap.size w w') : w'.ownsRow B e 1 v n xs := by
  refine World.ownsRow.kept (w := w) (row := none) h ⟨hb.os, hb.tape, hb.output, hb.size, fun k hk _ => hb.block k hk⟩ ?_
  cases hvb : v.ownBlock with
  | none => exact .inl rfl
  | some g => exact .inr (by simp)

theorem ext6_cells (c : UInt8) : Lib.strCells ((⟨(hex8 c).toArray⟩ : ByteArray).extract 6 (hex8 c).length) = Lib.byteCells [hexD (c.toNat / 16), hexD (c.toNat % 16)] := by
  rw [Lib.strCells_eq, Lib.extract_data]; rfl
theorem ext6_size (c : UInt8) : ((⟨(hex8 c).toArray⟩ : ByteArray).extract 6 (hex8 c).length).size = 2 := by
  have := congrArg List.length (ext6_cells c)
  rw [Lib.strCells_length] at this
  exact this

theorem hexa_step {w W1 w' : World} {s : ByteArray} {k : Nat} {v v' : Value} (hk : k < s.size) (hbel : Below w.heap.size w W1) (hB : w.heap.size ≤ W1.heap.size) (hown : W1.ownsRow w.heap.size 5 1 v (hexP (s.data.toList.take k)).length (Lib.byteCells (hexP (s.data.toList.take k))))
    (hown' : w'.ownsRow w.heap.size 5 1 v' ((hexP (s.data.toList.take k)).length + ((⟨(hex8 s[k]).toArray⟩ : ByteArray).extract 6 (hex8 s[k]).length).size) (Lib.byteCells (hexP (s.data.toList.take k)) ++ Lib.strCells ((⟨(hex8 s[k]).toArray⟩ : ByteArray).extract 6 (hex8 s[k]).length))) (hg : W1.grownBy w' v.ownBlock) :
    w'.ownsRow w.heap.size 5 1 v' (hexP (s.data.toList.take (k + 1))).length (Lib.byteCells (hexP (s.data.toList.take (k + 1)))) ∧ Below w.heap.size w w' := by
  refine ⟨?_, hbel.grown hg hB (fun j hj => (hown.lt j hj).1)⟩
  rw [ext6_size, ext6_cells] at hown'
  rw [hexP_snoc s k hk, List.append_assoc, Lib.byteCells_append]
  simpa using hown'

set_option maxRecDepth 100000 in
set_option maxHeartbeats 4000000 in
theorem hexa23 (s : ByteArray) (w : World) (hs : s.size ≤ 1000000) : Calls Tryz.prog 23 #[.string s] w (TextPost w (hexL s.data.toList)) := by
  by_cases h0 : s.data.toList = []
  · have hem : s.toList.isEmpty = true := by rw [empty_of]; simpa using h0
    have H0 := Lib.hid h0
    clear h0
    go_enter Tryz.func23, Tryz.ntmps23
    go_wp2
    go_ret
    exact ⟨by rw [H0.out]; rfl, Below.refl _ _⟩
  · have hem : s.toList.isEmpty = false := by rw [empty_of]; simpa using h0
    have H0 := Lib.hid h0
    clear h0
    go_enter Tryz.func23, Tryz.ntmps23
    go_wp2
    go_loopw [3, 4] (fun v i wr => ∃ k : Nat, k ≤ s.size ∧ i = .int .i64 k ∧ wr.ownsRow w.heap.size 5 1 v (hexP (s.data.toList.take k)).length (Lib.byteCells (hexP (s.data.toList.take k))) ∧ Below w.heap.size w wr) (fun _ i _ => s.size - (intOf i).toNat)
    case atStart => exact ⟨0, by omega, rfl, World.ownsRow_nil _ _ _ _, Below.refl _ w⟩
    case round =>
      obtain ⟨k, hk, rfl, hown, hb⟩ := hrel
      have hlen : (hexP (s.data.toList.take k)).length ≤ 2 * s.size := by rw [hexP_length]; simp; omega
      have hsz := hb.size
      have HOWN := Lib.hid hown
      have HB := Lib.hid hb
      clear hown hb
      by_cases hlt : k < s.size
      · have hc := s[k].toNat_lt
        go_wp2_with fail
        go_at_call 37
        refine (hex37 _ _).mono ?_
        rintro e W1 ⟨rfl, b1⟩
        have hsz1 := b1.size
        have hown1 := ownsRow_below HOWN.out b1
        have hbel1 : Below w.heap.size w W1 := HB.out.trans (b1.mono (by omega))
        have h6 := ext6_size s[k]
        have hl3 : (hexP (s.data.toList.take k)).length + ((⟨(hex8 s[k]).toArray⟩ : ByteArray).extract 6 (hex8 s[k]).length).size ≤ maxLen := by simp only [maxLen]; omega
        have hl4 : (hexP (s.data.toList.take k)).length + ((⟨(hex8 s[k]).toArray⟩ : ByteArray).extract 6 (hex8 s[k]).length).size ≤ 140737488355328 := by omega
        have HL3 := Lib.hid hl3
        have HL4 := Lib.hid hl4
        have HOWN1 := Lib.hid hown1
        have HB1 := Lib.hid hbel1
        obtain ⟨i0, hi0, hz0, hz1, hz2⟩ := info_parts info5
        have h8 : (6 : Int) ≤ ((hex8 s[k]).length : Int) := by rw [hex8_length]; decide
        clear b1 hown1 hbel1 hl3 hl4 h6
        go_wp2_with ((at_builtin; (refine Lib.wpList_append_own_string _ rfl (.tmp 19) (.tmp 21) 65 9 rfl w.heap.size 5 i0 Tryz.underlying65 Tryz.underlying9 hi0 hz0 hz1 hz2 u3 (hexP (s.data.toList.take k)).length (Lib.byteCells (hexP (s.data.toList.take k))) rfl HOWN1.out ((⟨(hex8 s[k]).toArray⟩ : ByteArray).extract 6 (hex8 s[k]).length) rfl HL3.out HL4.out (by omega) ?_); intro v' w' hown' hgrow _))
        go_roundw
        case rel =>
          obtain ⟨g1, g2⟩ := hexa_step hlt HB1.out (by omega) HOWN1.out hown' hgrow
          exact ⟨k + 1, by omega, by go_num, g1, g2⟩
        case measure => simp [intOf]; omega
      · obtain rfl : k = s.size := by omega
        have hconv := run_own_string HOWN.out
        go_wp2
        go_ret
        refine ⟨?_, HB.out⟩
        have : hexL s.data.toList = hexP s.data.toList := by unfold hexL; rw [if_neg H0.out]; rfl
        rw [this, List.take_of_length_le (by simp)]
        rfl
end Go.Proofs.YtiblpkgbabjmfaaGreatDoor
