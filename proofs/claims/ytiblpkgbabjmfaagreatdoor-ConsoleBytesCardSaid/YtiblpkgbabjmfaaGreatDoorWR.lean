/- The contract of parsed: the command that words are, or that they are none. -/
import Derived.Test.YtiblpkgbabjmfaaGreatDoorWRa
import Derived.BigRegion
namespace Go.Proofs.YtiblpkgbabjmfaaGreatDoor
open Go.RowKit

/-- What parsed answers. -/
def ParsedPost (w : World) (ws : List (List UInt8)) (e : Ending) (w' : World) : Prop :=
  Below w.heap.size w w' ∧ ((∃ c, parseW ws = some c ∧ e = .returned (.tuple #[cmdV c, .bool true])) ∨ (parseW ws = none ∧ ∃ c, e = .returned (.tuple #[cmdV c, .bool false])))

theorem parse_write_other (a : List UInt8) (r : List (List UInt8)) (ha : a = wWrite) (hl : r.length ≠ 2) : parseW (a :: r) = none := by
  subst ha
  match r, hl with
  | [], _ => rfl
  | [n], hl => first | (exact absurd rfl hl) | (simp only [parseW]; rw [if_neg (by rintro ⟨h, _⟩; exact absurd h (by decide)), if_neg (by rintro ⟨h, _⟩; exact absurd h (by decide))])
  | [n, t], hl => first | (exact absurd rfl hl) | (simp only [parseW]; rw [if_neg (by rintro ⟨h, _⟩; exact absurd h (by decide)), if_neg (by decide)])
  | [n, x, y], hl => first | (exact absurd rfl hl) | (simp only [parseW]; rw [if_neg (by rintro ⟨h, _⟩; exact absurd h (by decide))])
  | _ :: _ :: _ :: _ :: _, _ => rfl
theorem parse_delete_other (a : List UInt8) (r : List (List UInt8)) (ha : a = wDelete) (hl : r.length ≠ 1) : parseW (a :: r) = none := by
  subst ha
  match r, hl with
  | [], _ => rfl
  | [n], hl => first | (exact absurd rfl hl) | (simp only [parseW]; rw [if_neg (by rintro ⟨h, _⟩; exact absurd h (by decide)), if_neg (by rintro ⟨h, _⟩; exact absurd h (by decide))])
  | [n, t], hl => first | (exact absurd rfl hl) | (simp only [parseW]; rw [if_neg (by rintro ⟨h, _⟩; exact absurd h (by decide)), if_neg (by decide)])
  | [n, x, y], hl => first | (exact absurd rfl hl) | (simp only [parseW]; rw [if_neg (by rintro ⟨h, _⟩; exact absurd h (by decide))])
  | _ :: _ :: _ :: _ :: _, _ => rfl
theorem parse_compile_other (a : List UInt8) (r : List (List UInt8)) (ha : a = wCompile) (hl : r.length ≠ 1) : parseW (a :: r) = none := by
  subst ha
  match r, hl with
  | [], _ => rfl
  | [n], hl => first | (exact absurd rfl hl) | (simp only [parseW]; rw [if_neg (by rintro ⟨h, _⟩; exact absurd h (by decide)), if_neg (by rintro ⟨h, _⟩; exact absurd h (by decide))])
  | [n, t], hl => first | (exact absurd rfl hl) | (simp only [parseW]; rw [if_neg (by rintro ⟨h, _⟩; exact absurd h (by decide)), if_neg (by decide)])
  | [n, x, y], hl => first | (exact absurd rfl hl) | (simp only [parseW]; rw [if_neg (by rintro ⟨h, _⟩; exact absurd h (by decide))])
  | _ :: _ :: _ :: _ :: _, _ => rfl
theorem parse_load_other (a : List UInt8) (r : List (List UInt8)) (ha : a = wLoad) (hl : r.length ≠ 3) : parseW (a :: r) = none := by
  subst ha
  match r, hl with
  | [], _ => rfl
  | [n], hl => first | (exact absurd rfl hl) | (simp only [parseW]; rw [if_neg (by rintro ⟨h, _⟩; exact absurd h (by decide)), if_neg (by rintro ⟨h, _⟩; exact absurd h (by decide))])
  | [n, t], hl => first | (exact absurd rfl hl) | (simp only [parseW]; rw [if_neg (by rintro ⟨h, _⟩; exact absurd h (by decide)), if_neg (by decide)])
  | [n, x, y], hl => first | (exact absurd rfl hl) | (simp only [parseW]; rw [if_neg (by rintro ⟨h, _⟩; exact absurd h (by decide))])
  | _ :: _ :: _ :: _ :: _, _ => rfl
theorem parse_run_other (a : List UInt8) (r : List (List UInt8)) (ha : a = wRun) (hl : r.length ≠ 2) : parseW (a :: r) = none := by
  subst ha
  match r, hl with
  | [], _ => rfl
  | [n], hl => first | (exact absurd rfl hl) | (simp only [parseW]; rw [if_neg (by rintro ⟨h, _⟩; exact absurd h (by decide)), if_neg (by rintro ⟨h, _⟩; exact absurd h (by decide))])
  | [n, t], hl => first | (exact absurd rfl hl) | (simp only [parseW]; rw [if_neg (by rintro ⟨h, _⟩; exact absurd h (by decide)), if_neg (by decide)])
  | [n, x, y], hl => first | (exact absurd rfl hl) | (simp only [parseW]; rw [if_neg (by rintro ⟨h, _⟩; exact absurd h (by decide))])
  | _ :: _ :: _ :: _ :: _, _ => rfl
theorem parse_none_other (a : List UInt8) (r : List (List UInt8)) (ha : a ≠ wWrite ∧ a ≠ wDelete ∧ a ≠ wCompile ∧ a ≠ wLoad ∧ a ≠ wRun) : parseW (a :: r) = none := by
  obtain ⟨h1, h2, h3, h4, h5⟩ := ha
  match r with
  | [] => rfl
  | [n] => simp only [parseW]; rw [if_neg (fun h => h2 h.1), if_neg (fun h => h3 h.1)]
  | [n, t] => simp only [parseW]; rw [if_neg (fun h => h1 h.1), if_neg h5]
  | [n, x, y] => simp only [parseW]; rw [if_neg (fun h => h4 h.1)]
  | _ :: _ :: _ :: _ :: _ => rfl

set_option maxRecDepth 100000 in
set_option maxHeartbeats 4000000 in
theorem parsed_write (a n t : ByteArray) (g cap : Nat) (w : World) (hs : t.size ≤ 1000000) (hn : n.size ≤ maxLen) (hr : RowAt w g [a, n, t]) (ha : a.data.toList = wWrite) :
    Calls Tryz.prog 15 #[.slice (some ⟨g, 0, none⟩) 3 cap] w (ParsedPost w (bytesL [a, n, t])) := by
  have e0 : (a.toList == [119, 114, 105, 116, 101]) = true := by rw [word_eq, ha]; decide
  have c0 := hr 0 a rfl
  have c1 := hr 1 n rfl
  have c2 := hr 2 t rfl
  have hg := cell_lt c0
  have HR := Lib.hid hr
  have HS := Lib.hid hs
  have HN := Lib.hid hn
  have HA := Lib.hid ha
  clear hr ha hs hn
  go_enter Tryz.func15, Tryz.ntmps15
  go_wp2_with fail
  go_region
  go_wp2_with fail
  go_at_call 29
  refine (bytes29 t _ HS.out).mono ?_
  rintro e W1 ⟨rfl, b1⟩
  obtain ⟨f1, f2⟩ := blk_below b1
  obtain ⟨q0, q1, q2, q3, q4, q5, qf⟩ := blk_facts f1
  have c1' := (HR.out.below f2) 1 n rfl
  have F1 := Lib.hid f1
  have F2 := Lib.hid f2
  clear b1 f1 f2 c0 c1 c2
  cases hu : unhexL t.data.toList with
  | none =>
    have HU := Lib.hid hu
    clear hu
    simp only [bytesV]
    go_wp2_with fail
    refine ret_cmd (cs := #[.int .i64 1, .string n, .string ⟨#[]⟩, .int .i64 0, .int .i64 0, .int .i64 0]) Tryz.results15 rfl rfl (by simp [heap_set, F1.out, setObj]) rfl ⟨?_, .inr ⟨?_, ⟨1, n.data.toList, [], 0, 0, 0⟩, rfl⟩⟩
    · repeat (with_reducible refine below_set ?_)
      exact F2.out
    · simp only [bytesL, List.map_cons, List.map_nil, parseW, HA.out, HU.out]
      first | rfl | (split <;> rfl)
  | some x =>
    have HU := Lib.hid hu
    clear hu
    simp only [bytesV]
    go_wp2_with fail
    go_at_call 31
    refine (name31 n _ HN.out).mono ?_
    rintro e W2 ⟨rfl, rfl⟩
    cases hnm : nameL n.data.toList with
    | false =>
      have HNM := Lib.hid hnm
      clear hnm
      go_wp2_with fail
      refine ret_cmd (cs := #[.int .i64 1, .string n, .string ⟨x.toArray⟩, .int .i64 0, .int .i64 0, .int .i64 0]) Tryz.results15 rfl rfl (by simp [heap_set, F1.out, setObj]) rfl ⟨?_, .inr ⟨?_, ⟨1, n.data.toList, x, 0, 0, 0⟩, rfl⟩⟩
      · repeat (with_reducible refine below_set ?_)
        exact F2.out
      · simp only [bytesL, List.map_cons, List.map_nil, parseW, HA.out, HU.out, HNM.out]
        first | rfl | (split <;> rfl)
    | true =>
      have HNM := Lib.hid hnm
      clear hnm
      go_wp2_with fail
      refine ret_cmd (cs := #[.int .i64 1, .string n, .string ⟨x.toArray⟩, .int .i64 0, .int .i64 0, .int .i64 0]) Tryz.results15 rfl rfl (by simp [heap_set, F1.out, setObj]) rfl ⟨?_, .inl ⟨⟨1, n.data.toList, x, 0, 0, 0⟩, ?_, rfl⟩⟩
      · repeat (with_reducible refine below_set ?_)
        exact F2.out
      · simp only [bytesL, List.map_cons, List.map_nil, parseW, HA.out, HU.out, HNM.out]
        first | rfl | (split <;> rfl)

set_option maxRecDepth 100000 in
set_option maxHeartbeats 4000000 in
theorem parsed_delete (a n : ByteArray) (g cap : Nat) (w : World) (hn : n.size ≤ maxLen) (hr : RowAt w g [a, n]) (ha : a.data.toList = wDelete) :
    Calls Tryz.prog 15 #[.slice (some ⟨g, 0, none⟩) 2 cap] w (ParsedPost w (bytesL [a, n])) := by
  have e0 : (a.toList == [119, 114, 105, 116, 101]) = false := by rw [word_eq, ha]; decide
  have e1 : (a.toList == [100, 101, 108, 101, 116, 101]) = true := by rw [word_eq, ha]; decide
  have c0 := hr 0 a rfl
  have c1 := hr 1 n rfl
  have hg := cell_lt c0
  have HN := Lib.hid hn
  have HA := Lib.hid ha
  clear hr ha hn
  go_enter Tryz.func15, Tryz.ntmps15
  go_wp2_with fail
  go_at_call 31
  refine (name31 n _ HN.out).mono ?_
  rintro e W2 ⟨rfl, rfl⟩
  cases hnm : nameL n.data.toList with
  | false =>
    have HNM := Lib.hid hnm
    clear hnm
    go_wp2_with fail
    refine ret_cmd (cs := #[.int .i64 2, .string n, .string ⟨#[]⟩, .int .i64 0, .int .i64 0, .int .i64 0]) Tryz.results15 rfl rfl (Go.heap_alloc_new _ _) rfl ⟨?_, .inr ⟨?_, ⟨2, n.data.toList, [], 0, 0, 0⟩, rfl⟩⟩
    · exact (Below.refl _ w).alloc (Nat.le_refl _) _
    · simp only [bytesL, List.map_cons, List.map_nil, parseW, HA.out, HNM.out]
      first | rfl | (split <;> rfl)
  | true =>
    have HNM := Lib.hid hnm
    clear hnm
    go_wp2_with fail
    refine ret_cmd (cs := #[.int .i64 2, .string n, .string ⟨#[]⟩, .int .i64 0, .int .i64 0, .int .i64 0]) Tryz.results15 rfl rfl (Go.heap_alloc_new _ _) rfl ⟨?_, .inl ⟨⟨2, n.data.toList, [], 0, 0, 0⟩, ?_, rfl⟩⟩
    · exact (Below.refl _ w).alloc (Nat.le_refl _) _
    · simp only [bytesL, List.map_cons, List.map_nil, parseW, HA.out, HNM.out]
      first | rfl | (split <;> rfl)

set_option maxRecDepth 100000 in
set_option maxHeartbeats 4000000 in
theorem parsed_compile (a n : ByteArray) (g cap : Nat) (w : World) (hn : n.size ≤ maxLen) (hr : RowAt w g [a, n]) (ha : a.data.toList = wCompile) :
    Calls Tryz.prog 15 #[.slice (some ⟨g, 0, none⟩) 2 cap] w (ParsedPost w (bytesL [a, n])) := by
  have e0 : (a.toList == [119, 114, 105, 116, 101]) = false := by rw [word_eq, ha]; decide
  have e1 : (a.toList == [100, 101, 108, 101, 116, 101]) = false := by rw [word_eq, ha]; decide
  have e2 : (a.toList == [99, 111, 109, 112, 105, 108, 101]) = true := by rw [word_eq, ha]; decide
  have c0 := hr 0 a rfl
  have c1 := hr 1 n rfl
  have hg := cell_lt c0
  have HN := Lib.hid hn
  have HA := Lib.hid ha
  clear hr ha hn
  go_enter Tryz.func15, Tryz.ntmps15
  go_wp2_with fail
  go_at_call 31
  refine (name31 n _ HN.out).mono ?_
  rintro e W2 ⟨rfl, rfl⟩
  cases hnm : nameL n.data.toList with
  | false =>
    have HNM := Lib.hid hnm
    clear hnm
    go_wp2_with fail
    refine ret_cmd (cs := #[.int .i64 3, .string n, .string ⟨#[]⟩, .int .i64 0, .int .i64 0, .int .i64 0]) Tryz.results15 rfl rfl (Go.heap_alloc_new _ _) rfl ⟨?_, .inr ⟨?_, ⟨3, n.data.toList, [], 0, 0, 0⟩, rfl⟩⟩
    · exact (Below.refl _ w).alloc (Nat.le_refl _) _
    · simp only [bytesL, List.map_cons, List.map_nil, parseW, HA.out, HNM.out]
      first | rfl | (split <;> rfl)
  | true =>
    have HNM := Lib.hid hnm
    clear hnm
    go_wp2_with fail
    refine ret_cmd (cs := #[.int .i64 3, .string n, .string ⟨#[]⟩, .int .i64 0, .int .i64 0, .int .i64 0]) Tryz.results15 rfl rfl (Go.heap_alloc_new _ _) rfl ⟨?_, .inl ⟨⟨3, n.data.toList, [], 0, 0, 0⟩, ?_, rfl⟩⟩
    · exact (Below.refl _ w).alloc (Nat.le_refl _) _
    · simp only [bytesL, List.map_cons, List.map_nil, parseW, HA.out, HNM.out]
      first | rfl | (split <;> rfl)

set_option maxRecDepth 100000 in
set_option maxHeartbeats 4000000 in
theorem parsed_load (a n x y : ByteArray) (g cap : Nat) (w : World) (hL : Laid w) (hsx : x.size ≤ 1000000) (hsy : y.size ≤ 1000000) (hn : n.size ≤ maxLen) (hr : RowAt w g [a, n, x, y]) (ha : a.data.toList = wLoad) :
    Calls Tryz.prog 15 #[.slice (some ⟨g, 0, none⟩) 4 cap] w (ParsedPost w (bytesL [a, n, x, y])) := by
  have e0 : (a.toList == [119, 114, 105, 116, 101]) = false := by rw [word_eq, ha]; decide
  have e1 : (a.toList == [100, 101, 108, 101, 116, 101]) = false := by rw [word_eq, ha]; decide
  have e2 : (a.toList == [99, 111, 109, 112, 105, 108, 101]) = false := by rw [word_eq, ha]; decide
  have e3 : (a.toList == [108, 111, 97, 100]) = true := by rw [word_eq, ha]; decide
  have c0 := hr 0 a rfl
  have c1 := hr 1 n rfl
  have c2 := hr 2 x rfl
  have hg := cell_lt c0
  have HR := Lib.hid hr
  have HL := Lib.hid hL
  have HSX := Lib.hid hsx
  have HSY := Lib.hid hsy
  have HN := Lib.hid hn
  have HA := Lib.hid ha
  clear hr ha hsx hsy hn hL
  go_enter Tryz.func15, Tryz.ntmps15
  go_wp2_with fail
  go_region
  go_wp2_with fail
  go_at_call 30
  refine (number30 x _ (HL.out.below ((Below.refl _ w).alloc (Nat.le_refl _) _).drew) HSX.out).mono ?_
  rintro e W1 ⟨rfl, b1⟩
  obtain ⟨f1, f2⟩ := blk_below b1
  obtain ⟨q0, q1, q2, q3, q4, q5, qf⟩ := blk_facts f1
  have c1' := (HR.out.below f2) 1 n rfl
  have c3' := (HR.out.below f2) 3 y rfl
  have F1 := Lib.hid f1
  have F2 := Lib.hid f2
  clear b1 f1 f2 c0 c1 c2
  cases hx : numL x.data.toList with
  | none =>
    have HX := Lib.hid hx
    clear hx
    simp only [numV]
    go_wp2_with fail
    have f3 : (W1.setCell ⟨w.heap.size, 4, none⟩ (.int .i64 0)).heap[w.heap.size]? = some (.cells #[.int .i64 4, .string n, .string ⟨#[]⟩, .int .i64 0, .int .i64 0, .int .i64 0] 26 (0, 0)) := by simp [heap_set, F1.out, setObj]
    have f4 : Below w.heap.size w (W1.setCell ⟨w.heap.size, 4, none⟩ (.int .i64 0)) := below_set F2.out
    go_at_call 30
    refine (number30 y _ (HL.out.below f4) HSY.out).mono ?_
    rintro e W2 ⟨rfl, b2⟩
    have F5 := Lib.hid ((b2.block _ (Array.getElem?_eq_some_iff.1 f3).1).trans f3)
    have f6 : Below w.heap.size w W2 := below_after f4 b2
    obtain ⟨r0, r1, r2, r3, r4, r5, rf⟩ := blk_facts F5.out
    have c1'' := (HR.out.below f6) 1 n rfl
    have F2 := Lib.hid f6
    clear b2 f3 f4 f6 q0 q1 q2 q3 q4 q5 qf c1' c3' F1
    cases hy : numL y.data.toList with
    | none =>
      have HY := Lib.hid hy
      clear hy
      simp only [numV]
      go_wp2_with fail
      refine ret_cmd (cs := #[.int .i64 4, .string n, .string ⟨#[]⟩, .int .i64 0, .int .i64 0, .int .i64 0]) Tryz.results15 rfl rfl (by simp [heap_set, F5.out, setObj]) rfl ⟨?_, .inr ⟨?_, ⟨4, n.data.toList, [], 0, 0, 0⟩, rfl⟩⟩
      · repeat (with_reducible refine below_set ?_)
        exact F2.out
      · simp only [bytesL, List.map_cons, List.map_nil, parseW, HA.out, HX.out, HY.out]
        first | rfl | (split <;> rfl)
    | some j =>
      have HY := Lib.hid hy
      clear hy
      simp only [numV]
      go_wp2_with fail
      refine ret_cmd (cs := #[.int .i64 4, .string n, .string ⟨#[]⟩, .int .i64 0, .int .i64 0, .int .i64 (j : Int)]) Tryz.results15 rfl rfl (by simp [heap_set, F5.out, setObj]) rfl ⟨?_, .inr ⟨?_, ⟨4, n.data.toList, [], 0, 0, (j : Int)⟩, rfl⟩⟩
      · repeat (with_reducible refine below_set ?_)
        exact F2.out
      · simp only [bytesL, List.map_cons, List.map_nil, parseW, HA.out, HX.out, HY.out]
        first | rfl | (split <;> rfl)
  | some i =>
    have HX := Lib.hid hx
    clear hx
    simp only [numV]
    go_wp2_with fail
    have f3 : (W1.setCell ⟨w.heap.size, 4, none⟩ (.int .i64 (i : Int))).heap[w.heap.size]? = some (.cells #[.int .i64 4, .string n, .string ⟨#[]⟩, .int .i64 0, .int .i64 (i : Int), .int .i64 0] 26 (0, 0)) := by simp [heap_set, F1.out, setObj]
    have f4 : Below w.heap.size w (W1.setCell ⟨w.heap.size, 4, none⟩ (.int .i64 (i : Int))) := below_set F2.out
    go_at_call 30
    refine (number30 y _ (HL.out.below f4) HSY.out).mono ?_
    rintro e W2 ⟨rfl, b2⟩
    have F5 := Lib.hid ((b2.block _ (Array.getElem?_eq_some_iff.1 f3).1).trans f3)
    have f6 : Below w.heap.size w W2 := below_after f4 b2
    obtain ⟨r0, r1, r2, r3, r4, r5, rf⟩ := blk_facts F5.out
    have c1'' := (HR.out.below f6) 1 n rfl
    have F2 := Lib.hid f6
    clear b2 f3 f4 f6 q0 q1 q2 q3 q4 q5 qf c1' c3' F1
    cases hy : numL y.data.toList with
    | none =>
      have HY := Lib.hid hy
      clear hy
      simp only [numV]
      go_wp2_with fail
      refine ret_cmd (cs := #[.int .i64 4, .string n, .string ⟨#[]⟩, .int .i64 0, .int .i64 (i : Int), .int .i64 0]) Tryz.results15 rfl rfl (by simp [heap_set, F5.out, setObj]) rfl ⟨?_, .inr ⟨?_, ⟨4, n.data.toList, [], 0, (i : Int), 0⟩, rfl⟩⟩
      · repeat (with_reducible refine below_set ?_)
        exact F2.out
      · simp only [bytesL, List.map_cons, List.map_nil, parseW, HA.out, HX.out, HY.out]
        first | rfl | (split <;> rfl)
    | some j =>
      have HY := Lib.hid hy
      clear hy
      simp only [numV]
      go_wp2_with fail
      go_at_call 31
      refine (name31 n _ HN.out).mono ?_
      rintro e W3 ⟨rfl, rfl⟩
      cases hnm : nameL n.data.toList with
      | false =>
        have HNM := Lib.hid hnm
        clear hnm
        go_wp2_with fail
        refine ret_cmd (cs := #[.int .i64 4, .string n, .string ⟨#[]⟩, .int .i64 0, .int .i64 (i : Int), .int .i64 (j : Int)]) Tryz.results15 rfl rfl (by simp [heap_set, F5.out, setObj]) rfl ⟨?_, .inr ⟨?_, ⟨4, n.data.toList, [], 0, (i : Int), (j : Int)⟩, rfl⟩⟩
        · repeat (with_reducible refine below_set ?_)
          exact F2.out
        · simp only [bytesL, List.map_cons, List.map_nil, parseW, HA.out, HX.out, HY.out, HNM.out]
          first | rfl | (split <;> rfl)
      | true =>
        have HNM := Lib.hid hnm
        clear hnm
        go_wp2_with fail
        refine ret_cmd (cs := #[.int .i64 4, .string n, .string ⟨#[]⟩, .int .i64 0, .int .i64 (i : Int), .int .i64 (j : Int)]) Tryz.results15 rfl rfl (by simp [heap_set, F5.out, setObj]) rfl ⟨?_, .inl ⟨⟨4, n.data.toList, [], 0, i, j⟩, ?_, rfl⟩⟩
        · repeat (with_reducible refine below_set ?_)
          exact F2.out
        · simp only [bytesL, List.map_cons, List.map_nil, parseW, HA.out, HX.out, HY.out, HNM.out]
          first | rfl | (split <;> rfl)

set_option maxRecDepth 100000 in
set_option maxHeartbeats 4000000 in
theorem parsed_run (a n t : ByteArray) (g cap : Nat) (w : World) (hL : Laid w) (hsn : n.size ≤ 1000000) (hst : t.size ≤ 1000000) (hr : RowAt w g [a, n, t]) (ha : a.data.toList = wRun) :
    Calls Tryz.prog 15 #[.slice (some ⟨g, 0, none⟩) 3 cap] w (ParsedPost w (bytesL [a, n, t])) := by
  have e0 : (a.toList == [119, 114, 105, 116, 101]) = false := by rw [word_eq, ha]; decide
  have e1 : (a.toList == [100, 101, 108, 101, 116, 101]) = false := by rw [word_eq, ha]; decide
  have e2 : (a.toList == [99, 111, 109, 112, 105, 108, 101]) = false := by rw [word_eq, ha]; decide
  have e3 : (a.toList == [108, 111, 97, 100]) = false := by rw [word_eq, ha]; decide
  have e4 : (a.toList == [114, 117, 110]) = true := by rw [word_eq, ha]; decide
  have c0 := hr 0 a rfl
  have c1 := hr 1 n rfl
  have hg := cell_lt c0
  have HR := Lib.hid hr
  have HL := Lib.hid hL
  have HSN := Lib.hid hsn
  have HST := Lib.hid hst
  have HA := Lib.hid ha
  clear hr ha hsn hst hL
  go_enter Tryz.func15, Tryz.ntmps15
  go_wp2_with fail
  go_at_call 30
  refine (number30 n _ (HL.out.below ((Below.refl _ w).alloc (Nat.le_refl _) _)) HSN.out).mono ?_
  rintro e W1 ⟨rfl, b1⟩
  obtain ⟨f1, f2⟩ := blk_below' b1
  obtain ⟨q0, q1, q2, q3, q4, q5, qf⟩ := blk_facts f1
  have c2' := (HR.out.below f2) 2 t rfl
  have F1 := Lib.hid f1
  have F2 := Lib.hid f2
  clear b1 f1 f2 c0 c1
  cases hx : numL n.data.toList with
  | none =>
    have HX := Lib.hid hx
    clear hx
    simp only [numV]
    go_wp2_with fail
    have f3 : (W1.setCell ⟨w.heap.size, 3, none⟩ (.int .i64 0)).heap[w.heap.size]? = some (.cells #[.int .i64 5, .string ⟨#[]⟩, .string ⟨#[]⟩, .int .i64 0, .int .i64 0, .int .i64 0] 26 (0, 0)) := by simp [heap_set, F1.out, setObj]
    have f4 : Below w.heap.size w (W1.setCell ⟨w.heap.size, 3, none⟩ (.int .i64 0)) := below_set F2.out
    go_at_call 29
    refine (bytes29 t _ HST.out).mono ?_
    rintro e W2 ⟨rfl, b2⟩
    have F5 := Lib.hid ((b2.block _ (Array.getElem?_eq_some_iff.1 f3).1).trans f3)
    have f6 : Below w.heap.size w W2 := below_after f4 b2
    obtain ⟨r0, r1, r2, r3, r4, r5, rf⟩ := blk_facts F5.out
    have F2 := Lib.hid f6
    clear b2 f3 f4 f6 q0 q1 q2 q3 q4 q5 qf c2' F1
    cases hy : unhexL t.data.toList with
    | none =>
      have HY := Lib.hid hy
      clear hy
      simp only [bytesV]
      go_wp2_with fail
      refine ret_cmd (cs := #[.int .i64 5, .string ⟨#[]⟩, .string ⟨#[]⟩, .int .i64 0, .int .i64 0, .int .i64 0]) Tryz.results15 rfl rfl (by simp [heap_set, F5.out, setObj]) rfl ⟨?_, .inr ⟨?_, ⟨5, [], [], 0, 0, 0⟩, rfl⟩⟩
      · repeat (with_reducible refine below_set ?_)
        exact F2.out
      · simp only [bytesL, List.map_cons, List.map_nil, parseW, HA.out, HX.out, HY.out]
        first | rfl | (split <;> rfl)
    | some x =>
      have HY := Lib.hid hy
      clear hy
      simp only [bytesV]
      go_wp2_with fail
      refine ret_cmd (cs := #[.int .i64 5, .string ⟨#[]⟩, .string ⟨x.toArray⟩, .int .i64 0, .int .i64 0, .int .i64 0]) Tryz.results15 rfl rfl (by simp [heap_set, F5.out, setObj]) rfl ⟨?_, .inr ⟨?_, ⟨5, [], x, 0, 0, 0⟩, rfl⟩⟩
      · repeat (with_reducible refine below_set ?_)
        exact F2.out
      · simp only [bytesL, List.map_cons, List.map_nil, parseW, HA.out, HX.out, HY.out]
        first | rfl | (split <;> rfl)
  | some i =>
    have HX := Lib.hid hx
    clear hx
    simp only [numV]
    go_wp2_with fail
    have f3 : (W1.setCell ⟨w.heap.size, 3, none⟩ (.int .i64 (i : Int))).heap[w.heap.size]? = some (.cells #[.int .i64 5, .string ⟨#[]⟩, .string ⟨#[]⟩, .int .i64 (i : Int), .int .i64 0, .int .i64 0] 26 (0, 0)) := by simp [heap_set, F1.out, setObj]
    have f4 : Below w.heap.size w (W1.setCell ⟨w.heap.size, 3, none⟩ (.int .i64 (i : Int))) := below_set F2.out
    go_at_call 29
    refine (bytes29 t _ HST.out).mono ?_
    rintro e W2 ⟨rfl, b2⟩
    have F5 := Lib.hid ((b2.block _ (Array.getElem?_eq_some_iff.1 f3).1).trans f3)
    have f6 : Below w.heap.size w W2 := below_after f4 b2
    obtain ⟨r0, r1, r2, r3, r4, r5, rf⟩ := blk_facts F5.out
    have F2 := Lib.hid f6
    clear b2 f3 f4 f6 q0 q1 q2 q3 q4 q5 qf c2' F1
    cases hy : unhexL t.data.toList with
    | none =>
      have HY := Lib.hid hy
      clear hy
      simp only [bytesV]
      go_wp2_with fail
      refine ret_cmd (cs := #[.int .i64 5, .string ⟨#[]⟩, .string ⟨#[]⟩, .int .i64 (i : Int), .int .i64 0, .int .i64 0]) Tryz.results15 rfl rfl (by simp [heap_set, F5.out, setObj]) rfl ⟨?_, .inr ⟨?_, ⟨5, [], [], (i : Int), 0, 0⟩, rfl⟩⟩
      · repeat (with_reducible refine below_set ?_)
        exact F2.out
      · simp only [bytesL, List.map_cons, List.map_nil, parseW, HA.out, HX.out, HY.out]
        first | rfl | (split <;> rfl)
    | some x =>
      have HY := Lib.hid hy
      clear hy
      simp only [bytesV]
      go_wp2_with fail
      refine ret_cmd (cs := #[.int .i64 5, .string ⟨#[]⟩, .string ⟨x.toArray⟩, .int .i64 (i : Int), .int .i64 0, .int .i64 0]) Tryz.results15 rfl rfl (by simp [heap_set, F5.out, setObj]) rfl ⟨?_, .inl ⟨⟨5, [], x, i, 0, 0⟩, ?_, rfl⟩⟩
      · repeat (with_reducible refine below_set ?_)
        exact F2.out
      · simp only [bytesL, List.map_cons, List.map_nil, parseW, HA.out, HX.out, HY.out]
        first | rfl | (split <;> rfl)

set_option maxRecDepth 100000 in
set_option maxHeartbeats 4000000 in
theorem parsed_write_other (a : ByteArray) (r : List ByteArray) (g cap : Nat) (w : World) (hr : RowAt w g (a :: r)) (ha : a.data.toList = wWrite) (hl : r.length ≠ 2) (_hm : r.length ≤ 1000000) :
    Calls Tryz.prog 15 #[.slice (some ⟨g, 0, none⟩) (r.length + 1) cap] w (ParsedPost w (bytesL (a :: r))) := by
  have hp : parseW (bytesL (a :: r)) = none := parse_write_other _ _ ha (by simpa [bytesL] using hl)
  have e0 : (a.toList == [119, 114, 105, 116, 101]) = true := by rw [word_eq, ha]; decide
  have c0 := hr 0 a rfl
  have hg := cell_lt c0
  have bl : (((r.length : Int) + 1) == 3) = false := by rw [beq_eq_false_iff_ne]; omega
  have bl2 : (((r.length + 1 : Nat) : Int) == 3) = false := by rw [beq_eq_false_iff_ne]; omega
  have HP := Lib.hid hp
  clear hr ha hl hp
  go_enter Tryz.func15, Tryz.ntmps15
  go_wp2_with fail
  refine ret_cmd (cs := #[.int .i64 0, .string ⟨#[]⟩, .string ⟨#[]⟩, .int .i64 0, .int .i64 0, .int .i64 0]) Tryz.results15 rfl rfl (Go.heap_alloc_new _ _) rfl ⟨?_, .inr ⟨?_, ⟨0, [], [], 0, 0, 0⟩, rfl⟩⟩
  · exact (Below.refl _ w).alloc (Nat.le_refl _) _
  · exact HP.out

set_option maxRecDepth 100000 in
set_option maxHeartbeats 4000000 in
theorem parsed_delete_other (a : ByteArray) (r : List ByteArray) (g cap : Nat) (w : World) (hr : RowAt w g (a :: r)) (ha : a.data.toList = wDelete) (hl : r.length ≠ 1) (_hm : r.length ≤ 1000000) :
    Calls Tryz.prog 15 #[.slice (some ⟨g, 0, none⟩) (r.length + 1) cap] w (ParsedPost w (bytesL (a :: r))) := by
  have hp : parseW (bytesL (a :: r)) = none := parse_delete_other _ _ ha (by simpa [bytesL] using hl)
  have e0 : (a.toList == [119, 114, 105, 116, 101]) = false := by rw [word_eq, ha]; decide
  have e1 : (a.toList == [100, 101, 108, 101, 116, 101]) = true := by rw [word_eq, ha]; decide
  have c0 := hr 0 a rfl
  have hg := cell_lt c0
  have bl : (((r.length : Int) + 1) == 2) = false := by rw [beq_eq_false_iff_ne]; omega
  have bl2 : (((r.length + 1 : Nat) : Int) == 2) = false := by rw [beq_eq_false_iff_ne]; omega
  have HP := Lib.hid hp
  clear hr ha hl hp
  go_enter Tryz.func15, Tryz.ntmps15
  go_wp2_with fail
  refine ret_cmd (cs := #[.int .i64 2, .string ⟨#[]⟩, .string ⟨#[]⟩, .int .i64 0, .int .i64 0, .int .i64 0]) Tryz.results15 rfl rfl (Go.heap_alloc_new _ _) rfl ⟨?_, .inr ⟨?_, ⟨2, [], [], 0, 0, 0⟩, rfl⟩⟩
  · exact (Below.refl _ w).alloc (Nat.le_refl _) _
  · exact HP.out

set_option maxRecDepth 100000 in
set_option maxHeartbeats 4000000 in
theorem parsed_compile_other (a : ByteArray) (r : List ByteArray) (g cap : Nat) (w : World) (hr : RowAt w g (a :: r)) (ha : a.data.toList = wCompile) (hl : r.length ≠ 1) (_hm : r.length ≤ 1000000) :
    Calls Tryz.prog 15 #[.slice (some ⟨g, 0, none⟩) (r.length + 1) cap] w (ParsedPost w (bytesL (a :: r))) := by
  have hp : parseW (bytesL (a :: r)) = none := parse_compile_other _ _ ha (by simpa [bytesL] using hl)
  have e0 : (a.toList == [119, 114, 105, 116, 101]) = false := by rw [word_eq, ha]; decide
  have e1 : (a.toList == [100, 101, 108, 101, 116, 101]) = false := by rw [word_eq, ha]; decide
  have e2 : (a.toList == [99, 111, 109, 112, 105, 108, 101]) = true := by rw [word_eq, ha]; decide
  have c0 := hr 0 a rfl
  have hg := cell_lt c0
  have bl : (((r.length : Int) + 1) == 2) = false := by rw [beq_eq_false_iff_ne]; omega
  have bl2 : (((r.length + 1 : Nat) : Int) == 2) = false := by rw [beq_eq_false_iff_ne]; omega
  have HP := Lib.hid hp
  clear hr ha hl hp
  go_enter Tryz.func15, Tryz.ntmps15
  go_wp2_with fail
  refine ret_cmd (cs := #[.int .i64 3, .string ⟨#[]⟩, .string ⟨#[]⟩, .int .i64 0, .int .i64 0, .int .i64 0]) Tryz.results15 rfl rfl (Go.heap_alloc_new _ _) rfl ⟨?_, .inr ⟨?_, ⟨3, [], [], 0, 0, 0⟩, rfl⟩⟩
  · exact (Below.refl _ w).alloc (Nat.le_refl _) _
  · exact HP.out

set_option maxRecDepth 100000 in
set_option maxHeartbeats 4000000 in
theorem parsed_load_other (a : ByteArray) (r : List ByteArray) (g cap : Nat) (w : World) (hr : RowAt w g (a :: r)) (ha : a.data.toList = wLoad) (hl : r.length ≠ 3) (_hm : r.length ≤ 1000000) :
    Calls Tryz.prog 15 #[.slice (some ⟨g, 0, none⟩) (r.length + 1) cap] w (ParsedPost w (bytesL (a :: r))) := by
  have hp : parseW (bytesL (a :: r)) = none := parse_load_other _ _ ha (by simpa [bytesL] using hl)
  have e0 : (a.toList == [119, 114, 105, 116, 101]) = false := by rw [word_eq, ha]; decide
  have e1 : (a.toList == [100, 101, 108, 101, 116, 101]) = false := by rw [word_eq, ha]; decide
  have e2 : (a.toList == [99, 111, 109, 112, 105, 108, 101]) = false := by rw [word_eq, ha]; decide
  have e3 : (a.toList == [108, 111, 97, 100]) = true := by rw [word_eq, ha]; decide
  have c0 := hr 0 a rfl
  have hg := cell_lt c0
  have bl : (((r.length : Int) + 1) == 4) = false := by rw [beq_eq_false_iff_ne]; omega
  have bl2 : (((r.length + 1 : Nat) : Int) == 4) = false := by rw [beq_eq_false_iff_ne]; omega
  have HP := Lib.hid hp
  clear hr ha hl hp
  go_enter Tryz.func15, Tryz.ntmps15
  go_wp2_with fail
  refine ret_cmd (cs := #[.int .i64 0, .string ⟨#[]⟩, .string ⟨#[]⟩, .int .i64 0, .int .i64 0, .int .i64 0]) Tryz.results15 rfl rfl (Go.heap_alloc_new _ _) rfl ⟨?_, .inr ⟨?_, ⟨0, [], [], 0, 0, 0⟩, rfl⟩⟩
  · exact (Below.refl _ w).alloc (Nat.le_refl _) _
  · exact HP.out

set_option maxRecDepth 100000 in
set_option maxHeartbeats 4000000 in
theorem parsed_run_other (a : ByteArray) (r : List ByteArray) (g cap : Nat) (w : World) (hr : RowAt w g (a :: r)) (ha : a.data.toList = wRun) (hl : r.length ≠ 2) (_hm : r.length ≤ 1000000) :
    Calls Tryz.prog 15 #[.slice (some ⟨g, 0, none⟩) (r.length + 1) cap] w (ParsedPost w (bytesL (a :: r))) := by
  have hp : parseW (bytesL (a :: r)) = none := parse_run_other _ _ ha (by simpa [bytesL] using hl)
  have e0 : (a.toList == [119, 114, 105, 116, 101]) = false := by rw [word_eq, ha]; decide
  have e1 : (a.toList == [100, 101, 108, 101, 116, 101]) = false := by rw [word_eq, ha]; decide
  have e2 : (a.toList == [99, 111, 109, 112, 105, 108, 101]) = false := by rw [word_eq, ha]; decide
  have e3 : (a.toList == [108, 111, 97, 100]) = false := by rw [word_eq, ha]; decide
  have e4 : (a.toList == [114, 117, 110]) = true := by rw [word_eq, ha]; decide
  have c0 := hr 0 a rfl
  have hg := cell_lt c0
  have bl : (((r.length : Int) + 1) == 3) = false := by rw [beq_eq_false_iff_ne]; omega
  have bl2 : (((r.length + 1 : Nat) : Int) == 3) = false := by rw [beq_eq_false_iff_ne]; omega
  have HP := Lib.hid hp
  clear hr ha hl hp
  go_enter Tryz.func15, Tryz.ntmps15
  go_wp2_with fail
  refine ret_cmd (cs := #[.int .i64 0, .string ⟨#[]⟩, .string ⟨#[]⟩, .int .i64 0, .int .i64 0, .int .i64 0]) Tryz.results15 rfl rfl (Go.heap_alloc_new _ _) rfl ⟨?_, .inr ⟨?_, ⟨0, [], [], 0, 0, 0⟩, rfl⟩⟩
  · exact (Below.refl _ w).alloc (Nat.le_refl _) _
  · exact HP.out

set_option maxRecDepth 100000 in
set_option maxHeartbeats 4000000 in
theorem parsed_none (a : ByteArray) (r : List ByteArray) (g cap : Nat) (w : World) (hr : RowAt w g (a :: r)) (ha : a.data.toList ≠ wWrite ∧ a.data.toList ≠ wDelete ∧ a.data.toList ≠ wCompile ∧ a.data.toList ≠ wLoad ∧ a.data.toList ≠ wRun) :
    Calls Tryz.prog 15 #[.slice (some ⟨g, 0, none⟩) (r.length + 1) cap] w (ParsedPost w (bytesL (a :: r))) := by
  have hp : parseW (bytesL (a :: r)) = none := parse_none_other _ _ ha
  have e0 : (a.toList == [119, 114, 105, 116, 101]) = false := by rw [word_eq]; simpa [wWrite] using ha.1
  have e1 : (a.toList == [100, 101, 108, 101, 116, 101]) = false := by rw [word_eq]; simpa [wDelete] using ha.2.1
  have e2 : (a.toList == [99, 111, 109, 112, 105, 108, 101]) = false := by rw [word_eq]; simpa [wCompile] using ha.2.2.1
  have e3 : (a.toList == [108, 111, 97, 100]) = false := by rw [word_eq]; simpa [wLoad] using ha.2.2.2.1
  have e4 : (a.toList == [114, 117, 110]) = false := by rw [word_eq]; simpa [wRun] using ha.2.2.2.2
  have c0 := hr 0 a rfl
  have hg := cell_lt c0
  have HP := Lib.hid hp
  clear hr ha hp
  go_enter Tryz.func15, Tryz.ntmps15
  go_wp2_with fail
  refine ret_cmd (cs := #[.int .i64 0, .string ⟨#[]⟩, .string ⟨#[]⟩, .int .i64 0, .int .i64 0, .int .i64 0]) Tryz.results15 rfl rfl (Go.heap_alloc_new _ _) rfl ⟨?_, .inr ⟨?_, ⟨0, [], [], 0, 0, 0⟩, rfl⟩⟩
  · exact (Below.refl _ w).alloc (Nat.le_refl _) _
  · exact HP.out

/-- PARSED: whatever the words. -/
theorem parsed15 (ws : List ByteArray) (g cap : Nat) (w : World) (hL : Laid w) (hne : ws ≠ []) (hm : ws.length ≤ 1000000) (hs : ∀ x ∈ ws, x.size ≤ 1000000) (hr : RowAt w g ws) :
    Calls Tryz.prog 15 #[.slice (some ⟨g, 0, none⟩) ws.length cap] w (ParsedPost w (bytesL ws)) := by
  have hmax : ∀ x ∈ ws, x.size ≤ maxLen := fun x hx => by have := hs x hx; simp only [maxLen]; omega
  match ws, hne with
  | a :: r, _ =>
    have hm' : r.length ≤ 1000000 := by simp at hm; omega
    by_cases h1 : a.data.toList = wWrite
    · by_cases hl : r.length = 2
      · match r, hl with
        | [n, t], _ => exact parsed_write a n t g cap w (hs t (by simp)) (hmax n (by simp)) hr h1
      · exact parsed_write_other a r g cap w hr h1 hl hm'
    by_cases h2 : a.data.toList = wDelete
    · by_cases hl : r.length = 1
      · match r, hl with
        | [n], _ => exact parsed_delete a n g cap w (hmax n (by simp)) hr h2
      · exact parsed_delete_other a r g cap w hr h2 hl hm'
    by_cases h3 : a.data.toList = wCompile
    · by_cases hl : r.length = 1
      · match r, hl with
        | [n], _ => exact parsed_compile a n g cap w (hmax n (by simp)) hr h3
      · exact parsed_compile_other a r g cap w hr h3 hl hm'
    by_cases h4 : a.data.toList = wLoad
    · by_cases hl : r.length = 3
      · match r, hl with
        | [n, x, y], _ => exact parsed_load a n x y g cap w hL (hs x (by simp)) (hs y (by simp)) (hmax n (by simp)) hr h4
      · exact parsed_load_other a r g cap w hr h4 hl hm'
    by_cases h5 : a.data.toList = wRun
    · by_cases hl : r.length = 2
      · match r, hl with
        | [n, t], _ => exact parsed_run a n t g cap w hL (hs n (by simp)) (hs t (by simp)) hr h5
      · exact parsed_run_other a r g cap w hr h5 hl hm'
    · exact parsed_none a r g cap w hr ⟨h1, h2, h3, h4, h5⟩
end Go.Proofs.YtiblpkgbabjmfaaGreatDoor
