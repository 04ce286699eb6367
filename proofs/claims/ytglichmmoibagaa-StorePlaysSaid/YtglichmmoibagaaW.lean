/- The contract of 'wakes'. -/
import Derived.Test.YtglichmmoibagaaG
namespace Go.Proofs.Ytglichmmoibagaa
open Go.RowKit

theorem Only.below {S : Nat → Prop} {B : Nat} {w w1 w2 : World} (h : Below B w w1) (k : Only S w1 w2) (hB : B ≤ w.heap.size) (hs : ∀ i, S i → B ≤ i) : Below B w w2 :=
  ⟨k.os.trans h.os, k.tape.trans h.tape, k.output.trans h.output, Nat.le_trans h.size k.size, fun i hi => (k.block i (Nat.lt_of_lt_of_le hi (Nat.le_trans hB h.size)) (fun f => by have := hs i f; omega)).trans (h.block i hi)⟩

theorem isStore_new (w : World) : IsStore (w.alloc (.cells #[.map none] 51)) w.heap.size none [] := ⟨heap_alloc_new _ _, rfl⟩

theorem newp (w : World) : Calls Try.prog 11 #[] w fun e w' => e = .returned (.pointer (some ⟨w.heap.size, 0, none⟩)) ∧ IsStore w' w.heap.size none [] ∧ Below w.heap.size w w' :=
  (new11 w).mono fun _ _ ⟨he, hw⟩ => ⟨he, by rw [hw]; exact isStore_new w, by rw [hw]; exact (Below.refl w.heap.size w).alloc (Nat.le_refl _) _⟩

/-- A store of the call's own: from block B on. -/
def Own (B : Nat) (w w' : World) (b : Nat) (m : Files) : Prop := ∃ mo, IsStore w' b mo m ∧ B ≤ b ∧ (∀ r, mo = some r → B ≤ r) ∧ Below B w w' ∧ B ≤ w.heap.size

theorem own_new (w : World) : Calls Try.prog 11 #[] w fun e w' => e = .returned (.pointer (some ⟨w.heap.size, 0, none⟩)) ∧ Own w.heap.size w w' w.heap.size [] :=
  (newp w).mono fun _ _ ⟨he, hs, hb⟩ => ⟨he, none, hs, Nat.le_refl _, by simp, hb, Nat.le_refl _⟩

theorem own_put {B b : Nat} {w w1 : World} {m : Files} {n t : ByteArray} (h : Own B w w1 b m) (hn : n.size ≤ maxLen) (ht : t.size ≤ maxLen) (hm : m.length ≤ 64) :
    Calls Try.prog 12 #[.pointer (some ⟨b, 0, none⟩), .string n, .string t] w1 fun e w' => e = .returned (.int .i64 (putCode m n.data.toList t)) ∧ Own B w w' b (putM m n.data.toList t) := by
  obtain ⟨mo, hs, hb, hr, hbel, hB⟩ := h
  refine (put12 hs hn ht hm).mono fun e w' ⟨mo', he, hs', ho, hmo⟩ => ⟨he, mo', hs', hb, ?_, ?_, hB⟩
  · intro r e1
    rcases hmo r e1 with h | h
    · exact hr r h
    · exact Nat.le_trans hB (Nat.le_trans hbel.size h)
  · refine Only.below hbel ho hB ?_
    rintro i (rfl | h)
    · exact hb
    · exact hr i h

theorem own_get {B b : Nat} {w w1 : World} {m : Files} {n : ByteArray} (h : Own B w w1 b m) (hn : n.size ≤ maxLen) :
    Calls Try.prog 13 #[.pointer (some ⟨b, 0, none⟩), .string n] w1 fun e w' => e = .returned (.tuple #[.string ((m.get n.data.toList).getD ByteArray.empty), .bool (m.get n.data.toList).isSome]) ∧ Own B w w' b m := by
  obtain ⟨mo, hs, hb, hr, hbel, hB⟩ := h
  refine (get13 hs hn).mono fun e w' ⟨he, hw⟩ => ⟨he, mo, hs.below hw, hb, hr, hbel.trans (hw.mono (Nat.le_trans hB hbel.size)), hB⟩

theorem own_del {B b : Nat} {w w1 : World} {m : Files} {n : ByteArray} (h : Own B w w1 b m) (hn : n.size ≤ maxLen) :
    Calls Try.prog 14 #[.pointer (some ⟨b, 0, none⟩), .string n] w1 fun e w' => e = .returned (.bool (m.get n.data.toList).isSome) ∧ Own B w w' b (m.del n.data.toList) := by
  obtain ⟨mo, hs, hb, hr, hbel, hB⟩ := h
  exact (del14 hs hn).mono fun e w' ⟨he, hs', ho⟩ => ⟨he, mo, hs', hb, hr, Only.below hbel ho hB (fun i h => hr i h), hB⟩

def aMod : List UInt8 := [65, 46, 77, 111, 100]
def fileA : Files := [(aMod, ⟨#[120]⟩)]
theorem put_a : putCode [] aMod ⟨#[120]⟩ = 0 := by decide
theorem putM_a : putM [] aMod ⟨#[120]⟩ = fileA := by simp only [putM, put_a]; rfl
theorem get_a : fileA.get aMod = some ⟨#[120]⟩ := by simp [Files.get, fileA]
theorem put_1 : putCode fileA [49] ⟨#[]⟩ = 70 := by decide

theorem wake_put {B b : Nat} {w w1 : World} (h : Own B w w1 b []) :
    Calls Try.prog 12 #[.pointer (some ⟨b, 0, none⟩), .string ⟨#[65, 46, 77, 111, 100]⟩, .string ⟨#[120]⟩] w1 fun e w' => e = .returned (.int .i64 0) ∧ Own B w w' b fileA :=
  (own_put h (by decide) (by decide) (by simp)).mono fun e w' ⟨he, ho⟩ => ⟨by rw [he]; exact ret_i64 put_a, by have := putM_a; rw [← this]; exact ho⟩

theorem wake_get {B b : Nat} {w w1 : World} (h : Own B w w1 b fileA) :
    Calls Try.prog 13 #[.pointer (some ⟨b, 0, none⟩), .string ⟨#[65, 46, 77, 111, 100]⟩] w1 fun e w' => e = .returned (.tuple #[.string ⟨#[120]⟩, .bool true]) ∧ Own B w w' b fileA :=
  (own_get h (by decide)).mono fun e w' ⟨he, ho⟩ => ⟨by
    rw [he]
    have h1 : fileA.get (ByteArray.mk #[65, 46, 77, 111, 100]).data.toList = some ⟨#[120]⟩ := get_a
    rw [h1]; rfl, ho⟩

theorem wake_bad {B b : Nat} {w w1 : World} (h : Own B w w1 b fileA) :
    Calls Try.prog 12 #[.pointer (some ⟨b, 0, none⟩), .string ⟨#[49]⟩, .string ⟨#[]⟩] w1 fun e w' => e = .returned (.int .i64 70) ∧ Below B w w' :=
  (own_put h (by decide) (by decide) (by simp [fileA])).mono fun e w' ⟨he, ho⟩ => ⟨by rw [he]; exact ret_i64 put_1, by obtain ⟨_, _, _, _, hb, _⟩ := ho; exact hb⟩

set_option maxHeartbeats 1000000 in
theorem wakes8 (w : World) : Calls Try.prog 8 #[] w fun e w' => e = .returned (.bool true) ∧ Below w.heap.size w w' := by
  go_enter Try.func8, Try.ntmps8
  go_wp2_with fail
  refine (own_new w).mono ?_
  rintro e w1 ⟨rfl, h1⟩
  go_wp2_with fail
  refine (wake_put h1).mono ?_
  rintro e w2 ⟨rfl, h2⟩
  clear h1
  go_wp2_with fail
  refine (wake_get h2).mono ?_
  rintro e w3 ⟨rfl, h3⟩
  clear h2
  go_wp2_with fail
  refine (wake_bad h3).mono ?_
  rintro e w4 ⟨rfl, h4⟩
  clear h3
  go_wp2
  go_ret
  exact ⟨rfl, h4⟩
end Go.Proofs.Ytglichmmoibagaa
