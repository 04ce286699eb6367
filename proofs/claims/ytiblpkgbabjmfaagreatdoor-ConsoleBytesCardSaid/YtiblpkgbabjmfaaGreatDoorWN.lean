/- The contract of 'of'. -/
import Derived.Test.YtiblpkgbabjmfaaGreatDoorWL
namespace Go.Proofs.YtiblpkgbabjmfaaGreatDoor
open Go.RowKit

/-- The cells of a name's key. -/
def keyL (l : List UInt8) : List Value := (l.take 24).map (fun b => Value.int .u8 (b.toNat : Int)) ++ List.replicate (24 - l.length) (.int .u8 0)

theorem keyL_length (l : List UInt8) : (keyL l).length = 24 := by simp [keyL]; omega

theorem byteCells1 (l : List UInt8) : ∀ v ∈ (l.map (fun b => Value.int .u8 (b.toNat : Int))), v.oneCell' = true := by
  intro v hv
  simp only [List.mem_map] at hv
  obtain ⟨b, _, rfl⟩ := hv
  rfl

theorem keyL_one (l : List UInt8) : ∀ v ∈ keyL l, v.oneCell' = true := by
  intro v hv
  simp only [keyL, List.mem_append, List.mem_map, List.mem_replicate] at hv
  rcases hv with ⟨b, _, rfl⟩ | ⟨_, rfl⟩ <;> rfl

def zero24 : Array Value := (List.replicate 24 (Value.int .u8 0)).toArray

theorem run_copy_key (w : World) (g : Nat) (s : ByteArray) (hg : w.heap[g]? = some (.cells zero24 155 (0, 0))) :
    (Builtin.copy_ #[65, 9] 3 #[.slice (some ⟨g, 0, none⟩) 24 24, .string s]).run Tryz.prog w =
      .ok (goInt ((min s.size 24 : Nat) : Int)) (w.setRow g (keyL s.data.toList).toArray) := by
  have hst := run_storeCells_at (P := Tryz.prog) g 0 155 ((s.data.toList.take 24).map (fun b => Value.int .u8 (b.toNat : Int))) 0 zero24 w hg (by simp [zero24]; omega) (byteCells1 _)
  have hl : s.data.toList.length = s.size := by simp
  simp only [Nat.add_zero] at hst
  have e1 : (List.take (min s.size 24) (List.map (fun b : UInt8 => Value.int IntKind.u8 (b.toNat : Int)) s.data.toList)) = (s.data.toList.take 24).map (fun b => Value.int .u8 (b.toNat : Int)) := by
    rw [← List.map_take]; congr 1
    by_cases h : s.size ≤ 24
    · rw [Nat.min_eq_left h, List.take_of_length_le (by omega), List.take_of_length_le (by omega)]
    · rw [Nat.min_eq_right (by omega)]
  have e2 : (Nat.min s.size 24) = min s.size 24 := rfl
  obtain ⟨i, hi⟩ : ∃ i, Tryz.prog.info? 5 = some i := by obtain ⟨i, h, _⟩ := info_parts info5; exact ⟨i, h⟩
  simp [Builtin.copy_, run_underlying Tryz.underlying65, Builtin.lenOf, Builtin.firstCells, sizeOf, typeInfo, hi, e2]
  rw [e1, hst]
  have e3 : (zero24.toList.take (0 + 0) ++ List.map (fun b : UInt8 => Value.int IntKind.u8 (b.toNat : Int)) (List.take 24 s.data.toList) ++ zero24.toList.drop (0 + 0 + (List.map (fun b : UInt8 => Value.int IntKind.u8 (b.toNat : Int)) (List.take 24 s.data.toList)).length)) = keyL s.data.toList := by
    have ez : zero24.toList = List.replicate 24 (Value.int .u8 0) := rfl
    rw [ez, keyL, List.drop_replicate]
    simp only [List.take_zero, List.nil_append, Nat.zero_add, List.length_map, List.length_take, hl]
    by_cases h : s.size ≤ 24
    · rw [Nat.min_eq_right h]
    · rw [Nat.min_eq_left (by omega), Nat.sub_self, Nat.sub_eq_zero_of_le (by omega)]
  rw [e3]
  simp [Result.andThen]

set_option maxRecDepth 100000 in
set_option maxHeartbeats 400000 in
theorem of26 (s : ByteArray) (w : World) (hs : s.size ≤ maxLen) :
    Calls Tryz.prog 81 #[.string s] w fun e w' => e = .returned (.tuple #[.agg (keyL s.data.toList).toArray, .bool (nameL s.data.toList)]) ∧ Below w.heap.size w w' := by
  have hs' := hs
  unfold maxLen at hs
  have HC := run_copy_key ((w.alloc (.cells zero24 155)).alloc (.cells zero24 155)) (w.heap.size + 1) s (heap_alloc2_new _ _ _)
  have f1 : (((w.alloc (.cells zero24 155)).alloc (.cells zero24 155)).setRow (w.heap.size + 1) (keyL s.data.toList).toArray).heap[w.heap.size + 1]? = some (.cells (keyL s.data.toList).toArray 155 (0, 0)) := setRow_heap _ _ _ _ _ _ (heap_alloc2_new _ _ _)
  have f0 : (((w.alloc (.cells zero24 155)).alloc (.cells zero24 155)).setRow (w.heap.size + 1) (keyL s.data.toList).toArray).heap[w.heap.size]? = some (.cells zero24 155 (0, 0)) := (setRow_other _ _ _ _ (by omega)).trans (heap_alloc2_old _ _ _)
  have hb : Below w.heap.size w (((w.alloc (.cells zero24 155)).alloc (.cells zero24 155)).setRow (w.heap.size + 1) (keyL s.data.toList).toArray) :=
    below_setRow (((Below.refl _ _).alloc (Nat.le_refl _) _).alloc (by simp) _) (by omega) _
  have hk1 := keyL_one s.data.toList
  have hkl := keyL_length s.data.toList
  have hnm := name31 s
  generalize hN : nameL s.data.toList = nb at *
  generalize hK : (keyL s.data.toList) = ks at *
  generalize hZ : zero24 = z24 at *
  have hzl : z24.size = 24 := by rw [← hZ]; rfl
  have F1 := Lib.hid f1
  have F0 := Lib.hid f0
  have HB := Lib.hid hb
  have HN := Lib.hid hN
  have HK := Lib.hid hK
  have HK1 := Lib.hid hk1
  have HKL := Lib.hid hkl
  have HZL := Lib.hid hzl
  have HNM := Lib.hid hnm
  clear f1 f0 hb hN hK hk1 hkl hzl hnm
  simp only [zero24, List.replicate] at hZ
  subst hZ
  go_enter Tryz.func81, Tryz.ntmps81
  go_wp2_with fail
  generalize World.setRow _ (w.heap.size + 1) ks.toArray = W1 at *
  clear HC
  refine wp_region_still_tail 3 (by kernel_rfl) (by kernel_rfl) ?_
  simp only [List.take_succ_cons, List.take_zero, List.drop_succ_cons, List.drop_zero]
  change wpStill _ _ W1.drew (fun a' => wpList _ _ _ _ a' W1.drew) _ _
  refine wpStill_step (fun K hK => ?_)
  refine still_load_row rfl 155 (.tmp 4) rfl (w.heap.size + 1) rfl 155 ks.toArray (0, 0) _ F1.out Tryz.underlying155 rfl (by rw [List.size_toArray, HKL.out]; kernel_rfl) ?_
  refine hK _ ?_
  clear hK K
  still_step
  refine wpStill_step (fun K hK => ?_)
  go_simp
  refine ⟨_, (HNM.out W1.drew hs').mono (by rintro e w' ⟨rfl, rfl⟩; exact ⟨rfl, rfl⟩), hK _ ?_⟩
  clear hK K
  refine wpStill_nil ?_
  refine wpList_store_row rfl 155 (.tmp 2) (.tmp 8) rfl w.heap.size rfl 155 ks.toArray _ rfl F0.out (by rw [List.size_toArray, HKL.out]; rfl) (by rw [List.size_toArray, HKL.out]; kernel_rfl) (by simpa using HK1.out) ?_
  go_wp2
  have hl := run_loadVar_row (P := Tryz.prog) (W1.drew.setRow w.heap.size ks.toArray) w.heap.size 155 155 ks.toArray (0, 0) _ (setRow_heap _ _ _ _ _ _ F0.out) Tryz.underlying155 rfl (by rw [List.size_toArray, HKL.out]; kernel_rfl)
  refine bodyPost_ret (v := .tuple #[.agg ks.toArray, .bool nb]) ?_ rfl ⟨rfl, below_setRow HB.out.drew (by omega) _⟩
  simp [results, Tryz.results81, asAddr, hl, Result.andThen]
end Go.Proofs.YtiblpkgbabjmfaaGreatDoor
