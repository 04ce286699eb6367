/- The walk of StoreFull. -/
import Derived.Test.YtglichmmoibagaaN
import Derived.Test.YtglichmmoibagaaC
namespace Go.Proofs.Ytglichmmoibagaa
open Go.RowKit

def nameI (i : Nat) : List UInt8 := [70, UInt8.ofNat (97 + i / 26), UInt8.ofNat (97 + i % 26)]

theorem run_row_string {w : World} {g c : Nat} {t : TypeId} {fr : Nat × Nat} {nm : List UInt8} {cs : Array Value} (hg : w.heap[g]? = some (.cells cs t fr)) (hc : cs = (nm.map fun b => Value.int .u8 (b.toNat : Int)).toArray) :
    (convert 45 9 (.slice (some ⟨g, 0, none⟩) nm.length c)).run Try.prog w = .ok (.string ⟨nm.toArray⟩) w := by
  subst hc
  have hl : (loadCells ⟨g, 0, none⟩ nm.length).run Try.prog w = .ok ((nm.map fun b => (b.toNat : Int)).map (Value.int .u8)).toArray w := by
    have h := run_loadCells_list (P := Try.prog) w ⟨g, 0, none⟩ ((nm.map fun b => (b.toNat : Int)).map (Value.int .u8)) (fun j v hv => by
      have hj : j < nm.length := by
        rcases Nat.lt_or_ge j nm.length with h | h
        · exact h
        · rw [List.getElem?_eq_none (by simpa using h)] at hv; cases hv
      have hadd : (⟨g, 0, none⟩ : Addr).add j = ⟨g, j, none⟩ := by unfold Addr.add; split <;> simp_all
      rw [hadd, cell_of_row w g j _ _ _ hg]
      simp [hj] at hv ⊢
      exact hv)
    simpa using h
  have hb := run_bytesToString (P := Try.prog) w ⟨g, 0, none⟩ nm.length c (nm.map fun b => (b.toNat : Int)) hl
  have e0 : (ByteArray.empty.data ++ nm.toArray) = nm.toArray := by
    have : ByteArray.empty.data = #[] := rfl
    rw [this]; simp
  rw [foldl_bytes, e0] at hb
  simp only [convert, Sem.run_bind, run_underlying Try.underlying45, run_underlying Try.underlying9, run_underlying Try.underlying5, Result.andThen_ok, hb]

theorem ret_str {a b : ByteArray} (h : a = b) : Ending.returned (.string a) = .returned (.string b) := by rw [h]

set_option maxHeartbeats 400000 in
theorem name15 (i : Nat) (hi : i < 70) (w : World) :
    Calls Try.prog 15 #[.int .i64 i] w fun e w' => e = .returned (.string ⟨(nameI i).toArray⟩) ∧ Below w.heap.size w w' := by
  have hc := run_row_string (w := w.alloc (.cells #[.int .u8 70, .int .u8 (97 + (i : Int) / 26), .int .u8 (97 + (i : Int) % 26)] 5)) (g := w.heap.size) (c := 3) (nm := nameI i) (heap_alloc_new _ _) (by
    have h1 : 97 + i / 26 < 256 := by omega
    have h2 : 97 + i % 26 < 256 := by omega
    simp only [nameI, List.map_cons, List.map_nil, UInt8.toNat_ofNat', Nat.mod_eq_of_lt h1, Nat.mod_eq_of_lt h2]
    simp)
  have hb := (Below.refl w.heap.size w).alloc (Nat.le_refl _) (.cells #[.int .u8 70, .int .u8 (97 + (i : Int) / 26), .int .u8 (97 + (i : Int) % 26)] 5)
  have HB := Lib.hid hb
  clear hb
  have hl : (nameI i).length = 3 := rfl
  rw [hl] at hc
  clear hl
  generalize (nameI i).toArray = nm at *
  go_enter Try.func15, Try.ntmps15
  go_wp2
  go_ret
  exact ⟨rfl, HB.out⟩

/-- Names of a store of the call's own: a slice of so many texts. -/
theorem own_names {B b : Nat} {w w1 : World} {m : Files} (h : Own B w w1 b m) (hm : m.length ≤ 64) :
    Calls Try.prog 16 #[.pointer (some ⟨b, 0, none⟩)] w1 fun e w' => ∃ ao cap, e = .returned (.slice ao m.length cap) ∧ w'.ownsRow w1.heap.size 9 1 (.slice ao m.length cap) m.length ((sortN (m.map (·.1))).map strV) ∧ Own B w w' b m := by
  obtain ⟨mo, hs, hb, hr, hbel, hB⟩ := h
  refine (names16 hs hm).mono fun e w' ⟨v, he, hown, hw⟩ => ?_
  have ho : Own B w w' b m := ⟨mo, hs.below hw, hb, hr, hbel.trans (hw.mono (Nat.le_trans hB hbel.size)), hB⟩
  have hsh : ∃ ao cap, v = .slice ao m.length cap := by
    obtain ⟨_, ⟨rfl, h0⟩ | ⟨g, cap, _, rfl, _⟩⟩ := hown
    · exact ⟨none, 0, by rw [h0]⟩
    · exact ⟨_, cap, rfl⟩
  obtain ⟨ao, cap, rfl⟩ := hsh
  exact ⟨ao, cap, he, hown, ho⟩

theorem nameI_ok : ∀ i, i < 70 → nameL (nameI i) = true := by decide +kernel
theorem nameI_inj : ∀ i, i < 70 → ∀ j, j < 70 → nameI i = nameI j → i = j := by decide +kernel

def filesN (i : Nat) : Files := (List.range (min i 64)).map fun j => (nameI j, ⟨#[120]⟩)

theorem filesN_len (i : Nat) : (filesN i).length = min i 64 := by simp [filesN]

theorem filesN_none (i : Nat) (hi : i < 70) : ∀ x ∈ filesN i, x.1 ≠ nameI i := by
  intro x hx e
  simp only [filesN, List.mem_map, List.mem_range] at hx
  obtain ⟨j, hj, rfl⟩ := hx
  have := nameI_inj j (by omega) i hi e
  omega

theorem filesN_code (i : Nat) (hi : i < 70) : putCode (filesN i) (nameI i) ⟨#[120]⟩ = if i < 64 then 0 else 3 := by
  have h1 : ¬ 131072 < (ByteArray.mk #[120]).size := by decide
  have h2 := Files.get_none (filesN_none i hi)
  unfold putCode
  rw [if_neg (by rw [nameI_ok i hi]; decide), if_neg h1, h2, filesN_len]
  by_cases h : i < 64
  · rw [if_pos h, if_neg]; rintro ⟨_, h'⟩; omega
  · rw [if_neg h, if_pos]; exact ⟨rfl, by omega⟩

theorem filesN_put (i : Nat) (hi : i < 70) : putM (filesN i) (nameI i) ⟨#[120]⟩ = filesN (i + 1) := by
  unfold putM
  rw [filesN_code i hi]
  by_cases h : i < 64
  · rw [if_pos h, if_pos rfl, Files.put_new (filesN_none i hi)]
    have e1 : min i 64 = i := by omega
    have e2 : min (i + 1) 64 = i + 1 := by omega
    simp only [filesN, e1, e2, List.range_succ, List.map_append, List.map_cons, List.map_nil]
  · rw [if_neg h, if_neg (by decide)]
    have e1 : min i 64 = 64 := by omega
    have e2 : min (i + 1) 64 = 64 := by omega
    simp only [filesN, e1, e2]

theorem put_name {B b i : Nat} {w w1 : World} (h : Own B w w1 b (filesN i)) (hi : i < 70) :
    Calls Try.prog 12 #[.pointer (some ⟨b, 0, none⟩), .string ⟨(nameI i).toArray⟩, .string ⟨#[120]⟩] w1 fun e w' => e = .returned (.int .i64 (if i < 64 then 0 else 3)) ∧ Own B w w' b (filesN (i + 1)) :=
  (own_put h (by simp [maxLen, ByteArray.size, nameI]) (by decide) (by rw [filesN_len]; omega)).mono fun e w' ⟨he, ho⟩ => by
    have h1 : (ByteArray.mk (nameI i).toArray).data.toList = nameI i := by simp
    rw [h1] at he ho
    exact ⟨by rw [he]; exact ret_i64 (filesN_code i hi), by rw [← filesN_put i hi]; exact ho⟩

theorem put_again {B b k : Nat} {w w1 : World} (h : Own B w w1 b (filesN k)) (hk : 0 < k) :
    Calls Try.prog 12 #[.pointer (some ⟨b, 0, none⟩), .string ⟨(nameI 0).toArray⟩, .string ⟨#[121]⟩] w1 fun e w' => e = .returned (.int .i64 0) ∧ ∃ m, m.length = min k 64 ∧ Own B w w' b m := by
  have hx : (filesN k)[0]? = some (nameI 0, ⟨#[120]⟩) := by
    simp only [filesN, List.getElem?_map]
    rw [List.getElem?_range (by omega)]; rfl
  have hnd : ((filesN k).map (·.1)).Nodup := by
    obtain ⟨_, hs, _⟩ := h
    exact hs.nodup
  have hg := Files.get_of hnd hx
  have hc : putCode (filesN k) (nameI 0) ⟨#[121]⟩ = 0 := by
    unfold putCode
    rw [if_neg (by rw [nameI_ok 0 (by omega)]; decide), if_neg (by decide), if_neg]
    rintro ⟨h1, _⟩
    rw [show (filesN k).get (nameI 0) = some _ from hg] at h1
    cases h1
  refine (own_put h (by simp [maxLen, ByteArray.size, nameI]) (by decide) (by rw [filesN_len]; omega)).mono fun e w' ⟨he, ho⟩ => ?_
  have h1 : (ByteArray.mk (nameI 0).toArray).data.toList = nameI 0 := by simp
  rw [h1] at he ho
  refine ⟨by rw [he]; exact ret_i64 hc, _, ?_, ho⟩
  simp only [putM, hc, if_true]
  rw [Files.put_old hnd hx, List.length_set, filesN_len]

theorem own_below {B b : Nat} {w w1 w2 : World} {m : Files} (h : Own B w w1 b m) (k : Below w1.heap.size w1 w2) : Own B w w2 b m := by
  obtain ⟨mo, hs, hb, hr, hbel, hB⟩ := h
  exact ⟨mo, hs.below k, hb, hr, hbel.trans (k.mono (Nat.le_trans hB hbel.size)), hB⟩

theorem own_end {B b : Nat} {w w1 w2 : World} {m : Files} (h : Own B w w1 b m) (k : Below w1.heap.size w1 w2) : Below B w w2 := by
  obtain ⟨mo, hs, hb, hr, hbel, hB⟩ := h
  exact hbel.trans (k.mono (Nat.le_trans hB hbel.size))

namespace storeFull
set_option maxHeartbeats 2000000 in
theorem walk (n : Int) (h0 : 0 ≤ n) (h1 : n < 256) (w : World) :
    Calls Try.prog 5 #[.int .u8 n] w fun e w' => e = .returned (.bool true) ∧ Below w.heap.size w w' := by
  go_enter Try.func5, Try.ntmps5
  go_wp2_with fail
  refine (own_new w).mono ?_
  rintro e w1 ⟨rfl, o1⟩
  have O1 := Lib.hid o1
  clear o1
  go_wp2_with fail
  generalize hkk : n % 70 = kk
  obtain ⟨k, rfl⟩ : ∃ k : Nat, kk = (k : Int) := ⟨kk.toNat, by omega⟩
  have hk70 : k < 70 := by omega
  clear hkk
  go_loopw [5] (fun v wr => ∃ i : Nat, i ≤ k ∧ v = .int .i64 i ∧ Own w.heap.size w wr w.heap.size (filesN i)) (fun v _ => k - (intOf v).toNat)
  case atStart => exact ⟨0, Nat.zero_le _, rfl, O1.out⟩
  case round =>
    obtain ⟨i, hi, rfl, ho⟩ := hrel
    have HO := Lib.hid ho
    clear ho
    by_cases hlt : i < k
    · have hi70 : i < 70 := by omega
      have hput := fun w2 (h : Own w.heap.size w w2 w.heap.size (filesN i)) => put_name h hi70
      by_cases h64 : i < 64
      · simp only [if_pos h64] at hput
        have HP := Lib.hid hput
        clear hput
        have hb64 : decide ((i : Int) < 64) = true := by simp; omega
        go_wp2_with fail
        refine (name15 i hi70 _).mono ?_
        rintro e w2 ⟨rfl, h2⟩
        have o2 := own_below HO.out h2
        go_wp2_with fail
        refine (HP.out _ o2).mono ?_
        rintro e w3 ⟨rfl, o3⟩
        have O3 := Lib.hid o3
        clear o2 h2 o3
        go_wp2
        go_roundw
        case rel => exact ⟨i + 1, by omega, by go_num, O3.out⟩
        case measure => simp [intOf]; omega
      · simp only [if_neg h64] at hput
        have HP := Lib.hid hput
        clear hput
        have hb64 : decide ((i : Int) < 64) = false := by simp; omega
        go_wp2_with fail
        refine (name15 i hi70 _).mono ?_
        rintro e w2 ⟨rfl, h2⟩
        have o2 := own_below HO.out h2
        go_wp2_with fail
        refine (HP.out _ o2).mono ?_
        rintro e w3 ⟨rfl, o3⟩
        have O3 := Lib.hid o3
        clear o2 h2 o3
        go_wp2
        go_roundw
        case rel => exact ⟨i + 1, by omega, by go_num, O3.out⟩
        case measure => simp [intOf]; omega
    · have hik : i = k := by omega
      subst hik
      by_cases hz : i = 0
      · have hz0 : ((i : Int) == 0) = true := by rw [beq_iff_eq]; omega
        have hbm : (((filesN i).length : Int) == min (i : Int) 64) = true := by
          rw [beq_iff_eq, filesN_len]; omega
        have hfl : (filesN i).length ≤ 64 := by rw [filesN_len]; omega
        have HO' := Lib.hid HO.out
        clear hz HO
        generalize filesN i = fs at *
        go_wp2_with fail
        refine (own_names HO'.out hfl).mono ?_
        rintro e w4 ⟨ao, cap, rfl, _, o4⟩
        have O4 := Lib.hid o4
        clear o4
        go_wp2_with fail
        refine (wakes8 _).mono ?_
        rintro e w5 ⟨rfl, h5⟩
        go_wp2
        go_ret
        exact ⟨rfl, own_end O4.out h5⟩
      · have hz0 : ((i : Int) == 0) = false := by rw [beq_eq_false_iff_ne]; omega
        have hpos : 0 < i := by omega
        clear hz
        go_wp2_with fail
        refine (name15 0 (by omega) _).mono ?_
        rintro e w2 ⟨rfl, h2⟩
        have o2 := own_below HO.out h2
        go_wp2_with fail
        refine (put_again o2 hpos).mono ?_
        rintro e w3 ⟨rfl, m, hml, o3⟩
        have HML := Lib.hid hml
        have O3 := Lib.hid o3
        clear o2 h2 o3 hml
        go_wp2_with fail
        refine (own_names O3.out (by have := HML.out; omega)).mono ?_
        rintro e w4 ⟨ao, cap, rfl, _, o4⟩
        have hbm : ((m.length : Int) == min (i : Int) 64) = true := by
          have := HML.out
          rw [beq_iff_eq]; omega
        have O4 := Lib.hid o4
        clear o4
        go_wp2_with fail
        refine (wakes8 _).mono ?_
        rintro e w5 ⟨rfl, h5⟩
        go_wp2
        go_ret
        exact ⟨rfl, own_end O4.out h5⟩
end storeFull
end Go.Proofs.Ytglichmmoibagaa
