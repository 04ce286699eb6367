/- Texts: two slices of texts alike. -/
import Derived.Test.YtglichmmoibagaaJ
import Derived.StillTailTactics
namespace Go.Proofs.Ytglichmmoibagaa
open Go.RowKit
set_option linter.unusedVariables false

set_option maxHeartbeats 1000000 in
theorem texts23 {w : World} {A B : Nat} {va vb : Value} {ns : List (List UInt8)} (ha : w.ownsRow A 9 1 va ns.length (ns.map strV)) (hb : w.ownsRow B 9 1 vb ns.length (ns.map strV)) (hl : ns.length ≤ 64) :
    Calls Try.prog 23 #[va, vb] w fun e w' => e = .returned (.bool true) ∧ Below w.heap.size w w' := by
  obtain ⟨ao, ca, rfl, ha1, ha2, hata⟩ := owned_shape ha
  obtain ⟨bo, cb, rfl, hb1, hb2, hatb⟩ := owned_shape hb
  have HA := Lib.hid hata
  have HB := Lib.hid hatb
  clear ha hb hata hatb
  go_enter Try.func23, Try.ntmps23
  go_wp2_with fail
  go_loopw [5] (fun v wr => ∃ k : Nat, k ≤ ns.length ∧ v = .int .i64 k ∧ Below w.heap.size w wr) (fun v _ => ns.length - (intOf v).toNat)
  case atStart => exact ⟨0, Nat.zero_le _, rfl, Below.refl _ _⟩
  case round =>
    obtain ⟨k, hk, rfl, hbel⟩ := hrel
    have HBE := Lib.hid hbel
    by_cases hlt : k < ns.length
    · obtain ⟨g, u, rfl, hu, hcu⟩ := HA.out k hlt
      obtain ⟨g', u', rfl, hu', hcu'⟩ := HB.out k hlt
      rw [List.getElem?_map, List.getElem?_eq_getElem hlt] at hu hu'
      obtain rfl : strV ns[k] = u := by simpa using hu
      obtain rfl : strV ns[k] = u' := by simpa using hu'
      have hc1 : wr.cell? ⟨g, k, none⟩ = some (strV ns[k]) := (World.cell?_of_block (hbel.block _ (World.block_lt_of_cell? w _ hcu))).trans hcu
      have hc2 : wr.cell? ⟨g', k, none⟩ = some (strV ns[k]) := (World.cell?_of_block (hbel.block _ (World.block_lt_of_cell? w _ hcu'))).trans hcu'
      unfold strV at hc1 hc2
      clear hu hu' hcu hcu' hbel HA HB
      go_wp2_with (go_region)
      go_roundw
      case rel => exact ⟨k + 1, by omega, by go_num, HBE.out.drew⟩
      case measure => simp [intOf]; omega
    · obtain rfl : k = ns.length := by omega
      go_wp2
      go_ret
      exact ⟨rfl, HBE.out⟩
end Go.Proofs.Ytglichmmoibagaa
