/- What the rows' condition gives: the library's variables as they are laid. -/
import Derived.Test.YtiblpkgbabjmfaaGreatDoorRows
import Derived.Test.YtiblpkgbabjmfaaGreatDoorWE
import Derived.ProofKit
import Derived.OpenShut
import Derived.LaidMore
import Derived.LaidLaws
import Derived.Lay
import Derived.Stop.Joined
import Derived.Lib.LaidTab
namespace Go.Proofs.YtiblpkgbabjmfaaGreatDoor
open Go.RowKit

def laids : List (String × DataW Unit) := [("strconv.ErrSyntax", Rows.laid_strconv_ErrSyntax), ("strconv.ErrRange", Rows.laid_strconv_ErrRange), ("internal/strconv.uint64pow10", Rows.laid_internal_strconv_uint64pow10), ("math/bits.deBruijn32tab", Rows.laid_math_bits_deBruijn32tab), ("math/bits.deBruijn64tab", Rows.laid_math_bits_deBruijn64tab), ("strings.asciiSpace", Rows.laid_strings_asciiSpace), ("unicode.White_Space", Rows.laid_unicode_White_Space), ("unicode/utf8.first", Rows.laid_unicode_utf8_first), ("unicode/utf8.acceptRanges", Rows.laid_unicode_utf8_acceptRanges), ("unicode.CaseRanges", Rows.laid_unicode_CaseRanges)]
theorem laids_row : Rows.consoleReadsRow.laid = laids := rfl

theorem tab_eq : (Rows.laid_internal_strconv_uint64pow10 : DataW Unit) = Lib.tabData .u64 Lib.pow10Tab := by kernel_rfl
theorem gErr : Tryz.prog.globalNamed "strconv.ErrSyntax" = some 2 := by kernel_rfl
theorem gTab : Tryz.prog.globalNamed "internal/strconv.uint64pow10" = some 0 := by kernel_rfl
theorem plainL : ∀ W, laidMetH Tryz.prog laids W = laidMet Tryz.prog laids W := fun W => MakeChecks.laidMetH_plain _ _ _ (by kernel_rfl)
theorem tErr : (Tryz.prog.globals[2]?).map (·.type) = some 72 := by kernel_rfl
theorem tTab : (Tryz.prog.globals[0]?).map (·.type) = some 201 := by kernel_rfl
theorem u72 : ∃ ms, Tryz.prog.underlying 72 = some (.interface ms) := ⟨_, Tryz.underlying72⟩

/-- The condition, as the walks ask it. -/
theorem of_laid {W : World} (h : laidMetH Tryz.prog laids W) : Laid W := by
  rw [plainL] at h
  obtain ⟨ps, ⟨g0, t0, cs0, f0, p0, q0, hg0, ht0, hv0, hd0, ⟨_, _, _, _, _, _, _, _, _, _, ⟨g2, t2, cs2, f2, p2, q2, hg2, ht2, hv2, hd2, _, _⟩, _⟩, _⟩, _, _⟩ := h
  obtain rfl := Option.some.inj (gErr.symm.trans hg0)
  obtain rfl := Option.some.inj (gTab.symm.trans hg2)
  obtain rfl := Option.some.inj (tErr.symm.trans ht0)
  obtain rfl := Option.some.inj (tTab.symm.trans ht2)
  refine ⟨?_, ?_⟩
  · obtain ⟨ms, hms⟩ := u72
    obtain ⟨_, u, v, hcs, _, _⟩ := iface_of_trod hms hd0
    have hcell := World.var?_cell gErr hv0 0
    refine ⟨.iface u v, ?_, .inr ⟨u, v, rfl⟩⟩
    rw [hcell]
    obtain ⟨l⟩ := cs0
    simp only at hcs
    subst hcs
    rfl
  · unfold Lib.TabIs
    rw [hv2]
    rw [tab_eq] at hd2
    rw [← Lib.cells_of_tab Tryz.underlying201 Tryz.underlying86 (by kernel_rfl) (by kernel_rfl) hd2]

theorem witness_laid (os : Os) (args : Array Value) : laidMetH Tryz.prog laids ((World.laidAll Tryz.prog os laids).forCall (fun _ _ => 0) ⟨#[], args, []⟩).memory := by
  rw [plainL]; exact laidMet_laidAll _ (by kernel_rfl) (by kernel_rfl)
theorem witness_shape (os : Os) (args : Array Value) : ((World.laidAll Tryz.prog os laids).forCall (fun _ _ => 0) ⟨#[], args, []⟩).Shaped Tryz.checked.prog := World.shaped_of_ZipB (by kernel_rfl) (by kernel_rfl)
end Go.Proofs.YtiblpkgbabjmfaaGreatDoor
