/- One part of the tie's closed fact that no place is met twice in the readings of the listed variables; no condition. -/
import Derived.Test.YtiblpkgbabjmfaaGreatDoorRows
import Derived.LaidByTextLater
import Derived.SevenTiedAt
import Derived.Test.YtiblpkgbabjmfaaGreatDoorXM
namespace Go.Proofs.YtiblpkgbabjmfaaGreatDoor
open Go
theorem fb1 : ∀ os tape, (DataW.laidRun Tryz.prog (varsWorld Tryz.prog 400 (varsId Tryz.prog) os tape).memory 8 (([("strconv.ErrSyntax", Rows.laid_strconv_ErrSyntax), ("strconv.ErrRange", Rows.laid_strconv_ErrRange), ("internal/strconv.uint64pow10", Rows.laid_internal_strconv_uint64pow10), ("math/bits.deBruijn32tab", Rows.laid_math_bits_deBruijn32tab), ("math/bits.deBruijn64tab", Rows.laid_math_bits_deBruijn64tab), ("strings.asciiSpace", Rows.laid_strings_asciiSpace), ("unicode.White_Space", Rows.laid_unicode_White_Space), ("unicode/utf8.acceptRanges", Rows.laid_unicode_utf8_acceptRanges)] : List (String × DataW Unit)).map (·.1))).map (fun x => apartB x.2 0) = some true := fun _ _ => by kernel_rfl
end Go.Proofs.YtiblpkgbabjmfaaGreatDoor
