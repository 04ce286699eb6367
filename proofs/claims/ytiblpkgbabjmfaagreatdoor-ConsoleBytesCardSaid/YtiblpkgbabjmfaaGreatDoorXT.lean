/- The tie of the program's listed variables to its own text, put together of its closed facts (our own text in place of the given one, which needs more memory than a process may take); no condition. -/
import Derived.Test.YtiblpkgbabjmfaaGreatDoorXW
import Derived.Test.YtiblpkgbabjmfaaGreatDoorXK
import Derived.Test.YtiblpkgbabjmfaaGreatDoorXD
import Derived.Test.YtiblpkgbabjmfaaGreatDoorXN
import Derived.Test.YtiblpkgbabjmfaaGreatDoorXA
import Derived.Test.YtiblpkgbabjmfaaGreatDoorXB1
import Derived.Test.YtiblpkgbabjmfaaGreatDoorXB2
import Derived.Test.YtiblpkgbabjmfaaGreatDoorXM
namespace Go.Proofs.YtiblpkgbabjmfaaGreatDoor
open Go
theorem tieOwn : Tryz.prog.laidByTextLater [("strconv.ErrSyntax", Rows.laid_strconv_ErrSyntax), ("strconv.ErrRange", Rows.laid_strconv_ErrRange), ("internal/strconv.uint64pow10", Rows.laid_internal_strconv_uint64pow10), ("math/bits.deBruijn32tab", Rows.laid_math_bits_deBruijn32tab), ("math/bits.deBruijn64tab", Rows.laid_math_bits_deBruijn64tab), ("strings.asciiSpace", Rows.laid_strings_asciiSpace), ("unicode.White_Space", Rows.laid_unicode_White_Space), ("unicode/utf8.acceptRanges", Rows.laid_unicode_utf8_acceptRanges)] [.sentinel, .sentinel, .data, .data, .data, .data, .listed, .data] true :=
  Program.laidByTextLater_by_run 400 8 fw fw2 fr fk fg fn fd fa (fun os tape => join_rows (fb1 os tape) (fb2 os tape))
#print axioms tieOwn
end Go.Proofs.YtiblpkgbabjmfaaGreatDoor
