/-
  The list that the row ties, by a name.
-/
import Derived.Test.YtiecbbepfjiceaaGreatDoorRows
import Derived.LaidByTextLater
namespace Go.Proofs.YtiecbbepfjiceaaGreatDoor
open Go
abbrev LL : List (String × DataW Unit) := [("strings.asciiSpace", Rows.laid_strings_asciiSpace), ("unicode.White_Space", Rows.laid_unicode_White_Space), ("strconv.ErrSyntax", Rows.laid_strconv_ErrSyntax), ("strconv.ErrRange", Rows.laid_strconv_ErrRange), ("internal/strconv.uint64pow10", Rows.laid_internal_strconv_uint64pow10), ("math/bits.deBruijn32tab", Rows.laid_math_bits_deBruijn32tab), ("math/bits.deBruijn64tab", Rows.laid_math_bits_deBruijn64tab)]
end Go.Proofs.YtiecbbepfjiceaaGreatDoor
