/- A closed fact of the tie of this seat's listed variables to the program's text. -/
import Derived.Test.YthiaocbikmiciaaGreatDoorRows
import Derived.LaidByTextLater
import Derived.SevenTiedAt
namespace Go.Proofs.YthiaocbikmiciaaGreatDoor
open Go
abbrev tieL : List (String × DataW Unit) := [("strconv.ErrSyntax", Rows.laid_strconv_ErrSyntax), ("strconv.ErrRange", Rows.laid_strconv_ErrRange), ("internal/strconv.uint64pow10", Rows.laid_internal_strconv_uint64pow10), ("math/bits.deBruijn32tab", Rows.laid_math_bits_deBruijn32tab), ("math/bits.deBruijn64tab", Rows.laid_math_bits_deBruijn64tab), ("strings.asciiSpace", Rows.laid_strings_asciiSpace), ("unicode.White_Space", Rows.laid_unicode_White_Space), ("unicode/utf8.acceptRanges", Rows.laid_unicode_utf8_acceptRanges), ("errors.errorType", Rows.laid_errors_errorType)]
abbrev tieK : List LaidKind := [.sentinel, .sentinel, .data, .data, .data, .data, .listed, .data, .handle]
end Go.Proofs.YthiaocbikmiciaaGreatDoor
