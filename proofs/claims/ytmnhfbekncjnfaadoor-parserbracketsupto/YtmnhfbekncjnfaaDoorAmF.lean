/- A part of the proof of ParserBrackets. -/
import Derived.Test.YtmnhfbekncjnfaaDoorAmE
import Derived.Sort.OwnSorted
namespace Go.Am
open Go.Sort Go.Proofs
end Go.Am

