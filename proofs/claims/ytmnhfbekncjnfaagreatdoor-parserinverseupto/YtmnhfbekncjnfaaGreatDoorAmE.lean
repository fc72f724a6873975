/- A part of the proof of ParserInverse. -/
import Derived.Test.YtmnhfbekncjnfaaGreatDoorAmD
import Derived.Sort.OwnSorted
namespace Go.Am
open Go.Sort Go.Proofs
end Go.Am

