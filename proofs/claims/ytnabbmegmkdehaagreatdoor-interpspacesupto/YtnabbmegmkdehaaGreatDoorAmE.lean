/- A part of the proof of InterpSpaces. -/
import Derived.Test.YtnabbmegmkdehaaGreatDoorAmD
import Derived.Sort.OwnSorted
namespace Go.Am
open Go.Sort Go.Proofs
end Go.Am

