/- A part of the proof of CatalogMakes. -/
import Derived.Test.YtbaijagfgceilaaGreatDoorAmD
import Derived.Sort.OwnSorted
namespace Go.Am
open Go.Sort Go.Proofs
end Go.Am

