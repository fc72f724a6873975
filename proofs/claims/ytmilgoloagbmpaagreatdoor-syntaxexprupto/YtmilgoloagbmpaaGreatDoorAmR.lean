/-
  Structs compared; slices that are made and filled.
-/
import Derived.Test.YtmilgoloagbmpaaGreatDoorAmQ
import Derived.Laws.StructEq
namespace Go.Am

/-! ### structs of scalars, compared -/

section
variable {P : Program} {M : Mem} {G : Nat → Value} {w : World}

end

end Go.Am

