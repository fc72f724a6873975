/- A part of the proof of SyntaxExpr. -/
import Derived.Test.YtmilgoloagbmpaaGreatDoorDgE
import Derived.ProofKit
namespace Go.Proofs.YtmilgoloagbmpaaGreatDoor
open Go.Am
set_option maxRecDepth 100000
set_option maxHeartbeats 4000000
theorem law10_known_true : law10_known = some true := law10_known_le 200 _ (by kernel_rfl)
end Go.Proofs.YtmilgoloagbmpaaGreatDoor

