import Derived.Test.YtonilfkaecbjnaaDoorDgE
import Derived.ProofKit
namespace Go.Proofs.YtonilfkaecbjnaaDoor
open Go.Am
set_option maxRecDepth 100000
set_option maxHeartbeats 4000000
theorem law12_known_true : law12_known = some true := law12_known_le 200 _ (by kernel_rfl)
end Go.Proofs.YtonilfkaecbjnaaDoor

