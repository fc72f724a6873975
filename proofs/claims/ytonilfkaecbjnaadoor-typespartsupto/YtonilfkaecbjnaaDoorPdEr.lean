/-
  The reference's EqualType.
-/
import Derived.Test.YtonilfkaecbjnaaDoorPdE
set_option linter.unusedSimpArgs false
namespace Go.Proofs.YtonilfkaecbjnaaDoor
open Go.Am

end Go.Proofs.YtonilfkaecbjnaaDoor

