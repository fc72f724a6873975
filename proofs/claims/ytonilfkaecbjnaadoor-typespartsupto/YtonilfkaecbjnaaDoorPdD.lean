/-
  The reference's CheckType; named, doubled, count, Check, Equal on both sides; left and few.
-/
import Derived.Test.YtonilfkaecbjnaaDoorPdC
set_option linter.unusedSimpArgs false
namespace Go.Proofs.YtonilfkaecbjnaaDoor
open Go.Am

/-! ### the reference's CheckType -/
end Go.Proofs.YtonilfkaecbjnaaDoor

