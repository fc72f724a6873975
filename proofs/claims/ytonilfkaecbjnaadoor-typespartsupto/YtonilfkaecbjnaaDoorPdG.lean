/-
  Values, Clamp, Contains: both sides; P12.3 (first) and P12.5.
-/
import Derived.Test.YtonilfkaecbjnaaDoorPdF
set_option linter.unusedSimpArgs false
namespace Go.Proofs.YtonilfkaecbjnaaDoor
open Go.Am

/-! ### ranges of scalars -/
/-! ### Values -/
/-! ### slices.Equal -/
/-! ### Clamp -/
/-! ### Contains -/
end Go.Proofs.YtonilfkaecbjnaaDoor

