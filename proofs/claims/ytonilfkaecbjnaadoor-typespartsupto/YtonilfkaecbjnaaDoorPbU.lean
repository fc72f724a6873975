/-
  A small integer's range.
-/
import Derived.Test.YtonilfkaecbjnaaDoorPcA
namespace Go.Proofs.YtonilfkaecbjnaaDoor
open Go.Am
theorem u8_of {M : Mem} {cs : List Value} {n : Int} (h : CellsD M [D.int .u8 n] cs) : 0 ≤ n ∧ n ≤ 255 := by
  obtain ⟨h1, h2⟩ := h
  match cs, h1 with
  | [v], _ =>
    have := h2 0 _ v rfl rfl
    cases this with
    | int hk => simpa [InK, IntKind.min, IntKind.max, IntKind.signed, IntKind.bits] using hk
end Go.Proofs.YtonilfkaecbjnaaDoor

