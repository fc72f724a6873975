/-
  The reference's CheckType; named, doubled, count, Check, Equal on both sides; left and few.
-/
import Derived.Test.YtmilgoloagbmpaaGreatDoorPdC
set_option linter.unusedSimpArgs false
namespace Go.Proofs.YtmilgoloagbmpaaGreatDoor
open Go.Am

/-! ### the reference's CheckType -/
theorem rVerdict_eq (s : Keyholeref10Size) (f m u : Bool) : ref10_verdict s f m u = some (repCode s.nodes s.depth (!f) (!m) (!u)) := by
  unfold ref10_verdict repCode
  cases (bif decide (s.nodes > 1024) then true else decide (s.depth > 12)) <;> cases f <;> cases m <;> cases u <;> rfl
end Go.Proofs.YtmilgoloagbmpaaGreatDoor

