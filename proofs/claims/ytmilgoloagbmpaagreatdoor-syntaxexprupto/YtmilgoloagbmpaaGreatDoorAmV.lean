/-
  Less known: twins with fuel.
-/
import Derived.Test.YtmilgoloagbmpaaGreatDoorAmU
namespace Go.Am
def Le {α : Type} (a b : Option α) : Prop := ∀ r, a = some r → b = some r
theorem Le.rfl {α : Type} {a : Option α} : Le a a := fun _ h => h
theorem Le.none {α : Type} {b : Option α} : Le (.none : Option α) b := fun _ h => by cases h
theorem Le.bind {α β : Type} {a a' : Option α} {f f' : α → Option β} (h : Le a a') (hf : ∀ x, Le (f x) (f' x)) : Le (a >>= f) (a' >>= f') := by
  intro r hr
  cases a with
  | none => cases hr
  | some x => rw [h x _root_.rfl]; exact hf x r hr
theorem Le.ite {α : Type} {c : Prop} [Decidable c] {a a' b b' : Option α} (h : Le a a') (h' : Le b b') : Le (if c then a else b) (if c then a' else b') := by
  split
  · exact h
  · exact h'
end Go.Am

