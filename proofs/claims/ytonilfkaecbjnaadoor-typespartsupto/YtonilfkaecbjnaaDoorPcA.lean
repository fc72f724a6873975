/-
  What all the statements of law 12 share.
-/
import Derived.Test.YtonilfkaecbjnaaDoorCards
import Derived.Test.YtonilfkaecbjnaaDoorTie
import Derived.Test.YtonilfkaecbjnaaDoorPbA
import Derived.Test.YtonilfkaecbjnaaDoorPkB
import Derived.WalkKit
namespace Go.Proofs.YtonilfkaecbjnaaDoor
open Go.Am Go.ChangeShapes Go.WideShapes Go.ChangeAt Go.RowKit

theorem own : ownKnob Tryd.prog.godebug = none := by kernel_rfl
theorem glOk {W : World} (h : W.ShapedOpen Tryd.prog) : GlOk C (memOf W) := by
  obtain ⟨m, hm⟩ := cell_of_shapedOpen_int (g := 0) (zero := #[.int .i64 0]) (t := 3) h (of_decide_eq_true (by kernel_rfl)) (by kernel_rfl) rfl (by kernel_rfl) (by kernel_rfl) Tryd.underlying3
  exact { tab := fun G g cs e => (by cases e), gp := ⟨m, (memOf_cell hm).1⟩ }

def PlainT (t : TypeId) : Prop := t ∈ [3, 4, 5, 9, 23, 24, 25, 46, 27]
theorem plainT_ok : Plain Tryd.prog PlainT := by
  intro t ht
  simp only [PlainT, List.mem_cons, List.not_mem_nil, or_false] at ht
  rcases ht with rfl | rfl | rfl | rfl | rfl | rfl | rfl | rfl | rfl
  · exact .inr (.inl ⟨_, Tryd.underlying3⟩)
  · exact .inl Tryd.underlying4
  · exact .inr (.inl ⟨_, Tryd.underlying5⟩)
  · exact .inr (.inr (.inl Tryd.underlying9))
  · exact .inr (.inl ⟨_, u23⟩)
  · exact .inr (.inr (.inr (.inl ⟨_, Tryd.underlying24, by simp [PlainT], by rw [c9]; omega⟩)))
  · exact .inr (.inr (.inr (.inl ⟨_, Tryd.underlying25, by simp [PlainT], by rw [c27]; omega⟩)))
  · exact .inr (.inr (.inr (.inl ⟨_, Tryd.underlying46, by simp [PlainT], by rw [c3]; omega⟩)))
  · refine .inr (.inr (.inr (.inr ⟨_, Tryd.underlying27, fun f hf => ?_⟩)))
    simp at hf
    rcases hf with rfl | rfl | rfl | rfl | rfl | rfl | rfl <;> simp [PlainT]


theorem Rd.ints {H : Type} {enc : TypeId × Value → H} {W : World} {fuel : Nat} : Rd enc Tryd.prog W Rows.uptoBulk fuel 46 (fun l : List Int => [D.sl (ei64.rows l)]) (fun l => (l.map fun _ => 1).sum + 1) :=
  Rd.sl meas (t := 46) (e := 3) (sz := 1) (f := fun n : Int => [D.int .i64 n]) (bk := fun _ => 1) Tryd.underlying46 c3 (Nat.le_refl _) (fun _ => rfl) (fun _ _ => Rd.int meas Tryd.underlying3)
/-- a world for the witness -/
def laidCells : DataW Unit → Array Value
  | .agg l => (l.map fun
      | .lit (.int k n) => .int k n
      | .lit (.string s) => .string ⟨s.toArray⟩
      | _ => .bool false).toArray
  | _ => #[]
def laidPut (d : DataW Unit) : Obj → Obj
  | .cells _ t frozen => .cells (laidCells d) t frozen
  | o => o
noncomputable def laidWorld (os : Os) : World :=
  { World.holding Tryd.prog os ⟨#[], #[], []⟩ with heap := (((World.holding Tryd.prog os ⟨#[], #[], []⟩).heap.modify 2 (laidPut Rows.laid_internal_strconv_uint64pow10)).modify 3 (laidPut Rows.laid_math_bits_deBruijn32tab)).modify 4 (laidPut Rows.laid_math_bits_deBruijn64tab) }
def zType : Value := .agg #[.int .i64 0, .int .i64 0, .int .i64 0, .int .i64 0, .string ⟨#[]⟩, .slice none 0 0, .slice none 0 0]
def rType {H : Type} : DataW H := .agg [.lit (.int .i64 0), .lit (.int .i64 0), .lit (.int .i64 0), .lit (.int .i64 0), .lit (.string []), .nil, .nil]
end Go.Proofs.YtonilfkaecbjnaaDoor

