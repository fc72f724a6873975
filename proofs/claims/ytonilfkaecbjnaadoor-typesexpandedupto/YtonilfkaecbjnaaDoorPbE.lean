/-
  Declarations: bounds and plain types.
-/
import Derived.Test.YtonilfkaecbjnaaDoorPbD
import Derived.Test.YtonilfkaecbjnaaDoorPdJ
set_option linter.unusedSimpArgs false
namespace Go.Proofs.YtonilfkaecbjnaaDoor
open Go.Am Go.ChangeShapes Go.WideShapes Go.ChangeAt Go.RowKit

theorem ApiDecl.bulk_ge (d : ApiDecl) : d.TypeV.bulk + d.Name.length + 1 ≤ d.bulk := by cases d; simp only [ApiDecl.bulk]; omega
theorem dOk_of {ds : List ApiDecl} (h : ApiDecl.bulks ds ≤ 1048576) : DOk ds := by
  have key : ∀ l : List ApiDecl, l.length ≤ ApiDecl.bulks l ∧ ∀ d ∈ l, d.bulk ≤ ApiDecl.bulks l := by
    intro l
    induction l with
    | nil => exact ⟨Nat.le_refl _, fun d h => by cases h⟩
    | cons x r ih =>
      have hx := ApiDecl.bulk_ge x
      simp only [ApiDecl.bulks, List.length_cons]
      refine ⟨by omega, fun d hd => ?_⟩
      cases hd with
      | head => omega
      | tail _ hd => have := ih.2 d hd; omega
  obtain ⟨h1, h2⟩ := key ds
  refine ⟨by omega, fun d hd => ?_⟩
  have h3 := h2 d hd
  have h4 := ApiDecl.bulk_ge d
  unfold BB
  omega
theorem ApiDecl.len_le : ∀ l : List ApiDecl, l.length ≤ ApiDecl.bulks l
  | [] => Nat.le_refl _
  | x :: r => by have := ApiDecl.len_le r; have := ApiDecl.bulk_ge x; simp only [ApiDecl.bulks, List.length_cons]; omega
def PlainD (t : TypeId) : Prop := t ∈ [3, 4, 9, 23, 24, 25, 27, 46, 52, 53, 76, 54, 56, 57, 78, 22, 59]
theorem plainD_ok : Plain Tryd.prog PlainD := by
  intro t ht
  simp only [PlainD, List.mem_cons, List.not_mem_nil, or_false] at ht
  rcases ht with rfl | rfl | rfl | rfl | rfl | rfl | rfl | rfl | rfl | rfl | rfl | rfl | rfl | rfl | rfl | rfl | rfl
  · exact .inr (.inl ⟨_, Tryd.underlying3⟩)
  · exact .inl Tryd.underlying4
  · exact .inr (.inr (.inl Tryd.underlying9))
  · exact .inr (.inl ⟨_, u23⟩)
  · exact .inr (.inr (.inr (.inl ⟨_, Tryd.underlying24, by simp [PlainD], by rw [c9]; omega⟩)))
  · exact .inr (.inr (.inr (.inl ⟨_, Tryd.underlying25, by simp [PlainD], by rw [c27]; omega⟩)))
  · refine .inr (.inr (.inr (.inr ⟨_, Tryd.underlying27, fun f hf => ?_⟩)))
    simp at hf
    rcases hf with rfl | rfl | rfl | rfl | rfl | rfl | rfl <;> simp [PlainD]
  · exact .inr (.inr (.inr (.inl ⟨_, Tryd.underlying46, by simp [PlainD], by rw [c3]; omega⟩)))
  · exact .inr (.inl ⟨_, u52⟩)
  · exact .inr (.inl ⟨_, u53⟩)
  · exact .inr (.inl ⟨_, u76⟩)
  · exact .inr (.inr (.inr (.inl ⟨_, Tryd.underlying54, by simp [PlainD], by rw [c56]; omega⟩)))
  · refine .inr (.inr (.inr (.inr ⟨_, Tryd.underlying56, fun f hf => ?_⟩)))
    simp at hf
    rcases hf with rfl | rfl | rfl | rfl <;> simp [PlainD]
  · exact .inr (.inr (.inr (.inl ⟨_, Tryd.underlying57, by simp [PlainD], by rw [c78]; omega⟩)))
  · refine .inr (.inr (.inr (.inr ⟨_, Tryd.underlying78, fun f hf => ?_⟩)))
    simp at hf
    rcases hf with rfl | rfl | rfl | rfl | rfl | rfl | rfl | rfl | rfl | rfl | rfl <;> simp [PlainD]
  · exact .inr (.inr (.inr (.inl ⟨_, Tryd.underlying22, by simp [PlainD], by rw [c59]; omega⟩)))
  · refine .inr (.inr (.inr (.inr ⟨_, Tryd.underlying59, fun f hf => ?_⟩)))
    simp at hf
    rcases hf with rfl | rfl | rfl | rfl | rfl | rfl | rfl | rfl <;> simp [PlainD]
end Go.Proofs.YtonilfkaecbjnaaDoor

