/-
  Equal of the types package; P12.1.
-/
import Derived.Test.YtonilfkaecbjnaaDoorPdEr
set_option linter.unusedSimpArgs false
namespace Go.Proofs.YtonilfkaecbjnaaDoor
open Go.Am

theorem sEqual_l (s u : List Str) (hs : s.length ≤ BB) (hl : s.length = u.length) : ∀ (r : List Str) (k : Nat), s.drop k = r → slices_Equal_string_string_l1 s u k = some (eqL (fun x y => x == y) r (u.drop k))
  | [], k, h => by
    rw [slices_Equal_string_string_l1, (lp_out h).1, if_neg (by simp), List.drop_eq_nil_of_le (by have := (lp_out h).2; omega)]; rfl
  | x :: r, k, h => by
    obtain ⟨e1, e2, e3, e4, e5⟩ := lp_in h
    obtain ⟨y, f1, f2, f3⟩ := lp_at (l := u) (k := k) (by omega)
    rw [slices_Equal_string_string_l1, e1, if_pos rfl, e2, ob, f1, ob, w1 (by omega), sEqual_l s u hs hl r (k + 1) e3, f2, eqL]
    cases x == y <;> simp
theorem sEqual_eq (s u : List Str) (hs : s.length ≤ BB) : slices_Equal_string_string s u = some (eqL (fun x y => x == y) s u) := by
  unfold slices_Equal_string_string
  by_cases hl : s.length = u.length
  · rw [if_neg (by simp; omega), z0, sEqual_l s u hs hl s 0 rfl]; rfl
  · rw [if_pos (by simp; omega), eqL_len _ hl]
theorem tEqual_l (s u : List ApiType) (hs : s.length ≤ BB) (hl : s.length = u.length) (ih : ∀ x ∈ s, ∀ y, types_Equal x y = some (x.same y)) :
    ∀ (r : List ApiType) (k : Nat), s.drop k = r → slices_EqualFunc_api_Type_api_Type_api_Type_api_Type_l1 s u k = some (eqL ApiType.same r (u.drop k))
  | [], k, h => by
    rw [slices_EqualFunc_api_Type_api_Type_api_Type_api_Type_l1, (lp_out h).1, if_neg (by simp), List.drop_eq_nil_of_le (by have := (lp_out h).2; omega)]; rfl
  | x :: r, k, h => by
    obtain ⟨e1, e2, e3, e4, e5⟩ := lp_in h
    obtain ⟨y, f1, f2, f3⟩ := lp_at (l := u) (k := k) (by omega)
    rw [slices_EqualFunc_api_Type_api_Type_api_Type_api_Type_l1, e1, if_pos rfl, e2, ob, f1, ob, ih x e5 y, ob, w1 (by omega), tEqual_l s u hs hl ih r (k + 1) e3, f2, eqL]
    cases x.same y <;> simp
theorem Equal_eq (t : ApiType) : Ok t → ∀ u, types_Equal t u = some (t.same u) := by
  induction t using ApiType.ind with
  | h t ih =>
  intro ht u
  have ih' := fun x hx => ih x hx (ht.kid hx)
  have hO : slices_EqualFunc_api_Type_api_Type_api_Type_api_Type t.Of u.Of = some (eqL ApiType.same t.Of u.Of) := by
    rw [slices_EqualFunc_api_Type_api_Type_api_Type_api_Type]
    by_cases hl : t.Of.length = u.Of.length
    · rw [if_neg (by simp; omega), z0, tEqual_l t.Of u.Of ht.ofs hl ih' t.Of 0 rfl]; rfl
    · rw [if_pos (by simp; omega), eqL_len _ hl]
  rw [types_Equal, hO, sEqual_eq _ _ ht.names, ApiType.same_eq]
  generalize eqL ApiType.same t.Of u.Of = a
  generalize eqL (fun x y => x == y) t.Names u.Names = b
  cases t.Kind == u.Kind <;> cases t.Low == u.Low <;> cases t.High == u.High <;> cases t.Size == u.Size <;> cases t.Name == u.Name <;> cases b <;> cases a <;> rfl
end Go.Proofs.YtonilfkaecbjnaaDoor

