/-
  The reference's EqualType.
-/
import Derived.Test.YtonilfkaecbjnaaDoorPdE
set_option linter.unusedSimpArgs false
namespace Go.Proofs.YtonilfkaecbjnaaDoor
open Go.Am

theorem rEqual_l2 (t u : ApiType) (ht : Ok t) (hl : t.Of.length = u.Of.length) (ih : ∀ x ∈ t.Of, ∀ y, ref10_EqualType x y = some (x.same y)) :
    ∀ (r : List ApiType) (k : Nat), t.Of.drop k = r → ref10_EqualType_l2 t u k = some (eqL ApiType.same r (u.Of.drop k))
  | [], k, h => by
    rw [ref10_EqualType_l2, (lp_out h).1, if_neg (by simp), List.drop_eq_nil_of_le (by have := (lp_out h).2; omega)]; rfl
  | x :: r, k, h => by
    obtain ⟨e1, e2, e3, e4, e5⟩ := lp_in h
    obtain ⟨y, f1, f2, f3⟩ := lp_at (l := u.Of) (k := k) (by omega)
    have := ht.ofs
    rw [ref10_EqualType_l2, e1, if_pos rfl, e2, ob, f1, ob, ih x e5 y, ob, w1 (by omega), rEqual_l2 t u ht hl ih r (k + 1) e3, f2, eqL]
    cases x.same y <;> simp
theorem rEqual_l1 (t u : ApiType) (ht : Ok t) (hl : t.Names.length = u.Names.length) (b : Bool) (hb : ref10_EqualType_l2 t u 0 = some b) :
    ∀ (r : List Str) (k : Nat), t.Names.drop k = r → ref10_EqualType_l1 t u k = some (eqL (fun x y => x == y) r (u.Names.drop k) && b)
  | [], k, h => by
    rw [ref10_EqualType_l1, (lp_out h).1, if_neg (by simp), List.drop_eq_nil_of_le (by have := (lp_out h).2; omega), hb]; rfl
  | x :: r, k, h => by
    obtain ⟨e1, e2, e3, e4, e5⟩ := lp_in h
    obtain ⟨y, f1, f2, f3⟩ := lp_at (l := u.Names) (k := k) (by omega)
    have := ht.names
    rw [ref10_EqualType_l1, e1, if_pos rfl, e2, ob, f1, ob, w1 (by omega), rEqual_l1 t u ht hl b hb r (k + 1) e3, f2, eqL]
    cases x == y <;> simp
theorem rEqual_eq (t : ApiType) : Ok t → ∀ u, ref10_EqualType t u = some (t.same u) := by
  induction t using ApiType.ind with
  | h t ih =>
  intro ht u
  have ih' := fun x hx => ih x hx (ht.kid hx)
  rw [ref10_EqualType]
  show (if diff t u = true then _ else _) = _
  cases hd : diff t u with
  | true => rw [if_pos rfl, diff_same hd]
  | false =>
    obtain ⟨h1, h2, h3⟩ := diff_not hd
    have h4 := rEqual_l2 t u ht h3 ih' t.Of 0 rfl
    have h5 := rEqual_l1 t u ht h2 _ h4 t.Names 0 rfl
    rw [if_neg (by simp), z0, h5, h1]
    rfl
theorem same_refl (t : ApiType) : t.same t = true := by
  induction t using ApiType.ind with
  | h t ih =>
  rw [ApiType.same_eq, eqL_refl t.Names (fun x _ => by simp), eqL_refl t.Of ih]
  simp

end Go.Proofs.YtonilfkaecbjnaaDoor

