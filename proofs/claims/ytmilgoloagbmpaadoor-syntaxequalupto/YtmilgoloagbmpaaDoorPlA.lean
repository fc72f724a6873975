/- A part of the proof of SyntaxEqual. -/
import Derived.Test.YtmilgoloagbmpaaDoorDgC
import Derived.ProofKit
namespace Go.Proofs.YtmilgoloagbmpaaDoor
open Go.Am

/-! ### loops -/
theorem ob {α β : Type} (a : α) (f : α → Option β) : (some a >>= f) = f a := rfl
theorem lp_in {α : Type} {l : List α} {k : Nat} {x : α} {r : List α} (h : l.drop k = x :: r) : decide ((k : Int) < (l.length : Int)) = true ∧ idx l (k : Int) = some x ∧ l.drop (k + 1) = r ∧ k < l.length ∧ x ∈ l := by
  have hk : k < l.length := by
    rcases Nat.lt_or_ge k l.length with h1 | h1
    · exact h1
    · rw [List.drop_eq_nil_of_le h1] at h; cases h
  have hx := List.drop_eq_getElem_cons hk
  rw [h] at hx
  obtain ⟨e1, e2⟩ := List.cons.inj hx
  refine ⟨decide_eq_true (by omega), ?_, e2.symm, hk, ?_⟩
  · unfold idx
    rw [if_pos (by omega), e1]
    simp [hk]
  · rw [e1]; exact List.getElem_mem hk
theorem lp_out {α : Type} {l : List α} {k : Nat} (h : l.drop k = []) : decide ((k : Int) < (l.length : Int)) = false ∧ l.length ≤ k := by
  have := List.drop_eq_nil_iff.1 h
  exact ⟨decide_eq_false (by omega), this⟩
/-- sizes that no sum or product here can pass -/
def BB : Nat := 68719476736
theorem wr {n : Int} (h : -4611686018427387904 ≤ n) (h' : n ≤ 4611686018427387904) : IntKind.i64.wrap n = n := wrap_i64 (by omega) (by omega)
theorem w1 {k : Nat} (h : k ≤ BB) : IntKind.i64.wrap ((k : Int) + 1) = ((k + 1 : Nat) : Int) := by
  unfold BB at h
  rw [wr (by omega) (by omega)]; rfl

/-! ### names -/
/-! ### the program's -/
/-! ### the reference's -/
end Go.Proofs.YtmilgoloagbmpaaDoor

set_option linter.unusedSimpArgs false
namespace Go.Proofs.YtmilgoloagbmpaaDoor
open Go.Am

theorem ApiType.ind {P : ApiType → Prop} (h : ∀ t : ApiType, (∀ x ∈ t.Of, P x) → P t) : ∀ t, P t := by
  intro t
  refine ApiType.rec (motive_1 := P) (motive_2 := fun l => ∀ x ∈ l, P x) ?_ ?_ ?_ t
  · intro k l h' s n ns of ih
    exact h _ ih
  · intro x hx; cases hx
  · intro x r hx hr y hy
    cases hy with
    | head => exact hx
    | tail _ hy => exact hr y hy

/-! ### what one node is asked -/

mutual
/-- some node meets p -/
def ApiType.some (p : ApiType → Bool) : ApiType → Bool
  | .mk k l h s n ns of => p (.mk k l h s n ns of) || ApiType.somes p of
def ApiType.somes (p : ApiType → Bool) : List ApiType → Bool
  | [] => false
  | t :: r => ApiType.some p t || ApiType.somes p r
end
/-- two lists, place by place -/
def eqL {α : Type} (p : α → α → Bool) : List α → List α → Bool
  | [], [] => true
  | x :: r, y :: s => p x y && eqL p r s
  | _, _ => false
theorem eqL_len {α : Type} (p : α → α → Bool) : ∀ {l m : List α}, l.length ≠ m.length → eqL p l m = false
  | [], [], h => absurd rfl h
  | [], _ :: _, _ => rfl
  | _ :: _, [], _ => rfl
  | x :: r, y :: s, h => by rw [eqL, eqL_len p (l := r) (m := s) (by simpa using h), Bool.and_false]

mutual
/-- all fields are the same -/
def ApiType.same : ApiType → ApiType → Bool
  | .mk k l h s n ns of, t => k == t.Kind && l == t.Low && h == t.High && s == t.Size && n == t.Name && eqL (fun x y => x == y) ns t.Names && ApiType.sames of t.Of
def ApiType.sames : List ApiType → List ApiType → Bool
  | [], [] => true
  | x :: r, y :: s => ApiType.same x y && ApiType.sames r s
  | [], _ :: _ => false
  | _ :: _, [] => false
end
theorem ApiType.sames_eq : ∀ l m : List ApiType, ApiType.sames l m = eqL ApiType.same l m
  | [], [] => rfl
  | x :: r, y :: s => by simp only [ApiType.sames, eqL, ApiType.sames_eq r s]
  | [], _ :: _ => rfl
  | _ :: _, [] => rfl
theorem ApiType.same_eq (t u : ApiType) : t.same u = (t.Kind == u.Kind && t.Low == u.Low && t.High == u.High && t.Size == u.Size && t.Name == u.Name && eqL (fun x y => x == y) t.Names u.Names && eqL ApiType.same t.Of u.Of) := by
  rw [← ApiType.sames_eq]
  cases t
  rfl

def diff (t u : ApiType) : Bool :=
  bif (bif (bif (bif (bif (bif t.Kind != u.Kind then true else t.Low != u.Low) then true else t.High != u.High) then true else t.Size != u.Size) then true else !(t.Name == u.Name)) then true else
    ((t.Names).length : Int) != ((u.Names).length : Int)) then true else ((t.Of).length : Int) != ((u.Of).length : Int)

theorem diff_same {t u : ApiType} (h : diff t u = true) : t.same u = false := by
  have hn : ((t.Names).length : Int) ≠ ((u.Names).length : Int) → eqL (fun x y => x == y) t.Names u.Names = false := fun h => eqL_len _ fun e => h (by omega)
  have ho : ((t.Of).length : Int) ≠ ((u.Of).length : Int) → eqL ApiType.same t.Of u.Of = false := fun h => eqL_len _ fun e => h (by omega)
  unfold diff at h
  rw [ApiType.same_eq]
  by_cases h1 : ((t.Names).length : Int) = ((u.Names).length : Int)
  · by_cases h2 : ((t.Of).length : Int) = ((u.Of).length : Int)
    · rw [h1, h2] at h
      revert h
      simp only [bne, beq_self_eq_true, Bool.not_true]
      cases t.Kind == u.Kind <;> cases t.Low == u.Low <;> cases t.High == u.High <;> cases t.Size == u.Size <;> cases t.Name == u.Name <;> simp
    · rw [ho h2, Bool.and_false]
  · rw [hn h1, Bool.and_false, Bool.false_and]

theorem diff_not {t u : ApiType} (h : diff t u = false) : t.same u = (eqL (fun x y => x == y) t.Names u.Names && eqL ApiType.same t.Of u.Of) ∧ t.Names.length = u.Names.length ∧ t.Of.length = u.Of.length := by
  unfold diff at h
  simp only [bne] at h
  have key : t.Kind == u.Kind ∧ t.Low == u.Low ∧ t.High == u.High ∧ t.Size == u.Size ∧ t.Name == u.Name ∧ ((t.Names).length : Int) == ((u.Names).length : Int) ∧ ((t.Of).length : Int) == ((u.Of).length : Int) := by
    revert h
    cases t.Kind == u.Kind <;> cases t.Low == u.Low <;> cases t.High == u.High <;> cases t.Size == u.Size <;> cases t.Name == u.Name <;> cases ((t.Names).length : Int) == ((u.Names).length : Int) <;> cases ((t.Of).length : Int) == ((u.Of).length : Int) <;> simp
  obtain ⟨k1, k2, k3, k4, k5, k6, k7⟩ := key
  refine ⟨by rw [ApiType.same_eq, k1, k2, k3, k4, k5]; rfl, ?_, ?_⟩
  · have : (t.Names.length : Int) = u.Names.length := by simpa using k6
    omega
  · have : (t.Of.length : Int) = u.Of.length := by simpa using k7
    omega

end Go.Proofs.YtmilgoloagbmpaaDoor

set_option linter.unusedSimpArgs false
namespace Go.Proofs.YtmilgoloagbmpaaDoor
open Go.Am

mutual
def ApiType.bulk : ApiType → Nat
  | .mk _ _ _ _ n ns of => 1 + (1 + (1 + (1 + ((n.length + 1) + (((ns.map fun s => s.length + 1).sum + 1) + ((ApiType.bulks of + 1) + 0)))))) + 1
def ApiType.bulks : List ApiType → Nat
  | [] => 0
  | x :: r => ApiType.bulk x + ApiType.bulks r
end
theorem ApiType.bulk_eq (t : ApiType) : t.bulk = t.Name.length + (t.Names.map fun s => s.length + 1).sum + ApiType.bulks t.Of + 8 := by cases t; simp only [ApiType.bulk]; omega
theorem ApiType.bulk_kid {t : ApiType} : ∀ {l : List ApiType}, t ∈ l → t.bulk ≤ ApiType.bulks l
  | x :: r, h => by
    simp only [ApiType.bulks]
    cases h with
    | head => omega
    | tail _ h => have := ApiType.bulk_kid h; omega
theorem ApiType.bulk_len : ∀ l : List ApiType, l.length ≤ ApiType.bulks l
  | [] => Nat.le_refl _
  | x :: r => by
    simp only [ApiType.bulks, List.length_cons]
    have := ApiType.bulk_len r
    have := ApiType.bulk_eq x
    omega
theorem strs_sum : ∀ l : List Str, l.length ≤ (l.map fun s => s.length + 1).sum
  | [] => Nat.le_refl _
  | x :: r => by simp only [List.map_cons, List.sum_cons, List.length_cons]; have := strs_sum r; omega
/-- a type of bounded size -/
def Ok (t : ApiType) : Prop := t.bulk ≤ BB
theorem Ok.kid {t x : ApiType} (h : Ok t) (hx : x ∈ t.Of) : Ok x := by
  unfold Ok at *
  have := ApiType.bulk_kid hx
  have := ApiType.bulk_eq t
  omega
theorem Ok.ofs {t : ApiType} (h : Ok t) : t.Of.length ≤ BB := by
  unfold Ok at *
  have := ApiType.bulk_len t.Of
  have := ApiType.bulk_eq t
  omega
theorem Ok.names {t : ApiType} (h : Ok t) : t.Names.length ≤ BB := by
  unfold Ok at *
  have := strs_sum t.Names
  have := ApiType.bulk_eq t
  omega
theorem Ok.name {t : ApiType} (h : Ok t) : t.Name.length ≤ BB := by
  unfold Ok at *
  have := ApiType.bulk_eq t
  omega
/-! ### the program's CheckType -/
end Go.Proofs.YtmilgoloagbmpaaDoor

set_option linter.unusedSimpArgs false
namespace Go.Proofs.YtmilgoloagbmpaaDoor
open Go.Am

/-! ### the reference's CheckType -/
end Go.Proofs.YtmilgoloagbmpaaDoor

set_option linter.unusedSimpArgs false
set_option linter.unusedVariables false
namespace Go.Proofs.YtmilgoloagbmpaaDoor
open Go.Am

theorem ApiExpr.ind {P : ApiExpr → Prop} (h : ∀ t : ApiExpr, (∀ x ∈ t.Kids, P x) → P t) : ∀ t, P t := by
  intro t
  refine ApiExpr.rec (motive_1 := P) (motive_2 := fun l => ∀ x ∈ l, P x) ?_ ?_ ?_ t
  · intro k l n of ih
    exact h _ ih
  · intro x hx; cases hx
  · intro x r hx hr y hy
    cases hy with
    | head => exact hx
    | tail _ hy => exact hr y hy

mutual
def ApiExpr.bulk : ApiExpr → Nat
  | .mk _ _ n ks => 1 + (1 + ((n.length + 1) + ((ApiExpr.bulks ks + 1) + 0))) + 1
def ApiExpr.bulks : List ApiExpr → Nat
  | [] => 0
  | x :: r => ApiExpr.bulk x + ApiExpr.bulks r
end
theorem ApiExpr.bulk_eq (t : ApiExpr) : t.bulk = t.Name.length + ApiExpr.bulks t.Kids + 5 := by cases t; simp only [ApiExpr.bulk]; omega
theorem ApiExpr.bulk_kid {t : ApiExpr} : ∀ {l : List ApiExpr}, t ∈ l → t.bulk ≤ ApiExpr.bulks l
  | x :: r, h => by
    simp only [ApiExpr.bulks]
    cases h with
    | head => omega
    | tail _ h => have := ApiExpr.bulk_kid h; omega
theorem ApiExpr.bulk_len : ∀ l : List ApiExpr, l.length ≤ ApiExpr.bulks l
  | [] => Nat.le_refl _
  | x :: r => by
    simp only [ApiExpr.bulks, List.length_cons]
    have := ApiExpr.bulk_len r
    have := ApiExpr.bulk_eq x
    omega
/-- an expression of bounded size -/
def OkE (t : ApiExpr) : Prop := t.bulk ≤ BB
theorem OkE.kid {t x : ApiExpr} (h : OkE t) (hx : x ∈ t.Kids) : OkE x := by
  unfold OkE at *
  have := ApiExpr.bulk_kid hx
  have := ApiExpr.bulk_eq t
  omega
theorem OkE.kids {t : ApiExpr} (h : OkE t) : t.Kids.length ≤ BB := by
  unfold OkE at *
  have := ApiExpr.bulk_len t.Kids
  have := ApiExpr.bulk_eq t
  omega
theorem OkE.name {t : ApiExpr} (h : OkE t) : t.Name.length ≤ BB := by
  unfold OkE at *
  have := ApiExpr.bulk_eq t
  omega
/-! ### what one node is asked -/
def ar (o : Int) : Int :=
  bif (bif (bif (bif (o == 0) then true else (o == 1)) then true else (o == 2)) then true else (o == 3)) then 0
  else bif (bif (bif (o == 4) then true else (o == 6)) then true else (o == 7)) then 1
  else bif (bif (o == 5) then true else (bif (decide (o ≥ 8)) then (decide (o ≤ 22)) else false)) then 2
  else bif (o == 23) then 3 else -1
mutual
def ApiExpr.place : ApiExpr → Bool
  | .mk op _ _ ks => bif op == 3 then true else bif (bif op == 4 then true else op == 5) then ApiExpr.place1 ks else false
def ApiExpr.place1 : List ApiExpr → Bool
  | [] => false
  | x :: _ => ApiExpr.place x
end
/-! ### the program's -/
end Go.Proofs.YtmilgoloagbmpaaDoor

set_option linter.unusedSimpArgs false
set_option linter.unusedVariables false
namespace Go.Proofs.YtmilgoloagbmpaaDoor
open Go.Am

/-! ### few -/
theorem eleft_l (e : ApiExpr) (ht : OkE e) (ih : ∀ x ∈ e.Kids, ∀ n, ∃ m, ref10_exprLeft x n = some m) : ∀ (r : List ApiExpr) (k : Nat) (n : Int), e.Kids.drop k = r → ∃ m, ref10_exprLeft_l1 e n k = some m
  | [], k, n, h => by rw [ref10_exprLeft_l1, (lp_out h).1]; exact ⟨_, rfl⟩
  | x :: r, k, n, h => by
    obtain ⟨e1, e2, e3, e4, e5⟩ := lp_in h
    have := ht.kids
    rw [ref10_exprLeft_l1, e1, e2]
    cases decide (n ≥ 0) with
    | false => exact ⟨_, rfl⟩
    | true =>
      obtain ⟨m, hm⟩ := ih x e5 n
      rw [cond_true, if_pos rfl, ob, hm, ob, w1 (by omega)]
      exact eleft_l e ht ih r (k + 1) m e3
theorem eleft_some (e : ApiExpr) : OkE e → ∀ n, ∃ m, ref10_exprLeft e n = some m := by
  induction e using ApiExpr.ind with
  | h e ih =>
  intro ht n
  rw [ref10_exprLeft]
  exact eleft_l e ht (fun x hx => ih x hx (ht.kid hx)) e.Kids 0 _ rfl
theorem fewE_some (e : ApiExpr) (ht : OkE e) (n : Int) : ∃ b, ref10_FewExpr e n = some b := by
  obtain ⟨m, hm⟩ := eleft_some e ht n
  unfold ref10_FewExpr
  rw [hm]
  exact ⟨_, rfl⟩
theorem tleft_l2 (t : ApiType) (ht : Ok t) (ih : ∀ x ∈ t.Of, ∀ n, ∃ m, ref10_typeLeft x n = some m) : ∀ (r : List ApiType) (k : Nat) (n : Int), t.Of.drop k = r → ∃ m, ref10_typeLeft_l2 t n k = some m
  | [], k, n, h => by rw [ref10_typeLeft_l2, (lp_out h).1]; exact ⟨_, rfl⟩
  | x :: r, k, n, h => by
    obtain ⟨e1, e2, e3, e4, e5⟩ := lp_in h
    have := ht.ofs
    rw [ref10_typeLeft_l2, e1, e2]
    cases decide (n ≥ 0) with
    | false => exact ⟨_, rfl⟩
    | true =>
      obtain ⟨m, hm⟩ := ih x e5 n
      rw [cond_true, if_pos rfl, ob, hm, ob, w1 (by omega)]
      exact tleft_l2 t ht ih r (k + 1) m e3
theorem tleft_l1 (t : ApiType) (ht : Ok t) (ih : ∀ x ∈ t.Of, ∀ n, ∃ m, ref10_typeLeft x n = some m) : ∀ (r : List Str) (k : Nat) (n : Int), t.Names.drop k = r → ∃ m, ref10_typeLeft_l1 t n k = some m
  | [], k, n, h => by rw [ref10_typeLeft_l1, (lp_out h).1]; exact tleft_l2 t ht ih t.Of 0 n rfl
  | x :: r, k, n, h => by
    obtain ⟨e1, e2, e3, e4, e5⟩ := lp_in h
    have := ht.names
    rw [ref10_typeLeft_l1, e1, e2]
    cases decide (n ≥ 0) with
    | false => exact tleft_l2 t ht ih t.Of 0 n rfl
    | true =>
      rw [cond_true, if_pos rfl, ob, w1 (by omega)]
      exact tleft_l1 t ht ih r (k + 1) _ e3
theorem tleft_some (t : ApiType) : Ok t → ∀ n, ∃ m, ref10_typeLeft t n = some m := by
  induction t using ApiType.ind with
  | h t ih =>
  intro ht n
  rw [ref10_typeLeft]
  exact tleft_l1 t ht (fun x hx => ih x hx (ht.kid hx)) t.Names 0 _ rfl
end Go.Proofs.YtmilgoloagbmpaaDoor

namespace Go.Proofs.YtmilgoloagbmpaaDoor
open Go.Am
set_option maxRecDepth 100000
set_option maxHeartbeats 4000000
theorem law10_known_true : law10_known = some true := law10_known_le 200 _ (by kernel_rfl)
end Go.Proofs.YtmilgoloagbmpaaDoor

set_option linter.unusedSimpArgs false
set_option linter.unusedVariables false
namespace Go.Proofs.YtmilgoloagbmpaaDoor
open Go.Am

theorem lp_at {α : Type} {l : List α} {k : Nat} (h : k < l.length) : ∃ y, idx l (k : Int) = some y ∧ l.drop k = y :: l.drop (k + 1) ∧ y ∈ l := by
  refine ⟨l[k], ?_, List.drop_eq_getElem_cons h, List.getElem_mem h⟩
  unfold idx
  rw [if_pos (by omega)]
  simp [h]
theorem z0 : (0 : Int) = ((0 : Nat) : Int) := rfl

theorem eqL_refl {α : Type} {p : α → α → Bool} : ∀ l : List α, (∀ x ∈ l, p x x = true) → eqL p l l = true
  | [], _ => rfl
  | x :: r, h => by rw [eqL, h x List.mem_cons_self, eqL_refl r fun y hy => h y (List.mem_cons_of_mem _ hy)]; rfl
theorem rEqual_l2 (t u : ApiType) (ht : Ok t) (hl : t.Of.length = u.Of.length) (ih : ∀ x ∈ t.Of, ∀ y, ref10_EqualType x y = some (x.same y)) :
    ∀ (r : List ApiType) (k : Nat), t.Of.drop k = r → ref10_EqualType_l2 t u k = some (eqL ApiType.same r (u.Of.drop k))
  | [], k, h => by
    rw [ref10_EqualType_l2, (lp_out h).1, if_neg (by simp), List.drop_eq_nil_of_le (by have := (lp_out h).2; omega)]; rfl
  | x :: r, k, h => by
    obtain ⟨e1, e2, e3, e4, e5⟩ := lp_in h
    obtain ⟨y, f1, f2, f3⟩ := lp_at (l := u.Of) (k := k) (by omega)
    have := ht.ofs
    rw [ref10_EqualType_l2, e1, if_pos rfl, e2, ob, f1, ob, ih x e5 y, ob, w1 (by omega), rEqual_l2 t u ht hl ih r (k + 1) e3, f2, eqL]
    cases x.same y <;> simp
theorem rEqual_l1 (t u : ApiType) (ht : Ok t) (hl : t.Names.length = u.Names.length) (b : Bool) (hb : ref10_EqualType_l2 t u 0 = some b) :
    ∀ (r : List Str) (k : Nat), t.Names.drop k = r → ref10_EqualType_l1 t u k = some (eqL (fun x y => x == y) r (u.Names.drop k) && b)
  | [], k, h => by
    rw [ref10_EqualType_l1, (lp_out h).1, if_neg (by simp), List.drop_eq_nil_of_le (by have := (lp_out h).2; omega), hb]; rfl
  | x :: r, k, h => by
    obtain ⟨e1, e2, e3, e4, e5⟩ := lp_in h
    obtain ⟨y, f1, f2, f3⟩ := lp_at (l := u.Names) (k := k) (by omega)
    have := ht.names
    rw [ref10_EqualType_l1, e1, if_pos rfl, e2, ob, f1, ob, w1 (by omega), rEqual_l1 t u ht hl b hb r (k + 1) e3, f2, eqL]
    cases x == y <;> simp
theorem rEqual_eq (t : ApiType) : Ok t → ∀ u, ref10_EqualType t u = some (t.same u) := by
  induction t using ApiType.ind with
  | h t ih =>
  intro ht u
  have ih' := fun x hx => ih x hx (ht.kid hx)
  rw [ref10_EqualType]
  show (if diff t u = true then _ else _) = _
  cases hd : diff t u with
  | true => rw [if_pos rfl, diff_same hd]
  | false =>
    obtain ⟨h1, h2, h3⟩ := diff_not hd
    have h4 := rEqual_l2 t u ht h3 ih' t.Of 0 rfl
    have h5 := rEqual_l1 t u ht h2 _ h4 t.Names 0 rfl
    rw [if_neg (by simp), z0, h5, h1]
    rfl
theorem same_refl (t : ApiType) : t.same t = true := by
  induction t using ApiType.ind with
  | h t ih =>
  rw [ApiType.same_eq, eqL_refl t.Names (fun x _ => by simp), eqL_refl t.Of ih]
  simp

theorem sEqual_l (s u : List Str) (hs : s.length ≤ BB) (hl : s.length = u.length) : ∀ (r : List Str) (k : Nat), s.drop k = r → slices_Equal_string_string_l1 s u k = some (eqL (fun x y => x == y) r (u.drop k))
  | [], k, h => by
    rw [slices_Equal_string_string_l1, (lp_out h).1, if_neg (by simp), List.drop_eq_nil_of_le (by have := (lp_out h).2; omega)]; rfl
  | x :: r, k, h => by
    obtain ⟨e1, e2, e3, e4, e5⟩ := lp_in h
    obtain ⟨y, f1, f2, f3⟩ := lp_at (l := u) (k := k) (by omega)
    rw [slices_Equal_string_string_l1, e1, if_pos rfl, e2, ob, f1, ob, w1 (by omega), sEqual_l s u hs hl r (k + 1) e3, f2, eqL]
    cases x == y <;> simp
theorem sEqual_eq (s u : List Str) (hs : s.length ≤ BB) : slices_Equal_string_string s u = some (eqL (fun x y => x == y) s u) := by
  unfold slices_Equal_string_string
  by_cases hl : s.length = u.length
  · rw [if_neg (by simp; omega), z0, sEqual_l s u hs hl s 0 rfl]; rfl
  · rw [if_pos (by simp; omega), eqL_len _ hl]
theorem tEqual_l (s u : List ApiType) (hs : s.length ≤ BB) (hl : s.length = u.length) (ih : ∀ x ∈ s, ∀ y, syntax_equalType x y = some (x.same y)) :
    ∀ (r : List ApiType) (k : Nat), s.drop k = r → slices_EqualFunc_api_Type_api_Type_api_Type_api_Type_l1 s u k = some (eqL ApiType.same r (u.drop k))
  | [], k, h => by
    rw [slices_EqualFunc_api_Type_api_Type_api_Type_api_Type_l1, (lp_out h).1, if_neg (by simp), List.drop_eq_nil_of_le (by have := (lp_out h).2; omega)]; rfl
  | x :: r, k, h => by
    obtain ⟨e1, e2, e3, e4, e5⟩ := lp_in h
    obtain ⟨y, f1, f2, f3⟩ := lp_at (l := u) (k := k) (by omega)
    rw [slices_EqualFunc_api_Type_api_Type_api_Type_api_Type_l1, e1, if_pos rfl, e2, ob, f1, ob, ih x e5 y, ob, w1 (by omega), tEqual_l s u hs hl ih r (k + 1) e3, f2, eqL]
    cases x.same y <;> simp
theorem sEqualT_eq (t : ApiType) : Ok t → ∀ u, syntax_equalType t u = some (t.same u) := by
  induction t using ApiType.ind with
  | h t ih =>
  intro ht u
  have ih' := fun x hx => ih x hx (ht.kid hx)
  have hO : slices_EqualFunc_api_Type_api_Type_api_Type_api_Type t.Of u.Of = some (eqL ApiType.same t.Of u.Of) := by
    rw [slices_EqualFunc_api_Type_api_Type_api_Type_api_Type]
    by_cases hl : t.Of.length = u.Of.length
    · rw [if_neg (by simp; omega), z0, tEqual_l t.Of u.Of ht.ofs hl ih' t.Of 0 rfl]; rfl
    · rw [if_pos (by simp; omega), eqL_len _ hl]
  rw [syntax_equalType, hO, sEqual_eq _ _ ht.names, ApiType.same_eq]
  generalize eqL ApiType.same t.Of u.Of = a
  generalize eqL (fun x y => x == y) t.Names u.Names = b
  cases t.Kind == u.Kind <;> cases t.Low == u.Low <;> cases t.High == u.High <;> cases t.Size == u.Size <;> cases t.Name == u.Name <;> cases b <;> cases a <;> rfl

/-! ### expressions -/
mutual
def ApiExpr.same : ApiExpr → ApiExpr → Bool
  | .mk o n nm ks, t => o == t.Op && n == t.NV && nm == t.Name && ApiExpr.sames ks t.Kids
def ApiExpr.sames : List ApiExpr → List ApiExpr → Bool
  | [], [] => true
  | x :: r, y :: s => ApiExpr.same x y && ApiExpr.sames r s
  | [], _ :: _ => false
  | _ :: _, [] => false
end
theorem ApiExpr.sames_eq : ∀ l m : List ApiExpr, ApiExpr.sames l m = eqL ApiExpr.same l m
  | [], [] => rfl
  | x :: r, y :: s => by simp only [ApiExpr.sames, eqL, ApiExpr.sames_eq r s]
  | [], _ :: _ => rfl
  | _ :: _, [] => rfl
theorem ApiExpr.same_eq (t u : ApiExpr) : t.same u = (t.Op == u.Op && t.NV == u.NV && t.Name == u.Name && eqL ApiExpr.same t.Kids u.Kids) := by
  rw [← ApiExpr.sames_eq]
  cases t
  rfl
theorem sEqE_l (s u : List ApiExpr) (hs : s.length ≤ BB) (hl : s.length = u.length) (ih : ∀ x ∈ s, ∀ y, syntax_EqualExpr x y = some (x.same y)) :
    ∀ (r : List ApiExpr) (k : Nat), s.drop k = r → slices_EqualFunc_api_Expr_api_Expr_api_Expr_api_Expr_l1 s u k = some (eqL ApiExpr.same r (u.drop k))
  | [], k, h => by
    rw [slices_EqualFunc_api_Expr_api_Expr_api_Expr_api_Expr_l1, (lp_out h).1, if_neg (by simp), List.drop_eq_nil_of_le (by have := (lp_out h).2; omega)]; rfl
  | x :: r, k, h => by
    obtain ⟨e1, e2, e3, e4, e5⟩ := lp_in h
    obtain ⟨y, f1, f2, f3⟩ := lp_at (l := u) (k := k) (by omega)
    rw [slices_EqualFunc_api_Expr_api_Expr_api_Expr_api_Expr_l1, e1, if_pos rfl, e2, ob, f1, ob, ih x e5 y, ob, w1 (by omega), sEqE_l s u hs hl ih r (k + 1) e3, f2, eqL]
    cases x.same y <;> simp
theorem sEqEs_eq (s u : List ApiExpr) (hs : s.length ≤ BB) (ih : ∀ x ∈ s, ∀ y, syntax_EqualExpr x y = some (x.same y)) : slices_EqualFunc_api_Expr_api_Expr_api_Expr_api_Expr s u = some (eqL ApiExpr.same s u) := by
  rw [slices_EqualFunc_api_Expr_api_Expr_api_Expr_api_Expr]
  by_cases hl : s.length = u.length
  · rw [if_neg (by simp; omega), z0, sEqE_l s u hs hl ih s 0 rfl]; rfl
  · rw [if_pos (by simp; omega), eqL_len _ hl]
theorem sEqualE_eq (t : ApiExpr) : OkE t → ∀ u, syntax_EqualExpr t u = some (t.same u) := by
  induction t using ApiExpr.ind with
  | h t ih =>
  intro ht u
  rw [syntax_EqualExpr, sEqEs_eq t.Kids u.Kids ht.kids (fun x hx => ih x hx (ht.kid hx)), ApiExpr.same_eq]
  generalize eqL ApiExpr.same t.Kids u.Kids = a
  cases t.Op == u.Op <;> cases t.NV == u.NV <;> cases t.Name == u.Name <;> cases a <;> rfl
theorem rEqE_l (t u : ApiExpr) (ht : OkE t) (hl : t.Kids.length = u.Kids.length) (ih : ∀ x ∈ t.Kids, ∀ y, ref10_EqualExpr x y = some (x.same y)) :
    ∀ (r : List ApiExpr) (k : Nat), t.Kids.drop k = r → ref10_EqualExpr_l1 t u k = some (eqL ApiExpr.same r (u.Kids.drop k))
  | [], k, h => by
    rw [ref10_EqualExpr_l1, (lp_out h).1, if_neg (by simp), List.drop_eq_nil_of_le (by have := (lp_out h).2; omega)]; rfl
  | x :: r, k, h => by
    obtain ⟨e1, e2, e3, e4, e5⟩ := lp_in h
    obtain ⟨y, f1, f2, f3⟩ := lp_at (l := u.Kids) (k := k) (by omega)
    have := ht.kids
    rw [ref10_EqualExpr_l1, e1, if_pos rfl, e2, ob, f1, ob, ih x e5 y, ob, w1 (by omega), rEqE_l t u ht hl ih r (k + 1) e3, f2, eqL]
    cases x.same y <;> simp
theorem rEqualE_eq (t : ApiExpr) : OkE t → ∀ u, ref10_EqualExpr t u = some (t.same u) := by
  induction t using ApiExpr.ind with
  | h t ih =>
  intro ht u
  have ih' := fun x hx => ih x hx (ht.kid hx)
  rw [ref10_EqualExpr, ApiExpr.same_eq]
  by_cases hl : t.Kids.length = u.Kids.length
  · have h4 := rEqE_l t u ht hl ih' t.Kids 0 rfl
    have hb : (bif (bif (bif (t.Op != u.Op) then true else (t.NV != u.NV)) then true else (!(t.Name == u.Name))) then true else ((t.Kids.length : Int) != (u.Kids.length : Int))) = !(t.Op == u.Op && t.NV == u.NV && t.Name == u.Name) := by
      have : ((t.Kids.length : Int) != (u.Kids.length : Int)) = false := by simp; omega
      rw [this]
      unfold bne
      cases t.Op == u.Op <;> cases t.NV == u.NV <;> cases t.Name == u.Name <;> rfl
    rw [hb, z0, h4]
    cases (t.Op == u.Op && t.NV == u.NV && t.Name == u.Name) <;> simp
  · have : ((t.Kids.length : Int) != (u.Kids.length : Int)) = true := by simp; omega
    rw [this, eqL_len _ hl, Bool.and_false]
    generalize (bif (bif (t.Op != u.Op) then true else (t.NV != u.NV)) then true else (!(t.Name == u.Name))) = b
    cases b <;> rfl
theorem sameE_refl (t : ApiExpr) : t.same t = true := by
  induction t using ApiExpr.ind with
  | h t ih =>
  rw [ApiExpr.same_eq, eqL_refl t.Kids ih]
  simp
end Go.Proofs.YtmilgoloagbmpaaDoor

namespace Go.Proofs.YtmilgoloagbmpaaDoor
open Go.Am

mutual
def ApiStmt.bulk : ApiStmt → Nat
  | .mk y0 y1 y2 y3 y4 y5 y6 y7 y8 y9 y10 => 1 + (ApiExpr.bulk y1 + (ApiExpr.bulk y2 + ((y3.length + 1) + ((ApiExpr.bulks y4 + 1) + (1 + (1 + (1 + (((y8.map fun _ => 1).sum + 1) + ((ApiStmt.bulks y9 + 1) + ((ApiStmt.bulks y10 + 1) + (0))))))))))) + 1
def ApiStmt.bulks : List ApiStmt → Nat
  | [] => 0
  | x :: r => ApiStmt.bulk x + ApiStmt.bulks r
end
mutual
def ApiDecl.bulk : ApiDecl → Nat
  | .mk y0 y1 y2 y3 y4 y5 y6 y7 => 1 + ((y1.length + 1) + (ApiType.bulk y2 + (1 + (ApiExpr.bulk y4 + ((ApiDecl.bulks y5 + 1) + ((ApiDecl.bulks y6 + 1) + ((ApiStmt.bulks y7 + 1) + (0)))))))) + 1
def ApiDecl.bulks : List ApiDecl → Nat
  | [] => 0
  | x :: r => ApiDecl.bulk x + ApiDecl.bulks r
end
mutual
def ApiProgram.bulk : ApiProgram → Nat
  | .mk y0 y1 => (ApiDecl.bulks y0 + 1) + ((ApiStmt.bulks y1 + 1) + (0)) + 1
def ApiProgram.bulks : List ApiProgram → Nat
  | [] => 0
  | x :: r => ApiProgram.bulk x + ApiProgram.bulks r
end
end Go.Proofs.YtmilgoloagbmpaaDoor

set_option linter.unusedSimpArgs false
set_option linter.unusedVariables false
set_option maxHeartbeats 1000000
namespace Go.Proofs.YtmilgoloagbmpaaDoor
open Go.Am

theorem ApiStmt.ind {P : ApiStmt → Prop} (h : ∀ s : ApiStmt, (∀ x ∈ s.Then, P x) → (∀ x ∈ s.Else, P x) → P s) : ∀ s, P s := by
  intro s
  refine ApiStmt.rec (motive_1 := P) (motive_2 := fun l => ∀ x ∈ l, P x) ?_ ?_ ?_ s
  · intro v pl va nm ar n lo hi ns th el i1 i2
    exact h _ i1 i2
  · intro x hx; cases hx
  · intro x r hx hr y hy
    cases hy with
    | head => exact hx
    | tail _ hy => exact hr y hy
/-- lists of statements, the parts of each element known -/
theorem ApiStmt.inds {Q : List ApiStmt → Prop} (h : ∀ l : List ApiStmt, (∀ x ∈ l, Q x.Then ∧ Q x.Else) → Q l) : ∀ l, Q l := by
  have key : ∀ s : ApiStmt, Q s.Then ∧ Q s.Else := fun s => by
    induction s using ApiStmt.ind with
    | h s i1 i2 => exact ⟨h _ i1, h _ i2⟩
  exact fun l => h l fun x _ => key x

theorem ApiStmt.bulk_eq (s : ApiStmt) : s.bulk = s.Place.bulk + s.Value.bulk + s.Name.length + ApiExpr.bulks s.Args + (s.Numbers.map fun _ => 1).sum + ApiStmt.bulks s.Then + ApiStmt.bulks s.Else + 10 := by
  cases s; simp only [ApiStmt.bulk]; omega
theorem ints_sum : ∀ l : List Int, (l.map fun _ => 1).sum = l.length
  | [] => rfl
  | x :: r => by simp only [List.map_cons, List.sum_cons, List.length_cons, ints_sum r]; omega
theorem ApiStmt.bulk_mem {s : ApiStmt} : ∀ {l : List ApiStmt}, s ∈ l → s.bulk ≤ ApiStmt.bulks l
  | x :: r, h => by
    simp only [ApiStmt.bulks]
    cases h with
    | head => omega
    | tail _ h => have := ApiStmt.bulk_mem h; omega
theorem ApiStmt.bulk_len : ∀ l : List ApiStmt, l.length ≤ ApiStmt.bulks l
  | [] => Nat.le_refl _
  | x :: r => by
    simp only [ApiStmt.bulks, List.length_cons]
    have := ApiStmt.bulk_len r
    have := ApiStmt.bulk_eq x
    omega
def OkS (l : List ApiStmt) : Prop := ApiStmt.bulks l ≤ BB
structure OkS1 (s : ApiStmt) : Prop where
  place : OkE s.Place
  value : OkE s.Value
  name : s.Name.length ≤ BB
  args : s.Args.length ≤ BB
  arg : ∀ a ∈ s.Args, OkE a
  nums : s.Numbers.length ≤ BB
  thens : OkS s.Then
  elses : OkS s.Else
theorem OkS.mem {l : List ApiStmt} (h : OkS l) {s : ApiStmt} (hs : s ∈ l) : OkS1 s := by
  unfold OkS at h
  have h1 := ApiStmt.bulk_mem hs
  have h2 := ApiStmt.bulk_eq s
  have h3 := ints_sum s.Numbers
  have h4 := ApiExpr.bulk_len s.Args
  refine ⟨?_, ?_, ?_, ?_, fun a ha => ?_, ?_, ?_, ?_⟩ <;> first | (unfold OkE; omega) | (unfold OkS; omega) | omega | skip
  have := ApiExpr.bulk_kid ha
  unfold OkE; omega
theorem OkS.len {l : List ApiStmt} (h : OkS l) : l.length ≤ BB := Nat.le_trans (ApiStmt.bulk_len l) h

end Go.Proofs.YtmilgoloagbmpaaDoor

set_option linter.unusedSimpArgs false
set_option linter.unusedVariables false
set_option maxHeartbeats 1000000
namespace Go.Proofs.YtmilgoloagbmpaaDoor
open Go.Am

theorem ApiDecl.ind {P : ApiDecl → Prop} (h : ∀ d : ApiDecl, (∀ x ∈ d.Params, P x) → (∀ x ∈ d.Vars, P x) → P d) : ∀ d, P d := by
  intro d
  refine ApiDecl.rec (motive_1 := P) (motive_2 := fun l => ∀ x ∈ l, P x) ?_ ?_ ?_ d
  · intro k nm t i v ps vs bd i1 i2
    exact h _ i1 i2
  · intro x hx; cases hx
  · intro x r hx hr y hy
    cases hy with
    | head => exact hx
    | tail _ hy => exact hr y hy
theorem ApiDecl.inds {Q : List ApiDecl → Prop} (h : ∀ l : List ApiDecl, (∀ x ∈ l, Q x.Params ∧ Q x.Vars) → Q l) : ∀ l, Q l := by
  have key : ∀ s : ApiDecl, Q s.Params ∧ Q s.Vars := fun s => by
    induction s using ApiDecl.ind with
    | h s i1 i2 => exact ⟨h _ i1, h _ i2⟩
  exact fun l => h l fun x _ => key x

theorem ApiDecl.bulk_eq (d : ApiDecl) : d.bulk = d.Name.length + d.TypeV.bulk + d.Value.bulk + ApiDecl.bulks d.Params + ApiDecl.bulks d.Vars + ApiStmt.bulks d.Body + 7 := by cases d; simp only [ApiDecl.bulk]; omega
theorem ApiDecl.bulk_mem {s : ApiDecl} : ∀ {l : List ApiDecl}, s ∈ l → s.bulk ≤ ApiDecl.bulks l
  | x :: r, h => by
    simp only [ApiDecl.bulks]
    cases h with
    | head => omega
    | tail _ h => have := ApiDecl.bulk_mem h; omega
theorem ApiDecl.bulk_len : ∀ l : List ApiDecl, l.length ≤ ApiDecl.bulks l
  | [] => Nat.le_refl _
  | x :: r => by
    simp only [ApiDecl.bulks, List.length_cons]
    have := ApiDecl.bulk_len r
    have := ApiDecl.bulk_eq x
    omega
def OkD (l : List ApiDecl) : Prop := ApiDecl.bulks l ≤ BB
structure OkD1 (d : ApiDecl) : Prop where
  type : Ok d.TypeV
  value : OkE d.Value
  name : d.Name.length ≤ BB
  params : OkD d.Params
  vars : OkD d.Vars
  body : OkS d.Body
theorem OkD.mem {l : List ApiDecl} (h : OkD l) {d : ApiDecl} (hd : d ∈ l) : OkD1 d := by
  unfold OkD at h
  have h1 := ApiDecl.bulk_mem hd
  have h2 := ApiDecl.bulk_eq d
  refine ⟨?_, ?_, ?_, ?_, ?_, ?_⟩ <;> first | (unfold OkE; omega) | (unfold OkS; omega) | (unfold OkD; omega) | (unfold Ok; omega) | omega
theorem OkD.len {l : List ApiDecl} (h : OkD l) : l.length ≤ BB := Nat.le_trans (ApiDecl.bulk_len l) h

structure OkP (p : ApiProgram) : Prop where
  decls : OkD p.Decls
  body : OkS p.Body
end Go.Proofs.YtmilgoloagbmpaaDoor

set_option linter.unusedSimpArgs false
set_option linter.unusedVariables false
set_option maxHeartbeats 1000000
namespace Go.Proofs.YtmilgoloagbmpaaDoor
open Go.Am

/-! ### sizes -/
/-! ### form -/
end Go.Proofs.YtmilgoloagbmpaaDoor

set_option linter.unusedSimpArgs false
set_option linter.unusedVariables false
set_option maxHeartbeats 1000000
namespace Go.Proofs.YtmilgoloagbmpaaDoor
open Go.Am

/-! ### form of declarations -/
/-! ### names -/
/-! ### numbers -/
/-! ### the whole -/
/-! ### few -/
theorem stleft_some (l : List ApiStmt) : OkS l → ∀ n, ∃ m, ref10_stmtsLeft l n = some m := by
  induction l using ApiStmt.inds with
  | h l ih =>
  intro hl n
  have main : ∀ (r : List ApiStmt) (k : Nat) (n : Int), l.drop k = r → ∃ m, ref10_stmtsLeft_l1 l n k = some m := by
    intro r
    induction r with
    | nil => intro k n h; rw [ref10_stmtsLeft_l1, (lp_out h).1]; exact ⟨_, rfl⟩
    | cons s r ihr =>
      intro k n h
      obtain ⟨e1, e2, e3, e4, e5⟩ := lp_in h
      have hs := hl.mem e5
      have hlen := hl.len
      obtain ⟨i1, i2⟩ := ih s e5
      have tail : ∀ n : Int, ∃ m, (if decide ((s.Numbers.length : Int) > 100) = true then some (-1) else ref10_stmtsLeft s.Then n >>= fun x6 => ref10_stmtsLeft s.Else x6 >>= fun x7 => ref10_stmtsLeft_l1 l x7 (IntKind.i64.wrap ((k : Int) + 1))) = some m := fun n => by
        cases decide ((s.Numbers.length : Int) > 100) with
        | true => exact ⟨_, rfl⟩
        | false =>
          obtain ⟨a, ha⟩ := i1 hs.thens n
          obtain ⟨b, hb⟩ := i2 hs.elses a
          rw [if_neg (by simp), ha, ob, hb, ob, w1 (by omega)]
          exact ihr (k + 1) b e3
      have l2 : ∀ (q : List ApiExpr) (j : Nat) (n : Int), s.Args.drop j = q → ∃ m, ref10_stmtsLeft_l2 l s n k j = some m := by
        intro q
        induction q with
        | nil => intro j n hj; rw [ref10_stmtsLeft_l2, (lp_out hj).1, cond_false, if_neg (by simp)]; exact tail n
        | cons a q ihq =>
          intro j n hj
          obtain ⟨f1, f2, f3, f4, f5⟩ := lp_in hj
          have := hs.args
          rw [ref10_stmtsLeft_l2, f1, cond_true, f2]
          cases decide (n ≥ 0) with
          | false => rw [if_neg (by simp)]; exact tail n
          | true =>
            obtain ⟨m, hm⟩ := eleft_some a (hs.arg a f5) n
            rw [if_pos rfl, ob, hm, ob, w1 (by omega)]
            exact ihq (j + 1) m f3
      rw [ref10_stmtsLeft_l1, e1, cond_true, e2]
      cases decide (n ≥ 0) with
      | false => exact ⟨_, rfl⟩
      | true =>
        rw [if_pos rfl, ob]
        obtain ⟨a, ha⟩ := eleft_some s.Place hs.place (IntKind.i64.wrap ((IntKind.i64.wrap (n - 1)) - (IntKind.i64.wrap (Int.tdiv ((s.Name).length : Int) 16))))
        obtain ⟨b, hb⟩ := eleft_some s.Value hs.value a
        rw [ha, ob, hb, ob]
        exact l2 s.Args 0 b rfl
  rw [ref10_stmtsLeft]
  exact main l 0 n rfl
theorem dleft_some (l : List ApiDecl) : OkD l → ∀ n, ∃ m, ref10_declsLeft l n = some m := by
  induction l using ApiDecl.inds with
  | h l ih =>
  intro hl n
  have main : ∀ (r : List ApiDecl) (k : Nat) (n : Int), l.drop k = r → ∃ m, ref10_declsLeft_l1 l n k = some m := by
    intro r
    induction r with
    | nil => intro k n h; rw [ref10_declsLeft_l1, (lp_out h).1]; exact ⟨_, rfl⟩
    | cons d r ihr =>
      intro k n h
      obtain ⟨e1, e2, e3, e4, e5⟩ := lp_in h
      have hs := hl.mem e5
      have hlen := hl.len
      obtain ⟨i1, i2⟩ := ih d e5
      rw [ref10_declsLeft_l1, e1, cond_true, e2]
      cases decide (n ≥ 0) with
      | false => exact ⟨_, rfl⟩
      | true =>
        rw [if_pos rfl, ob]
        obtain ⟨a, ha⟩ := tleft_some d.TypeV hs.type (IntKind.i64.wrap ((IntKind.i64.wrap (n - 1)) - (IntKind.i64.wrap (Int.tdiv ((d.Name).length : Int) 16))))
        obtain ⟨b, hb⟩ := eleft_some d.Value hs.value a
        obtain ⟨c, hc⟩ := i1 hs.params b
        obtain ⟨e, he⟩ := i2 hs.vars c
        obtain ⟨f, hf⟩ := stleft_some d.Body hs.body e
        rw [ha, ob, hb, ob, hc, ob, he, ob, hf, ob, w1 (by omega)]
        exact ihr (k + 1) f e3
  rw [ref10_declsLeft]
  exact main l 0 n rfl
theorem fewP_some (p : ApiProgram) (h : OkP p) (n : Int) : ∃ b, ref10_Few p n = some b := by
  obtain ⟨a, ha⟩ := dleft_some p.Decls h.decls n
  obtain ⟨b, hb⟩ := stleft_some p.Body h.body a
  unfold ref10_Few
  rw [ha, ob, hb]
  exact ⟨_, rfl⟩
theorem okP_of {p : ApiProgram} (h : p.bulk ≤ 1048576) : OkP p := by
  cases p
  simp only [ApiProgram.bulk] at h
  exact ⟨by unfold OkD BB; simp only; omega, by unfold OkS BB; simp only; omega⟩
end Go.Proofs.YtmilgoloagbmpaaDoor

set_option linter.unusedSimpArgs false
set_option linter.unusedVariables false
namespace Go.Proofs.YtmilgoloagbmpaaDoor
open Go.Am

theorem eqloop {α : Type} (s u : List α) (hs : s.length ≤ BB) (hl : s.length = u.length) (p : α → α → Bool) (F : Int → Option Bool) (K : Option Bool)
    (hF : ∀ (k : Nat) x y, x ∈ s → idx s k = some x → idx u k = some y → decide ((k : Int) < (s.length : Int)) = true → F k = if p x y = true then F (IntKind.i64.wrap ((k : Int) + 1)) else some false)
    (hK : ∀ k : Nat, decide ((k : Int) < (s.length : Int)) = false → F k = K) :
    ∀ (r : List α) (k : Nat), s.drop k = r → F (k : Int) = if eqL p r (u.drop k) = true then K else some false
  | [], k, h => by
    rw [hK k (lp_out h).1, List.drop_eq_nil_of_le (by have := (lp_out h).2; omega)]; rfl
  | x :: r, k, h => by
    obtain ⟨e1, e2, e3, e4, e5⟩ := lp_in h
    obtain ⟨y, f1, f2, f3⟩ := lp_at (l := u) (k := k) (by omega)
    rw [hF k x y e5 e2 f1 e1, w1 (by omega), eqloop s u hs hl p F K hF hK r (k + 1) e3, f2, eqL]
    cases p x y <;> simp
theorem eqloop0 {α : Type} (s u : List α) (hs : s.length ≤ BB) (hl : s.length = u.length) (p : α → α → Bool) (F : Int → Option Bool) (K : Option Bool)
    (hF : ∀ (k : Nat) x y, x ∈ s → idx s k = some x → idx u k = some y → decide ((k : Int) < (s.length : Int)) = true → F k = if p x y = true then F (IntKind.i64.wrap ((k : Int) + 1)) else some false)
    (hK : ∀ k : Nat, decide ((k : Int) < (s.length : Int)) = false → F k = K) : F 0 = if eqL p s u = true then K else some false :=
  eqloop s u hs hl p F K hF hK s 0 rfl
theorem if_b (b : Bool) : (if b = true then some true else some false : Option Bool) = some b := by cases b <;> rfl

mutual
def ApiStmt.same : ApiStmt → ApiStmt → Bool
  | .mk v pl va nm ar n lo hi ns th el, t => (v == t.Verb && nm == t.Name && n == t.NV && lo == t.Low && hi == t.High) && eqL (fun x y => x == y) ns t.Numbers && pl.same t.Place && va.same t.Value && eqL ApiExpr.same ar t.Args && ApiStmt.sames th t.Then && ApiStmt.sames el t.Else
def ApiStmt.sames : List ApiStmt → List ApiStmt → Bool
  | [], [] => true
  | x :: r, y :: s => ApiStmt.same x y && ApiStmt.sames r s
  | [], _ :: _ => false
  | _ :: _, [] => false
end
theorem ApiStmt.sames_eq : ∀ l m : List ApiStmt, ApiStmt.sames l m = eqL ApiStmt.same l m
  | [], [] => rfl
  | x :: r, y :: s => by simp only [ApiStmt.sames, eqL, ApiStmt.sames_eq r s]
  | [], _ :: _ => rfl
  | _ :: _, [] => rfl
def stA (s t : ApiStmt) : Bool := s.Verb == t.Verb && s.Name == t.Name && s.NV == t.NV && s.Low == t.Low && s.High == t.High
theorem ApiStmt.same_eq (s t : ApiStmt) : s.same t = (stA s t && eqL (fun x y => x == y) s.Numbers t.Numbers && s.Place.same t.Place && s.Value.same t.Value && eqL ApiExpr.same s.Args t.Args && ApiStmt.sames s.Then t.Then && ApiStmt.sames s.Else t.Else) := by
  cases s; rfl
theorem nbo (a b : Bool) : (bif !a then true else !b) = !(a && b) := by cases a <;> rfl
theorem bif_and (a b : Bool) : (bif a then b else false) = (a && b) := by cases a <;> rfl
theorem ifd3 {α : Type} [Inhabited α] (c : Bool) (X : Option α) {a : α} (h : X = some a) : (if c = true then X else some default) = some (bif c then a else default) := by subst h; cases c <;> rfl
theorem sEqInts (s u : List Int) (hs : s.length ≤ BB) : slices_Equal_int_int s u = some (eqL (fun x y => x == y) s u) := by
  unfold slices_Equal_int_int
  by_cases hl : s.length = u.length
  · rw [if_neg (by simp; omega), eqloop0 s u hs hl (fun x y => x == y) (slices_Equal_int_int_l1 s u) (some true)
      (fun k x y _ h1 h2 h3 => by rw [slices_Equal_int_int_l1, h3, if_pos rfl, h1, ob, h2, ob]; unfold bne; cases x == y <;> simp)
      (fun k h => by rw [slices_Equal_int_int_l1, h, if_neg (by simp)]), if_b]
  · rw [if_pos (by simp; omega), eqL_len _ hl]
theorem sEqStmts_eq (l : List ApiStmt) : OkS l → ∀ m, slices_EqualFunc_api_Stmt_api_Stmt_api_Stmt_api_Stmt l m = some (ApiStmt.sames l m) := by
  induction l using ApiStmt.inds with
  | h l ih =>
  intro hl m
  rw [slices_EqualFunc_api_Stmt_api_Stmt_api_Stmt_api_Stmt, ApiStmt.sames_eq]
  by_cases hh : l.length = m.length
  · rw [if_neg (by simp; omega), eqloop0 l m hl.len hh ApiStmt.same (slices_EqualFunc_api_Stmt_api_Stmt_api_Stmt_api_Stmt_l1 l m) (some true)
      (fun k x y hx h1 h2 h3 => by
        have ho := hl.mem hx
        obtain ⟨i1, i2⟩ := ih x hx
        have he : syntax_equalStmt x y = some (x.same y) := by
          rw [syntax_equalStmt]
          simp only [bne, nbo, sEqInts _ _ ho.nums, sEqualE_eq _ ho.place, sEqualE_eq _ ho.value, sEqEs_eq _ _ ho.args (fun a ha => sEqualE_eq a (ho.arg a ha)), i1 ho.thens, i2 ho.elses, ifd3 _ _ rfl, ob, ApiStmt.same_eq]
          unfold stA
          generalize (x.Verb == y.Verb && x.Name == y.Name && x.NV == y.NV && x.Low == y.Low && x.High == y.High) = A
          generalize eqL (fun x y => x == y) x.Numbers y.Numbers = b
          generalize x.Place.same y.Place = c
          generalize x.Value.same y.Value = d
          generalize eqL ApiExpr.same x.Args y.Args = e
          generalize ApiStmt.sames x.Then y.Then = f
          generalize ApiStmt.sames x.Else y.Else = g
          cases A <;> cases b <;> cases c <;> cases d <;> cases e <;> cases f <;> cases g <;> rfl
        rw [slices_EqualFunc_api_Stmt_api_Stmt_api_Stmt_api_Stmt_l1, h3, if_pos rfl, h1, ob, h2, ob, he, ob]; cases x.same y <;> simp)
      (fun k h => by rw [slices_EqualFunc_api_Stmt_api_Stmt_api_Stmt_api_Stmt_l1, h, if_neg (by simp)]), if_b]
  · rw [if_pos (by simp; omega), eqL_len _ hh]
theorem ilen {α β : Type} (l : List α) (m : List β) : ((l.length : Int) == (m.length : Int)) = (l.length == m.length) := by
  by_cases h : l.length = m.length
  · simp [h]
  · rw [beq_eq_false_iff_ne.mpr h, beq_eq_false_iff_ne.mpr (by omega)]
theorem rEqStmts_eq (l : List ApiStmt) : OkS l → ∀ m, ref10_EqualStmts l m = some (ApiStmt.sames l m) := by
  induction l using ApiStmt.inds with
  | h l ih =>
  intro hl m
  rw [ref10_EqualStmts, ApiStmt.sames_eq]
  by_cases hh : l.length = m.length
  · rw [if_neg (by simp; omega), eqloop0 l m hl.len hh ApiStmt.same (ref10_EqualStmts_l1 l m) (some true)
      (fun k x y hx h1 h2 h3 => by
        have ho := hl.mem hx
        obtain ⟨i1, i2⟩ := ih x hx
        rw [ref10_EqualStmts_l1, h3, if_pos rfl, h1, ob, h2, ob]
        simp only [bne, nbo, ApiStmt.same_eq, ilen]
        unfold stA
        generalize (x.Verb == y.Verb && x.Name == y.Name && x.NV == y.NV && x.Low == y.Low && x.High == y.High) = A
        cases A with
        | false => simp
        | true =>
        by_cases g1 : x.Args.length = y.Args.length
        · by_cases g2 : x.Numbers.length = y.Numbers.length
          · rw [beq_iff_eq.mpr g1, beq_iff_eq.mpr g2, if_neg (by simp),
              eqloop0 x.Args y.Args ho.args g1 ApiExpr.same (ref10_EqualStmts_l2 l m x y k) (ref10_EqualStmts_l3 l m x y k 0)
                (fun j a b ha q1 q2 q3 => by rw [ref10_EqualStmts_l2, q3, if_pos rfl, q1, ob, q2, ob, rEqualE_eq a (ho.arg a ha), ob]; cases a.same b <;> simp)
                (fun j h => by rw [ref10_EqualStmts_l2, h, if_neg (by simp)]),
              eqloop0 x.Numbers y.Numbers ho.nums g2 (fun x y => x == y) (ref10_EqualStmts_l3 l m x y k) _
                (fun j a b ha q1 q2 q3 => by rw [ref10_EqualStmts_l3, q3, if_pos rfl, q1, ob, q2, ob]; unfold bne; cases a == b <;> simp)
                (fun j h => by rw [ref10_EqualStmts_l3, h, if_neg (by simp)])]
            simp only [nbo, rEqualE_eq _ ho.place, rEqualE_eq _ ho.value, i1 ho.thens, i2 ho.elses, ifd3 _ _ rfl, ob]
            generalize eqL (fun x y => x == y) x.Numbers y.Numbers = b
            generalize x.Place.same y.Place = c
            generalize x.Value.same y.Value = d
            generalize eqL ApiExpr.same x.Args y.Args = e
            generalize ApiStmt.sames x.Then y.Then = f
            generalize ApiStmt.sames x.Else y.Else = g
            cases b <;> cases c <;> cases d <;> cases e <;> cases f <;> cases g <;> rfl
          · rw [eqL_len _ g2, beq_eq_false_iff_ne.mpr g2]; simp
        · rw [eqL_len _ g1, beq_eq_false_iff_ne.mpr g1]; simp)
      (fun k h => by rw [ref10_EqualStmts_l1, h, if_neg (by simp)]), if_b]
  · rw [if_pos (by simp; omega), eqL_len _ hh]

/-! ### declarations -/
mutual
def ApiDecl.same : ApiDecl → ApiDecl → Bool
  | .mk k nm t i v ps vs bd, e => (k == e.Kind && nm == e.Name && i == e.Init) && t.same e.TypeV && v.same e.Value && ApiDecl.sames ps e.Params && ApiDecl.sames vs e.Vars && ApiStmt.sames bd e.Body
def ApiDecl.sames : List ApiDecl → List ApiDecl → Bool
  | [], [] => true
  | x :: r, y :: s => ApiDecl.same x y && ApiDecl.sames r s
  | [], _ :: _ => false
  | _ :: _, [] => false
end
theorem ApiDecl.sames_eq : ∀ l m : List ApiDecl, ApiDecl.sames l m = eqL ApiDecl.same l m
  | [], [] => rfl
  | x :: r, y :: s => by simp only [ApiDecl.sames, eqL, ApiDecl.sames_eq r s]
  | [], _ :: _ => rfl
  | _ :: _, [] => rfl
theorem ApiDecl.same_eq (s t : ApiDecl) : s.same t = ((s.Kind == t.Kind && s.Name == t.Name && s.Init == t.Init) && s.TypeV.same t.TypeV && s.Value.same t.Value && ApiDecl.sames s.Params t.Params && ApiDecl.sames s.Vars t.Vars && ApiStmt.sames s.Body t.Body) := by
  cases s; rfl
theorem sEqDecls_eq (l : List ApiDecl) : OkD l → ∀ m, slices_EqualFunc_api_Decl_api_Decl_api_Decl_api_Decl l m = some (ApiDecl.sames l m) := by
  induction l using ApiDecl.inds with
  | h l ih =>
  intro hl m
  rw [slices_EqualFunc_api_Decl_api_Decl_api_Decl_api_Decl, ApiDecl.sames_eq]
  by_cases hh : l.length = m.length
  · rw [if_neg (by simp; omega), eqloop0 l m hl.len hh ApiDecl.same (slices_EqualFunc_api_Decl_api_Decl_api_Decl_api_Decl_l1 l m) (some true)
      (fun k x y hx h1 h2 h3 => by
        have ho := hl.mem hx
        obtain ⟨i1, i2⟩ := ih x hx
        have he : syntax_equalDecl x y = some (x.same y) := by
          rw [syntax_equalDecl]
          simp only [bne, nbo, bif_and, sEqualT_eq _ ho.type, sEqualE_eq _ ho.value, i1 ho.params, i2 ho.vars, sEqStmts_eq _ ho.body, ifd3 _ _ rfl, ob, ApiDecl.same_eq]
          generalize (x.Kind == y.Kind && x.Name == y.Name && x.Init == y.Init) = A
          generalize x.TypeV.same y.TypeV = c
          generalize x.Value.same y.Value = d
          generalize ApiDecl.sames x.Params y.Params = e
          generalize ApiDecl.sames x.Vars y.Vars = f
          generalize ApiStmt.sames x.Body y.Body = g
          cases A <;> cases c <;> cases d <;> cases e <;> cases f <;> cases g <;> rfl
        rw [slices_EqualFunc_api_Decl_api_Decl_api_Decl_api_Decl_l1, h3, if_pos rfl, h1, ob, h2, ob, he, ob]; cases x.same y <;> simp)
      (fun k h => by rw [slices_EqualFunc_api_Decl_api_Decl_api_Decl_api_Decl_l1, h, if_neg (by simp)]), if_b]
  · rw [if_pos (by simp; omega), eqL_len _ hh]
theorem rEqDecls_eq (l : List ApiDecl) : OkD l → ∀ m, ref10_EqualDecls l m = some (ApiDecl.sames l m) := by
  induction l using ApiDecl.inds with
  | h l ih =>
  intro hl m
  rw [ref10_EqualDecls, ApiDecl.sames_eq]
  by_cases hh : l.length = m.length
  · rw [if_neg (by simp; omega), eqloop0 l m hl.len hh ApiDecl.same (ref10_EqualDecls_l1 l m) (some true)
      (fun k x y hx h1 h2 h3 => by
        have ho := hl.mem hx
        obtain ⟨i1, i2⟩ := ih x hx
        rw [ref10_EqualDecls_l1, h3, if_pos rfl, h1, ob, h2, ob]
        simp only [bne, nbo, bif_and, rEqual_eq _ ho.type, rEqualE_eq _ ho.value, i1 ho.params, i2 ho.vars, rEqStmts_eq _ ho.body, ifd3 _ _ rfl, ob, ApiDecl.same_eq]
        generalize (x.Kind == y.Kind && x.Name == y.Name && x.Init == y.Init) = A
        generalize x.TypeV.same y.TypeV = c
        generalize x.Value.same y.Value = d
        generalize ApiDecl.sames x.Params y.Params = e
        generalize ApiDecl.sames x.Vars y.Vars = f
        generalize ApiStmt.sames x.Body y.Body = g
        cases A <;> cases c <;> cases d <;> cases e <;> cases f <;> cases g <;> rfl)
      (fun k h => by rw [ref10_EqualDecls_l1, h, if_neg (by simp)]), if_b]
  · rw [if_pos (by simp; omega), eqL_len _ hh]
theorem sameS_refl (l : List ApiStmt) : ApiStmt.sames l l = true := by
  induction l using ApiStmt.inds with
  | h l ih =>
  rw [ApiStmt.sames_eq]
  refine eqL_refl l fun x hx => ?_
  obtain ⟨i1, i2⟩ := ih x hx
  rw [ApiStmt.same_eq, i1, i2, sameE_refl, sameE_refl, eqL_refl x.Args (fun a _ => sameE_refl a), eqL_refl x.Numbers (fun a _ => by simp)]
  simp [stA]
theorem sameD_refl (l : List ApiDecl) : ApiDecl.sames l l = true := by
  induction l using ApiDecl.inds with
  | h l ih =>
  rw [ApiDecl.sames_eq]
  refine eqL_refl l fun x hx => ?_
  obtain ⟨i1, i2⟩ := ih x hx
  rw [ApiDecl.same_eq, i1, i2, sameE_refl, same_refl, sameS_refl]
  simp
def sameP (p q : ApiProgram) : Bool := ApiDecl.sames p.Decls q.Decls && ApiStmt.sames p.Body q.Body
theorem sEqual_P (p q : ApiProgram) (h : OkP p) : syntax_Equal p q = some (sameP p q) := by
  unfold syntax_Equal
  simp only [sEqDecls_eq _ h.decls, sEqStmts_eq _ h.body, ifd3 _ _ rfl, ob, sameP]
  cases ApiDecl.sames p.Decls q.Decls <;> rfl
theorem rEqual_P (p q : ApiProgram) (h : OkP p) : ref10_Equal p q = some (sameP p q) := by
  unfold ref10_Equal
  simp only [rEqDecls_eq _ h.decls, rEqStmts_eq _ h.body, ifd3 _ _ rfl, ob, sameP]
  cases ApiDecl.sames p.Decls q.Decls <;> rfl
theorem sEqLoop (p : ApiProgram) (e : ApiExpr) (h : OkP p) : ∀ (r : List ApiStmt) (k : Nat), p.Body.drop k = r → law10_SyntaxEqual_l1 p e k = some true
  | [], k, hk => by rw [law10_SyntaxEqual_l1, (lp_out hk).1, if_neg (by simp)]
  | x :: r, k, hk => by
    obtain ⟨e1, e2, e3, e4, e5⟩ := lp_in hk
    have ho := h.body.mem e5
    have hlen := h.body.len
    rw [law10_SyntaxEqual_l1, e1, if_pos rfl, e2, ob, sEqualE_eq _ ho.value, ob, rEqualE_eq _ ho.value, ob, beq_self_eq_true, if_neg (by simp), w1 (by omega)]
    exact sEqLoop p e h r (k + 1) e3
/-- P10.4 -/
theorem SyntaxEqual_true (p q : ApiProgram) (e : ApiExpr) (bp : p.bulk ≤ 1048576) (bq : q.bulk ≤ 1048576) (he : OkE e) (hk : law10_known = some true) : law10_SyntaxEqual p q e = some true := by
  have hp := okP_of bp
  have hq := okP_of bq
  unfold law10_SyntaxEqual
  obtain ⟨a, ha⟩ := fewP_some p hp 400
  obtain ⟨b, hb⟩ := fewP_some q hq 400
  obtain ⟨c, hc⟩ := fewE_some e he 200
  rw [hk, ob, if_neg (by simp), ha, ob]
  simp only [hb, hc, ifd3 _ _ rfl, ob]
  split
  · rfl
  · have s1 : sameP p p = true := by unfold sameP; rw [sameD_refl, sameS_refl]; rfl
    simp only [sEqual_P p _ hp, rEqual_P p _ hp, sEqualE_eq e he, sameE_refl, s1, ob, beq_self_eq_true, ifd3 _ _ rfl]
    exact sEqLoop p e hp p.Body 0 rfl
end Go.Proofs.YtmilgoloagbmpaaDoor

