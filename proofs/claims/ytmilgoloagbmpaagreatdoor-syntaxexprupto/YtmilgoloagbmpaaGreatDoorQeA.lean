/-
  Expressions: nodes, depth, what one node is asked, texts.
-/
import Derived.Test.YtmilgoloagbmpaaGreatDoorPdD
set_option linter.unusedSimpArgs false
set_option linter.unusedVariables false
namespace Go.Proofs.YtmilgoloagbmpaaGreatDoor
open Go.Am

theorem ApiExpr.ind {P : ApiExpr → Prop} (h : ∀ t : ApiExpr, (∀ x ∈ t.Kids, P x) → P t) : ∀ t, P t := by
  intro t
  refine ApiExpr.rec (motive_1 := P) (motive_2 := fun l => ∀ x ∈ l, P x) ?_ ?_ ?_ t
  · intro k l n of ih
    exact h _ ih
  · intro x hx; cases hx
  · intro x r hx hr y hy
    cases hy with
    | head => exact hx
    | tail _ hy => exact hr y hy

mutual
def ApiExpr.depth : ApiExpr → Nat
  | .mk _ _ _ of => ApiExpr.depths of + 1
def ApiExpr.depths : List ApiExpr → Nat
  | [] => 0
  | t :: r => max (ApiExpr.depth t) (ApiExpr.depths r)
end
theorem ApiExpr.depth_eq (t : ApiExpr) : t.depth = ApiExpr.depths t.Kids + 1 := by cases t; simp [ApiExpr.depth, ApiExpr.Kids]
mutual
/-- every node meets p -/
def ApiExpr.all (p : ApiExpr → Bool) : ApiExpr → Bool
  | .mk k l n of => p (.mk k l n of) && ApiExpr.alls p of
def ApiExpr.alls (p : ApiExpr → Bool) : List ApiExpr → Bool
  | [] => true
  | t :: r => ApiExpr.all p t && ApiExpr.alls p r
end
theorem ApiExpr.all_eq (p : ApiExpr → Bool) (t : ApiExpr) : t.all p = (p t && ApiExpr.alls p t.Kids) := by cases t; rfl
mutual
def ApiExpr.nodes : ApiExpr → Nat
  | .mk _ _ _ of => ApiExpr.nodess of + 1
def ApiExpr.nodess : List ApiExpr → Nat
  | [] => 0
  | t :: r => ApiExpr.nodes t + ApiExpr.nodess r
end
theorem ApiExpr.nodes_eq (t : ApiExpr) : t.nodes = ApiExpr.nodess t.Kids + 1 := by cases t; rfl
mutual
theorem ApiExpr.depth_nodes : ∀ t : ApiExpr, t.depth ≤ t.nodes
  | .mk _ _ _ of => by simp only [ApiExpr.depth, ApiExpr.nodes]; have := ApiExpr.depths_nodess of; omega
theorem ApiExpr.depths_nodess : ∀ l : List ApiExpr, ApiExpr.depths l ≤ ApiExpr.nodess l
  | [] => Nat.le_refl _
  | t :: r => by simp only [ApiExpr.depths, ApiExpr.nodess]; have := ApiExpr.depth_nodes t; have := ApiExpr.depths_nodess r; omega
end

mutual
def ApiExpr.bulk : ApiExpr → Nat
  | .mk _ _ n ks => 1 + (1 + ((n.length + 1) + ((ApiExpr.bulks ks + 1) + 0))) + 1
def ApiExpr.bulks : List ApiExpr → Nat
  | [] => 0
  | x :: r => ApiExpr.bulk x + ApiExpr.bulks r
end
theorem ApiExpr.bulk_eq (t : ApiExpr) : t.bulk = t.Name.length + ApiExpr.bulks t.Kids + 5 := by cases t; simp only [ApiExpr.bulk]; omega
theorem ApiExpr.bulk_kid {t : ApiExpr} : ∀ {l : List ApiExpr}, t ∈ l → t.bulk ≤ ApiExpr.bulks l
  | x :: r, h => by
    simp only [ApiExpr.bulks]
    cases h with
    | head => omega
    | tail _ h => have := ApiExpr.bulk_kid h; omega
theorem ApiExpr.bulk_len : ∀ l : List ApiExpr, l.length ≤ ApiExpr.bulks l
  | [] => Nat.le_refl _
  | x :: r => by
    simp only [ApiExpr.bulks, List.length_cons]
    have := ApiExpr.bulk_len r
    have := ApiExpr.bulk_eq x
    omega
mutual
theorem ApiExpr.nodes_bulk : ∀ t : ApiExpr, t.nodes ≤ t.bulk
  | .mk _ _ _ of => by simp only [ApiExpr.nodes, ApiExpr.bulk]; have := ApiExpr.nodess_bulk of; omega
theorem ApiExpr.nodess_bulk : ∀ l : List ApiExpr, ApiExpr.nodess l ≤ ApiExpr.bulks l
  | [] => Nat.le_refl _
  | x :: r => by simp only [ApiExpr.nodess, ApiExpr.bulks]; have := ApiExpr.nodes_bulk x; have := ApiExpr.nodess_bulk r; omega
end
/-- an expression of bounded size -/
def OkE (t : ApiExpr) : Prop := t.bulk ≤ BB
theorem OkE.kid {t x : ApiExpr} (h : OkE t) (hx : x ∈ t.Kids) : OkE x := by
  unfold OkE at *
  have := ApiExpr.bulk_kid hx
  have := ApiExpr.bulk_eq t
  omega
theorem OkE.kids {t : ApiExpr} (h : OkE t) : t.Kids.length ≤ BB := by
  unfold OkE at *
  have := ApiExpr.bulk_len t.Kids
  have := ApiExpr.bulk_eq t
  omega
theorem OkE.name {t : ApiExpr} (h : OkE t) : t.Name.length ≤ BB := by
  unfold OkE at *
  have := ApiExpr.bulk_eq t
  omega
theorem OkE.nodes {t : ApiExpr} (h : OkE t) : t.nodes ≤ BB := Nat.le_trans (ApiExpr.nodes_bulk t) h
theorem ApiExpr.alls_mem {p : ApiExpr → Bool} : ∀ {l : List ApiExpr} {t : ApiExpr}, ApiExpr.alls p l = true → t ∈ l → t.all p = true
  | x :: r, t, h, hm => by
    simp only [ApiExpr.alls, Bool.and_eq_true] at h
    cases hm with
    | head => exact h.1
    | tail _ hm => exact ApiExpr.alls_mem h.2 hm

/-! ### what one node is asked -/
def ar (o : Int) : Int :=
  bif (bif (bif (bif (o == 0) then true else (o == 1)) then true else (o == 2)) then true else (o == 3)) then 0
  else bif (bif (bif (o == 4) then true else (o == 6)) then true else (o == 7)) then 1
  else bif (bif (o == 5) then true else (bif (decide (o ≥ 8)) then (decide (o ≤ 22)) else false)) then 2
  else bif (o == 23) then 3 else -1
theorem kids_eq (o : Int) : ref10_kids o = some (ar o) := by
  unfold ref10_kids ar
  cases (bif (bif (bif (o == 0) then true else (o == 1)) then true else (o == 2)) then true else (o == 3)) <;> cases (bif (bif (o == 4) then true else (o == 6)) then true else (o == 7)) <;>
    cases (bif (o == 5) then true else (bif (decide (o ≥ 8)) then (decide (o ≤ 22)) else false)) <;> cases o == 23 <;> rfl
theorem arity_eq (o : Int) : syntax_arity o = some (ar o) := by
  by_cases h : o = 23
  · subst h; rfl
  have h' : (o == 23) = false := beq_eq_false_iff_ne.2 h
  simp only [syntax_arity, syntax_arity_j1, syntax_arity_j2, ar, h']
  cases o == 0 <;> cases o == 1 <;> cases o == 2 <;> cases o == 3 <;> first | rfl | skip
  cases o == 4 <;> cases o == 6 <;> cases o == 7 <;> first | rfl | skip
  cases o == 5 <;> cases (bif decide (o ≥ 8) then decide (o ≤ 22) else false) <;> rfl

mutual
def ApiExpr.place : ApiExpr → Bool
  | .mk op _ _ ks => bif op == 3 then true else bif (bif op == 4 then true else op == 5) then ApiExpr.place1 ks else false
def ApiExpr.place1 : List ApiExpr → Bool
  | [] => false
  | x :: _ => ApiExpr.place x
end
theorem ApiExpr.place_eq (e : ApiExpr) : e.place = (bif e.Op == 3 then true else bif (bif e.Op == 4 then true else e.Op == 5) then ApiExpr.place1 e.Kids else false) := by cases e; simp only [ApiExpr.place]
theorem b3 {o : Int} (h : (bif o == 4 then true else o == 5) = true) : (o == 3) = false := by
  apply beq_eq_false_iff_ne.2
  rintro rfl
  cases h
theorem splace_eq (e : ApiExpr) : syntax_place e = some e.place := by
  unfold syntax_place
  induction e using ApiExpr.ind with
  | h e ih =>
  rw [syntax_place_l1, ApiExpr.place_eq]
  cases hb : (bif e.Op == 4 then true else e.Op == 5) with
  | false => cases e.Op == 3 <;> simp
  | true =>
    rw [b3 hb]
    cases hk : e.Kids with
    | nil => rfl
    | cons k r =>
      have := ih k (by rw [hk]; simp)
      have h0 : idx (k :: r) 0 = some k := rfl
      have h1 : (((k :: r).length : Int) == 0) = false := beq_eq_false_iff_ne.2 (by simp only [List.length_cons]; omega)
      simp only [h1, h0, ob, this, cond_true, cond_false, ApiExpr.place1]
      simp
theorem rplace_eq (e : ApiExpr) : ref10_isPlace e = some e.place := by
  induction e using ApiExpr.ind with
  | h e ih =>
  rw [ref10_isPlace, ApiExpr.place_eq]
  cases h3 : e.Op == 3 with
  | true => simp
  | false =>
    cases hb : (bif e.Op == 4 then true else e.Op == 5) with
    | false => simp [ob]
    | true =>
      cases hk : e.Kids with
      | nil => simp [ob, ApiExpr.place1]
      | cons k r =>
        have := ih k (by rw [hk]; simp)
        have h0 : idx (k :: r) 0 = some k := rfl
        have h1 : decide (((k :: r).length : Int) > 0) = true := decide_eq_true (by simp only [List.length_cons]; omega)
        simp only [h1, h0, ob, cond_true, cond_false, ApiExpr.place1]
        simp [ob, this]

def ef1 (e : ApiExpr) : Bool := ar e.Op == (e.Kids.length : Int)
def ef2 (e : ApiExpr) : Bool := bif e.NV == 0 then true else e.Op == 0
def ef3 (e : ApiExpr) : Bool := bif e.Name == [] then true else bif e.Op == 3 then true else e.Op == 4
def ef4 (e : ApiExpr) : Bool := bif (bif e.Op == 4 then true else e.Op == 5) then e.place else true
def eform (e : ApiExpr) : Bool := ef1 e && ef2 e && ef3 e && ef4 e
def ename (e : ApiExpr) : Bool := bif (bif e.Op == 3 then true else e.Op == 4) then isName e.Name else true
def enumb (e : ApiExpr) : Bool := bif e.Op == 0 then inside e.NV 0 1048576 else true
def checkE (e : ApiExpr) : Int := repCode e.nodes e.depth (!e.all eform) (!e.all ename) (!e.all enumb)

/-! ### the program's -/
theorem rexpr_l (e : ApiExpr) (d : Int) (hd : 0 ≤ d) (ht : OkE e)
    (ih : ∀ x ∈ e.Kids, ∀ (d : Int) (o : SyntaxReport), 0 ≤ d → d + x.nodes ≤ 4 * BB → 0 ≤ o.nodes → o.nodes + x.nodes ≤ 4 * BB → syntax_report_expr x d o = some (repT o d x.nodes (x.depth - 1) (x.all eform) (x.all ename) (x.all enumb))) :
    ∀ (r : List ApiExpr) (k : Nat) (o : SyntaxReport), e.Kids.drop k = r → d + 1 + ApiExpr.nodess r ≤ 4 * BB → 0 ≤ o.nodes → o.nodes + ApiExpr.nodess r ≤ 4 * BB → d ≤ o.depth →
      syntax_report_expr_l4 e d o k = some (repT o d (ApiExpr.nodess r) (ApiExpr.depths r) (ApiExpr.alls eform r) (ApiExpr.alls ename r) (ApiExpr.alls enumb r))
  | [], k, o, h, _, _, _, h5 => by
    rw [syntax_report_expr_l4, (lp_out h).1]
    simp only [repT, ApiExpr.nodess, ApiExpr.depths, ApiExpr.alls, Bool.not_true, Bool.or_false]
    rw [if_neg (by simp), show o.nodes + ((0 : Nat) : Int) = o.nodes by omega, show max o.depth (d + ((0 : Nat) : Int)) = o.depth by omega]
  | x :: r, k, o, h, hb, h3, h4, h5 => by
    obtain ⟨e1, e2, e3, e4, e5⟩ := lp_in h
    simp only [ApiExpr.nodess] at hb h4
    have hdp : 1 ≤ x.depth := by rw [ApiExpr.depth_eq]; omega
    have hof := ht.kids
    unfold BB at hb h4 hof
    rw [syntax_report_expr_l4, e1, if_pos rfl, e2, ob, wr (n := d + 1) (by omega) (by omega), ih x e5 (d + 1) o (by omega) (by unfold BB; omega) h3 (by unfold BB; omega), ob, w1 (by unfold BB; omega),
      rexpr_l e d hd ht ih r (k + 1) _ e3 (by unfold BB; omega) (by simp only [repT]; omega) (by simp only [repT]; unfold BB; omega) (by simp only [repT]; omega)]
    simp only [repT, ApiExpr.nodess, ApiExpr.depths, ApiExpr.alls, or_not]
    rw [show o.nodes + (x.nodes : Int) + (ApiExpr.nodess r : Nat) = o.nodes + ((x.nodes + ApiExpr.nodess r : Nat) : Int) by omega,
      show max (max o.depth (d + 1 + ((x.depth - 1 : Nat) : Int))) (d + (ApiExpr.depths r : Nat)) = max o.depth (d + ((max x.depth (ApiExpr.depths r) : Nat) : Int)) by omega]
theorem rexpr_j1 (e : ApiExpr) (ht : OkE e) (d : Int) (o : SyntaxReport) : syntax_report_expr_j1 e d o = syntax_report_expr_l4 e d ⟨o.nodes, o.depth, o.badForm, o.badName || !ename e, o.badNumber || !enumb e⟩ 0 := by
  rw [syntax_report_expr_j1, rep_name _ ht.name, ob]
  simp only [syntax_report_expr_j2, syntax_report_expr_j3, rep_inside, rep_number, ob]
  unfold ename enumb
  cases (bif e.Op == 3 then true else e.Op == 4) <;> cases e.Op == 0 <;> simp

theorem rexpr_eq (e : ApiExpr) : OkE e → ∀ (d : Int) (o : SyntaxReport), 0 ≤ d → d + e.nodes ≤ 4 * BB → 0 ≤ o.nodes → o.nodes + e.nodes ≤ 4 * BB →
    syntax_report_expr e d o = some (repT o d e.nodes (e.depth - 1) (e.all eform) (e.all ename) (e.all enumb)) := by
  induction e using ApiExpr.ind with
  | h e ih =>
  intro ht d o hd hb h3 h4
  have h5 := fun o h3 h4 hd' => rexpr_l e d hd ht (fun x hx => ih x hx (ht.kid hx)) e.Kids 0 o rfl (by rw [ApiExpr.nodes_eq] at hb; omega) h3 h4 hd'
  rw [ApiExpr.nodes_eq] at hb h4
  unfold BB at hb h4
  rw [syntax_report_expr]
  simp only [rep_deep, rep_form, arity_eq, splace_eq, ob, rexpr_j1 e ht]
  rw [wr (n := o.nodes + 1) (by omega) (by omega)]
  rw [show ((0 : Nat) : Int) = 0 from rfl] at h5
  have fin : ∀ f : Bool, ef4 e = f → syntax_report_expr_l4 e d ⟨o.nodes + 1, max o.depth d, (((o.badForm || !ef1 e) || !ef2 e) || !ef3 e) || !f, o.badName || !ename e, o.badNumber || !enumb e⟩ 0 = some (repT o d e.nodes (e.depth - 1) (e.all eform) (e.all ename) (e.all enumb)) := by
    rintro _ rfl
    rw [h5 _ (by simp only; omega) (by simp only; unfold BB; omega) (by simp only; omega)]
    simp only [repT, ApiExpr.all_eq, ApiExpr.nodes_eq, ApiExpr.depth_eq, eform, or_not, Bool.or_assoc, ← Bool.not_and]
    simp only [or_not, Bool.and_assoc]
    rw [show o.nodes + 1 + (ApiExpr.nodess e.Kids : Int) = o.nodes + ((ApiExpr.nodess e.Kids + 1 : Nat) : Int) by omega, show max (max o.depth d) (d + (ApiExpr.depths e.Kids : Int)) = max o.depth (d + ((ApiExpr.depths e.Kids + 1 - 1 : Nat) : Int)) by omega]
  cases hb : (bif e.Op == 4 then true else e.Op == 5) with
  | true =>
    rw [if_pos rfl]
    exact fin e.place (by unfold ef4; rw [hb]; rfl)
  | false =>
    rw [if_neg (by simp)]
    have := fin true (by unfold ef4; rw [hb]; rfl)
    rw [Bool.not_true, Bool.or_false] at this
    exact this
theorem CheckExpr_eq (e : ApiExpr) (ht : OkE e) : syntax_CheckExpr e = some (checkE e) := by
  have hn := ht.nodes
  unfold BB at hn
  have hp : 1 ≤ e.depth := by rw [ApiExpr.depth_eq]; omega
  unfold syntax_CheckExpr
  rw [rexpr_eq e ht 1 _ (by omega) (by unfold BB; omega) (by simp) (by simp only; unfold BB; omega), ob, rep_code, ob]
  unfold repT checkE
  simp only [Bool.false_or]
  rw [show (0 : Int) + (e.nodes : Int) = e.nodes by omega, show max 0 ((1 : Int) + ((e.depth - 1 : Nat) : Int)) = e.depth by omega]
end Go.Proofs.YtmilgoloagbmpaaGreatDoor

