/-
  What the printed functions of types compute.
-/
import Derived.Test.YtonilfkaecbjnaaDoorPdB
set_option linter.unusedSimpArgs false
namespace Go.Proofs.YtonilfkaecbjnaaDoor
open Go.Am

mutual
def ApiType.bulk : ApiType → Nat
  | .mk _ _ _ _ n ns of => 1 + (1 + (1 + (1 + ((n.length + 1) + (((ns.map fun s => s.length + 1).sum + 1) + ((ApiType.bulks of + 1) + 0)))))) + 1
def ApiType.bulks : List ApiType → Nat
  | [] => 0
  | x :: r => ApiType.bulk x + ApiType.bulks r
end
theorem ApiType.bulk_eq (t : ApiType) : t.bulk = t.Name.length + (t.Names.map fun s => s.length + 1).sum + ApiType.bulks t.Of + 8 := by cases t; simp only [ApiType.bulk]; omega
theorem ApiType.bulk_kid {t : ApiType} : ∀ {l : List ApiType}, t ∈ l → t.bulk ≤ ApiType.bulks l
  | x :: r, h => by
    simp only [ApiType.bulks]
    cases h with
    | head => omega
    | tail _ h => have := ApiType.bulk_kid h; omega
theorem ApiType.bulk_len : ∀ l : List ApiType, l.length ≤ ApiType.bulks l
  | [] => Nat.le_refl _
  | x :: r => by
    simp only [ApiType.bulks, List.length_cons]
    have := ApiType.bulk_len r
    have := ApiType.bulk_eq x
    omega
theorem strs_kid {s : Str} : ∀ {l : List Str}, s ∈ l → s.length + 1 ≤ (l.map fun s => s.length + 1).sum
  | x :: r, h => by
    simp only [List.map_cons, List.sum_cons]
    cases h with
    | head => omega
    | tail _ h => have := strs_kid h; omega
theorem strs_sum : ∀ l : List Str, l.length ≤ (l.map fun s => s.length + 1).sum
  | [] => Nat.le_refl _
  | x :: r => by simp only [List.map_cons, List.sum_cons, List.length_cons]; have := strs_sum r; omega
mutual
theorem ApiType.nodes_bulk : ∀ t : ApiType, t.nodes ≤ t.bulk
  | .mk _ _ _ _ _ _ of => by simp only [ApiType.nodes, ApiType.bulk]; have := ApiType.nodess_bulk of; omega
theorem ApiType.nodess_bulk : ∀ l : List ApiType, ApiType.nodess l ≤ ApiType.bulks l
  | [] => Nat.le_refl _
  | x :: r => by simp only [ApiType.nodess, ApiType.bulks]; have := ApiType.nodes_bulk x; have := ApiType.nodess_bulk r; omega
end
/-- a type of bounded size -/
def Ok (t : ApiType) : Prop := t.bulk ≤ BB
theorem Ok.kid {t x : ApiType} (h : Ok t) (hx : x ∈ t.Of) : Ok x := by
  unfold Ok at *
  have := ApiType.bulk_kid hx
  have := ApiType.bulk_eq t
  omega
theorem Ok.ofs {t : ApiType} (h : Ok t) : t.Of.length ≤ BB := by
  unfold Ok at *
  have := ApiType.bulk_len t.Of
  have := ApiType.bulk_eq t
  omega
theorem Ok.names {t : ApiType} (h : Ok t) : t.Names.length ≤ BB := by
  unfold Ok at *
  have := strs_sum t.Names
  have := ApiType.bulk_eq t
  omega
theorem Ok.name1 {t : ApiType} (h : Ok t) {s : Str} (hs : s ∈ t.Names) : s.length ≤ BB := by
  unfold Ok at *
  have := strs_kid hs
  have := ApiType.bulk_eq t
  omega
theorem Ok.name {t : ApiType} (h : Ok t) : t.Name.length ≤ BB := by
  unfold Ok at *
  have := ApiType.bulk_eq t
  omega
theorem Ok.nodes {t : ApiType} (h : Ok t) : t.nodes ≤ BB := Nat.le_trans (ApiType.nodes_bulk t) h

/-! ### the program's CheckType -/
theorem bor (a b : Bool) : (bif a then true else b) = (a || b) := by cases a <;> rfl
theorem rep_deep (d : Int) (o : SyntaxReport) : syntax_report_deep d o = some ⟨o.nodes, max o.depth d, o.badForm, o.badName, o.badNumber⟩ := rfl
theorem rep_form (b : Bool) (o : SyntaxReport) : syntax_report_form b o = some ⟨o.nodes, o.depth, o.badForm || !b, o.badName, o.badNumber⟩ := by unfold syntax_report_form; rw [bor]
theorem rep_number (b : Bool) (o : SyntaxReport) : syntax_report_number b o = some ⟨o.nodes, o.depth, o.badForm, o.badName, o.badNumber || !b⟩ := by unfold syntax_report_number; rw [bor]
theorem rep_inside (a b c : Int) : syntax_inside a b c = some (inside a b c) := rfl
theorem rep_name (s : Str) (hs : s.length ≤ BB) (o : SyntaxReport) : syntax_report_name s o = some ⟨o.nodes, o.depth, o.badForm, o.badName || !isName s, o.badNumber⟩ := by
  unfold syntax_report_name
  rw [IsName_eq s hs]
  cases h : o.badName <;> simp
theorem rep_code (o : SyntaxReport) : syntax_report_code o = some (repCode o.nodes o.depth o.badForm o.badName o.badNumber) := by
  unfold syntax_report_code repCode
  cases (bif decide (o.nodes > 1024) then true else decide (o.depth > 12)) <;> cases o.badForm <;> cases o.badName <;> cases o.badNumber <;> rfl

def repT (o : SyntaxReport) (d : Int) (n m : Nat) (f a u : Bool) : SyntaxReport := ⟨o.nodes + n, max o.depth (d + m), o.badForm || !f, o.badName || !a, o.badNumber || !u⟩

theorem typ_l5 (t : ApiType) (d : Int) (hd : 0 ≤ d) (ht : Ok t)
    (ih : ∀ x ∈ t.Of, ∀ (d : Int) (o : SyntaxReport), 0 ≤ d → d + x.nodes ≤ 4 * BB → 0 ≤ o.nodes → o.nodes + x.nodes ≤ 4 * BB → syntax_report_typ x d o = some (repT o d x.nodes (x.depth - 1) (x.all formN) (x.all nameN) (x.all numN))) :
    ∀ (r : List ApiType) (k : Nat) (o : SyntaxReport), t.Of.drop k = r → (∀ x ∈ r, x ∈ t.Of) → d + 1 + ApiType.nodess r ≤ 4 * BB → 0 ≤ o.nodes → o.nodes + ApiType.nodess r ≤ 4 * BB → d ≤ o.depth →
      syntax_report_typ_l5 t d o k = some (repT o d (ApiType.nodess r) (ApiType.depths r) (ApiType.alls formN r) (ApiType.alls nameN r) (ApiType.alls numN r))
  | [], k, o, h, _, _, _, _, h5 => by
    rw [syntax_report_typ_l5, (lp_out h).1]
    simp only [repT, ApiType.nodess, ApiType.depths, ApiType.alls, Bool.not_true, Bool.or_false]
    rw [if_neg (by simp), show o.nodes + ((0 : Nat) : Int) = o.nodes by omega, show max o.depth (d + ((0 : Nat) : Int)) = o.depth by omega]
  | x :: r, k, o, h, hm, hb, h3, h4, h5 => by
    obtain ⟨e1, e2, e3, e4, e5⟩ := lp_in h
    simp only [ApiType.nodess] at hb h4
    have hdp : 1 ≤ x.depth := by rw [ApiType.depth_eq]; omega
    have hof := ht.ofs
    unfold BB at hb h4 hof
    rw [syntax_report_typ_l5, e1, if_pos rfl, e2, ob, wr (n := d + 1) (by omega) (by omega), ih x e5 (d + 1) o (by omega) (by unfold BB; omega) h3 (by unfold BB; omega), ob, w1 (by unfold BB; omega),
      typ_l5 t d hd ht ih r (k + 1) _ e3 (fun y hy => hm y (List.mem_cons_of_mem _ hy)) (by unfold BB; omega) (by simp only [repT]; omega) (by simp only [repT]; unfold BB; omega) (by simp only [repT]; omega)]
    simp only [repT, ApiType.nodess, ApiType.depths, ApiType.alls, or_not]
    rw [show o.nodes + (x.nodes : Int) + (ApiType.nodess r : Nat) = o.nodes + ((x.nodes + ApiType.nodess r : Nat) : Int) by omega,
      show max (max o.depth (d + 1 + ((x.depth - 1 : Nat) : Int))) (d + (ApiType.depths r : Nat)) = max o.depth (d + ((max x.depth (ApiType.depths r) : Nat) : Int)) by omega]

theorem typ_l4 (t : ApiType) (d : Int) (ht : Ok t) (R : SyntaxReport → Option SyntaxReport) (hR : ∀ o, syntax_report_typ_l5 t d o 0 = R o) :
    ∀ (r : List Str) (k : Nat) (o : SyntaxReport), t.Names.drop k = r → syntax_report_typ_l4 t d o k = R ⟨o.nodes, o.depth, o.badForm, o.badName || !r.all isName, o.badNumber⟩
  | [], k, o, h => by
    rw [syntax_report_typ_l4, (lp_out h).1, if_neg (by simp), hR]
    simp
  | x :: r, k, o, h => by
    obtain ⟨e1, e2, e3, e4, e5⟩ := lp_in h
    have := ht.names
    rw [syntax_report_typ_l4, e1, if_pos rfl, e2, ob, rep_name x (ht.name1 e5), ob, w1 (by omega), typ_l4 t d ht R hR r (k + 1) _ e3]
    simp only [List.all_cons, or_not]

theorem typ_j2 (t : ApiType) (d : Int) (ht : Ok t) (o : SyntaxReport) : syntax_report_typ_j2 t d o = syntax_report_typ_l4 t d ⟨o.nodes, o.depth, o.badForm, o.badName || !na1 t, o.badNumber⟩ 0 := by
  rw [syntax_report_typ_j2, rep_name _ ht.name, ob, syntax_report_typ_j3, syntax_report_typ_j3]
  unfold na1
  cases h : t.Kind == 4 <;> simp
theorem typ_j1 (t : ApiType) (d : Int) (o : SyntaxReport) : syntax_report_typ_j1 t d o = syntax_report_typ_j2 t d ⟨o.nodes, o.depth, o.badForm, o.badName, o.badNumber || !nm2 t⟩ := by
  rw [syntax_report_typ_j1]
  unfold nm2
  simp only [rep_inside, rep_number, ob]
  cases h : t.Kind == 1 <;> cases inside t.Low (-1048576) 1048576 <;> simp [ob]

theorem typ_eq (t : ApiType) : Ok t → ∀ (d : Int) (o : SyntaxReport), 0 ≤ d → d + t.nodes ≤ 4 * BB → 0 ≤ o.nodes → o.nodes + t.nodes ≤ 4 * BB →
    syntax_report_typ t d o = some (repT o d t.nodes (t.depth - 1) (t.all formN) (t.all nameN) (t.all numN)) := by
  induction t using ApiType.ind with
  | h t ih =>
  intro ht d o hd hb h3 h4
  have h5 := fun o h3 h4 hd' => typ_l5 t d hd ht (fun x hx => ih x hx (ht.kid hx)) t.Of 0 o rfl (fun _ h => h) (by rw [ApiType.nodes_eq] at hb; omega) h3 h4 hd'
  have l4 := typ_l4 t d ht _ (fun o => rfl) t.Names 0
  rw [ApiType.nodes_eq] at hb h4
  unfold BB at hb h4
  rw [syntax_report_typ]
  simp only [rep_deep, rep_form, rep_inside, rep_number, ob, typ_j1, typ_j2 t d ht]
  rw [wr (n := o.nodes + 1) (by omega) (by omega)]
  have fin : ∀ b6 u1, fm6 t = b6 → nm1 t = u1 →
      syntax_report_typ_l4 t d ⟨o.nodes + 1, max o.depth d, (((((o.badForm || !fm1 t) || !fm2 t) || !fm3 t) || !fm4 t) || !fm5 t) || !b6, o.badName || !na1 t, (o.badNumber || !u1) || !nm2 t⟩ 0
        = some (repT o d t.nodes (t.depth - 1) (t.all formN) (t.all nameN) (t.all numN)) := by
    rintro _ _ rfl rfl
    have := l4 ⟨o.nodes + 1, max o.depth d, (((((o.badForm || !fm1 t) || !fm2 t) || !fm3 t) || !fm4 t) || !fm5 t) || !fm6 t, o.badName || !na1 t, (o.badNumber || !nm1 t) || !nm2 t⟩ rfl
    rw [show ((0 : Nat) : Int) = 0 from rfl] at this h5
    rw [this, h5 _ (by simp only; omega) (by simp only; unfold BB; omega) (by simp only; omega)]
    simp only [repT, ApiType.all_eq, ApiType.nodes_eq, ApiType.depth_eq, formN, nameN, numN, or_not, Bool.or_assoc, ← Bool.not_and]
    simp only [or_not, Bool.and_assoc]
    rw [show o.nodes + 1 + (ApiType.nodess t.Of : Int) = o.nodes + ((ApiType.nodess t.Of + 1 : Nat) : Int) by omega, show max (max o.depth d) (d + (ApiType.depths t.Of : Int)) = max o.depth (d + ((ApiType.depths t.Of + 1 - 1 : Nat) : Int)) by omega]
  have h2 : (t.Kind == 2) = true ∨ (t.Kind == 2) = false := by cases t.Kind == 2 <;> simp
  have h3 : (t.Kind == 3) = true ∨ (t.Kind == 3) = false := by cases t.Kind == 3 <;> simp
  rcases h2 with h2 | h2
  · rw [if_pos h2]
    exact fin ((t.Of.length : Int) == 1) (inside t.Size 1 32) (by unfold fm6; rw [h2, cond_true]) (by unfold nm1; rw [h2, cond_true])
  · rw [if_neg (by rw [h2]; simp)]
    rcases h3 with h3 | h3
    · rw [if_pos h3]
      exact fin (bif decide ((t.Of.length : Int) ≥ 1) then (t.Of.length : Int) == (t.Names.length : Int) else false) (decide ((t.Of.length : Int) ≤ 32)) (by unfold fm6; rw [h2, h3, cond_false, cond_true]) (by unfold nm1; rw [h2, h3, cond_false, cond_true])
    · rw [if_neg (by rw [h3]; simp)]
      have := fin ((t.Of.length : Int) == 0) true (by unfold fm6; rw [h2, h3, cond_false, cond_false]) (by unfold nm1; rw [h2, h3, cond_false, cond_false])
      rw [Bool.not_true, Bool.or_false] at this
      exact this

theorem CheckType_eq (t : ApiType) (ht : Ok t) : syntax_CheckType t = some (checkT t) := by
  have hn := ht.nodes
  unfold BB at hn
  have hp : 1 ≤ t.depth := by rw [ApiType.depth_eq]; omega
  unfold syntax_CheckType
  rw [typ_eq t ht 1 _ (by omega) (by unfold BB; omega) (by simp) (by simp only; unfold BB; omega), ob, rep_code, ob]
  unfold repT checkT
  simp only [Bool.false_or]
  rw [show (0 : Int) + (t.nodes : Int) = t.nodes by omega, show max 0 ((1 : Int) + ((t.depth - 1 : Nat) : Int)) = t.depth by omega]
end Go.Proofs.YtonilfkaecbjnaaDoor

