/-
  Expressions: the reference's checks; equality; few.
-/
import Derived.Test.YtmilgoloagbmpaaGreatDoorQeA
set_option linter.unusedSimpArgs false
set_option linter.unusedVariables false
namespace Go.Proofs.YtmilgoloagbmpaaGreatDoor
open Go.Am

theorem reNodes_l (t : ApiExpr) (ht : OkE t) (ih : ∀ x ∈ t.Kids, ref10_exprNodes x = some (x.nodes : Int)) :
    ∀ (r : List ApiExpr) (k : Nat) (n : Nat), t.Kids.drop k = r → n + ApiExpr.nodess r ≤ BB → ref10_exprNodes_l1 t (n : Int) k = some ((n + ApiExpr.nodess r : Nat) : Int)
  | [], k, n, h, hb => by rw [ref10_exprNodes_l1, (lp_out h).1, if_neg (by simp)]; simp [ApiExpr.nodess]
  | x :: r, k, n, h, hb => by
    obtain ⟨e1, e2, e3, e4, e5⟩ := lp_in h
    have := ht.kids
    simp only [ApiExpr.nodess] at hb
    have hb' := hb
    unfold BB at hb'
    rw [ref10_exprNodes_l1, e1, if_pos rfl, e2, ob, ih x e5, ob, wr (n := (n : Int) + _) (by omega) (by omega), w1 (by omega), show (n : Int) + (x.nodes : Int) = ((n + x.nodes : Nat) : Int) by omega, reNodes_l t ht ih r (k + 1) _ e3 (by omega)]
    simp only [ApiExpr.nodess, Nat.add_assoc]
theorem reNodes_eq (t : ApiExpr) : OkE t → ref10_exprNodes t = some (t.nodes : Int) := by
  induction t using ApiExpr.ind with
  | h t ih =>
  intro ht
  have hn := ht.nodes
  rw [ApiExpr.nodes_eq] at hn
  rw [ref10_exprNodes]
  have := reNodes_l t ht (fun x hx => ih x hx (ht.kid hx)) t.Kids 0 1 rfl (by omega)
  rw [ApiExpr.nodes_eq, Nat.add_comm]
  exact this
theorem reDepth_l (t : ApiExpr) (ht : OkE t) (ih : ∀ x ∈ t.Kids, ref10_exprDepth x = some (x.depth : Int)) (B : Nat) (hB : B ≤ BB) :
    ∀ (r : List ApiExpr) (k : Nat) (n : Nat), t.Kids.drop k = r → n ≤ B → ApiExpr.depths r ≤ B → ref10_exprDepth_l1 t (n : Int) k = some ((max n (ApiExpr.depths r) + 1 : Nat) : Int)
  | [], k, n, h, hb, _ => by
    rw [ref10_exprDepth_l1, (lp_out h).1, if_neg (by simp), w1 (by omega)]
    simp [ApiExpr.depths]
  | x :: r, k, n, h, hb, hd => by
    obtain ⟨e1, e2, e3, e4, e5⟩ := lp_in h
    have := ht.kids
    simp only [ApiExpr.depths] at hd
    rw [ref10_exprDepth_l1, e1, if_pos rfl, e2, ob, ih x e5, ob, w1 (by omega), reDepth_l t ht ih B hB r (k + 1) _ e3 (by omega) (by omega), reDepth_l t ht ih B hB r (k + 1) _ e3 (by omega) (by omega)]
    simp only [ApiExpr.depths]
    by_cases hx : (x.depth : Int) > (n : Int)
    · rw [if_pos (decide_eq_true hx), show max n (max x.depth (ApiExpr.depths r)) = max x.depth (ApiExpr.depths r) by omega]
    · rw [if_neg (by simpa using hx), show max n (max x.depth (ApiExpr.depths r)) = max n (ApiExpr.depths r) by omega]
theorem reDepth_eq (t : ApiExpr) : OkE t → ref10_exprDepth t = some (t.depth : Int) := by
  induction t using ApiExpr.ind with
  | h t ih =>
  intro ht
  have hn := ht.nodes
  have hd := ApiExpr.depth_nodes t
  rw [ref10_exprDepth]
  rw [ApiExpr.depth_eq] at hd
  have := reDepth_l t ht (fun x hx => ih x hx (ht.kid hx)) BB (Nat.le_refl _) t.Kids 0 0 rfl (by omega) (by omega)
  rw [ApiExpr.depth_eq]
  rw [show max 0 (ApiExpr.depths t.Kids) = ApiExpr.depths t.Kids by omega] at this
  exact this

theorem deeper_eq (n : Int) (d : Int) (m : Int) : ref10_size_deeper ⟨n, d⟩ m = some ⟨n, max d m⟩ := by
  unfold ref10_size_deeper
  by_cases h : m > d
  · rw [if_pos (decide_eq_true h), show max d m = m by omega]
  · rw [if_neg (by simpa using h), show max d m = d by omega]

theorem reForm_l (e : ApiExpr) (ht : OkE e) (ih : ∀ x ∈ e.Kids, ref10_exprForm x = some (x.all eform)) : ∀ (r : List ApiExpr) (k : Nat), e.Kids.drop k = r → ref10_exprForm_l1 e k = some (ApiExpr.alls eform r)
  | [], k, h => by rw [ref10_exprForm_l1, (lp_out h).1, if_neg (by simp)]; rfl
  | x :: r, k, h => by
    obtain ⟨e1, e2, e3, e4, e5⟩ := lp_in h
    have := ht.kids
    rw [ref10_exprForm_l1, e1, if_pos rfl, e2, ob, ih x e5, ob, w1 (by omega), reForm_l e ht ih r (k + 1) e3, ApiExpr.alls]
    cases x.all eform <;> simp
theorem reForm_eq (e : ApiExpr) : OkE e → ref10_exprForm e = some (e.all eform) := by
  induction e using ApiExpr.ind with
  | h e ih =>
  intro ht
  have h1 := reForm_l e ht (fun x hx => ih x hx (ht.kid hx)) e.Kids 0 rfl
  rw [show ((0 : Nat) : Int) = 0 from rfl] at h1
  rw [ref10_exprForm, h1, ApiExpr.all_eq, rplace_eq, kids_eq, ob]
  generalize ApiExpr.alls eform e.Kids = A
  have hb : (bif (bif (ar e.Op != (e.Kids.length : Int)) then true else (bif (e.Op != 0) then (e.NV != 0) else false)) then true else (bif (bif (e.Op != 3) then (e.Op != 4) else false) then (!(e.Name == [])) else false)) = !(ef1 e && ef2 e && ef3 e) := by
    unfold ef1 ef2 ef3
    simp only [bne]
    cases ar e.Op == (e.Kids.length : Int) <;> cases e.NV == 0 <;> cases e.Op == 0 <;> cases e.Name == [] <;> cases e.Op == 3 <;> cases e.Op == 4 <;> rfl
  rw [hb]
  unfold eform ef4
  cases (ef1 e && ef2 e && ef3 e) <;> cases (bif e.Op == 4 then true else e.Op == 5) <;> cases e.place <;> simp [ob]
theorem reNames_l (e : ApiExpr) (ht : OkE e) (ih : ∀ x ∈ e.Kids, ref10_exprNames x = some (x.all ename)) : ∀ (r : List ApiExpr) (k : Nat), e.Kids.drop k = r → ref10_exprNames_l1 e k = some (ApiExpr.alls ename r)
  | [], k, h => by rw [ref10_exprNames_l1, (lp_out h).1, if_neg (by simp)]; rfl
  | x :: r, k, h => by
    obtain ⟨e1, e2, e3, e4, e5⟩ := lp_in h
    have := ht.kids
    rw [ref10_exprNames_l1, e1, if_pos rfl, e2, ob, ih x e5, ob, w1 (by omega), reNames_l e ht ih r (k + 1) e3, ApiExpr.alls]
    cases x.all ename <;> simp
theorem reNames_eq (e : ApiExpr) : OkE e → ref10_exprNames e = some (e.all ename) := by
  induction e using ApiExpr.ind with
  | h e ih =>
  intro ht
  have h1 := reNames_l e ht (fun x hx => ih x hx (ht.kid hx)) e.Kids 0 rfl
  rw [show ((0 : Nat) : Int) = 0 from rfl] at h1
  rw [ref10_exprNames, h1, ApiExpr.all_eq, refIsName_eq e.Name ht.name]
  generalize ApiExpr.alls ename e.Kids = A
  unfold ename
  cases (bif e.Op == 3 then true else e.Op == 4) <;> cases isName e.Name <;> simp [ob]
theorem reNumbers_l (e : ApiExpr) (ht : OkE e) (ih : ∀ x ∈ e.Kids, ref10_exprNumbers x = some (x.all enumb)) : ∀ (r : List ApiExpr) (k : Nat), e.Kids.drop k = r → ref10_exprNumbers_l1 e k = some (ApiExpr.alls enumb r)
  | [], k, h => by rw [ref10_exprNumbers_l1, (lp_out h).1, if_neg (by simp)]; rfl
  | x :: r, k, h => by
    obtain ⟨e1, e2, e3, e4, e5⟩ := lp_in h
    have := ht.kids
    rw [ref10_exprNumbers_l1, e1, if_pos rfl, e2, ob, ih x e5, ob, w1 (by omega), reNumbers_l e ht ih r (k + 1) e3, ApiExpr.alls]
    cases x.all enumb <;> simp
theorem reNumbers_eq (e : ApiExpr) : OkE e → ref10_exprNumbers e = some (e.all enumb) := by
  induction e using ApiExpr.ind with
  | h e ih =>
  intro ht
  have h1 := reNumbers_l e ht (fun x hx => ih x hx (ht.kid hx)) e.Kids 0 rfl
  rw [show ((0 : Nat) : Int) = 0 from rfl] at h1
  rw [ref10_exprNumbers, h1, ApiExpr.all_eq]
  have : enumb e = !(bif (e.Op == 0) then (bif (decide (e.NV < 0)) then true else (decide (e.NV > 1048576))) else false) := by
    unfold enumb inside
    rw [lt_ge, gt_le]
    cases e.Op == 0 <;> cases decide (e.NV ≥ 0) <;> cases decide (e.NV ≤ 1048576) <;> rfl
  rw [this]
  cases (bif (e.Op == 0) then (bif (decide (e.NV < 0)) then true else (decide (e.NV > 1048576))) else false) <;> simp
theorem reAdd_used (s : Keyholeref10Size) (e : ApiExpr) (ht : OkE e) (h : -4 * (BB : Int) ≤ s.nodes ∧ s.nodes ≤ 4 * BB) : ref10_addExpr s e true = some ⟨s.nodes + e.nodes, max s.depth e.depth⟩ := by
  have hn := ht.nodes
  unfold BB at hn h
  unfold ref10_addExpr
  rw [reNodes_eq e ht, reDepth_eq e ht]
  simp only [Bool.not_true, cond_false, ob, deeper_eq]
  rw [if_neg (by simp), ob, if_neg (by simp), wr (n := s.nodes + (e.nodes : Int)) (by omega) (by omega)]
theorem rCheckExpr_eq (e : ApiExpr) (ht : OkE e) : ref10_CheckExpr e = some (checkE e) := by
  have hp : 1 ≤ e.depth := by rw [ApiExpr.depth_eq]; omega
  unfold ref10_CheckExpr checkE
  rw [reAdd_used _ e ht (by simp only; unfold BB; omega), reForm_eq e ht, reNames_eq e ht, reNumbers_eq e ht]
  simp only [ob, rVerdict_eq]
  rw [show (0 : Int) + (e.nodes : Int) = e.nodes by omega, show max (0 : Int) (e.depth : Int) = e.depth by omega]

/-! ### few -/
theorem eleft_l (e : ApiExpr) (ht : OkE e) (ih : ∀ x ∈ e.Kids, ∀ n, ∃ m, ref10_exprLeft x n = some m) : ∀ (r : List ApiExpr) (k : Nat) (n : Int), e.Kids.drop k = r → ∃ m, ref10_exprLeft_l1 e n k = some m
  | [], k, n, h => by rw [ref10_exprLeft_l1, (lp_out h).1]; exact ⟨_, rfl⟩
  | x :: r, k, n, h => by
    obtain ⟨e1, e2, e3, e4, e5⟩ := lp_in h
    have := ht.kids
    rw [ref10_exprLeft_l1, e1, e2]
    cases decide (n ≥ 0) with
    | false => exact ⟨_, rfl⟩
    | true =>
      obtain ⟨m, hm⟩ := ih x e5 n
      rw [cond_true, if_pos rfl, ob, hm, ob, w1 (by omega)]
      exact eleft_l e ht ih r (k + 1) m e3
theorem eleft_some (e : ApiExpr) : OkE e → ∀ n, ∃ m, ref10_exprLeft e n = some m := by
  induction e using ApiExpr.ind with
  | h e ih =>
  intro ht n
  rw [ref10_exprLeft]
  exact eleft_l e ht (fun x hx => ih x hx (ht.kid hx)) e.Kids 0 _ rfl
theorem fewE_some (e : ApiExpr) (ht : OkE e) (n : Int) : ∃ b, ref10_FewExpr e n = some b := by
  obtain ⟨m, hm⟩ := eleft_some e ht n
  unfold ref10_FewExpr
  rw [hm]
  exact ⟨_, rfl⟩
end Go.Proofs.YtmilgoloagbmpaaGreatDoor

