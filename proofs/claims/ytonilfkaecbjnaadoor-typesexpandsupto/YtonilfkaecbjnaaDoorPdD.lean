/-
  The reference's CheckType; named, doubled, count, Check, Equal on both sides; left and few.
-/
import Derived.Test.YtonilfkaecbjnaaDoorPdC
set_option linter.unusedSimpArgs false
namespace Go.Proofs.YtonilfkaecbjnaaDoor
open Go.Am

/-! ### the reference's CheckType -/
theorem rNodes_l (t : ApiType) (ht : Ok t) (ih : ∀ x ∈ t.Of, ref10_typeNodes x = some (x.nodes : Int)) :
    ∀ (r : List ApiType) (k : Nat) (n : Nat), t.Of.drop k = r → n + ApiType.nodess r ≤ BB → ref10_typeNodes_l1 t (n : Int) k = some ((n + ApiType.nodess r : Nat) : Int)
  | [], k, n, h, hb => by rw [ref10_typeNodes_l1, (lp_out h).1, if_neg (by simp)]; simp [ApiType.nodess]
  | x :: r, k, n, h, hb => by
    obtain ⟨e1, e2, e3, e4, e5⟩ := lp_in h
    have := ht.ofs
    simp only [ApiType.nodess] at hb
    have hb' := hb
    unfold BB at hb'
    rw [ref10_typeNodes_l1, e1, if_pos rfl, e2, ob, ih x e5, ob, wr (n := (n : Int) + _) (by omega) (by omega), w1 (by omega), show (n : Int) + (x.nodes : Int) = ((n + x.nodes : Nat) : Int) by omega, rNodes_l t ht ih r (k + 1) _ e3 (by omega)]
    simp only [ApiType.nodess, Nat.add_assoc]
theorem rNodes_eq (t : ApiType) : Ok t → ref10_typeNodes t = some (t.nodes : Int) := by
  induction t using ApiType.ind with
  | h t ih =>
  intro ht
  have hn := ht.nodes
  rw [ApiType.nodes_eq] at hn
  rw [ref10_typeNodes]
  have := rNodes_l t ht (fun x hx => ih x hx (ht.kid hx)) t.Of 0 1 rfl (by omega)
  rw [ApiType.nodes_eq, Nat.add_comm]
  exact this
theorem rDepth_l (t : ApiType) (ht : Ok t) (ih : ∀ x ∈ t.Of, ref10_typeDepth x = some (x.depth : Int)) (B : Nat) (hB : B ≤ BB) :
    ∀ (r : List ApiType) (k : Nat) (n : Nat), t.Of.drop k = r → n ≤ B → ApiType.depths r ≤ B → ref10_typeDepth_l1 t (n : Int) k = some ((max n (ApiType.depths r) + 1 : Nat) : Int)
  | [], k, n, h, hb, _ => by
    rw [ref10_typeDepth_l1, (lp_out h).1, if_neg (by simp), w1 (by omega)]
    simp [ApiType.depths]
  | x :: r, k, n, h, hb, hd => by
    obtain ⟨e1, e2, e3, e4, e5⟩ := lp_in h
    have := ht.ofs
    simp only [ApiType.depths] at hd
    rw [ref10_typeDepth_l1, e1, if_pos rfl, e2, ob, ih x e5, ob, w1 (by omega), rDepth_l t ht ih B hB r (k + 1) _ e3 (by omega) (by omega), rDepth_l t ht ih B hB r (k + 1) _ e3 (by omega) (by omega)]
    simp only [ApiType.depths]
    by_cases hx : (x.depth : Int) > (n : Int)
    · rw [if_pos (decide_eq_true hx), show max n (max x.depth (ApiType.depths r)) = max x.depth (ApiType.depths r) by omega]
    · rw [if_neg (by simpa using hx), show max n (max x.depth (ApiType.depths r)) = max n (ApiType.depths r) by omega]
theorem rDepth_eq (t : ApiType) : Ok t → ref10_typeDepth t = some (t.depth : Int) := by
  induction t using ApiType.ind with
  | h t ih =>
  intro ht
  have hn := ht.nodes
  have hd := ApiType.depth_nodes t
  rw [ref10_typeDepth]
  rw [ApiType.depth_eq] at hd
  have := rDepth_l t ht (fun x hx => ih x hx (ht.kid hx)) BB (Nat.le_refl _) t.Of 0 0 rfl (by omega) (by omega)
  rw [ApiType.depth_eq]
  rw [show max 0 (ApiType.depths t.Of) = ApiType.depths t.Of by omega] at this
  exact this
theorem rAdd_eq (t : ApiType) (ht : Ok t) : ref10_addType ⟨0, 0⟩ t true = some ⟨t.nodes, t.depth⟩ := by
  have hn := ht.nodes
  unfold BB at hn
  have hp : 1 ≤ t.depth := by rw [ApiType.depth_eq]; omega
  unfold ref10_addType
  rw [rNodes_eq t ht, rDepth_eq t ht]
  simp only [Bool.not_true, cond_false, ob, ref10_size_deeper]
  rw [if_neg (by simp), ob, if_neg (by simp), wr (n := (0 : Int) + (t.nodes : Int)) (by omega) (by omega), if_pos (decide_eq_true (by omega)), ob]
  rw [show (0 : Int) + (t.nodes : Int) = t.nodes by omega]

theorem rForm_l (t : ApiType) (ht : Ok t) (ih : ∀ x ∈ t.Of, ref10_typeForm x = some (x.all formN)) : ∀ (r : List ApiType) (k : Nat), t.Of.drop k = r → ref10_typeForm_l1 t k = some (ApiType.alls formN r)
  | [], k, h => by rw [ref10_typeForm_l1, (lp_out h).1, if_neg (by simp)]; rfl
  | x :: r, k, h => by
    obtain ⟨e1, e2, e3, e4, e5⟩ := lp_in h
    have := ht.ofs
    rw [ref10_typeForm_l1, e1, if_pos rfl, e2, ob, ih x e5, ob, w1 (by omega), rForm_l t ht ih r (k + 1) e3, ApiType.alls]
    cases x.all formN <;> simp
theorem rForm_eq (t : ApiType) : Ok t → ref10_typeForm t = some (t.all formN) := by
  induction t using ApiType.ind with
  | h t ih =>
  intro ht
  have h1 := rForm_l t ht (fun x hx => ih x hx (ht.kid hx)) t.Of 0 rfl
  rw [show ((0 : Nat) : Int) = 0 from rfl] at h1
  rw [ref10_typeForm, h1, ApiType.all_eq, formN_eq]
  show (if bad0 t = true then some false else if bad1 t = true then some false else if bad2 t = true then some false else some (ApiType.alls formN t.Of)) = _
  cases bad0 t <;> cases bad1 t <;> cases bad2 t <;> simp

theorem rNames_l2 (t : ApiType) (ht : Ok t) (ih : ∀ x ∈ t.Of, ref10_typeNames x = some (x.all nameN)) : ∀ (r : List ApiType) (k : Nat), t.Of.drop k = r → ref10_typeNames_l2 t k = some (ApiType.alls nameN r)
  | [], k, h => by rw [ref10_typeNames_l2, (lp_out h).1, if_neg (by simp)]; rfl
  | x :: r, k, h => by
    obtain ⟨e1, e2, e3, e4, e5⟩ := lp_in h
    have := ht.ofs
    rw [ref10_typeNames_l2, e1, if_pos rfl, e2, ob, ih x e5, ob, w1 (by omega), rNames_l2 t ht ih r (k + 1) e3, ApiType.alls]
    cases x.all nameN <;> simp
theorem rNames_l1 (t : ApiType) (ht : Ok t) (b : Bool) (hb : ref10_typeNames_l2 t 0 = some b) : ∀ (r : List Str) (k : Nat), t.Names.drop k = r → ref10_typeNames_l1 t k = some (r.all isName && b)
  | [], k, h => by rw [ref10_typeNames_l1, (lp_out h).1, if_neg (by simp), hb]; rfl
  | x :: r, k, h => by
    obtain ⟨e1, e2, e3, e4, e5⟩ := lp_in h
    have := ht.names
    rw [ref10_typeNames_l1, e1, if_pos rfl, e2, ob, refIsName_eq x (ht.name1 e5), ob, w1 (by omega), rNames_l1 t ht b hb r (k + 1) e3, List.all_cons]
    cases isName x <;> simp
theorem rNames_eq (t : ApiType) : Ok t → ref10_typeNames t = some (t.all nameN) := by
  induction t using ApiType.ind with
  | h t ih =>
  intro ht
  have h2 := rNames_l2 t ht (fun x hx => ih x hx (ht.kid hx)) t.Of 0 rfl
  have h1 := rNames_l1 t ht _ h2 t.Names 0 rfl
  rw [show ((0 : Nat) : Int) = 0 from rfl] at h1
  rw [ref10_typeNames, h1, ApiType.all_eq, refIsName_eq t.Name ht.name]
  unfold nameN na1
  cases t.Kind == 4 <;> cases isName t.Name <;> simp

theorem rNumbers_l (t : ApiType) (ht : Ok t) (ih : ∀ x ∈ t.Of, ref10_typeNumbers x = some (x.all fun t => !nbad t)) : ∀ (r : List ApiType) (k : Nat), t.Of.drop k = r → ref10_typeNumbers_l1 t k = some (ApiType.alls (fun t => !nbad t) r)
  | [], k, h => by rw [ref10_typeNumbers_l1, (lp_out h).1, if_neg (by simp)]; rfl
  | x :: r, k, h => by
    obtain ⟨e1, e2, e3, e4, e5⟩ := lp_in h
    have := ht.ofs
    rw [ref10_typeNumbers_l1, e1, if_pos rfl, e2, ob, ih x e5, ob, w1 (by omega), rNumbers_l t ht ih r (k + 1) e3, ApiType.alls]
    cases x.all (fun t => !nbad t) <;> simp
theorem within_eq (n : Int) : ref10_within n = some (within n) := rfl
theorem rNumbers_eq (t : ApiType) : Ok t → ref10_typeNumbers t = some (t.all fun t => !nbad t) := by
  induction t using ApiType.ind with
  | h t ih =>
  intro ht
  have h1 := rNumbers_l t ht (fun x hx => ih x hx (ht.kid hx)) t.Of 0 rfl
  rw [show ((0 : Nat) : Int) = 0 from rfl] at h1
  rw [ref10_typeNumbers, h1, ApiType.all_eq]
  simp only [within_eq]
  generalize ApiType.alls (fun t => !nbad t) t.Of = A
  unfold nbad
  generalize decide ((t.Of.length : Int) > 32) = b1
  generalize (bif t.Kind == 2 then (bif decide (t.Size < 1) then true else decide (t.Size > 32)) else false) = b2
  generalize decide (t.Low > t.High) = b3
  cases t.Kind == 1 <;> cases within t.Low <;> cases within t.High <;> cases b1 <;> cases b2 <;> cases b3 <;> rfl
theorem rVerdict_eq (s : Keyholeref10Size) (f m u : Bool) : ref10_verdict s f m u = some (repCode s.nodes s.depth (!f) (!m) (!u)) := by
  unfold ref10_verdict repCode
  cases (bif decide (s.nodes > 1024) then true else decide (s.depth > 12)) <;> cases f <;> cases m <;> cases u <;> rfl
theorem rCheckType_eq (t : ApiType) (ht : Ok t) : ref10_CheckType t = some (checkT t) := by
  unfold ref10_CheckType checkT
  rw [rAdd_eq t ht, rForm_eq t ht, rNames_eq t ht, rNumbers_eq t ht]
  simp only [ob, rVerdict_eq]
  cases hf : t.all formN with
  | true => rw [numbers_all t hf]
  | false => unfold repCode; rfl
end Go.Proofs.YtonilfkaecbjnaaDoor

