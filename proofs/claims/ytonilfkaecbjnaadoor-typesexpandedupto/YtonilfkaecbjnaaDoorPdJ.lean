/-
  Expand of declarations: both sides; P12.2, first.
-/
import Derived.Test.YtonilfkaecbjnaaDoorPdI
set_option linter.unusedSimpArgs false
namespace Go.Proofs.YtonilfkaecbjnaaDoor
open Go.Am

theorem mpt_new {k : Str} {x : ApiType} : ∀ {m : List (Str × ApiType)}, mgt k m = none → mpt k x m = m ++ [(k, x)]
  | [], _ => rfl
  | (k', y) :: r, h => by
    unfold mgt at h
    unfold mpt
    cases hk : k == k' with
    | true => rw [hk] at h; cases h
    | false => rw [hk] at h; rw [cond_false, mpt_new h]; rfl
def expL : List ApiDecl → List (Str × ApiType) → List (Str × ApiType) × Int
  | [], m => (m, 0)
  | d :: r, m => bif d.Kind != 0 then expL r m else bif !isName d.Name then ([], 7) else bif (mgt d.Name m).isSome then ([], 8) else
      bif (expT m d.TypeV).2 != 0 then ([], (expT m d.TypeV).2) else expL r (m ++ [(d.Name, (expT m d.TypeV).1)])
/-- declarations of bounded size -/
def DOk (ds : List ApiDecl) : Prop := ds.length ≤ 2000000 ∧ ∀ d ∈ ds, d.TypeV.bulk ≤ 1048576 ∧ d.Name.length ≤ BB
theorem MOk.snoc {m : List (Str × ApiType)} (hm : MOk m) {d : ApiDecl} (hb : d.TypeV.bulk ≤ 1048576) (h : (expT m d.TypeV).2 = 0) (k : Str) : MOk (m ++ [(k, (expT m d.TypeV).1)]) := by
  intro p hp
  rw [List.mem_append] at hp
  rcases hp with hp | hp
  · exact hm p hp
  · simp at hp
    subst hp
    exact (expT_out hm hb h).1
def expRes (e : List (Str × ApiType) × Int) (t : ApiType) : ApiType × Int := bif e.2 != 0 then (rpRes.zTy, e.2) else expT e.1 t
theorem expL_ok {ds : List ApiDecl} : ∀ (r : List ApiDecl) (m : List (Str × ApiType)), (∀ d ∈ r, d.TypeV.bulk ≤ 1048576) → MOk m → MOk (expL r m).1 ∧ (expL r m).1.length ≤ m.length + r.length
  | [], m, _, hm => ⟨hm, by simp [expL]⟩
  | d :: r, m, hd, hm => by
    have hn : MOk [] := fun p hp => by cases hp
    have hr := fun x hx => hd x (List.mem_cons_of_mem _ hx)
    rw [expL]
    cases d.Kind != 0 with
    | true => have := expL_ok (ds := ds) r m hr hm; exact ⟨this.1, by simp only [cond_true, List.length_cons]; omega⟩
    | false =>
      cases isName d.Name with
      | false => exact ⟨hn, by simp⟩
      | true =>
        cases (mgt d.Name m).isSome with
        | true => exact ⟨hn, by simp⟩
        | false =>
          cases h : (expT m d.TypeV).2 != 0 with
          | true => exact ⟨hn, by simp⟩
          | false =>
            have := expL_ok (ds := ds) r _ hr (hm.snoc (hd d List.mem_cons_self) (by simpa using h) d.Name)
            refine ⟨this.1, ?_⟩
            have h2 := this.2
            simp only [List.length_append, List.length_cons, List.length_nil, cond_false, Bool.not_true] at h2 ⊢
            omega
theorem Expand_l (ds : List ApiDecl) (hd : DOk ds) (t : ApiType) (ht : t.bulk ≤ 1048576) : ∀ (r : List ApiDecl) (k : Nat) (m : List (Str × ApiType)), ds.drop k = r → MOk m → types_Expand_l1 ds t m k = some (expRes (expL r m) t)
  | [], k, m, h, hm => by
    rw [types_Expand_l1, (lp_out h).1, if_neg (by simp), expanded_eq hm t ht]
    rfl
  | d :: r, k, m, h, hm => by
    obtain ⟨e1, e2, e3, e4, e5⟩ := lp_in h
    have hl := hd.1
    obtain ⟨hb, hn⟩ := hd.2 d e5
    rw [types_Expand_l1, e1, if_pos rfl, e2, ob, w1 (by unfold BB; omega), Expand_l ds hd t ht r (k + 1) m e3 hm, IsName_eq _ hn, ob, expL]
    cases d.Kind != 0 with
    | true => rfl
    | false =>
      rw [if_neg (by simp), cond_false]
      cases isName d.Name with
      | false => rfl
      | true =>
        rw [if_neg (by simp), ob]
        cases hg : mgt d.Name m with
        | some y => rfl
        | none =>
          rw [expanded_eq hm _ hb]
          simp only [Option.isSome_none, Bool.false_eq_true, if_false, Bool.not_true, cond_false, ob]
          cases hc : (expT m d.TypeV).2 != 0 with
          | true => simp only [if_true, cond_true, expRes, hc, rpRes.zTy]
          | false =>
            have hm2 := hm.snoc hb (by simpa using hc) d.Name
            rw [if_neg (by simp), mpt_new hg, Expand_l ds hd t ht r (k + 1) _ e3 hm2]
            rfl
def expandT (ds : List ApiDecl) (t : ApiType) : ApiType × Int := expRes (expL ds []) t
theorem MOk.nil : MOk [] := fun p hp => by cases hp
theorem Expand_eq (ds : List ApiDecl) (hd : DOk ds) (t : ApiType) (ht : t.bulk ≤ 1048576) : types_Expand ds t = some (expandT ds t) := by
  unfold types_Expand expandT
  exact Expand_l ds hd t ht ds 0 [] rfl .nil

/-! ### the reference's -/
/-! ### few -/
theorem fewD_l (s : List ApiDecl) (hd : DOk s) : ∀ (r : List ApiDecl) (k : Nat), s.drop k = r → slices_IndexFunc_api_Decl_api_Decl_l1 s k = some (fidx (fun d : ApiDecl => !fewT d.TypeV) r k)
  | [], k, h => by rw [slices_IndexFunc_api_Decl_api_Decl_l1, (lp_out h).1, if_neg (by simp)]; rfl
  | d :: r, k, h => by
    obtain ⟨e1, e2, e3, e4, e5⟩ := lp_in h
    have hl := hd.1
    have hb := (hd.2 d e5).1
    rw [slices_IndexFunc_api_Decl_api_Decl_l1, e1, if_pos rfl, e2, ob, w1 (by unfold BB; omega), fewD_l s hd r (k + 1) e3, fidx]
    unfold law12_fewDecls_1
    rw [few_eq _ (by unfold Ok BB; omega)]
    cases fewT d.TypeV <;> simp [ob]
def fewDT (ds : List ApiDecl) : Bool := decide ((ds.length : Int) ≤ 8) && !(ds.any fun d => !fewT d.TypeV)
theorem fewDecls_eq (ds : List ApiDecl) (hd : DOk ds) : law12_fewDecls ds = some (fewDT ds) := by
  have := fewD_l ds hd ds 0 rfl
  rw [← z0] at this
  unfold law12_fewDecls slices_ContainsFunc_api_Decl_api_Decl slices_IndexFunc_api_Decl_api_Decl fewDT
  rw [this, ob, fidx_any]
  cases decide ((ds.length : Int) ≤ 8) <;> simp [ob]

theorem expandT_ok {ds : List ApiDecl} (hd : DOk ds) {t : ApiType} (ht : t.bulk ≤ 1048576) : Ok (expandT ds t).1 := by
  have hz : Ok rpRes.zTy := by unfold Ok rpRes.zTy BB; rw [ApiType.bulk_eq]; simp [ApiType.bulks]
  have hok := (expL_ok (ds := ds) ds [] (fun d h => (hd.2 d h).1) .nil).1
  unfold expandT expRes
  cases (expL ds []).2 != 0 with
  | true => exact hz
  | false =>
    by_cases h : (expT (expL ds []).1 t).2 = 0
    · exact (expT_out hok ht h).1.val.ok
    · have : (expT (expL ds []).1 t).1 = rpRes.zTy := by
        unfold expT at h ⊢
        revert h
        cases checkT t != 0 with
        | true => intro _; rfl
        | false =>
          cases t.rp (expL ds []).1 with
          | none => intro _; rfl
          | some x =>
            dsimp only
            cases x.some isTw <;> cases decide ((x.depth : Int) > 12) <;> cases decide (x.cnt > 32) <;> simp
      show Ok (expT (expL ds []).1 t).1
      rw [this]
      exact hz

end Go.Proofs.YtonilfkaecbjnaaDoor

