/-
  P12.2, second: an expanded type expands to itself; one more declaration changes nothing.
-/
import Derived.Test.YtonilfkaecbjnaaDoorPdJ
import Derived.Test.YtonilfkaecbjnaaDoorPdEp
set_option linter.unusedSimpArgs false
namespace Go.Proofs.YtonilfkaecbjnaaDoor
open Go.Am

theorem nodess_le : ∀ {l : List ApiType} {d : Nat}, (∀ x ∈ l, (x.nodes : Int) ≤ x.cnt * x.depth ∧ 1 ≤ x.cnt ∧ x.depth ≤ d) → (ApiType.nodess l : Int) ≤ ApiType.cnts l * d
  | [], d, _ => by simp [ApiType.nodess, ApiType.cnts]
  | x :: r, d, h => by
    obtain ⟨h1, h2, h3⟩ := h x List.mem_cons_self
    have h4 := nodess_le (d := d) fun y hy => h y (List.mem_cons_of_mem _ hy)
    simp only [ApiType.nodess, ApiType.cnts]
    have h5 : x.cnt * (x.depth : Int) ≤ x.cnt * d := Int.mul_le_mul_of_nonneg_left (by omega) (by omega)
    rw [Int.add_mul]
    omega
theorem out_nodes (t : ApiType) : Val t → (t.nodes : Int) ≤ t.cnt * t.depth := by
  induction t using ApiType.ind with
  | h t ih =>
  intro hv
  have hb := ApiType.nodes_eq t
  have hc := Val.cnt_pos t hv
  have hd := ApiType.depth_eq t
  have key : ∀ c : Int, (ApiType.nodess t.Of : Int) ≤ c * ApiType.depths t.Of → 0 ≤ c → c ≤ t.cnt → (t.nodes : Int) ≤ t.cnt * t.depth := fun c h1 h0 h2 => by
    have h3 : c * (ApiType.depths t.Of : Int) ≤ t.cnt * ApiType.depths t.Of := Int.mul_le_mul_of_nonneg_right h2 (by omega)
    have h4 : t.cnt * (t.depth : Int) = t.cnt * ApiType.depths t.Of + t.cnt := by rw [hd, Int.natCast_add, Int.mul_add]; simp
    rw [h4]
    omega
  cases hk2 : t.Kind == 2 with
  | true =>
    obtain ⟨x, hx, s1, s2, hvx, e⟩ := hv.arr hk2
    have hm : x ∈ t.Of := by rw [hx]; exact List.mem_cons_self
    have hcx := Val.cnt_pos x hvx
    have := ih x hm hvx
    refine key x.cnt ?_ (by omega) ?_
    · rw [hx]
      simp only [ApiType.nodess, ApiType.depths]
      rw [show max x.depth 0 = x.depth by omega]
      omega
    · rw [e]
      have : 1 * x.cnt ≤ t.Size * x.cnt := Int.mul_le_mul_of_nonneg_right (by omega) (by omega)
      omega
  | false =>
    cases hk3 : t.Kind == 3 with
    | true =>
      obtain ⟨r1, r2, r3, e⟩ := hv.recd hk3
      refine key t.cnt ?_ (by omega) (Int.le_refl _)
      rw [e]
      exact nodess_le fun x hx => ⟨ih x hx (r3 x hx), Val.cnt_pos x (r3 x hx), ApiType.depth_le hx⟩
    | false =>
      refine key 0 ?_ (Int.le_refl _) (by omega)
      have hf := hv.fine.here.1
      unfold formN fm6 at hf
      rw [hk2, hk3] at hf
      simp only [cond_false, Bool.and_eq_true] at hf
      have hl : (t.Of.length : Int) = 0 := by simpa using hf.2
      rw [List.eq_nil_of_length_eq_zero (by omega : t.Of.length = 0)]
      simp [ApiType.nodess]
theorem Out.checkT {x : ApiType} (h : Out x) : checkT x = 0 := by
  have h1 := out_nodes x h.val
  have h2 := Val.cnt_pos x h.val
  have h3 := h.val.cnt
  have h4 := h.deep
  have h5 : x.cnt * (x.depth : Int) ≤ 32 * 12 := Int.mul_le_mul h3 (by omega) (by omega) (by omega)
  unfold Go.Proofs.YtonilfkaecbjnaaDoor.checkT repCode
  rw [decide_eq_false (show ¬ (x.nodes : Int) > 1024 by omega), decide_eq_false (show ¬ (x.depth : Int) > 12 by omega), h.val.fine.form, h.val.fine.num, h.names]
  rfl
theorem Out.check {x : ApiType} (h : Out x) (ht : x.some isTw = false) : checkAll x = 0 := by
  have h3 := h.val.cnt
  unfold checkAll plainT
  rw [h.checkT, h.val.nm, ht, decide_eq_false (show ¬ x.cnt > 32 by omega)]
  rfl
theorem rp_same (m : List (Str × ApiType)) (t : ApiType) : t.some isNm = false → t.rp m = some t := by
  induction t using ApiType.ind with
  | h t ih =>
  intro hn
  rw [ApiType.some_eq, Bool.or_eq_false_iff] at hn
  have hk : (t.Kind == 4) = false := hn.1
  have key : ∀ l : List ApiType, (∀ x ∈ l, x ∈ t.Of) → ApiType.rps m l = some l := by
    intro l
    induction l with
    | nil => intro _; rfl
    | cons x r ihr =>
      intro h
      rw [ApiType.rps, ih x (h x List.mem_cons_self) (any_kid hn.2 (h x List.mem_cons_self)), ihr fun y hy => h y (List.mem_cons_of_mem _ hy)]
      rfl
  rw [ApiType.rp_eq, hk, key t.Of fun _ h => h]
  cases t
  rfl
theorem expT_same {m : List (Str × ApiType)} {x : ApiType} (h : Out x) (ht : x.some isTw = false) : expT m x = (x, 0) := by
  have h3 := h.val.cnt
  have h4 := h.deep
  unfold expT
  rw [h.checkT, rp_same m x h.val.nm]
  dsimp only
  rw [ht, decide_eq_false (show ¬ (x.depth : Int) > 12 by omega), decide_eq_false (show ¬ x.cnt > 32 by omega)]
  rfl

/-! ### one more declaration -/
theorem mgt_app {k : Str} {x : ApiType} {m2 : List (Str × ApiType)} : ∀ {m : List (Str × ApiType)}, mgt k m = some x → mgt k (m ++ m2) = some x
  | [], h => by cases h
  | (k', y) :: r, h => by
    rw [List.cons_append]
    unfold mgt at h ⊢
    cases hk : k == k' with
    | true => rw [hk] at h; exact h
    | false => rw [hk] at h; exact mgt_app h
theorem rp_app {m m2 : List (Str × ApiType)} (t : ApiType) : ∀ x, t.rp m = some x → t.rp (m ++ m2) = some x := by
  induction t using ApiType.ind with
  | h t ih =>
  intro x hx
  rw [ApiType.rp_eq] at hx ⊢
  cases hk : t.Kind == 4 with
  | true => rw [hk] at hx; exact mgt_app hx
  | false =>
    rw [hk, cond_false] at hx
    obtain ⟨of, ho, rfl⟩ := Option.map_eq_some_iff.1 hx
    have key : ∀ (l of : List ApiType), (∀ x ∈ l, x ∈ t.Of) → ApiType.rps m l = some of → ApiType.rps (m ++ m2) l = some of := by
      intro l
      induction l with
      | nil => intro of _ h; exact h
      | cons x r ihr =>
        intro of hl h
        rw [ApiType.rps] at h ⊢
        obtain ⟨z, hz, h2⟩ := Option.bind_eq_some_iff.1 h
        obtain ⟨s, hs, rfl⟩ := Option.map_eq_some_iff.1 h2
        rw [ih x (hl x List.mem_cons_self) z hz, ihr s (fun y hy => hl y (List.mem_cons_of_mem _ hy)) hs]
        rfl
    rw [key t.Of of (fun _ h => h) ho]
    rfl
theorem expT_app {m m2 : List (Str × ApiType)} {t : ApiType} (h : (expT m t).2 = 0) : expT (m ++ m2) t = expT m t := by
  unfold expT at h ⊢
  cases hc : checkT t != 0 with
  | true => rfl
  | false =>
    rw [hc] at h
    cases hx : t.rp m with
    | none => rw [hx] at h; simp at h
    | some x => rw [rp_app t x hx]
theorem expL_snoc (d : ApiDecl) : ∀ (l : List ApiDecl) (m : List (Str × ApiType)), expL (l ++ [d]) m = bif (expL l m).2 != 0 then expL l m else expL [d] (expL l m).1
  | [], m => rfl
  | x :: r, m => by
    rw [List.cons_append, expL, expL, expL_snoc d r m, expL_snoc d r _]
    cases x.Kind != 0 <;> cases isName x.Name <;> cases (mgt x.Name m).isSome <;> cases hc : (expT m x.TypeV).2 != 0 <;> simp only [cond_true, cond_false, Bool.not_true, Bool.not_false, hc] <;> rfl
theorem expL_keys {ds : List ApiDecl} {k : Str} : ∀ (r : List ApiDecl) (m : List (Str × ApiType)), (∀ d ∈ r, (d.Name == k) = false) → mgt k m = none → mgt k (expL r m).1 = none
  | [], m, _, h => h
  | d :: r, m, hd, h => by
    have hr := fun x hx => hd x (List.mem_cons_of_mem _ hx)
    rw [expL]
    cases d.Kind != 0 with
    | true => exact expL_keys (ds := ds) r m hr h
    | false =>
      cases isName d.Name with
      | false => rfl
      | true =>
        cases (mgt d.Name m).isSome with
        | true => rfl
        | false =>
          cases (expT m d.TypeV).2 != 0 with
          | true => rfl
          | false =>
            refine expL_keys (ds := ds) r _ hr ?_
            have key : ∀ m : List (Str × ApiType), mgt k m = none → mgt k (m ++ [(d.Name, (expT m d.TypeV).1)]) = none ∧ ∀ y, mgt k (m ++ [(d.Name, y)]) = none := by
              intro m
              induction m with
              | nil =>
                intro _
                have := hd d List.mem_cons_self
                rw [beq_sym] at this
                refine ⟨?_, fun y => ?_⟩ <;> (rw [List.nil_append, mgt, this]; rfl)
              | cons p q ihq =>
                obtain ⟨k', z⟩ := p
                intro h
                unfold mgt at h
                cases hk : k == k' with
                | true => rw [hk] at h; cases h
                | false =>
                  rw [hk] at h
                  refine ⟨?_, fun y => ?_⟩ <;> (rw [List.cons_append, mgt, hk]; exact (ihq h).2 _)
            exact (key m h).2 _

theorem nm_l (s : List ApiDecl) (hl : s.length ≤ BB) : ∀ (r : List ApiDecl) (k : Nat), s.drop k = r → slices_IndexFunc_api_Decl_api_Decl_v2_l1 s k = some (fidx (fun d : ApiDecl => d.Name == [117, 110, 117, 115, 101, 100, 110, 97, 109, 101]) r k)
  | [], k, h => by rw [slices_IndexFunc_api_Decl_api_Decl_v2_l1, (lp_out h).1, if_neg (by simp)]; rfl
  | d :: r, k, h => by
    obtain ⟨e1, e2, e3, e4, e5⟩ := lp_in h
    rw [slices_IndexFunc_api_Decl_api_Decl_v2_l1, e1, if_pos rfl, e2, ob, w1 (by omega), nm_l s hl r (k + 1) e3, fidx]
    unfold law12_TypesExpanded_1
    rw [ob]
    generalize (fun d : ApiDecl => d.Name == [117, 110, 117, 115, 101, 100, 110, 97, 109, 101]) = p
    cases d.Name == [117, 110, 117, 115, 101, 100, 110, 97, 109, 101] <;> simp
theorem nm_eq (s : List ApiDecl) (hl : s.length ≤ BB) : slices_ContainsFunc_api_Decl_api_Decl_v2 s = some (s.any fun d => d.Name == [117, 110, 117, 115, 101, 100, 110, 97, 109, 101]) := by
  have := nm_l s hl s 0 rfl
  rw [← z0] at this
  unfold slices_ContainsFunc_api_Decl_api_Decl_v2 slices_IndexFunc_api_Decl_api_Decl_v2
  rw [this, ob, fidx_any]
def unused : Str := [117, 110, 117, 115, 101, 100, 110, 97, 109, 101]
theorem unused_name : isName unused = true := by decide +kernel

/-- P12.2, second -/
theorem TypesExpanded_true (ds : List ApiDecl) (t more : ApiType) (hd : DOk ds) (hl : ds.length ≤ 1048576) (ht : t.bulk ≤ 1048576) (hu : more.bulk ≤ 1048576) (hk : law12_known = some true) : law12_TypesExpanded ds t more = some true := by
  have hok := expL_ok (ds := ds) ds [] (fun d h => (hd.2 d h).1) .nil
  unfold law12_TypesExpanded
  rw [hk, fewDecls_eq ds hd, few_eq t (by unfold Ok BB; omega), few_eq more (by unfold Ok BB; omega), Expand_eq ds hd t ht]
  simp only [ob]
  cases he : (expandT ds t).2 != 0 with
  | true =>
    have hz : (expandT ds t).1 = rpRes.zTy := by
      unfold expandT expRes at he ⊢
      cases h0 : (expL ds []).2 != 0 with
      | true => rfl
      | false =>
        rw [h0] at he
        simp only [cond_false] at he ⊢
        unfold expT at he ⊢
        revert he
        cases checkT t != 0 with
        | true => intro _; rfl
        | false =>
          cases t.rp (expL ds []).1 with
          | none => intro _; rfl
          | some x =>
            dsimp only
            cases x.some isTw <;> cases decide ((x.depth : Int) > 12) <;> cases decide (x.cnt > 32) <;> simp
    have : ref10_EqualType (expandT ds t).1 (ApiType.mk 0 0 0 0 [] [] []) = some true := by
      rw [rEqual_eq _ (expandT_ok hd ht), hz]
      rfl
    rw [this]
    cases fewDT ds <;> cases fewT t <;> cases fewT more <;> simp [ob]
  | false =>
    have he0 : (expandT ds t).2 = 0 := by simpa using he
    have h0 : (expL ds []).2 = 0 := by
      unfold expandT expRes at he0
      cases h : (expL ds []).2 != 0 with
      | true => rw [h] at he0; simp only [cond_true] at he0; exact he0
      | false => simpa using h
    have hE : ∀ u, expandT ds u = expT (expL ds []).1 u := fun u => by unfold expandT expRes; rw [h0]; rfl
    rw [hE] at he0
    obtain ⟨ho, htw⟩ := expT_out hok.1 ht he0
    rw [hE t]
    have hbx : (expT (expL ds []).1 t).1.bulk ≤ 1048576 := by have := ho.bulk; unfold KK at this; omega
    rw [Expand_eq ds hd _ hbx, hE, expT_same ho htw, Check_eq _ ho.val.ok, ho.check htw]
    simp only [ob]
    rw [Equal_eq _ ho.val.ok, same_refl]
    unfold slices_Clone_api_Decl_api_Decl
    rw [if_pos (decide_eq_true (by omega)), ob]
    have hj : law12_TypesExpanded_j1 ds t more (expT (expL ds []).1 t) ds = some true := by
      unfold law12_TypesExpanded_j1
      rw [nm_eq ds (by unfold BB; omega), ob]
      cases hn : ds.any fun d => d.Name == [117, 110, 117, 115, 101, 100, 110, 97, 109, 101] with
      | true => rfl
      | false =>
        have hd2 : DOk (ds ++ [ApiDecl.mk 0 unused more 0 (ApiExpr.mk 0 0 [] []) [] [] []]) := by
          refine ⟨by simp; omega, fun d h => ?_⟩
          rw [List.mem_append] at h
          rcases h with h | h
          · exact hd.2 d h
          · simp at h
            subst h
            exact ⟨hu, by unfold unused BB; simp⟩
        have hE2 := Expand_eq _ hd2 t ht
        unfold unused at hE2
        rw [if_neg (by simp), Expand_eq ds hd more hu, ob, hE2, ob, hE more]
        have hkeys := expL_keys (ds := ds) (k := unused) ds [] (fun d h => by
          cases hp : d.Name == unused with
          | false => rfl
          | true =>
            have h2 : (ds.any fun d => d.Name == [117, 110, 117, 115, 101, 100, 110, 97, 109, 101]) = true := List.any_eq_true.2 ⟨d, h, hp⟩
            rw [hn] at h2
            cases h2) rfl
        have hx2 : expandT (ds ++ [ApiDecl.mk 0 unused more 0 (ApiExpr.mk 0 0 [] []) [] [] []]) t = bif (expT (expL ds []).1 more).2 != 0 then (rpRes.zTy, (expT (expL ds []).1 more).2) else expT (expL ds []).1 t := by
          unfold expandT
          rw [expL_snoc, h0]
          simp only [bne_self_eq_false, cond_false]
          rw [expL]
          simp only [bne_self_eq_false, cond_false]
          rw [unused_name, hkeys]
          simp only [Bool.not_true, cond_false, Option.isSome_none]
          cases hg : (expT (expL ds []).1 more).2 != 0 with
          | true => simp only [cond_true, expRes, hg]
          | false =>
            simp only [cond_false, expL, expRes, bne_self_eq_false]
            exact expT_app he0
        unfold unused at hx2
        rw [hx2]
        cases hg : (expT (expL ds []).1 more).2 != 0 with
        | true => simp [ob, hg]
        | false =>
          have hg0 : (expT (expL ds []).1 more).2 = 0 := by simpa using hg
          simp only [cond_false, hg0, he0, bne_self_eq_false, beq_self_eq_true, cond_true, Bool.not_false, Bool.true_and, if_true]
          rw [Equal_eq _ ho.val.ok, same_refl]
          rfl
    rw [hj]
    simp only [he0, if_pos (decide_eq_true (show (ds.length + 1) * 257 ≤ 140737488355328 by omega))]
    cases fewDT ds <;> cases fewT t <;> cases fewT more <;> simp [ob]
end Go.Proofs.YtonilfkaecbjnaaDoor

