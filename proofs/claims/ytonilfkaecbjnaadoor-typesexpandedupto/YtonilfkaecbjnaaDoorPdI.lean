/-
  Expand: both sides; P12.2, first.
-/
import Derived.Test.YtonilfkaecbjnaaDoorPdF
import Derived.Test.YtonilfkaecbjnaaDoorPdEr
set_option linter.unusedSimpArgs false
namespace Go.Proofs.YtonilfkaecbjnaaDoor
open Go.Am

/-! ### depth, both sides -/
theorem depth_l (t : ApiType) (ht : Ok t) (ih : ∀ x ∈ t.Of, types_depth x = some (x.depth : Int)) (B : Nat) (hB : B ≤ BB) :
    ∀ (r : List ApiType) (k : Nat) (n : Nat), t.Of.drop k = r → n ≤ B → ApiType.depths r ≤ B → types_depth_l1 t (n : Int) k = some ((max n (ApiType.depths r) + 1 : Nat) : Int)
  | [], k, n, h, hb, _ => by
    rw [types_depth_l1, (lp_out h).1, if_neg (by simp), w1 (by omega)]
    simp [ApiType.depths]
  | x :: r, k, n, h, hb, hd => by
    obtain ⟨e1, e2, e3, e4, e5⟩ := lp_in h
    have := ht.ofs
    simp only [ApiType.depths] at hd
    rw [types_depth_l1, e1, if_pos rfl, e2, ob, ih x e5, ob, w1 (by omega), show max (n : Int) (x.depth : Int) = ((max n x.depth : Nat) : Int) by omega, depth_l t ht ih B hB r (k + 1) _ e3 (by omega) (by omega)]
    simp only [ApiType.depths]
    rw [show max (max n x.depth) (ApiType.depths r) = max n (max x.depth (ApiType.depths r)) by omega]
theorem depth_eq2 (t : ApiType) : Ok t → types_depth t = some (t.depth : Int) := by
  induction t using ApiType.ind with
  | h t ih =>
  intro ht
  have hn := ht.nodes
  have hd := ApiType.depth_nodes t
  rw [types_depth]
  rw [ApiType.depth_eq] at hd
  have := depth_l t ht (fun x hx => ih x hx (ht.kid hx)) BB (Nat.le_refl _) t.Of 0 0 rfl (by omega) (by omega)
  rw [ApiType.depth_eq]
  rw [show max 0 (ApiType.depths t.Of) = ApiType.depths t.Of by omega] at this
  exact this
/-! ### types that came out of Expand -/
structure Out (t : ApiType) : Prop where
  val : Val t
  names : t.all nameN = true
  deep : t.depth ≤ 12
def KK : Nat := 169728
theorem isName_len {s : Str} (h : isName s = true) : s.length ≤ 12 := by
  unfold isName at h
  by_cases hl : (s.length : Int) ≤ 12
  · omega
  · rw [decide_eq_false hl] at h; simp at h
theorem names_sum : ∀ {l : List Str}, l.all isName = true → (l.map fun s => s.length + 1).sum ≤ 13 * l.length
  | [], _ => by simp
  | s :: r, h => by
    simp only [List.all_cons, Bool.and_eq_true] at h
    have := isName_len h.1
    have := names_sum h.2
    simp only [List.map_cons, List.sum_cons, List.length_cons]
    omega
theorem all_node {p : ApiType → Bool} {t : ApiType} (h : t.all p = true) : p t = true ∧ ∀ x ∈ t.Of, x.all p = true := by
  rw [ApiType.all_eq, Bool.and_eq_true] at h
  exact ⟨h.1, fun x hx => ApiType.alls_mem h.2 hx⟩
theorem node_weight {t : ApiType} (hf : Fine t) (hn : t.some isNm = false) (ha : t.all nameN = true) : t.Name.length + (t.Names.map fun s => s.length + 1).sum + 8 ≤ 424 := by
  obtain ⟨h1, _⟩ := hf.here
  have h2 := (all_node ha).1
  unfold nameN at h2
  simp only [Bool.and_eq_true] at h2
  have h3 := names_sum h2.2
  rw [ApiType.some_eq, Bool.or_eq_false_iff] at hn
  have hk4 : (t.Kind == 4) = false := hn.1
  unfold formN at h1
  simp only [Bool.and_eq_true] at h1
  have f4 := h1.1.1.2
  have f5 := h1.1.2
  unfold fm4 at f4
  unfold fm5 at f5
  rw [hk4] at f4
  have hnm : t.Name = [] := by simpa using f4
  rw [hnm]
  cases hk3 : t.Kind == 3 with
  | true =>
    have := (hf.recd hk3)
    simp only [List.length_nil]
    omega
  | false =>
    rw [hk3] at f5
    have : (t.Names.length : Int) = 0 := by simpa using f5
    simp only [List.length_nil]
    omega
theorem bulks_le {c : Nat} : ∀ {l : List ApiType} {d : Nat}, (∀ x ∈ l, (x.bulk : Int) ≤ c * (x.cnt * x.depth) ∧ 1 ≤ x.cnt ∧ x.depth ≤ d) → (ApiType.bulks l : Int) ≤ c * (ApiType.cnts l * d)
  | [], d, _ => by simp [ApiType.bulks, ApiType.cnts]
  | x :: r, d, h => by
    obtain ⟨h1, h2, h3⟩ := h x List.mem_cons_self
    have h4 := bulks_le (c := c) (d := d) fun y hy => h y (List.mem_cons_of_mem _ hy)
    simp only [ApiType.bulks, ApiType.cnts]
    have h5 : x.cnt * (x.depth : Int) ≤ x.cnt * d := Int.mul_le_mul_of_nonneg_left (by omega) (by omega)
    have h6 : (c : Int) * (x.cnt * x.depth) ≤ c * (x.cnt * d) := Int.mul_le_mul_of_nonneg_left h5 (by omega)
    rw [Int.add_mul, Int.mul_add]
    omega
theorem out_bulk0 (t : ApiType) : Val t → t.all nameN = true → (t.bulk : Int) ≤ (424 : Nat) * (t.cnt * t.depth) := by
  induction t using ApiType.ind with
  | h t ih =>
  intro hv ha
  have hw := node_weight hv.fine hv.nm ha
  have hb := ApiType.bulk_eq t
  have hc := Val.cnt_pos t hv
  have hd := ApiType.depth_eq t
  have hk := (all_node ha).2
  have key : ∀ c : Int, (ApiType.bulks t.Of : Int) ≤ (424 : Nat) * (c * ApiType.depths t.Of) → 0 ≤ c → c ≤ t.cnt → (t.bulk : Int) ≤ (424 : Nat) * (t.cnt * t.depth) := fun c h1 h0 h2 => by
    have h3 : c * (ApiType.depths t.Of : Int) ≤ t.cnt * ApiType.depths t.Of := Int.mul_le_mul_of_nonneg_right h2 (by omega)
    have h4 : t.cnt * (t.depth : Int) = t.cnt * ApiType.depths t.Of + t.cnt := by rw [hd, Int.natCast_add, Int.mul_add]; simp
    rw [h4]
    omega
  cases hk2 : t.Kind == 2 with
  | true =>
    obtain ⟨x, hx, s1, s2, hvx, e⟩ := hv.arr hk2
    have hm : x ∈ t.Of := by rw [hx]; exact List.mem_cons_self
    have hcx := Val.cnt_pos x hvx
    have := ih x hm hvx (hk x hm)
    refine key x.cnt ?_ (by omega) ?_
    · rw [hx]
      simp only [ApiType.bulks, ApiType.depths]
      rw [show max x.depth 0 = x.depth by omega]
      omega
    · rw [e]
      have : 1 * x.cnt ≤ t.Size * x.cnt := Int.mul_le_mul_of_nonneg_right (by omega) (by omega)
      omega
  | false =>
    cases hk3 : t.Kind == 3 with
    | true =>
      obtain ⟨r1, r2, r3, e⟩ := hv.recd hk3
      refine key t.cnt ?_ (by omega) (Int.le_refl _)
      rw [e]
      exact bulks_le fun x hx => ⟨ih x hx (r3 x hx) (hk x hx), Val.cnt_pos x (r3 x hx), ApiType.depth_le hx⟩
    | false =>
      refine key 0 ?_ (Int.le_refl _) (by omega)
      have hf := hv.fine.here.1
      unfold formN fm6 at hf
      rw [hk2, hk3] at hf
      simp only [cond_false, Bool.and_eq_true] at hf
      have hl : (t.Of.length : Int) = 0 := by simpa using hf.2
      rw [List.eq_nil_of_length_eq_zero (by omega : t.Of.length = 0)]
      simp [ApiType.bulks]
theorem Out.bulk {t : ApiType} (h : Out t) : t.bulk ≤ KK := by
  have h1 := out_bulk0 t h.val h.names
  have h2 := Val.cnt_pos t h.val
  have h3 := h.val.cnt
  have h4 := h.deep
  have : t.cnt * (t.depth : Int) ≤ 32 * 12 := Int.mul_le_mul h3 (by omega) (by omega) (by omega)
  unfold KK
  omega

/-! ### replacing names -/
mutual
def ApiType.rp (m : List (Str × ApiType)) : ApiType → Option ApiType
  | .mk k l h s n ns of => bif k == 4 then mgt n m else (ApiType.rps m of).map fun of' => ApiType.mk k l h s n ns of'
def ApiType.rps (m : List (Str × ApiType)) : List ApiType → Option (List ApiType)
  | [] => Option.some []
  | x :: r => (ApiType.rp m x).bind fun y => (ApiType.rps m r).map fun s => y :: s
end
theorem ApiType.rp_eq (m : List (Str × ApiType)) (t : ApiType) : t.rp m = bif t.Kind == 4 then mgt t.Name m else (ApiType.rps m t.Of).map fun of' => ApiType.mk t.Kind t.Low t.High t.Size t.Name t.Names of' := by cases t; rfl
def MOk (m : List (Str × ApiType)) : Prop := ∀ p ∈ m, Out p.2
theorem mgt_mem {k : Str} {x : ApiType} : ∀ {m : List (Str × ApiType)}, mgt k m = some x → ∃ k', (k', x) ∈ m
  | [], h => by cases h
  | (k', y) :: r, h => by
    unfold mgt at h
    cases hk : k == k' with
    | true => rw [hk] at h; cases h; exact ⟨k', List.mem_cons_self⟩
    | false => rw [hk] at h; obtain ⟨k2, h2⟩ := mgt_mem h; exact ⟨k2, List.mem_cons_of_mem _ h2⟩
theorem MOk.get {m : List (Str × ApiType)} (h : MOk m) {k : Str} {x : ApiType} (hg : mgt k m = some x) : Out x := by
  obtain ⟨k', hm⟩ := mgt_mem hg
  exact h _ hm
/-- what replacing keeps -/
theorem rp_keeps {m : List (Str × ApiType)} (hm : MOk m) (t : ApiType) : ∀ y, t.rp m = some y →
    (t.all formN = true → y.all formN = true) ∧ (t.all numN = true → y.all numN = true) ∧ (t.all nameN = true → y.all nameN = true) ∧ y.some isNm = false ∧ y.bulk ≤ t.bulk + t.nodes * KK := by
  induction t using ApiType.ind with
  | h t ih =>
  intro y hy
  rw [ApiType.rp_eq] at hy
  cases hk : t.Kind == 4 with
  | true =>
    rw [hk] at hy
    have ho := hm.get hy
    have hb := ho.bulk
    refine ⟨fun _ => ho.val.fine.form, fun _ => ho.val.fine.num, fun _ => ho.names, ho.val.nm, ?_⟩
    rw [ApiType.nodes_eq, Nat.add_mul]
    omega
  | false =>
    rw [hk, cond_false] at hy
    obtain ⟨of, ho, rfl⟩ := Option.map_eq_some_iff.1 hy
    have key : ∀ (l : List ApiType) (of : List ApiType), (∀ x ∈ l, x ∈ t.Of) → ApiType.rps m l = some of → of.length = l.length ∧ (ApiType.alls formN l = true → ApiType.alls formN of = true) ∧ (ApiType.alls numN l = true → ApiType.alls numN of = true) ∧
        (ApiType.alls nameN l = true → ApiType.alls nameN of = true) ∧ of.any (ApiType.some isNm) = false ∧ ApiType.bulks of ≤ ApiType.bulks l + ApiType.nodess l * KK := by
      intro l
      induction l with
      | nil => intro of _ h; cases h; exact ⟨rfl, fun h => h, fun h => h, fun h => h, rfl, by simp [ApiType.bulks]⟩
      | cons x r ihr =>
        intro of hl h
        rw [ApiType.rps] at h
        obtain ⟨z, hz, h2⟩ := Option.bind_eq_some_iff.1 h
        obtain ⟨s, hs, rfl⟩ := Option.map_eq_some_iff.1 h2
        obtain ⟨a1, a2, a3, a4, a5⟩ := ih x (hl x List.mem_cons_self) z hz
        obtain ⟨b0, b1, b2, b3, b4, b5⟩ := ihr s (fun y hy => hl y (List.mem_cons_of_mem _ hy)) hs
        simp only [ApiType.alls, Bool.and_eq_true, List.any_cons, Bool.or_eq_false_iff, ApiType.bulks, ApiType.nodess, List.length_cons, Nat.add_mul]
        exact ⟨by omega, fun h => ⟨a1 h.1, b1 h.2⟩, fun h => ⟨a2 h.1, b2 h.2⟩, fun h => ⟨a3 h.1, b3 h.2⟩, ⟨a4, b4⟩, by omega⟩
    obtain ⟨k0, k1, k2, k3, k4, k5⟩ := key t.Of of (fun _ h => h) ho
    have e1 : formN (ApiType.mk t.Kind t.Low t.High t.Size t.Name t.Names of) = formN t := by
      unfold formN fm1 fm2 fm3 fm4 fm5 fm6
      simp only [k0]
    have e2 : numN (ApiType.mk t.Kind t.Low t.High t.Size t.Name t.Names of) = numN t := by
      unfold numN nm1 nm2
      simp only [k0]
    have e3 : nameN (ApiType.mk t.Kind t.Low t.High t.Size t.Name t.Names of) = nameN t := rfl
    simp only [ApiType.all_eq, Bool.and_eq_true, e1, e2, e3, ApiType.some_eq, Bool.or_eq_false_iff]
    refine ⟨fun h => ⟨h.1, k1 h.2⟩, fun h => ⟨h.1, k2 h.2⟩, fun h => ⟨h.1, k3 h.2⟩, ⟨hk, k4⟩, ?_⟩
    rw [ApiType.bulk_eq, ApiType.bulk_eq t, ApiType.nodes_eq, Nat.add_mul]
    simp only
    omega
/-- a copy of a type without names -/
theorem cpy_l (m : List (Str × ApiType)) (t : ApiType) (ht : Ok t) (x2 : List Str) (ih : ∀ x ∈ t.Of, types_replaced x m = some (x, true)) :
    ∀ (r : List ApiType) (k : Nat) (a : List ApiType), t.Of.drop k = r → a.length = k → types_replaced_l2 m t x2 a k = some (⟨t.Kind, t.Low, t.High, t.Size, t.Name, x2, a ++ r⟩, true)
  | [], k, a, h, ha => by rw [types_replaced_l2, (lp_out h).1, if_neg (by simp)]; simp
  | x :: r, k, a, h, ha => by
    obtain ⟨e1, e2, e3, e4, e5⟩ := lp_in h
    have := ht.ofs
    unfold BB at this
    rw [types_replaced_l2, e1, if_pos rfl, e2, ob, ih x e5, ob]
    simp only [Bool.not_true, Bool.false_eq_true, if_false]
    rw [if_pos (decide_eq_true (by omega)), w1 (by unfold BB; omega), cpy_l m t ht x2 ih r (k + 1) (a ++ [x]) e3 (by simp; omega)]
    simp
theorem any_kid {p : ApiType → Bool} {l : List ApiType} (h : l.any p = false) {x : ApiType} (hx : x ∈ l) : p x = false := by
  cases hp : p x with
  | false => rfl
  | true => have h2 := List.any_eq_true.2 ⟨x, hx, hp⟩; rw [h] at h2; cases h2
theorem cpy_j (m : List (Str × ApiType)) (t : ApiType) (ht : Ok t) (ih : ∀ x ∈ t.Of, types_replaced x m = some (x, true)) : types_replaced_j1 m t = some (t, true) := by
  have hnm := ht.names
  unfold BB at hnm
  rw [types_replaced_j1]
  unfold slices_Clone_string_string
  rw [if_pos (decide_eq_true (by omega)), ob, z0, cpy_l m t ht t.Names ih t.Of 0 [] rfl rfl, List.nil_append]
  cases t
  rfl
theorem cpy_eq (m : List (Str × ApiType)) (t : ApiType) : Ok t → t.some isNm = false → types_replaced t m = some (t, true) := by
  induction t using ApiType.ind with
  | h t ih =>
  intro ht hn
  rw [ApiType.some_eq, Bool.or_eq_false_iff] at hn
  have hk : (t.Kind == 4) = false := hn.1
  rw [types_replaced, hk, if_neg (by simp)]
  exact cpy_j m t ht fun x hx => ih x hx (ht.kid hx) (any_kid hn.2 hx)
def rpRes : Option ApiType → ApiType × Bool
  | some x => (x, true)
  | none => (zTy, false)
  where zTy : ApiType := ApiType.mk 0 0 0 0 [] [] []
theorem rep_l (m : List (Str × ApiType)) (t : ApiType) (ht : Ok t) (x2 : List Str) (ih : ∀ x ∈ t.Of, types_replaced x m = some (rpRes (x.rp m))) :
    ∀ (r : List ApiType) (k : Nat) (a : List ApiType), t.Of.drop k = r → a.length = k → types_replaced_l2 m t x2 a k = some (rpRes ((ApiType.rps m r).map fun s => ⟨t.Kind, t.Low, t.High, t.Size, t.Name, x2, a ++ s⟩))
  | [], k, a, h, ha => by rw [types_replaced_l2, (lp_out h).1, if_neg (by simp)]; simp [ApiType.rps, rpRes]
  | x :: r, k, a, h, ha => by
    obtain ⟨e1, e2, e3, e4, e5⟩ := lp_in h
    have := ht.ofs
    unfold BB at this
    rw [types_replaced_l2, e1, if_pos rfl, e2, ob, ih x e5, ob, ApiType.rps]
    cases hx : x.rp m with
    | none => simp [rpRes, rpRes.zTy]
    | some y =>
      simp only [rpRes, Bool.not_true, Bool.false_eq_true, if_false, Option.bind_some]
      rw [if_pos (decide_eq_true (by omega)), w1 (by unfold BB; omega), rep_l m t ht x2 ih r (k + 1) (a ++ [y]) e3 (by simp; omega)]
      cases ApiType.rps m r <;> simp [rpRes]
theorem replaced_eq {m : List (Str × ApiType)} (hm : MOk m) (t : ApiType) : Ok t → types_replaced t m = some (rpRes (t.rp m)) := by
  induction t using ApiType.ind with
  | h t ih =>
  intro ht
  rw [types_replaced, ApiType.rp_eq]
  cases hk : t.Kind == 4 with
  | true =>
    rw [if_pos rfl, ob, cond_true]
    cases hg : mgt t.Name m with
    | none => rfl
    | some x =>
      have ho := hm.get hg
      have hb := ho.val.ok
      have := cpy_j m x hb fun z hz => cpy_eq m z (hb.kid hz) (by
        have := ho.val.nm
        rw [ApiType.some_eq, Bool.or_eq_false_iff] at this
        exact any_kid this.2 hz)
      simp only [Option.isSome_some, Bool.not_true, Bool.false_eq_true, if_false, Option.getD_some]
      rw [this]
      rfl
  | false =>
    have hnm := ht.names
    unfold BB at hnm
    rw [if_neg (by simp), cond_false, types_replaced_j1]
    unfold slices_Clone_string_string
    rw [if_pos (decide_eq_true (by omega)), ob, z0, rep_l m t ht t.Names (fun x hx => ih x hx (ht.kid hx)) t.Of 0 [] rfl rfl]
    simp

theorem beq_sym (a b : Str) : (a == b) = (b == a) := by
  rw [Bool.eq_iff_iff, beq_iff_eq, beq_iff_eq]
  exact ⟨fun h => h.symm, fun h => h.symm⟩
/-! ### expanded -/
def expT (m : List (Str × ApiType)) (t : ApiType) : ApiType × Int :=
  bif checkT t != 0 then (rpRes.zTy, checkT t) else match t.rp m with
    | none => (rpRes.zTy, 7)
    | some x => bif x.some isTw then (rpRes.zTy, 8) else bif (decide ((x.depth : Int) > 12) || decide (x.cnt > 32)) then (rpRes.zTy, 4) else (x, 0)
theorem checkT_zero {t : ApiType} (h : checkT t = 0) : t.nodes ≤ 1024 ∧ t.all nameN = true := by
  unfold checkT repCode at h
  by_cases h1 : (t.nodes : Int) > 1024
  · rw [decide_eq_true h1] at h; simp at h
  · refine ⟨by omega, ?_⟩
    revert h
    cases (bif decide ((t.nodes : Int) > 1024) then true else decide ((t.depth : Int) > 12)) <;> cases t.all formN <;> cases t.all nameN <;> simp
theorem rp_fine {m : List (Str × ApiType)} (hm : MOk m) {t x : ApiType} (hb : t.bulk ≤ 1048576) (hc : checkT t = 0) (hx : t.rp m = some x) : Ok x ∧ Fine x ∧ x.some isNm = false ∧ x.all nameN = true := by
  obtain ⟨h1, h2, h3, h4, h5⟩ := rp_keeps hm t x hx
  have hf := fine_of hc
  obtain ⟨hn, hna⟩ := checkT_zero hc
  refine ⟨?_, ⟨h1 hf.form, h2 hf.num⟩, h4, h3 hna⟩
  have : t.nodes * KK ≤ 1024 * KK := Nat.mul_le_mul_right _ hn
  unfold Ok BB
  unfold KK at *
  omega
theorem expT_out {m : List (Str × ApiType)} (hm : MOk m) {t : ApiType} (hb : t.bulk ≤ 1048576) (h : (expT m t).2 = 0) : Out (expT m t).1 ∧ (expT m t).1.some isTw = false := by
  unfold expT at h ⊢
  cases hc : checkT t != 0 with
  | true => rw [hc] at h; simp only [cond_true] at h; rw [h] at hc; cases hc
  | false =>
    have hc' : checkT t = 0 := by simpa using hc
    rw [hc] at h
    simp only [cond_false] at h ⊢
    cases hx : t.rp m with
    | none => rw [hx] at h; simp at h
    | some x =>
      rw [hx] at h
      simp only at h ⊢
      obtain ⟨a1, a2, a3, a4⟩ := rp_fine hm hb hc' hx
      cases h2 : x.some isTw with
      | true => rw [h2] at h; simp at h
      | false =>
        rw [h2] at h
        by_cases h3 : (x.depth : Int) > 12
        · rw [decide_eq_true h3] at h; simp at h
        · by_cases h4 : x.cnt > 32
          · rw [decide_eq_true h4] at h; simp at h
          · rw [decide_eq_false h3, decide_eq_false h4]
            exact ⟨⟨⟨a1, a2, a3, by simp only [cond_false, Bool.or_false]; omega⟩, a4, by simp only [cond_false, Bool.or_false]; omega⟩, h2⟩
theorem expanded_eq {m : List (Str × ApiType)} (hm : MOk m) (t : ApiType) (hb : t.bulk ≤ 1048576) : types_expanded t m = some (expT m t) := by
  have ht : Ok t := by unfold Ok BB; omega
  unfold types_expanded expT
  rw [CheckType_eq t ht, ob, replaced_eq hm t ht]
  cases hc : checkT t != 0 with
  | true => rfl
  | false =>
    rw [if_neg (by simp), ob]
    cases hx : t.rp m with
    | none => rfl
    | some x =>
      obtain ⟨a1, a2, a3, a4⟩ := rp_fine hm hb (by simpa using hc) hx
      simp only [rpRes, Bool.not_true, Bool.false_eq_true, if_false]
      rw [twice_eq x a1, depth_eq2 x a1, count_eq x a2]
      simp only [ob]
      cases x.some isTw <;> cases decide ((x.depth : Int) > 12) <;> cases h4 : decide (x.cnt > 32) <;> simp only [ob, Bool.not_false, Bool.not_true, Bool.false_eq_true, if_true, if_false, cond_true, cond_false, Bool.or_true, Bool.true_or, Bool.or_false, rpRes.zTy, h4]
end Go.Proofs.YtonilfkaecbjnaaDoor

