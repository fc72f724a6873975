/-
  Scalars, Values, Clamp, Contains: both sides.
-/
import Derived.Test.YtonilfkaecbjnaaDoorPdE
set_option linter.unusedSimpArgs false
namespace Go.Proofs.YtonilfkaecbjnaaDoor
open Go.Am

/-! ### valid types -/
structure Val (t : ApiType) : Prop where
  ok : Ok t
  fine : Fine t
  nm : t.some isNm = false
  cnt : t.cnt ≤ 32
theorem Val.of {t : ApiType} (hok : Ok t) (h : checkAll t = 0) : Val t ∧ t.some isTw = false := by
  unfold checkAll at h
  cases hc : checkT t != 0 with
  | true =>
    rw [hc] at h
    simp only [cond_true] at h
    rw [h] at hc
    cases hc
  | false =>
    rw [hc] at h
    have hf := fine_of (show checkT t = 0 by simpa using hc)
    simp only [cond_false, plainT] at h
    cases h1 : t.some isNm with
    | true => rw [h1] at h; cases h
    | false =>
      cases h2 : t.some isTw with
      | true => rw [h1, h2] at h; cases h
      | false =>
        rw [h1, h2] at h
        by_cases h3 : t.cnt > 32
        · rw [decide_eq_true h3] at h; cases h
        · exact ⟨⟨hok, hf, h1, by omega⟩, rfl⟩
theorem Val.kid0 {t x : ApiType} (h : Val t) (hx : x ∈ t.Of) (hc : x.cnt ≤ 32) : Val x := by
  refine ⟨h.ok.kid hx, h.fine.kid hx, ?_, hc⟩
  have := h.nm
  rw [ApiType.some_eq, Bool.or_eq_false_iff] at this
  cases hn : x.some isNm with
  | false => rfl
  | true =>
    have h2 := List.any_eq_true.2 ⟨x, hx, hn⟩
    rw [this.2] at h2
    cases h2
theorem Val.cnt_pos (t : ApiType) : Val t → 1 ≤ t.cnt := by
  induction t using ApiType.ind with
  | h t ih =>
  intro h
  have hc := h.cnt
  rw [ApiType.cnt_eq] at hc ⊢
  cases h2 : t.Kind == 2 with
  | true =>
    obtain ⟨x, hx, s1, s2⟩ := h.fine.arr h2
    have hm : x ∈ t.Of := by rw [hx]; exact List.mem_cons_self
    rw [hx, h2] at hc
    rw [hx]
    simp only [cond_true, ApiType.cnt1] at hc ⊢
    have h0 := ApiType.cnt_ge x (h.fine.kid hm)
    have hle : x.cnt ≤ 32 := by
      have : 1 * x.cnt ≤ min t.Size 33 * x.cnt := Int.mul_le_mul_of_nonneg_right (by omega) h0
      omega
    have := ih x hm (h.kid0 hm hle)
    have : 1 * 1 ≤ min t.Size 33 * x.cnt := Int.mul_le_mul (by omega) this (by omega) (by omega)
    omega
  | false =>
    cases h3 : t.Kind == 3 with
    | true =>
      rw [h2, h3] at hc
      simp only [cond_true, cond_false] at hc ⊢
      obtain ⟨r1, r2, r3⟩ := h.fine.recd h3
      cases hl : t.Of with
      | nil => rw [hl] at r3; simp at r3
      | cons x r =>
        have hm : x ∈ t.Of := by rw [hl]; exact List.mem_cons_self
        have hb := ApiType.cnts_bound r fun y hy => ApiType.cnt_ge y (h.fine.kid (by rw [hl]; exact List.mem_cons_of_mem _ hy))
        rw [hl] at hc
        simp only [ApiType.cnts] at hc ⊢
        have := ih x hm (h.kid0 hm (by omega))
        omega
    | false => show 1 ≤ min (1 : Int) 33; omega
theorem Val.arr {t : ApiType} (h : Val t) (h2 : (t.Kind == 2) = true) : ∃ x, t.Of = [x] ∧ 1 ≤ t.Size ∧ t.Size ≤ 32 ∧ Val x ∧ t.cnt = t.Size * x.cnt := by
  obtain ⟨x, hx, s1, s2⟩ := h.fine.arr h2
  have hm : x ∈ t.Of := by rw [hx]; exact List.mem_cons_self
  have h0 := ApiType.cnt_ge x (h.fine.kid hm)
  have hc := h.cnt
  have e := ApiType.cnt_eq t
  rw [hx, h2] at e
  simp only [cond_true, ApiType.cnt1] at e
  rw [show min t.Size 33 = t.Size by omega] at e
  have hle : x.cnt ≤ 32 := by
    have : 1 * x.cnt ≤ t.Size * x.cnt := Int.mul_le_mul_of_nonneg_right (by omega) h0
    omega
  exact ⟨x, hx, s1, s2, h.kid0 hm hle, by omega⟩
theorem cnts_kid {x : ApiType} : ∀ {l : List ApiType}, (∀ y ∈ l, 0 ≤ y.cnt) → x ∈ l → x.cnt ≤ ApiType.cnts l
  | y :: r, h, hx => by
    have h1 := ApiType.cnts_bound r fun z hz => h z (List.mem_cons_of_mem _ hz)
    have h2 := h y List.mem_cons_self
    simp only [ApiType.cnts]
    cases hx with
    | head => omega
    | tail _ hx => have := cnts_kid (fun z hz => h z (List.mem_cons_of_mem _ hz)) hx; omega
theorem Val.recd {t : ApiType} (h : Val t) (h3 : (t.Kind == 3) = true) : t.Of.length = t.Names.length ∧ t.Of.length ≤ 32 ∧ (∀ x ∈ t.Of, Val x) ∧ t.cnt = ApiType.cnts t.Of := by
  obtain ⟨r1, r2, r3⟩ := h.fine.recd h3
  have hn := fun y hy => ApiType.cnt_ge y (h.fine.kid hy)
  have hc := h.cnt
  have e := ApiType.cnt_eq t
  have h2 : (t.Kind == 2) = false := by
    have : t.Kind = 3 := by simpa using h3
    rw [this]; rfl
  rw [h2, h3] at e
  simp only [cond_true, cond_false] at e
  refine ⟨r2, r1, fun x hx => ?_, by omega⟩
  have := cnts_kid hn hx
  exact h.kid0 hx (by omega)
theorem Val.leaf {t : ApiType} (h : Val t) (h2 : (t.Kind == 2) = false) (h3 : (t.Kind == 3) = false) : t.cnt = 1 ∧ (t.Kind = 0 ∨ t.Kind = 1) := by
  have e := ApiType.cnt_eq t
  rw [h2, h3] at e
  refine ⟨by rw [e]; rfl, ?_⟩
  have hn := h.nm
  rw [ApiType.some_eq, Bool.or_eq_false_iff] at hn
  have hf := h.fine.here.1
  unfold formN fm1 at hf
  simp only [Bool.and_eq_true] at hf
  have h1 := hf.1.1.1.1.1
  cases hd : decide (t.Kind ≥ 0) with
  | false => rw [hd] at h1; cases h1
  | true =>
    rw [hd] at h1
    have a1 := of_decide_eq_true hd
    have a2 : t.Kind ≤ 4 := of_decide_eq_true h1
    have a3 : t.Kind ≠ 2 := by simpa using h2
    have a4 : t.Kind ≠ 3 := by simpa using h3
    have a5 : t.Kind ≠ 4 := by
      have := hn.1
      unfold isNm at this
      simpa using this
    omega

/-! ### the scalars of a type -/
def rep {β : Type} (f : Nat → List β) : Nat → Nat → List β
  | _, 0 => []
  | k, n + 1 => f k ++ rep f (k + 1) n
def nx (path name : Str) : Str := (path ++ [46]) ++ name
mutual
def ApiType.sc : ApiType → Str → List ApiScalar
  | .mk k l h s _ ns of, path => bif k == 0 then [⟨path, true, 0, 1⟩] else bif k == 1 then [⟨path, false, l, h⟩] else bif k == 2 then ApiType.scA of path s.toNat else bif k == 3 then ApiType.scR of ns path else []
def ApiType.scA : List ApiType → Str → Nat → List ApiScalar
  | [], _, _ => []
  | x :: _, path, n => rep (fun i => ApiType.sc x (nx path (Lib.decDigits i))) 0 n
def ApiType.scR : List ApiType → List Str → Str → List ApiScalar
  | x :: r, n :: ns, path => ApiType.sc x (nx path n) ++ ApiType.scR r ns path
  | _, _, _ => []
end
theorem ApiType.sc_eq (t : ApiType) (path : Str) : t.sc path = bif t.Kind == 0 then [⟨path, true, 0, 1⟩] else bif t.Kind == 1 then [⟨path, false, t.Low, t.High⟩] else bif t.Kind == 2 then ApiType.scA t.Of path t.Size.toNat else bif t.Kind == 3 then ApiType.scR t.Of t.Names path else [] := by cases t; rfl

theorem dec_len {k : Nat} (h : k < 100) : (Lib.decDigits k).length ≤ 2 := by
  have h2 : ∀ k < 10, (Lib.decDigits k).length = 1 := fun k hk => by rw [Lib.decDigits, dif_pos hk]; rfl
  rw [Lib.decDigits]
  split
  · simp
  · rw [List.length_append, h2 _ (by omega)]; simp
theorem Itoa_eq {k : Nat} (h : k < 100) : X_Itoa (k : Int) = some (Lib.decDigits k) := by
  unfold X_Itoa
  rw [if_pos (decide_eq_true (by omega))]
  rfl
/-! ### the program's Scalars -/
theorem sClone_eq (s : Str) (h : s.length ≤ BB) : strings_Clone s = some s := by
  unfold strings_Clone X_Clone
  unfold BB at h
  rw [if_pos (decide_eq_true (by omega))]
  rfl
def leafSc (path : Str) (t : ApiType) : List ApiScalar := bif t.Kind == 0 then [⟨path, true, 0, 1⟩] else bif t.Kind == 1 then [⟨path, false, t.Low, t.High⟩] else []
theorem visit_eq (path : Str) (a : Int) (x : ApiType) (s : List ApiScalar) (hp : path.length ≤ BB) (hs : s.length ≤ 1000) : types_Scalars_1_v2 path a x s = some (true, s ++ leafSc path x) := by
  unfold types_Scalars_1_v2 leafSc
  have hs' : (s.length + 1) * 41 ≤ 140737488355328 := by omega
  rw [sClone_eq path hp]
  cases x.Kind == 0 <;> cases x.Kind == 1 <;> simp [ob, hs']
theorem each_l1 (path : Str) (t x : ApiType) (hx : t.Of = [x]) (hs : t.Size ≤ 32) (hp : path.length + t.bulk ≤ BB) (c : Nat) (hc : x.cnt = c)
    (ih : ∀ (path : Str) (s : Int) (s1 : List ApiScalar), path.length + x.bulk ≤ BB → 0 ≤ s → s + c ≤ 1000 → s1.length + c ≤ 1000 → types_each_1_v2 path x s s1 = some (true, s + c, s1 ++ x.sc path)) (hl : ∀ path, (x.sc path).length = c) :
    ∀ (n k : Nat) (o : Int) (l : List ApiScalar), ((k + n : Nat) : Int) = t.Size → 0 ≤ o → o + (n * c : Nat) ≤ 1000 → l.length + n * c ≤ 1000 →
      types_each_1_v2_l1 path t o l k = some (true, o + (n * c : Nat), l ++ rep (fun i => x.sc (nx path (Lib.decDigits i))) k n)
  | 0, k, o, l, hk, _, _, _ => by
    rw [types_each_1_v2_l1, if_neg (by simp; omega)]
    simp [rep]
  | n + 1, k, o, l, hk, h0, h1, h2 => by
    have hd := dec_len (k := k) (by omega)
    have hbx := ApiType.bulk_eq t
    rw [hx] at hbx
    simp only [ApiType.bulks] at hbx
    unfold BB at hp
    rw [Nat.add_mul, Nat.one_mul] at h1 h2
    rw [types_each_1_v2_l1, if_pos (decide_eq_true (by omega)), if_pos (decide_eq_true (by unfold maxLen; omega)), Itoa_eq (by omega), ob, if_pos (decide_eq_true (by unfold maxLen; simp; omega)), hx, show idx [x] 0 = some x from rfl, ob,
      ih _ o l (by unfold BB; simp; omega) h0 (by omega) (by omega), ob]
    simp only [Bool.not_true, Bool.false_eq_true, if_false]
    rw [w1 (by unfold BB; omega), each_l1 path t x hx hs (by unfold BB; omega) c hc ih hl n (k + 1) _ _ (by omega) (by omega) (by omega) (by rw [List.length_append, hl]; omega)]
    rw [rep, Nat.add_mul, Nat.one_mul, List.append_assoc]
    congr 3
    omega
theorem each_l2 (path : Str) (t : ApiType) (hp : path.length + t.bulk ≤ BB) (hln : t.Of.length = t.Names.length) (hv : ∀ x ∈ t.Of, Val x)
    (ih : ∀ x ∈ t.Of, ∀ (path : Str) (s : Int) (s1 : List ApiScalar), path.length + x.bulk ≤ BB → 0 ≤ s → s + x.cnt ≤ 1000 → s1.length + x.cnt ≤ 1000 → types_each_1_v2 path x s s1 = some (true, s + x.cnt, s1 ++ x.sc path)) (hl : ∀ x ∈ t.Of, ∀ path, ((x.sc path).length : Int) = x.cnt) :
    ∀ (r : List ApiType) (k : Nat) (o : Int) (l : List ApiScalar), t.Of.drop k = r → 0 ≤ o → o + ApiType.cnts r ≤ 1000 → l.length + ApiType.cnts r ≤ 1000 →
      types_each_1_v2_l2 path t o l k = some (true, o + ApiType.cnts r, l ++ ApiType.scR r (t.Names.drop k) path)
  | [], k, o, l, h, _, _, _ => by
    rw [types_each_1_v2_l2, (lp_out h).1, if_neg (by simp)]
    simp [ApiType.cnts, ApiType.scR]
  | x :: r, k, o, l, h, h0, h1, h2 => by
    obtain ⟨e1, e2, e3, e4, e5⟩ := lp_in h
    obtain ⟨y, f1, f2, f3⟩ := lp_at (l := t.Names) (k := k) (by omega)
    have hof := (hv x e5).ok
    have hofs : t.Of.length ≤ BB := by have := ApiType.bulk_len t.Of; have := ApiType.bulk_eq t; omega
    have hc := Val.cnt_pos x (hv x e5)
    have hr := ApiType.cnts_bound r fun y hy => by have := Val.cnt_pos y (hv y (List.mem_of_mem_drop (i := k + 1) (by rw [e3]; exact hy))); omega
    have hbx := ApiType.bulk_eq t
    have hb1 := ApiType.bulk_kid e5
    have hb2 := strs_kid f3
    unfold BB at hp hofs
    simp only [ApiType.cnts] at h1 h2
    rw [types_each_1_v2_l2, e1, if_pos rfl, e2, ob, if_pos (decide_eq_true (by unfold maxLen; omega)), f1, ob, if_pos (decide_eq_true (by unfold maxLen; simp; omega)),
      ih x e5 _ o l (by unfold BB; simp; omega) h0 (by omega) (by omega), ob]
    simp only [Bool.not_true, Bool.false_eq_true, if_false]
    have hlx := hl x e5 ((path ++ [46]) ++ y)
    rw [w1 (by unfold BB; omega), each_l2 path t (by unfold BB; omega) hln hv ih hl r (k + 1) _ _ e3 (by omega) (by omega) (by rw [List.length_append]; omega)]
    rw [f2, ApiType.scR, ApiType.cnts, List.append_assoc, Int.add_assoc]
    rfl
theorem rep_len {β : Type} {f : Nat → List β} {c : Nat} (h : ∀ i, (f i).length = c) : ∀ n k, (rep f k n).length = n * c
  | 0, k => by simp [rep]
  | n + 1, k => by rw [rep, List.length_append, h, rep_len h n, Nat.add_mul]; omega
theorem sc_len (t : ApiType) : Val t → ∀ path, ((t.sc path).length : Int) = t.cnt := by
  induction t using ApiType.ind with
  | h t ih =>
  intro hv path
  rw [ApiType.sc_eq]
  cases h2 : t.Kind == 2 with
  | true =>
    obtain ⟨x, hx, s1, s2, hvx, e⟩ := hv.arr h2
    have hk : t.Kind = 2 := by simpa using h2
    have ihx := ih x (by rw [hx]; exact List.mem_cons_self) hvx
    have hcp := Val.cnt_pos x hvx
    rw [hk, hx, e]
    show ((ApiType.scA [x] path t.Size.toNat).length : Int) = _
    rw [ApiType.scA, rep_len (c := x.cnt.toNat) (fun i => by have := ihx (nx path (Lib.decDigits i)); omega)]
    rw [Int.natCast_mul, show ((t.Size.toNat : Nat) : Int) = t.Size by omega, show ((x.cnt.toNat : Nat) : Int) = x.cnt by omega]
  | false =>
    cases h3 : t.Kind == 3 with
    | true =>
      obtain ⟨r1, r2, r3, e⟩ := hv.recd h3
      have hk : t.Kind = 3 := by simpa using h3
      rw [hk, e]
      show ((ApiType.scR t.Of t.Names path).length : Int) = _
      have key : ∀ (l : List ApiType) (ns : List Str), l.length = ns.length → (∀ x ∈ l, x ∈ t.Of) → ((ApiType.scR l ns path).length : Int) = ApiType.cnts l := by
        intro l
        induction l with
        | nil => intro ns _ _; rfl
        | cons x r ihr =>
          intro ns hl hm
          cases ns with
          | nil => simp at hl
          | cons n ns =>
            have h1 := ih x (hm x List.mem_cons_self) (r3 x (hm x List.mem_cons_self)) (nx path n)
            have h2 := ihr ns (by simpa using hl) fun y hy => hm y (List.mem_cons_of_mem _ hy)
            rw [ApiType.scR, List.length_append, ApiType.cnts]
            omega
      exact key t.Of t.Names r1 fun _ h => h
    | false =>
      obtain ⟨e, hk⟩ := hv.leaf h2 h3
      rw [e]
      rcases hk with hk | hk <;> rw [hk] <;> rfl
theorem each_eq (t : ApiType) : Val t → ∀ (path : Str) (s : Int) (s1 : List ApiScalar), path.length + t.bulk ≤ BB → 0 ≤ s → s + t.cnt ≤ 1000 → s1.length + t.cnt ≤ 1000 → types_each_1_v2 path t s s1 = some (true, s + t.cnt, s1 ++ t.sc path) := by
  induction t using ApiType.ind with
  | h t ih =>
  intro hv path s s1 hp h0 h1 h2
  have hcp := Val.cnt_pos t hv
  rw [types_each_1_v2, visit_eq path s t s1 (by omega) (by omega), ob, ApiType.sc_eq]
  show (if (!true) = true then _ else _) = _
  rw [if_neg (by simp)]
  cases hk2 : t.Kind == 2 with
  | true =>
    obtain ⟨x, hx, s1', s2', hvx, e⟩ := hv.arr hk2
    have hk : t.Kind = 2 := by simpa using hk2
    have hm : x ∈ t.Of := by rw [hx]; exact List.mem_cons_self
    have hcx := Val.cnt_pos x hvx
    obtain ⟨c, hc⟩ : ∃ c : Nat, x.cnt = c := ⟨x.cnt.toNat, by omega⟩
    have en : ((t.Size.toNat * c : Nat) : Int) = t.cnt := by rw [e, hc, Int.natCast_mul, show ((t.Size.toNat : Nat) : Int) = t.Size by omega]
    have := each_l1 path t x hx s2' hp c hc (fun p s l a b c' d => by have := ih x hm hvx p s l a b (by omega) (by omega); rw [hc] at this; exact this) (fun p => by have := sc_len x hvx p; omega) t.Size.toNat 0 s s1 (by omega) h0 (by omega) (by omega)
    rw [if_pos rfl]
    have hls : leafSc path t = [] := by unfold leafSc; rw [hk]; rfl
    show types_each_1_v2_l1 path t s (s1 ++ leafSc path t) ((0 : Nat) : Int) = _
    rw [hls, List.append_nil, this, en, hk, hx]
    rfl
  | false =>
    rw [if_neg (by simp)]
    cases hk3 : t.Kind == 3 with
    | true =>
      obtain ⟨r1, r2, r3, e⟩ := hv.recd hk3
      have hk : t.Kind = 3 := by simpa using hk3
      have := each_l2 path t hp r1 r3 (fun x hx => ih x hx (r3 x hx)) (fun x hx => sc_len x (r3 x hx)) t.Of 0 s s1 rfl h0 (by omega) (by omega)
      rw [if_pos rfl]
      have hls : leafSc path t = [] := by unfold leafSc; rw [hk]; rfl
      show types_each_1_v2_l2 path t s (s1 ++ leafSc path t) ((0 : Nat) : Int) = _
      rw [hls, List.append_nil, this, e, hk]
      rfl
    | false =>
      obtain ⟨e, hk⟩ := hv.leaf hk2 hk3
      rw [if_neg (by simp), wr (by omega) (by omega), e]
      unfold leafSc
      rcases hk with hk | hk <;> rw [hk] <;> rfl
def scalarsT (t : ApiType) : List ApiScalar × Int := bif checkAll t != 0 then ([], checkAll t) else (t.sc [], 0)
theorem Scalars_eq (t : ApiType) (ht : Ok t) : types_Scalars t = some (scalarsT t) := by
  unfold types_Scalars scalarsT
  rw [Check_eq t ht, ob]
  cases h : checkAll t != 0 with
  | true => rfl
  | false =>
    have hv := (Val.of ht (by simpa using h)).1
    have hc := hv.cnt
    unfold types_each_v2
    have := each_eq t hv [] 0 [] (by unfold Ok at ht; simpa using ht) (by omega) (by omega) (by simp; omega)
    rw [this, ob, if_neg (by simp), ob]
    rfl

/-! ### the reference's Scalars -/
end Go.Proofs.YtonilfkaecbjnaaDoor

