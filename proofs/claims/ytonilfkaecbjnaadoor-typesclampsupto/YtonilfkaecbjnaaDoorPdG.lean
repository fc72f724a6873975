/-
  Values, Clamp, Contains: both sides; P12.3 (first) and P12.5.
-/
import Derived.Test.YtonilfkaecbjnaaDoorPdF
set_option linter.unusedSimpArgs false
namespace Go.Proofs.YtonilfkaecbjnaaDoor
open Go.Am

/-! ### ranges of scalars -/
def Rng (s : ApiScalar) : Prop := -1048576 ≤ s.Low ∧ s.Low ≤ s.High ∧ s.High ≤ 1048576
theorem rep_mem {β : Type} {f : Nat → List β} {y : β} : ∀ {n k : Nat}, y ∈ rep f k n → ∃ i, k ≤ i ∧ i < k + n ∧ y ∈ f i
  | 0, k, h => by simp [rep] at h
  | n + 1, k, h => by
    rw [rep, List.mem_append] at h
    rcases h with h | h
    · exact ⟨k, Nat.le_refl _, by omega, h⟩
    · obtain ⟨i, h1, h2, h3⟩ := rep_mem h
      exact ⟨i, by omega, by omega, h3⟩
theorem scR_mem {s : ApiScalar} {path : Str} : ∀ {l : List ApiType} {ns : List Str}, s ∈ ApiType.scR l ns path → ∃ x n, x ∈ l ∧ n ∈ ns ∧ s ∈ x.sc (nx path n)
  | [], ns, h => by simp [ApiType.scR] at h
  | x :: r, [], h => by simp [ApiType.scR] at h
  | x :: r, n :: ns, h => by
    rw [ApiType.scR, List.mem_append] at h
    rcases h with h | h
    · exact ⟨x, n, List.mem_cons_self, List.mem_cons_self, h⟩
    · obtain ⟨y, m, h1, h2, h3⟩ := scR_mem h
      exact ⟨y, m, List.mem_cons_of_mem _ h1, List.mem_cons_of_mem _ h2, h3⟩
theorem sc_rng (t : ApiType) : Val t → ∀ path, ∀ s ∈ t.sc path, Rng s := by
  induction t using ApiType.ind with
  | h t ih =>
  intro hv path s hs
  rw [ApiType.sc_eq] at hs
  cases h2 : t.Kind == 2 with
  | true =>
    obtain ⟨x, hx, s1, s2, hvx, e⟩ := hv.arr h2
    have hk : t.Kind = 2 := by simpa using h2
    rw [hk, hx] at hs
    have hs' : s ∈ rep (fun i => x.sc (nx path (Lib.decDigits i))) 0 t.Size.toNat := hs
    obtain ⟨i, _, _, h3⟩ := rep_mem hs'
    exact ih x (by rw [hx]; exact List.mem_cons_self) hvx _ s h3
  | false =>
    cases h3 : t.Kind == 3 with
    | true =>
      obtain ⟨r1, r2, r3, e⟩ := hv.recd h3
      have hk : t.Kind = 3 := by simpa using h3
      rw [hk] at hs
      have hs' : s ∈ ApiType.scR t.Of t.Names path := hs
      obtain ⟨x, n, h4, _, h5⟩ := scR_mem hs'
      exact ih x h4 (r3 x h4) _ s h5
    | false =>
      obtain ⟨e, hk⟩ := hv.leaf h2 h3
      rcases hk with hk | hk
      · rw [hk] at hs
        have hs' : s ∈ [(⟨path, true, 0, 1⟩ : ApiScalar)] := hs
        simp at hs'
        subst hs'
        unfold Rng
        simp
      · rw [hk] at hs
        have hs' : s ∈ [(⟨path, false, t.Low, t.High⟩ : ApiScalar)] := hs
        simp at hs'
        subst hs'
        have hn := hv.fine.here.2
        unfold numN nm2 inside at hn
        rw [hk] at hn
        simp at hn
        unfold Rng
        simp only
        omega
theorem scT_rng {t : ApiType} (ht : Ok t) : ∀ s ∈ (scalarsT t).1, Rng s := by
  intro s hs
  unfold scalarsT at hs
  cases h : checkAll t != 0 with
  | true => rw [h] at hs; simp at hs
  | false => rw [h] at hs; exact sc_rng t (Val.of ht (by simpa using h)).1 [] s hs
/-! ### Values -/
/-! ### slices.Equal -/
theorem iEqual_l (s u : List Int) (hs : s.length ≤ BB) (hl : s.length = u.length) : ∀ (r : List Int) (k : Nat), s.drop k = r → slices_Equal_int_int_l1 s u k = some (eqL (fun x y => x == y) r (u.drop k))
  | [], k, h => by
    rw [slices_Equal_int_int_l1, (lp_out h).1, if_neg (by simp), List.drop_eq_nil_of_le (by have := (lp_out h).2; omega)]; rfl
  | x :: r, k, h => by
    obtain ⟨e1, e2, e3, e4, e5⟩ := lp_in h
    obtain ⟨y, f1, f2, f3⟩ := lp_at (l := u) (k := k) (by omega)
    rw [slices_Equal_int_int_l1, e1, if_pos rfl, e2, ob, f1, ob, w1 (by omega), iEqual_l s u hs hl r (k + 1) e3, f2, eqL, bne]
    cases x == y <;> simp
theorem iEqual_eq (s u : List Int) (hs : s.length ≤ BB) : slices_Equal_int_int s u = some (eqL (fun x y => x == y) s u) := by
  unfold slices_Equal_int_int
  by_cases hl : s.length = u.length
  · rw [if_neg (by simp; omega), z0, iEqual_l s u hs hl s 0 rfl]; rfl
  · rw [if_pos (by simp; omega), eqL_len _ hl]

/-! ### Clamp -/
def cl (s : ApiScalar) (n : Int) : Int := min (max n s.Low) s.High
def cls : List ApiScalar → List Int → List Int
  | s :: r, n :: m => cl s n :: cls r m
  | _, _ => []
theorem cls_len : ∀ {l : List ApiScalar} {m : List Int}, l.length = m.length → (cls l m).length = m.length
  | [], [], _ => rfl
  | s :: r, n :: m, h => by simp only [cls, List.length_cons]; rw [cls_len (by simpa using h)]
  | [], _ :: _, h => by simp at h
  | _ :: _, [], h => by simp at h
theorem Clamp_l (list : List Int) (x1 : List ApiScalar × Int) (hl : x1.1.length = list.length) (hb : list.length ≤ BB) :
    ∀ (r : List ApiScalar) (k : Nat) (a : List Int), x1.1.drop k = r → a.length = k → k ≤ list.length → types_Clamp_l1 list (a ++ List.replicate (list.length - k) 0) x1 k = some (a ++ cls r (list.drop k), 0)
  | [], k, a, h, ha, hk => by
    have h1 := lp_out h
    rw [types_Clamp_l1, h1.1, if_neg (by simp), show list.length - k = 0 by omega, if_pos (decide_eq_true (by simp; omega))]
    simp [cls]
  | s :: r, k, a, h, ha, hk => by
    obtain ⟨e1, e2, e3, e4, e5⟩ := lp_in h
    obtain ⟨y, f1, f2, f3⟩ := lp_at (l := list) (k := k) (by omega)
    rw [types_Clamp_l1, e1, if_pos rfl, e2, ob, f1, ob, if_pos (decide_eq_true (by omega)), if_pos (decide_eq_true (by simp; omega)), w1 (by omega)]
    have e : (a ++ List.replicate (list.length - k) (0 : Int)).set ((k : Int).toNat) (min (max y s.Low) s.High) = (a ++ [cl s y]) ++ List.replicate (list.length - (k + 1)) 0 := by
      rw [show ((k : Int).toNat) = a.length by omega, show list.length - k = list.length - (k + 1) + 1 by omega, List.replicate_succ, List.set_append_right _ _ (Nat.le_refl _)]
      simp [cl]
    rw [e, Clamp_l list x1 hl hb r (k + 1) (a ++ [cl s y]) e3 (by simp; omega) (by omega), f2, cls]
    simp
def clampT (t : ApiType) (list : List Int) : List Int × Int :=
  bif (scalarsT t).2 != 0 then ([], (scalarsT t).2) else bif ((scalarsT t).1.length : Int) != (list.length : Int) then ([], 2) else (cls (scalarsT t).1 list, 0)
theorem Clamp_eq (t : ApiType) (ht : Ok t) (list : List Int) (hb : list.length ≤ 1000000) : types_Clamp t list = some (clampT t list) := by
  unfold types_Clamp clampT
  rw [Scalars_eq t ht, ob]
  cases h1 : (scalarsT t).2 != 0 with
  | true => rfl
  | false =>
    rw [if_neg (by simp)]
    cases h2 : ((scalarsT t).1.length : Int) != (list.length : Int) with
    | true => rfl
    | false =>
      have hl : (scalarsT t).1.length = list.length := by
        have : ((scalarsT t).1.length : Int) = (list.length : Int) := by simpa using h2
        omega
      have := Clamp_l list (scalarsT t) hl (by unfold BB; omega) _ 0 [] rfl rfl (by omega)
      rw [if_neg (by simp), if_pos (decide_eq_true (by simp; omega))]
      simp only [List.nil_append, Nat.sub_zero, List.drop_zero] at this
      exact this
theorem rClamp_l (list : List Int) (x1 : List ApiScalar × Int) (hl : x1.1.length = list.length) (hb : list.length ≤ 1000000) :
    ∀ (r : List ApiScalar) (k : Nat) (a : List Int), x1.1.drop k = r → a.length = k → k ≤ list.length → ref12_Clamp_l1 list x1 a k = some (a ++ cls r (list.drop k), 0)
  | [], k, a, h, ha, hk => by
    have h1 := lp_out h
    rw [ref12_Clamp_l1, h1.1, if_neg (by simp)]
    simp [cls]
  | s :: r, k, a, h, ha, hk => by
    obtain ⟨e1, e2, e3, e4, e5⟩ := lp_in h
    obtain ⟨y, f1, f2, f3⟩ := lp_at (l := list) (k := k) (by omega)
    have j3 : ∀ n, ref12_Clamp_j3 list x1 a k n = some (a ++ n :: cls r (list.drop (k + 1)), 0) := fun n => by
      rw [ref12_Clamp_j3, if_pos (decide_eq_true (by omega)), w1 (by unfold BB; omega), rClamp_l list x1 hl hb r (k + 1) (a ++ [n]) e3 (by simp; omega) (by omega)]
      simp
    have j2 : ∀ n, ref12_Clamp_j2 list x1 a k n = some (a ++ min n s.High :: cls r (list.drop (k + 1)), 0) := fun n => by
      rw [ref12_Clamp_j2, e2, ob, ob, j3, j3]
      by_cases hn : n > s.High
      · rw [if_pos (decide_eq_true hn), show min n s.High = s.High by omega]
      · rw [if_neg (by simpa using hn), show min n s.High = n by omega]
    rw [ref12_Clamp_l1, e1, if_pos rfl, f1, ob, e2, ob, ob, j2, j2, f2, cls, cl]
    by_cases hn : y < s.Low
    · rw [if_pos (decide_eq_true hn), show max y s.Low = s.Low by omega]
    · rw [if_neg (by simpa using hn), show max y s.Low = y by omega]
theorem rClamp_eq (t : ApiType) (ht : Ok t) (list : List Int) (hb : list.length ≤ 1000000) : ref12_Clamp t list = some (clampT t list) := by
  unfold ref12_Clamp clampT
  rw [rScalars_eq t ht, ob]
  cases h1 : (scalarsT t).2 != 0 with
  | true => rfl
  | false =>
    rw [if_neg (by simp)]
    cases h2 : ((scalarsT t).1.length : Int) != (list.length : Int) with
    | true => rfl
    | false =>
      have hl : (scalarsT t).1.length = list.length := by
        have : ((scalarsT t).1.length : Int) = (list.length : Int) := by simpa using h2
        omega
      have := rClamp_l list (scalarsT t) hl hb _ 0 [] rfl rfl (by omega)
      rw [if_neg (by simp)]
      exact this

/-! ### Contains -/
def inR (s : ApiScalar) (n : Int) : Bool := decide (s.Low ≤ n) && decide (n ≤ s.High)
theorem cl_eq {s : ApiScalar} (h : Rng s) (n : Int) : (cl s n == n) = inR s n := by
  obtain ⟨_, h2, _⟩ := h
  unfold cl inR
  rw [Bool.eq_iff_iff]
  simp
  omega
def ins : List ApiScalar → List Int → Bool
  | s :: r, n :: m => inR s n && ins r m
  | _, _ => true
theorem cls_eq : ∀ {l : List ApiScalar} {m : List Int}, (∀ s ∈ l, Rng s) → l.length = m.length → eqL (fun x y => x == y) (cls l m) m = ins l m
  | [], [], _, _ => rfl
  | s :: r, n :: m, h, hl => by
    rw [cls, eqL, ins, cl_eq (h s List.mem_cons_self), cls_eq (fun s hs => h s (List.mem_cons_of_mem _ hs)) (by simpa using hl)]
  | [], _ :: _, _, h => by simp at h
  | _ :: _, [], _, h => by simp at h
theorem cls_cls : ∀ {l : List ApiScalar} {m : List Int}, (∀ s ∈ l, Rng s) → cls l (cls l m) = cls l m
  | [], m, _ => by simp [cls]
  | s :: r, [], _ => by simp [cls]
  | s :: r, n :: m, h => by
    obtain ⟨_, h2, _⟩ := h s List.mem_cons_self
    rw [cls, cls, cls_cls (fun s hs => h s (List.mem_cons_of_mem _ hs))]
    congr 1
    unfold cl
    omega
def containsT (t : ApiType) (list : List Int) : Bool := (clampT t list).2 == 0 && ins (scalarsT t).1 list
theorem clamp_ok {t : ApiType} {list : List Int} (h : ((clampT t list).2 == 0) = true) : (scalarsT t).1.length = list.length ∧ (scalarsT t).2 = 0 ∧ clampT t list = (cls (scalarsT t).1 list, 0) := by
  unfold clampT at h ⊢
  cases h1 : (scalarsT t).2 != 0 with
  | true =>
    rw [h1] at h
    simp only [cond_true] at h
    rw [bne, h] at h1
    cases h1
  | false =>
    rw [h1] at h
    cases h2 : ((scalarsT t).1.length : Int) != (list.length : Int) with
    | true => rw [h2] at h; simp at h
    | false =>
      have : ((scalarsT t).1.length : Int) = (list.length : Int) := by simpa using h2
      exact ⟨by omega, by simpa using h1, rfl⟩
theorem Contains_eq (t : ApiType) (ht : Ok t) (list : List Int) (hb : list.length ≤ 1000000) : types_Contains t list = some (containsT t list) := by
  unfold types_Contains containsT
  rw [Clamp_eq t ht list hb, ob]
  cases h : (clampT t list).2 == 0 with
  | false => rfl
  | true =>
    obtain ⟨h1, h2, h3⟩ := clamp_ok h
    rw [if_pos rfl, h3, iEqual_eq _ _ (by simp only; rw [cls_len h1]; unfold BB; omega), cls_eq (scT_rng ht) h1]
    rfl
theorem rContains_l (list : List Int) (x1 : List ApiScalar × Int) (hl : x1.1.length = list.length) (hb : list.length ≤ 1000000) :
    ∀ (r : List ApiScalar) (k : Nat), x1.1.drop k = r → ref12_Contains_l1 list x1 k = some (ins r (list.drop k))
  | [], k, h => by rw [ref12_Contains_l1, (lp_out h).1, if_neg (by simp)]; rfl
  | s :: r, k, h => by
    obtain ⟨e1, e2, e3, e4, e5⟩ := lp_in h
    obtain ⟨y, f1, f2, f3⟩ := lp_at (l := list) (k := k) (by omega)
    rw [ref12_Contains_l1, e1, if_pos rfl, f1, ob, e2, ob, w1 (by unfold BB; omega), rContains_l list x1 hl hb r (k + 1) e3, f2, ins, inR]
    by_cases h1 : y < s.Low
    · rw [decide_eq_true h1, decide_eq_false (show ¬ s.Low ≤ y by omega)]; rfl
    · rw [decide_eq_false h1, decide_eq_true (show s.Low ≤ y by omega), if_pos (by simp), ob, if_pos (by simp), ob]
      by_cases h2 : y > s.High
      · rw [decide_eq_true h2, decide_eq_false (show ¬ y ≤ s.High by omega)]; rfl
      · rw [decide_eq_false h2, decide_eq_true (show y ≤ s.High by omega)]; simp
theorem rContains_eq (t : ApiType) (ht : Ok t) (list : List Int) (hb : list.length ≤ 1000000) : ref12_Contains t list = some (containsT t list) := by
  unfold ref12_Contains containsT clampT
  rw [rScalars_eq t ht, ob]
  cases h1 : (scalarsT t).2 != 0 with
  | true =>
    have : ((scalarsT t).2 == 0) = false := by rw [bne] at h1; simpa using h1
    simp [this]
  | false =>
    cases h2 : ((scalarsT t).1.length : Int) != (list.length : Int) with
    | true => rfl
    | false =>
      have hl : (scalarsT t).1.length = list.length := by
        have : ((scalarsT t).1.length : Int) = (list.length : Int) := by simpa using h2
        omega
      have := rContains_l list (scalarsT t) hl hb _ 0 rfl
      rw [if_neg (by simp)]
      exact this

/-- P12.5 -/
theorem TypesClamps_true (t : ApiType) (list : List Int) (ht : Ok t) (hk : law12_known = some true) : law12_TypesClamps t list = some true := by
  unfold law12_TypesClamps
  rw [hk, ob, if_neg (by simp), few_eq t ht, ob]
  by_cases hb : list.length ≤ 100
  · have hlen : (clampT t list).1.length ≤ 100 := by
      unfold clampT
      cases h1 : (scalarsT t).2 != 0 with
      | true => simp
      | false =>
        cases h2 : ((scalarsT t).1.length : Int) != (list.length : Int) with
        | true => simp
        | false =>
          have : ((scalarsT t).1.length : Int) = (list.length : Int) := by simpa using h2
          simp only [cond_false]
          rw [cls_len (by omega)]
          exact hb
    rw [Clamp_eq t ht list (by omega), rClamp_eq t ht list (by omega), Contains_eq t ht list (by omega), rContains_eq t ht list (by omega)]
    simp only [ob]
    rw [iEqual_eq _ _ (by unfold BB; omega), eqL_refl _ (fun x _ => by simp), Contains_eq t ht _ (by omega), iEqual_eq _ _ (by unfold BB; omega)]
    cases fewT t with
    | false => rfl
    | true =>
      rw [decide_eq_false (by omega)]
      cases h : (clampT t list).2 == 0 with
      | false =>
        have : ((clampT t list).2 != 0) = true := by rw [bne, h]; rfl
        simp [ob, this]
      | true =>
        obtain ⟨h1, h2, h3⟩ := clamp_ok h
        have hc : containsT t (clampT t list).1 = true := by
          have e : clampT t (clampT t list).1 = (cls (scalarsT t).1 list, 0) := by
            rw [h3]
            unfold clampT
            have hl2 : (((scalarsT t).1.length : Int) != ((cls (scalarsT t).1 list).length : Int)) = false := by rw [cls_len h1, h1]; simp
            rw [h2, hl2]
            simp only [bne_self_eq_false, cond_false]
            rw [cls_cls (scT_rng ht)]
          unfold containsT
          rw [e, h3]
          simp only [beq_self_eq_true, Bool.true_and]
          rw [← cls_eq (scT_rng ht) (by rw [cls_len h1, h1]), cls_cls (scT_rng ht), eqL_refl _ (fun x _ => by simp)]
        have hd : containsT t list = eqL (fun x y => x == y) (clampT t list).1 list := by
          unfold containsT
          rw [h, h3, Bool.true_and, ← cls_eq (scT_rng ht) h1]
        have hne : ((clampT t list).2 != 0) = false := by rw [bne, h]; rfl
        rw [hc, hne, hd]
        simp [ob]
  · rw [decide_eq_true (show (list.length : Int) > 100 by omega)]
    cases fewT t <;> simp
end Go.Proofs.YtonilfkaecbjnaaDoor

