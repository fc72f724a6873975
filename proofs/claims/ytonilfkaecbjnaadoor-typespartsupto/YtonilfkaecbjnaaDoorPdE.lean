/-
  named, twice, count, Check, Equal: both sides; left and few.
-/
import Derived.Test.YtonilfkaecbjnaaDoorPdD
set_option linter.unusedSimpArgs false
namespace Go.Proofs.YtonilfkaecbjnaaDoor
open Go.Am

def fidx {α : Type} (p : α → Bool) : List α → Nat → Int
  | [], _ => -1
  | x :: r, i => bif p x then (i : Int) else fidx p r (i + 1)
theorem fidx_iff {α : Type} (p : α → Bool) : ∀ (l : List α) (k : Nat), 0 ≤ fidx p l k ↔ l.any p = true
  | [], k => by simp [fidx]
  | x :: r, k => by
    have ih := fidx_iff p r (k + 1)
    rw [List.any_cons, Bool.or_eq_true, ← ih]
    show 0 ≤ (bif p x then (k : Int) else fidx p r (k + 1)) ↔ _
    cases hp : p x with
    | true => simp
    | false => simp
theorem fidx_any {α : Type} (p : α → Bool) (l : List α) (k : Nat) : decide (fidx p l k ≥ 0) = l.any p := by
  rw [Bool.eq_iff_iff, decide_eq_true_eq]
  exact fidx_iff p l k


theorem slc0 {α : Type} {l : List α} {k : Nat} (h : k ≤ l.length) : slc l 0 (k : Int) = some (l.take k) := by
  unfold slc
  rw [if_pos ⟨by omega, by omega, by omega⟩]
  simp
theorem z0 : (0 : Int) = ((0 : Nat) : Int) := rfl

/-! ### named -/
theorem named_l (s : List ApiType) (hs : s.length ≤ BB) (ih : ∀ x ∈ s, types_named x = some (x.some isNm)) :
    ∀ (r : List ApiType) (k : Nat), s.drop k = r → slices_IndexFunc_api_Type_api_Type_v2_l1 s k = some (fidx (ApiType.some isNm) r k)
  | [], k, h => by rw [slices_IndexFunc_api_Type_api_Type_v2_l1, (lp_out h).1, if_neg (by simp)]; rfl
  | x :: r, k, h => by
    obtain ⟨e1, e2, e3, e4, e5⟩ := lp_in h
    rw [slices_IndexFunc_api_Type_api_Type_v2_l1, e1, if_pos rfl, e2, ob, ih x e5, ob, w1 (by omega), named_l s hs ih r (k + 1) e3, fidx]
    cases ApiType.some isNm x <;> simp
theorem named_eq (t : ApiType) : Ok t → types_named t = some (t.some isNm) := by
  induction t using ApiType.ind with
  | h t ih =>
  intro ht
  have := named_l t.Of ht.ofs (fun x hx => ih x hx (ht.kid hx)) t.Of 0 rfl
  rw [← z0] at this
  rw [types_named, slices_ContainsFunc_api_Type_api_Type_v2, slices_IndexFunc_api_Type_api_Type_v2, this, ob, ApiType.some_eq, fidx_any]
  show _ = some ((t.Kind == 4) || _)
  cases t.Kind == 4 <;> simp
/-! ### twice -/
theorem sIndex_l (s : List Str) (v : Str) (hs : s.length ≤ BB) : ∀ (r : List Str) (k : Nat), s.drop k = r → slices_Index_string_string_l1 s v k = some (fidx (fun y => v == y) r k)
  | [], k, h => by rw [slices_Index_string_string_l1, (lp_out h).1, if_neg (by simp)]; rfl
  | x :: r, k, h => by
    obtain ⟨e1, e2, e3, e4, e5⟩ := lp_in h
    rw [slices_Index_string_string_l1, e1, if_pos rfl, e2, ob, w1 (by omega), sIndex_l s v hs r (k + 1) e3, fidx]
    cases v == x <;> simp
theorem sContains_eq (s : List Str) (v : Str) (hs : s.length ≤ BB) : slices_Contains_string_string s v = some (s.any fun y => v == y) := by
  unfold slices_Contains_string_string slices_Index_string_string
  have := sIndex_l s v hs s 0 rfl
  rw [← z0] at this
  rw [this, ob, ← fidx_any (fun y => v == y) s 0]
theorem twice_idx (s : List ApiType) (hs : s.length ≤ BB) (ih : ∀ x ∈ s, types_twice x = some (x.some isTw)) :
    ∀ (r : List ApiType) (k : Nat), s.drop k = r → slices_IndexFunc_api_Type_api_Type_l1 s k = some (fidx (ApiType.some isTw) r k)
  | [], k, h => by rw [slices_IndexFunc_api_Type_api_Type_l1, (lp_out h).1, if_neg (by simp)]; rfl
  | x :: r, k, h => by
    obtain ⟨e1, e2, e3, e4, e5⟩ := lp_in h
    rw [slices_IndexFunc_api_Type_api_Type_l1, e1, if_pos rfl, e2, ob, ih x e5, ob, w1 (by omega), twice_idx s hs ih r (k + 1) e3, fidx]
    cases ApiType.some isTw x <;> simp
theorem twice_l (t : ApiType) (ht : Ok t) (b : Bool) (hb : slices_ContainsFunc_api_Type_api_Type t.Of = some b) :
    ∀ (r : List Str) (k : Nat), t.Names.drop k = r → types_twice_l1 t k = some (tw (t.Names.take k) r || b)
  | [], k, h => by rw [types_twice_l1, (lp_out h).1, if_neg (by simp), hb, ob]; rfl
  | x :: r, k, h => by
    obtain ⟨e1, e2, e3, e4, e5⟩ := lp_in h
    have := ht.names
    have hx : t.Names[k]? = Option.some x := by
      have := congrArg List.head? h
      simpa using this
    rw [types_twice_l1, e1, if_pos rfl, e2, ob, slc0 (by omega), ob, sContains_eq _ _ (by simp; omega), ob, w1 (by omega), twice_l t ht b hb r (k + 1) e3, tw, List.take_add_one, hx]
    show _ = some (((t.Names.take k).any fun y => x == y) || tw (t.Names.take k ++ [x]) r || b)
    cases (t.Names.take k).any fun y => x == y <;> simp
theorem twice_eq (t : ApiType) : Ok t → types_twice t = some (t.some isTw) := by
  induction t using ApiType.ind with
  | h t ih =>
  intro ht
  have h1 := twice_idx t.Of ht.ofs (fun x hx => ih x hx (ht.kid hx)) t.Of 0 rfl
  have h2 : slices_ContainsFunc_api_Type_api_Type t.Of = some (t.Of.any (ApiType.some isTw)) := by
    rw [← z0] at h1
    rw [slices_ContainsFunc_api_Type_api_Type, slices_IndexFunc_api_Type_api_Type, h1, ob, fidx_any]
  rw [types_twice, z0, twice_l t ht _ h2 t.Names 0 rfl, ApiType.some_eq]
  rfl
/-! ### count -/
theorem cnts_room {t : ApiType} (hf : Fine t) (h3 : (t.Kind == 3) = true) {l : List ApiType} (hl : ∀ x ∈ l, x ∈ t.Of) (hn : l.length ≤ t.Of.length) : 0 ≤ ApiType.cnts l ∧ ApiType.cnts l ≤ 1056 := by
  have h1 := ApiType.cnts_bound l fun y hy => ApiType.cnt_ge y (hf.kid (hl y hy))
  have h2 := (hf.recd h3).1
  omega
theorem count_l (t : ApiType) (hf : Fine t) (h3 : (t.Kind == 3) = true) (ih : ∀ x ∈ t.Of, types_count x = some x.cnt) :
    ∀ (r : List ApiType) (k : Nat) (n : Int), t.Of.drop k = r → 0 ≤ n → n + ApiType.cnts r ≤ 2000 → types_count_l1 t n k = some (min (n + ApiType.cnts r) 33)
  | [], k, n, h, _, _ => by
    rw [types_count_l1, (lp_out h).1, if_neg (by simp)]
    simp [ApiType.cnts]
  | x :: r, k, n, h, h0, hb => by
    obtain ⟨e1, e2, e3, e4, e5⟩ := lp_in h
    have := (hf.recd h3).1
    have hr := cnts_room hf h3 (l := r) (fun y hy => List.mem_of_mem_drop (i := k + 1) (by rw [e3]; exact hy)) (by rw [← e3]; simp)
    have hc := ApiType.cnt_le x
    have hc' := ApiType.cnt_ge x (hf.kid e5)
    simp only [ApiType.cnts] at hb
    rw [types_count_l1, e1, if_pos rfl, e2, ob, ih x e5, ob, wr (n := n + _) (by omega) (by omega), w1 (by unfold BB; omega), count_l t hf h3 ih r (k + 1) _ e3 (by omega) (by omega)]
    simp only [ApiType.cnts, Int.add_assoc]
theorem count_eq (t : ApiType) : Fine t → types_count t = some t.cnt := by
  induction t using ApiType.ind with
  | h t ih =>
  intro hf
  have ih' := fun x hx => ih x hx (hf.kid hx)
  rw [types_count, ApiType.cnt_eq]
  cases h2 : t.Kind == 2 with
  | true =>
    obtain ⟨x, hx, s1, s2⟩ := hf.arr h2
    have hm : x ∈ t.Of := by rw [hx]; exact List.mem_cons_self
    have hc := ApiType.cnt_le x
    have hc' := ApiType.cnt_ge x (hf.kid hm)
    have hi : idx t.Of 0 = some x := by rw [hx]; rfl
    have hb : 0 ≤ min t.Size 33 * x.cnt := Int.mul_nonneg (by omega) hc'
    have hb' : min t.Size 33 * x.cnt ≤ 33 * 33 := Int.mul_le_mul (by omega) hc hc' (by omega)
    rw [if_pos rfl, hi, ob, ih' x hm, ob, wr (by omega) (by omega), hx]
    rfl
  | false =>
    cases h3 : t.Kind == 3 with
    | true =>
      have hr := cnts_room hf h3 (l := t.Of) (fun _ h => h) (Nat.le_refl _)
      rw [if_neg (by simp), if_pos rfl, z0, count_l t hf h3 ih' t.Of 0 _ rfl (by omega) (by omega)]
      simp
    | false => rfl
/-! ### Check -/
theorem Check_eq (t : ApiType) (ht : Ok t) : types_Check t = some (checkAll t) := by
  unfold types_Check checkAll
  rw [CheckType_eq t ht, ob]
  cases h : checkT t != 0 with
  | true => rfl
  | false =>
    have hf := fine_of (show checkT t = 0 by simpa using h)
    unfold types_plain plainT
    rw [named_eq t ht, twice_eq t ht, count_eq t hf]
    cases t.some isNm <;> cases t.some isTw <;> by_cases hc : t.cnt > 32 <;> simp [ob, hc]
/-! ### lists side by side -/
theorem lp_at {α : Type} {l : List α} {k : Nat} (h : k < l.length) : ∃ y, idx l (k : Int) = some y ∧ l.drop k = y :: l.drop (k + 1) ∧ y ∈ l := by
  refine ⟨l[k], ?_, List.drop_eq_getElem_cons h, List.getElem_mem h⟩
  unfold idx
  rw [if_pos (by omega)]
  simp [h]
/-! ### few -/
theorem left_l (t : ApiType) (ht : Ok t) (ih : ∀ x ∈ t.Of, ∀ n : Int, 0 ≤ n → n ≤ 1000000 → law12_left x n = some (x.left n)) :
    ∀ (r : List ApiType) (k : Nat) (n : Int), t.Of.drop k = r → -2 ≤ n → n ≤ 1000000 → law12_left_l1 t n k = some (ApiType.lefts r n)
  | [], k, n, h, _, _ => by rw [law12_left_l1, (lp_out h).1, if_neg (by simp)]; rfl
  | x :: r, k, n, h, h0, hb => by
    obtain ⟨e1, e2, e3, e4, e5⟩ := lp_in h
    have := ht.ofs
    rw [law12_left_l1, e1, ApiType.lefts, cond_true]
    by_cases hn : n ≥ 0
    · have hx := ApiType.left_bound x n hn
      rw [if_pos (decide_eq_true hn), e2, ob, ih x e5 n hn hb, ob, w1 (by omega), left_l t ht ih r (k + 1) _ e3 (by omega) (by omega), decide_eq_true hn]
      rfl
    · rw [if_neg (by simpa using hn), decide_eq_false hn]
      rfl
theorem left_eq2 (t : ApiType) : Ok t → ∀ n : Int, 0 ≤ n → n ≤ 1000000 → law12_left t n = some (t.left n) := by
  induction t using ApiType.ind with
  | h t ih =>
  intro ht n h0 hb
  have hl := ht.names
  unfold BB at hl
  rw [law12_left, wr (n := n + 1) (by omega) (by omega), wr (n := 1 + _) (by omega) (by omega), wr (n := n - _) (by omega) (by omega), z0,
    left_l t ht (fun x hx => ih x hx (ht.kid hx)) t.Of 0 _ rfl (by omega) (by omega), ApiType.left_eq]
theorem few_eq (t : ApiType) (ht : Ok t) : law12_few t = some (fewT t) := by
  unfold law12_few fewT
  rw [left_eq2 t ht 200 (by omega) (by omega), ob]

end Go.Proofs.YtonilfkaecbjnaaDoor

