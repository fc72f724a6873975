/-
  Values, Clamp, Contains: both sides; P12.3 (first) and P12.5.
-/
import Derived.Test.YtonilfkaecbjnaaDoorPdF
set_option linter.unusedSimpArgs false
namespace Go.Proofs.YtonilfkaecbjnaaDoor
open Go.Am

/-! ### ranges of scalars -/
def Rng (s : ApiScalar) : Prop := -1048576 ≤ s.Low ∧ s.Low ≤ s.High ∧ s.High ≤ 1048576
theorem rep_mem {β : Type} {f : Nat → List β} {y : β} : ∀ {n k : Nat}, y ∈ rep f k n → ∃ i, k ≤ i ∧ i < k + n ∧ y ∈ f i
  | 0, k, h => by simp [rep] at h
  | n + 1, k, h => by
    rw [rep, List.mem_append] at h
    rcases h with h | h
    · exact ⟨k, Nat.le_refl _, by omega, h⟩
    · obtain ⟨i, h1, h2, h3⟩ := rep_mem h
      exact ⟨i, by omega, by omega, h3⟩
theorem scR_mem {s : ApiScalar} {path : Str} : ∀ {l : List ApiType} {ns : List Str}, s ∈ ApiType.scR l ns path → ∃ x n, x ∈ l ∧ n ∈ ns ∧ s ∈ x.sc (nx path n)
  | [], ns, h => by simp [ApiType.scR] at h
  | x :: r, [], h => by simp [ApiType.scR] at h
  | x :: r, n :: ns, h => by
    rw [ApiType.scR, List.mem_append] at h
    rcases h with h | h
    · exact ⟨x, n, List.mem_cons_self, List.mem_cons_self, h⟩
    · obtain ⟨y, m, h1, h2, h3⟩ := scR_mem h
      exact ⟨y, m, List.mem_cons_of_mem _ h1, List.mem_cons_of_mem _ h2, h3⟩
theorem sc_rng (t : ApiType) : Val t → ∀ path, ∀ s ∈ t.sc path, Rng s := by
  induction t using ApiType.ind with
  | h t ih =>
  intro hv path s hs
  rw [ApiType.sc_eq] at hs
  cases h2 : t.Kind == 2 with
  | true =>
    obtain ⟨x, hx, s1, s2, hvx, e⟩ := hv.arr h2
    have hk : t.Kind = 2 := by simpa using h2
    rw [hk, hx] at hs
    have hs' : s ∈ rep (fun i => x.sc (nx path (Lib.decDigits i))) 0 t.Size.toNat := hs
    obtain ⟨i, _, _, h3⟩ := rep_mem hs'
    exact ih x (by rw [hx]; exact List.mem_cons_self) hvx _ s h3
  | false =>
    cases h3 : t.Kind == 3 with
    | true =>
      obtain ⟨r1, r2, r3, e⟩ := hv.recd h3
      have hk : t.Kind = 3 := by simpa using h3
      rw [hk] at hs
      have hs' : s ∈ ApiType.scR t.Of t.Names path := hs
      obtain ⟨x, n, h4, _, h5⟩ := scR_mem hs'
      exact ih x h4 (r3 x h4) _ s h5
    | false =>
      obtain ⟨e, hk⟩ := hv.leaf h2 h3
      rcases hk with hk | hk
      · rw [hk] at hs
        have hs' : s ∈ [(⟨path, true, 0, 1⟩ : ApiScalar)] := hs
        simp at hs'
        subst hs'
        unfold Rng
        simp
      · rw [hk] at hs
        have hs' : s ∈ [(⟨path, false, t.Low, t.High⟩ : ApiScalar)] := hs
        simp at hs'
        subst hs'
        have hn := hv.fine.here.2
        unfold numN nm2 inside at hn
        rw [hk] at hn
        simp at hn
        unfold Rng
        simp only
        omega
theorem scT_rng {t : ApiType} (ht : Ok t) : ∀ s ∈ (scalarsT t).1, Rng s := by
  intro s hs
  unfold scalarsT at hs
  cases h : checkAll t != 0 with
  | true => rw [h] at hs; simp at hs
  | false => rw [h] at hs; exact sc_rng t (Val.of ht (by simpa using h)).1 [] s hs
theorem scT_len {t : ApiType} (ht : Ok t) : (scalarsT t).1.length ≤ 32 := by
  unfold scalarsT
  cases h : checkAll t != 0 with
  | true => simp
  | false =>
    have hv := (Val.of ht (by simpa using h)).1
    have h1 := sc_len t hv []
    have h2 := hv.cnt
    simp only [cond_false]
    omega

/-! ### Values -/
def vals : List ApiScalar → Int → Int × Int
  | [], n => (n, 0)
  | s :: r, n => bif decide (n * (s.High - s.Low + 1) > 1099511627776) then (0, 4) else vals r (n * (s.High - s.Low + 1))
theorem div_gt {n s : Int} (hs : 0 < s) : decide (n > Int.tdiv 1099511627776 s) = decide (n * s > 1099511627776) := by
  rw [Int.tdiv_eq_ediv_of_nonneg (by omega)]
  exact decide_eq_decide.2 (Int.ediv_lt_iff_lt_mul hs)
theorem mul_room {n s : Int} (h1 : 1 ≤ n) (h2 : n ≤ 1099511627776) (h3 : 1 ≤ s) (h4 : s ≤ 2097153) : 1 ≤ n * s ∧ n * s ≤ 2305844108725321728 := by
  have a : 1 * 1 ≤ n * s := Int.mul_le_mul h1 h3 (by omega) (by omega)
  have b : n * s ≤ 1099511627776 * 2097153 := Int.mul_le_mul h2 h4 (by omega) (by omega)
  omega
theorem Values_l (x1 : List ApiScalar × Int) (hl : x1.1.length ≤ BB) (hr : ∀ s ∈ x1.1, Rng s) : ∀ (r : List ApiScalar) (k : Nat) (n : Int), x1.1.drop k = r → 1 ≤ n → n ≤ 1099511627776 → types_Values_l1 n x1 k = some (vals r n)
  | [], k, n, h, _, _ => by rw [types_Values_l1, (lp_out h).1, if_neg (by simp)]; rfl
  | s :: r, k, n, h, h1, h2 => by
    obtain ⟨e1, e2, e3, e4, e5⟩ := lp_in h
    obtain ⟨r1, r2, r3⟩ := hr s e5
    have hm := mul_room h1 h2 (s := s.High - s.Low + 1) (by omega) (by omega)
    have hq : 0 ≤ Int.tdiv 1099511627776 (s.High - s.Low + 1) ∧ Int.tdiv 1099511627776 (s.High - s.Low + 1) ≤ 1099511627776 := by
      rw [Int.tdiv_eq_ediv_of_nonneg (by omega)]
      exact ⟨Int.ediv_nonneg (by omega) (by omega), Int.ediv_le_self _ (by omega)⟩
    rw [types_Values_l1, e1, if_pos rfl, e2, ob, wr (n := s.High - s.Low) (by omega) (by omega), wr (n := s.High - s.Low + 1) (by omega) (by omega), if_pos (decide_eq_true (by omega)), wr (n := Int.tdiv _ _) (by omega) (by omega),
      div_gt (by omega), wr (n := n * _) (by omega) (by omega), w1 (by omega), vals]
    by_cases hc : n * (s.High - s.Low + 1) > 1099511627776
    · rw [decide_eq_true hc]; rfl
    · rw [decide_eq_false hc, if_neg (by simp), Values_l x1 hl hr r (k + 1) _ e3 (by omega) (by omega)]
      rfl
def valuesT (t : ApiType) : Int × Int := bif (scalarsT t).2 != 0 then (0, (scalarsT t).2) else vals (scalarsT t).1 1
theorem Values_eq (t : ApiType) (ht : Ok t) : types_Values t = some (valuesT t) := by
  unfold types_Values valuesT
  have hl := scT_len ht
  rw [Scalars_eq t ht, ob, z0, Values_l (scalarsT t) (by unfold BB; omega) (scT_rng ht) _ 0 1 rfl (by omega) (by omega)]
  cases (scalarsT t).2 != 0 <;> simp
/-! ### slices.Equal -/
/-! ### Clamp -/
/-! ### Contains -/
end Go.Proofs.YtonilfkaecbjnaaDoor

