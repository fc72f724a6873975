/-
  P12.3, second: products and powers.
-/
import Derived.Test.YtonilfkaecbjnaaDoorPdG
set_option linter.unusedSimpArgs false
namespace Go.Proofs.YtonilfkaecbjnaaDoor
open Go.Am

def prodS : List ApiScalar → Int
  | [] => 1
  | s :: r => (s.High - s.Low + 1) * prodS r
theorem prodS_app : ∀ l m : List ApiScalar, prodS (l ++ m) = prodS l * prodS m
  | [], m => by simp [prodS]
  | s :: r, m => by simp only [List.cons_append, prodS, prodS_app r m, Int.mul_assoc]
theorem prodS_pos : ∀ {l : List ApiScalar}, (∀ s ∈ l, Rng s) → 1 ≤ prodS l
  | [], _ => by simp [prodS]
  | s :: r, h => by
    obtain ⟨_, h2, _⟩ := h s List.mem_cons_self
    have h3 := prodS_pos (l := r) fun x hx => h x (List.mem_cons_of_mem _ hx)
    have : 1 * 1 ≤ (s.High - s.Low + 1) * prodS r := Int.mul_le_mul (by omega) h3 (by omega) (by omega)
    simp only [prodS]
    omega
theorem vals_eq : ∀ {l : List ApiScalar} {n : Int}, (∀ s ∈ l, Rng s) → 1 ≤ n → n ≤ 1099511627776 → vals l n = bif decide (n * prodS l > 1099511627776) then (0, 4) else (n * prodS l, 0)
  | [], n, _, h1, h2 => by
    simp only [vals, prodS, Int.mul_one]
    rw [decide_eq_false (by omega)]
    rfl
  | s :: r, n, h, h1, h2 => by
    obtain ⟨_, g2, _⟩ := h s List.mem_cons_self
    have hr := fun x hx => h x (List.mem_cons_of_mem _ hx)
    have h3 := prodS_pos hr
    have h4 : 1 * 1 ≤ n * (s.High - s.Low + 1) := Int.mul_le_mul h1 (by omega) (by omega) (by omega)
    have e : n * prodS (s :: r) = n * (s.High - s.Low + 1) * prodS r := by rw [prodS, Int.mul_assoc]
    rw [vals, e]
    by_cases hc : n * (s.High - s.Low + 1) > 1099511627776
    · have h5 : n * (s.High - s.Low + 1) * 1 ≤ n * (s.High - s.Low + 1) * prodS r := Int.mul_le_mul_of_nonneg_left h3 (by omega)
      rw [decide_eq_true hc, decide_eq_true (by omega)]
      rfl
    · rw [decide_eq_false hc, cond_false, vals_eq hr (by omega) (by omega)]
theorem rep_prod {f g : Nat → List ApiScalar} {c : Int} (h : ∀ i, prodS (f i) = c) : ∀ n k, prodS (rep f k n) = c ^ n
  | 0, k => by simp [rep, prodS]
  | n + 1, k => by rw [rep, prodS_app, h, rep_prod (g := g) h n, Int.pow_succ, Int.mul_comm]
/-- the product does not lean on the path -/
theorem prod_path (t : ApiType) : ∀ p q, prodS (t.sc p) = prodS (t.sc q) := by
  induction t using ApiType.ind with
  | h t ih =>
  intro p q
  rw [ApiType.sc_eq, ApiType.sc_eq]
  cases t.Kind == 0 with
  | true => rfl
  | false =>
    cases t.Kind == 1 with
    | true => rfl
    | false =>
      cases t.Kind == 2 with
      | true =>
        simp only [cond_true, cond_false]
        cases hl : t.Of with
        | nil => rfl
        | cons x r =>
          have ihx := ih x (by rw [hl]; exact List.mem_cons_self)
          rw [ApiType.scA, ApiType.scA, rep_prod (g := fun _ => []) (c := prodS (x.sc [])) (fun i => ihx _ _), rep_prod (g := fun _ => []) (c := prodS (x.sc [])) (fun i => ihx _ _)]
      | false =>
        cases t.Kind == 3 with
        | true =>
          simp only [cond_true, cond_false]
          have key : ∀ (l : List ApiType) (ns : List Str), (∀ x ∈ l, x ∈ t.Of) → prodS (ApiType.scR l ns p) = prodS (ApiType.scR l ns q) := by
            intro l
            induction l with
            | nil => intro ns _; cases ns <;> rfl
            | cons x r ihr =>
              intro ns h
              cases ns with
              | nil => rfl
              | cons n ns => rw [ApiType.scR, ApiType.scR, prodS_app, prodS_app, ih x (h x List.mem_cons_self) _ (nx q n), ihr ns fun y hy => h y (List.mem_cons_of_mem _ hy)]
          exact key t.Of t.Names fun _ h => h
        | false => rfl
def pv (t : ApiType) : Int := prodS (t.sc [])
theorem valuesT_eq {t : ApiType} (ht : Ok t) : valuesT t = bif checkAll t != 0 then (0, checkAll t) else bif decide (pv t > 1099511627776) then (0, 4) else (pv t, 0) := by
  have hr := scT_rng ht
  unfold valuesT
  unfold scalarsT at hr ⊢
  cases h : checkAll t != 0 with
  | true => simp [h]
  | false =>
    rw [h] at hr
    simp only [cond_false] at hr ⊢
    rw [vals_eq hr (by omega) (by omega), Int.one_mul]
    rfl
theorem pv_pos {t : ApiType} (ht : Ok t) (h : checkAll t = 0) : 1 ≤ pv t := prodS_pos (sc_rng t (Val.of ht h).1 [])
theorem pv_arr (t : ApiType) (n : Nat) : pv (ApiType.mk 2 0 0 n [] [] [t]) = pv t ^ n := by
  show prodS (rep (fun i => t.sc (nx [] (Lib.decDigits i))) 0 (n : Int).toNat) = _
  rw [rep_prod (g := fun _ => []) (c := pv t) (fun i => prod_path t _ _)]
  rfl
theorem pv_rec (t u : ApiType) : pv (ApiType.mk 3 0 0 0 [] [[120], [121]] [t, u]) = pv t * pv u := by
  show prodS (t.sc (nx [] [120]) ++ (u.sc (nx [] [121]) ++ [])) = _
  rw [List.append_nil, prodS_app, prod_path t _ [], prod_path u _ []]
  rfl
theorem pow_le {a : Int} (h1 : 1 ≤ a) (h2 : a ≤ 1000) : ∀ k : Nat, k ≤ 4 → 1 ≤ a ^ k ∧ a ^ k ≤ 1000000000000 ∧ a ^ k ≤ 1000 ^ k
  | 0, _ => by simp
  | k + 1, hk => by
    obtain ⟨i1, i2, i3⟩ := pow_le h1 h2 k (by omega)
    have e : a ^ (k + 1) ≤ 1000 ^ (k + 1) := by
      rw [Int.pow_succ, Int.pow_succ]
      exact Int.mul_le_mul i3 h2 (by omega) (by omega)
    have e1 : 1 * 1 ≤ a ^ k * a := Int.mul_le_mul i1 h1 (by omega) (by omega)
    refine ⟨by rw [Int.pow_succ]; omega, ?_, e⟩
    have : (1000 : Int) ^ (k + 1) ≤ 1000000000000 := by
      have : k = 0 ∨ k = 1 ∨ k = 2 ∨ k = 3 := by omega
      rcases this with rfl | rfl | rfl | rfl <;> decide
    omega
theorem Products_l (t u : ApiType) (size : Int) (n : Nat) (hn : IntKind.i64.wrap (1 + Int.tmod (IntKind.i64.wrap size) 4) = n) (hn4 : n ≤ 4) (x4 x5 : Int × Int) (h1 : 1 ≤ x4.1) (h2 : x4.1 ≤ 1000) :
    ∀ (m k : Nat), k + m = n → law12_TypesProducts_l1 t u size x4 x5 (x4.1 ^ k) k = law12_TypesProducts_l1 t u size x4 x5 (x4.1 ^ n) n
  | 0, k, h => by rw [show k = n by omega]
  | m + 1, k, h => by
    obtain ⟨i1, i2, _⟩ := pow_le h1 h2 (k + 1) (by omega)
    rw [Int.pow_succ] at i1 i2
    rw [law12_TypesProducts_l1, hn, if_pos (decide_eq_true (by omega)), wr (by omega) (by omega), ← Int.pow_succ, w1 (by unfold BB; omega), Products_l t u size n hn hn4 x4 x5 h1 h2 m (k + 1) (by omega)]

/-- P12.3, second -/
theorem TypesProducts_true (t u : ApiType) (size : Int) (ht : t.bulk ≤ 1048576) (hu : u.bulk ≤ 1048576) (hs : 0 ≤ size) (hs' : size ≤ 255) (hk : law12_known = some true) : law12_TypesProducts t u size = some true := by
  have hto : Ok t := by unfold Ok BB; omega
  have huo : Ok u := by unfold Ok BB; omega
  unfold law12_TypesProducts
  rw [hk, few_eq t hto, few_eq u huo, Values_eq t hto, Values_eq u huo]
  simp only [ob]
  have fin : checkAll t = 0 → checkAll u = 0 → pv t ≤ 1000 → pv u ≤ 1000 → law12_TypesProducts_l1 t u size (pv t, 0) (pv u, 0) 1 0 = some true := by
    intro ct cu pt pu
    have p1 := pv_pos hto ct
    have p2 := pv_pos huo cu
    obtain ⟨n, hn, hn4⟩ : ∃ n : Nat, IntKind.i64.wrap (1 + Int.tmod (IntKind.i64.wrap size) 4) = n ∧ n ≤ 4 := by
      rw [wr (n := size) (by omega) (by omega), Int.tmod_eq_emod_of_nonneg hs, wr (by omega) (by omega)]
      exact ⟨(1 + size % 4).toNat, by omega, by omega⟩
    have h := Products_l t u size n hn hn4 (pv t, 0) (pv u, 0) p1 pt n 0 (by omega)
    rw [Int.pow_zero, ← z0] at h
    obtain ⟨i1, i2, _⟩ := pow_le p1 pt n hn4
    have oka : Ok (ApiType.mk 2 0 0 n [] [] [t]) := by unfold Ok BB; rw [ApiType.bulk_eq]; simp [ApiType.bulks]; omega
    have okr : Ok (ApiType.mk 3 0 0 0 [] [[120], [121]] [t, u]) := by unfold Ok BB; rw [ApiType.bulk_eq]; simp [ApiType.bulks]; omega
    have hm : 1 * 1 ≤ pv t * pv u := Int.mul_le_mul p1 p2 (by omega) (by omega)
    have hm' : pv t * pv u ≤ 1000 * 1000 := Int.mul_le_mul pt pu (by omega) (by omega)
    rw [h, law12_TypesProducts_l1, hn, if_neg (by simp), Values_eq _ oka, Values_eq _ okr, Check_eq _ oka, Check_eq _ okr, valuesT_eq oka, valuesT_eq okr, pv_arr, pv_rec]
    rw [decide_eq_false (show ¬ pv t ^ n > 1099511627776 by omega), decide_eq_false (show ¬ pv t * pv u > 1099511627776 by omega)]
    simp only [ob, cond_false]
    rw [wr (n := pv t * pv u) (by omega) (by omega)]
    generalize checkAll (ApiType.mk 2 0 0 n [] [] [t]) = ca
    generalize checkAll (ApiType.mk 3 0 0 0 [] [[120], [121]] [t, u]) = cr
    by_cases h1 : ca = 0
    · by_cases h2 : cr = 0
      · simp [h1, h2, ob]
      · have h2' : (cr != 0) = true := by simpa using h2
        simp [h1, h2', h2, ob]
    · have h1' : (ca != 0) = true := by simpa using h1
      by_cases h2 : cr = 0
      · simp [h1, h1', h2, ob]
      · have h2' : (cr != 0) = true := by simpa using h2
        simp [h1, h1', h2', h2, ob]
  rw [valuesT_eq hto, valuesT_eq huo]
  by_cases c1 : checkAll t = 0
  · by_cases c2 : checkAll u = 0
    · rw [c1, c2]
      simp only [bne_self_eq_false, cond_false]
      by_cases b1 : pv t > 1099511627776
      · rw [decide_eq_true b1]
        cases fewT t <;> cases fewT u <;> simp [ob]
      · by_cases b2 : pv u > 1099511627776
        · rw [decide_eq_true b2, decide_eq_false b1]
          cases fewT t <;> cases fewT u <;> simp [ob]
        · rw [decide_eq_false b1, decide_eq_false b2]
          simp only [cond_false, bne_self_eq_false]
          by_cases d1 : pv t > 1000
          · rw [decide_eq_true d1]
            cases fewT t <;> cases fewT u <;> simp [ob]
          · by_cases d2 : pv u > 1000
            · rw [decide_eq_true d2, decide_eq_false d1]
              cases fewT t <;> cases fewT u <;> simp [ob]
            · rw [decide_eq_false d1, decide_eq_false d2, fin c1 c2 (by omega) (by omega)]
              cases fewT t <;> cases fewT u <;> simp [ob]
    · have : (checkAll u != 0) = true := by simpa using c2
      rw [this]
      cases fewT t <;> cases fewT u <;> simp [ob, c2]
  · have : (checkAll t != 0) = true := by simpa using c1
    rw [this]
    cases fewT t <;> cases fewT u <;> simp [ob, c1]
end Go.Proofs.YtonilfkaecbjnaaDoor

