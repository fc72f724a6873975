/-
  P12.4, second: the law.
-/
import Derived.Test.YtonilfkaecbjnaaDoorPdM
set_option linter.unusedSimpArgs false
namespace Go.Proofs.YtonilfkaecbjnaaDoor
open Go.Am

theorem occ1 (s : Str) (i : Nat) : Lib.occAt s [46] i = true ↔ s[i]? = some 46 := by
  unfold Lib.occAt
  cases h : s.drop i with
  | nil =>
    have : s[i]? = none := by rw [List.getElem?_eq_none_iff]; exact List.drop_eq_nil_iff.1 h
    rw [this]
    simp [List.isPrefixOf]
  | cons c r =>
    have : s[i]? = some c := by
      have := congrArg List.head? h
      simpa using this
    rw [this]
    simp only [List.isPrefixOf, Bool.and_true, Option.some.injEq, beq_iff_eq]
    exact ⟨fun h => h.symm, fun h => h.symm⟩
theorem last_dot {q n : Str} (hn : Dotless n) : Lib.lastIndex (q ++ 46 :: n) [46] = (q.length : Int) := by
  have hlen : (q ++ 46 :: n).length = q.length + n.length + 1 := by simp; omega
  have hq : Lib.occAt (q ++ 46 :: n) [46] q.length = true := (occ1 _ _).2 (by simp)
  unfold Lib.lastIndex
  rw [if_pos (by rw [hlen]; simp), show (q ++ 46 :: n).length - ([46] : Str).length + 1 = q.length + n.length + 1 by rw [hlen]; simp]
  rcases Lib.lastOcc_spec (q ++ 46 :: n) [46] (q.length + n.length + 1) with ⟨_, h2⟩ | ⟨i, h1, h2, h3, h4⟩
  · rw [h2 q.length (by omega)] at hq; cases hq
  · rw [h2]
    rcases Nat.lt_trichotomy i q.length with h | h | h
    · rw [h4 q.length h (by omega)] at hq; cases hq
    · rw [h]
    · have := (occ1 _ _).1 h3
      rw [List.getElem?_append_right (by omega), show i - q.length = (i - q.length - 1) + 1 by omega, List.getElem?_cons_succ] at this
      exact absurd (List.mem_of_getElem? this) hn
theorem last_none : Lib.lastIndex [] [46] = -1 := by decide

theorem scK_plen {s : ApiScalar} {a : Str} {B : Nat} {l : List (Str × ApiType)} (h : ∀ q ∈ l, ∀ s ∈ q.2.sc (nx a q.1), s.Path.length ≤ B) (hs : s ∈ scK l a) : s.Path.length ≤ B := by
  obtain ⟨q, hq, h2⟩ := scK_mem hs
  exact h q hq s h2
theorem sc_plen (t : ApiType) : Sound t → ∀ a, ∀ s ∈ t.sc a, s.Path.length ≤ a.length + t.bulk := by
  induction t using ApiType.ind with
  | h t ih =>
  intro ht a s hs
  have hv := ht.val
  have hb := ApiType.bulk_eq t
  cases ht.shape with
  | bool _ _ h _ => rw [h a] at hs; simp at hs; subst hs; simp only; omega
  | int _ _ h _ => rw [h a] at hs; simp at hs; subst hs; simp only; omega
  | node h _ hm _ =>
    rw [h a] at hs
    refine scK_plen (fun q hq s hs => ?_) hs
    have hx := (hm q hq).1
    have h1 := ih q.2 hx (ht.kid hx) _ s hs
    have h2 := ApiType.bulk_kid hx
    have h3 : (nx a q.1).length = a.length + q.1.length + 1 := by unfold nx; simp; omega
    have h4 : q.1.length ≤ (t.Names.map fun s => s.length + 1).sum + 2 := by
      unfold kids at hq
      cases h2 : t.Kind == 2 with
      | true =>
        rw [h2] at hq
        obtain ⟨x, hx, s1, s2, _, _⟩ := hv.arr h2
        rw [hx] at hq
        obtain ⟨_, i, _, g, e⟩ := kidA_mem (x := x) (n := t.Size.toNat) (k := 0) hq
        rw [e]
        have := dec_len (k := i) (by omega)
        omega
      | false =>
        rw [h2, cond_false] at hq
        cases h3 : t.Kind == 3 with
        | true =>
          rw [h3] at hq
          obtain ⟨h5, _⟩ := List.of_mem_zip (a := q.1) (b := q.2) hq
          have := strs_kid h5
          omega
        | false => rw [h3] at hq; cases hq
    omega

theorem fdK_exists {a p : Str} {q : Str × ApiType} : ∀ {l : List (Str × ApiType)}, q ∈ l → (∀ f, ∃ y, q.2.fd (nx a q.1) p f = some y) → ∀ f, ∃ y, fdK l a p f = some y
  | (n, x) :: r, hq, h, f => by
    rw [fdK]
    cases hg : x.fd (nx a n) p f with
    | some y => exact ⟨y, rfl⟩
    | none =>
      cases hq with
      | head => obtain ⟨y, hy⟩ := h f; rw [hg] at hy; cases hy
      | tail _ hq => exact fdK_exists hq h _
/-- above a scalar there is a component -/
theorem above (t : ApiType) : Sound t → ∀ a, ∀ s ∈ t.sc a, s.Path = a ∨ ∃ q n, s.Path = q ++ 46 :: n ∧ Dotless n ∧ ∀ f, ∃ y, t.fd a q f = some y := by
  induction t using ApiType.ind with
  | h t ih =>
  intro ht a s hs
  cases ht.shape with
  | bool _ _ h _ => rw [h a] at hs; simp at hs; subst hs; exact .inl rfl
  | int _ _ h _ => rw [h a] at hs; simp at hs; subst hs; exact .inl rfl
  | node h hf hm _ =>
    rw [h a] at hs
    obtain ⟨q, hq, h2⟩ := scK_mem hs
    obtain ⟨hx, hd⟩ := hm q hq
    rcases ih q.2 hx (ht.kid hx) _ s h2 with e | ⟨p, n, e, hn, hy⟩
    · refine .inr ⟨a, q.1, by rw [e]; unfold nx; simp, hd, fun f => ⟨(t, f), ?_⟩⟩
      rw [hf]
      simp
    · refine .inr ⟨p, n, e, hn, fun f => ?_⟩
      rw [hf]
      cases a == p with
      | true => exact ⟨(t, f), rfl⟩
      | false => exact fdK_exists hq hy f

theorem Parts_l2 (L M : List ApiScalar) (q : Str) (x10 : ApiType × Int × Int) (n : Nat) (hn : x10.2.1 = n) (u w : List ApiScalar) (hL : L = u ++ (M.map fun s => { s with Path := q ++ s.Path }) ++ w) (hu : u.length = n) (hb : L.length ≤ 1000) (hp : ∀ s ∈ M, q.length + s.Path.length ≤ maxLen) :
    ∀ (r : List ApiScalar) (k : Nat), M.drop k = r → law12_TypesParts_l2 (L, 0) q x10 (M, 0) k = some true
  | [], k, h => by rw [law12_TypesParts_l2, (lp_out h).1, if_neg (by simp)]
  | s :: r, k, h => by
    obtain ⟨e1, e2, e3, e4, e5⟩ := lp_in h
    have hkm : M[k]? = some s := by
      have := congrArg List.head? h
      simpa using this
    have hlen : L.length = n + M.length + w.length := by rw [hL]; simp [hu]; omega
    have hi : idx L ((n : Int) + (k : Int)) = some { s with Path := q ++ s.Path } := by
      unfold idx
      rw [if_pos (by omega), show ((n : Int) + (k : Int)).toNat = n + k by omega, hL, List.append_assoc, List.getElem?_append_right (by omega), List.getElem?_append_left (by simp; omega), show n + k - u.length = k by omega, List.getElem?_map, hkm]
      rfl
    rw [law12_TypesParts_l2]
    simp only
    rw [e1, if_pos rfl, e2, ob, if_pos (decide_eq_true (hp s e5)), hn, wr (n := (n : Int) + (k : Int)) (by omega) (by omega), hi, ob, w1 (by unfold BB; omega), Parts_l2 L M q x10 n hn u w hL hu hb hp r (k + 1) e3]
    simp
theorem Parts_l1 (t : ApiType) (ht : Sound t) (pick : Int) (b : Option Bool) (hb : ∀ k : Nat, (scalarsT t).1.length ≤ k → law12_TypesParts_l1 t pick (t.sc [], 0) k = b) :
    ∀ (r : List ApiScalar) (k : Nat), (t.sc []).drop k = r → law12_TypesParts_l1 t pick (t.sc [], 0) k = b
  | [], k, h => hb k (by
      have : (scalarsT t).1 = t.sc [] := by unfold scalarsT; rw [ht.chk]; rfl
      rw [this]
      exact (lp_out h).2)
  | s :: r, k, h => by
    obtain ⟨e1, e2, e3, e4, e5⟩ := lp_in h
    have hv := ht.val
    have hc := hv.cnt
    have hl := sc_len t hv []
    have hkm : (t.sc [])[k]? = some s := by
      have := congrArg List.head? h
      simpa using this
    obtain ⟨x, h1, h2⟩ := fd_find t ht [] 0 k s hkm
    have hF : findT t s.Path = (x, (k : Int), 0) := by
      unfold findT
      rw [ht.chk, h1]
      simp
    rw [law12_TypesParts_l1]
    simp only
    rw [e1, if_pos rfl, e2, ob, Find_eq t ht.ok, hF, ob, w1 (by unfold BB; omega), Parts_l1 t ht pick b hb r (k + 1) e3]
    rcases h2 with ⟨k1, k2⟩ | ⟨k1, k2, k3, k4⟩
    · simp [k1, k2]
    · simp [k1, k2, k3, k4]
theorem scT_sound {t : ApiType} (ht : Sound t) : scalarsT t = (t.sc [], 0) := by unfold scalarsT; rw [ht.chk]; rfl

/-- P12.4, second -/
theorem TypesParts_true (t : ApiType) (pick : Int) (ht : Ok t) (h0 : 0 ≤ pick) (h1 : pick ≤ 255) (hk : law12_known = some true) : law12_TypesParts t pick = some true := by
  unfold law12_TypesParts
  rw [hk, few_eq t ht, Scalars_eq t ht, Check_eq t ht]
  simp only [ob]
  have fin : checkAll t = 0 → law12_TypesParts_l1 t pick (scalarsT t) 0 = some true := by
    intro hc
    have hs : Sound t := ⟨ht, hc⟩
    have hv := hs.val
    have hcn := hv.cnt
    have hcp := Val.cnt_pos t hv
    have hl := sc_len t hv []
    rw [scT_sound hs, z0]
    refine Parts_l1 t hs pick (some true) (fun k hk => ?_) (t.sc []) 0 rfl
    rw [scT_sound hs] at hk
    simp only at hk
    rw [law12_TypesParts_l1]
    simp only
    rw [if_neg (by simp; omega), if_pos (decide_eq_true (by omega)), wr (n := pick) (by omega) (by omega), Int.tmod_eq_emod_of_nonneg h0]
    obtain ⟨j, hj, hjl⟩ : ∃ j : Nat, pick % ((t.sc []).length : Int) = j ∧ j < (t.sc []).length := by
      have a := Int.emod_nonneg pick (b := ((t.sc []).length : Int)) (by omega)
      have b := Int.emod_lt_of_pos pick (b := ((t.sc []).length : Int)) (by omega)
      exact ⟨(pick % ((t.sc []).length : Int)).toNat, by omega, by omega⟩
    obtain ⟨s, f1, f2, f3⟩ := lp_at hjl
    rw [hj, f1, ob]
    have hpl := sc_plen t hs [] s f3
    have hob := ht
    unfold Ok BB at hob
    simp only [List.length_nil] at hpl
    have hX : X_LastIndex s.Path [46] = some (Lib.lastIndex s.Path [46]) := by
      unfold X_LastIndex
      rw [if_pos (decide_eq_true (by omega))]
    rw [hX, ob]
    obtain ⟨q, y, hsl, hy⟩ : ∃ q y, slc s.Path 0 (max 0 (Lib.lastIndex s.Path [46])) = some q ∧ t.fd [] q 0 = some y ∧ q.length ≤ s.Path.length := by
      rcases above t hs [] s f3 with e | ⟨q, n, e, hn, hy⟩
      · rw [e, last_none]
        refine ⟨[], (t, 0), rfl, ?_, by simp⟩
        rw [ApiType.fd_eq]
        rfl
      · rw [e, last_dot hn, show max 0 (q.length : Int) = (q.length : Int) by omega, slc0 (by simp)]
        obtain ⟨y, hy⟩ := hy 0
        exact ⟨q, y, by simp, hy, by simp⟩
    obtain ⟨hy, hql⟩ := hy
    obtain ⟨x, n'⟩ := y
    obtain ⟨_, hsx⟩ := fd_ext q t hs _ _ _ hy
    obtain ⟨n, e1, u, w, e2, e3⟩ := fd_part q (x, n') t hs [] 0 hy
    simp only at hsx e1 e2
    have hF : findT t q = (x, n', 0) := by
      unfold findT
      rw [hc, hy]
      rfl
    rw [hsl, ob, Find_eq t ht, hF, ob, Scalars_eq x hsx.ok, scT_sound hsx, ob]
    have hshift := sc_shift x hsx q []
    rw [List.append_nil] at hshift
    have hlen : (t.sc []).length = n + (x.sc []).length + w.length := by rw [e2, hshift]; simp [e3]; omega
    simp only
    rw [wr (by omega) (by omega)]
    have g1 : decide (n' < 0) = false := decide_eq_false (by omega)
    have g2 : decide (n' > ((t.sc []).length : Int)) = false := decide_eq_false (by omega)
    have g3 : decide (((x.sc []).length : Int) > ((t.sc []).length : Int) - n') = false := decide_eq_false (by omega)
    rw [g1, g2, g3]
    have hn' : n' = n := by omega
    have := Parts_l2 (t.sc []) (x.sc []) q (x, n', 0) n hn' u w (by rw [← hshift]; exact e2) e3 (by omega) (fun z hz => by
      have h5 := sc_plen x hsx [] z hz
      have h6 := hsx.ok
      unfold Ok BB at h6
      simp only [List.length_nil] at h5
      unfold maxLen
      omega) (x.sc []) 0 rfl
    rw [← z0] at this
    rw [this]
    rfl
  by_cases hc : checkAll t = 0
  · have hs : Sound t := ⟨ht, hc⟩
    have hl := sc_len t hs.val []
    have hp := Val.cnt_pos t hs.val
    have hne : ((t.sc []).length == 0) = false := by rw [beq_eq_false_iff_ne]; omega
    rw [fin hc, scT_sound hs]
    have h2 : (((t.sc []).length : Int) == 0) = false := by rw [beq_eq_false_iff_ne]; omega
    simp only [h2, bne_self_eq_false, cond_false]
    cases fewT t <;> simp
  · have h2 : (checkAll t != 0) = true := by simpa using hc
    have h3 : scalarsT t = ([], checkAll t) := by unfold scalarsT; rw [h2]; rfl
    rw [h3]
    simp only [h2, cond_true]
    cases fewT t <;> simp [ob]
end Go.Proofs.YtonilfkaecbjnaaDoor

