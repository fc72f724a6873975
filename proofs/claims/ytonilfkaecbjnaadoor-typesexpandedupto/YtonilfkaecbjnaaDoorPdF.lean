/-
  Scalars, Values, Clamp, Contains: both sides.
-/
import Derived.Test.YtonilfkaecbjnaaDoorPdE
set_option linter.unusedSimpArgs false
namespace Go.Proofs.YtonilfkaecbjnaaDoor
open Go.Am

/-! ### valid types -/
structure Val (t : ApiType) : Prop where
  ok : Ok t
  fine : Fine t
  nm : t.some isNm = false
  cnt : t.cnt ≤ 32
theorem Val.of {t : ApiType} (hok : Ok t) (h : checkAll t = 0) : Val t ∧ t.some isTw = false := by
  unfold checkAll at h
  cases hc : checkT t != 0 with
  | true =>
    rw [hc] at h
    simp only [cond_true] at h
    rw [h] at hc
    cases hc
  | false =>
    rw [hc] at h
    have hf := fine_of (show checkT t = 0 by simpa using hc)
    simp only [cond_false, plainT] at h
    cases h1 : t.some isNm with
    | true => rw [h1] at h; cases h
    | false =>
      cases h2 : t.some isTw with
      | true => rw [h1, h2] at h; cases h
      | false =>
        rw [h1, h2] at h
        by_cases h3 : t.cnt > 32
        · rw [decide_eq_true h3] at h; cases h
        · exact ⟨⟨hok, hf, h1, by omega⟩, rfl⟩
theorem Val.kid0 {t x : ApiType} (h : Val t) (hx : x ∈ t.Of) (hc : x.cnt ≤ 32) : Val x := by
  refine ⟨h.ok.kid hx, h.fine.kid hx, ?_, hc⟩
  have := h.nm
  rw [ApiType.some_eq, Bool.or_eq_false_iff] at this
  cases hn : x.some isNm with
  | false => rfl
  | true =>
    have h2 := List.any_eq_true.2 ⟨x, hx, hn⟩
    rw [this.2] at h2
    cases h2
theorem Val.cnt_pos (t : ApiType) : Val t → 1 ≤ t.cnt := by
  induction t using ApiType.ind with
  | h t ih =>
  intro h
  have hc := h.cnt
  rw [ApiType.cnt_eq] at hc ⊢
  cases h2 : t.Kind == 2 with
  | true =>
    obtain ⟨x, hx, s1, s2⟩ := h.fine.arr h2
    have hm : x ∈ t.Of := by rw [hx]; exact List.mem_cons_self
    rw [hx, h2] at hc
    rw [hx]
    simp only [cond_true, ApiType.cnt1] at hc ⊢
    have h0 := ApiType.cnt_ge x (h.fine.kid hm)
    have hle : x.cnt ≤ 32 := by
      have : 1 * x.cnt ≤ min t.Size 33 * x.cnt := Int.mul_le_mul_of_nonneg_right (by omega) h0
      omega
    have := ih x hm (h.kid0 hm hle)
    have : 1 * 1 ≤ min t.Size 33 * x.cnt := Int.mul_le_mul (by omega) this (by omega) (by omega)
    omega
  | false =>
    cases h3 : t.Kind == 3 with
    | true =>
      rw [h2, h3] at hc
      simp only [cond_true, cond_false] at hc ⊢
      obtain ⟨r1, r2, r3⟩ := h.fine.recd h3
      cases hl : t.Of with
      | nil => rw [hl] at r3; simp at r3
      | cons x r =>
        have hm : x ∈ t.Of := by rw [hl]; exact List.mem_cons_self
        have hb := ApiType.cnts_bound r fun y hy => ApiType.cnt_ge y (h.fine.kid (by rw [hl]; exact List.mem_cons_of_mem _ hy))
        rw [hl] at hc
        simp only [ApiType.cnts] at hc ⊢
        have := ih x hm (h.kid0 hm (by omega))
        omega
    | false => show 1 ≤ min (1 : Int) 33; omega
theorem Val.arr {t : ApiType} (h : Val t) (h2 : (t.Kind == 2) = true) : ∃ x, t.Of = [x] ∧ 1 ≤ t.Size ∧ t.Size ≤ 32 ∧ Val x ∧ t.cnt = t.Size * x.cnt := by
  obtain ⟨x, hx, s1, s2⟩ := h.fine.arr h2
  have hm : x ∈ t.Of := by rw [hx]; exact List.mem_cons_self
  have h0 := ApiType.cnt_ge x (h.fine.kid hm)
  have hc := h.cnt
  have e := ApiType.cnt_eq t
  rw [hx, h2] at e
  simp only [cond_true, ApiType.cnt1] at e
  rw [show min t.Size 33 = t.Size by omega] at e
  have hle : x.cnt ≤ 32 := by
    have : 1 * x.cnt ≤ t.Size * x.cnt := Int.mul_le_mul_of_nonneg_right (by omega) h0
    omega
  exact ⟨x, hx, s1, s2, h.kid0 hm hle, by omega⟩
theorem cnts_kid {x : ApiType} : ∀ {l : List ApiType}, (∀ y ∈ l, 0 ≤ y.cnt) → x ∈ l → x.cnt ≤ ApiType.cnts l
  | y :: r, h, hx => by
    have h1 := ApiType.cnts_bound r fun z hz => h z (List.mem_cons_of_mem _ hz)
    have h2 := h y List.mem_cons_self
    simp only [ApiType.cnts]
    cases hx with
    | head => omega
    | tail _ hx => have := cnts_kid (fun z hz => h z (List.mem_cons_of_mem _ hz)) hx; omega
theorem Val.recd {t : ApiType} (h : Val t) (h3 : (t.Kind == 3) = true) : t.Of.length = t.Names.length ∧ t.Of.length ≤ 32 ∧ (∀ x ∈ t.Of, Val x) ∧ t.cnt = ApiType.cnts t.Of := by
  obtain ⟨r1, r2, r3⟩ := h.fine.recd h3
  have hn := fun y hy => ApiType.cnt_ge y (h.fine.kid hy)
  have hc := h.cnt
  have e := ApiType.cnt_eq t
  have h2 : (t.Kind == 2) = false := by
    have : t.Kind = 3 := by simpa using h3
    rw [this]; rfl
  rw [h2, h3] at e
  simp only [cond_true, cond_false] at e
  refine ⟨r2, r1, fun x hx => ?_, by omega⟩
  have := cnts_kid hn hx
  exact h.kid0 hx (by omega)
/-! ### the scalars of a type -/
/-! ### the program's Scalars -/
/-! ### the reference's Scalars -/
end Go.Proofs.YtonilfkaecbjnaaDoor

