/-
  Types: what the program's and the reference's checks compute.
-/
import Derived.Test.YtonilfkaecbjnaaDoorPdA
set_option linter.unusedSimpArgs false
namespace Go.Proofs.YtonilfkaecbjnaaDoor
open Go.Am

theorem ApiType.ind {P : ApiType → Prop} (h : ∀ t : ApiType, (∀ x ∈ t.Of, P x) → P t) : ∀ t, P t := by
  intro t
  refine ApiType.rec (motive_1 := P) (motive_2 := fun l => ∀ x ∈ l, P x) ?_ ?_ ?_ t
  · intro k l h' s n ns of ih
    exact h _ ih
  · intro x hx; cases hx
  · intro x r hx hr y hy
    cases hy with
    | head => exact hx
    | tail _ hy => exact hr y hy

mutual
def ApiType.depth : ApiType → Nat
  | .mk _ _ _ _ _ _ of => ApiType.depths of + 1
def ApiType.depths : List ApiType → Nat
  | [] => 0
  | t :: r => max (ApiType.depth t) (ApiType.depths r)
end
theorem ApiType.depth_eq (t : ApiType) : t.depth = ApiType.depths t.Of + 1 := by cases t; simp [ApiType.depth, ApiType.Of]
theorem ApiType.depth_le : ∀ {l : List ApiType} {t : ApiType}, t ∈ l → t.depth ≤ ApiType.depths l
  | x :: r, t, h => by
    simp only [ApiType.depths]
    cases h with
    | head => omega
    | tail _ h => have := ApiType.depth_le h; omega

def inside (a b c : Int) : Bool := bif decide (a ≥ b) then decide (a ≤ c) else false
mutual
/-- every node meets p -/
def ApiType.all (p : ApiType → Bool) : ApiType → Bool
  | .mk k l h s n ns of => p (.mk k l h s n ns of) && ApiType.alls p of
def ApiType.alls (p : ApiType → Bool) : List ApiType → Bool
  | [] => true
  | t :: r => ApiType.all p t && ApiType.alls p r
end
theorem ApiType.all_eq (p : ApiType → Bool) (t : ApiType) : t.all p = (p t && ApiType.alls p t.Of) := by cases t; rfl
mutual
def ApiType.nodes : ApiType → Nat
  | .mk _ _ _ _ _ _ of => ApiType.nodess of + 1
def ApiType.nodess : List ApiType → Nat
  | [] => 0
  | t :: r => ApiType.nodes t + ApiType.nodess r
end
theorem ApiType.nodes_eq (t : ApiType) : t.nodes = ApiType.nodess t.Of + 1 := by cases t; rfl

/-! ### what one node is asked -/

def fm1 (t : ApiType) : Bool := bif decide (t.Kind ≥ 0) then decide (t.Kind ≤ 4) else false
def fm2 (t : ApiType) : Bool := bif t.Kind == 1 then true else bif t.Low == 0 then t.High == 0 else false
def fm3 (t : ApiType) : Bool := bif t.Kind == 2 then true else t.Size == 0
def fm4 (t : ApiType) : Bool := bif t.Kind == 4 then true else t.Name == []
def fm5 (t : ApiType) : Bool := bif t.Kind == 3 then true else ((t.Names).length : Int) == 0
def fm6 (t : ApiType) : Bool := bif t.Kind == 2 then ((t.Of).length : Int) == 1 else bif t.Kind == 3 then (bif decide (((t.Of).length : Int) ≥ 1) then ((t.Of).length : Int) == ((t.Names).length : Int) else false) else ((t.Of).length : Int) == 0
def nm1 (t : ApiType) : Bool := bif t.Kind == 2 then inside t.Size 1 32 else bif t.Kind == 3 then decide (((t.Of).length : Int) ≤ 32) else true
def nm2 (t : ApiType) : Bool := bif t.Kind == 1 then (bif inside t.Low (-1048576) 1048576 then inside t.High t.Low 1048576 else false) else true
def na1 (t : ApiType) : Bool := bif t.Kind == 4 then isName t.Name else true
def formN (t : ApiType) : Bool := fm1 t && fm2 t && fm3 t && fm4 t && fm5 t && fm6 t
def numN (t : ApiType) : Bool := nm1 t && nm2 t
def nameN (t : ApiType) : Bool := na1 t && t.Names.all isName

theorem or_not (a b c : Bool) : (a || !b || !c) = (a || !(b && c)) := by cases a <;> cases b <;> cases c <;> rfl

def repCode (n d : Int) (f m u : Bool) : Int :=
  bif (bif decide (n > 1024) then true else decide (d > 12)) then 4 else bif f then 1 else bif m then 7 else bif u then 3 else 0

def checkT (t : ApiType) : Int := repCode t.nodes t.depth (!t.all formN) (!t.all nameN) (!t.all numN)

mutual
/-- the number of scalars, at most 33 -/
def ApiType.cnt : ApiType → Int
  | .mk k _ _ s _ _ of => min (bif k == 2 then min s 33 * ApiType.cnt1 of else bif k == 3 then ApiType.cnts of else 1) 33
def ApiType.cnt1 : List ApiType → Int
  | [] => 0
  | t :: _ => ApiType.cnt t
def ApiType.cnts : List ApiType → Int
  | [] => 0
  | t :: r => ApiType.cnt t + ApiType.cnts r
end
theorem ApiType.cnt_eq (t : ApiType) : t.cnt = min (bif t.Kind == 2 then min t.Size 33 * ApiType.cnt1 t.Of else bif t.Kind == 3 then ApiType.cnts t.Of else 1) 33 := by cases t; rfl
theorem ApiType.cnt_le (t : ApiType) : t.cnt ≤ 33 := by rw [ApiType.cnt_eq]; omega

theorem ApiType.alls_mem {p : ApiType → Bool} : ∀ {l : List ApiType} {t : ApiType}, ApiType.alls p l = true → t ∈ l → t.all p = true
  | x :: r, t, h, hm => by
    simp only [ApiType.alls, Bool.and_eq_true] at h
    cases hm with
    | head => exact h.1
    | tail _ hm => exact ApiType.alls_mem h.2 hm

/-- what a type that CheckType lets pass is like -/
structure Fine (t : ApiType) : Prop where
  form : t.all formN = true
  num : t.all numN = true
theorem Fine.kid {t x : ApiType} (h : Fine t) (hx : x ∈ t.Of) : Fine x := by
  have h1 := h.form
  have h2 := h.num
  rw [ApiType.all_eq, Bool.and_eq_true] at h1 h2
  exact ⟨ApiType.alls_mem h1.2 hx, ApiType.alls_mem h2.2 hx⟩
theorem Fine.here {t : ApiType} (h : Fine t) : formN t = true ∧ numN t = true := by
  have h1 := h.form
  have h2 := h.num
  rw [ApiType.all_eq, Bool.and_eq_true] at h1 h2
  exact ⟨h1.1, h2.1⟩
theorem Fine.arr {t : ApiType} (h : Fine t) (hk : (t.Kind == 2) = true) : ∃ x, t.Of = [x] ∧ 1 ≤ t.Size ∧ t.Size ≤ 32 := by
  obtain ⟨h1, h2⟩ := h.here
  simp only [formN, numN, Bool.and_eq_true] at h1 h2
  have h6 := h1.2
  have hn := h2.1
  unfold fm6 at h6
  unfold nm1 inside at hn
  rw [hk] at h6 hn
  simp only [cond_true] at h6 hn
  have hl : t.Of.length = 1 := by have : (t.Of.length : Int) = 1 := by simpa using h6
                                  omega
  obtain ⟨x, hx⟩ := List.length_eq_one_iff.1 hl
  cases hd : decide (t.Size ≥ 1) with
  | false => rw [hd] at hn; cases hn
  | true =>
    rw [hd] at hn
    exact ⟨x, hx, of_decide_eq_true hd, of_decide_eq_true hn⟩
theorem Fine.recd {t : ApiType} (h : Fine t) (hk : (t.Kind == 3) = true) : t.Of.length ≤ 32 ∧ t.Of.length = t.Names.length ∧ 1 ≤ t.Of.length := by
  obtain ⟨h1, h2⟩ := h.here
  simp only [formN, numN, Bool.and_eq_true] at h1 h2
  have h6 := h1.2
  have hn := h2.1
  have hk2 : (t.Kind == 2) = false := by
    have : t.Kind = 3 := by simpa using hk
    rw [this]; rfl
  unfold fm6 at h6
  unfold nm1 at hn
  rw [hk, hk2] at h6 hn
  simp only [cond_true, cond_false] at h6 hn
  have hn' : (t.Of.length : Int) ≤ 32 := of_decide_eq_true hn
  cases hd : decide ((t.Of.length : Int) ≥ 1) with
  | false => rw [hd] at h6; cases h6
  | true =>
    rw [hd] at h6
    have := of_decide_eq_true hd
    have h6' : (t.Of.length : Int) = t.Names.length := by simpa using h6
    omega

theorem ApiType.cnts_bound : ∀ l : List ApiType, (∀ x ∈ l, 0 ≤ x.cnt) → 0 ≤ ApiType.cnts l ∧ ApiType.cnts l ≤ 33 * l.length
  | [], _ => by simp [ApiType.cnts]
  | x :: r, h => by
    have h1 := h x List.mem_cons_self
    have h2 := ApiType.cnt_le x
    have h3 := ApiType.cnts_bound r fun y hy => h y (List.mem_cons_of_mem _ hy)
    simp only [ApiType.cnts, List.length_cons]
    omega

theorem ApiType.cnt_ge (t : ApiType) : Fine t → 0 ≤ t.cnt := by
  induction t using ApiType.ind with
  | h t ih =>
  intro hf
  rw [ApiType.cnt_eq]
  cases h2 : t.Kind == 2 with
  | true =>
    obtain ⟨x, hx, s1, s2⟩ := hf.arr h2
    have := ih x (by rw [hx]; exact List.mem_cons_self) (hf.kid (by rw [hx]; exact List.mem_cons_self))
    rw [hx]
    simp only [cond_true, ApiType.cnt1]
    have : 0 ≤ min t.Size 33 * x.cnt := Int.mul_nonneg (by omega) this
    omega
  | false =>
    cases h3 : t.Kind == 3 with
    | true =>
      have := ApiType.cnts_bound t.Of fun x hx => ih x hx (hf.kid hx)
      simp only [cond_true, cond_false]
      omega
    | false => simp only [cond_false]; omega

mutual
/-- some node meets p -/
def ApiType.some (p : ApiType → Bool) : ApiType → Bool
  | .mk k l h s n ns of => p (.mk k l h s n ns of) || ApiType.somes p of
def ApiType.somes (p : ApiType → Bool) : List ApiType → Bool
  | [] => false
  | t :: r => ApiType.some p t || ApiType.somes p r
end
theorem ApiType.some_eq (p : ApiType → Bool) (t : ApiType) : t.some p = (p t || t.Of.any (ApiType.some p)) := by
  have : ∀ l, ApiType.somes p l = l.any (ApiType.some p) := fun l => by
    induction l with
    | nil => rfl
    | cons x r ih => simp [ApiType.somes, ih]
  cases t
  simp only [ApiType.some, ApiType.Of, this]

def isNm (t : ApiType) : Bool := t.Kind == 4

def tw (seen : List (List UInt8)) : List (List UInt8) → Bool
  | [] => false
  | x :: r => (seen.any fun y => x == y) || tw (seen ++ [x]) r
def isTw (t : ApiType) : Bool := tw [] t.Names

def plainT (t : ApiType) : Int := bif t.some isNm then 7 else bif t.some isTw then 8 else bif decide (t.cnt > 32) then 4 else 0

theorem fine_of {t : ApiType} (h : checkT t = 0) : Fine t := by
  unfold checkT repCode at h
  constructor
  · cases hf : t.all formN with
    | true => rfl
    | false =>
      rw [hf] at h
      revert h
      cases (bif decide ((t.nodes : Int) > 1024) then true else decide ((t.depth : Int) > 12)) <;> simp
  · cases hf : t.all numN with
    | true => rfl
    | false =>
      rw [hf] at h
      revert h
      cases (bif decide ((t.nodes : Int) > 1024) then true else decide ((t.depth : Int) > 12)) <;> cases t.all formN <;> cases t.all nameN <;> simp

def checkAll (t : ApiType) : Int := bif checkT t != 0 then checkT t else plainT t

mutual
/-- what is left of n behind the nodes of a type -/
def ApiType.left : ApiType → Int → Int
  | .mk _ _ _ _ _ ns of, n => ApiType.lefts of (n - (1 + min (ns.length : Int) (n + 1)))
def ApiType.lefts : List ApiType → Int → Int
  | [], n => n
  | t :: r, n => bif decide (n ≥ 0) then ApiType.lefts r (ApiType.left t n) else n
end
theorem ApiType.left_eq (t : ApiType) (n : Int) : t.left n = ApiType.lefts t.Of (n - (1 + min (t.Names.length : Int) (n + 1))) := by cases t; rfl

mutual
theorem ApiType.left_bound : ∀ (t : ApiType) (n : Int), 0 ≤ n → -2 ≤ t.left n ∧ t.left n ≤ n
  | .mk _ _ _ _ _ ns of, n, h => by
    simp only [ApiType.left]
    have := ApiType.lefts_bound of (n - (1 + min (ns.length : Int) (n + 1))) (by omega)
    omega
theorem ApiType.lefts_bound : ∀ (l : List ApiType) (n : Int), -2 ≤ n → -2 ≤ ApiType.lefts l n ∧ ApiType.lefts l n ≤ n
  | [], n, h => by simp only [ApiType.lefts]; omega
  | t :: r, n, h => by
    simp only [ApiType.lefts]
    cases hd : decide (n ≥ 0) with
    | false => simp only [cond_false]; omega
    | true =>
      have h0 := of_decide_eq_true hd
      have h1 := ApiType.left_bound t n h0
      have h2 := ApiType.lefts_bound r (t.left n) h1.1
      simp only [cond_true]
      omega
end

def fewT (t : ApiType) : Bool := decide (t.left 200 ≥ 0)


end Go.Proofs.YtonilfkaecbjnaaDoor

