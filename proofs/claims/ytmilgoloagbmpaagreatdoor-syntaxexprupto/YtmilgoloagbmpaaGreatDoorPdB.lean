/-
  Types: what the program's and the reference's checks compute.
-/
import Derived.Test.YtmilgoloagbmpaaGreatDoorPdA
set_option linter.unusedSimpArgs false
namespace Go.Proofs.YtmilgoloagbmpaaGreatDoor
open Go.Am

theorem ApiType.ind {P : ApiType → Prop} (h : ∀ t : ApiType, (∀ x ∈ t.Of, P x) → P t) : ∀ t, P t := by
  intro t
  refine ApiType.rec (motive_1 := P) (motive_2 := fun l => ∀ x ∈ l, P x) ?_ ?_ ?_ t
  · intro k l h' s n ns of ih
    exact h _ ih
  · intro x hx; cases hx
  · intro x r hx hr y hy
    cases hy with
    | head => exact hx
    | tail _ hy => exact hr y hy

mutual
def ApiType.depth : ApiType → Nat
  | .mk _ _ _ _ _ _ of => ApiType.depths of + 1
def ApiType.depths : List ApiType → Nat
  | [] => 0
  | t :: r => max (ApiType.depth t) (ApiType.depths r)
end
theorem ApiType.depth_eq (t : ApiType) : t.depth = ApiType.depths t.Of + 1 := by cases t; simp [ApiType.depth, ApiType.Of]
def inside (a b c : Int) : Bool := bif decide (a ≥ b) then decide (a ≤ c) else false
mutual
/-- every node meets p -/
def ApiType.all (p : ApiType → Bool) : ApiType → Bool
  | .mk k l h s n ns of => p (.mk k l h s n ns of) && ApiType.alls p of
def ApiType.alls (p : ApiType → Bool) : List ApiType → Bool
  | [] => true
  | t :: r => ApiType.all p t && ApiType.alls p r
end
theorem ApiType.all_eq (p : ApiType → Bool) (t : ApiType) : t.all p = (p t && ApiType.alls p t.Of) := by cases t; rfl
mutual
def ApiType.nodes : ApiType → Nat
  | .mk _ _ _ _ _ _ of => ApiType.nodess of + 1
def ApiType.nodess : List ApiType → Nat
  | [] => 0
  | t :: r => ApiType.nodes t + ApiType.nodess r
end
theorem ApiType.nodes_eq (t : ApiType) : t.nodes = ApiType.nodess t.Of + 1 := by cases t; rfl
mutual
theorem ApiType.depth_nodes : ∀ t : ApiType, t.depth ≤ t.nodes
  | .mk _ _ _ _ _ _ of => by simp only [ApiType.depth, ApiType.nodes]; have := ApiType.depths_nodess of; omega
theorem ApiType.depths_nodess : ∀ l : List ApiType, ApiType.depths l ≤ ApiType.nodess l
  | [] => Nat.le_refl _
  | t :: r => by simp only [ApiType.depths, ApiType.nodess]; have := ApiType.depth_nodes t; have := ApiType.depths_nodess r; omega
end

/-! ### what one node is asked -/

def fm1 (t : ApiType) : Bool := bif decide (t.Kind ≥ 0) then decide (t.Kind ≤ 4) else false
def fm2 (t : ApiType) : Bool := bif t.Kind == 1 then true else bif t.Low == 0 then t.High == 0 else false
def fm3 (t : ApiType) : Bool := bif t.Kind == 2 then true else t.Size == 0
def fm4 (t : ApiType) : Bool := bif t.Kind == 4 then true else t.Name == []
def fm5 (t : ApiType) : Bool := bif t.Kind == 3 then true else ((t.Names).length : Int) == 0
def fm6 (t : ApiType) : Bool := bif t.Kind == 2 then ((t.Of).length : Int) == 1 else bif t.Kind == 3 then (bif decide (((t.Of).length : Int) ≥ 1) then ((t.Of).length : Int) == ((t.Names).length : Int) else false) else ((t.Of).length : Int) == 0
def nm1 (t : ApiType) : Bool := bif t.Kind == 2 then inside t.Size 1 32 else bif t.Kind == 3 then decide (((t.Of).length : Int) ≤ 32) else true
def nm2 (t : ApiType) : Bool := bif t.Kind == 1 then (bif inside t.Low (-1048576) 1048576 then inside t.High t.Low 1048576 else false) else true
def formN (t : ApiType) : Bool := fm1 t && fm2 t && fm3 t && fm4 t && fm5 t && fm6 t
def numN (t : ApiType) : Bool := nm1 t && nm2 t
theorem or_not (a b c : Bool) : (a || !b || !c) = (a || !(b && c)) := by cases a <;> cases b <;> cases c <;> rfl

def repCode (n d : Int) (f m u : Bool) : Int :=
  bif (bif decide (n > 1024) then true else decide (d > 12)) then 4 else bif f then 1 else bif m then 7 else bif u then 3 else 0

theorem lt_ge (a b : Int) : decide (a < b) = !decide (a ≥ b) := by
  rw [← decide_not]; exact decide_eq_decide.2 Int.not_le.symm
theorem gt_le (a b : Int) : decide (a > b) = !decide (a ≤ b) := by
  rw [← decide_not]; exact decide_eq_decide.2 Int.not_le.symm

theorem ApiType.alls_mem {p : ApiType → Bool} : ∀ {l : List ApiType} {t : ApiType}, ApiType.alls p l = true → t ∈ l → t.all p = true
  | x :: r, t, h, hm => by
    simp only [ApiType.alls, Bool.and_eq_true] at h
    cases hm with
    | head => exact h.1
    | tail _ hm => exact ApiType.alls_mem h.2 hm

/-- what a type that CheckType lets pass is like -/
structure Fine (t : ApiType) : Prop where
  form : t.all formN = true
  num : t.all numN = true
theorem Fine.kid {t x : ApiType} (h : Fine t) (hx : x ∈ t.Of) : Fine x := by
  have h1 := h.form
  have h2 := h.num
  rw [ApiType.all_eq, Bool.and_eq_true] at h1 h2
  exact ⟨ApiType.alls_mem h1.2 hx, ApiType.alls_mem h2.2 hx⟩
mutual
/-- some node meets p -/
def ApiType.some (p : ApiType → Bool) : ApiType → Bool
  | .mk k l h s n ns of => p (.mk k l h s n ns of) || ApiType.somes p of
def ApiType.somes (p : ApiType → Bool) : List ApiType → Bool
  | [] => false
  | t :: r => ApiType.some p t || ApiType.somes p r
end
mutual
/-- what is left of n behind the nodes of a type -/
def ApiType.left : ApiType → Int → Int
  | .mk _ _ _ _ _ ns of, n => ApiType.lefts of (n - (1 + min (ns.length : Int) (n + 1)))
def ApiType.lefts : List ApiType → Int → Int
  | [], n => n
  | t :: r, n => bif decide (n ≥ 0) then ApiType.lefts r (ApiType.left t n) else n
end

end Go.Proofs.YtmilgoloagbmpaaGreatDoor

