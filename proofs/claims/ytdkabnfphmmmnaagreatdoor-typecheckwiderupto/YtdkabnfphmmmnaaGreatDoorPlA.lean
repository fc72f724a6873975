/- A part of the proof of TypecheckWider. -/
import Derived.Test.YtdkabnfphmmmnaaGreatDoorDgC
import Derived.ProofKit
namespace Go.Proofs.YtdkabnfphmmmnaaGreatDoor
open Go.Am
set_option maxRecDepth 100000
set_option maxHeartbeats 4000000
theorem H19 : Hl = some true := U1c 300 _ (by kernel_rfl)
end Go.Proofs.YtdkabnfphmmmnaaGreatDoor

namespace Go.Proofs.YtdkabnfphmmmnaaGreatDoor
open Go.Am
theorem ob {α β : Type} (a : α) (f : α → Option β) : (some a >>= f) = f a := rfl
theorem U4 {α : Type} {l : List α} {k : Nat} {x : α} {r : List α} (h : l.drop k = x :: r) : decide ((k : Int) < (l.length : Int)) = true ∧ idx l (k : Int) = some x ∧ l.drop (k + 1) = r ∧ k < l.length ∧ x ∈ l := by
  have hk : k < l.length := by
    rcases Nat.lt_or_ge k l.length with h1 | h1
    · exact h1
    · rw [List.drop_eq_nil_of_le h1] at h; cases h
  have hx := List.drop_eq_getElem_cons hk
  rw [h] at hx
  obtain ⟨e1, e2⟩ := List.cons.inj hx
  refine ⟨decide_eq_true (by omega), ?_, e2.symm, hk, ?_⟩
  · unfold idx
    rw [if_pos (by omega), e1]
    simp [hk]
  · rw [e1]; exact List.getElem_mem hk
theorem T2 {α : Type} {l : List α} {k : Nat} (h : l.drop k = []) : decide ((k : Int) < (l.length : Int)) = false ∧ l.length ≤ k := by
  have := List.drop_eq_nil_iff.1 h
  exact ⟨decide_eq_false (by omega), this⟩
def BB : Nat := 68719476736
theorem wr {n : Int} (h : -4611686018427387904 ≤ n) (h' : n ≤ 4611686018427387904) : IntKind.i64.wrap n = n := I1f (by omega) (by omega)
theorem w1 {k : Nat} (h : k ≤ BB) : IntKind.i64.wrap ((k : Int) + 1) = ((k + 1 : Nat) : Int) := by
  unfold BB at h
  rw [wr (by omega) (by omega)]; rfl
def W1p (n : Int) : Bool := bif decide (n ≥ 97) then decide (n ≤ 122) else false
def X1p (n : Int) : Bool := bif decide (n ≥ 48) then decide (n ≤ 57) else false
def J1s (i : Nat) (c : UInt8) : Bool := W1p c.toNat || (i != 0 && X1p c.toNat)
def Wz : Nat → List UInt8 → Bool
  | _, [] => true
  | i, c :: r => J1s i c && Wz (i + 1) r
def Ye (s : List UInt8) : Bool := Wz 0 s && !(s == [])
def kw : List UInt8 := [32, 116, 121, 112, 101, 32, 115, 101, 99, 114, 101, 116, 32, 112, 117, 98, 108, 105, 99, 32, 114, 97, 110, 100, 111, 109, 32, 118, 97, 114, 32, 104, 97, 116, 99, 104, 32, 102, 117, 110, 99, 32, 114, 101, 116, 117, 114, 110, 32, 98, 101, 103, 105, 110, 32, 101, 110, 100, 32, 98, 111, 111, 108, 32, 105, 110, 116, 32, 97, 114, 114, 97, 121, 32, 111, 102, 32, 114, 101, 99, 111, 114, 100, 32, 116, 114, 117, 101, 32, 102, 97, 108, 115, 101, 32, 99, 97, 108, 108, 32, 114, 101, 108, 101, 97, 115, 101, 32, 111, 117, 116, 112, 117, 116, 32, 119, 97, 105, 116, 32, 105, 102, 32, 101, 108, 115, 101, 32, 119, 104, 105, 108, 101, 32, 108, 105, 109, 105, 116, 32, 102, 111, 114, 32, 116, 111, 32, 115, 101, 116, 116, 108, 101, 32, 109, 105, 110, 32, 109, 97, 120, 32]
def Y1p (s : List UInt8) : Bool := bif (bif !(s == []) then !Lib.contains s [32] else false) then Lib.contains kw ([32] ++ s ++ [32]) else false
def Ze (s : List UInt8) : Bool := bif (bif decide ((s.length : Int) ≤ 12) then Ye s else false) then !Y1p s else false
theorem getD_some {s : List UInt8} {k : Nat} (h : k < s.length) : s[k]? = some (s.getD k 0) := by simp [List.getD, h]
set_option maxRecDepth 100000 in
theorem K1s : kw.length = 162 := rfl
theorem A1j (n : Int) : Qi n = some (W1p n) := rfl
theorem Z1l (n : Int) : Fk n = some (X1p n) := rfl
theorem J1b (s : Str) (hs : s.length ≤ BB) : ∀ (r : Str) (k : Nat), s.drop k = r → C8 s k = some (Wz k r && !(s == []))
  | [], k, h => by rw [C8, (T2 h).1]; simp [Wz]
  | c :: r, k, h => by
    obtain ⟨h1, h2, h3, h4, _⟩ := U4 h
    have ih := J1b s hs r (k + 1) h3
    rw [C8, h1, if_pos rfl, h2, ob, A1j, ob, w1 (by omega), ih]
    have e : ((k : Int) == 0) = (k == 0) := by cases k <;> rfl
    simp only [e, Wz, J1s, bne]
    cases hl : W1p c.toNat <;> cases hk : k == 0 <;> cases hd : X1p c.toNat <;> simp [Z1l, hd]
theorem W1n (s : Str) (hs : s.length ≤ BB) : Yl s = some (Ye s) := J1b s hs s 0 rfl
theorem S14 (s t : Str) (hs : s.length ≤ 4000000000) : Zm s t = some (Lib.contains s t) := by
  unfold Zm
  rw [if_pos (decide_eq_true (by omega))]
theorem B1j (s : Str) (hs : s.length ≤ 4000000000) : Hg s = some (Y1p s) := by
  unfold Hg
  have h1 : decide (1 + s.length ≤ maxLen) = true := decide_eq_true (by unfold maxLen; omega)
  have h2 : decide (([32] ++ s).length + 1 ≤ maxLen) = true := decide_eq_true (by unfold maxLen; simp; omega)
  rw [S14 s _ hs]
  have h3 := S14 kw (([32] ++ s) ++ [32]) (by rw [K1s]; omega)
  unfold kw at h3
  unfold Y1p kw
  rw [h1, h2, h3]
  cases s == [] <;> cases Lib.contains s [32] <;> simp
theorem T1d (s : Str) (hs : s.length ≤ BB) : Mf s = some (Ze s) := by
  unfold Mf Zl Ze
  rw [W1n s hs]
  cases h : decide ((s.length : Int) ≤ 12) with
  | false => simp
  | true =>
    have h' : s.length ≤ 12 := by have := of_decide_eq_true h; omega
    rw [B1j s (by omega)]
    cases Ye s <;> simp
end Go.Proofs.YtdkabnfphmmmnaaGreatDoor

set_option linter.unusedSimpArgs false
namespace Go.Proofs.YtdkabnfphmmmnaaGreatDoor
open Go.Am
theorem A0.ind {P : A0 → Prop} (h : ∀ t : A0, (∀ x ∈ t.Of, P x) → P t) : ∀ t, P t := by
  intro t
  refine A0.rec (motive_1 := P) (motive_2 := fun l => ∀ x ∈ l, P x) ?_ ?_ ?_ t
  · intro k l h' s n ns of ih
    exact h _ ih
  · intro x hx; cases hx
  · intro x r hx hr y hy
    cases hy with
    | head => exact hx
    | tail _ hy => exact hr y hy
mutual
def A0.depth : A0 → Nat
  | .mk _ _ _ _ _ _ of => A0.depths of + 1
def A0.depths : List A0 → Nat
  | [] => 0
  | t :: r => max (A0.depth t) (A0.depths r)
end
theorem A0.depth_eq (t : A0) : t.depth = A0.depths t.Of + 1 := by cases t; simp [A0.depth, A0.Of]
theorem A0.depth_le : ∀ {l : List A0} {t : A0}, t ∈ l → t.depth ≤ A0.depths l
  | x :: r, t, h => by
    simp only [A0.depths]
    cases h with
    | head => omega
    | tail _ h => have := A0.depth_le h; omega
def V6 (a b c : Int) : Bool := bif decide (a ≥ b) then decide (a ≤ c) else false
mutual
def A0.all (p : A0 → Bool) : A0 → Bool
  | .mk k l h s n ns of => p (.mk k l h s n ns of) && A0.alls p of
def A0.alls (p : A0 → Bool) : List A0 → Bool
  | [] => true
  | t :: r => A0.all p t && A0.alls p r
end
theorem A0.all_eq (p : A0 → Bool) (t : A0) : t.all p = (p t && A0.alls p t.Of) := by cases t; rfl
mutual
def A0.nodes : A0 → Nat
  | .mk _ _ _ _ _ _ of => A0.nodess of + 1
def A0.nodess : List A0 → Nat
  | [] => 0
  | t :: r => A0.nodes t + A0.nodess r
end
theorem A0.nodes_eq (t : A0) : t.nodes = A0.nodess t.Of + 1 := by cases t; rfl
mutual
theorem A0.depth_nodes : ∀ t : A0, t.depth ≤ t.nodes
  | .mk _ _ _ _ _ _ of => by simp only [A0.depth, A0.nodes]; have := A0.depths_nodess of; omega
theorem A0.depths_nodess : ∀ l : List A0, A0.depths l ≤ A0.nodess l
  | [] => Nat.le_refl _
  | t :: r => by simp only [A0.depths, A0.nodess]; have := A0.depth_nodes t; have := A0.depths_nodess r; omega
end
def fm1 (t : A0) : Bool := bif decide (t.Kind ≥ 0) then decide (t.Kind ≤ 4) else false
def fm2 (t : A0) : Bool := bif t.Kind == 1 then true else bif t.Low == 0 then t.High == 0 else false
def fm3 (t : A0) : Bool := bif t.Kind == 2 then true else t.Size == 0
def fm4 (t : A0) : Bool := bif t.Kind == 4 then true else t.Name == []
def fm5 (t : A0) : Bool := bif t.Kind == 3 then true else ((t.Names).length : Int) == 0
def fm6 (t : A0) : Bool := bif t.Kind == 2 then ((t.Of).length : Int) == 1 else bif t.Kind == 3 then (bif decide (((t.Of).length : Int) ≥ 1) then ((t.Of).length : Int) == ((t.Names).length : Int) else false) else ((t.Of).length : Int) == 0
def nm1 (t : A0) : Bool := bif t.Kind == 2 then V6 t.Size 1 32 else bif t.Kind == 3 then decide (((t.Of).length : Int) ≤ 32) else true
def nm2 (t : A0) : Bool := bif t.Kind == 1 then (bif V6 t.Low (-1048576) 1048576 then V6 t.High t.Low 1048576 else false) else true
def na1 (t : A0) : Bool := bif t.Kind == 4 then Ze t.Name else true
def Id (t : A0) : Bool := fm1 t && fm2 t && fm3 t && fm4 t && fm5 t && fm6 t
def Ji (t : A0) : Bool := nm1 t && nm2 t
def Af (t : A0) : Bool := na1 t && t.Names.all Ze
theorem Lx (a b c : Bool) : (a || !b || !c) = (a || !(b && c)) := by cases a <;> cases b <;> cases c <;> rfl
def Mg (n d : Int) (f m u : Bool) : Int :=
  bif (bif decide (n > 1024) then true else decide (d > 12)) then 4 else bif f then 1 else bif m then 7 else bif u then 3 else 0
def Bf (t : A0) : Int := Mg t.nodes t.depth (!t.all Id) (!t.all Af) (!t.all Ji)
mutual
def A0.cnt : A0 → Int
  | .mk k _ _ s _ _ of => min (bif k == 2 then min s 33 * A0.cnt1 of else bif k == 3 then A0.cnts of else 1) 33
def A0.cnt1 : List A0 → Int
  | [] => 0
  | t :: _ => A0.cnt t
def A0.cnts : List A0 → Int
  | [] => 0
  | t :: r => A0.cnt t + A0.cnts r
end
theorem A0.cnt_eq (t : A0) : t.cnt = min (bif t.Kind == 2 then min t.Size 33 * A0.cnt1 t.Of else bif t.Kind == 3 then A0.cnts t.Of else 1) 33 := by cases t; rfl
theorem A0.cnt_le (t : A0) : t.cnt ≤ 33 := by rw [A0.cnt_eq]; omega
theorem A0.alls_mem {p : A0 → Bool} : ∀ {l : List A0} {t : A0}, A0.alls p l = true → t ∈ l → t.all p = true
  | x :: r, t, h, hm => by
    simp only [A0.alls, Bool.and_eq_true] at h
    cases hm with
    | head => exact h.1
    | tail _ hm => exact A0.alls_mem h.2 hm
structure F6 (t : A0) : Prop where
  form : t.all Id = true
  num : t.all Ji = true
theorem F6.kid {t x : A0} (h : F6 t) (hx : x ∈ t.Of) : F6 x := by
  have h1 := h.form
  have h2 := h.num
  rw [A0.all_eq, Bool.and_eq_true] at h1 h2
  exact ⟨A0.alls_mem h1.2 hx, A0.alls_mem h2.2 hx⟩
theorem F6.here {t : A0} (h : F6 t) : Id t = true ∧ Ji t = true := by
  have h1 := h.form
  have h2 := h.num
  rw [A0.all_eq, Bool.and_eq_true] at h1 h2
  exact ⟨h1.1, h2.1⟩
theorem F6.arr {t : A0} (h : F6 t) (hk : (t.Kind == 2) = true) : ∃ x, t.Of = [x] ∧ 1 ≤ t.Size ∧ t.Size ≤ 32 := by
  obtain ⟨h1, h2⟩ := h.here
  simp only [Id, Ji, Bool.and_eq_true] at h1 h2
  have h6 := h1.2
  have hn := h2.1
  unfold fm6 at h6
  unfold nm1 V6 at hn
  rw [hk] at h6 hn
  simp only [cond_true] at h6 hn
  have hl : t.Of.length = 1 := by have : (t.Of.length : Int) = 1 := by simpa using h6
                                  omega
  obtain ⟨x, hx⟩ := List.length_eq_one_iff.1 hl
  cases hd : decide (t.Size ≥ 1) with
  | false => rw [hd] at hn; cases hn
  | true =>
    rw [hd] at hn
    exact ⟨x, hx, of_decide_eq_true hd, of_decide_eq_true hn⟩
theorem F6.recd {t : A0} (h : F6 t) (hk : (t.Kind == 3) = true) : t.Of.length ≤ 32 ∧ t.Of.length = t.Names.length ∧ 1 ≤ t.Of.length := by
  obtain ⟨h1, h2⟩ := h.here
  simp only [Id, Ji, Bool.and_eq_true] at h1 h2
  have h6 := h1.2
  have hn := h2.1
  have hk2 : (t.Kind == 2) = false := by
    have : t.Kind = 3 := by simpa using hk
    rw [this]; rfl
  unfold fm6 at h6
  unfold nm1 at hn
  rw [hk, hk2] at h6 hn
  simp only [cond_true, cond_false] at h6 hn
  have hn' : (t.Of.length : Int) ≤ 32 := of_decide_eq_true hn
  cases hd : decide ((t.Of.length : Int) ≥ 1) with
  | false => rw [hd] at h6; cases h6
  | true =>
    rw [hd] at h6
    have := of_decide_eq_true hd
    have h6' : (t.Of.length : Int) = t.Names.length := by simpa using h6
    omega
theorem A0.cnts_bound : ∀ l : List A0, (∀ x ∈ l, 0 ≤ x.cnt) → 0 ≤ A0.cnts l ∧ A0.cnts l ≤ 33 * l.length
  | [], _ => by simp [A0.cnts]
  | x :: r, h => by
    have h1 := h x List.mem_cons_self
    have h2 := A0.cnt_le x
    have h3 := A0.cnts_bound r fun y hy => h y (List.mem_cons_of_mem _ hy)
    simp only [A0.cnts, List.length_cons]
    omega
theorem A0.cnt_ge (t : A0) : F6 t → 0 ≤ t.cnt := by
  induction t using A0.ind with
  | h t ih =>
  intro hf
  rw [A0.cnt_eq]
  cases h2 : t.Kind == 2 with
  | true =>
    obtain ⟨x, hx, s1, s2⟩ := hf.arr h2
    have := ih x (by rw [hx]; exact List.mem_cons_self) (hf.kid (by rw [hx]; exact List.mem_cons_self))
    rw [hx]
    simp only [cond_true, A0.cnt1]
    have : 0 ≤ min t.Size 33 * x.cnt := Int.mul_nonneg (by omega) this
    omega
  | false =>
    cases h3 : t.Kind == 3 with
    | true =>
      have := A0.cnts_bound t.Of fun x hx => ih x hx (hf.kid hx)
      simp only [cond_true, cond_false]
      omega
    | false => simp only [cond_false]; omega
mutual
def A0.some (p : A0 → Bool) : A0 → Bool
  | .mk k l h s n ns of => p (.mk k l h s n ns of) || A0.somes p of
def A0.somes (p : A0 → Bool) : List A0 → Bool
  | [] => false
  | t :: r => A0.some p t || A0.somes p r
end
theorem A0.some_eq (p : A0 → Bool) (t : A0) : t.some p = (p t || t.Of.any (A0.some p)) := by
  have : ∀ l, A0.somes p l = l.any (A0.some p) := fun l => by
    induction l with
    | nil => rfl
    | cons x r ih => simp [A0.somes, ih]
  cases t
  simp only [A0.some, A0.Of, this]
def Es (t : A0) : Bool := t.Kind == 4
def tw (seen : List (List UInt8)) : List (List UInt8) → Bool
  | [] => false
  | x :: r => (seen.any fun y => x == y) || tw (seen ++ [x]) r
def Bu (t : A0) : Bool := tw [] t.Names
def B1h (t : A0) : Int := bif t.some Es then 7 else bif t.some Bu then 8 else bif decide (t.cnt > 32) then 4 else 0
theorem V1c {t : A0} (h : Bf t = 0) : F6 t := by
  unfold Bf Mg at h
  constructor
  · cases hf : t.all Id with
    | true => rfl
    | false =>
      rw [hf] at h
      revert h
      cases (bif decide ((t.nodes : Int) > 1024) then true else decide ((t.depth : Int) > 12)) <;> simp
  · cases hf : t.all Ji with
    | true => rfl
    | false =>
      rw [hf] at h
      revert h
      cases (bif decide ((t.nodes : Int) > 1024) then true else decide ((t.depth : Int) > 12)) <;> cases t.all Id <;> cases t.all Af <;> simp
def Wp (t : A0) : Int := bif Bf t != 0 then Bf t else B1h t
def eqL {α : Type} (p : α → α → Bool) : List α → List α → Bool
  | [], [] => true
  | x :: r, y :: s => p x y && eqL p r s
  | _, _ => false
theorem Yy {α : Type} (p : α → α → Bool) : ∀ {l m : List α}, l.length ≠ m.length → eqL p l m = false
  | [], [], h => absurd rfl h
  | [], _ :: _, _ => rfl
  | _ :: _, [], _ => rfl
  | x :: r, y :: s, h => by rw [eqL, Yy p (l := r) (m := s) (by simpa using h), Bool.and_false]
mutual
def A0.same : A0 → A0 → Bool
  | .mk k l h s n ns of, t => k == t.Kind && l == t.Low && h == t.High && s == t.Size && n == t.Name && eqL (fun x y => x == y) ns t.Names && A0.sames of t.Of
def A0.sames : List A0 → List A0 → Bool
  | [], [] => true
  | x :: r, y :: s => A0.same x y && A0.sames r s
  | [], _ :: _ => false
  | _ :: _, [] => false
end
theorem A0.sames_eq : ∀ l m : List A0, A0.sames l m = eqL A0.same l m
  | [], [] => rfl
  | x :: r, y :: s => by simp only [A0.sames, eqL, A0.sames_eq r s]
  | [], _ :: _ => rfl
  | _ :: _, [] => rfl
theorem A0.same_eq (t u : A0) : t.same u = (t.Kind == u.Kind && t.Low == u.Low && t.High == u.High && t.Size == u.Size && t.Name == u.Name && eqL (fun x y => x == y) t.Names u.Names && eqL A0.same t.Of u.Of) := by
  rw [← A0.sames_eq]
  cases t
  rfl
end Go.Proofs.YtdkabnfphmmmnaaGreatDoor

set_option linter.unusedSimpArgs false
namespace Go.Proofs.YtdkabnfphmmmnaaGreatDoor
open Go.Am
mutual
def A0.bulk : A0 → Nat
  | .mk _ _ _ _ n ns of => 1 + (1 + (1 + (1 + ((n.length + 1) + (((ns.map fun s => s.length + 1).sum + 1) + ((A0.bulks of + 1) + 0)))))) + 1
def A0.bulks : List A0 → Nat
  | [] => 0
  | x :: r => A0.bulk x + A0.bulks r
end
theorem A0.bulk_eq (t : A0) : t.bulk = t.Name.length + (t.Names.map fun s => s.length + 1).sum + A0.bulks t.Of + 8 := by cases t; simp only [A0.bulk]; omega
theorem A0.bulk_kid {t : A0} : ∀ {l : List A0}, t ∈ l → t.bulk ≤ A0.bulks l
  | x :: r, h => by
    simp only [A0.bulks]
    cases h with
    | head => omega
    | tail _ h => have := A0.bulk_kid h; omega
theorem A0.bulk_len : ∀ l : List A0, l.length ≤ A0.bulks l
  | [] => Nat.le_refl _
  | x :: r => by
    simp only [A0.bulks, List.length_cons]
    have := A0.bulk_len r
    have := A0.bulk_eq x
    omega
theorem I19 {s : Str} : ∀ {l : List Str}, s ∈ l → s.length + 1 ≤ (l.map fun s => s.length + 1).sum
  | x :: r, h => by
    simp only [List.map_cons, List.sum_cons]
    cases h with
    | head => omega
    | tail _ h => have := I19 h; omega
theorem C1h : ∀ l : List Str, l.length ≤ (l.map fun s => s.length + 1).sum
  | [] => Nat.le_refl _
  | x :: r => by simp only [List.map_cons, List.sum_cons, List.length_cons]; have := C1h r; omega
mutual
theorem A0.nodes_bulk : ∀ t : A0, t.nodes ≤ t.bulk
  | .mk _ _ _ _ _ _ of => by simp only [A0.nodes, A0.bulk]; have := A0.nodess_bulk of; omega
theorem A0.nodess_bulk : ∀ l : List A0, A0.nodess l ≤ A0.bulks l
  | [] => Nat.le_refl _
  | x :: r => by simp only [A0.nodess, A0.bulks]; have := A0.nodes_bulk x; have := A0.nodess_bulk r; omega
end
def Ok (t : A0) : Prop := t.bulk ≤ BB
theorem Ok.kid {t x : A0} (h : Ok t) (hx : x ∈ t.Of) : Ok x := by
  unfold Ok at *
  have := A0.bulk_kid hx
  have := A0.bulk_eq t
  omega
theorem Ok.ofs {t : A0} (h : Ok t) : t.Of.length ≤ BB := by
  unfold Ok at *
  have := A0.bulk_len t.Of
  have := A0.bulk_eq t
  omega
theorem Ok.names {t : A0} (h : Ok t) : t.Names.length ≤ BB := by
  unfold Ok at *
  have := C1h t.Names
  have := A0.bulk_eq t
  omega
theorem Ok.name1 {t : A0} (h : Ok t) {s : Str} (hs : s ∈ t.Names) : s.length ≤ BB := by
  unfold Ok at *
  have := I19 hs
  have := A0.bulk_eq t
  omega
theorem Ok.name {t : A0} (h : Ok t) : t.Name.length ≤ BB := by
  unfold Ok at *
  have := A0.bulk_eq t
  omega
theorem Ok.nodes {t : A0} (h : Ok t) : t.nodes ≤ BB := Nat.le_trans (A0.nodes_bulk t) h
theorem bor (a b : Bool) : (bif a then true else b) = (a || b) := by cases a <;> rfl
theorem J19 (d : Int) (o : B0) : B8 d o = some ⟨o.nodes, max o.depth d, o.badForm, o.badName, o.badNumber⟩ := rfl
theorem K19 (b : Bool) (o : B0) : U0 b o = some ⟨o.nodes, o.depth, o.badForm || !b, o.badName, o.badNumber⟩ := by unfold U0; rw [bor]
theorem Uy (b : Bool) (o : B0) : Z1 b o = some ⟨o.nodes, o.depth, o.badForm, o.badName, o.badNumber || !b⟩ := by unfold Z1; rw [bor]
theorem Gn (a b c : Int) : H4 a b c = some (V6 a b c) := rfl
theorem F14 (s : Str) (hs : s.length ≤ BB) (o : B0) : W4 s o = some ⟨o.nodes, o.depth, o.badForm, o.badName || !Ze s, o.badNumber⟩ := by
  unfold W4
  rw [T1d s hs]
  cases h : o.badName <;> simp
theorem L19 (o : B0) : Q6 o = some (Mg o.nodes o.depth o.badForm o.badName o.badNumber) := by
  unfold Q6 Mg
  cases (bif decide (o.nodes > 1024) then true else decide (o.depth > 12)) <;> cases o.badForm <;> cases o.badName <;> cases o.badNumber <;> rfl
def Ki (o : B0) (d : Int) (n m : Nat) (f a u : Bool) : B0 := ⟨o.nodes + n, max o.depth (d + m), o.badForm || !f, o.badName || !a, o.badNumber || !u⟩
theorem X1n (t : A0) (d : Int) (hd : 0 ≤ d) (ht : Ok t)
    (ih : ∀ x ∈ t.Of, ∀ (d : Int) (o : B0), 0 ≤ d → d + x.nodes ≤ 4 * BB → 0 ≤ o.nodes → o.nodes + x.nodes ≤ 4 * BB → R4 x d o = some (Ki o d x.nodes (x.depth - 1) (x.all Id) (x.all Af) (x.all Ji))) :
    ∀ (r : List A0) (k : Nat) (o : B0), t.Of.drop k = r → (∀ x ∈ r, x ∈ t.Of) → d + 1 + A0.nodess r ≤ 4 * BB → 0 ≤ o.nodes → o.nodes + A0.nodess r ≤ 4 * BB → d ≤ o.depth →
      O4 t d o k = some (Ki o d (A0.nodess r) (A0.depths r) (A0.alls Id r) (A0.alls Af r) (A0.alls Ji r))
  | [], k, o, h, _, _, _, _, h5 => by
    rw [O4, (T2 h).1]
    simp only [Ki, A0.nodess, A0.depths, A0.alls, Bool.not_true, Bool.or_false]
    rw [if_neg (by simp), show o.nodes + ((0 : Nat) : Int) = o.nodes by omega, show max o.depth (d + ((0 : Nat) : Int)) = o.depth by omega]
  | x :: r, k, o, h, hm, hb, h3, h4, h5 => by
    obtain ⟨e1, e2, e3, e4, e5⟩ := U4 h
    simp only [A0.nodess] at hb h4
    have hdp : 1 ≤ x.depth := by rw [A0.depth_eq]; omega
    have hof := ht.ofs
    unfold BB at hb h4 hof
    rw [O4, e1, if_pos rfl, e2, ob, wr (n := d + 1) (by omega) (by omega), ih x e5 (d + 1) o (by omega) (by unfold BB; omega) h3 (by unfold BB; omega), ob, w1 (by unfold BB; omega),
      X1n t d hd ht ih r (k + 1) _ e3 (fun y hy => hm y (List.mem_cons_of_mem _ hy)) (by unfold BB; omega) (by simp only [Ki]; omega) (by simp only [Ki]; unfold BB; omega) (by simp only [Ki]; omega)]
    simp only [Ki, A0.nodess, A0.depths, A0.alls, Lx]
    rw [show o.nodes + (x.nodes : Int) + (A0.nodess r : Nat) = o.nodes + ((x.nodes + A0.nodess r : Nat) : Int) by omega,
      show max (max o.depth (d + 1 + ((x.depth - 1 : Nat) : Int))) (d + (A0.depths r : Nat)) = max o.depth (d + ((max x.depth (A0.depths r) : Nat) : Int)) by omega]
theorem Y1n (t : A0) (d : Int) (ht : Ok t) (R : B0 → Option B0) (hR : ∀ o, O4 t d o 0 = R o) :
    ∀ (r : List Str) (k : Nat) (o : B0), t.Names.drop k = r → B4 t d o k = R ⟨o.nodes, o.depth, o.badForm, o.badName || !r.all Ze, o.badNumber⟩
  | [], k, o, h => by
    rw [B4, (T2 h).1, if_neg (by simp), hR]
    simp
  | x :: r, k, o, h => by
    obtain ⟨e1, e2, e3, e4, e5⟩ := U4 h
    have := ht.names
    rw [B4, e1, if_pos rfl, e2, ob, F14 x (ht.name1 e5), ob, w1 (by omega), Y1n t d ht R hR r (k + 1) _ e3]
    simp only [List.all_cons, Lx]
theorem L1s (t : A0) (d : Int) (ht : Ok t) (o : B0) : I5 t d o = B4 t d ⟨o.nodes, o.depth, o.badForm, o.badName || !na1 t, o.badNumber⟩ 0 := by
  rw [I5, F14 _ ht.name, ob, M6, M6]
  unfold na1
  cases h : t.Kind == 4 <;> simp
theorem M1s (t : A0) (d : Int) (o : B0) : H5 t d o = I5 t d ⟨o.nodes, o.depth, o.badForm, o.badName, o.badNumber || !nm2 t⟩ := by
  rw [H5]
  unfold nm2
  simp only [Gn, Uy, ob]
  cases h : t.Kind == 1 <;> cases V6 t.Low (-1048576) 1048576 <;> simp [ob]
theorem Z1n (t : A0) : Ok t → ∀ (d : Int) (o : B0), 0 ≤ d → d + t.nodes ≤ 4 * BB → 0 ≤ o.nodes → o.nodes + t.nodes ≤ 4 * BB →
    R4 t d o = some (Ki o d t.nodes (t.depth - 1) (t.all Id) (t.all Af) (t.all Ji)) := by
  induction t using A0.ind with
  | h t ih =>
  intro ht d o hd hb h3 h4
  have h5 := fun o h3 h4 hd' => X1n t d hd ht (fun x hx => ih x hx (ht.kid hx)) t.Of 0 o rfl (fun _ h => h) (by rw [A0.nodes_eq] at hb; omega) h3 h4 hd'
  have l4 := Y1n t d ht _ (fun o => rfl) t.Names 0
  rw [A0.nodes_eq] at hb h4
  unfold BB at hb h4
  rw [R4]
  simp only [J19, K19, Gn, Uy, ob, M1s, L1s t d ht]
  rw [wr (n := o.nodes + 1) (by omega) (by omega)]
  have fin : ∀ b6 u1, fm6 t = b6 → nm1 t = u1 →
      B4 t d ⟨o.nodes + 1, max o.depth d, (((((o.badForm || !fm1 t) || !fm2 t) || !fm3 t) || !fm4 t) || !fm5 t) || !b6, o.badName || !na1 t, (o.badNumber || !u1) || !nm2 t⟩ 0
        = some (Ki o d t.nodes (t.depth - 1) (t.all Id) (t.all Af) (t.all Ji)) := by
    rintro _ _ rfl rfl
    have := l4 ⟨o.nodes + 1, max o.depth d, (((((o.badForm || !fm1 t) || !fm2 t) || !fm3 t) || !fm4 t) || !fm5 t) || !fm6 t, o.badName || !na1 t, (o.badNumber || !nm1 t) || !nm2 t⟩ rfl
    rw [show ((0 : Nat) : Int) = 0 from rfl] at this h5
    rw [this, h5 _ (by simp only; omega) (by simp only; unfold BB; omega) (by simp only; omega)]
    simp only [Ki, A0.all_eq, A0.nodes_eq, A0.depth_eq, Id, Af, Ji, Lx, Bool.or_assoc, ← Bool.not_and]
    simp only [Lx, Bool.and_assoc]
    rw [show o.nodes + 1 + (A0.nodess t.Of : Int) = o.nodes + ((A0.nodess t.Of + 1 : Nat) : Int) by omega, show max (max o.depth d) (d + (A0.depths t.Of : Int)) = max o.depth (d + ((A0.depths t.Of + 1 - 1 : Nat) : Int)) by omega]
  have h2 : (t.Kind == 2) = true ∨ (t.Kind == 2) = false := by cases t.Kind == 2 <;> simp
  have h3 : (t.Kind == 3) = true ∨ (t.Kind == 3) = false := by cases t.Kind == 3 <;> simp
  rcases h2 with h2 | h2
  · rw [if_pos h2]
    exact fin ((t.Of.length : Int) == 1) (V6 t.Size 1 32) (by unfold fm6; rw [h2, cond_true]) (by unfold nm1; rw [h2, cond_true])
  · rw [if_neg (by rw [h2]; simp)]
    rcases h3 with h3 | h3
    · rw [if_pos h3]
      exact fin (bif decide ((t.Of.length : Int) ≥ 1) then (t.Of.length : Int) == (t.Names.length : Int) else false) (decide ((t.Of.length : Int) ≤ 32)) (by unfold fm6; rw [h2, h3, cond_false, cond_true]) (by unfold nm1; rw [h2, h3, cond_false, cond_true])
    · rw [if_neg (by rw [h3]; simp)]
      have := fin ((t.Of.length : Int) == 0) true (by unfold fm6; rw [h2, h3, cond_false, cond_false]) (by unfold nm1; rw [h2, h3, cond_false, cond_false])
      rw [Bool.not_true, Bool.or_false] at this
      exact this
theorem R16 (t : A0) (ht : Ok t) : Ra t = some (Bf t) := by
  have hn := ht.nodes
  unfold BB at hn
  have hp : 1 ≤ t.depth := by rw [A0.depth_eq]; omega
  unfold Ra
  rw [Z1n t ht 1 _ (by omega) (by unfold BB; omega) (by simp) (by simp only; unfold BB; omega), ob, L19, ob]
  unfold Ki Bf
  simp only [Bool.false_or]
  rw [show (0 : Int) + (t.nodes : Int) = t.nodes by omega, show max 0 ((1 : Int) + ((t.depth - 1 : Nat) : Int)) = t.depth by omega]
end Go.Proofs.YtdkabnfphmmmnaaGreatDoor

set_option linter.unusedSimpArgs false
namespace Go.Proofs.YtdkabnfphmmmnaaGreatDoor
open Go.Am
end Go.Proofs.YtdkabnfphmmmnaaGreatDoor

set_option linter.unusedSimpArgs false
set_option linter.unusedVariables false
namespace Go.Proofs.YtdkabnfphmmmnaaGreatDoor
open Go.Am
theorem C0.ind {P : C0 → Prop} (h : ∀ t : C0, (∀ x ∈ t.Kids, P x) → P t) : ∀ t, P t := by
  intro t
  refine C0.rec (motive_1 := P) (motive_2 := fun l => ∀ x ∈ l, P x) ?_ ?_ ?_ t
  · intro k l n of ih
    exact h _ ih
  · intro x hx; cases hx
  · intro x r hx hr y hy
    cases hy with
    | head => exact hx
    | tail _ hy => exact hr y hy
mutual
def C0.depth : C0 → Nat
  | .mk _ _ _ of => C0.depths of + 1
def C0.depths : List C0 → Nat
  | [] => 0
  | t :: r => max (C0.depth t) (C0.depths r)
end
theorem C0.depth_eq (t : C0) : t.depth = C0.depths t.Kids + 1 := by cases t; simp [C0.depth, C0.Kids]
theorem C0.depth_le : ∀ {l : List C0} {t : C0}, t ∈ l → t.depth ≤ C0.depths l
  | x :: r, t, h => by
    simp only [C0.depths]
    cases h with
    | head => omega
    | tail _ h => have := C0.depth_le h; omega
mutual
def C0.all (p : C0 → Bool) : C0 → Bool
  | .mk k l n of => p (.mk k l n of) && C0.alls p of
def C0.alls (p : C0 → Bool) : List C0 → Bool
  | [] => true
  | t :: r => C0.all p t && C0.alls p r
end
theorem C0.all_eq (p : C0 → Bool) (t : C0) : t.all p = (p t && C0.alls p t.Kids) := by cases t; rfl
mutual
def C0.nodes : C0 → Nat
  | .mk _ _ _ of => C0.nodess of + 1
def C0.nodess : List C0 → Nat
  | [] => 0
  | t :: r => C0.nodes t + C0.nodess r
end
theorem C0.nodes_eq (t : C0) : t.nodes = C0.nodess t.Kids + 1 := by cases t; rfl
mutual
theorem C0.depth_nodes : ∀ t : C0, t.depth ≤ t.nodes
  | .mk _ _ _ of => by simp only [C0.depth, C0.nodes]; have := C0.depths_nodess of; omega
theorem C0.depths_nodess : ∀ l : List C0, C0.depths l ≤ C0.nodess l
  | [] => Nat.le_refl _
  | t :: r => by simp only [C0.depths, C0.nodess]; have := C0.depth_nodes t; have := C0.depths_nodess r; omega
end
mutual
def C0.bulk : C0 → Nat
  | .mk _ _ n ks => 1 + (1 + ((n.length + 1) + ((C0.bulks ks + 1) + 0))) + 1
def C0.bulks : List C0 → Nat
  | [] => 0
  | x :: r => C0.bulk x + C0.bulks r
end
theorem C0.bulk_eq (t : C0) : t.bulk = t.Name.length + C0.bulks t.Kids + 5 := by cases t; simp only [C0.bulk]; omega
theorem C0.bulk_kid {t : C0} : ∀ {l : List C0}, t ∈ l → t.bulk ≤ C0.bulks l
  | x :: r, h => by
    simp only [C0.bulks]
    cases h with
    | head => omega
    | tail _ h => have := C0.bulk_kid h; omega
theorem C0.bulk_len : ∀ l : List C0, l.length ≤ C0.bulks l
  | [] => Nat.le_refl _
  | x :: r => by
    simp only [C0.bulks, List.length_cons]
    have := C0.bulk_len r
    have := C0.bulk_eq x
    omega
mutual
theorem C0.nodes_bulk : ∀ t : C0, t.nodes ≤ t.bulk
  | .mk _ _ _ of => by simp only [C0.nodes, C0.bulk]; have := C0.nodess_bulk of; omega
theorem C0.nodess_bulk : ∀ l : List C0, C0.nodess l ≤ C0.bulks l
  | [] => Nat.le_refl _
  | x :: r => by simp only [C0.nodess, C0.bulks]; have := C0.nodes_bulk x; have := C0.nodess_bulk r; omega
end
def OkE (t : C0) : Prop := t.bulk ≤ BB
theorem OkE.kid {t x : C0} (h : OkE t) (hx : x ∈ t.Kids) : OkE x := by
  unfold OkE at *
  have := C0.bulk_kid hx
  have := C0.bulk_eq t
  omega
theorem OkE.kids {t : C0} (h : OkE t) : t.Kids.length ≤ BB := by
  unfold OkE at *
  have := C0.bulk_len t.Kids
  have := C0.bulk_eq t
  omega
theorem OkE.name {t : C0} (h : OkE t) : t.Name.length ≤ BB := by
  unfold OkE at *
  have := C0.bulk_eq t
  omega
theorem OkE.nodes {t : C0} (h : OkE t) : t.nodes ≤ BB := Nat.le_trans (C0.nodes_bulk t) h
theorem C0.alls_mem {p : C0 → Bool} : ∀ {l : List C0} {t : C0}, C0.alls p l = true → t ∈ l → t.all p = true
  | x :: r, t, h, hm => by
    simp only [C0.alls, Bool.and_eq_true] at h
    cases hm with
    | head => exact h.1
    | tail _ hm => exact C0.alls_mem h.2 hm
def ar (o : Int) : Int :=
  bif (bif (bif (bif (o == 0) then true else (o == 1)) then true else (o == 2)) then true else (o == 3)) then 0
  else bif (bif (bif (o == 4) then true else (o == 6)) then true else (o == 7)) then 1
  else bif (bif (o == 5) then true else (bif (decide (o ≥ 8)) then (decide (o ≤ 22)) else false)) then 2
  else bif (o == 23) then 3 else -1
theorem Z1p (o : Int) : Yi o = some (ar o) := by
  by_cases h : o = 23
  · subst h; rfl
  have h' : (o == 23) = false := beq_eq_false_iff_ne.2 h
  simp only [Yi, Ma, Jc, ar, h']
  cases o == 0 <;> cases o == 1 <;> cases o == 2 <;> cases o == 3 <;> first | rfl | skip
  cases o == 4 <;> cases o == 6 <;> cases o == 7 <;> first | rfl | skip
  cases o == 5 <;> cases (bif decide (o ≥ 8) then decide (o ≤ 22) else false) <;> rfl
mutual
def C0.place : C0 → Bool
  | .mk op _ _ ks => bif op == 3 then true else bif (bif op == 4 then true else op == 5) then C0.place1 ks else false
def C0.place1 : List C0 → Bool
  | [] => false
  | x :: _ => C0.place x
end
theorem C0.place_eq (e : C0) : e.place = (bif e.Op == 3 then true else bif (bif e.Op == 4 then true else e.Op == 5) then C0.place1 e.Kids else false) := by cases e; simp only [C0.place]
theorem b3 {o : Int} (h : (bif o == 4 then true else o == 5) = true) : (o == 3) = false := by
  apply beq_eq_false_iff_ne.2
  rintro rfl
  cases h
theorem U1d (e : C0) : Vg e = some e.place := by
  unfold Vg
  induction e using C0.ind with
  | h e ih =>
  rw [Na, C0.place_eq]
  cases hb : (bif e.Op == 4 then true else e.Op == 5) with
  | false => cases e.Op == 3 <;> simp
  | true =>
    rw [b3 hb]
    cases hk : e.Kids with
    | nil => rfl
    | cons k r =>
      have := ih k (by rw [hk]; simp)
      have h0 : idx (k :: r) 0 = some k := rfl
      have h1 : (((k :: r).length : Int) == 0) = false := beq_eq_false_iff_ne.2 (by simp only [List.length_cons]; omega)
      simp only [h1, h0, ob, this, cond_true, cond_false, C0.place1]
      simp
def ef1 (e : C0) : Bool := ar e.Op == (e.Kids.length : Int)
def ef2 (e : C0) : Bool := bif e.NV == 0 then true else e.Op == 0
def ef3 (e : C0) : Bool := bif e.Name == [] then true else bif e.Op == 3 then true else e.Op == 4
def ef4 (e : C0) : Bool := bif (bif e.Op == 4 then true else e.Op == 5) then e.place else true
def G9 (e : C0) : Bool := ef1 e && ef2 e && ef3 e && ef4 e
def Be (e : C0) : Bool := bif (bif e.Op == 3 then true else e.Op == 4) then Ze e.Name else true
def Ce (e : C0) : Bool := bif e.Op == 0 then V6 e.NV 0 1048576 else true
def Dg (e : C0) : Int := Mg e.nodes e.depth (!e.all G9) (!e.all Be) (!e.all Ce)
theorem D1k (e : C0) (d : Int) (hd : 0 ≤ d) (ht : OkE e)
    (ih : ∀ x ∈ e.Kids, ∀ (d : Int) (o : B0), 0 ≤ d → d + x.nodes ≤ 4 * BB → 0 ≤ o.nodes → o.nodes + x.nodes ≤ 4 * BB → D3 x d o = some (Ki o d x.nodes (x.depth - 1) (x.all G9) (x.all Be) (x.all Ce))) :
    ∀ (r : List C0) (k : Nat) (o : B0), e.Kids.drop k = r → d + 1 + C0.nodess r ≤ 4 * BB → 0 ≤ o.nodes → o.nodes + C0.nodess r ≤ 4 * BB → d ≤ o.depth →
      P3 e d o k = some (Ki o d (C0.nodess r) (C0.depths r) (C0.alls G9 r) (C0.alls Be r) (C0.alls Ce r))
  | [], k, o, h, _, _, _, h5 => by
    rw [P3, (T2 h).1]
    simp only [Ki, C0.nodess, C0.depths, C0.alls, Bool.not_true, Bool.or_false]
    rw [if_neg (by simp), show o.nodes + ((0 : Nat) : Int) = o.nodes by omega, show max o.depth (d + ((0 : Nat) : Int)) = o.depth by omega]
  | x :: r, k, o, h, hb, h3, h4, h5 => by
    obtain ⟨e1, e2, e3, e4, e5⟩ := U4 h
    simp only [C0.nodess] at hb h4
    have hdp : 1 ≤ x.depth := by rw [C0.depth_eq]; omega
    have hof := ht.kids
    unfold BB at hb h4 hof
    rw [P3, e1, if_pos rfl, e2, ob, wr (n := d + 1) (by omega) (by omega), ih x e5 (d + 1) o (by omega) (by unfold BB; omega) h3 (by unfold BB; omega), ob, w1 (by unfold BB; omega),
      D1k e d hd ht ih r (k + 1) _ e3 (by unfold BB; omega) (by simp only [Ki]; omega) (by simp only [Ki]; unfold BB; omega) (by simp only [Ki]; omega)]
    simp only [Ki, C0.nodess, C0.depths, C0.alls, Lx]
    rw [show o.nodes + (x.nodes : Int) + (C0.nodess r : Nat) = o.nodes + ((x.nodes + C0.nodess r : Nat) : Int) by omega,
      show max (max o.depth (d + 1 + ((x.depth - 1 : Nat) : Int))) (d + (C0.depths r : Nat)) = max o.depth (d + ((max x.depth (C0.depths r) : Nat) : Int)) by omega]
theorem A1q (e : C0) (ht : OkE e) (d : Int) (o : B0) : U5 e d o = P3 e d ⟨o.nodes, o.depth, o.badForm, o.badName || !Be e, o.badNumber || !Ce e⟩ 0 := by
  rw [U5, F14 _ ht.name, ob]
  simp only [K7, L7, Gn, Uy, ob]
  unfold Be Ce
  cases (bif e.Op == 3 then true else e.Op == 4) <;> cases e.Op == 0 <;> simp
theorem D1h (e : C0) : OkE e → ∀ (d : Int) (o : B0), 0 ≤ d → d + e.nodes ≤ 4 * BB → 0 ≤ o.nodes → o.nodes + e.nodes ≤ 4 * BB →
    D3 e d o = some (Ki o d e.nodes (e.depth - 1) (e.all G9) (e.all Be) (e.all Ce)) := by
  induction e using C0.ind with
  | h e ih =>
  intro ht d o hd hb h3 h4
  have h5 := fun o h3 h4 hd' => D1k e d hd ht (fun x hx => ih x hx (ht.kid hx)) e.Kids 0 o rfl (by rw [C0.nodes_eq] at hb; omega) h3 h4 hd'
  rw [C0.nodes_eq] at hb h4
  unfold BB at hb h4
  rw [D3]
  simp only [J19, K19, Z1p, U1d, ob, A1q e ht]
  rw [wr (n := o.nodes + 1) (by omega) (by omega)]
  rw [show ((0 : Nat) : Int) = 0 from rfl] at h5
  have fin : ∀ f : Bool, ef4 e = f → P3 e d ⟨o.nodes + 1, max o.depth d, (((o.badForm || !ef1 e) || !ef2 e) || !ef3 e) || !f, o.badName || !Be e, o.badNumber || !Ce e⟩ 0 = some (Ki o d e.nodes (e.depth - 1) (e.all G9) (e.all Be) (e.all Ce)) := by
    rintro _ rfl
    rw [h5 _ (by simp only; omega) (by simp only; unfold BB; omega) (by simp only; omega)]
    simp only [Ki, C0.all_eq, C0.nodes_eq, C0.depth_eq, G9, Lx, Bool.or_assoc, ← Bool.not_and]
    simp only [Lx, Bool.and_assoc]
    rw [show o.nodes + 1 + (C0.nodess e.Kids : Int) = o.nodes + ((C0.nodess e.Kids + 1 : Nat) : Int) by omega, show max (max o.depth d) (d + (C0.depths e.Kids : Int)) = max o.depth (d + ((C0.depths e.Kids + 1 - 1 : Nat) : Int)) by omega]
  cases hb : (bif e.Op == 4 then true else e.Op == 5) with
  | true =>
    rw [if_pos rfl]
    exact fin e.place (by unfold ef4; rw [hb]; rfl)
  | false =>
    rw [if_neg (by simp)]
    have := fin true (by unfold ef4; rw [hb]; rfl)
    rw [Bool.not_true, Bool.or_false] at this
    exact this
theorem E1h (e : C0) (ht : OkE e) : Md e = some (Dg e) := by
  have hn := ht.nodes
  unfold BB at hn
  have hp : 1 ≤ e.depth := by rw [C0.depth_eq]; omega
  unfold Md
  rw [D1h e ht 1 _ (by omega) (by unfold BB; omega) (by simp) (by simp only; unfold BB; omega), ob, L19, ob]
  unfold Ki Dg
  simp only [Bool.false_or]
  rw [show (0 : Int) + (e.nodes : Int) = e.nodes by omega, show max 0 ((1 : Int) + ((e.depth - 1 : Nat) : Int)) = e.depth by omega]
end Go.Proofs.YtdkabnfphmmmnaaGreatDoor

set_option linter.unusedSimpArgs false
set_option linter.unusedVariables false
namespace Go.Proofs.YtdkabnfphmmmnaaGreatDoor
open Go.Am
theorem E1k (e : C0) (ht : OkE e) (ih : ∀ x ∈ e.Kids, ∀ n, ∃ m, Y7 x n = some m) : ∀ (r : List C0) (k : Nat) (n : Int), e.Kids.drop k = r → ∃ m, Gc e n k = some m
  | [], k, n, h => by rw [Gc, (T2 h).1]; exact ⟨_, rfl⟩
  | x :: r, k, n, h => by
    obtain ⟨e1, e2, e3, e4, e5⟩ := U4 h
    have := ht.kids
    rw [Gc, e1, e2]
    cases decide (n ≥ 0) with
    | false => exact ⟨_, rfl⟩
    | true =>
      obtain ⟨m, hm⟩ := ih x e5 n
      rw [cond_true, if_pos rfl, ob, hm, ob, w1 (by omega)]
      exact E1k e ht ih r (k + 1) m e3
theorem Cu (e : C0) : OkE e → ∀ n, ∃ m, Y7 e n = some m := by
  induction e using C0.ind with
  | h e ih =>
  intro ht n
  rw [Y7]
  exact E1k e ht (fun x hx => ih x hx (ht.kid hx)) e.Kids 0 _ rfl
theorem V1d (e : C0) (ht : OkE e) (n : Int) : ∃ b, Sf e n = some b := by
  obtain ⟨m, hm⟩ := Cu e ht n
  unfold Sf
  rw [hm]
  exact ⟨_, rfl⟩
theorem M19 (t : A0) (ht : Ok t) (ih : ∀ x ∈ t.Of, ∀ n, ∃ m, Pb x n = some m) : ∀ (r : List A0) (k : Nat) (n : Int), t.Of.drop k = r → ∃ m, Fc t n k = some m
  | [], k, n, h => by rw [Fc, (T2 h).1]; exact ⟨_, rfl⟩
  | x :: r, k, n, h => by
    obtain ⟨e1, e2, e3, e4, e5⟩ := U4 h
    have := ht.ofs
    rw [Fc, e1, e2]
    cases decide (n ≥ 0) with
    | false => exact ⟨_, rfl⟩
    | true =>
      obtain ⟨m, hm⟩ := ih x e5 n
      rw [cond_true, if_pos rfl, ob, hm, ob, w1 (by omega)]
      exact M19 t ht ih r (k + 1) m e3
theorem F1h (t : A0) (ht : Ok t) (ih : ∀ x ∈ t.Of, ∀ n, ∃ m, Pb x n = some m) : ∀ (r : List Str) (k : Nat) (n : Int), t.Names.drop k = r → ∃ m, Ec t n k = some m
  | [], k, n, h => by rw [Ec, (T2 h).1]; exact M19 t ht ih t.Of 0 n rfl
  | x :: r, k, n, h => by
    obtain ⟨e1, e2, e3, e4, e5⟩ := U4 h
    have := ht.names
    rw [Ec, e1, e2]
    cases decide (n ≥ 0) with
    | false => exact M19 t ht ih t.Of 0 n rfl
    | true =>
      rw [cond_true, if_pos rfl, ob, w1 (by omega)]
      exact F1h t ht ih r (k + 1) _ e3
theorem A1m (t : A0) : Ok t → ∀ n, ∃ m, Pb t n = some m := by
  induction t using A0.ind with
  | h t ih =>
  intro ht n
  rw [Pb]
  exact F1h t ht (fun x hx => ih x hx (ht.kid hx)) t.Names 0 _ rfl
end Go.Proofs.YtdkabnfphmmmnaaGreatDoor

set_option linter.unusedSimpArgs false
set_option linter.unusedVariables false
namespace Go.Proofs.YtdkabnfphmmmnaaGreatDoor
open Go.Am
end Go.Proofs.YtdkabnfphmmmnaaGreatDoor

set_option linter.unusedSimpArgs false
set_option linter.unusedVariables false
namespace Go.Proofs.YtdkabnfphmmmnaaGreatDoor
open Go.Am
end Go.Proofs.YtdkabnfphmmmnaaGreatDoor

set_option linter.unusedSimpArgs false
set_option linter.unusedVariables false
set_option maxHeartbeats 800000
namespace Go.Proofs.YtdkabnfphmmmnaaGreatDoor
open Go.Am
end Go.Proofs.YtdkabnfphmmmnaaGreatDoor

set_option linter.unusedSimpArgs false
set_option linter.unusedVariables false
namespace Go.Proofs.YtdkabnfphmmmnaaGreatDoor
open Go.Am
theorem B1m {α : Type} {l : List α} {k : Nat} (h : k < l.length) : ∃ y, idx l (k : Int) = some y ∧ l.drop k = y :: l.drop (k + 1) ∧ y ∈ l := by
  refine ⟨l[k], ?_, List.drop_eq_getElem_cons h, List.getElem_mem h⟩
  unfold idx
  rw [if_pos (by omega)]
  simp [h]
theorem z0 : (0 : Int) = ((0 : Nat) : Int) := rfl
theorem G1h (s u : List Str) (hs : s.length ≤ BB) (hl : s.length = u.length) : ∀ (r : List Str) (k : Nat), s.drop k = r → P1 s u k = some (eqL (fun x y => x == y) r (u.drop k))
  | [], k, h => by
    rw [P1, (T2 h).1, if_neg (by simp), List.drop_eq_nil_of_le (by have := (T2 h).2; omega)]; rfl
  | x :: r, k, h => by
    obtain ⟨e1, e2, e3, e4, e5⟩ := U4 h
    obtain ⟨y, f1, f2, f3⟩ := B1m (l := u) (k := k) (by omega)
    rw [P1, e1, if_pos rfl, e2, ob, f1, ob, w1 (by omega), G1h s u hs hl r (k + 1) e3, f2, eqL]
    cases x == y <;> simp
theorem A1o (s u : List Str) (hs : s.length ≤ BB) : G3 s u = some (eqL (fun x y => x == y) s u) := by
  unfold G3
  by_cases hl : s.length = u.length
  · rw [if_neg (by simp; omega), z0, G1h s u hs hl s 0 rfl]; rfl
  · rw [if_pos (by simp; omega), Yy _ hl]
theorem H1h (s u : List A0) (hs : s.length ≤ BB) (hl : s.length = u.length) (ih : ∀ x ∈ s, ∀ y, C7 x y = some (x.same y)) :
    ∀ (r : List A0) (k : Nat), s.drop k = r → Y0 s u k = some (eqL A0.same r (u.drop k))
  | [], k, h => by
    rw [Y0, (T2 h).1, if_neg (by simp), List.drop_eq_nil_of_le (by have := (T2 h).2; omega)]; rfl
  | x :: r, k, h => by
    obtain ⟨e1, e2, e3, e4, e5⟩ := U4 h
    obtain ⟨y, f1, f2, f3⟩ := B1m (l := u) (k := k) (by omega)
    rw [Y0, e1, if_pos rfl, e2, ob, f1, ob, ih x e5 y, ob, w1 (by omega), H1h s u hs hl ih r (k + 1) e3, f2, eqL]
    cases x.same y <;> simp
theorem C1m (t : A0) : Ok t → ∀ u, C7 t u = some (t.same u) := by
  induction t using A0.ind with
  | h t ih =>
  intro ht u
  have ih' := fun x hx => ih x hx (ht.kid hx)
  have hO : J1 t.Of u.Of = some (eqL A0.same t.Of u.Of) := by
    rw [J1]
    by_cases hl : t.Of.length = u.Of.length
    · rw [if_neg (by simp; omega), z0, H1h t.Of u.Of ht.ofs hl ih' t.Of 0 rfl]; rfl
    · rw [if_pos (by simp; omega), Yy _ hl]
  rw [C7, hO, A1o _ _ ht.names, A0.same_eq]
  generalize eqL A0.same t.Of u.Of = a
  generalize eqL (fun x y => x == y) t.Names u.Names = b
  cases t.Kind == u.Kind <;> cases t.Low == u.Low <;> cases t.High == u.High <;> cases t.Size == u.Size <;> cases t.Name == u.Name <;> cases b <;> cases a <;> rfl
mutual
def C0.same : C0 → C0 → Bool
  | .mk o n nm ks, t => o == t.Op && n == t.NV && nm == t.Name && C0.sames ks t.Kids
def C0.sames : List C0 → List C0 → Bool
  | [], [] => true
  | x :: r, y :: s => C0.same x y && C0.sames r s
  | [], _ :: _ => false
  | _ :: _, [] => false
end
theorem C0.sames_eq : ∀ l m : List C0, C0.sames l m = eqL C0.same l m
  | [], [] => rfl
  | x :: r, y :: s => by simp only [C0.sames, eqL, C0.sames_eq r s]
  | [], _ :: _ => rfl
  | _ :: _, [] => rfl
theorem C0.same_eq (t u : C0) : t.same u = (t.Op == u.Op && t.NV == u.NV && t.Name == u.Name && eqL C0.same t.Kids u.Kids) := by
  rw [← C0.sames_eq]
  cases t
  rfl
theorem B1o (s u : List C0) (hs : s.length ≤ BB) (hl : s.length = u.length) (ih : ∀ x ∈ s, ∀ y, B6 x y = some (x.same y)) :
    ∀ (r : List C0) (k : Nat), s.drop k = r → Z0 s u k = some (eqL C0.same r (u.drop k))
  | [], k, h => by
    rw [Z0, (T2 h).1, if_neg (by simp), List.drop_eq_nil_of_le (by have := (T2 h).2; omega)]; rfl
  | x :: r, k, h => by
    obtain ⟨e1, e2, e3, e4, e5⟩ := U4 h
    obtain ⟨y, f1, f2, f3⟩ := B1m (l := u) (k := k) (by omega)
    rw [Z0, e1, if_pos rfl, e2, ob, f1, ob, ih x e5 y, ob, w1 (by omega), B1o s u hs hl ih r (k + 1) e3, f2, eqL]
    cases x.same y <;> simp
theorem B1q (s u : List C0) (hs : s.length ≤ BB) (ih : ∀ x ∈ s, ∀ y, B6 x y = some (x.same y)) : K1 s u = some (eqL C0.same s u) := by
  rw [K1]
  by_cases hl : s.length = u.length
  · rw [if_neg (by simp; omega), z0, B1o s u hs hl ih s 0 rfl]; rfl
  · rw [if_pos (by simp; omega), Yy _ hl]
theorem D1m (t : C0) : OkE t → ∀ u, B6 t u = some (t.same u) := by
  induction t using C0.ind with
  | h t ih =>
  intro ht u
  rw [B6, B1q t.Kids u.Kids ht.kids (fun x hx => ih x hx (ht.kid hx)), C0.same_eq]
  generalize eqL C0.same t.Kids u.Kids = a
  cases t.Op == u.Op <;> cases t.NV == u.NV <;> cases t.Name == u.Name <;> cases a <;> rfl
def V10 (e : C0) : Bool := e.same ⟨0, 0, [], []⟩
def W10 (t : A0) : Bool := t.same ⟨0, 0, 0, 0, [], [], []⟩
theorem C1q {e : C0} (h : V10 e = true) : e = ⟨0, 0, [], []⟩ := by
  unfold V10 at h
  rw [C0.same_eq] at h
  obtain ⟨o, n, nm, ks⟩ := e
  simp only [Bool.and_eq_true, beq_iff_eq] at h
  obtain ⟨⟨⟨rfl, rfl⟩, rfl⟩, h4⟩ := h
  cases ks with
  | nil => rfl
  | cons x r => cases h4
theorem D1q {t : A0} (h : W10 t = true) : t = ⟨0, 0, 0, 0, [], [], []⟩ := by
  unfold W10 at h
  rw [A0.same_eq] at h
  obtain ⟨a, b, c, d, nm, ns, ks⟩ := t
  simp only [Bool.and_eq_true, beq_iff_eq] at h
  obtain ⟨⟨⟨⟨⟨⟨rfl, rfl⟩, rfl⟩, rfl⟩, rfl⟩, h5⟩, h4⟩ := h
  cases ks with
  | nil =>
    cases ns with
    | nil => rfl
    | cons x r => cases h5
  | cons x r => cases h4
end Go.Proofs.YtdkabnfphmmmnaaGreatDoor

namespace Go.Proofs.YtdkabnfphmmmnaaGreatDoor
open Go.Am
mutual
def F0.bulk : F0 → Nat
  | .mk y0 y1 y2 y3 y4 y5 y6 y7 y8 y9 y10 => 1 + (C0.bulk y1 + (C0.bulk y2 + ((y3.length + 1) + ((C0.bulks y4 + 1) + (1 + (1 + (1 + (((y8.map fun _ => 1).sum + 1) + ((F0.bulks y9 + 1) + ((F0.bulks y10 + 1) + (0))))))))))) + 1
def F0.bulks : List F0 → Nat
  | [] => 0
  | x :: r => F0.bulk x + F0.bulks r
end
mutual
def E0.bulk : E0 → Nat
  | .mk y0 y1 y2 y3 y4 y5 y6 y7 => 1 + ((y1.length + 1) + (A0.bulk y2 + (1 + (C0.bulk y4 + ((E0.bulks y5 + 1) + ((E0.bulks y6 + 1) + ((F0.bulks y7 + 1) + (0)))))))) + 1
def E0.bulks : List E0 → Nat
  | [] => 0
  | x :: r => E0.bulk x + E0.bulks r
end
mutual
def N0.bulk : N0 → Nat
  | .mk y0 y1 => (E0.bulks y0 + 1) + ((F0.bulks y1 + 1) + (0)) + 1
def N0.bulks : List N0 → Nat
  | [] => 0
  | x :: r => N0.bulk x + N0.bulks r
end
end Go.Proofs.YtdkabnfphmmmnaaGreatDoor

set_option linter.unusedSimpArgs false
set_option linter.unusedVariables false
set_option maxHeartbeats 1000000
namespace Go.Proofs.YtdkabnfphmmmnaaGreatDoor
open Go.Am
def uPl (v : Int) : Bool := bif (bif (v == 0) then true else (v == 1)) then true else (v == 2)
def uVa (v : Int) : Bool := bif (bif (bif (v == 0) then true else (v == 3)) then true else (v == 5)) then true else (v == 6)
def uNm (v : Int) : Bool := bif (bif (v == 1) then true else (v == 2)) then true else (v == 7)
def uNn (v : Int) : Bool := bif (v == 4) then true else (v == 6)
def uTh (v : Int) : Bool := bif (bif (v == 5) then true else (v == 6)) then true else (v == 7)
def okV (v : Int) : Bool := !(bif decide (v < 0) then true else decide (v > 8))
def stU (v : Int) : S0 × Bool := (⟨uPl v, uVa v, uNm v, v == 1, uNn v, v == 7, v == 8, uTh v, v == 5⟩, okV v)
theorem I1h (v : Int) : Kd v = some (stU v) := by
  have h : (v < 0 ∨ 8 < v) ∨ v = 0 ∨ v = 1 ∨ v = 2 ∨ v = 3 ∨ v = 4 ∨ v = 5 ∨ v = 6 ∨ v = 7 ∨ v = 8 := by omega
  rcases h with h | rfl | rfl | rfl | rfl | rfl | rfl | rfl | rfl | rfl
  · have f : ∀ k : Int, 0 ≤ k ∧ k ≤ 8 → (v == k) = false := fun k hk => beq_eq_false_iff_ne.2 (by omega)
    have hv : okV v = false := by
      unfold okV
      rcases h with h | h
      · rw [decide_eq_true h]; rfl
      · rw [decide_eq_true (show v > 8 from h)]; cases decide (v < 0) <;> rfl
    unfold Kd stU uPl uVa uNm uNn uTh
    rw [hv]
    simp only [f 0 (by decide), f 1 (by decide), f 2 (by decide), f 3 (by decide), f 4 (by decide), f 5 (by decide), f 6 (by decide), f 7 (by decide), f 8 (by decide)]
    rfl
  all_goals rfl
def oN (e : C0) (u : Bool) : Nat := bif (bif !u then V10 e else false) then 0 else e.nodes
def oD (e : C0) (u : Bool) : Nat := bif (bif !u then V10 e else false) then 0 else e.depth
def oF (e : C0) (u : Bool) : Bool := bif u then e.all G9 else V10 e
theorem E1m (e : C0) (u : Bool) : oN e u ≤ e.bulk := by
  unfold oN
  have := C0.nodes_bulk e
  cases (bif !u then V10 e else false) <;> simp <;> omega
def F1m : Int → List Int → Bool
  | _, [] => true
  | l, n :: r => (bif V6 n 0 1048576 then decide (n > l) else false) && F1m n r
def Xz (s : F0) : Bool :=
  bif s.Verb == 4 then V6 s.NV 0 1048576 else bif s.Verb == 6 then V6 s.NV 0 4096
  else bif s.Verb == 7 then (bif (bif V6 s.Low (-1048576) 1048576 then V6 s.High s.Low 1048576 else false) then decide (s.High - s.Low < 4096) else false)
  else bif s.Verb == 8 then V6 (s.Numbers.length : Int) 1 32 && F1m (-1) s.Numbers else true
def sform (s : F0) : Bool :=
  okV s.Verb && oF s.Place (uPl s.Verb) && (bif uPl s.Verb then s.Place.place else true) && oF s.Value (uVa s.Verb) && (bif uNm s.Verb then true else s.Name == []) && (bif s.Verb == 1 then true else ((s.Args.length : Int) == 0)) && C0.alls G9 s.Args
  && (bif uNn s.Verb then true else s.NV == 0) && (bif s.Verb == 7 then true else (bif s.Low == 0 then s.High == 0 else false)) && (bif s.Verb == 8 then true else ((s.Numbers.length : Int) == 0))
  && (bif uTh s.Verb then true else ((s.Then.length : Int) == 0)) && (bif s.Verb == 5 then true else ((s.Else.length : Int) == 0))
def Hn (s : F0) : Bool := s.Place.all Be && s.Value.all Be && (bif uNm s.Verb then Ze s.Name else true) && C0.alls Be s.Args
def snumb (s : F0) : Bool := s.Place.all Ce && s.Value.all Ce && C0.alls Ce s.Args && Xz s
mutual
def F0.nds : F0 → Nat
  | .mk v pl va nm ar n lo hi ns th el => 1 + (oN pl (uPl v) + (oN va (uVa v) + (C0.nodess ar + (F0.ndss th + F0.ndss el))))
def F0.ndss : List F0 → Nat
  | [] => 0
  | x :: r => F0.nds x + F0.ndss r
end
mutual
def F0.dps : F0 → Nat → Nat
  | .mk v pl va nm ar n lo hi ns th el, d => max d (max (oD pl (uPl v)) (max (oD va (uVa v)) (max (C0.depths ar) (max (F0.dpss th (d + 1)) (F0.dpss el (d + 1))))))
def F0.dpss : List F0 → Nat → Nat
  | [], _ => 0
  | x :: r, d => max (F0.dps x d) (F0.dpss r d)
end
mutual
def F0.all (p : F0 → Bool) : F0 → Bool
  | .mk v pl va nm ar n lo hi ns th el => p (.mk v pl va nm ar n lo hi ns th el) && (F0.alls p th && F0.alls p el)
def F0.alls (p : F0 → Bool) : List F0 → Bool
  | [] => true
  | x :: r => F0.all p x && F0.alls p r
end
theorem F0.nds_eq (s : F0) : s.nds = 1 + (oN s.Place (uPl s.Verb) + (oN s.Value (uVa s.Verb) + (C0.nodess s.Args + (F0.ndss s.Then + F0.ndss s.Else)))) := by cases s; simp only [F0.nds]
theorem F0.dps_eq (s : F0) (d : Nat) : s.dps d = max d (max (oD s.Place (uPl s.Verb)) (max (oD s.Value (uVa s.Verb)) (max (C0.depths s.Args) (max (F0.dpss s.Then (d + 1)) (F0.dpss s.Else (d + 1)))))) := by cases s; simp only [F0.dps]
theorem F0.all_eq (p : F0 → Bool) (s : F0) : s.all p = (p s && (F0.alls p s.Then && F0.alls p s.Else)) := by cases s; simp only [F0.all]
theorem F0.ind {P : F0 → Prop} (h : ∀ s : F0, (∀ x ∈ s.Then, P x) → (∀ x ∈ s.Else, P x) → P s) : ∀ s, P s := by
  intro s
  refine F0.rec (motive_1 := P) (motive_2 := fun l => ∀ x ∈ l, P x) ?_ ?_ ?_ s
  · intro v pl va nm ar n lo hi ns th el i1 i2
    exact h _ i1 i2
  · intro x hx; cases hx
  · intro x r hx hr y hy
    cases hy with
    | head => exact hx
    | tail _ hy => exact hr y hy
theorem F0.inds {Q : List F0 → Prop} (h : ∀ l : List F0, (∀ x ∈ l, Q x.Then ∧ Q x.Else) → Q l) : ∀ l, Q l := by
  have key : ∀ s : F0, Q s.Then ∧ Q s.Else := fun s => by
    induction s using F0.ind with
    | h s i1 i2 => exact ⟨h _ i1, h _ i2⟩
  exact fun l => h l fun x _ => key x
theorem F0.bulk_eq (s : F0) : s.bulk = s.Place.bulk + s.Value.bulk + s.Name.length + C0.bulks s.Args + (s.Numbers.map fun _ => 1).sum + F0.bulks s.Then + F0.bulks s.Else + 10 := by
  cases s; simp only [F0.bulk]; omega
theorem J1h : ∀ l : List Int, (l.map fun _ => 1).sum = l.length
  | [] => rfl
  | x :: r => by simp only [List.map_cons, List.sum_cons, List.length_cons, J1h r]; omega
theorem F0.bulk_mem {s : F0} : ∀ {l : List F0}, s ∈ l → s.bulk ≤ F0.bulks l
  | x :: r, h => by
    simp only [F0.bulks]
    cases h with
    | head => omega
    | tail _ h => have := F0.bulk_mem h; omega
theorem F0.bulk_len : ∀ l : List F0, l.length ≤ F0.bulks l
  | [] => Nat.le_refl _
  | x :: r => by
    simp only [F0.bulks, List.length_cons]
    have := F0.bulk_len r
    have := F0.bulk_eq x
    omega
mutual
theorem F0.nds_bulk : ∀ s : F0, s.nds ≤ s.bulk
  | .mk v pl va nm ar n lo hi ns th el => by
    have := E1m pl (uPl v)
    have := E1m va (uVa v)
    have := C0.nodess_bulk ar
    have := F0.ndss_bulk th
    have := F0.ndss_bulk el
    simp only [F0.nds, F0.bulk]; omega
theorem F0.ndss_bulk : ∀ l : List F0, F0.ndss l ≤ F0.bulks l
  | [] => Nat.le_refl _
  | x :: r => by
    have := F0.nds_bulk x
    have := F0.ndss_bulk r
    simp only [F0.ndss, F0.bulks]; omega
end
def OkS (l : List F0) : Prop := F0.bulks l ≤ BB
structure N19 (s : F0) : Prop where
  place : OkE s.Place
  value : OkE s.Value
  name : s.Name.length ≤ BB
  args : s.Args.length ≤ BB
  arg : ∀ a ∈ s.Args, OkE a
  nums : s.Numbers.length ≤ BB
  thens : OkS s.Then
  elses : OkS s.Else
theorem OkS.mem {l : List F0} (h : OkS l) {s : F0} (hs : s ∈ l) : N19 s := by
  unfold OkS at h
  have h1 := F0.bulk_mem hs
  have h2 := F0.bulk_eq s
  have h3 := J1h s.Numbers
  have h4 := C0.bulk_len s.Args
  refine ⟨?_, ?_, ?_, ?_, fun a ha => ?_, ?_, ?_, ?_⟩ <;> first | (unfold OkE; omega) | (unfold OkS; omega) | omega | skip
  have := C0.bulk_kid ha
  unfold OkE; omega
theorem OkS.len {l : List F0} (h : OkS l) : l.length ≤ BB := Nat.le_trans (F0.bulk_len l) h
def D6 (o : B0) (n m : Nat) (f a u : Bool) : B0 := ⟨o.nodes + n, max o.depth m, o.badForm || !f, o.badName || !a, o.badNumber || !u⟩
theorem Y5 (o : B0) (n m n' m' : Nat) (f a u f' a' u' : Bool) : D6 (D6 o n m f a u) n' m' f' a' u' = D6 o (n + n') (max m m') (f && f') (a && a') (u && u') := by
  simp only [D6, Lx]
  rw [show o.nodes + (n : Int) + (n' : Int) = o.nodes + ((n + n' : Nat) : Int) by omega, show max (max o.depth (m : Int)) (m' : Int) = max o.depth ((max m m' : Nat) : Int) by omega]
theorem Xp (o : B0) (h : 0 ≤ o.depth) : D6 o 0 0 true true true = o := by
  simp only [D6, Bool.not_true, Bool.or_false]
  rw [show o.nodes + ((0 : Nat) : Int) = o.nodes by omega, show max o.depth ((0 : Nat) : Int) = o.depth by omega]
theorem K1b (o : B0) (n m : Nat) (f a u : Bool) : (D6 o n m f a u).nodes = o.nodes + n := rfl
theorem Du (o : B0) (n m : Nat) (f a u : Bool) : (D6 o n m f a u).depth = max o.depth m := rfl
theorem Kb (o : B0) (h : 0 ≤ o.depth) (b : Bool) : U0 b o = some (D6 o 0 0 b true true) := by
  rw [K19]
  simp only [D6, Bool.not_true, Bool.or_false]
  rw [show o.nodes + ((0 : Nat) : Int) = o.nodes by omega, show max o.depth ((0 : Nat) : Int) = o.depth by omega]
theorem Pi (o : B0) (h : 0 ≤ o.depth) (b : Bool) : Z1 b o = some (D6 o 0 0 true true b) := by
  rw [Uy]
  simp only [D6, Bool.not_true, Bool.or_false]
  rw [show o.nodes + ((0 : Nat) : Int) = o.nodes by omega, show max o.depth ((0 : Nat) : Int) = o.depth by omega]
theorem W1d (o : B0) (h : 0 ≤ o.depth) (s : Str) (hs : s.length ≤ BB) : W4 s o = some (D6 o 0 0 true (Ze s) true) := by
  rw [F14 s hs]
  simp only [D6, Bool.not_true, Bool.or_false]
  rw [show o.nodes + ((0 : Nat) : Int) = o.nodes by omega, show max o.depth ((0 : Nat) : Int) = o.depth by omega]
structure I7 (o : B0) (n : Nat) : Prop where
  dep : 0 ≤ o.depth
  low : 0 ≤ o.nodes
  high : o.nodes + n ≤ 3 * BB
theorem I7.x {o : B0} {n k m : Nat} {f a u : Bool} (h : I7 o (k + n)) : I7 (D6 o k m f a u) n := by
  obtain ⟨h1, h2, h3⟩ := h
  refine ⟨?_, ?_, ?_⟩
  · rw [Du]; omega
  · rw [K1b]; omega
  · rw [K1b]; omega
theorem I7.less {o : B0} {n k : Nat} (h : I7 o n) (hk : k ≤ n) : I7 o k := ⟨h.dep, h.low, by have := h.high; omega⟩
theorem I7.x0 {o : B0} {n m : Nat} {f a u : Bool} (h : I7 o n) : I7 (D6 o 0 m f a u) n := I7.x (by rw [Nat.zero_add]; exact h)
theorem S16 (e : C0) (h : OkE e) (o : B0) (hr : I7 o e.nodes) : D3 e 1 o = some (D6 o e.nodes e.depth (e.all G9) (e.all Be) (e.all Ce)) := by
  have hn := h.nodes
  have hp : 1 ≤ e.depth := by rw [C0.depth_eq]; omega
  have h3 := hr.high
  unfold BB at hn h3
  rw [D1h e h 1 o (by omega) (by unfold BB; omega) hr.low (by unfold BB; omega)]
  simp only [Ki, D6]
  rw [show (1 : Int) + ((e.depth - 1 : Nat) : Int) = e.depth by omega]
theorem K1h (t : A0) (h : Ok t) (o : B0) (hr : I7 o t.nodes) : R4 t 1 o = some (D6 o t.nodes t.depth (t.all Id) (t.all Af) (t.all Ji)) := by
  have hn := h.nodes
  have hp : 1 ≤ t.depth := by rw [A0.depth_eq]; omega
  have h3 := hr.high
  unfold BB at hn h3
  rw [Z1n t h 1 o (by omega) (by unfold BB; omega) hr.low (by unfold BB; omega)]
  simp only [Ki, D6]
  rw [show (1 : Int) + ((t.depth - 1 : Nat) : Int) = t.depth by omega]
theorem L1h : (C0.mk 0 0 [] []).all G9 = true ∧ (C0.mk 0 0 [] []).all Be = true ∧ (C0.mk 0 0 [] []).all Ce = true := ⟨rfl, rfl, rfl⟩
theorem O19 (e : C0) (u : Bool) (h : OkE e) (o : B0) (hr : I7 o (oN e u)) : Y3 e u o = some (D6 o (oN e u) (oD e u) (oF e u) (e.all Be) (e.all Ce)) := by
  unfold Y3
  rw [D1m e h]
  show ((if (!u) = true then some (V10 e) else some default) >>= _) = _
  unfold oN oD oF at *
  cases u with
  | true =>
    simp only [Bool.not_true, cond_false, cond_true] at *
    rw [if_neg (by simp), ob, if_neg (by simp), Kb o hr.dep, ob, S16 e h _ hr.x0, ob, Y5]
    simp
  | false =>
    simp only [Bool.not_false, cond_false, cond_true] at *
    rw [if_pos trivial, ob]
    cases hz : V10 e with
    | true =>
      rw [if_pos rfl, C1q hz, L1h.2.1, L1h.2.2]
      exact congrArg some (Xp o hr.dep).symm
    | false =>
      rw [hz] at hr
      rw [if_neg (by simp), Kb o hr.dep, ob, S16 e h _ hr.x0, ob, Y5]
      simp
theorem C1o (o : B0) (h : 0 ≤ o.nodes) (h' : o.nodes + 1 ≤ 3 * BB) (d : Nat) : B8 (d : Int) ⟨IntKind.i64.wrap (o.nodes + 1), o.depth, o.badForm, o.badName, o.badNumber⟩ = some (D6 o 1 d true true true) := by
  unfold BB at h'
  rw [J19, wr (by omega) (by omega)]
  simp only [D6, Bool.not_true, Bool.or_false]
  rfl
theorem X1d (s : F0) (hs : N19 s) (K : B0 → Option B0) (F : B0 → Int → Option B0)
    (hF : ∀ (o : B0) (k : Int), F o k = if decide (k < (s.Args.length : Int)) = true then idx s.Args k >>= fun x => D3 x 1 o >>= fun y => F y (IntKind.i64.wrap (k + 1)) else K o) :
    ∀ (r : List C0) (k : Nat) (o : B0), s.Args.drop k = r → I7 o (C0.nodess r) → F o (k : Int) = K (D6 o (C0.nodess r) (C0.depths r) (C0.alls G9 r) (C0.alls Be r) (C0.alls Ce r))
  | [], k, o, h, hr => by
    rw [hF, (T2 h).1, if_neg (by simp)]
    simp only [C0.nodess, C0.depths, C0.alls]
    rw [Xp o hr.dep]
  | x :: r, k, o, h, hr => by
    obtain ⟨e1, e2, e3, e4, e5⟩ := U4 h
    have := hs.args
    simp only [C0.nodess] at hr
    rw [hF, e1, if_pos rfl, e2, ob, S16 x (hs.arg x e5) o (hr.less (by omega)), ob, w1 (by omega), X1d s hs K F hF r (k + 1) _ e3 hr.x, Y5]
    rfl
theorem F1k (s : F0) (hs : N19 s) : ∀ (r : List Int) (k : Nat) (last : Int) (o : B0), s.Numbers.drop k = r → 0 ≤ o.depth → E3 s o last k = some (D6 o 0 0 true true (F1m last r))
  | [], k, last, o, h, h0 => by rw [E3, (T2 h).1, if_neg (by simp)]; exact congrArg some (Xp o h0).symm
  | x :: r, k, last, o, h, h0 => by
    obtain ⟨e1, e2, e3, e4, e5⟩ := U4 h
    have := hs.nums
    rw [E3, e1, if_pos rfl, e2, ob, Gn, ob, Pi _ h0, ob, w1 (by omega), F1k s hs r (k + 1) x _ e3 (by rw [Du]; omega), Y5]
    rfl
theorem D1o (s : F0) (hs : N19 s) (o : B0) (h0 : 0 ≤ o.depth) : M7 s o = some (D6 o 0 0 true true (Xz s)) := by
  unfold M7 Xz
  simp only [Gn]
  cases s.Verb == 4 with
  | true => rw [if_pos rfl, ob, Pi _ h0, ob]; rfl
  | false =>
    rw [if_neg (by simp)]
    cases s.Verb == 6 with
    | true => rw [if_pos rfl, ob, Pi _ h0, ob]; rfl
    | false =>
      rw [if_neg (by simp)]
      cases s.Verb == 7 with
      | true =>
        rw [if_pos rfl, ob]
        cases hl : V6 s.Low (-1048576) 1048576 with
        | false => rw [if_neg (by simp), ob, Pi _ h0, ob]; rfl
        | true =>
          rw [if_pos rfl, ob]
          cases hh : V6 s.High s.Low 1048576 with
          | false => rw [Pi _ h0, ob]; rfl
          | true =>
            have : IntKind.i64.wrap (s.High - s.Low) = s.High - s.Low := by
              simp [V6] at hl hh
              exact wr (by omega) (by omega)
            rw [this, Pi _ h0, ob]; rfl
      | false =>
        rw [if_neg (by simp)]
        cases s.Verb == 8 with
        | true =>
          rw [if_pos rfl, ob, Pi _ h0, ob, show (0 : Int) = ((0 : Nat) : Int) from rfl, F1k s hs s.Numbers 0 (-1) _ rfl (by rw [Du]; omega), Y5]
          simp
        | false => exact congrArg some (Xp o h0).symm
theorem Y1d (l : List F0) : OkS l → ∀ (d : Nat) (o : B0), d + F0.bulks l ≤ 3 * BB → I7 o (F0.ndss l) →
    K3 l d o = some (D6 o (F0.ndss l) (F0.dpss l d) (F0.alls sform l) (F0.alls Hn l) (F0.alls snumb l)) := by
  induction l using F0.inds with
  | h l ih =>
  intro hl d o hd hr
  have main : ∀ (r : List F0) (k : Nat) (o : B0), l.drop k = r → I7 o (F0.ndss r) → Z3 l d o k = some (D6 o (F0.ndss r) (F0.dpss r d) (F0.alls sform r) (F0.alls Hn r) (F0.alls snumb r)) := by
    intro r
    induction r with
    | nil =>
      intro k o h hr
      rw [Z3, (T2 h).1, if_neg (by simp)]
      exact congrArg some (Xp o hr.dep).symm
    | cons s r ihr =>
      intro k o h hr
      obtain ⟨e1, e2, e3, e4, e5⟩ := U4 h
      have hs := hl.mem e5
      have hlen := hl.len
      obtain ⟨i1, i2⟩ := ih s e5
      have hbm := F0.bulk_mem e5
      have hbe := F0.bulk_eq s
      simp only [F0.ndss, F0.nds_eq] at hr
      have hhi := hr.high
      unfold BB at hhi hd
      have hwd : IntKind.i64.wrap ((d : Int) + 1) = ((d + 1 : Nat) : Int) := by rw [wr (by omega) (by omega)]; rfl
      have tail : ∀ o : B0, I7 o (F0.ndss s.Then + F0.ndss s.Else + F0.ndss r) →
          (U0 (bif (stU s.Verb).1.n then true else (s.NV == 0)) o >>= fun x14 =>
            U0 (bif (stU s.Verb).1.bounds then true else (bif (s.Low == 0) then (s.High == 0) else false)) x14 >>= fun x15 =>
            U0 (bif (stU s.Verb).1.numbers then true else (((s.Numbers).length : Int) == 0)) x15 >>= fun x16 =>
            U0 (bif (stU s.Verb).1.thenV then true else (((s.Then).length : Int) == 0)) x16 >>= fun x17 =>
            U0 (bif (stU s.Verb).1.other then true else (((s.Else).length : Int) == 0)) x17 >>= fun x18 =>
            M7 s x18 >>= fun x19 =>
            K3 s.Then (IntKind.i64.wrap ((d : Int) + 1)) x19 >>= fun x20 =>
            K3 s.Else (IntKind.i64.wrap ((d : Int) + 1)) x20 >>= fun x21 =>
            Z3 l d x21 (IntKind.i64.wrap ((k : Int) + 1)))
          = some (D6 o (F0.ndss s.Then + F0.ndss s.Else + F0.ndss r) (max (F0.dpss s.Then (d + 1)) (max (F0.dpss s.Else (d + 1)) (F0.dpss r d)))
              ((bif uNn s.Verb then true else s.NV == 0) && (bif s.Verb == 7 then true else (bif s.Low == 0 then s.High == 0 else false)) && (bif s.Verb == 8 then true else ((s.Numbers.length : Int) == 0))
                && (bif uTh s.Verb then true else ((s.Then.length : Int) == 0)) && (bif s.Verb == 5 then true else ((s.Else.length : Int) == 0)) && F0.alls sform s.Then && F0.alls sform s.Else && F0.alls sform r)
              (F0.alls Hn s.Then && F0.alls Hn s.Else && F0.alls Hn r) (Xz s && F0.alls snumb s.Then && F0.alls snumb s.Else && F0.alls snumb r)) := by
        intro o hr
        have q1 := hr.x0 (m := 0) (f := bif (stU s.Verb).1.n then true else (s.NV == 0)) (a := true) (u := true)
        have q2 := q1.x0 (m := 0) (f := bif (stU s.Verb).1.bounds then true else (bif (s.Low == 0) then (s.High == 0) else false)) (a := true) (u := true)
        have q3 := q2.x0 (m := 0) (f := bif (stU s.Verb).1.numbers then true else (((s.Numbers).length : Int) == 0)) (a := true) (u := true)
        have q4 := q3.x0 (m := 0) (f := bif (stU s.Verb).1.thenV then true else (((s.Then).length : Int) == 0)) (a := true) (u := true)
        have q5 := q4.x0 (m := 0) (f := bif (stU s.Verb).1.other then true else (((s.Else).length : Int) == 0)) (a := true) (u := true)
        have q6 := q5.x0 (m := 0) (f := true) (a := true) (u := Xz s)
        rw [Kb o hr.dep, ob, Kb _ q1.dep, ob, Kb _ q2.dep, ob, Kb _ q3.dep, ob, Kb _ q4.dep, ob, D1o s hs _ q5.dep, ob, hwd,
          i1 hs.thens (d + 1) _ (by unfold BB; omega) (q6.less (by omega)), ob, i2 hs.elses (d + 1) _ (by unfold BB; omega) (I7.x (q6.less (by omega))), ob, w1 (by omega), ihr (k + 1) _ e3 (I7.x (I7.x (q6.less (by omega))))]
        simp only [Y5, stU, Bool.true_and, Bool.and_true, Bool.and_assoc, Nat.zero_add, Nat.add_assoc, Nat.zero_max]
        simp only [← Nat.max_assoc]
      have args := X1d s hs _ (fun o k' => J5 l d o s (stU s.Verb) k k') (fun o k' => J5.eq_1 l d o s (stU s.Verb) k k') s.Args 0
      rw [show ((0 : Nat) : Int) = 0 from rfl] at args
      have j3 : ∀ o : B0, I7 o (C0.nodess s.Args + (F0.ndss s.Then + F0.ndss s.Else + F0.ndss r)) → K4 l d o s (stU s.Verb) k
          = some (D6 o (C0.nodess s.Args + (F0.ndss s.Then + F0.ndss s.Else + F0.ndss r)) (max (C0.depths s.Args) (max (F0.dpss s.Then (d + 1)) (max (F0.dpss s.Else (d + 1)) (F0.dpss r d))))
              ((bif s.Verb == 1 then true else ((s.Args.length : Int) == 0)) && (C0.alls G9 s.Args && ((bif uNn s.Verb then true else s.NV == 0) && (bif s.Verb == 7 then true else (bif s.Low == 0 then s.High == 0 else false)) && (bif s.Verb == 8 then true else ((s.Numbers.length : Int) == 0))
                && (bif uTh s.Verb then true else ((s.Then.length : Int) == 0)) && (bif s.Verb == 5 then true else ((s.Else.length : Int) == 0)) && F0.alls sform s.Then && F0.alls sform s.Else && F0.alls sform r)))
              (C0.alls Be s.Args && (F0.alls Hn s.Then && F0.alls Hn s.Else && F0.alls Hn r)) (C0.alls Ce s.Args && (Xz s && F0.alls snumb s.Then && F0.alls snumb s.Else && F0.alls snumb r))) := by
        intro o hr
        rw [K4, Kb o hr.dep, ob, args _ rfl (hr.x0.less (by omega)), tail _ (I7.x hr.x0)]
        simp only [Y5, stU, Bool.true_and, Bool.and_assoc, Nat.zero_add, Nat.zero_max]
      have j2 : ∀ o : B0, I7 o (oN s.Value (uVa s.Verb) + (C0.nodess s.Args + (F0.ndss s.Then + F0.ndss s.Else + F0.ndss r))) → J4 l d o s (stU s.Verb) k
          = (K4 l d (D6 o (oN s.Value (uVa s.Verb)) (oD s.Value (uVa s.Verb)) (oF s.Value (uVa s.Verb) && (bif uNm s.Verb then true else s.Name == [])) (s.Value.all Be && (bif uNm s.Verb then Ze s.Name else true)) (s.Value.all Ce)) s (stU s.Verb) k) := by
        intro o hr
        have q1 : I7 (D6 o (oN s.Value (uVa s.Verb)) (oD s.Value (uVa s.Verb)) (oF s.Value (uVa s.Verb)) (s.Value.all Be) (s.Value.all Ce)) 0 := I7.x (hr.less (by omega))
        rw [J4]
        show (Y3 s.Value (uVa s.Verb) o >>= _) = _
        rw [O19 s.Value (uVa s.Verb) hs.value o (hr.less (by omega)), ob, Kb _ q1.dep, ob, W1d _ (q1.x0).dep s.Name hs.name]
        simp only [Y5, stU]
        cases uNm s.Verb with
        | true => rw [if_pos rfl, ob]; simp
        | false => rw [if_neg (by simp)]; simp
      rw [Z3, e1, if_pos rfl, e2, ob, C1o o hr.low (by unfold BB; omega) d, ob, I1h, ob, Kb _ (show 0 ≤ (D6 o 1 d true true true).depth by rw [Du]; have := hr.dep; omega), ob, Y5]
      have hr1 : I7 (D6 o (1 + 0) (max d 0) (true && (stU s.Verb).2) (true && true) (true && true)) (oN s.Place (uPl s.Verb) + (oN s.Value (uVa s.Verb) + (C0.nodess s.Args + (F0.ndss s.Then + F0.ndss s.Else + F0.ndss r)))) := I7.x (hr.less (by omega))
      have hopt := O19 s.Place (uPl s.Verb) hs.place _ (hr1.less (k := oN s.Place (uPl s.Verb)) (by omega))
      show (Y3 s.Place (uPl s.Verb) _ >>= _) = _
      rw [hopt, ob, U1d, Y5]
      have hr2 : ∀ f, I7 (D6 o (1 + 0 + oN s.Place (uPl s.Verb)) (max (max d 0) (oD s.Place (uPl s.Verb))) f (true && true && s.Place.all Be) (true && true && s.Place.all Ce)) (oN s.Value (uVa s.Verb) + (C0.nodess s.Args + (F0.ndss s.Then + F0.ndss s.Else + F0.ndss r))) := fun f => I7.x (hr.less (by omega))
      have fin : ∀ b : Bool, (bif uPl s.Verb then s.Place.place else true) = b →
          J4 l d (D6 o (1 + 0 + oN s.Place (uPl s.Verb)) (max (max d 0) (oD s.Place (uPl s.Verb))) (true && (stU s.Verb).2 && oF s.Place (uPl s.Verb) && b) (true && true && s.Place.all Be) (true && true && s.Place.all Ce)) s (stU s.Verb) k
            = some (D6 o (F0.ndss (s :: r)) (F0.dpss (s :: r) d) (F0.alls sform (s :: r)) (F0.alls Hn (s :: r)) (F0.alls snumb (s :: r))) := by
        rintro _ rfl
        rw [j2 _ (hr2 _), j3 _ (I7.x (hr2 _)), Y5, Y5]
        simp only [F0.ndss, F0.dpss, F0.alls, F0.nds_eq, F0.dps_eq, F0.all_eq, sform, Hn, snumb, stU, Bool.true_and, Bool.and_assoc, Nat.add_assoc, Nat.max_assoc, Nat.zero_add]
        congr 1
      cases hu : uPl s.Verb with
      | true =>
        rw [hu] at fin hr2
        rw [if_pos (show (stU s.Verb).1.place = true from hu), ob, Kb _ (hr2 _).dep, ob, Y5]
        have := fin s.Place.place rfl
        simpa using this
      | false =>
        rw [hu] at fin
        rw [if_neg (by rw [show (stU s.Verb).1.place = false from hu]; simp)]
        have := fin true rfl
        rw [Bool.and_true] at this
        exact this
  rw [K3]
  exact main l 0 o rfl hr
end Go.Proofs.YtdkabnfphmmmnaaGreatDoor

set_option linter.unusedSimpArgs false
set_option linter.unusedVariables false
set_option maxHeartbeats 1000000
namespace Go.Proofs.YtdkabnfphmmmnaaGreatDoor
open Go.Am
def isK (k : Int) : Bool := bif decide (k ≥ 0) then decide (k ≤ 6) else false
def uV2 (k : Int) : Bool := bif k == 5 then true else k == 6
def tN (t : A0) (u : Bool) : Nat := bif (bif !u then W10 t else false) then 0 else t.nodes
def tD (t : A0) (u : Bool) : Nat := bif (bif !u then W10 t else false) then 0 else t.depth
theorem X1s (t : A0) (u : Bool) : tN t u ≤ t.bulk := by
  unfold tN
  have := A0.nodes_bulk t
  cases (bif !u then W10 t else false) <;> simp <;> omega
def pOk (x : E0) : Bool := bif x.Kind == 4 then x.Init == 0 else false
def vOk (x : E0) : Bool := x.Kind == 4
def L1b (d : E0) : Bool := bif V6 d.Init (-1048576) 1048576 then (bif d.TypeV.Kind != 0 then true else V6 d.Init 0 1) else false
def W1c (d : E0) : Bool := bif (bif ((d.Params.length : Int) == 0) then ((d.Vars.length : Int) == 0) else false) then ((d.Body.length : Int) == 0) else false
def dform (d : E0) : Bool :=
  isK d.Kind && d.TypeV.all Id && oF d.Value (uV2 d.Kind) && (bif d.Kind == 4 then true else d.Init == 0) && (bif d.Kind == 6 then true else W1c d) && d.Params.all pOk && d.Vars.all vOk && F0.alls sform d.Body
def Dq (d : E0) : Bool := d.TypeV.all Af && Ze d.Name && d.Value.all Be && F0.alls Hn d.Body
def dnumb (d : E0) : Bool := d.TypeV.all Ji && d.Value.all Ce && L1b d && F0.alls snumb d.Body
mutual
def E0.nds : E0 → Nat
  | .mk k nm t i v ps vs bd => 1 + (tN t (isK k) + (oN v (uV2 k) + (E0.ndss ps + (E0.ndss vs + F0.ndss bd))))
def E0.ndss : List E0 → Nat
  | [] => 0
  | x :: r => E0.nds x + E0.ndss r
end
mutual
def E0.dps : E0 → Nat
  | .mk k nm t i v ps vs bd => max (tD t (isK k)) (max (oD v (uV2 k)) (max (E0.dpss ps) (max (E0.dpss vs) (F0.dpss bd 1))))
def E0.dpss : List E0 → Nat
  | [] => 0
  | x :: r => max (E0.dps x) (E0.dpss r)
end
mutual
def E0.all (p : E0 → Bool) : E0 → Bool
  | .mk k nm t i v ps vs bd => p (.mk k nm t i v ps vs bd) && (E0.alls p ps && E0.alls p vs)
def E0.alls (p : E0 → Bool) : List E0 → Bool
  | [] => true
  | x :: r => E0.all p x && E0.alls p r
end
theorem E0.nds_eq (d : E0) : d.nds = 1 + (tN d.TypeV (isK d.Kind) + (oN d.Value (uV2 d.Kind) + (E0.ndss d.Params + (E0.ndss d.Vars + F0.ndss d.Body)))) := by cases d; simp only [E0.nds]
theorem E0.dps_eq (d : E0) : d.dps = max (tD d.TypeV (isK d.Kind)) (max (oD d.Value (uV2 d.Kind)) (max (E0.dpss d.Params) (max (E0.dpss d.Vars) (F0.dpss d.Body 1)))) := by cases d; simp only [E0.dps]
theorem E0.all_eq (p : E0 → Bool) (d : E0) : d.all p = (p d && (E0.alls p d.Params && E0.alls p d.Vars)) := by cases d; simp only [E0.all]
theorem E0.ind {P : E0 → Prop} (h : ∀ d : E0, (∀ x ∈ d.Params, P x) → (∀ x ∈ d.Vars, P x) → P d) : ∀ d, P d := by
  intro d
  refine E0.rec (motive_1 := P) (motive_2 := fun l => ∀ x ∈ l, P x) ?_ ?_ ?_ d
  · intro k nm t i v ps vs bd i1 i2
    exact h _ i1 i2
  · intro x hx; cases hx
  · intro x r hx hr y hy
    cases hy with
    | head => exact hx
    | tail _ hy => exact hr y hy
theorem E0.inds {Q : List E0 → Prop} (h : ∀ l : List E0, (∀ x ∈ l, Q x.Params ∧ Q x.Vars) → Q l) : ∀ l, Q l := by
  have key : ∀ s : E0, Q s.Params ∧ Q s.Vars := fun s => by
    induction s using E0.ind with
    | h s i1 i2 => exact ⟨h _ i1, h _ i2⟩
  exact fun l => h l fun x _ => key x
theorem E0.bulk_eq (d : E0) : d.bulk = d.Name.length + d.TypeV.bulk + d.Value.bulk + E0.bulks d.Params + E0.bulks d.Vars + F0.bulks d.Body + 7 := by cases d; simp only [E0.bulk]; omega
theorem E0.bulk_mem {s : E0} : ∀ {l : List E0}, s ∈ l → s.bulk ≤ E0.bulks l
  | x :: r, h => by
    simp only [E0.bulks]
    cases h with
    | head => omega
    | tail _ h => have := E0.bulk_mem h; omega
theorem E0.bulk_len : ∀ l : List E0, l.length ≤ E0.bulks l
  | [] => Nat.le_refl _
  | x :: r => by
    simp only [E0.bulks, List.length_cons]
    have := E0.bulk_len r
    have := E0.bulk_eq x
    omega
mutual
theorem E0.nds_bulk : ∀ d : E0, d.nds ≤ d.bulk
  | .mk k nm t i v ps vs bd => by
    have := X1s t (isK k)
    have := E1m v (uV2 k)
    have := E0.ndss_bulk ps
    have := E0.ndss_bulk vs
    have := F0.ndss_bulk bd
    simp only [E0.nds, E0.bulk]; omega
theorem E0.ndss_bulk : ∀ l : List E0, E0.ndss l ≤ E0.bulks l
  | [] => Nat.le_refl _
  | x :: r => by
    have := E0.nds_bulk x
    have := E0.ndss_bulk r
    simp only [E0.ndss, E0.bulks]; omega
end
def OkD (l : List E0) : Prop := E0.bulks l ≤ BB
structure E1t (d : E0) : Prop where
  type : Ok d.TypeV
  value : OkE d.Value
  name : d.Name.length ≤ BB
  params : OkD d.Params
  vars : OkD d.Vars
  body : OkS d.Body
theorem OkD.mem {l : List E0} (h : OkD l) {d : E0} (hd : d ∈ l) : E1t d := by
  unfold OkD at h
  have h1 := E0.bulk_mem hd
  have h2 := E0.bulk_eq d
  refine ⟨?_, ?_, ?_, ?_, ?_, ?_⟩ <;> first | (unfold OkE; omega) | (unfold OkS; omega) | (unfold OkD; omega) | (unfold Ok; omega) | omega
theorem OkD.len {l : List E0} (h : OkD l) : l.length ≤ BB := Nat.le_trans (E0.bulk_len l) h
theorem Z1d : (A0.mk 0 0 0 0 [] [] []).all Af = true ∧ (A0.mk 0 0 0 0 [] [] []).all Ji = true := ⟨rfl, rfl⟩
theorem X1c (c : List E0) (hc : c.length ≤ BB) (q : E0 → Bool) (K : B0 → Option B0) (F : B0 → Int → Option B0)
    (hF : ∀ (o : B0) (k : Int), F o k = if decide (k < (c.length : Int)) = true then idx c k >>= fun x => U0 (q x) o >>= fun y => F y (IntKind.i64.wrap (k + 1)) else K o) :
    ∀ (r : List E0) (k : Nat) (o : B0), c.drop k = r → 0 ≤ o.depth → F o (k : Int) = K (D6 o 0 0 (r.all q) true true)
  | [], k, o, h, hr => by
    rw [hF, (T2 h).1, if_neg (by simp), List.all_nil, Xp o hr]
  | x :: r, k, o, h, hr => by
    obtain ⟨e1, e2, e3, e4, e5⟩ := U4 h
    rw [hF, e1, if_pos rfl, e2, ob, Kb o hr, ob, w1 (by omega), X1c c hc q K F hF r (k + 1) _ e3 (by rw [Du]; omega), Y5]
    rfl
theorem E1o (l : List E0) : OkD l → ∀ (o : B0), I7 o (E0.ndss l) →
    B5 l o = some (D6 o (E0.ndss l) (E0.dpss l) (E0.alls dform l) (E0.alls Dq l) (E0.alls dnumb l)) := by
  induction l using E0.inds with
  | h l ih =>
  intro hl o hr
  have main : ∀ (r : List E0) (k : Nat) (o : B0), l.drop k = r → I7 o (E0.ndss r) → L4 l o k = some (D6 o (E0.ndss r) (E0.dpss r) (E0.alls dform r) (E0.alls Dq r) (E0.alls dnumb r)) := by
    intro r
    induction r with
    | nil =>
      intro k o h hr
      rw [L4, (T2 h).1, if_neg (by simp)]
      exact congrArg some (Xp o hr.dep).symm
    | cons d r ihr =>
      intro k o h hr
      obtain ⟨e1, e2, e3, e4, e5⟩ := U4 h
      have hs := hl.mem e5
      have hlen := hl.len
      obtain ⟨i1, i2⟩ := ih d e5
      simp only [E0.ndss, E0.nds_eq] at hr
      have hhi := hr.high
      have hbB : F0.bulks d.Body ≤ BB := hs.body
      have hlow := hr.low
      unfold BB at hhi
      have l4 := X1c d.Vars hs.vars.len vOk _ (fun o k' => L5 l o d k k') (fun o k' => L5.eq_1 l o d k k') d.Vars 0
      have l3 := X1c d.Params hs.params.len pOk _ (fun o k' => M4 l o d k k') (fun o k' => M4.eq_1 l o d k k') d.Params 0
      rw [show ((0 : Nat) : Int) = 0 from rfl] at l4 l3
      have tail : ∀ o : B0, I7 o (E0.ndss d.Params + (E0.ndss d.Vars + (F0.ndss d.Body + E0.ndss r))) →
          M4 l o d k 0 = some (D6 o (E0.ndss d.Params + (E0.ndss d.Vars + (F0.ndss d.Body + E0.ndss r))) (max (E0.dpss d.Params) (max (E0.dpss d.Vars) (max (F0.dpss d.Body 1) (E0.dpss r))))
            (d.Params.all pOk && (d.Vars.all vOk && (E0.alls dform d.Params && (E0.alls dform d.Vars && (F0.alls sform d.Body && E0.alls dform r)))))
            (E0.alls Dq d.Params && (E0.alls Dq d.Vars && (F0.alls Hn d.Body && E0.alls Dq r)))
            (E0.alls dnumb d.Params && (E0.alls dnumb d.Vars && (F0.alls snumb d.Body && E0.alls dnumb r)))) := by
        intro o hr
        have q1 := hr.x0 (m := 0) (f := d.Params.all pOk) (a := true) (u := true)
        have q2 := q1.x0 (m := 0) (f := d.Vars.all vOk) (a := true) (u := true)
        rw [l3 o rfl hr.dep, l4 _ rfl q1.dep, i1 hs.params _ (q2.less (by omega)), ob, i2 hs.vars _ (I7.x (q2.less (by omega))), ob,
          show (1 : Int) = ((1 : Nat) : Int) from rfl, Y1d d.Body hs.body 1 _ (by unfold BB at *; omega) (I7.x (I7.x (q2.less (by omega)))), ob, show ((k : Int) + ((1 : Nat) : Int)) = (k : Int) + 1 from rfl, w1 (by omega), ihr (k + 1) _ e3 (I7.x (I7.x (I7.x (q2.less (by omega)))))]
        simp only [Y5, Bool.true_and, Bool.and_assoc, Nat.zero_add, Nat.zero_max, Nat.add_assoc, Nat.max_assoc]
      have hin : (if ((V6 d.Init (-1048576) 1048576) && (!(d.TypeV.Kind != 0))) = true then H4 d.Init 0 1 else some default) = some (bif (V6 d.Init (-1048576) 1048576) && (!(d.TypeV.Kind != 0)) then V6 d.Init 0 1 else default) := by
        rw [Gn]
        cases ((V6 d.Init (-1048576) 1048576) && (!(d.TypeV.Kind != 0))) <;> rfl
      have j2 : ∀ (x2 : Bool × Bool) (o : B0), x2 = (isK d.Kind, uV2 d.Kind) → I7 o (oN d.Value (uV2 d.Kind) + (E0.ndss d.Params + (E0.ndss d.Vars + (F0.ndss d.Body + E0.ndss r)))) →
          K5 l o d x2 k = some (D6 o (oN d.Value (uV2 d.Kind) + (E0.ndss d.Params + (E0.ndss d.Vars + (F0.ndss d.Body + E0.ndss r)))) (max (oD d.Value (uV2 d.Kind)) (max (E0.dpss d.Params) (max (E0.dpss d.Vars) (max (F0.dpss d.Body 1) (E0.dpss r)))))
            (oF d.Value (uV2 d.Kind) && ((bif d.Kind == 4 then true else d.Init == 0) && ((bif d.Kind == 6 then true else W1c d) && (d.Params.all pOk && (d.Vars.all vOk && (E0.alls dform d.Params && (E0.alls dform d.Vars && (F0.alls sform d.Body && E0.alls dform r))))))))
            (Ze d.Name && (d.Value.all Be && (E0.alls Dq d.Params && (E0.alls Dq d.Vars && (F0.alls Hn d.Body && E0.alls Dq r)))))
            (d.Value.all Ce && (L1b d && (E0.alls dnumb d.Params && (E0.alls dnumb d.Vars && (F0.alls snumb d.Body && E0.alls dnumb r)))))) := by
        rintro _ o rfl hr
        have q1 := hr.x0 (m := 0) (f := true) (a := Ze d.Name) (u := true)
        have q2 := I7.x (m := oD d.Value (uV2 d.Kind)) (f := oF d.Value (uV2 d.Kind)) (a := d.Value.all Be) (u := d.Value.all Ce) q1
        have hio : (bif V6 d.Init (-1048576) 1048576 then (bif (d.TypeV.Kind != 0) then true else (bif (V6 d.Init (-1048576) 1048576) && (!(d.TypeV.Kind != 0)) then V6 d.Init 0 1 else default)) else false) = L1b d := by
          unfold L1b
          cases V6 d.Init (-1048576) 1048576 <;> cases (d.TypeV.Kind != 0) <;> rfl
        rw [K5, W1d o hr.dep d.Name hs.name, ob, O19 d.Value (uV2 d.Kind) hs.value _ (q1.less (by omega)), ob, Kb _ q2.dep, ob, Gn, ob, hin, ob, hio, Pi _ (q2.x0).dep, ob, Kb _ (q2.x0.x0).dep, ob, tail _ (q2.x0.x0.x0)]
        simp only [Y5, Bool.true_and, Bool.and_true, Bool.and_assoc, Nat.zero_add, Nat.add_zero, Nat.zero_max, Nat.max_zero, Nat.add_assoc, Nat.max_assoc, W1c]
      have hwn : (B0.mk (IntKind.i64.wrap (o.nodes + 1)) o.depth o.badForm o.badName o.badNumber) = D6 o 1 0 true true true := by
        rw [wr (by omega) (by omega)]
        simp only [D6, Bool.not_true, Bool.or_false]
        have := hr.dep
        rw [show max o.depth ((0 : Nat) : Int) = o.depth by omega]
        rfl
      have q1 : I7 (D6 o 1 0 true true true) (tN d.TypeV (isK d.Kind) + (oN d.Value (uV2 d.Kind) + (E0.ndss d.Params + (E0.ndss d.Vars + (F0.ndss d.Body + E0.ndss r))))) := I7.x (hr.less (by omega))
      have q2 := q1.x0 (m := 0) (f := isK d.Kind) (a := true) (u := true)
      rw [L4, e1, if_pos rfl, e2, ob, show Jh d.Kind = some (isK d.Kind, uV2 d.Kind) from rfl, ob]
      show (U0 (isK d.Kind) _ >>= _) = _
      rw [hwn, Kb _ q1.dep, ob, C1m d.TypeV hs.type]
      show ((if (!(isK d.Kind)) = true then some (W10 d.TypeV) else some default) >>= _) = _
      cases hk : isK d.Kind with
      | true =>
        rw [hk] at q2
        have q3 := q2
        unfold tN at q3
        simp only [Bool.not_true, cond_false] at q3
        rw [if_neg (by simp), ob]
        rw [if_pos (show (bif (true, uV2 d.Kind).1 then true else !default) = true from rfl), K1h d.TypeV hs.type _ (q3.less (by omega)), ob, j2 _ _ (by rw [hk]) (I7.x q3)]
        simp only [Y5, E0.ndss, E0.dpss, E0.alls, E0.nds_eq, E0.dps_eq, E0.all_eq, dform, Dq, dnumb, hk, tN, tD, Bool.not_true, cond_false, Bool.true_and, Bool.and_assoc, Nat.add_assoc, Nat.max_assoc, Nat.zero_max, Nat.zero_add]
        congr 1
        simp only [D6]
        congr 1
        all_goals first
          | (congr 1; congr 1; ac_rfl)
          | (congr 1; congr 1)
          | skip
      | false =>
        rw [hk] at q2
        rw [if_pos (show (!false) = true from rfl), ob]
        show (if (!(W10 d.TypeV)) = true then _ else _) = _
        cases hz : W10 d.TypeV with
        | true =>
          unfold tN at q2
          rw [hz] at q2
          simp only [Bool.not_false, cond_true, Nat.zero_add] at q2
          rw [if_neg (by simp), j2 _ _ (by rw [hk]) q2]
          have hzt := D1q hz
          simp only [Y5, E0.ndss, E0.dpss, E0.alls, E0.nds_eq, E0.dps_eq, E0.all_eq, dform, Dq, dnumb, hk, tN, tD, hz, Bool.not_false, cond_true, Bool.true_and, Bool.false_and, Bool.and_assoc, Nat.add_assoc, Nat.max_assoc, Nat.zero_max, Nat.zero_add]
          rw [hzt, Z1d.1, Z1d.2]
          simp only [Bool.true_and]
          congr 1
          simp only [D6]
          congr 1
          all_goals first
            | (congr 1; congr 1; ac_rfl)
            | (congr 1; congr 1)
            | skip
        | false =>
          have q3 := q2
          unfold tN at q3
          rw [hz] at q3
          simp only [Bool.not_false, cond_false, cond_true] at q3
          rw [if_pos (by simp), K1h d.TypeV hs.type _ (q3.less (by omega)), ob, j2 _ _ (by rw [hk]) (I7.x q3)]
          simp only [Y5, E0.ndss, E0.dpss, E0.alls, E0.nds_eq, E0.dps_eq, E0.all_eq, dform, Dq, dnumb, hk, tN, tD, hz, Bool.not_false, cond_true, cond_false, Bool.true_and, Bool.false_and, Bool.and_assoc, Nat.add_assoc, Nat.max_assoc, Nat.zero_max, Nat.zero_add]
          congr 1
          simp only [D6]
          congr 1
          all_goals first
            | (congr 1; congr 1; ac_rfl)
            | (congr 1; congr 1)
            | skip
  rw [B5]
  exact main l 0 o rfl hr
structure OkP (p : N0) : Prop where
  decls : OkD p.Decls
  body : OkS p.Body
def F1o (p : N0) : Nat := E0.ndss p.Decls + F0.ndss p.Body
def G1o (p : N0) : Nat := max (E0.dpss p.Decls) (F0.dpss p.Body 1)
def T16 (p : N0) : Int :=
  Mg (F1o p) (G1o p) (!(E0.alls dform p.Decls && F0.alls sform p.Body)) (!(E0.alls Dq p.Decls && F0.alls Hn p.Body)) (!(E0.alls dnumb p.Decls && F0.alls snumb p.Body))
theorem G1m (p : N0) (h : OkP p) : Ig p = some (D6 ⟨0, 0, false, false, false⟩ (F1o p) (G1o p) (E0.alls dform p.Decls && F0.alls sform p.Body) (E0.alls Dq p.Decls && F0.alls Hn p.Body) (E0.alls dnumb p.Decls && F0.alls snumb p.Body)) := by
  have h1 := E0.ndss_bulk p.Decls
  have h2 := F0.ndss_bulk p.Body
  have h3 : E0.bulks p.Decls ≤ BB := h.decls
  have h4 : F0.bulks p.Body ≤ BB := h.body
  have hr : I7 ⟨0, 0, false, false, false⟩ (E0.ndss p.Decls + F0.ndss p.Body) := ⟨Int.le_refl _, Int.le_refl _, by simp only; omega⟩
  unfold Ig
  rw [E1o p.Decls h.decls _ (hr.less (by omega)), ob, show (1 : Int) = ((1 : Nat) : Int) from rfl, Y1d p.Body h.body 1 _ (by unfold BB at *; omega) (I7.x hr), ob, Y5]
  rfl
theorem H1o (n m : Nat) (f a u : Bool) : Q6 (D6 ⟨0, 0, false, false, false⟩ n m f a u) = some (Mg n m (!f) (!a) (!u)) := by
  rw [L19]
  simp only [D6, Bool.false_or]
  rw [show (0 : Int) + (n : Int) = n by omega, show max (0 : Int) (m : Int) = m by omega]
theorem E1q (p : N0) (h : OkP p) : Zi p = some (T16 p) := by
  unfold Zi
  rw [G1m p h, ob, H1o, ob]
  rfl
end Go.Proofs.YtdkabnfphmmmnaaGreatDoor

set_option linter.unusedSimpArgs false
set_option linter.unusedVariables false
set_option maxHeartbeats 1000000
namespace Go.Proofs.YtdkabnfphmmmnaaGreatDoor
open Go.Am
end Go.Proofs.YtdkabnfphmmmnaaGreatDoor

set_option linter.unusedSimpArgs false
set_option linter.unusedVariables false
set_option maxHeartbeats 1000000
namespace Go.Proofs.YtdkabnfphmmmnaaGreatDoor
open Go.Am
theorem L18 (l : List F0) : OkS l → ∀ n, ∃ m, F8 l n = some m := by
  induction l using F0.inds with
  | h l ih =>
  intro hl n
  have main : ∀ (r : List F0) (k : Nat) (n : Int), l.drop k = r → ∃ m, L9 l n k = some m := by
    intro r
    induction r with
    | nil => intro k n h; rw [L9, (T2 h).1]; exact ⟨_, rfl⟩
    | cons s r ihr =>
      intro k n h
      obtain ⟨e1, e2, e3, e4, e5⟩ := U4 h
      have hs := hl.mem e5
      have hlen := hl.len
      obtain ⟨i1, i2⟩ := ih s e5
      have tail : ∀ n : Int, ∃ m, (if decide ((s.Numbers.length : Int) > 100) = true then some (-1) else F8 s.Then n >>= fun x6 => F8 s.Else x6 >>= fun x7 => L9 l x7 (IntKind.i64.wrap ((k : Int) + 1))) = some m := fun n => by
        cases decide ((s.Numbers.length : Int) > 100) with
        | true => exact ⟨_, rfl⟩
        | false =>
          obtain ⟨a, ha⟩ := i1 hs.thens n
          obtain ⟨b, hb⟩ := i2 hs.elses a
          rw [if_neg (by simp), ha, ob, hb, ob, w1 (by omega)]
          exact ihr (k + 1) b e3
      have l2 : ∀ (q : List C0) (j : Nat) (n : Int), s.Args.drop j = q → ∃ m, Ua l s n k j = some m := by
        intro q
        induction q with
        | nil => intro j n hj; rw [Ua, (T2 hj).1, cond_false, if_neg (by simp)]; exact tail n
        | cons a q ihq =>
          intro j n hj
          obtain ⟨f1, f2, f3, f4, f5⟩ := U4 hj
          have := hs.args
          rw [Ua, f1, cond_true, f2]
          cases decide (n ≥ 0) with
          | false => rw [if_neg (by simp)]; exact tail n
          | true =>
            obtain ⟨m, hm⟩ := Cu a (hs.arg a f5) n
            rw [if_pos rfl, ob, hm, ob, w1 (by omega)]
            exact ihq (j + 1) m f3
      rw [L9, e1, cond_true, e2]
      cases decide (n ≥ 0) with
      | false => exact ⟨_, rfl⟩
      | true =>
        rw [if_pos rfl, ob]
        obtain ⟨a, ha⟩ := Cu s.Place hs.place (IntKind.i64.wrap ((IntKind.i64.wrap (n - 1)) - (IntKind.i64.wrap (Int.tdiv ((s.Name).length : Int) 16))))
        obtain ⟨b, hb⟩ := Cu s.Value hs.value a
        rw [ha, ob, hb, ob]
        exact l2 s.Args 0 b rfl
  rw [F8]
  exact main l 0 n rfl
theorem H1m (l : List E0) : OkD l → ∀ n, ∃ m, Lc l n = some m := by
  induction l using E0.inds with
  | h l ih =>
  intro hl n
  have main : ∀ (r : List E0) (k : Nat) (n : Int), l.drop k = r → ∃ m, Va l n k = some m := by
    intro r
    induction r with
    | nil => intro k n h; rw [Va, (T2 h).1]; exact ⟨_, rfl⟩
    | cons d r ihr =>
      intro k n h
      obtain ⟨e1, e2, e3, e4, e5⟩ := U4 h
      have hs := hl.mem e5
      have hlen := hl.len
      obtain ⟨i1, i2⟩ := ih d e5
      rw [Va, e1, cond_true, e2]
      cases decide (n ≥ 0) with
      | false => exact ⟨_, rfl⟩
      | true =>
        rw [if_pos rfl, ob]
        obtain ⟨a, ha⟩ := A1m d.TypeV hs.type (IntKind.i64.wrap ((IntKind.i64.wrap (n - 1)) - (IntKind.i64.wrap (Int.tdiv ((d.Name).length : Int) 16))))
        obtain ⟨b, hb⟩ := Cu d.Value hs.value a
        obtain ⟨c, hc⟩ := i1 hs.params b
        obtain ⟨e, he⟩ := i2 hs.vars c
        obtain ⟨f, hf⟩ := L18 d.Body hs.body e
        rw [ha, ob, hb, ob, hc, ob, he, ob, hf, ob, w1 (by omega)]
        exact ihr (k + 1) f e3
  rw [Lc]
  exact main l 0 n rfl
theorem I1o (p : N0) (h : OkP p) (n : Int) : ∃ b, Dx p n = some b := by
  obtain ⟨a, ha⟩ := H1m p.Decls h.decls n
  obtain ⟨b, hb⟩ := L18 p.Body h.body a
  unfold Dx
  rw [ha, ob, hb]
  exact ⟨_, rfl⟩
theorem M1h {p : N0} (h : p.bulk ≤ 1048576) : OkP p := by
  cases p
  simp only [N0.bulk] at h
  exact ⟨by unfold OkD BB; simp only; omega, by unfold OkS BB; simp only; omega⟩
end Go.Proofs.YtdkabnfphmmmnaaGreatDoor

set_option linter.unusedSimpArgs false
namespace Go.Proofs.YtdkabnfphmmmnaaGreatDoor
open Go.Am
def Yz {α : Type} (p : α → Bool) : List α → Nat → Int
  | [], _ => -1
  | x :: r, i => bif p x then (i : Int) else Yz p r (i + 1)
theorem N1h {α : Type} (p : α → Bool) : ∀ (l : List α) (k : Nat), 0 ≤ Yz p l k ↔ l.any p = true
  | [], k => by simp [Yz]
  | x :: r, k => by
    have ih := N1h p r (k + 1)
    rw [List.any_cons, Bool.or_eq_true, ← ih]
    show 0 ≤ (bif p x then (k : Int) else Yz p r (k + 1)) ↔ _
    cases hp : p x with
    | true => simp
    | false => simp
theorem P19 {α : Type} (p : α → Bool) (l : List α) (k : Nat) : decide (Yz p l k ≥ 0) = l.any p := by
  rw [Bool.eq_iff_iff, decide_eq_true_eq]
  exact N1h p l k
theorem I1m {α : Type} {l : List α} {k : Nat} (h : k ≤ l.length) : slc l 0 (k : Int) = some (l.take k) := by
  unfold slc
  rw [if_pos ⟨by omega, by omega, by omega⟩]
  simp
theorem G14 : (0 : Int) = ((0 : Nat) : Int) := rfl
theorem G1k (s : List A0) (hs : s.length ≤ BB) (ih : ∀ x ∈ s, Zc x = some (x.some Es)) :
    ∀ (r : List A0) (k : Nat), s.drop k = r → N1 s k = some (Yz (A0.some Es) r k)
  | [], k, h => by rw [N1, (T2 h).1, if_neg (by simp)]; rfl
  | x :: r, k, h => by
    obtain ⟨e1, e2, e3, e4, e5⟩ := U4 h
    rw [N1, e1, if_pos rfl, e2, ob, ih x e5, ob, w1 (by omega), G1k s hs ih r (k + 1) e3, Yz]
    cases A0.some Es x <;> simp
theorem F1q (t : A0) : Ok t → Zc t = some (t.some Es) := by
  induction t using A0.ind with
  | h t ih =>
  intro ht
  have := G1k t.Of ht.ofs (fun x hx => ih x hx (ht.kid hx)) t.Of 0 rfl
  rw [← G14] at this
  rw [Zc, P2, B3, this, ob, A0.some_eq, P19]
  show _ = some ((t.Kind == 4) || _)
  cases t.Kind == 4 <;> simp
theorem O1h (s : List Str) (v : Str) (hs : s.length ≤ BB) : ∀ (r : List Str) (k : Nat), s.drop k = r → F2 s v k = some (Yz (fun y => v == y) r k)
  | [], k, h => by rw [F2, (T2 h).1, if_neg (by simp)]; rfl
  | x :: r, k, h => by
    obtain ⟨e1, e2, e3, e4, e5⟩ := U4 h
    rw [F2, e1, if_pos rfl, e2, ob, w1 (by omega), O1h s v hs r (k + 1) e3, Yz]
    cases v == x <;> simp
theorem P1h (s : List Str) (v : Str) (hs : s.length ≤ BB) : Y4 s v = some (s.any fun y => v == y) := by
  unfold Y4 X7
  have := O1h s v hs s 0 rfl
  rw [← G14] at this
  rw [this, ob, ← P19 (fun y => v == y) s 0]
theorem A1e (s : List A0) (hs : s.length ≤ BB) (ih : ∀ x ∈ s, Mb x = some (x.some Bu)) :
    ∀ (r : List A0) (k : Nat), s.drop k = r → T1 s k = some (Yz (A0.some Bu) r k)
  | [], k, h => by rw [T1, (T2 h).1, if_neg (by simp)]; rfl
  | x :: r, k, h => by
    obtain ⟨e1, e2, e3, e4, e5⟩ := U4 h
    rw [T1, e1, if_pos rfl, e2, ob, ih x e5, ob, w1 (by omega), A1e s hs ih r (k + 1) e3, Yz]
    cases A0.some Bu x <;> simp
theorem H1k (t : A0) (ht : Ok t) (b : Bool) (hb : X1 t.Of = some b) :
    ∀ (r : List Str) (k : Nat), t.Names.drop k = r → Da t k = some (tw (t.Names.take k) r || b)
  | [], k, h => by rw [Da, (T2 h).1, if_neg (by simp), hb, ob]; rfl
  | x :: r, k, h => by
    obtain ⟨e1, e2, e3, e4, e5⟩ := U4 h
    have := ht.names
    have hx : t.Names[k]? = Option.some x := by
      have := congrArg List.head? h
      simpa using this
    rw [Da, e1, if_pos rfl, e2, ob, I1m (by omega), ob, P1h _ _ (by simp; omega), ob, w1 (by omega), H1k t ht b hb r (k + 1) e3, tw, List.take_add_one, hx]
    show _ = some (((t.Names.take k).any fun y => x == y) || tw (t.Names.take k ++ [x]) r || b)
    cases (t.Names.take k).any fun y => x == y <;> simp
theorem Q1h (t : A0) : Ok t → Mb t = some (t.some Bu) := by
  induction t using A0.ind with
  | h t ih =>
  intro ht
  have h1 := A1e t.Of ht.ofs (fun x hx => ih x hx (ht.kid hx)) t.Of 0 rfl
  have h2 : X1 t.Of = some (t.Of.any (A0.some Bu)) := by
    rw [← G14] at h1
    rw [X1, Q3, h1, ob, P19]
  rw [Mb, G14, H1k t ht _ h2 t.Names 0 rfl, A0.some_eq]
  rfl
theorem B1e {t : A0} (hf : F6 t) (h3 : (t.Kind == 3) = true) {l : List A0} (hl : ∀ x ∈ l, x ∈ t.Of) (hn : l.length ≤ t.Of.length) : 0 ≤ A0.cnts l ∧ A0.cnts l ≤ 1056 := by
  have h1 := A0.cnts_bound l fun y hy => A0.cnt_ge y (hf.kid (hl y hy))
  have h2 := (hf.recd h3).1
  omega
theorem I1k (t : A0) (hf : F6 t) (h3 : (t.Kind == 3) = true) (ih : ∀ x ∈ t.Of, Fa x = some x.cnt) :
    ∀ (r : List A0) (k : Nat) (n : Int), t.Of.drop k = r → 0 ≤ n → n + A0.cnts r ≤ 2000 → Ga t n k = some (min (n + A0.cnts r) 33)
  | [], k, n, h, _, _ => by
    rw [Ga, (T2 h).1, if_neg (by simp)]
    simp [A0.cnts]
  | x :: r, k, n, h, h0, hb => by
    obtain ⟨e1, e2, e3, e4, e5⟩ := U4 h
    have := (hf.recd h3).1
    have hr := B1e hf h3 (l := r) (fun y hy => List.mem_of_mem_drop (i := k + 1) (by rw [e3]; exact hy)) (by rw [← e3]; simp)
    have hc := A0.cnt_le x
    have hc' := A0.cnt_ge x (hf.kid e5)
    simp only [A0.cnts] at hb
    rw [Ga, e1, if_pos rfl, e2, ob, ih x e5, ob, wr (n := n + _) (by omega) (by omega), w1 (by unfold BB; omega), I1k t hf h3 ih r (k + 1) _ e3 (by omega) (by omega)]
    simp only [A0.cnts, Int.add_assoc]
theorem R1h (t : A0) : F6 t → Fa t = some t.cnt := by
  induction t using A0.ind with
  | h t ih =>
  intro hf
  have ih' := fun x hx => ih x hx (hf.kid hx)
  rw [Fa, A0.cnt_eq]
  cases h2 : t.Kind == 2 with
  | true =>
    obtain ⟨x, hx, s1, s2⟩ := hf.arr h2
    have hm : x ∈ t.Of := by rw [hx]; exact List.mem_cons_self
    have hc := A0.cnt_le x
    have hc' := A0.cnt_ge x (hf.kid hm)
    have hi : idx t.Of 0 = some x := by rw [hx]; rfl
    have hb : 0 ≤ min t.Size 33 * x.cnt := Int.mul_nonneg (by omega) hc'
    have hb' : min t.Size 33 * x.cnt ≤ 33 * 33 := Int.mul_le_mul (by omega) hc hc' (by omega)
    rw [if_pos rfl, hi, ob, ih' x hm, ob, wr (by omega) (by omega), hx]
    rfl
  | false =>
    cases h3 : t.Kind == 3 with
    | true =>
      have hr := B1e hf h3 (l := t.Of) (fun _ h => h) (Nat.le_refl _)
      rw [if_neg (by simp), if_pos rfl, G14, I1k t hf h3 ih' t.Of 0 _ rfl (by omega) (by omega)]
      simp
    | false => rfl
theorem J1m (t : A0) (ht : Ok t) : Gl t = some (Wp t) := by
  unfold Gl Wp
  rw [R16 t ht, ob]
  cases h : Bf t != 0 with
  | true => rfl
  | false =>
    have hf := V1c (show Bf t = 0 by simpa using h)
    unfold Tn B1h
    rw [F1q t ht, Q1h t ht, R1h t hf]
    cases t.some Es <;> cases t.some Bu <;> by_cases hc : t.cnt > 32 <;> simp [ob, hc]
theorem Ms {α : Type} {l : List α} {k : Nat} (h : k < l.length) : ∃ y, idx l (k : Int) = some y ∧ l.drop k = y :: l.drop (k + 1) ∧ y ∈ l := by
  refine ⟨l[k], ?_, List.drop_eq_getElem_cons h, List.getElem_mem h⟩
  unfold idx
  rw [if_pos (by omega)]
  simp [h]
end Go.Proofs.YtdkabnfphmmmnaaGreatDoor

set_option linter.unusedSimpArgs false
namespace Go.Proofs.YtdkabnfphmmmnaaGreatDoor
open Go.Am
end Go.Proofs.YtdkabnfphmmmnaaGreatDoor

set_option linter.unusedSimpArgs false
namespace Go.Proofs.YtdkabnfphmmmnaaGreatDoor
open Go.Am
theorem M1b (s u : List Str) (hs : s.length ≤ BB) (hl : s.length = u.length) : ∀ (r : List Str) (k : Nat), s.drop k = r → P1 s u k = some (eqL (fun x y => x == y) r (u.drop k))
  | [], k, h => by
    rw [P1, (T2 h).1, if_neg (by simp), List.drop_eq_nil_of_le (by have := (T2 h).2; omega)]; rfl
  | x :: r, k, h => by
    obtain ⟨e1, e2, e3, e4, e5⟩ := U4 h
    obtain ⟨y, f1, f2, f3⟩ := Ms (l := u) (k := k) (by omega)
    rw [P1, e1, if_pos rfl, e2, ob, f1, ob, w1 (by omega), M1b s u hs hl r (k + 1) e3, f2, eqL]
    cases x == y <;> simp
theorem C1j (s u : List Str) (hs : s.length ≤ BB) : G3 s u = some (eqL (fun x y => x == y) s u) := by
  unfold G3
  by_cases hl : s.length = u.length
  · rw [if_neg (by simp; omega), G14, M1b s u hs hl s 0 rfl]; rfl
  · rw [if_pos (by simp; omega), Yy _ hl]
theorem N1b (s u : List A0) (hs : s.length ≤ BB) (hl : s.length = u.length) (ih : ∀ x ∈ s, ∀ y, Yc x y = some (x.same y)) :
    ∀ (r : List A0) (k : Nat), s.drop k = r → X0 s u k = some (eqL A0.same r (u.drop k))
  | [], k, h => by
    rw [X0, (T2 h).1, if_neg (by simp), List.drop_eq_nil_of_le (by have := (T2 h).2; omega)]; rfl
  | x :: r, k, h => by
    obtain ⟨e1, e2, e3, e4, e5⟩ := U4 h
    obtain ⟨y, f1, f2, f3⟩ := Ms (l := u) (k := k) (by omega)
    rw [X0, e1, if_pos rfl, e2, ob, f1, ob, ih x e5 y, ob, w1 (by omega), N1b s u hs hl ih r (k + 1) e3, f2, eqL]
    cases x.same y <;> simp
theorem G1q (t : A0) : Ok t → ∀ u, Yc t u = some (t.same u) := by
  induction t using A0.ind with
  | h t ih =>
  intro ht u
  have ih' := fun x hx => ih x hx (ht.kid hx)
  have hO : E1 t.Of u.Of = some (eqL A0.same t.Of u.Of) := by
    rw [E1]
    by_cases hl : t.Of.length = u.Of.length
    · rw [if_neg (by simp; omega), G14, N1b t.Of u.Of ht.ofs hl ih' t.Of 0 rfl]; rfl
    · rw [if_pos (by simp; omega), Yy _ hl]
  rw [Yc, hO, C1j _ _ ht.names, A0.same_eq]
  generalize eqL A0.same t.Of u.Of = a
  generalize eqL (fun x y => x == y) t.Names u.Names = b
  cases t.Kind == u.Kind <;> cases t.Low == u.Low <;> cases t.High == u.High <;> cases t.Size == u.Size <;> cases t.Name == u.Name <;> cases b <;> cases a <;> rfl
end Go.Proofs.YtdkabnfphmmmnaaGreatDoor

set_option linter.unusedSimpArgs false
namespace Go.Proofs.YtdkabnfphmmmnaaGreatDoor
open Go.Am
structure Val (t : A0) : Prop where
  ok : Ok t
  fine : F6 t
  nm : t.some Es = false
  cnt : t.cnt ≤ 32
theorem Val.of {t : A0} (hok : Ok t) (h : Wp t = 0) : Val t ∧ t.some Bu = false := by
  unfold Wp at h
  cases hc : Bf t != 0 with
  | true =>
    rw [hc] at h
    simp only [cond_true] at h
    rw [h] at hc
    cases hc
  | false =>
    rw [hc] at h
    have hf := V1c (show Bf t = 0 by simpa using hc)
    simp only [cond_false, B1h] at h
    cases h1 : t.some Es with
    | true => rw [h1] at h; cases h
    | false =>
      cases h2 : t.some Bu with
      | true => rw [h1, h2] at h; cases h
      | false =>
        rw [h1, h2] at h
        by_cases h3 : t.cnt > 32
        · rw [decide_eq_true h3] at h; cases h
        · exact ⟨⟨hok, hf, h1, by omega⟩, rfl⟩
theorem Val.kid0 {t x : A0} (h : Val t) (hx : x ∈ t.Of) (hc : x.cnt ≤ 32) : Val x := by
  refine ⟨h.ok.kid hx, h.fine.kid hx, ?_, hc⟩
  have := h.nm
  rw [A0.some_eq, Bool.or_eq_false_iff] at this
  cases hn : x.some Es with
  | false => rfl
  | true =>
    have h2 := List.any_eq_true.2 ⟨x, hx, hn⟩
    rw [this.2] at h2
    cases h2
theorem Val.cnt_pos (t : A0) : Val t → 1 ≤ t.cnt := by
  induction t using A0.ind with
  | h t ih =>
  intro h
  have hc := h.cnt
  rw [A0.cnt_eq] at hc ⊢
  cases h2 : t.Kind == 2 with
  | true =>
    obtain ⟨x, hx, s1, s2⟩ := h.fine.arr h2
    have hm : x ∈ t.Of := by rw [hx]; exact List.mem_cons_self
    rw [hx, h2] at hc
    rw [hx]
    simp only [cond_true, A0.cnt1] at hc ⊢
    have h0 := A0.cnt_ge x (h.fine.kid hm)
    have hle : x.cnt ≤ 32 := by
      have : 1 * x.cnt ≤ min t.Size 33 * x.cnt := Int.mul_le_mul_of_nonneg_right (by omega) h0
      omega
    have := ih x hm (h.kid0 hm hle)
    have : 1 * 1 ≤ min t.Size 33 * x.cnt := Int.mul_le_mul (by omega) this (by omega) (by omega)
    omega
  | false =>
    cases h3 : t.Kind == 3 with
    | true =>
      rw [h2, h3] at hc
      simp only [cond_true, cond_false] at hc ⊢
      obtain ⟨r1, r2, r3⟩ := h.fine.recd h3
      cases hl : t.Of with
      | nil => rw [hl] at r3; simp at r3
      | cons x r =>
        have hm : x ∈ t.Of := by rw [hl]; exact List.mem_cons_self
        have hb := A0.cnts_bound r fun y hy => A0.cnt_ge y (h.fine.kid (by rw [hl]; exact List.mem_cons_of_mem _ hy))
        rw [hl] at hc
        simp only [A0.cnts] at hc ⊢
        have := ih x hm (h.kid0 hm (by omega))
        omega
    | false => show 1 ≤ min (1 : Int) 33; omega
theorem Val.arr {t : A0} (h : Val t) (h2 : (t.Kind == 2) = true) : ∃ x, t.Of = [x] ∧ 1 ≤ t.Size ∧ t.Size ≤ 32 ∧ Val x ∧ t.cnt = t.Size * x.cnt := by
  obtain ⟨x, hx, s1, s2⟩ := h.fine.arr h2
  have hm : x ∈ t.Of := by rw [hx]; exact List.mem_cons_self
  have h0 := A0.cnt_ge x (h.fine.kid hm)
  have hc := h.cnt
  have e := A0.cnt_eq t
  rw [hx, h2] at e
  simp only [cond_true, A0.cnt1] at e
  rw [show min t.Size 33 = t.Size by omega] at e
  have hle : x.cnt ≤ 32 := by
    have : 1 * x.cnt ≤ t.Size * x.cnt := Int.mul_le_mul_of_nonneg_right (by omega) h0
    omega
  exact ⟨x, hx, s1, s2, h.kid0 hm hle, by omega⟩
theorem S1h {x : A0} : ∀ {l : List A0}, (∀ y ∈ l, 0 ≤ y.cnt) → x ∈ l → x.cnt ≤ A0.cnts l
  | y :: r, h, hx => by
    have h1 := A0.cnts_bound r fun z hz => h z (List.mem_cons_of_mem _ hz)
    have h2 := h y List.mem_cons_self
    simp only [A0.cnts]
    cases hx with
    | head => omega
    | tail _ hx => have := S1h (fun z hz => h z (List.mem_cons_of_mem _ hz)) hx; omega
theorem Val.recd {t : A0} (h : Val t) (h3 : (t.Kind == 3) = true) : t.Of.length = t.Names.length ∧ t.Of.length ≤ 32 ∧ (∀ x ∈ t.Of, Val x) ∧ t.cnt = A0.cnts t.Of := by
  obtain ⟨r1, r2, r3⟩ := h.fine.recd h3
  have hn := fun y hy => A0.cnt_ge y (h.fine.kid hy)
  have hc := h.cnt
  have e := A0.cnt_eq t
  have h2 : (t.Kind == 2) = false := by
    have : t.Kind = 3 := by simpa using h3
    rw [this]; rfl
  rw [h2, h3] at e
  simp only [cond_true, cond_false] at e
  refine ⟨r2, r1, fun x hx => ?_, by omega⟩
  have := S1h hn hx
  exact h.kid0 hx (by omega)
theorem Val.leaf {t : A0} (h : Val t) (h2 : (t.Kind == 2) = false) (h3 : (t.Kind == 3) = false) : t.cnt = 1 ∧ (t.Kind = 0 ∨ t.Kind = 1) := by
  have e := A0.cnt_eq t
  rw [h2, h3] at e
  refine ⟨by rw [e]; rfl, ?_⟩
  have hn := h.nm
  rw [A0.some_eq, Bool.or_eq_false_iff] at hn
  have hf := h.fine.here.1
  unfold Id fm1 at hf
  simp only [Bool.and_eq_true] at hf
  have h1 := hf.1.1.1.1.1
  cases hd : decide (t.Kind ≥ 0) with
  | false => rw [hd] at h1; cases h1
  | true =>
    rw [hd] at h1
    have a1 := of_decide_eq_true hd
    have a2 : t.Kind ≤ 4 := of_decide_eq_true h1
    have a3 : t.Kind ≠ 2 := by simpa using h2
    have a4 : t.Kind ≠ 3 := by simpa using h3
    have a5 : t.Kind ≠ 4 := by
      have := hn.1
      unfold Es at this
      simpa using this
    omega
def rep {β : Type} (f : Nat → List β) : Nat → Nat → List β
  | _, 0 => []
  | k, n + 1 => f k ++ rep f (k + 1) n
def nx (path name : Str) : Str := (path ++ [46]) ++ name
mutual
def A0.sc : A0 → Str → List P0
  | .mk k l h s _ ns of, path => bif k == 0 then [⟨path, true, 0, 1⟩] else bif k == 1 then [⟨path, false, l, h⟩] else bif k == 2 then A0.scA of path s.toNat else bif k == 3 then A0.scR of ns path else []
def A0.scA : List A0 → Str → Nat → List P0
  | [], _, _ => []
  | x :: _, path, n => rep (fun i => A0.sc x (nx path (Lib.decDigits i))) 0 n
def A0.scR : List A0 → List Str → Str → List P0
  | x :: r, n :: ns, path => A0.sc x (nx path n) ++ A0.scR r ns path
  | _, _, _ => []
end
theorem A0.sc_eq (t : A0) (path : Str) : t.sc path = bif t.Kind == 0 then [⟨path, true, 0, 1⟩] else bif t.Kind == 1 then [⟨path, false, t.Low, t.High⟩] else bif t.Kind == 2 then A0.scA t.Of path t.Size.toNat else bif t.Kind == 3 then A0.scR t.Of t.Names path else [] := by cases t; rfl
theorem Q1r {k : Nat} (h : k < 100) : (Lib.decDigits k).length ≤ 2 := by
  have h2 : ∀ k < 10, (Lib.decDigits k).length = 1 := fun k hk => by rw [Lib.decDigits, dif_pos hk]; rfl
  rw [Lib.decDigits]
  split
  · simp
  · rw [List.length_append, h2 _ (by omega)]; simp
theorem R1r {k : Nat} (h : k < 100) : R12 (k : Int) = some (Lib.decDigits k) := by
  unfold R12
  rw [if_pos (decide_eq_true (by omega))]
  rfl
theorem J1o (s : Str) (h : s.length ≤ BB) : Rf s = some s := by
  unfold Rf M17
  unfold BB at h
  rw [if_pos (decide_eq_true (by omega))]
  rfl
def Eu (path : Str) (t : A0) : List P0 := bif t.Kind == 0 then [⟨path, true, 0, 1⟩] else bif t.Kind == 1 then [⟨path, false, t.Low, t.High⟩] else []
theorem H1q (path : Str) (a : Int) (x : A0) (s : List P0) (hp : path.length ≤ BB) (hs : s.length ≤ 1000) : Sa path a x s = some (true, s ++ Eu path x) := by
  unfold Sa Eu
  have hs' : (s.length + 1) * 41 ≤ 140737488355328 := by omega
  rw [J1o path hp]
  cases x.Kind == 0 <;> cases x.Kind == 1 <;> simp [ob, hs']
theorem J1k (path : Str) (t x : A0) (hx : t.Of = [x]) (hs : t.Size ≤ 32) (hp : path.length + t.bulk ≤ BB) (c : Nat) (hc : x.cnt = c)
    (ih : ∀ (path : Str) (s : Int) (s1 : List P0), path.length + x.bulk ≤ BB → 0 ≤ s → s + c ≤ 1000 → s1.length + c ≤ 1000 → W5 path x s s1 = some (true, s + c, s1 ++ x.sc path)) (hl : ∀ path, (x.sc path).length = c) :
    ∀ (n k : Nat) (o : Int) (l : List P0), ((k + n : Nat) : Int) = t.Size → 0 ≤ o → o + (n * c : Nat) ≤ 1000 → l.length + n * c ≤ 1000 →
      Q5 path t o l k = some (true, o + (n * c : Nat), l ++ rep (fun i => x.sc (nx path (Lib.decDigits i))) k n)
  | 0, k, o, l, hk, _, _, _ => by
    rw [Q5, if_neg (by simp; omega)]
    simp [rep]
  | n + 1, k, o, l, hk, h0, h1, h2 => by
    have hd := Q1r (k := k) (by omega)
    have hbx := A0.bulk_eq t
    rw [hx] at hbx
    simp only [A0.bulks] at hbx
    unfold BB at hp
    rw [Nat.add_mul, Nat.one_mul] at h1 h2
    rw [Q5, if_pos (decide_eq_true (by omega)), if_pos (decide_eq_true (by unfold maxLen; omega)), R1r (by omega), ob, if_pos (decide_eq_true (by unfold maxLen; simp; omega)), hx, show idx [x] 0 = some x from rfl, ob,
      ih _ o l (by unfold BB; simp; omega) h0 (by omega) (by omega), ob]
    simp only [Bool.not_true, Bool.false_eq_true, if_false]
    rw [w1 (by unfold BB; omega), J1k path t x hx hs (by unfold BB; omega) c hc ih hl n (k + 1) _ _ (by omega) (by omega) (by omega) (by rw [List.length_append, hl]; omega)]
    rw [rep, Nat.add_mul, Nat.one_mul, List.append_assoc]
    congr 3
    omega
theorem K1k (path : Str) (t : A0) (hp : path.length + t.bulk ≤ BB) (hln : t.Of.length = t.Names.length) (hv : ∀ x ∈ t.Of, Val x)
    (ih : ∀ x ∈ t.Of, ∀ (path : Str) (s : Int) (s1 : List P0), path.length + x.bulk ≤ BB → 0 ≤ s → s + x.cnt ≤ 1000 → s1.length + x.cnt ≤ 1000 → W5 path x s s1 = some (true, s + x.cnt, s1 ++ x.sc path)) (hl : ∀ x ∈ t.Of, ∀ path, ((x.sc path).length : Int) = x.cnt) :
    ∀ (r : List A0) (k : Nat) (o : Int) (l : List P0), t.Of.drop k = r → 0 ≤ o → o + A0.cnts r ≤ 1000 → l.length + A0.cnts r ≤ 1000 →
      P5 path t o l k = some (true, o + A0.cnts r, l ++ A0.scR r (t.Names.drop k) path)
  | [], k, o, l, h, _, _, _ => by
    rw [P5, (T2 h).1, if_neg (by simp)]
    simp [A0.cnts, A0.scR]
  | x :: r, k, o, l, h, h0, h1, h2 => by
    obtain ⟨e1, e2, e3, e4, e5⟩ := U4 h
    obtain ⟨y, f1, f2, f3⟩ := Ms (l := t.Names) (k := k) (by omega)
    have hof := (hv x e5).ok
    have hofs : t.Of.length ≤ BB := by have := A0.bulk_len t.Of; have := A0.bulk_eq t; omega
    have hc := Val.cnt_pos x (hv x e5)
    have hr := A0.cnts_bound r fun y hy => by have := Val.cnt_pos y (hv y (List.mem_of_mem_drop (i := k + 1) (by rw [e3]; exact hy))); omega
    have hbx := A0.bulk_eq t
    have hb1 := A0.bulk_kid e5
    have hb2 := I19 f3
    unfold BB at hp hofs
    simp only [A0.cnts] at h1 h2
    rw [P5, e1, if_pos rfl, e2, ob, if_pos (decide_eq_true (by unfold maxLen; omega)), f1, ob, if_pos (decide_eq_true (by unfold maxLen; simp; omega)),
      ih x e5 _ o l (by unfold BB; simp; omega) h0 (by omega) (by omega), ob]
    simp only [Bool.not_true, Bool.false_eq_true, if_false]
    have hlx := hl x e5 ((path ++ [46]) ++ y)
    rw [w1 (by unfold BB; omega), K1k path t (by unfold BB; omega) hln hv ih hl r (k + 1) _ _ e3 (by omega) (by omega) (by rw [List.length_append]; omega)]
    rw [f2, A0.scR, A0.cnts, List.append_assoc, Int.add_assoc]
    rfl
theorem L1k {β : Type} {f : Nat → List β} {c : Nat} (h : ∀ i, (f i).length = c) : ∀ n k, (rep f k n).length = n * c
  | 0, k => by simp [rep]
  | n + 1, k => by rw [rep, List.length_append, h, L1k h n, Nat.add_mul]; omega
theorem T1h (t : A0) : Val t → ∀ path, ((t.sc path).length : Int) = t.cnt := by
  induction t using A0.ind with
  | h t ih =>
  intro hv path
  rw [A0.sc_eq]
  cases h2 : t.Kind == 2 with
  | true =>
    obtain ⟨x, hx, s1, s2, hvx, e⟩ := hv.arr h2
    have hk : t.Kind = 2 := by simpa using h2
    have ihx := ih x (by rw [hx]; exact List.mem_cons_self) hvx
    have hcp := Val.cnt_pos x hvx
    rw [hk, hx, e]
    show ((A0.scA [x] path t.Size.toNat).length : Int) = _
    rw [A0.scA, L1k (c := x.cnt.toNat) (fun i => by have := ihx (nx path (Lib.decDigits i)); omega)]
    rw [Int.natCast_mul, show ((t.Size.toNat : Nat) : Int) = t.Size by omega, show ((x.cnt.toNat : Nat) : Int) = x.cnt by omega]
  | false =>
    cases h3 : t.Kind == 3 with
    | true =>
      obtain ⟨r1, r2, r3, e⟩ := hv.recd h3
      have hk : t.Kind = 3 := by simpa using h3
      rw [hk, e]
      show ((A0.scR t.Of t.Names path).length : Int) = _
      have key : ∀ (l : List A0) (ns : List Str), l.length = ns.length → (∀ x ∈ l, x ∈ t.Of) → ((A0.scR l ns path).length : Int) = A0.cnts l := by
        intro l
        induction l with
        | nil => intro ns _ _; rfl
        | cons x r ihr =>
          intro ns hl hm
          cases ns with
          | nil => simp at hl
          | cons n ns =>
            have h1 := ih x (hm x List.mem_cons_self) (r3 x (hm x List.mem_cons_self)) (nx path n)
            have h2 := ihr ns (by simpa using hl) fun y hy => hm y (List.mem_cons_of_mem _ hy)
            rw [A0.scR, List.length_append, A0.cnts]
            omega
      exact key t.Of t.Names r1 fun _ h => h
    | false =>
      obtain ⟨e, hk⟩ := hv.leaf h2 h3
      rw [e]
      rcases hk with hk | hk <;> rw [hk] <;> rfl
theorem S1r (t : A0) : Val t → ∀ (path : Str) (s : Int) (s1 : List P0), path.length + t.bulk ≤ BB → 0 ≤ s → s + t.cnt ≤ 1000 → s1.length + t.cnt ≤ 1000 → W5 path t s s1 = some (true, s + t.cnt, s1 ++ t.sc path) := by
  induction t using A0.ind with
  | h t ih =>
  intro hv path s s1 hp h0 h1 h2
  have hcp := Val.cnt_pos t hv
  rw [W5, H1q path s t s1 (by omega) (by omega), ob, A0.sc_eq]
  show (if (!true) = true then _ else _) = _
  rw [if_neg (by simp)]
  cases hk2 : t.Kind == 2 with
  | true =>
    obtain ⟨x, hx, s1', s2', hvx, e⟩ := hv.arr hk2
    have hk : t.Kind = 2 := by simpa using hk2
    have hm : x ∈ t.Of := by rw [hx]; exact List.mem_cons_self
    have hcx := Val.cnt_pos x hvx
    obtain ⟨c, hc⟩ : ∃ c : Nat, x.cnt = c := ⟨x.cnt.toNat, by omega⟩
    have en : ((t.Size.toNat * c : Nat) : Int) = t.cnt := by rw [e, hc, Int.natCast_mul, show ((t.Size.toNat : Nat) : Int) = t.Size by omega]
    have := J1k path t x hx s2' hp c hc (fun p s l a b c' d => by have := ih x hm hvx p s l a b (by omega) (by omega); rw [hc] at this; exact this) (fun p => by have := T1h x hvx p; omega) t.Size.toNat 0 s s1 (by omega) h0 (by omega) (by omega)
    rw [if_pos rfl]
    have hls : Eu path t = [] := by unfold Eu; rw [hk]; rfl
    show Q5 path t s (s1 ++ Eu path t) ((0 : Nat) : Int) = _
    rw [hls, List.append_nil, this, en, hk, hx]
    rfl
  | false =>
    rw [if_neg (by simp)]
    cases hk3 : t.Kind == 3 with
    | true =>
      obtain ⟨r1, r2, r3, e⟩ := hv.recd hk3
      have hk : t.Kind = 3 := by simpa using hk3
      have := K1k path t hp r1 r3 (fun x hx => ih x hx (r3 x hx)) (fun x hx => T1h x (r3 x hx)) t.Of 0 s s1 rfl h0 (by omega) (by omega)
      rw [if_pos rfl]
      have hls : Eu path t = [] := by unfold Eu; rw [hk]; rfl
      show P5 path t s (s1 ++ Eu path t) ((0 : Nat) : Int) = _
      rw [hls, List.append_nil, this, e, hk]
      rfl
    | false =>
      obtain ⟨e, hk⟩ := hv.leaf hk2 hk3
      rw [if_neg (by simp), wr (by omega) (by omega), e]
      unfold Eu
      rcases hk with hk | hk <;> rw [hk] <;> rfl
def Fw (t : A0) : List P0 × Int := bif Wp t != 0 then ([], Wp t) else (t.sc [], 0)
theorem K1m (t : A0) (ht : Ok t) : Oh t = some (Fw t) := by
  unfold Oh Fw
  rw [J1m t ht, ob]
  cases h : Wp t != 0 with
  | true => rfl
  | false =>
    have hv := (Val.of ht (by simpa using h)).1
    have hc := hv.cnt
    unfold Gk
    have := S1r t hv [] 0 [] (by unfold Ok at ht; simpa using ht) (by omega) (by omega) (by simp; omega)
    rw [this, ob, if_neg (by simp), ob]
    rfl
end Go.Proofs.YtdkabnfphmmmnaaGreatDoor

set_option linter.unusedSimpArgs false
namespace Go.Proofs.YtdkabnfphmmmnaaGreatDoor
open Go.Am
theorem M1k (t : A0) (ht : Ok t) (ih : ∀ x ∈ t.Of, Xc x = some (x.depth : Int)) (B : Nat) (hB : B ≤ BB) :
    ∀ (r : List A0) (k : Nat) (n : Nat), t.Of.drop k = r → n ≤ B → A0.depths r ≤ B → Ea t (n : Int) k = some ((max n (A0.depths r) + 1 : Nat) : Int)
  | [], k, n, h, hb, _ => by
    rw [Ea, (T2 h).1, if_neg (by simp), w1 (by omega)]
    simp [A0.depths]
  | x :: r, k, n, h, hb, hd => by
    obtain ⟨e1, e2, e3, e4, e5⟩ := U4 h
    have := ht.ofs
    simp only [A0.depths] at hd
    rw [Ea, e1, if_pos rfl, e2, ob, ih x e5, ob, w1 (by omega), show max (n : Int) (x.depth : Int) = ((max n x.depth : Nat) : Int) by omega, M1k t ht ih B hB r (k + 1) _ e3 (by omega) (by omega)]
    simp only [A0.depths]
    rw [show max (max n x.depth) (A0.depths r) = max n (max x.depth (A0.depths r)) by omega]
theorem K1o (t : A0) : Ok t → Xc t = some (t.depth : Int) := by
  induction t using A0.ind with
  | h t ih =>
  intro ht
  have hn := ht.nodes
  have hd := A0.depth_nodes t
  rw [Xc]
  rw [A0.depth_eq] at hd
  have := M1k t ht (fun x hx => ih x hx (ht.kid hx)) BB (Nat.le_refl _) t.Of 0 0 rfl (by omega) (by omega)
  rw [A0.depth_eq]
  rw [show max 0 (A0.depths t.Of) = A0.depths t.Of by omega] at this
  exact this
structure Out (t : A0) : Prop where
  val : Val t
  names : t.all Af = true
  deep : t.depth ≤ 12
def KK : Nat := 169728
theorem L1m {s : Str} (h : Ze s = true) : s.length ≤ 12 := by
  unfold Ze at h
  by_cases hl : (s.length : Int) ≤ 12
  · omega
  · rw [decide_eq_false hl] at h; simp at h
theorem C1e : ∀ {l : List Str}, l.all Ze = true → (l.map fun s => s.length + 1).sum ≤ 13 * l.length
  | [], _ => by simp
  | s :: r, h => by
    simp only [List.all_cons, Bool.and_eq_true] at h
    have := L1m h.1
    have := C1e h.2
    simp only [List.map_cons, List.sum_cons, List.length_cons]
    omega
theorem U1h {p : A0 → Bool} {t : A0} (h : t.all p = true) : p t = true ∧ ∀ x ∈ t.Of, x.all p = true := by
  rw [A0.all_eq, Bool.and_eq_true] at h
  exact ⟨h.1, fun x hx => A0.alls_mem h.2 hx⟩
theorem D1j {t : A0} (hf : F6 t) (hn : t.some Es = false) (ha : t.all Af = true) : t.Name.length + (t.Names.map fun s => s.length + 1).sum + 8 ≤ 424 := by
  obtain ⟨h1, _⟩ := hf.here
  have h2 := (U1h ha).1
  unfold Af at h2
  simp only [Bool.and_eq_true] at h2
  have h3 := C1e h2.2
  rw [A0.some_eq, Bool.or_eq_false_iff] at hn
  have hk4 : (t.Kind == 4) = false := hn.1
  unfold Id at h1
  simp only [Bool.and_eq_true] at h1
  have f4 := h1.1.1.2
  have f5 := h1.1.2
  unfold fm4 at f4
  unfold fm5 at f5
  rw [hk4] at f4
  have hnm : t.Name = [] := by simpa using f4
  rw [hnm]
  cases hk3 : t.Kind == 3 with
  | true =>
    have := (hf.recd hk3)
    simp only [List.length_nil]
    omega
  | false =>
    rw [hk3] at f5
    have : (t.Names.length : Int) = 0 := by simpa using f5
    simp only [List.length_nil]
    omega
theorem V1h {c : Nat} : ∀ {l : List A0} {d : Nat}, (∀ x ∈ l, (x.bulk : Int) ≤ c * (x.cnt * x.depth) ∧ 1 ≤ x.cnt ∧ x.depth ≤ d) → (A0.bulks l : Int) ≤ c * (A0.cnts l * d)
  | [], d, _ => by simp [A0.bulks, A0.cnts]
  | x :: r, d, h => by
    obtain ⟨h1, h2, h3⟩ := h x List.mem_cons_self
    have h4 := V1h (c := c) (d := d) fun y hy => h y (List.mem_cons_of_mem _ hy)
    simp only [A0.bulks, A0.cnts]
    have h5 : x.cnt * (x.depth : Int) ≤ x.cnt * d := Int.mul_le_mul_of_nonneg_left (by omega) (by omega)
    have h6 : (c : Int) * (x.cnt * x.depth) ≤ c * (x.cnt * d) := Int.mul_le_mul_of_nonneg_left h5 (by omega)
    rw [Int.add_mul, Int.mul_add]
    omega
theorem L1o (t : A0) : Val t → t.all Af = true → (t.bulk : Int) ≤ (424 : Nat) * (t.cnt * t.depth) := by
  induction t using A0.ind with
  | h t ih =>
  intro hv ha
  have hw := D1j hv.fine hv.nm ha
  have hb := A0.bulk_eq t
  have hc := Val.cnt_pos t hv
  have hd := A0.depth_eq t
  have hk := (U1h ha).2
  have key : ∀ c : Int, (A0.bulks t.Of : Int) ≤ (424 : Nat) * (c * A0.depths t.Of) → 0 ≤ c → c ≤ t.cnt → (t.bulk : Int) ≤ (424 : Nat) * (t.cnt * t.depth) := fun c h1 h0 h2 => by
    have h3 : c * (A0.depths t.Of : Int) ≤ t.cnt * A0.depths t.Of := Int.mul_le_mul_of_nonneg_right h2 (by omega)
    have h4 : t.cnt * (t.depth : Int) = t.cnt * A0.depths t.Of + t.cnt := by rw [hd, Int.natCast_add, Int.mul_add]; simp
    rw [h4]
    omega
  cases hk2 : t.Kind == 2 with
  | true =>
    obtain ⟨x, hx, s1, s2, hvx, e⟩ := hv.arr hk2
    have hm : x ∈ t.Of := by rw [hx]; exact List.mem_cons_self
    have hcx := Val.cnt_pos x hvx
    have := ih x hm hvx (hk x hm)
    refine key x.cnt ?_ (by omega) ?_
    · rw [hx]
      simp only [A0.bulks, A0.depths]
      rw [show max x.depth 0 = x.depth by omega]
      omega
    · rw [e]
      have : 1 * x.cnt ≤ t.Size * x.cnt := Int.mul_le_mul_of_nonneg_right (by omega) (by omega)
      omega
  | false =>
    cases hk3 : t.Kind == 3 with
    | true =>
      obtain ⟨r1, r2, r3, e⟩ := hv.recd hk3
      refine key t.cnt ?_ (by omega) (Int.le_refl _)
      rw [e]
      exact V1h fun x hx => ⟨ih x hx (r3 x hx) (hk x hx), Val.cnt_pos x (r3 x hx), A0.depth_le hx⟩
    | false =>
      refine key 0 ?_ (Int.le_refl _) (by omega)
      have hf := hv.fine.here.1
      unfold Id fm6 at hf
      rw [hk2, hk3] at hf
      simp only [cond_false, Bool.and_eq_true] at hf
      have hl : (t.Of.length : Int) = 0 := by simpa using hf.2
      rw [List.eq_nil_of_length_eq_zero (by omega : t.Of.length = 0)]
      simp [A0.bulks]
theorem Out.bulk {t : A0} (h : Out t) : t.bulk ≤ KK := by
  have h1 := L1o t h.val h.names
  have h2 := Val.cnt_pos t h.val
  have h3 := h.val.cnt
  have h4 := h.deep
  have : t.cnt * (t.depth : Int) ≤ 32 * 12 := Int.mul_le_mul h3 (by omega) (by omega) (by omega)
  unfold KK
  omega
mutual
def A0.rp (m : List (Str × A0)) : A0 → Option A0
  | .mk k l h s n ns of => bif k == 4 then mgt n m else (A0.rps m of).map fun of' => A0.mk k l h s n ns of'
def A0.rps (m : List (Str × A0)) : List A0 → Option (List A0)
  | [] => Option.some []
  | x :: r => (A0.rp m x).bind fun y => (A0.rps m r).map fun s => y :: s
end
theorem A0.rp_eq (m : List (Str × A0)) (t : A0) : t.rp m = bif t.Kind == 4 then mgt t.Name m else (A0.rps m t.Of).map fun of' => A0.mk t.Kind t.Low t.High t.Size t.Name t.Names of' := by cases t; rfl
def MOk (m : List (Str × A0)) : Prop := ∀ p ∈ m, Out p.2
theorem N1k {k : Str} {x : A0} : ∀ {m : List (Str × A0)}, mgt k m = some x → ∃ k', (k', x) ∈ m
  | [], h => by cases h
  | (k', y) :: r, h => by
    unfold mgt at h
    cases hk : k == k' with
    | true => rw [hk] at h; cases h; exact ⟨k', List.mem_cons_self⟩
    | false => rw [hk] at h; obtain ⟨k2, h2⟩ := N1k h; exact ⟨k2, List.mem_cons_of_mem _ h2⟩
theorem MOk.get {m : List (Str × A0)} (h : MOk m) {k : Str} {x : A0} (hg : mgt k m = some x) : Out x := by
  obtain ⟨k', hm⟩ := N1k hg
  exact h _ hm
theorem I1q {m : List (Str × A0)} (hm : MOk m) (t : A0) : ∀ y, t.rp m = some y →
    (t.all Id = true → y.all Id = true) ∧ (t.all Ji = true → y.all Ji = true) ∧ (t.all Af = true → y.all Af = true) ∧ y.some Es = false ∧ y.bulk ≤ t.bulk + t.nodes * KK := by
  induction t using A0.ind with
  | h t ih =>
  intro y hy
  rw [A0.rp_eq] at hy
  cases hk : t.Kind == 4 with
  | true =>
    rw [hk] at hy
    have ho := hm.get hy
    have hb := ho.bulk
    refine ⟨fun _ => ho.val.fine.form, fun _ => ho.val.fine.num, fun _ => ho.names, ho.val.nm, ?_⟩
    rw [A0.nodes_eq, Nat.add_mul]
    omega
  | false =>
    rw [hk, cond_false] at hy
    obtain ⟨of, ho, rfl⟩ := Option.map_eq_some_iff.1 hy
    have key : ∀ (l : List A0) (of : List A0), (∀ x ∈ l, x ∈ t.Of) → A0.rps m l = some of → of.length = l.length ∧ (A0.alls Id l = true → A0.alls Id of = true) ∧ (A0.alls Ji l = true → A0.alls Ji of = true) ∧
        (A0.alls Af l = true → A0.alls Af of = true) ∧ of.any (A0.some Es) = false ∧ A0.bulks of ≤ A0.bulks l + A0.nodess l * KK := by
      intro l
      induction l with
      | nil => intro of _ h; cases h; exact ⟨rfl, fun h => h, fun h => h, fun h => h, rfl, by simp [A0.bulks]⟩
      | cons x r ihr =>
        intro of hl h
        rw [A0.rps] at h
        obtain ⟨z, hz, h2⟩ := Option.bind_eq_some_iff.1 h
        obtain ⟨s, hs, rfl⟩ := Option.map_eq_some_iff.1 h2
        obtain ⟨a1, a2, a3, a4, a5⟩ := ih x (hl x List.mem_cons_self) z hz
        obtain ⟨b0, b1, b2, b3, b4, b5⟩ := ihr s (fun y hy => hl y (List.mem_cons_of_mem _ hy)) hs
        simp only [A0.alls, Bool.and_eq_true, List.any_cons, Bool.or_eq_false_iff, A0.bulks, A0.nodess, List.length_cons, Nat.add_mul]
        exact ⟨by omega, fun h => ⟨a1 h.1, b1 h.2⟩, fun h => ⟨a2 h.1, b2 h.2⟩, fun h => ⟨a3 h.1, b3 h.2⟩, ⟨a4, b4⟩, by omega⟩
    obtain ⟨k0, k1, k2, k3, k4, k5⟩ := key t.Of of (fun _ h => h) ho
    have e1 : Id (A0.mk t.Kind t.Low t.High t.Size t.Name t.Names of) = Id t := by
      unfold Id fm1 fm2 fm3 fm4 fm5 fm6
      simp only [k0]
    have e2 : Ji (A0.mk t.Kind t.Low t.High t.Size t.Name t.Names of) = Ji t := by
      unfold Ji nm1 nm2
      simp only [k0]
    have e3 : Af (A0.mk t.Kind t.Low t.High t.Size t.Name t.Names of) = Af t := rfl
    simp only [A0.all_eq, Bool.and_eq_true, e1, e2, e3, A0.some_eq, Bool.or_eq_false_iff]
    refine ⟨fun h => ⟨h.1, k1 h.2⟩, fun h => ⟨h.1, k2 h.2⟩, fun h => ⟨h.1, k3 h.2⟩, ⟨hk, k4⟩, ?_⟩
    rw [A0.bulk_eq, A0.bulk_eq t, A0.nodes_eq, Nat.add_mul]
    simp only
    omega
theorem A1r (m : List (Str × A0)) (t : A0) (ht : Ok t) (x2 : List Str) (ih : ∀ x ∈ t.Of, E5 x m = some (x, true)) :
    ∀ (r : List A0) (k : Nat) (a : List A0), t.Of.drop k = r → a.length = k → S4 m t x2 a k = some (⟨t.Kind, t.Low, t.High, t.Size, t.Name, x2, a ++ r⟩, true)
  | [], k, a, h, ha => by rw [S4, (T2 h).1, if_neg (by simp)]; simp
  | x :: r, k, a, h, ha => by
    obtain ⟨e1, e2, e3, e4, e5⟩ := U4 h
    have := ht.ofs
    unfold BB at this
    rw [S4, e1, if_pos rfl, e2, ob, ih x e5, ob]
    simp only [Bool.not_true, Bool.false_eq_true, if_false]
    rw [if_pos (decide_eq_true (by omega)), w1 (by unfold BB; omega), A1r m t ht x2 ih r (k + 1) (a ++ [x]) e3 (by simp; omega)]
    simp
theorem O1k {p : A0 → Bool} {l : List A0} (h : l.any p = false) {x : A0} (hx : x ∈ l) : p x = false := by
  cases hp : p x with
  | false => rfl
  | true => have h2 := List.any_eq_true.2 ⟨x, hx, hp⟩; rw [h] at h2; cases h2
theorem B1r (m : List (Str × A0)) (t : A0) (ht : Ok t) (ih : ∀ x ∈ t.Of, E5 x m = some (x, true)) : O7 m t = some (t, true) := by
  have hnm := ht.names
  unfold BB at hnm
  rw [O7]
  unfold X9
  rw [if_pos (decide_eq_true (by omega)), ob, G14, A1r m t ht t.Names ih t.Of 0 [] rfl rfl, List.nil_append]
  cases t
  rfl
theorem N1s (m : List (Str × A0)) (t : A0) : Ok t → t.some Es = false → E5 t m = some (t, true) := by
  induction t using A0.ind with
  | h t ih =>
  intro ht hn
  rw [A0.some_eq, Bool.or_eq_false_iff] at hn
  have hk : (t.Kind == 4) = false := hn.1
  rw [E5, hk, if_neg (by simp)]
  exact B1r m t ht fun x hx => ih x hx (ht.kid hx) (O1k hn.2 hx)
def Ql : Option A0 → A0 × Bool
  | some x => (x, true)
  | none => (zTy, false)
  where zTy : A0 := A0.mk 0 0 0 0 [] [] []
theorem C1r (m : List (Str × A0)) (t : A0) (ht : Ok t) (x2 : List Str) (ih : ∀ x ∈ t.Of, E5 x m = some (Ql (x.rp m))) :
    ∀ (r : List A0) (k : Nat) (a : List A0), t.Of.drop k = r → a.length = k → S4 m t x2 a k = some (Ql ((A0.rps m r).map fun s => ⟨t.Kind, t.Low, t.High, t.Size, t.Name, x2, a ++ s⟩))
  | [], k, a, h, ha => by rw [S4, (T2 h).1, if_neg (by simp)]; simp [A0.rps, Ql]
  | x :: r, k, a, h, ha => by
    obtain ⟨e1, e2, e3, e4, e5⟩ := U4 h
    have := ht.ofs
    unfold BB at this
    rw [S4, e1, if_pos rfl, e2, ob, ih x e5, ob, A0.rps]
    cases hx : x.rp m with
    | none => simp [Ql, Ql.zTy]
    | some y =>
      simp only [Ql, Bool.not_true, Bool.false_eq_true, if_false, Option.bind_some]
      rw [if_pos (decide_eq_true (by omega)), w1 (by unfold BB; omega), C1r m t ht x2 ih r (k + 1) (a ++ [y]) e3 (by simp; omega)]
      cases A0.rps m r <;> simp [Ql]
theorem E1j {m : List (Str × A0)} (hm : MOk m) (t : A0) : Ok t → E5 t m = some (Ql (t.rp m)) := by
  induction t using A0.ind with
  | h t ih =>
  intro ht
  rw [E5, A0.rp_eq]
  cases hk : t.Kind == 4 with
  | true =>
    rw [if_pos rfl, ob, cond_true]
    cases hg : mgt t.Name m with
    | none => rfl
    | some x =>
      have ho := hm.get hg
      have hb := ho.val.ok
      have := B1r m x hb fun z hz => N1s m z (hb.kid hz) (by
        have := ho.val.nm
        rw [A0.some_eq, Bool.or_eq_false_iff] at this
        exact O1k this.2 hz)
      simp only [Option.isSome_some, Bool.not_true, Bool.false_eq_true, if_false, Option.getD_some]
      rw [this]
      rfl
  | false =>
    have hnm := ht.names
    unfold BB at hnm
    rw [if_neg (by simp), cond_false, O7]
    unfold X9
    rw [if_pos (decide_eq_true (by omega)), ob, G14, C1r m t ht t.Names (fun x hx => ih x hx (ht.kid hx)) t.Of 0 [] rfl rfl]
    simp
def dec (p : Str × A0) : E0 := E0.mk 0 p.1 p.2 0 (C0.mk 0 0 [] []) [] [] []
def Co (m : List (Str × A0)) (t : A0) : A0 × Int :=
  bif Bf t != 0 then (Ql.zTy, Bf t) else match t.rp m with
    | none => (Ql.zTy, 7)
    | some x => bif x.some Bu then (Ql.zTy, 8) else bif (decide ((x.depth : Int) > 12) || decide (x.cnt > 32)) then (Ql.zTy, 4) else (x, 0)
theorem F1j {t : A0} (h : Bf t = 0) : t.nodes ≤ 1024 ∧ t.all Af = true := by
  unfold Bf Mg at h
  by_cases h1 : (t.nodes : Int) > 1024
  · rw [decide_eq_true h1] at h; simp at h
  · refine ⟨by omega, ?_⟩
    revert h
    cases (bif decide ((t.nodes : Int) > 1024) then true else decide ((t.depth : Int) > 12)) <;> cases t.all Id <;> cases t.all Af <;> simp
theorem P1k {m : List (Str × A0)} (hm : MOk m) {t x : A0} (hb : t.bulk ≤ 1048576) (hc : Bf t = 0) (hx : t.rp m = some x) : Ok x ∧ F6 x ∧ x.some Es = false ∧ x.all Af = true := by
  obtain ⟨h1, h2, h3, h4, h5⟩ := I1q hm t x hx
  have hf := V1c hc
  obtain ⟨hn, hna⟩ := F1j hc
  refine ⟨?_, ⟨h1 hf.form, h2 hf.num⟩, h4, h3 hna⟩
  have : t.nodes * KK ≤ 1024 * KK := Nat.mul_le_mul_right _ hn
  unfold Ok BB
  unfold KK at *
  omega
theorem W1h {m : List (Str × A0)} (hm : MOk m) {t : A0} (hb : t.bulk ≤ 1048576) (h : (Co m t).2 = 0) : Out (Co m t).1 ∧ (Co m t).1.some Bu = false := by
  unfold Co at h ⊢
  cases hc : Bf t != 0 with
  | true => rw [hc] at h; simp only [cond_true] at h; rw [h] at hc; cases hc
  | false =>
    have hc' : Bf t = 0 := by simpa using hc
    rw [hc] at h
    simp only [cond_false] at h ⊢
    cases hx : t.rp m with
    | none => rw [hx] at h; simp at h
    | some x =>
      rw [hx] at h
      simp only at h ⊢
      obtain ⟨a1, a2, a3, a4⟩ := P1k hm hb hc' hx
      cases h2 : x.some Bu with
      | true => rw [h2] at h; simp at h
      | false =>
        rw [h2] at h
        by_cases h3 : (x.depth : Int) > 12
        · rw [decide_eq_true h3] at h; simp at h
        · by_cases h4 : x.cnt > 32
          · rw [decide_eq_true h4] at h; simp at h
          · rw [decide_eq_false h3, decide_eq_false h4]
            exact ⟨⟨⟨a1, a2, a3, by simp only [cond_false, Bool.or_false]; omega⟩, a4, by simp only [cond_false, Bool.or_false]; omega⟩, h2⟩
theorem M18 {m : List (Str × A0)} (hm : MOk m) (t : A0) (hb : t.bulk ≤ 1048576) : Sd t m = some (Co m t) := by
  have ht : Ok t := by unfold Ok BB; omega
  unfold Sd Co
  rw [R16 t ht, ob, E1j hm t ht]
  cases hc : Bf t != 0 with
  | true => rfl
  | false =>
    rw [if_neg (by simp), ob]
    cases hx : t.rp m with
    | none => rfl
    | some x =>
      obtain ⟨a1, a2, a3, a4⟩ := P1k hm hb (by simpa using hc) hx
      simp only [Ql, Bool.not_true, Bool.false_eq_true, if_false]
      rw [Q1h x a1, K1o x a1, R1h x a2]
      simp only [ob]
      cases x.some Bu <;> cases decide ((x.depth : Int) > 12) <;> cases h4 : decide (x.cnt > 32) <;> simp only [ob, Bool.not_false, Bool.not_true, Bool.false_eq_true, if_true, if_false, cond_true, cond_false, Bool.or_true, Bool.true_or, Bool.or_false, Ql.zTy, h4]
end Go.Proofs.YtdkabnfphmmmnaaGreatDoor

set_option linter.unusedSimpArgs false
namespace Go.Proofs.YtdkabnfphmmmnaaGreatDoor
open Go.Am
theorem Q1k {k : Str} {x : A0} : ∀ {m : List (Str × A0)}, mgt k m = none → mpt k x m = m ++ [(k, x)]
  | [], _ => rfl
  | (k', y) :: r, h => by
    unfold mgt at h
    unfold mpt
    cases hk : k == k' with
    | true => rw [hk] at h; cases h
    | false => rw [hk] at h; rw [cond_false, Q1k h]; rfl
def Q11 : List E0 → List (Str × A0) → List (Str × A0) × Int
  | [], m => (m, 0)
  | d :: r, m => bif d.Kind != 0 then Q11 r m else bif !Ze d.Name then ([], 7) else bif (mgt d.Name m).isSome then ([], 8) else
      bif (Co m d.TypeV).2 != 0 then ([], (Co m d.TypeV).2) else Q11 r (m ++ [(d.Name, (Co m d.TypeV).1)])
def DOk (ds : List E0) : Prop := ds.length ≤ 2000000 ∧ ∀ d ∈ ds, d.TypeV.bulk ≤ 1048576 ∧ d.Name.length ≤ BB
theorem MOk.snoc {m : List (Str × A0)} (hm : MOk m) {d : E0} (hb : d.TypeV.bulk ≤ 1048576) (h : (Co m d.TypeV).2 = 0) (k : Str) : MOk (m ++ [(k, (Co m d.TypeV).1)]) := by
  intro p hp
  rw [List.mem_append] at hp
  rcases hp with hp | hp
  · exact hm p hp
  · simp at hp
    subst hp
    exact (W1h hm hb h).1
def O1b (e : List (Str × A0) × Int) (t : A0) : A0 × Int := bif e.2 != 0 then (Ql.zTy, e.2) else Co e.1 t
theorem Y1c {ds : List E0} : ∀ (r : List E0) (m : List (Str × A0)), (∀ d ∈ r, d.TypeV.bulk ≤ 1048576) → MOk m → MOk (Q11 r m).1 ∧ (Q11 r m).1.length ≤ m.length + r.length
  | [], m, _, hm => ⟨hm, by simp [Q11]⟩
  | d :: r, m, hd, hm => by
    have hn : MOk [] := fun p hp => by cases hp
    have hr := fun x hx => hd x (List.mem_cons_of_mem _ hx)
    rw [Q11]
    cases d.Kind != 0 with
    | true => have := Y1c (ds := ds) r m hr hm; exact ⟨this.1, by simp only [cond_true, List.length_cons]; omega⟩
    | false =>
      cases Ze d.Name with
      | false => exact ⟨hn, by simp⟩
      | true =>
        cases (mgt d.Name m).isSome with
        | true => exact ⟨hn, by simp⟩
        | false =>
          cases h : (Co m d.TypeV).2 != 0 with
          | true => exact ⟨hn, by simp⟩
          | false =>
            have := Y1c (ds := ds) r _ hr (hm.snoc (hd d List.mem_cons_self) (by simpa using h) d.Name)
            refine ⟨this.1, ?_⟩
            have h2 := this.2
            simp only [List.length_append, List.length_cons, List.length_nil, cond_false, Bool.not_true] at h2 ⊢
            omega
theorem Q19 (ds : List E0) (hd : DOk ds) (t : A0) (ht : t.bulk ≤ 1048576) : ∀ (r : List E0) (k : Nat) (m : List (Str × A0)), ds.drop k = r → MOk m → W6 ds t m k = some (O1b (Q11 r m) t)
  | [], k, m, h, hm => by
    rw [W6, (T2 h).1, if_neg (by simp), M18 hm t ht]
    rfl
  | d :: r, k, m, h, hm => by
    obtain ⟨e1, e2, e3, e4, e5⟩ := U4 h
    have hl := hd.1
    obtain ⟨hb, hn⟩ := hd.2 d e5
    rw [W6, e1, if_pos rfl, e2, ob, w1 (by unfold BB; omega), Q19 ds hd t ht r (k + 1) m e3 hm, T1d _ hn, ob, Q11]
    cases d.Kind != 0 with
    | true => rfl
    | false =>
      rw [if_neg (by simp), cond_false]
      cases Ze d.Name with
      | false => rfl
      | true =>
        rw [if_neg (by simp), ob]
        cases hg : mgt d.Name m with
        | some y => rfl
        | none =>
          rw [M18 hm _ hb]
          simp only [Option.isSome_none, Bool.false_eq_true, if_false, Bool.not_true, cond_false, ob]
          cases hc : (Co m d.TypeV).2 != 0 with
          | true => simp only [if_true, cond_true, O1b, hc, Ql.zTy]
          | false =>
            have hm2 := hm.snoc hb (by simpa using hc) d.Name
            rw [if_neg (by simp), Q1k hg, Q19 ds hd t ht r (k + 1) _ e3 hm2]
            rfl
def Nm (ds : List E0) (t : A0) : A0 × Int := O1b (Q11 ds []) t
theorem MOk.nil : MOk [] := fun p hp => by cases hp
theorem M1o (ds : List E0) (hd : DOk ds) (t : A0) (ht : t.bulk ≤ 1048576) : Dj ds t = some (Nm ds t) := by
  unfold Dj Nm
  exact Q19 ds hd t ht ds 0 [] rfl .nil
end Go.Proofs.YtdkabnfphmmmnaaGreatDoor

set_option linter.unusedSimpArgs false
namespace Go.Proofs.YtdkabnfphmmmnaaGreatDoor
open Go.Am
abbrev zT : A0 := A0.mk 0 0 0 0 [] [] []
def nT (a b : Int) : A0 := A0.mk 1 a b 0 [] [] []
theorem ifB {α : Type} (b : Bool) (x y : α) : (if b = true then some x else some y) = some (bif b then x else y) := by cases b <;> rfl
abbrev wi (n : Int) : Int := IntKind.i64.wrap n
mutual
def I0.find (nm : Str) : I0 → Option J0
  | .mk a vs => match mgt nm vs with
    | some v => some v
    | none => lkO nm a
def lkO (nm : Str) : Option I0 → Option J0
  | none => none
  | some s => s.find nm
end
theorem N1o {P : Option I0 → Prop} (h0 : P none) (h1 : ∀ a vs, P a → P (some (.mk a vs))) : ∀ s, P s := by
  have key : ∀ s : I0, P (some s) := fun s => I0.rec (motive_1 := fun s => P (some s)) (motive_2 := P) (fun a vs ih => h1 a vs ih) h0 (fun x hx => hx) s
  intro s
  cases s with
  | none => exact h0
  | some s => exact key s
def H14 (s : Option I0) (nm : Str) : J0 × Bool := match lkO nm s with
  | some v => (v, true)
  | none => (J0.mk zT false, false)
theorem J1q (nm : Str) : ∀ s, Y2 nm s = some (H14 s nm) := by
  refine N1o ?_ ?_
  · rw [Y2]; rfl
  · intro a vs ih
    rw [Y2]
    simp only [Option.isNone, Bool.not_false, if_true, ob]
    unfold H14
    simp only [lkO, I0.find]
    cases hm : mgt nm vs with
    | some v => rfl
    | none =>
      simp only [Option.isSome, Bool.false_eq_true, if_false]
      exact ih
theorem U16 (s : Option I0) (nm : Str) : M5 s nm = some (H14 s nm) := J1q nm s
def Tj (t : A0) : A0 × Int := bif (bif t.Kind == 1 then (bif decide (t.Low < (-1048576)) then true else decide (t.High > 1048576)) else false) then (zT, 3) else (t, 0)
theorem T1r (t : A0) : X8 t = some (Tj t) := ifB _ _ _
theorem D13 (a b : Int) : W2 a b = some (nT a b) := rfl
theorem D1r (k : Int) (l : List A0) (hl : l.length ≤ BB) : ∀ (r : List A0) (i : Nat), l.drop i = r → F3 k l i = some (r.all fun t => t.Kind == k)
  | [], i, h => by
    rw [F3, (T2 h).1]
    rfl
  | x :: r, i, h => by
    obtain ⟨h1, h2, h3, h4, _⟩ := U4 h
    rw [F3, h1, h2]
    simp only [if_true, ob, List.all_cons]
    rw [w1 (by omega), D1r k l hl r (i + 1) h3]
    show (if (!(x.Kind == k)) = true then some false else _) = _
    cases x.Kind == k <;> rfl
theorem Gr (k : Int) (l : List A0) (hl : l.length ≤ BB) : V5 k l = some (l.all fun t => t.Kind == k) := D1r k l hl l 0 rfl
def Yp (op : Int) (a b : A0) : A0 :=
  bif op == 8 then nT (wi (a.Low + b.Low)) (wi (a.High + b.High))
  else bif op == 9 then nT (wi (a.Low - b.High)) (wi (a.High - b.Low))
  else bif op == 10 then nT (min (min (min (wi (a.Low * b.Low)) (wi (a.Low * b.High))) (wi (a.High * b.Low))) (wi (a.High * b.High))) (max (max (max (wi (a.Low * b.Low)) (wi (a.Low * b.High))) (wi (a.High * b.Low))) (wi (a.High * b.High)))
  else bif op == 11 then (bif (bif decide (a.Low ≥ 0) then decide (b.Low ≥ 0) else false) then nT 0 (max a.High (wi (0 - a.Low))) else nT (wi (0 - max a.High (wi (0 - a.Low)))) (max a.High (wi (0 - a.Low))))
  else bif op == 12 then nT (bif decide (b.Low < 0) then min (wi (b.Low + 1)) 0 else 0) (bif decide (b.High > 0) then max (wi (b.High - 1)) 0 else 0)
  else bif op == 21 then nT (min a.Low b.Low) (min a.High b.High)
  else nT (max a.Low b.Low) (max a.High b.High)
theorem K1q (op : Int) (a b : A0) : D8 op a b = some (Yp op a b) := by
  unfold D8 Yp
  cases op == 8
  case true => rfl
  cases op == 9
  case true => rfl
  cases op == 10
  case true => rfl
  cases op == 11
  case true =>
    simp only [Bool.false_eq_true, if_false, if_true, Pc, ob, cond_false, cond_true]
    cases (bif decide (a.Low ≥ 0) then decide (b.Low ≥ 0) else false) <;> rfl
  cases op == 12
  case true =>
    simp only [Bool.false_eq_true, if_false, if_true, cond_false, cond_true, W7, V7, D13, ob]
    cases decide (b.Low < 0) <;> cases decide (b.High > 0) <;> rfl
  cases op == 21 <;> rfl
def opT (op : Int) (k : List A0) : A0 × Int :=
  bif op == 6 then (bif k.all (fun t => t.Kind == 1) then Tj (nT (wi (0 - (k.getD 0 zT).High)) (wi (0 - (k.getD 0 zT).Low))) else (zT, 9))
  else bif (op == 7 || op == 19 || op == 20) then (bif k.all (fun t => t.Kind == 0) then (zT, 0) else (zT, 9))
  else bif (op == 13 || op == 14) then (bif (k.all (fun t => t.Kind == 1) || k.all (fun t => t.Kind == 0)) then (zT, 0) else (zT, 9))
  else bif (op == 15 || op == 16 || op == 17 || op == 18) then (bif k.all (fun t => t.Kind == 1) then (zT, 0) else (zT, 9))
  else bif op == 23 then (bif (k.getD 0 zT).Kind != 0 then (zT, 9) else bif (k.drop 1).all (fun t => t.Kind == 1) then (nT (min (k.getD 1 zT).Low (k.getD 2 zT).Low) (max (k.getD 1 zT).High (k.getD 2 zT).High), 0)
    else bif (k.drop 1).all (fun t => t.Kind == 0) then (zT, 0) else (zT, 9))
  else bif k.all (fun t => t.Kind == 1) then Tj (Yp op (k.getD 0 zT) (k.getD 1 zT)) else (zT, 9)
theorem V16 (t : A0) : (X8 t >>= fun x => some (x.1, x.2)) = some (Tj t) := by rw [T1r]; rfl
theorem O1o {op : Int} {n : Nat} (h : ar op = n) (h6 : 6 ≤ op) : (n = 1 ∧ (op = 6 ∨ op = 7)) ∨ (n = 2 ∧ 8 ≤ op ∧ op ≤ 22) ∨ (n = 3 ∧ op = 23) := by
  unfold ar at h
  have e : ∀ k : Int, k < 6 → (op == k) = false := fun k hk => beq_eq_false_iff_ne.2 (by omega)
  rw [e 0 (by omega), e 1 (by omega), e 2 (by omega), e 3 (by omega), e 4 (by omega), e 5 (by omega)] at h
  simp only [cond_false] at h
  by_cases a : op = 6
  · subst a; simp at h; omega
  by_cases b : op = 7
  · subst b; simp at h; omega
  rw [beq_eq_false_iff_ne.2 a, beq_eq_false_iff_ne.2 b, decide_eq_true (show op ≥ 8 by omega)] at h
  simp only [cond_false, cond_true] at h
  by_cases c : op ≤ 22
  · rw [decide_eq_true c] at h; simp only [cond_true] at h; omega
  · rw [decide_eq_false c] at h
    simp only [cond_false] at h
    by_cases d : op = 23
    · subst d; simp at h; omega
    · rw [beq_eq_false_iff_ne.2 d] at h; simp only [cond_false] at h; omega
theorem X1h (op : Int) (k : List A0) (h : ar op = (k.length : Int)) (h6 : 6 ≤ op) : R8 op k = some (opT op k) := by
  unfold R8
  rcases O1o h h6 with ⟨hn, rfl | rfl⟩ | ⟨hn, h8, h22⟩ | ⟨hn, rfl⟩
  · match k, hn with
    | [a], _ =>
      rw [Gr _ _ (by simp [BB]), Gr _ _ (by simp [BB])]
      simp only [ob]
      unfold opT
      simp only [show ((6 : Int) == 6) = true from rfl, if_true, cond_true, show idx [a] 0 = some a from rfl, ob, D13, V16, List.getD_cons_zero]
      exact ifB _ _ _
  · match k, hn with
    | [a], _ =>
      rw [Gr _ _ (by simp [BB]), Gr _ _ (by simp [BB])]
      simp only [ob, S6]
      unfold opT
      simp only [show ((7 : Int) == 6) = false from rfl, show ((7 : Int) == 7) = true from rfl, Bool.false_eq_true, if_false, if_true, cond_true, cond_false, Bool.true_or]
      exact ifB _ _ _
  · match k, hn with
    | [a, b], _ =>
      rw [Gr _ _ (by simp [BB]), Gr _ _ (by simp [BB])]
      simp only [ob]
      generalize hI : [a, b].all (fun t => t.Kind == 1) = I
      generalize hB : [a, b].all (fun t => t.Kind == 0) = B
      unfold opT
      simp only [hI, hB]
      have gen : ∀ x : Int, x = op → (x = 8 ∨ x = 9 ∨ x = 10 ∨ x = 11 ∨ x = 12 ∨ x = 13 ∨ x = 14 ∨ x = 15 ∨ x = 16 ∨ x = 17 ∨ x = 18 ∨ x = 19 ∨ x = 20 ∨ x = 21 ∨ x = 22) := fun x hx => by omega
      have fin : ∀ op, (bif I then Tj (Yp op a b) else ((zT, 9) : A0 × Int)) = bif I then Tj (Yp op a b) else (zT, 9) := fun _ => rfl
      rcases gen op rfl with rfl | rfl | rfl | rfl | rfl | rfl | rfl | rfl | rfl | rfl | rfl | rfl | rfl | rfl | rfl <;>
        (first
          | (cases I <;> cases B <;> rfl)
          | (cases I
             · rfl
             · show (idx [a, b] 0 >>= fun x16 => idx [a, b] 1 >>= fun x17 => D8 _ x16 x17 >>= fun x18 => X8 x18 >>= fun x19 => some (x19.1, x19.2)) = _
               rw [show idx [a, b] 0 = some a from rfl, show idx [a, b] 1 = some b from rfl]
               simp only [ob, K1q, V16]
               rfl))
  · match k, hn with
    | [a, b, c], _ =>
      rw [Gr _ _ (by simp [BB]), Gr _ _ (by simp [BB])]
      simp only [ob]
      show (slc [a, b, c] 1 (([a, b, c].length : Nat) : Int) >>= _) = _
      rw [show slc [a, b, c] 1 (([a, b, c].length : Nat) : Int) = some [b, c] from rfl]
      simp only [ob, show idx [a, b, c] 0 = some a from rfl]
      rw [Gr _ _ (by simp [BB]), Gr _ _ (by simp [BB])]
      simp only [ob, show idx [b, c] 0 = some b from rfl, show idx [b, c] 1 = some c from rfl, D13]
      show _ = some (bif a.Kind != 0 then (zT, 9) else bif [b, c].all (fun t => t.Kind == 1) then (nT (min b.Low c.Low) (max b.High c.High), 0) else bif [b, c].all (fun t => t.Kind == 0) then (zT, 0) else (zT, 9))
      rw [ifB ([b, c].all fun t => t.Kind == 0), ifB ([b, c].all fun t => t.Kind == 1), ifB (a.Kind != 0)]
def Nw : List Str → List A0 → Str → A0 × Int
  | n :: ns, t :: ts, nm => bif n == nm then (t, 0) else Nw ns ts nm
  | _, _, _ => (zT, 7)
def X10 (t : A0) (nm : Str) : A0 × Int := bif t.Kind != 3 then (zT, 9) else Nw t.Names t.Of nm
theorem P1o (t : A0) (nm : Str) (hl : t.Of.length = t.Names.length) (hb : t.Names.length ≤ BB) : ∀ (r : List Str) (i : Nat), t.Names.drop i = r → A4 t nm i = some (Nw r (t.Of.drop i) nm)
  | [], i, h => by
    rw [A4, (T2 h).1]
    rfl
  | x :: r, i, h => by
    obtain ⟨h1, h2, h3, h4, _⟩ := U4 h
    obtain ⟨y, g1, g2, _⟩ := Ms (l := t.Of) (k := i) (by omega)
    rw [A4, h1, h2, g2]
    simp only [if_true, ob, g1]
    rw [w1 (by omega), P1o t nm hl hb r (i + 1) h3]
    exact ifB _ _ _
theorem U1r (t : A0) (nm : Str) (hf : F6 t) : J7 t nm = some (X10 t nm) := by
  unfold J7 X10
  cases hk : t.Kind == 3 with
  | false =>
    have : (t.Kind != 3) = true := by simp [bne, hk]
    rw [this]; rfl
  | true =>
    have : (t.Kind != 3) = false := by simp [bne, hk]
    rw [this]
    obtain ⟨a, b, _⟩ := hf.recd hk
    exact P1o t nm b (by unfold BB; omega) t.Names 0 rfl
theorem P1b {nm : Str} : ∀ {ns : List Str} {ts : List A0}, (∀ t ∈ ts, F6 t) → (Nw ns ts nm).2 = 0 → F6 (Nw ns ts nm).1
  | [], _, _, h => by simp [Nw] at h
  | _ :: _, [], _, h => by simp [Nw] at h
  | n :: ns, t :: ts, hf, h => by
    simp only [Nw] at h ⊢
    cases hn : n == nm with
    | true => exact hf t List.mem_cons_self
    | false =>
      rw [hn] at h
      exact P1b (fun t ht => hf t (List.mem_cons_of_mem _ ht)) h
theorem F6.zT : F6 zT := ⟨rfl, rfl⟩
theorem F6.rng {t : A0} (h : F6 t) (hk : (t.Kind == 1) = true) : -1048576 ≤ t.Low ∧ t.Low ≤ t.High ∧ t.High ≤ 1048576 := by
  have hn := h.here.2
  simp only [Ji, Bool.and_eq_true] at hn
  have h2 := hn.2
  unfold nm2 V6 at h2
  rw [hk] at h2
  simp only [cond_true] at h2
  by_cases a : t.Low ≥ -1048576
  · by_cases b : t.Low ≤ 1048576
    · by_cases c : t.High ≥ t.Low
      · by_cases d : t.High ≤ 1048576
        · exact ⟨a, c, d⟩
        · simp [a, b, c, d] at h2
      · simp [a, b, c] at h2
    · simp [a, b] at h2
  · simp [a] at h2
theorem F6.nT {a b : Int} (h1 : -1048576 ≤ a) (h2 : a ≤ b) (h3 : b ≤ 1048576) : F6 (nT a b) := by
  refine ⟨?_, ?_⟩
  · rfl
  · rw [A0.all_eq]
    have : nm2 (Go.Proofs.YtdkabnfphmmmnaaGreatDoor.nT a b) = true := by
      show (bif V6 a (-1048576) 1048576 then V6 b a 1048576 else false) = true
      unfold V6
      rw [decide_eq_true (show a ≥ -1048576 by omega), decide_eq_true (show a ≤ 1048576 by omega), decide_eq_true (show b ≥ a by omega), decide_eq_true (show b ≤ 1048576 by omega)]
      rfl
    show (Ji (Go.Proofs.YtdkabnfphmmmnaaGreatDoor.nT a b) && true) = true
    simp only [Ji, this, Bool.and_true]
    rfl
theorem Y1h {a b : Int} (h : (Tj (nT a b)).2 = 0) : -1048576 ≤ a ∧ b ≤ 1048576 ∧ Tj (nT a b) = (nT a b, 0) := by
  unfold Tj at h ⊢
  have e : ((nT a b).Kind == 1) = true := rfl
  rw [e] at h ⊢
  simp only [cond_true] at h ⊢
  show _ ∧ _ ∧ (bif (bif decide (a < -1048576) then true else decide (b > 1048576)) then _ else _) = _
  change (bif (bif decide (a < -1048576) then true else decide (b > 1048576)) then ((zT, 3) : A0 × Int) else (nT a b, 0)).2 = 0 at h
  by_cases p : a < -1048576
  · simp [p] at h
  · by_cases q : b > 1048576
    · simp [p, q] at h
    · refine ⟨by omega, by omega, ?_⟩
      simp [p, q]
theorem W16 {a b : Int} (hab : a ≤ b) (h : (Tj (nT a b)).2 = 0) : F6 (Tj (nT a b)).1 := by
  obtain ⟨h1, h2, h3⟩ := Y1h h
  rw [h3]
  exact .nT h1 hab h2
theorem wis {n : Int} (h : -4611686018427387904 ≤ n) (h' : n ≤ 4611686018427387904) : wi n = n := wr h h'
theorem M1m {op : Int} {a b : A0} (ha : F6 a) (hb : F6 b) (ka : (a.Kind == 1) = true) (kb : (b.Kind == 1) = true) : ∃ lo hi, Yp op a b = nT lo hi ∧ lo ≤ hi := by
  obtain ⟨a1, a2, a3⟩ := ha.rng ka
  obtain ⟨b1, b2, b3⟩ := hb.rng kb
  unfold Yp
  cases op == 8
  case true => exact ⟨_, _, rfl, by rw [wis (by omega) (by omega), wis (by omega) (by omega)]; omega⟩
  cases op == 9
  case true => exact ⟨_, _, rfl, by rw [wis (by omega) (by omega), wis (by omega) (by omega)]; omega⟩
  cases op == 10
  case true => exact ⟨_, _, rfl, by omega⟩
  cases op == 11
  case true =>
    have e : wi (0 - a.Low) = -a.Low := by rw [wis (by omega) (by omega)]; omega
    simp only [cond_false, cond_true, e]
    by_cases p : a.Low ≥ 0
    · by_cases q : b.Low ≥ 0
      · rw [decide_eq_true p, decide_eq_true q]; exact ⟨_, _, rfl, by omega⟩
      · rw [decide_eq_true p, decide_eq_false q]; exact ⟨_, _, rfl, by rw [wis (by omega) (by omega)]; omega⟩
    · rw [decide_eq_false p]; exact ⟨_, _, rfl, by rw [wis (by omega) (by omega)]; omega⟩
  cases op == 12
  case true =>
    refine ⟨_, _, rfl, ?_⟩
    cases decide (b.Low < 0) <;> cases decide (b.High > 0) <;> simp only [cond_true, cond_false] <;> omega
  cases op == 21
  case true => exact ⟨_, _, rfl, by omega⟩
  exact ⟨_, _, rfl, by omega⟩
theorem L1q {op : Int} {k : List A0} (h : ar op = (k.length : Int)) (h6 : 6 ≤ op) (hk : ∀ t ∈ k, F6 t) (h0 : (opT op k).2 = 0) : F6 (opT op k).1 := by
  have zf : ∀ (c : Bool) {x : A0 × Int}, (x.2 = 0 → F6 x.1) → (bif c then x else ((zT, 9) : A0 × Int)).2 = 0 → F6 (bif c then x else ((zT, 9) : A0 × Int)).1 := fun c x hx hc => by
    cases c with
    | true => exact hx hc
    | false => exact absurd hc (by simp)
  unfold opT at h0 ⊢
  rcases O1o h h6 with ⟨hn, rfl | rfl⟩ | ⟨hn, h8, h22⟩ | ⟨hn, rfl⟩
  · match k, hn, hk with
    | [a], _, hk =>
      simp only [show ((6 : Int) == 6) = true from rfl, cond_true, List.getD_cons_zero] at h0 ⊢
      cases ha : a.Kind == 1 with
      | false => simp [ha] at h0
      | true =>
        obtain ⟨a1, a2, a3⟩ := (hk a List.mem_cons_self).rng ha
        simp only [List.all_cons, List.all_nil, ha, Bool.and_true, cond_true] at h0 ⊢
        exact W16 (by rw [wis (by omega) (by omega), wis (by omega) (by omega)]; omega) h0
  · simp only [show ((7 : Int) == 6) = false from rfl, show ((7 : Int) == 7) = true from rfl, cond_true, cond_false, Bool.true_or] at h0 ⊢
    exact zf _ (fun _ => .zT) h0
  · match k, hn, hk with
    | [a, b], _, hk =>
      rw [show (op == 6) = false from beq_eq_false_iff_ne.2 (by omega), show (op == 23) = false from beq_eq_false_iff_ne.2 (by omega)] at h0 ⊢
      simp only [cond_false] at h0 ⊢
      cases c1 : (op == 7 || op == 19 || op == 20) with
      | true => rw [c1] at h0; simp only [cond_true] at h0 ⊢; exact zf _ (fun _ => .zT) h0
      | false =>
        rw [c1] at h0
        simp only [cond_false] at h0 ⊢
        cases c2 : (op == 13 || op == 14) with
        | true => rw [c2] at h0; simp only [cond_true] at h0 ⊢; exact zf _ (fun _ => .zT) h0
        | false =>
          rw [c2] at h0
          simp only [cond_false] at h0 ⊢
          cases c3 : (op == 15 || op == 16 || op == 17 || op == 18) with
          | true => rw [c3] at h0; simp only [cond_true] at h0 ⊢; exact zf _ (fun _ => .zT) h0
          | false =>
            rw [c3] at h0
            simp only [cond_false, List.all_cons, List.all_nil, Bool.and_true] at h0 ⊢
            cases ha : a.Kind == 1 with
            | false => rw [ha] at h0; exact absurd h0 (by simp)
            | true =>
              cases hb : b.Kind == 1 with
              | false => rw [ha, hb] at h0; exact absurd h0 (by simp)
              | true =>
                rw [ha, hb] at h0
                obtain ⟨lo, hi, e, hle⟩ := M1m (op := op) (hk a List.mem_cons_self) (hk b (List.mem_cons_of_mem _ List.mem_cons_self)) ha hb
                simp only [Bool.and_self, cond_true, List.getD_cons_zero, List.getD_cons_succ, e] at h0 ⊢
                exact W16 hle h0
  · match k, hn, hk with
    | [a, b, c], _, hk =>
      change (bif a.Kind != 0 then ((zT, 9) : A0 × Int) else bif [b, c].all (fun t => t.Kind == 1) then (nT (min b.Low c.Low) (max b.High c.High), 0) else bif [b, c].all (fun t => t.Kind == 0) then (zT, 0) else (zT, 9)).2 = 0 at h0
      show F6 (bif a.Kind != 0 then ((zT, 9) : A0 × Int) else bif [b, c].all (fun t => t.Kind == 1) then (nT (min b.Low c.Low) (max b.High c.High), 0) else bif [b, c].all (fun t => t.Kind == 0) then (zT, 0) else (zT, 9)).1
      cases h1 : a.Kind != 0 with
      | true => rw [h1] at h0; exact absurd h0 (by simp)
      | false =>
        rw [h1] at h0
        simp only [cond_false] at h0 ⊢
        cases h2 : [b, c].all (fun t => t.Kind == 1) with
        | true =>
          simp only [List.all_cons, List.all_nil, Bool.and_true, Bool.and_eq_true] at h2
          obtain ⟨b1, b2, b3⟩ := (hk b (List.mem_cons_of_mem _ List.mem_cons_self)).rng h2.1
          obtain ⟨c1, c2, c3⟩ := (hk c (List.mem_cons_of_mem _ (List.mem_cons_of_mem _ List.mem_cons_self))).rng h2.2
          exact .nT (by omega) (by omega) (by omega)
        | false =>
          rw [h2] at h0
          exact zf _ (fun _ => .zT) h0
def Fu (σ : Str → Option J0) (o n : Int) (s : Str) (k : List A0) : A0 × Int :=
  bif o == 0 then Tj (nT n n)
  else bif (o == 1 || o == 2) then (zT, 0)
  else bif o == 3 then (match σ s with | some v => (v.typ, 0) | none => (zT, 7))
  else bif o == 4 then X10 (k.getD 0 zT) s
  else bif o == 5 then (bif (bif (k.getD 0 zT).Kind != 2 then true else (k.getD 1 zT).Kind != 1) then (zT, 9) else ((k.getD 0 zT).Of.getD 0 zT, 0))
  else opT o k
mutual
def C0.ty (σ : Str → Option J0) : C0 → A0 × Int
  | .mk o n s ks => bif (C0.tys σ ks).2 != 0 then (zT, (C0.tys σ ks).2) else Fu σ o n s (C0.tys σ ks).1
def C0.tys (σ : Str → Option J0) : List C0 → List A0 × Int
  | [] => ([], 0)
  | x :: r => bif (C0.ty σ x).2 != 0 then ([], (C0.ty σ x).2) else bif (C0.tys σ r).2 != 0 then ([], (C0.tys σ r).2) else ((C0.ty σ x).1 :: (C0.tys σ r).1, 0)
end
theorem C0.ty_eq (σ : Str → Option J0) (e : C0) : e.ty σ = bif (C0.tys σ e.Kids).2 != 0 then (zT, (C0.tys σ e.Kids).2) else Fu σ e.Op e.NV e.Name (C0.tys σ e.Kids).1 := by cases e; simp only [C0.ty]
theorem R1k (σ : Str → Option J0) : ∀ l : List C0, (C0.tys σ l).2 = 0 → (C0.tys σ l).1.length = l.length
  | [], _ => rfl
  | x :: r, h => by
    simp only [C0.tys] at h ⊢
    cases h1 : (C0.ty σ x).2 != 0 with
    | true => rw [h1] at h; simp only [cond_true] at h; rw [h] at h1; exact absurd h1 (by simp)
    | false =>
      rw [h1] at h
      simp only [cond_false] at h ⊢
      cases h2 : (C0.tys σ r).2 != 0 with
      | true => rw [h2] at h; simp only [cond_true] at h; rw [h] at h2; exact absurd h2 (by simp)
      | false =>
        simp only [cond_false, List.length_cons]
        rw [R1k σ r (by simpa using h2)]
theorem Z1h {σ : Str → Option J0} : ∀ {l : List C0}, (∀ x ∈ l, (x.ty σ).2 = 0 → F6 (x.ty σ).1) → ∀ t ∈ (C0.tys σ l).1, F6 t
  | [], _, t, ht => by simp [C0.tys] at ht
  | x :: r, hx, t, ht => by
    simp only [C0.tys] at ht
    cases h1 : (C0.ty σ x).2 != 0 with
    | true => rw [h1] at ht; simp at ht
    | false =>
      rw [h1] at ht
      simp only [cond_false] at ht
      cases h2 : (C0.tys σ r).2 != 0 with
      | true => rw [h2] at ht; simp at ht
      | false =>
        rw [h2] at ht
        simp only [cond_false, List.mem_cons] at ht
        rcases ht with rfl | ht
        · exact hx x List.mem_cons_self (by simpa using h1)
        · exact Z1h (fun y hy => hx y (List.mem_cons_of_mem _ hy)) t ht
def SF (σ : Str → Option J0) : Prop := ∀ nm v, σ nm = some v → F6 v.typ
theorem A1i {o : Int} {n : Nat} (h : ar o = n) (h6 : o < 6) : (n = 0 ∧ (o = 0 ∨ o = 1 ∨ o = 2 ∨ o = 3)) ∨ (n = 1 ∧ o = 4) ∨ (n = 2 ∧ o = 5) := by
  unfold ar at h
  by_cases a0 : o = 0
  · subst a0; simp at h; omega
  by_cases a1 : o = 1
  · subst a1; simp at h; omega
  by_cases a2 : o = 2
  · subst a2; simp at h; omega
  by_cases a3 : o = 3
  · subst a3; simp at h; omega
  by_cases a4 : o = 4
  · subst a4; simp at h; omega
  by_cases a5 : o = 5
  · subst a5; simp at h; omega
  rw [beq_eq_false_iff_ne.2 a0, beq_eq_false_iff_ne.2 a1, beq_eq_false_iff_ne.2 a2, beq_eq_false_iff_ne.2 a3, beq_eq_false_iff_ne.2 a4, beq_eq_false_iff_ne.2 a5,
    beq_eq_false_iff_ne.2 (show o ≠ 6 by omega), beq_eq_false_iff_ne.2 (show o ≠ 7 by omega), decide_eq_false (show ¬ o ≥ 8 by omega), beq_eq_false_iff_ne.2 (show o ≠ 23 by omega)] at h
  simp only [cond_false] at h
  omega
theorem N1m {σ : Str → Option J0} (hσ : SF σ) {o n : Int} {s : Str} {k : List A0} (h : ar o = (k.length : Int)) (hk : ∀ t ∈ k, F6 t) (h0 : (Fu σ o n s k).2 = 0) : F6 (Fu σ o n s k).1 := by
  by_cases h6 : o < 6
  · rcases A1i h h6 with ⟨hn, rfl | rfl | rfl | rfl⟩ | ⟨hn, rfl⟩ | ⟨hn, rfl⟩
    · exact W16 (Int.le_refl _) h0
    · exact .zT
    · exact .zT
    · change (match σ s with | some v => (v.typ, (0 : Int)) | none => (zT, 7)).2 = 0 at h0
      show F6 (match σ s with | some v => (v.typ, (0 : Int)) | none => (zT, 7)).1
      cases hs : σ s with
      | none => rw [hs] at h0; exact absurd h0 (by simp)
      | some v => exact hσ s v hs
    · match k, hn, hk with
      | [a], _, hk =>
        change (X10 a s).2 = 0 at h0
        show F6 (X10 a s).1
        have ha := hk a List.mem_cons_self
        unfold X10 at h0 ⊢
        cases h1 : a.Kind != 3 with
        | true => rw [h1] at h0; exact absurd h0 (by simp)
        | false =>
          rw [h1] at h0
          exact P1b (fun t ht => ha.kid ht) h0
    · match k, hn, hk with
      | [a, b], _, hk =>
        change (bif (bif a.Kind != 2 then true else b.Kind != 1) then ((zT, 9) : A0 × Int) else (a.Of.getD 0 zT, 0)).2 = 0 at h0
        show F6 (bif (bif a.Kind != 2 then true else b.Kind != 1) then ((zT, 9) : A0 × Int) else (a.Of.getD 0 zT, 0)).1
        have ha := hk a List.mem_cons_self
        cases h1 : a.Kind != 2 with
        | true => rw [h1] at h0; exact absurd h0 (by simp)
        | false =>
          rw [h1] at h0
          obtain ⟨x, hx, _, _⟩ := ha.arr (by simpa [bne] using h1)
          cases h2 : b.Kind != 1 with
          | true => rw [h2] at h0; exact absurd h0 (by simp)
          | false =>
            simp only [cond_false, hx, List.getD_cons_zero]
            exact ha.kid (by rw [hx]; exact List.mem_cons_self)
  · unfold Fu at h0 ⊢
    rw [beq_eq_false_iff_ne.2 (show o ≠ 0 by omega), beq_eq_false_iff_ne.2 (show o ≠ 1 by omega), beq_eq_false_iff_ne.2 (show o ≠ 2 by omega), beq_eq_false_iff_ne.2 (show o ≠ 3 by omega), beq_eq_false_iff_ne.2 (show o ≠ 4 by omega), beq_eq_false_iff_ne.2 (show o ≠ 5 by omega)] at h0 ⊢
    exact L1q h (by omega) hk h0
theorem V1r (s : Option I0) (e : C0) (k : List A0) (h : ar e.Op = (k.length : Int)) (hk : ∀ t ∈ k, F6 t) :
    (if (e.Op == 0) = true then W2 e.NV e.NV >>= fun x2 => X8 x2 >>= fun x3 => some (x3.1, x3.2) else if (e.Op == 1) = true then U8 s e k (e.Op == 1) else U8 s e k (e.Op == 2)) =
      some (Fu (fun nm => lkO nm s) e.Op e.NV e.Name k) := by
  have tl : ∀ v, U8 s e k v = if v = true then some (zT, 0) else (if (e.Op == 3) = true then (M5 s e.Name >>= fun x4 => if (!x4.2) = true then some (zT, 7) else some (x4.1.typ, 0)) else
      if (e.Op == 4) = true then (idx k 0 >>= fun x5 => J7 x5 e.Name >>= fun x6 => some (x6.1, x6.2)) else
      if (e.Op == 5) = true then (idx k 0 >>= fun x7 => (if (!(x7.Kind != 2)) = true then idx k 1 else some default) >>= fun x8 => if (bif (x7.Kind != 2) then true else (x8.Kind != 1)) = true then some (zT, 9) else (idx k 0 >>= fun x9 => idx x9.Of 0 >>= fun x10 => some (x10, 0))) else
      (R8 e.Op k >>= fun x11 => some (x11.1, x11.2))) := fun v => rfl
  unfold Fu
  simp only [D13, ob, V16, tl, U16]
  by_cases h6 : e.Op < 6
  · rcases A1i h h6 with ⟨hn, ho | ho | ho | ho⟩ | ⟨hn, ho⟩ | ⟨hn, ho⟩
    · rw [ho]; rfl
    · rw [ho]; rfl
    · rw [ho]; rfl
    · rw [ho]
      show (if (!(H14 s e.Name).2) = true then some ((zT, 7) : A0 × Int) else some ((H14 s e.Name).1.typ, 0)) = some (match lkO e.Name s with | some v => (v.typ, 0) | none => (zT, 7))
      unfold H14
      cases lkO e.Name s <;> rfl
    · rw [ho]
      match k, hn, hk with
      | [a], _, hk =>
        show (J7 a e.Name >>= fun x6 => some (x6.1, x6.2)) = some (X10 a e.Name)
        rw [U1r a e.Name (hk a List.mem_cons_self)]
        rfl
    · rw [ho]
      match k, hn, hk with
      | [a, b], _, hk =>
        have ha := hk a List.mem_cons_self
        show ((if (!(a.Kind != 2)) = true then some b else some default) >>= fun x8 => if (bif (a.Kind != 2) then true else (x8.Kind != 1)) = true then some ((zT, 9) : A0 × Int) else (idx a.Of 0 >>= fun x10 => some (x10, 0))) = some (bif (bif a.Kind != 2 then true else b.Kind != 1) then (zT, 9) else (a.Of.getD 0 zT, 0))
        cases h1 : a.Kind != 2 with
        | true => rfl
        | false =>
          obtain ⟨x, hx, _, _⟩ := ha.arr (by simpa [bne] using h1)
          rw [hx]
          simp only [Bool.not_false, if_true, ob, cond_false]
          cases h2 : b.Kind != 1 <;> rfl
  · have f : ∀ n : Int, n < 6 → (e.Op == n) = false := fun n hn => beq_eq_false_iff_ne.2 (by omega)
    rw [f 0 (by omega), f 1 (by omega), f 2 (by omega), f 3 (by omega), f 4 (by omega), f 5 (by omega), X1h e.Op k h (by omega)]
    rfl
theorem Q1o (s : Option I0) (e : C0) (ho : OkE e) (hf : G9 e = true)
    (ih : ∀ x ∈ e.Kids, W3 s x = some (x.ty fun nm => lkO nm s) ∧ ((x.ty fun nm => lkO nm s).2 = 0 → F6 (x.ty fun nm => lkO nm s).1)) :
    ∀ (r : List C0) (i : Nat) (k : List A0), e.Kids.drop i = r → k.length = i ∧ i ≤ e.Kids.length → (∀ t ∈ k, F6 t) →
      P7 s e k i = some (bif (C0.tys (fun nm => lkO nm s) r).2 != 0 then (zT, (C0.tys (fun nm => lkO nm s) r).2) else Fu (fun nm => lkO nm s) e.Op e.NV e.Name (k ++ (C0.tys (fun nm => lkO nm s) r).1))
  | [], i, k, h, hi, hk => by
    obtain ⟨h1, h2⟩ := T2 h
    rw [P7, h1]
    have hl : k.length = e.Kids.length := by omega
    have har : ar e.Op = (k.length : Int) := by
      simp only [G9, Bool.and_eq_true] at hf
      have := hf.1.1.1
      unfold ef1 at this
      rw [hl]
      simpa using this
    simp only [Bool.false_eq_true, if_false, C0.tys, List.append_nil]
    exact V1r s e k har hk
  | x :: r, i, k, h, hi, hk => by
    obtain ⟨h1, h2, h3, h4, h5⟩ := U4 h
    obtain ⟨i1, i2⟩ := ih x h5
    have hb := ho.kids
    rw [P7, h1, h2]
    simp only [if_true, ob, i1, C0.tys]
    cases hc : (x.ty fun nm => lkO nm s).2 != 0 with
    | true => simp only [if_true, cond_true, hc]
    | false =>
      have hz : (x.ty fun nm => lkO nm s).2 = 0 := by simpa using hc
      rw [decide_eq_true (show (k.length + 1) * 97 ≤ 140737488355328 by unfold BB at hb; omega)]
      simp only [Bool.false_eq_true, if_false, if_true, cond_false]
      rw [w1 (by omega), Q1o s e ho hf ih r (i + 1) (k ++ [(x.ty fun nm => lkO nm s).1]) h3 ⟨by simp [hi.1], by omega⟩ (fun t ht => by
        rcases List.mem_append.1 ht with ht | ht
        · exact hk t ht
        · simp at ht; subst ht; exact i2 hz)]
      cases h2 : (C0.tys (fun nm => lkO nm s) r).2 != 0 with
      | true => simp only [cond_true, h2]
      | false => simp only [cond_false, List.append_assoc, List.singleton_append]; rfl
theorem Z1c (s : Option I0) (hs : SF fun nm => lkO nm s) (e : C0) : OkE e → e.all G9 = true → W3 s e = some (e.ty fun nm => lkO nm s) ∧ ((e.ty fun nm => lkO nm s).2 = 0 → F6 (e.ty fun nm => lkO nm s).1) := by
  refine C0.ind (P := fun e => OkE e → e.all G9 = true → W3 s e = some (e.ty fun nm => lkO nm s) ∧ ((e.ty fun nm => lkO nm s).2 = 0 → F6 (e.ty fun nm => lkO nm s).1)) ?_ e
  intro e ih ho hf
  rw [C0.all_eq, Bool.and_eq_true] at hf
  have ih' : ∀ x ∈ e.Kids, W3 s x = some (x.ty fun nm => lkO nm s) ∧ ((x.ty fun nm => lkO nm s).2 = 0 → F6 (x.ty fun nm => lkO nm s).1) := fun x hx => ih x hx (ho.kid hx) (C0.alls_mem hf.2 hx)
  have hb := ho.kids
  refine ⟨?_, fun h0 => ?_⟩
  · rw [W3, decide_eq_true (show 0 ≤ ((e.Kids.length : Nat) : Int) ∧ ((e.Kids.length : Nat) : Int).toNat * 97 ≤ 140737488355328 by unfold BB at hb; rw [Int.toNat_natCast]; omega), if_pos rfl]
    have := Q1o s e ho hf.1 ih' e.Kids 0 [] rfl ⟨rfl, Nat.zero_le _⟩ (fun t ht => by cases ht)
    rw [C0.ty_eq]
    exact this
  · rw [C0.ty_eq] at h0 ⊢
    cases hc : (C0.tys (fun nm => lkO nm s) e.Kids).2 != 0 with
    | true => rw [hc] at h0; simp only [cond_true] at h0; rw [h0] at hc; exact absurd hc (by simp)
    | false =>
      rw [hc] at h0
      simp only [cond_false] at h0 ⊢
      refine N1m hs ?_ (Z1h fun x hx => (ih' x hx).2) h0
      rw [R1k _ _ (by simpa using hc)]
      have := hf.1
      simp only [G9, Bool.and_eq_true] at this
      simpa [ef1] using this.1.1.1
end Go.Proofs.YtdkabnfphmmmnaaGreatDoor

set_option linter.unusedSimpArgs false
set_option linter.unusedVariables false
namespace Go.Proofs.YtdkabnfphmmmnaaGreatDoor
open Go.Am
def Tot {α : Type} (x : Option α) : Prop := ∃ r, x = some r
theorem Tot.mk {α : Type} (r : α) : Tot (some r) := ⟨r, rfl⟩
theorem Tot.bnd {α β : Type} {x : Option α} {f : α → Option β} (h : Tot x) (hf : ∀ r, x = some r → Tot (f r)) : Tot (x >>= f) := by
  obtain ⟨r, hr⟩ := h
  rw [hr]
  exact hf r hr
theorem Tot.ite {α : Type} {c : Bool} {X Y : Option α} (hx : c = true → Tot X) (hy : c = false → Tot Y) : Tot (if c = true then X else Y) := by
  cases c with
  | true => exact hx rfl
  | false => exact hy rfl
theorem okz : Ok zT := by unfold Ok; simp only [A0.bulk_eq, A0.bulks, BB]; decide
theorem okn (a b : Int) : Ok (nT a b) := by unfold Ok nT; simp only [A0.bulk_eq, A0.bulks, BB]; decide
def FO (t : A0) : Prop := F6 t ∧ Ok t
theorem FO.z : FO zT := ⟨.zT, okz⟩
theorem W1r {m : List (Str × A0)} (hm : MOk m) {t : A0} (hb : t.bulk ≤ 1048576) : FO (Co m t).1 := by
  by_cases h : (Co m t).2 = 0
  · have := (W1h hm hb h).1.val
    exact ⟨this.fine, this.ok⟩
  · have : (Co m t).1 = zT := by
      unfold Co at h ⊢
      cases hc : Bf t != 0 with
      | true => rfl
      | false =>
        rw [hc] at h
        simp only [cond_false] at h ⊢
        cases hx : t.rp m with
        | none => rfl
        | some x =>
          rw [hx] at h
          simp only at h ⊢
          cases h2 : x.some Bu with
          | true => rfl
          | false =>
            rw [h2] at h
            simp only [cond_false] at h ⊢
            cases h3 : (decide ((x.depth : Int) > 12) || decide (x.cnt > 32)) with
            | true => rfl
            | false => rw [h3] at h; exact absurd rfl h
    rw [this]
    exact .z
theorem Gu {ds : List E0} (hd : DOk ds) {t : A0} (ht : t.bulk ≤ 1048576) : FO (Nm ds t).1 := by
  unfold Nm O1b
  cases (Q11 ds []).2 != 0 with
  | true => exact .z
  | false => exact W1r (Y1c (ds := ds) ds [] (fun d h => (hd.2 d h).1) .nil).1 ht
theorem DOk.take {ds : List E0} (h : DOk ds) (i : Nat) : DOk (ds.take i) := ⟨by have := h.1; simp; omega, fun d hd => h.2 d (List.mem_of_mem_take hd)⟩
structure CkP (p : N0) : Prop where
  okp : OkP p
  dok : DOk p.Decls
  small : ∀ d ∈ p.Decls, d.TypeV.bulk ≤ 1048576 ∧ (∀ v ∈ d.Params, v.TypeV.bulk ≤ 1048576) ∧ (∀ v ∈ d.Vars, v.TypeV.bulk ≤ 1048576)
  dform : E0.alls dform p.Decls = true
  sform : F0.alls sform p.Body = true
  dnumb : E0.alls dnumb p.Decls = true
  snumb : F0.alls snumb p.Body = true
theorem B1i {n d : Int} {f m u : Bool} (h : Mg n d f m u = 0) : f = false ∧ u = false := by
  unfold Mg at h
  generalize (bif decide (n > 1024) then true else decide (d > 12)) = q at h
  cases q <;> cases f <;> cases m <;> cases u <;> simp at h ⊢
theorem CkP.of {p : N0} (hb : p.bulk ≤ 1048576) (hc : T16 p = 0) : CkP p := by
  have hz := B1i hc
  simp only [Bool.not_eq_false', Bool.and_eq_true] at hz
  obtain ⟨⟨f1, f2⟩, u1, u2⟩ := hz
  have hbd : E0.bulks p.Decls ≤ 1048576 := by cases p; simp only [N0.bulk] at hb; simp only; omega
  have sm : ∀ {l : List E0} {d : E0}, d ∈ l → E0.bulks l ≤ 1048576 → d.TypeV.bulk ≤ 1048576 ∧ d.Name.length ≤ 1048576 ∧ E0.bulks d.Params ≤ 1048576 ∧ E0.bulks d.Vars ≤ 1048576 := fun {l d} hd hl => by
    have h1 := E0.bulk_mem hd
    have h2 := E0.bulk_eq d
    omega
  refine ⟨M1h hb, ⟨by have := E0.bulk_len p.Decls; omega, fun d hd => ?_⟩, fun d hd => ?_, f1, f2, u1, u2⟩
  · have := sm hd hbd
    exact ⟨this.1, by unfold BB; omega⟩
  · have := sm hd hbd
    exact ⟨this.1, fun v hv => (sm hv this.2.2.1).1, fun v hv => (sm hv this.2.2.2).1⟩
theorem CkP.dec {p : N0} (h : CkP p) {d : E0} (hd : d ∈ p.Decls) : Go.Proofs.YtdkabnfphmmmnaaGreatDoor.dform d = true ∧ Go.Proofs.YtdkabnfphmmmnaaGreatDoor.dnumb d = true := by
  have key : ∀ {q : E0 → Bool} {l : List E0}, E0.alls q l = true → d ∈ l → q d = true := by
    intro q l
    induction l with
    | nil => intro _ hm; cases hm
    | cons x r ih =>
      intro ha hm
      simp only [E0.alls, Bool.and_eq_true] at ha
      cases hm with
      | head => rw [E0.all_eq, Bool.and_eq_true] at ha; exact ha.1.1
      | tail _ hm => exact ih ha.2 hm
  exact ⟨key h.dform hd, key h.dnumb hd⟩
theorem R19 {c : D0} (h : CkP c.p) {i : Nat} (hi : i ≤ c.p.Decls.length) {t : A0} (ht : t.bulk ≤ 1048576) : P4 c t i = some (Nm (c.p.Decls.take i) t) := by
  unfold P4
  rw [I1m hi, ob, M1o _ (h.dok.take i) t ht]
  rfl
theorem Hu {c : D0} (h : CkP c.p) {i : Nat} (hi : i ≤ c.p.Decls.length) {t : A0} (ht : t.bulk ≤ 1048576) : S2 c t i = some (Nm (c.p.Decls.take i) t).1 := by
  unfold S2
  rw [R19 h hi ht]
  rfl
def SO (s : Option I0) : Prop := ∀ nm v, lkO nm s = some v → FO v.typ
theorem SO.f {s : Option I0} (h : SO s) : SF fun nm => lkO nm s := fun nm v e => (h nm v e).1
def MF (m : List (Str × J0)) : Prop := ∀ q ∈ m, FO q.2.typ
theorem R1o {α : Type} {k : Str} {x : α} : ∀ {m : List (Str × α)}, mgt k m = some x → ∃ k', (k', x) ∈ m
  | [], h => by cases h
  | (k', y) :: r, h => by
    simp only [mgt] at h
    cases hk : k == k' with
    | true => rw [hk] at h; cases h; exact ⟨k', List.mem_cons_self⟩
    | false => rw [hk] at h; obtain ⟨q, hq⟩ := R1o h; exact ⟨q, List.mem_cons_of_mem _ hq⟩
theorem MF.put {m : List (Str × J0)} (h : MF m) (k : Str) {x : J0} (hx : FO x.typ) : MF (mpt k x m) := by
  induction m with
  | nil => intro q hq; simp [mpt] at hq; subst hq; exact hx
  | cons p r ih =>
    obtain ⟨k', y⟩ := p
    intro q hq
    simp only [mpt] at hq
    cases hk : k == k' with
    | true =>
      rw [hk] at hq
      rcases List.mem_cons.1 hq with rfl | hq
      · exact hx
      · exact h q (List.mem_cons_of_mem _ hq)
    | false =>
      rw [hk] at hq
      rcases List.mem_cons.1 hq with rfl | hq
      · exact h _ List.mem_cons_self
      · exact ih (fun q hq => h q (List.mem_cons_of_mem _ hq)) q hq
theorem SO.ext {s : Option I0} (h : SO s) {m : List (Str × J0)} (hm : MF m) : SO (some (.mk s m)) := by
  intro nm v e
  simp only [lkO, I0.find] at e
  cases hg : mgt nm m with
  | some y => rw [hg] at e; cases e; obtain ⟨k', hk⟩ := R1o hg; exact hm _ hk
  | none => rw [hg] at e; exact h nm v e
theorem SO.none : SO none := fun nm v e => by simp [lkO] at e
theorem C1i {nm : Str} : ∀ {ns : List Str} {ts : List A0}, (∀ t ∈ ts, Ok t) → Ok (Nw ns ts nm).1
  | [], _, _ => okz
  | _ :: _, [], _ => okz
  | n :: ns, t :: ts, hf => by
    simp only [Nw]
    cases n == nm with
    | true => exact hf t List.mem_cons_self
    | false => exact C1i fun t ht => hf t (List.mem_cons_of_mem _ ht)
theorem S1o (op : Int) (a b : A0) : ∃ lo hi, Yp op a b = nT lo hi := by
  unfold Yp
  cases op == 8 <;> cases op == 9 <;> cases op == 10 <;> cases op == 11 <;> cases op == 12 <;> cases op == 21 <;> cases (bif decide (a.Low ≥ 0) then decide (b.Low ≥ 0) else false) <;> exact ⟨_, _, rfl⟩
theorem S19 (a b : Int) : Ok (Tj (nT a b)).1 := by
  unfold Tj
  cases (bif (nT a b).Kind == 1 then (bif decide ((nT a b).Low < (-1048576)) then true else decide ((nT a b).High > 1048576)) else false) with
  | true => exact okz
  | false => exact okn _ _
theorem Gd {c : Bool} {x y : A0 × Int} (hx : Ok x.1) (hy : Ok y.1) : Ok (bif c then x else y).1 := by cases c; exact hy; exact hx
theorem O1s (op : Int) (k : List A0) : Ok (opT op k).1 := by
  obtain ⟨lo, hi, e⟩ := S1o op (k.getD 0 zT) (k.getD 1 zT)
  unfold opT
  rw [e]
  refine Gd (Gd (S19 _ _) okz) (Gd (Gd okz okz) (Gd (Gd okz okz) (Gd (Gd okz okz) (Gd (Gd okz (Gd (okn _ _) (Gd okz okz))) (Gd (S19 _ _) okz)))))
theorem S1k {l : List A0} (h : ∀ t ∈ l, Ok t) (i : Nat) : Ok (l.getD i zT) := by
  unfold List.getD
  cases hx : l[i]? with
  | none => exact okz
  | some x => exact h x (List.mem_of_getElem? hx)
theorem M1q {σ : Str → Option J0} (hσ : ∀ nm v, σ nm = some v → Ok v.typ) (o n : Int) (s : Str) {k : List A0} (hk : ∀ t ∈ k, Ok t) : Ok (Fu σ o n s k).1 := by
  have hk0 := S1k hk 0
  unfold Fu
  refine Gd (S19 _ _) (Gd okz (Gd ?_ (Gd ?_ (Gd (Gd okz ?_) (O1s _ _)))))
  · cases hs : σ s with
    | none => exact okz
    | some v => exact hσ s v hs
  · unfold X10
    exact Gd okz (C1i fun t ht => hk0.kid ht)
  · exact S1k (fun t ht => hk0.kid ht) 0
mutual
theorem E1r {σ : Str → Option J0} (hσ : ∀ nm v, σ nm = some v → Ok v.typ) : ∀ e : C0, Ok (e.ty σ).1
  | .mk o n s ks => by
    simp only [C0.ty]
    exact Gd okz (M1q hσ o n s (T1o hσ ks))
theorem T1o {σ : Str → Option J0} (hσ : ∀ nm v, σ nm = some v → Ok v.typ) : ∀ (l : List C0), ∀ t ∈ (C0.tys σ l).1, Ok t
  | [], t, ht => by simp [C0.tys] at ht
  | x :: r, t, ht => by
    have h1 := E1r hσ x
    have h2 := T1o hσ r
    simp only [C0.tys] at ht
    cases c1 : (C0.ty σ x).2 != 0 with
    | true => rw [c1] at ht; simp at ht
    | false =>
      rw [c1] at ht
      simp only [cond_false] at ht
      cases c2 : (C0.tys σ r).2 != 0 with
      | true => rw [c2] at ht; simp at ht
      | false =>
        rw [c2] at ht
        simp only [cond_false, List.mem_cons] at ht
        rcases ht with rfl | ht
        · exact h1
        · exact h2 t ht
end
abbrev tyS (s : Option I0) (e : C0) : A0 × Int := e.ty fun nm => lkO nm s
theorem U1o {s : Option I0} (h : SO s) (e : C0) : Ok (tyS s e).1 := E1r (fun nm v hv => (h nm v hv).2) e
theorem X16 {s : Option I0} (h : SO s) {e : C0} (ho : OkE e) (hf : e.all G9 = true) : W3 s e = some (tyS s e) := (Z1c s h.f e ho hf).1
def scT (t : A0) : Bool := bif t.Kind == 0 then true else t.Kind == 1
def N1q (a b : A0) (place : Bool) : Bool := bif (bif scT a then true else scT b) then a.Kind == b.Kind else (bif place then a.same b else false)
theorem D1i {a : A0} (ha : Ok a) (b : A0) (place : Bool) : N6 a b place = some (N1q a b place) := by
  unfold N6 N1q
  rw [show D7 a = some (scT a) from rfl, ob]
  cases scT a with
  | true => rfl
  | false =>
    rw [show (if (!false) = true then D7 b else some default) = some (scT b) from rfl, ob]
    cases scT b with
    | true => rfl
    | false =>
      cases place with
      | false => rfl
      | true =>
        simp only [cond_false, Bool.false_eq_true, if_false, if_true]
        rw [G1q a ha b]
        rfl
def plE (e : C0) : Bool := bif (bif (e.Op == 3) then true else (e.Op == 4)) then true else (e.Op == 5)
def P1s (s : Option I0) (e : C0) (to : A0) : Int := bif (bif (tyS s e).2 == 0 then !N1q (tyS s e).1 to (plE e) else false) then 9 else (tyS s e).2
theorem Q1b {s : Option I0} (h : SO s) {e : C0} (ho : OkE e) (hf : e.all G9 = true) (to : A0) : E9 s e to = some (P1s s e to) := by
  unfold E9 P1s
  rw [X16 h ho hf, ob]
  cases hc : (tyS s e).2 == 0 with
  | false => rfl
  | true =>
    rw [show (if true = true then Df e else some default) = some (plE e) from rfl, ob, if_pos rfl, D1i (U1o h e), ob]
    exact ifB _ _ _
theorem O1q (e : C0) : Tot (E6 e) := by
  induction e using C0.ind with
  | h e ih =>
  rw [E6]
  refine .ite (fun hc => ?_) (fun _ => .mk _)
  cases hk : e.Kids with
  | nil => rw [hk] at hc; cases h3 : (e.Op != 3) <;> rw [h3] at hc <;> simp at hc
  | cons x r =>
    rw [show idx (x :: r) 0 = some x from rfl, ob]
    exact ih x (by rw [hk]; exact List.mem_cons_self)
theorem R11 {s : Option I0} (h : SO s) {e : C0} (ho : OkE e) (hf : e.all G9 = true) :
    ∃ r, S9 s e = some r ∧ Ok r.1 ∧ (r.2 = 0 → (tyS s e).2 = 0 ∧ r.1 = (tyS s e).1) := by
  unfold S9
  rw [X16 h ho hf, ob]
  cases hc : (tyS s e).2 != 0 with
  | true => exact ⟨_, rfl, okz, fun h0 => by simp only at h0; rw [h0] at hc; exact absurd hc (by simp)⟩
  | false =>
    obtain ⟨nm, hr⟩ := O1q e
    rw [if_neg (by simp), show Ri e = E6 e from rfl, hr, ob, U16, ob]
    cases (H14 s nm).1.fixed with
    | true => exact ⟨_, rfl, okz, fun h0 => by simp at h0⟩
    | false => exact ⟨_, rfl, U1o h e, fun _ => ⟨by simpa using hc, rfl⟩⟩
theorem V1o (kind : Int) (name : Str) (l : List E0) (hl : l.length ≤ BB) : ∀ (r : List E0) (k : Nat), l.drop k = r → ∃ x, Z2 kind name l k = some x ∧ (x < 0 ∨ ∃ j : Nat, x = j ∧ j < l.length)
  | [], k, h => by
    rw [Z2, (T2 h).1]
    exact ⟨_, rfl, .inl (by decide)⟩
  | d :: r, k, h => by
    obtain ⟨h1, h2, h3, h4, _⟩ := U4 h
    rw [Z2, h1, h2]
    simp only [if_true, ob]
    cases (bif (d.Kind == kind) then (d.Name == name) else false) with
    | true => exact ⟨_, rfl, .inr ⟨k, rfl, h4⟩⟩
    | false =>
      simp only [Bool.false_eq_true, if_false]
      rw [w1 (by omega)]
      exact V1o kind name l hl r (k + 1) h3
structure Y16 (c : D0) (n : Nat) : Prop where
  p : CkP c.p
  at_ : c.atV = n
  le : n ≤ c.p.Decls.length
theorem E1i {c : D0} {n : Nat} (h : Y16 c n) (kind : Int) (name : Str) : ∃ x, T6 c kind name c.atV = some x ∧ (x < 0 ∨ ∃ (j : Nat) (d : E0), x = j ∧ j ≤ c.p.Decls.length ∧ idx c.p.Decls x = some d ∧ d ∈ c.p.Decls) := by
  unfold T6
  rw [h.at_, I1m h.le, ob]
  have hl := h.p.okp.decls.len
  obtain ⟨x, h1, h2⟩ := V1o kind name (c.p.Decls.take n) (by simp; omega) (c.p.Decls.take n) 0 rfl
  refine ⟨x, h1, ?_⟩
  rcases h2 with h2 | ⟨j, rfl, hj⟩
  · exact .inl h2
  · have hj' : j < c.p.Decls.length := by simp at hj; omega
    obtain ⟨d, g1, _, g3⟩ := Ms (l := c.p.Decls) hj'
    exact .inr ⟨j, d, rfl, by omega, g1, g3⟩
theorem W1o {x : F0} (h : sform x = true) : (uPl x.Verb = true → x.Place.all G9 = true) ∧ (uVa x.Verb = true → x.Value.all G9 = true) ∧ C0.alls G9 x.Args = true := by
  unfold sform at h
  simp only [Bool.and_eq_true] at h
  obtain ⟨⟨⟨⟨⟨⟨⟨⟨⟨⟨⟨_, h1⟩, _⟩, h2⟩, _⟩, _⟩, h3⟩, _⟩, _⟩, _⟩, _⟩, _⟩ := h
  refine ⟨fun hu => ?_, fun hu => ?_, h3⟩
  · rw [hu] at h1; exact h1
  · rw [hu] at h2; exact h2
theorem P1q {c : D0} {n : Nat} (hc : Y16 c n) {s : Option I0} (hs : SO s) {x : F0} (ho : N19 x) (hp : x.Place.all G9 = true) (ha : C0.alls G9 x.Args = true) : Tot (H8 c s x) := by
  unfold H8
  obtain ⟨r, h1, h2, _⟩ := R11 hs ho.place hp
  rw [h1, ob]
  refine .ite (fun _ => .mk _) fun _ => ?_
  obtain ⟨y, g1, g2⟩ := E1i hc 6 x.Name
  rw [g1, ob]
  rcases g2 with g2 | ⟨j, d, rfl, hj, g3, g4⟩
  · rw [decide_eq_true g2]; exact .mk _
  rw [decide_eq_false (by omega)]
  simp only [Bool.false_eq_true, if_false]
  rw [g3, ob]
  refine .ite (fun _ => .mk _) fun hl => ?_
  have hl' : x.Args.length = d.Params.length := by
    have : (x.Args.length : Int) = (d.Params.length : Int) := by simpa [bne] using hl
    omega
  obtain ⟨sm1, sm2, _⟩ := hc.p.small d g4
  have main : ∀ (q : List C0) (k : Nat), x.Args.drop k = q → Tot (A3 c s x r d j k) := by
    intro q
    induction q with
    | nil =>
      intro k h
      rw [A3, (T2 h).1]
      simp only [Bool.false_eq_true, if_false]
      rw [Hu hc.p hj sm1, ob, D1i (Gu (hc.p.dok.take j) sm1).2, ob]
      exact .ite (fun _ => .mk _) fun _ => .mk _
    | cons a q ih =>
      intro k h
      obtain ⟨e1, e2, e3, e4, e5⟩ := U4 h
      obtain ⟨v, v1, _, v3⟩ := Ms (l := d.Params) (k := k) (by omega)
      rw [A3, e1, e2]
      simp only [if_true, ob, v1]
      rw [Hu hc.p hj (sm2 v v3), ob, Q1b hs (ho.arg a e5) (C0.alls_mem ha e5), ob]
      refine .ite (fun _ => .mk _) fun _ => ?_
      have := ho.args
      rw [w1 (by omega)]
      exact ih (k + 1) e3
  exact main x.Args 0 rfl
theorem G1j {c : D0} {n : Nat} (hc : Y16 c n) {s : Option I0} (hs : SO s) {x : F0} (ho : N19 x) (hp : x.Place.all G9 = true) : Tot (O6 c s x) := by
  unfold O6
  obtain ⟨r, h1, h2, _⟩ := R11 hs ho.place hp
  rw [h1, ob]
  refine .ite (fun _ => .mk _) fun _ => .ite (fun _ => .mk _) fun _ => ?_
  obtain ⟨y, g1, g2⟩ := E1i hc 5 x.Name
  rw [g1, ob]
  rcases g2 with g2 | ⟨j, d, rfl, hj, g3, g4⟩
  · rw [decide_eq_true g2]; exact .mk _
  rw [decide_eq_false (by omega)]
  simp only [Bool.false_eq_true, if_false]
  have sm := (hc.p.small d g4).1
  rw [g3, ob, Hu hc.p hj sm, ob, D1i (Gu (hc.p.dok.take j) sm).2, ob]
  exact .ite (fun _ => .mk _) fun _ => .mk _
theorem T1k {s : Option I0} (h : SO s) {e : C0} (ho : OkE e) (hf : e.all G9 = true) : T8 s e = some (bif (bif (tyS s e).2 == 0 then (tyS s e).1.Kind != 0 else false) then 9 else (tyS s e).2) := by
  unfold T8
  rw [X16 h ho hf, ob]
  exact ifB _ _ _
structure WfS (l : List F0) : Prop where
  ok : OkS l
  form : F0.alls sform l = true
  numb : F0.alls snumb l = true
theorem Mx {q : F0 → Bool} {x : F0} : ∀ {l : List F0}, F0.alls q l = true → x ∈ l → q x = true ∧ F0.alls q x.Then = true ∧ F0.alls q x.Else = true
  | y :: r, h, hm => by
    simp only [F0.alls, Bool.and_eq_true] at h
    cases hm with
    | head => have := h.1; rw [F0.all_eq, Bool.and_eq_true, Bool.and_eq_true] at this; exact this
    | tail _ hm => exact Mx h.2 hm
theorem WfS.kids {l : List F0} (h : WfS l) {x : F0} (hx : x ∈ l) : WfS x.Then ∧ WfS x.Else := by
  have a := Mx h.form hx
  have b := Mx h.numb hx
  have o := h.ok.mem hx
  exact ⟨⟨o.thens, a.2.1, b.2.1⟩, ⟨o.elses, a.2.2, b.2.2⟩⟩
def A1d (c : D0) (l : List F0) : Prop := WfS l → ∀ s, SO s → ∀ top, Tot (U1 c s l top)
theorem Q1q {x : F0} (h : snumb x = true) (h7 : x.Verb = 7) : F6 (nT x.Low x.High) := by
  unfold snumb at h
  simp only [Bool.and_eq_true] at h
  have hn := h.2
  unfold Xz at hn
  rw [h7] at hn
  simp only [show ((7 : Int) == 4) = false from rfl, show ((7 : Int) == 6) = false from rfl, show ((7 : Int) == 7) = true from rfl, cond_false, cond_true, V6] at hn
  by_cases a : x.Low ≥ -1048576
  · by_cases b : x.High ≥ x.Low
    · by_cases d : x.High ≤ 1048576
      · exact .nT a b d
      · simp [a, b, d] at hn
    · simp [a, b] at hn
  · simp [a] at hn
theorem R1q {c : D0} {n : Nat} (hc : Y16 c n) {s : Option I0} (hs : SO s) {x : F0} (ho : N19 x) (hf : sform x = true) (hn : snumb x = true) (wt : WfS x.Then ∧ WfS x.Else) (ih : A1d c x.Then ∧ A1d c x.Else) (last : Bool) : Tot (V2 c s x last) := by
  obtain ⟨u1, u2, u3⟩ := W1o hf
  rw [V2]
  refine .ite (fun h0 => ?_) fun _ => .ite (fun h1 => ?_) fun _ => .ite (fun h2 => ?_) fun _ => .ite (fun h3 => ?_) fun _ => .ite (fun h5 => ?_) fun _ => .ite (fun h6 => ?_) fun _ => .ite (fun h7 => ?_) fun _ => .ite (fun _ => .ite (fun _ => .mk _) fun _ => .mk _) fun _ => .mk _
  · have e : x.Verb = 0 := by simpa using h0
    obtain ⟨r, g1, _, _⟩ := R11 hs ho.place (u1 (by rw [e]; rfl))
    rw [g1, ob]
    refine .ite (fun _ => .mk _) fun _ => ?_
    rw [Q1b hs ho.value (u2 (by rw [e]; rfl)), ob]
    exact .mk _
  · have e : x.Verb = 1 := by simpa using h1
    exact (P1q hc hs ho (u1 (by rw [e]; rfl)) u3).bnd fun _ _ => .mk _
  · have e : x.Verb = 2 := by simpa using h2
    exact (G1j hc hs ho (u1 (by rw [e]; rfl))).bnd fun _ _ => .mk _
  · have e : x.Verb = 3 := by simpa using h3
    rw [X16 hs ho.value (u2 (by rw [e]; rfl)), ob]
    refine Tot.bnd (.ite (fun _ => .mk _) fun _ => .mk _) fun _ _ => .ite (fun _ => .mk _) fun _ => .mk _
  · have e : x.Verb = 5 := by simpa using h5
    rw [T1k hs ho.value (u2 (by rw [e]; rfl)), ob]
    refine .ite (fun _ => .mk _) fun _ => (ih.1 wt.1 s hs false).bnd fun _ _ => .ite (fun _ => .mk _) fun _ => (ih.2 wt.2 s hs false).bnd fun _ _ => .mk _
  · have e : x.Verb = 6 := by simpa using h6
    rw [T1k hs ho.value (u2 (by rw [e]; rfl)), ob]
    refine .ite (fun _ => .mk _) fun _ => (ih.1 wt.1 s hs false).bnd fun _ _ => .mk _
  · have e : x.Verb = 7 := by simpa using h7
    refine Tot.bnd ?_ fun _ _ => .mk _
    rw [I8, ob]
    refine Tot.bnd (.ite (fun _ => ?_) fun _ => .mk _) fun _ _ => .ite (fun _ => .mk _) fun _ => ?_
    · unfold Rc
      rw [U16]
      exact .mk _
    · rw [show N4 s = some ([], s) from rfl, ob, D13, ob, ob]
      exact (ih.1 wt.1 _ (hs.ext (MF.put (fun q hq => by cases hq) _ ⟨Q1q hn e, okn _ _⟩)) false).bnd fun _ _ => .mk _
theorem B1d {c : D0} {n : Nat} (hc : Y16 c n) {l : List F0} (hw : WfS l) (ih : ∀ x ∈ l, A1d c x.Then ∧ A1d c x.Else) {s : Option I0} (hs : SO s) (top : Bool) :
    ∀ (r : List F0) (k : Nat), l.drop k = r → ∃ z, H3 c s l top k = some z ∧ (z = 0 → ∀ x ∈ r, ∃ last, V2 c s x last = some 0)
  | [], k, h => by
    rw [H3, (T2 h).1]
    exact ⟨_, rfl, fun _ x hx => by cases hx⟩
  | x :: r, k, h => by
    obtain ⟨h1, h2, h3, h4, h5⟩ := U4 h
    have hl := hw.ok.len
    rw [H3, h1, h2]
    simp only [if_true, ob]
    obtain ⟨z, hz⟩ := R1q hc hs (hw.ok.mem h5) (Mx hw.form h5).1 (Mx hw.numb h5).1 (hw.kids h5) (ih x h5) (bif top then ((k : Int) == (IntKind.i64.wrap (((l).length : Int) - 1))) else false)
    rw [hz, ob]
    cases hc0 : z != 0 with
    | true => exact ⟨z, rfl, fun h0 => by rw [h0] at hc0; exact absurd hc0 (by simp)⟩
    | false =>
      have z0 : z = 0 := by simpa using hc0
      subst z0
      rw [if_neg (by simp), w1 (by omega)]
      obtain ⟨y, g1, g2⟩ := B1d hc hw ih hs top r (k + 1) h3
      refine ⟨y, g1, fun h0 q hq => ?_⟩
      cases hq with
      | head => exact ⟨_, hz⟩
      | tail _ hq => exact g2 h0 q hq
theorem D1e {c : D0} {n : Nat} (hc : Y16 c n) (l : List F0) : A1d c l := by
  refine F0.inds (Q := A1d c) (fun l ih hw s hs top => ?_) l
  rw [U1]
  obtain ⟨z, g1, _⟩ := B1d hc hw ih hs top l 0 rfl
  exact ⟨z, g1⟩
theorem R1b {c : D0} {n : Nat} (hc : Y16 c n) {l : List F0} (hw : WfS l) {s : Option I0} (hs : SO s) (top : Bool) : ∃ z, U1 c s l top = some z ∧ (z = 0 → ∀ x ∈ l, ∃ last, V2 c s x last = some 0) := by
  rw [U1]
  exact B1d hc hw (fun x _ => ⟨D1e hc x.Then, D1e hc x.Else⟩) hs top l 0 rfl
def inK (d : E0) : Bool := bif (bif (d.Kind == 1) then true else (d.Kind == 2)) then true else (d.Kind == 3)
def inM (ds : List E0) (vs : Bool) : List E0 → Nat → List (Str × J0) → List (Str × J0)
  | [], _, m => m
  | d :: r, k, m => inM ds vs r (k + 1) (bif (bif inK d then true else (bif vs then (d.Kind == 4) else false)) then mpt d.Name ⟨(Nm (ds.take k) d.TypeV).1, inK d⟩ m else m)
theorem T19 {c : D0} (hc : CkP c.p) {i : Nat} (hi : i ≤ c.p.Decls.length) (vs : Bool) (x1 : List (Str × J0) × Option I0) :
    ∀ (r : List E0) (k : Nat) (m : List (Str × J0)), (c.p.Decls.take i).drop k = r → E2 c vs m x1 (c.p.Decls.take i) k = some (some (.mk x1.2 (inM c.p.Decls vs r k m)))
  | [], k, m, h => by
    rw [E2, (T2 h).1]
    rfl
  | d :: r, k, m, h => by
    obtain ⟨h1, h2, h3, h4, h5⟩ := U4 h
    have hl := hc.okp.decls.len
    have hk : k ≤ c.p.Decls.length := by simp at h4; omega
    rw [E2, h1, h2]
    simp only [if_true, ob, inM]
    rw [Hu hc hk (hc.small d (List.mem_of_mem_take h5)).1]
    simp only [ob]
    rw [w1 (by omega)]
    show (if (bif inK d then true else (bif vs then (d.Kind == 4) else false)) = true then _ else _) = _
    cases (bif inK d then true else (bif vs then (d.Kind == 4) else false)) with
    | true => exact T19 hc hi vs x1 r (k + 1) _ h3
    | false => exact T19 hc hi vs x1 r (k + 1) m h3
def inS (p : N0) (i : Nat) (vs : Bool) : Option I0 := some (.mk none (inM p.Decls vs (p.Decls.take i) 0 []))
theorem Z16 {c : D0} (hc : CkP c.p) {i : Nat} (hi : i ≤ c.p.Decls.length) (vs : Bool) : Q4 c i vs = some (inS c.p i vs) := by
  unfold Q4
  rw [show N4 none = some ([], none) from rfl, ob, I1m hi, ob]
  exact T19 hc hi vs ([], none) (c.p.Decls.take i) 0 [] rfl
theorem X1o {p : N0} (hp : CkP p) (vs : Bool) : ∀ (r : List E0) (k : Nat) (m : List (Str × J0)), (∀ d ∈ r, d ∈ p.Decls) → MF m → MF (inM p.Decls vs r k m)
  | [], _, _, _, hm => hm
  | d :: r, k, m, hd, hm => by
    simp only [inM]
    refine X1o hp vs r (k + 1) _ (fun d hd' => hd d (List.mem_cons_of_mem _ hd')) ?_
    cases (bif inK d then true else (bif vs then (d.Kind == 4) else false)) with
    | true => exact hm.put _ (Gu (hp.dok.take k) (hp.small d (hd d List.mem_cons_self)).1)
    | false => exact hm
theorem A17 {p : N0} (hp : CkP p) (i : Nat) (vs : Bool) : SO (inS p i vs) :=
  SO.none.ext (X1o hp vs _ 0 [] (fun d hd => List.mem_of_mem_take hd) fun q hq => by cases hq)
theorem F1i {c : D0} (hc : CkP c.p) {i : Nat} (hi : i < c.p.Decls.length) (res : A0) (h6 : ∀ d, c.p.Decls[i]? = some d → d.Kind = 6) : Tot (C6 c i res) := by
  obtain ⟨d, g1, _, g3⟩ := Ms (l := c.p.Decls) hi
  obtain ⟨sm1, sm2, sm3⟩ := hc.small d g3
  have od := hc.okp.decls.mem g3
  obtain ⟨df, dn⟩ := hc.dec g3
  unfold C6
  rw [g1, ob, show N4 none = some ([], none) from rfl, ob]
  have hk6 : d.Kind = 6 := h6 d (by simpa using H12 g1)
  have bf : F0.alls sform d.Body = true ∧ d.Value.all G9 = true := by
    unfold dform at df
    simp only [Bool.and_eq_true] at df
    refine ⟨df.2, ?_⟩
    have := df.1.1.1.1.1.2
    rw [show uV2 d.Kind = true by rw [hk6]; rfl] at this
    exact this
  have bn : F0.alls snumb d.Body = true := by
    unfold dnumb at dn
    simp only [Bool.and_eq_true] at dn
    exact dn.2
  have end_ : ∀ m, MF m → Tot (Q1 c i res d m ([], none) (2 : Nat)) := fun m hm => by
    rw [Q1, show decide (((2 : Nat) : Int) < (([d.Params, d.Vars]).length : Int)) = false from rfl]
    simp only [Bool.false_eq_true, if_false, ob]
    have hs : SO (some (.mk none m)) := SO.none.ext hm
    have hcc : Y16 (D0.mk c.p i true c.names) i := ⟨hc, rfl, by simp only; omega⟩
    obtain ⟨z, hz, _⟩ := R1b hcc ⟨od.body, bf.1, bn⟩ hs false
    rw [hz, ob]
    refine .ite (fun _ => .mk _) fun _ => ?_
    rw [Q1b hs od.value bf.2, ob]
    exact .mk _
  have inner : ∀ (l : List E0), (∀ v ∈ l, v.TypeV.bulk ≤ 1048576) → l.length ≤ BB → ∀ (v : Nat), v ≤ 5 → (∀ m, MF m → Tot (Q1 c i res d m ([], none) ((v + 1 : Nat) : Int))) →
      ∀ (r : List E0) (k : Nat) (m : List (Str × J0)), l.drop k = r → MF m → Tot (Q2 c i res d m ([], none) v l k) := by
    intro l hl hb v hv hK r
    induction r with
    | nil =>
      intro k m h hm
      rw [Q2, (T2 h).1]
      simp only [Bool.false_eq_true, if_false]
      rw [w1 (by unfold BB; omega)]
      exact hK m hm
    | cons y r ih =>
      intro k m h hm
      obtain ⟨e1, e2, e3, e4, e5⟩ := U4 h
      rw [Q2, e1, e2]
      simp only [if_true, ob]
      rw [R19 hc (by omega) (hl y e5), ob]
      refine .ite (fun _ => .mk _) fun _ => ?_
      rw [w1 (by omega)]
      exact ih (k + 1) _ e3 (hm.put _ (Gu (hc.dok.take i) (hl y e5)))
  have one : ∀ m, MF m → Tot (Q1 c i res d m ([], none) (1 : Nat)) := fun m hm => by
    rw [Q1, show decide (((1 : Nat) : Int) < (([d.Params, d.Vars]).length : Int)) = true from rfl, show idx [d.Params, d.Vars] ((1 : Nat) : Int) = some d.Vars from rfl]
    simp only [if_true, ob]
    exact inner d.Vars sm3 od.vars.len 1 (by omega) end_ d.Vars 0 m rfl hm
  rw [show (0 : Int) = ((0 : Nat) : Int) from rfl, Q1, show decide (((0 : Nat) : Int) < (([d.Params, d.Vars]).length : Int)) = true from rfl, show idx [d.Params, d.Vars] ((0 : Nat) : Int) = some d.Params from rfl]
  simp only [if_true, ob]
  exact inner d.Params sm2 od.params.len 0 (by omega) one d.Params 0 [] rfl fun q hq => by cases hq
theorem S1q {c : D0} (hc : CkP c.p) {i : Nat} (hi : i < c.p.Decls.length) : Tot (J8 c i) := by
  obtain ⟨d, g1, _, g3⟩ := Ms (l := c.p.Decls) hi
  have sm1 := (hc.small d g3).1
  obtain ⟨df, dn⟩ := hc.dec g3
  unfold J8
  rw [g1, ob, R19 hc (by omega) sm1, ob]
  refine .ite (fun _ => .mk _) fun _ => .ite (fun h5 => ?_) fun _ => .ite (fun h6 => ?_) fun _ => .mk _
  · have e : d.Kind = 5 := by simpa using h5
    rw [show D7 (Nm (List.take i c.p.Decls) d.TypeV).1 = some (scT (Nm (List.take i c.p.Decls) d.TypeV).1) from rfl, ob]
    refine .ite (fun _ => .mk _) fun _ => ?_
    have vf : d.Value.all G9 = true := by
      unfold dform at df
      simp only [Bool.and_eq_true] at df
      have := df.1.1.1.1.1.2
      rw [show uV2 d.Kind = true by rw [e]; rfl] at this
      exact this
    rw [Z16 hc (by omega), ob, Q1b (A17 hc i false) (hc.okp.decls.mem g3).value vf, ob]
    exact .mk _
  · have e : d.Kind = 6 := by simpa using h6
    refine (F1i hc hi _ fun d' hd' => ?_).bnd fun _ _ => .mk _
    have g0 : c.p.Decls[i]? = some d := by simpa using H12 g1
    cases Option.some.inj (hd'.symm.trans g0)
    exact e
theorem X1r (c : D0) (hc : OkP c.p) : Tot (N7 c) := by
  have hl := hc.decls.len
  have outer : ∀ (r : List E0) (k : Nat) (m : List (Str × Bool)), c.p.Decls.drop k = r → Tot (A2 c m k) := by
    intro r
    induction r with
    | nil =>
      intro k m h
      rw [A2, (T2 h).1]
      exact .mk _
    | cons d r ih =>
      intro k m h
      obtain ⟨e1, e2, e3, e4, e5⟩ := U4 h
      have od := hc.decls.mem e5
      rw [A2, e1, e2]
      simp only [if_true, ob]
      refine .ite (fun _ => .mk _) fun _ => ?_
      have end_ : ∀ m1 m2, Tot (R1 c m1 m2 k k d (2 : Nat)) := fun m1 m2 => by
        rw [R1, show decide (((2 : Nat) : Int) < (([d.Params, d.Vars]).length : Int)) = false from rfl]
        simp only [Bool.false_eq_true, if_false]
        rw [w1 (by omega)]
        exact ih (k + 1) m1 e3
      have inner : ∀ (l : List E0), l.length ≤ BB → ∀ (v : Nat), v ≤ 5 → (∀ m1 m2, Tot (R1 c m1 m2 k k d ((v + 1 : Nat) : Int))) →
          ∀ (q : List E0) (j : Nat) (m1 m2 : List (Str × Bool)), l.drop j = q → Tot (L2 c m1 m2 k k d v l j) := by
        intro l hb v hv hK q
        induction q with
        | nil =>
          intro j m1 m2 h
          rw [L2, (T2 h).1]
          simp only [Bool.false_eq_true, if_false]
          rw [w1 (by unfold BB; omega)]
          exact hK m1 m2
        | cons y q ih2 =>
          intro j m1 m2 h
          obtain ⟨f1, f2, f3, f4, f5⟩ := U4 h
          rw [L2, f1, f2]
          simp only [if_true, ob]
          refine .ite (fun _ => .mk _) fun _ => ?_
          rw [w1 (by omega)]
          exact ih2 (j + 1) _ _ f3
      have one : ∀ m1 m2, Tot (R1 c m1 m2 k k d (1 : Nat)) := fun m1 m2 => by
        rw [R1, show decide (((1 : Nat) : Int) < (([d.Params, d.Vars]).length : Int)) = true from rfl, show idx [d.Params, d.Vars] ((1 : Nat) : Int) = some d.Vars from rfl]
        simp only [if_true, ob]
        exact inner d.Vars od.vars.len 1 (by omega) end_ d.Vars 0 m1 m2 rfl
      rw [show (0 : Int) = ((0 : Nat) : Int) from rfl, R1, show decide (((0 : Nat) : Int) < (([d.Params, d.Vars]).length : Int)) = true from rfl, show idx [d.Params, d.Vars] ((0 : Nat) : Int) = some d.Params from rfl]
      simp only [if_true, ob]
      exact inner d.Params od.params.len 0 (by omega) one d.Params 0 _ _ rfl
  exact outer c.p.Decls 0 [] rfl
theorem Y1o (a b : K0) : Tot (T9 a b) := .mk _
theorem S1b (n : Int) (b : K0) : Tot (Ld n b) := .mk _
theorem E1e (m : List (Str × K0)) (l : List F0) : OkS l → Tot (Y1 l m) := by
  refine F0.inds (Q := fun l => OkS l → Tot (Y1 l m)) (fun l ih ho => ?_) l
  have one : ∀ x ∈ l, Tot (U6 x m) := fun x hx => by
    have o1 := ho.mem hx
    rw [U6]
    refine .ite (fun _ => .mk _) fun _ => .ite (fun _ => .mk _) fun _ => .ite (fun _ => ?_) fun _ => .ite (fun _ => ?_) fun _ => .ite (fun _ => ?_) fun _ => .mk _
    · exact ((ih x hx).1 o1.thens).bnd fun _ _ => ((ih x hx).2 o1.elses).bnd fun _ _ => .mk _
    · exact ((ih x hx).1 o1.thens).bnd fun _ _ => (S1b _ _).bnd fun _ _ => .mk _
    · exact ((ih x hx).1 o1.thens).bnd fun _ _ => (S1b _ _).bnd fun _ _ => .mk _
  have main : ∀ (r : List F0) (k : Nat) (a : K0), l.drop k = r → Tot (I3 l m a k) := by
    intro r
    induction r with
    | nil =>
      intro k a h
      rw [I3, (T2 h).1]
      exact .mk _
    | cons x r ih2 =>
      intro k a h
      obtain ⟨e1, e2, e3, e4, e5⟩ := U4 h
      have := ho.len
      rw [I3, e1, e2]
      simp only [if_true, ob]
      refine (Y1o _ _).bnd fun _ _ => (one x e5).bnd fun _ _ => (Y1o _ _).bnd fun _ _ => ?_
      rw [w1 (by omega)]
      exact ih2 (k + 1) _ e3
  rw [Y1]
  exact main l 0 _ rfl
theorem H1j (p : N0) (hp : OkP p) : Tot (Dc p) := by
  have hl := hp.decls.len
  have main : ∀ (r : List E0) (k : Nat) (m : List (Str × K0)), p.Decls.drop k = r → Tot (C4 p m k) := by
    intro r
    induction r with
    | nil =>
      intro k m h
      rw [C4, (T2 h).1]
      simp only [Bool.false_eq_true, if_false]
      exact (E1e m p.Body hp.body).bnd fun _ _ => .mk _
    | cons d r ih =>
      intro k m h
      obtain ⟨e1, e2, e3, e4, e5⟩ := U4 h
      rw [C4, e1, e2]
      simp only [if_true, ob]
      rw [w1 (by omega)]
      exact .ite (fun _ => (E1e m d.Body (hp.decls.mem e5).body).bnd fun _ _ => ih (k + 1) _ e3) fun _ => ih (k + 1) m e3
  exact main p.Decls 0 [] rfl
theorem T1q {t : A0} (ht : Ok t) : (Fw t).1.length ≤ BB := by
  unfold Fw
  cases hc : Wp t != 0 with
  | true => exact Nat.zero_le _
  | false =>
    have hv := (Val.of ht (by simpa using hc)).1
    have h1 := T1h t hv []
    have h2 := hv.cnt
    simp only [cond_false]
    unfold BB
    omega
theorem O1m {c : D0} (hc : CkP c.p) : Tot (Y8 c) := by
  have hl := hc.okp.decls.len
  have main : ∀ (r : List E0) (k : Nat) (m : List (Int × Int)) (a b : Int), c.p.Decls.drop k = r → Tot (V1 c m a b k) := by
    intro r
    induction r with
    | nil =>
      intro k m a b h
      rw [V1, (T2 h).1]
      simp only [Bool.false_eq_true, if_false]
      refine (H1j c.p hc.okp).bnd fun _ _ => ?_
      simp only [ob]
      repeat' (first | exact Tot.mk _ | refine Tot.ite (fun _ => ?_) (fun _ => ?_))
    | cons d r ih =>
      intro k m a b h
      obtain ⟨e1, e2, e3, e4, e5⟩ := U4 h
      have sm := (hc.small d e5).1
      rw [V1, e1, e2]
      simp only [if_true, ob]
      have j2 : ∀ b', Tot (R3 c m d a b' k (Ym d.Kind m) k) := fun b' => by
        rw [R3, w1 (by omega)]
        refine .ite (fun _ => ih (k + 1) m a b' e3) fun _ => ?_
        have ho := (Gu (hc.dok.take k) sm).2
        rw [Hu hc (by omega) sm, ob, K1m _ ho, ob]
        have hb := T1q ho
        have inner : ∀ (q : List P0) (j : Nat) (n a' : Int), (Fw (Nm (c.p.Decls.take k) d.TypeV).1).1.drop j = q → Tot (N2 c m d a' b' n (Ym d.Kind m) k (Fw (Nm (c.p.Decls.take k) d.TypeV).1) j) := by
          intro q
          induction q with
          | nil =>
            intro j n a' h
            rw [N2, (T2 h).1]
            simp only [Bool.false_eq_true, if_false]
            rw [w1 (by omega)]
            exact .ite (fun _ => ih (k + 1) _ a' b' e3) fun _ => ih (k + 1) m a' b' e3
          | cons y q ih2 =>
            intro j n a' h
            obtain ⟨f1, f2, f3, f4, f5⟩ := U4 h
            rw [N2, f1, f2]
            simp only [if_true, ob]
            rw [w1 (by omega)]
            exact .ite (fun _ => Tot.bnd (.mk _) fun _ _ => ih2 (j + 1) _ a' f3) fun _ => ih2 (j + 1) n a' f3
        exact inner _ 0 _ _ rfl
      exact .ite (fun _ => j2 _) fun _ => j2 b
  exact main c.p.Decls 0 _ 0 0 rfl
theorem E13 {p : N0} (x : D0) (hx : x.p = p) (hat : x.atV = (p.Decls.length : Int)) (hp : CkP p) :
    ∀ (r : List E0) (k : Nat), p.Decls.drop k = r → ∃ z, R5 p x k = some z ∧ (z.2 = 0 → ∀ s ∈ p.Body, ∃ last, V2 x (inS p p.Decls.length true) s last = some 0)
  | [], k, h => by
    subst hx
    have hw : WfS x.p.Body := ⟨hp.okp.body, hp.sform, hp.snumb⟩
    rw [R5, (T2 h).1]
    simp only [Bool.false_eq_true, if_false]
    rw [Z16 hp (Nat.le_refl _), ob]
    obtain ⟨z, g1, g2⟩ := R1b ⟨hp, hat, Nat.le_refl _⟩ hw (A17 hp _ true) true
    rw [g1, ob]
    cases hz : z != 0 with
    | true => exact ⟨_, rfl, fun h0 => by simp only at h0; rw [h0] at hz; exact absurd hz (by simp)⟩
    | false =>
      obtain ⟨y, hy⟩ := O1m (c := x) hp
      rw [if_neg (by simp), hy, ob]
      exact ⟨_, rfl, fun _ => g2 (by simpa using hz)⟩
  | d :: r, k, h => by
    obtain ⟨h1, h2, h3, h4, h5⟩ := U4 h
    have hl := hp.okp.decls.len
    rw [R5, h1]
    simp only [if_true]
    obtain ⟨y, hy⟩ := S1q (c := x) (by rw [hx]; exact hp) (i := k) (by rw [hx]; exact h4)
    rw [hy, ob]
    cases hz : y != 0 with
    | true => exact ⟨_, rfl, fun h0 => by simp only at h0; rw [h0] at hz; exact absurd hz (by simp)⟩
    | false =>
      rw [if_neg (by simp), w1 (by omega)]
      exact E13 x hx hat hp r (k + 1) h3
theorem I1j {p : N0} (hb : p.bulk ≤ 1048576) : ∃ z, X6 p = some z ∧ (z.2 = 0 → T16 p = 0 ∧ ∃ x : D0, x.p = p ∧ ∀ s ∈ p.Body, ∃ last, V2 x (inS p p.Decls.length true) s last = some 0) := by
  unfold X6
  rw [E1q p (M1h hb), ob]
  cases hc : T16 p != 0 with
  | true => exact ⟨_, rfl, fun h0 => by simp only at h0; rw [h0] at hc; exact absurd hc (by simp)⟩
  | false =>
    have hp := CkP.of hb (by simpa using hc)
    have hl := hp.okp.decls.len
    rw [if_neg (by simp)]
    have main : ∀ (r : List E0) (k : Nat) (m : List (Str × Bool)), p.Decls.drop k = r → ∃ z, S5 p m k = some z ∧ (z.2 = 0 → T16 p = 0 ∧ ∃ x : D0, x.p = p ∧ ∀ s ∈ p.Body, ∃ last, V2 x (inS p p.Decls.length true) s last = some 0) := by
      intro r
      induction r with
      | nil =>
        intro k m h
        rw [S5, (T2 h).1]
        simp only [Bool.false_eq_true, if_false, ob]
        obtain ⟨y, hy⟩ := X1r (D0.mk p (p.Decls.length : Int) false m) hp.okp
        rw [hy, ob]
        cases decide (y ≥ 0) with
        | true => exact ⟨_, rfl, fun h0 => by simp at h0⟩
        | false =>
          obtain ⟨z, g1, g2⟩ := E13 (D0.mk p (p.Decls.length : Int) false m) rfl rfl hp p.Decls 0 rfl
          exact ⟨z, g1, fun h0 => ⟨by simpa using hc, _, rfl, g2 h0⟩⟩
      | cons d r ih =>
        intro k m h
        obtain ⟨h1, h2, h3, h4, _⟩ := U4 h
        rw [S5, h1, h2]
        simp only [if_true, ob]
        rw [w1 (by omega)]
        exact ih (k + 1) _ h3
    exact main p.Decls 0 [] rfl
end Go.Proofs.YtdkabnfphmmmnaaGreatDoor

set_option linter.unusedSimpArgs false
set_option linter.unusedVariables false
namespace Go.Proofs.YtdkabnfphmmmnaaGreatDoor
open Go.Am
theorem I14 {n d : Int} {f m u : Bool} (h : Mg n d f m u = 0) : n ≤ 1024 ∧ d ≤ 12 ∧ f = false ∧ m = false ∧ u = false := by
  unfold Mg at h
  by_cases h1 : n > 1024
  · rw [decide_eq_true h1] at h
    revert h; cases f <;> cases m <;> cases u <;> simp
  · by_cases h2 : d > 12
    · rw [decide_eq_true h2, decide_eq_false h1] at h
      revert h; cases f <;> cases m <;> cases u <;> simp
    · rw [decide_eq_false h1, decide_eq_false h2] at h
      revert h; cases f <;> cases m <;> cases u <;> simp <;> omega
def tOf (p : N0) (z : Int) (e : C0) : A0 × Int := bif z != 0 then (zT, z) else bif Dg e != 0 then (zT, Dg e) else tyS (inS p p.Decls.length true) e
theorem Q1s {p : N0} (hb : p.bulk ≤ 1048576) {z : Int × Int} (hz : X6 p = some z) (hp : z.2 = 0 → CkP p) {e : C0} (ho : OkE e) : Nd p e = some (tOf p z.2 e) := by
  unfold Nd tOf
  rw [hz, ob]
  cases hc : z.2 != 0 with
  | true => rfl
  | false =>
    have hp' := hp (by simpa using hc)
    rw [if_neg (by simp), E1h e ho, ob]
    cases h2 : Dg e != 0 with
    | true => rfl
    | false =>
      have hf : e.all G9 = true := by
        have := (I14 (show Dg e = 0 by simpa using h2)).2.2.1
        simpa using this
      rw [if_neg (by simp), ob, Z16 (c := D0.mk p 0 false []) hp' (Nat.le_refl _), ob, X16 (A17 hp' _ _) ho hf, ob]
      rfl
def rgT (t : A0 × Int) : Int × Int × Int := bif t.2 != 0 then (0, 0, t.2) else bif t.1.Kind != 1 then (0, 0, 9) else (t.1.Low, t.1.High, 0)
theorem U19 {p : N0} (hb : p.bulk ≤ 1048576) {z : Int × Int} (hz : X6 p = some z) (hp : z.2 = 0 → CkP p) {e : C0} (ho : OkE e) : C5 p e = some (rgT (tOf p z.2 e)) := by
  unfold C5 rgT
  rw [Q1s hb hz hp ho, ob]
  cases (tOf p z.2 e).2 != 0 with
  | true => rfl
  | false => cases (tOf p z.2 e).1.Kind != 1 <;> rfl
theorem Y1s (n d : Int) : Mg n d false false false = 0 ∨ Mg n d false false false = 4 := by
  unfold Mg
  cases (bif decide (n > 1024) then true else decide (d > 12)) <;> simp
structure P1m (s : Option I0) (e : C0) : Prop where
  chk : Dg e = 0
  code : (tyS s e).2 = 0
  kind : (tyS s e).1.Kind = 1
theorem G1i {t : A0 × Int} (h : (rgT t).2.2 = 0) : t.2 = 0 ∧ t.1.Kind = 1 ∧ rgT t = (t.1.Low, t.1.High, 0) := by
  unfold rgT at h ⊢
  cases h1 : t.2 != 0 with
  | true => rw [h1] at h; simp only [cond_true] at h; rw [h] at h1; exact absurd h1 (by simp)
  | false =>
    rw [h1] at h
    cases h2 : t.1.Kind != 1 with
    | true => rw [h2] at h; simp at h
    | false => exact ⟨by simpa using h1, by simpa using h2, rfl⟩
theorem H1i {o : Int} {ks : List C0} (h1 : G9 (.mk o 0 [] ks) = true) (h2 : Be (.mk o 0 [] ks) = true) (h3 : Ce (.mk o 0 [] ks) = true) (hk : ∀ x ∈ ks, Dg x = 0) : Dg (.mk o 0 [] ks) = 0 ∨ Dg (.mk o 0 [] ks) = 4 := by
  have al : ∀ {q : C0 → Bool} {l : List C0}, (∀ x ∈ l, x.all q = true) → C0.alls q l = true := by
    intro q l
    induction l with
    | nil => intro _; rfl
    | cons x r ih => intro h; simp only [C0.alls, Bool.and_eq_true]; exact ⟨h x List.mem_cons_self, ih fun y hy => h y (List.mem_cons_of_mem _ hy)⟩
  have ko := fun x hx => I14 (hk x hx)
  unfold Dg
  rw [C0.all_eq, C0.all_eq, C0.all_eq, h1, h2, h3]
  simp only [Bool.true_and]
  rw [al (fun x hx => by simpa using (ko x hx).2.2.1), al (fun x hx => by simpa using (ko x hx).2.2.2.1), al (fun x hx => by simpa using (ko x hx).2.2.2.2)]
  exact Y1s _ _
theorem U1q {p : N0} {e : C0} (hc : Dg e = 0 ∨ Dg e = 4) {lo hi : Int} (ht : tyS (inS p p.Decls.length true) e = Tj (nT lo hi)) :
    ((rgT (tOf p 0 e)).2.2 = 0 → (rgT (tOf p 0 e)).1 = lo ∧ (rgT (tOf p 0 e)).2.1 = hi) ∧ ((rgT (tOf p 0 e)).2.2 = 0 ∨ (rgT (tOf p 0 e)).2.2 = 3 ∨ (rgT (tOf p 0 e)).2.2 = 4) := by
  unfold tOf
  rcases hc with hc | hc
  · rw [hc]
    simp only [bne_self_eq_false, cond_false, ht]
    by_cases h0 : (Tj (nT lo hi)).2 = 0
    · rw [(Y1h h0).2.2]
      exact ⟨fun _ => ⟨rfl, rfl⟩, .inl rfl⟩
    · unfold Tj at h0 ⊢
      cases hq : (bif (nT lo hi).Kind == 1 then (bif decide ((nT lo hi).Low < (-1048576)) then true else decide ((nT lo hi).High > 1048576)) else false) with
      | true => exact ⟨fun h => absurd h (by simp [rgT]), .inr (.inl rfl)⟩
      | false => rw [hq] at h0; exact absurd rfl h0
  · rw [hc]
    exact ⟨fun h => absurd h (by simp [rgT]), .inr (.inr rfl)⟩
theorem R1s {s : Option I0} {a b : C0} (ha : P1m s a) (hb : P1m s b) {o : Int} (ho : o = 8 ∨ o = 9 ∨ o = 22) : tyS s (.mk o 0 [] [a, b]) = Tj (Yp o (tyS s a).1 (tyS s b).1) := by
  unfold tyS
  have h1 : (a.ty fun nm => lkO nm s).2 = 0 := ha.code
  have h2 : (b.ty fun nm => lkO nm s).2 = 0 := hb.code
  have h3 : (a.ty fun nm => lkO nm s).1.Kind = 1 := ha.kind
  have h4 : (b.ty fun nm => lkO nm s).1.Kind = 1 := hb.kind
  simp only [C0.ty, C0.tys, h1, h2, bne_self_eq_false, cond_false]
  have hall : ([(a.ty fun nm => lkO nm s).1, (b.ty fun nm => lkO nm s).1].all fun t => t.Kind == 1) = true := by simp [h3, h4]
  rcases ho with rfl | rfl | rfl <;>
    (unfold Fu opT
     rw [hall]
     rfl)
theorem H15 (p : N0) (a b : C0) (hb : p.bulk ≤ 1048576) (ha : a.bulk ≤ 1048576) (hB : b.bulk ≤ 1048576) (hk : Hl = some true) : Gi p a b = some true := by
  have oa : OkE a := by unfold OkE BB; omega
  have ob' : OkE b := by unfold OkE BB; omega
  unfold Gi
  rw [hk, ob, if_neg (by simp)]
  obtain ⟨b1, hf1⟩ := I1o p (M1h hb) 300
  obtain ⟨b2, hf2⟩ := V1d a oa 60
  obtain ⟨b3, hf3⟩ := V1d b ob' 60
  rw [show Gx p = some b1 by unfold Gx; rw [hf1]; rfl, ob]
  cases b1 with
  | false => rfl
  | true =>
  rw [show (if (!(!true)) = true then Sf a 60 else some default) = some b2 from hf2, ob]
  cases b2 with
  | false => rfl
  | true =>
  rw [show (if (!(bif (!true) then true else (!true))) = true then Sf b 60 else some default) = some b3 from hf3, ob]
  cases b3 with
  | false => rfl
  | true =>
  obtain ⟨z, hz, hs⟩ := I1j hb
  have hp : z.2 = 0 → CkP p := fun h0 => CkP.of hb (hs h0).1
  rw [if_neg (by simp), U19 hb hz hp oa, ob, U19 hb hz hp ob', ob]
  cases hc1 : (rgT (tOf p z.2 a)).2.2 != 0 with
  | true => rfl
  | false =>
  cases hc2 : (rgT (tOf p z.2 b)).2.2 != 0 with
  | true => rfl
  | false =>
  obtain ⟨ta1, ta2, ta3⟩ := G1i (show (rgT (tOf p z.2 a)).2.2 = 0 by simpa using hc1)
  obtain ⟨tb1, tb2, tb3⟩ := G1i (show (rgT (tOf p z.2 b)).2.2 = 0 by simpa using hc2)
  have z0 : z.2 = 0 := by
    cases h : z.2 != 0 with
    | false => simpa using h
    | true => unfold tOf at ta1; rw [h] at ta1; simp only [cond_true] at ta1; exact ta1
  have hp' := hp z0
  have tf : ∀ {e : C0}, (tOf p z.2 e).2 = 0 → (tOf p z.2 e).1.Kind = 1 → tOf p z.2 e = tyS (inS p p.Decls.length true) e ∧ P1m (inS p p.Decls.length true) e := fun {e} h1 h2 => by
    unfold tOf at h1 h2 ⊢
    rw [z0] at h1 h2 ⊢
    simp only [bne_self_eq_false, cond_false] at h1 h2 ⊢
    cases hq : Dg e != 0 with
    | true => rw [hq] at h1; simp only [cond_true] at h1; rw [h1] at hq; exact absurd hq (by simp)
    | false =>
      rw [hq] at h1 h2
      exact ⟨rfl, by simpa using hq, h1, h2⟩
  obtain ⟨ea, ia⟩ := tf ta1 ta2
  obtain ⟨eb, ib⟩ := tf tb1 tb2
  have fm : ∀ {e : C0}, P1m (inS p p.Decls.length true) e → e.all G9 = true := fun h => by simpa using (I14 h.chk).2.2.1
  have fa := ((Z1c _ (A17 hp' p.Decls.length true).f a oa (fm ia)).2 ia.code).rng (by rw [show (a.ty fun nm => lkO nm (inS p p.Decls.length true)).1.Kind = 1 from ia.kind]; rfl)
  have fb := ((Z1c _ (A17 hp' p.Decls.length true).f b ob' (fm ib)).2 ib.code).rng (by rw [show (b.ty fun nm => lkO nm (inS p p.Decls.length true)).1.Kind = 1 from ib.kind]; rfl)
  rw [ta3, tb3, ea, eb]
  generalize hA : (tyS (inS p p.Decls.length true) a).1 = A
  generalize hB' : (tyS (inS p p.Decls.length true) b).1 = B
  have fa' : -1048576 ≤ A.Low ∧ A.Low ≤ A.High ∧ A.High ≤ 1048576 := by rw [← hA]; exact fa
  have fb' : -1048576 ≤ B.Low ∧ B.Low ≤ B.High ∧ B.High ≤ 1048576 := by rw [← hB']; exact fb
  obtain ⟨a1, a2, a3⟩ := fa'
  obtain ⟨c1, c2, c3⟩ := fb'
  simp only [cond_false, Bool.false_eq_true, if_false]
  rw [decide_eq_false (show ¬ A.Low > A.High by omega), decide_eq_false (show ¬ B.Low > B.High by omega), decide_eq_false (show ¬ A.Low < -1048576 by omega), decide_eq_false (show ¬ A.High > 1048576 by omega), decide_eq_false (show ¬ B.Low < -1048576 by omega), decide_eq_false (show ¬ B.High > 1048576 by omega)]
  simp only [cond_false, Bool.false_eq_true, if_false]
  have on : ∀ (o : Int), OkE (C0.mk o 0 [] [a, b]) := fun o => by unfold OkE BB; rw [C0.bulk_eq]; simp only [C0.bulks, List.length_nil]; omega
  have chk2 : ∀ o : Int, (o = 8 ∨ o = 9 ∨ o = 22) → Dg (.mk o 0 [] [a, b]) = 0 ∨ Dg (.mk o 0 [] [a, b]) = 4 := fun o ho => by
    refine H1i ?_ ?_ ?_ (fun x hx => ?_)
    · rcases ho with rfl | rfl | rfl <;> rfl
    · rcases ho with rfl | rfl | rfl <;> rfl
    · rcases ho with rfl | rfl | rfl <;> rfl
    · rcases List.mem_cons.1 hx with rfl | hx
      · exact ia.chk
      · rcases List.mem_cons.1 hx with rfl | hx
        · exact ib.chk
        · cases hx
  have two : ∀ (o lo hi : Int), (o = 8 ∨ o = 9 ∨ o = 22) → Yp o A B = nT lo hi → ((rgT (tOf p 0 (.mk o 0 [] [a, b]))).2.2 = 0 → (rgT (tOf p 0 (.mk o 0 [] [a, b]))).1 = lo ∧ (rgT (tOf p 0 (.mk o 0 [] [a, b]))).2.1 = hi) ∧ ((rgT (tOf p 0 (.mk o 0 [] [a, b]))).2.2 = 0 ∨ (rgT (tOf p 0 (.mk o 0 [] [a, b]))).2.2 = 3 ∨ (rgT (tOf p 0 (.mk o 0 [] [a, b]))).2.2 = 4) := fun o lo hi ho he => by
    refine U1q (chk2 o ho) ?_
    rw [R1s ia ib ho, hA, hB', he]
  have nd : ∀ o : Int, Nb o [a, b] = some (.mk o 0 [] [a, b]) := fun _ => rfl
  have rg : ∀ {e : C0}, OkE e → C5 p e = some (rgT (tOf p 0 e)) := fun {e} he => by have := U19 hb hz hp he; rw [z0] at this; exact this
  rw [nd, ob, rg (on 8), ob]
  obtain ⟨s1, s2⟩ := two 8 _ _ (.inl rfl) rfl
  have step1 : (bif (bif ((rgT (tOf p 0 (.mk 8 0 [] [a, b]))).2.2 == 0) then (bif ((rgT (tOf p 0 (.mk 8 0 [] [a, b]))).1 != wi (A.Low + B.Low)) then true else ((rgT (tOf p 0 (.mk 8 0 [] [a, b]))).2.1 != wi (A.High + B.High))) else false) then true else (bif (bif ((rgT (tOf p 0 (.mk 8 0 [] [a, b]))).2.2 != 0) then ((rgT (tOf p 0 (.mk 8 0 [] [a, b]))).2.2 != 3) else false) then ((rgT (tOf p 0 (.mk 8 0 [] [a, b]))).2.2 != 4) else false)) = false := by
    rcases s2 with s2 | s2 | s2
    · obtain ⟨r1, r2⟩ := s1 s2
      rw [s2, r1, r2]; simp
    · rw [s2]; rfl
    · rw [s2]; rfl
  rw [step1, if_neg (by simp), nd, ob, rg (on 9), ob]
  obtain ⟨s3, _⟩ := two 9 _ _ (.inr (.inl rfl)) rfl
  have step2 : (bif ((rgT (tOf p 0 (.mk 9 0 [] [a, b]))).2.2 == 0) then (bif ((rgT (tOf p 0 (.mk 9 0 [] [a, b]))).1 != wi (A.Low - B.High)) then true else ((rgT (tOf p 0 (.mk 9 0 [] [a, b]))).2.1 != wi (A.High - B.Low))) else false) = false := by
    cases h0 : (rgT (tOf p 0 (.mk 9 0 [] [a, b]))).2.2 == 0 with
    | false => rfl
    | true => obtain ⟨r1, r2⟩ := s3 (by simpa using h0); rw [r1, r2]; simp
  rw [step2, if_neg (by simp), nd, ob, rg (on 22), ob]
  obtain ⟨s4, _⟩ := two 22 _ _ (.inr (.inr rfl)) rfl
  have step3 : (bif ((rgT (tOf p 0 (.mk 22 0 [] [a, b]))).2.2 == 0) then (bif ((rgT (tOf p 0 (.mk 22 0 [] [a, b]))).1 != max A.Low B.Low) then true else ((rgT (tOf p 0 (.mk 22 0 [] [a, b]))).2.1 != max A.High B.High)) else false) = false := by
    cases h0 : (rgT (tOf p 0 (.mk 22 0 [] [a, b]))).2.2 == 0 with
    | false => rfl
    | true => obtain ⟨r1, r2⟩ := s4 (by simpa using h0); rw [r1, r2]; simp
  rw [step3, if_neg (by simp), show Nb 23 [C0.mk 1 0 [] [], a, b] = some (.mk 23 0 [] [.mk 1 0 [] [], a, b]) from rfl, ob]
  have o3 : OkE (C0.mk 23 0 [] [.mk 1 0 [] [], a, b]) := by unfold OkE BB; rw [C0.bulk_eq]; simp only [C0.bulks, C0.bulk, List.length_nil]; omega
  rw [rg o3, ob]
  have hc3 : Dg (.mk 23 0 [] [.mk 1 0 [] [], a, b]) = 0 ∨ Dg (.mk 23 0 [] [.mk 1 0 [] [], a, b]) = 4 := by
    refine H1i rfl rfl rfl (fun x hx => ?_)
    rcases List.mem_cons.1 hx with rfl | hx
    · rfl
    · rcases List.mem_cons.1 hx with rfl | hx
      · exact ia.chk
      · rcases List.mem_cons.1 hx with rfl | hx
        · exact ib.chk
        · cases hx
  have t3 : tyS (inS p p.Decls.length true) (.mk 23 0 [] [.mk 1 0 [] [], a, b]) = (nT (min A.Low B.Low) (max A.High B.High), 0) := by
    have h1 : (a.ty fun nm => lkO nm (inS p p.Decls.length true)).2 = 0 := ia.code
    have h2 : (b.ty fun nm => lkO nm (inS p p.Decls.length true)).2 = 0 := ib.code
    have h3 : (a.ty fun nm => lkO nm (inS p p.Decls.length true)).1.Kind = 1 := ia.kind
    have h4 : (b.ty fun nm => lkO nm (inS p p.Decls.length true)).1.Kind = 1 := ib.kind
    rw [← hA, ← hB']
    unfold tyS
    have ht : (C0.mk 1 0 [] []).ty (fun nm => lkO nm (inS p p.Decls.length true)) = (zT, 0) := rfl
    rw [C0.ty]
    simp only [C0.tys, ht, h1, h2, bne_self_eq_false, cond_false]
    show opT 23 [zT, (a.ty fun nm => lkO nm (inS p p.Decls.length true)).1, (b.ty fun nm => lkO nm (inS p p.Decls.length true)).1] = _
    unfold opT
    have hall : ([(a.ty fun nm => lkO nm (inS p p.Decls.length true)).1, (b.ty fun nm => lkO nm (inS p p.Decls.length true)).1].all fun t => t.Kind == 1) = true := by simp [h3, h4]
    show (bif ([(a.ty fun nm => lkO nm (inS p p.Decls.length true)).1, (b.ty fun nm => lkO nm (inS p p.Decls.length true)).1].all fun t => t.Kind == 1) then (nT (min (a.ty fun nm => lkO nm (inS p p.Decls.length true)).1.Low (b.ty fun nm => lkO nm (inS p p.Decls.length true)).1.Low) (max (a.ty fun nm => lkO nm (inS p p.Decls.length true)).1.High (b.ty fun nm => lkO nm (inS p p.Decls.length true)).1.High), (0 : Int)) else _) = _
    rw [hall]
    rfl
  rcases hc3 with hc3 | hc3
  · have : rgT (tOf p 0 (.mk 23 0 [] [.mk 1 0 [] [], a, b])) = (min A.Low B.Low, max A.High B.High, 0) := by
      unfold tOf
      rw [hc3, t3]
      rfl
    rw [this]
    simp
  · have : rgT (tOf p 0 (.mk 23 0 [] [.mk 1 0 [] [], a, b])) = (0, 0, 4) := by
      unfold tOf
      rw [hc3]
      rfl
    rw [this]
    rfl
end Go.Proofs.YtdkabnfphmmmnaaGreatDoor

