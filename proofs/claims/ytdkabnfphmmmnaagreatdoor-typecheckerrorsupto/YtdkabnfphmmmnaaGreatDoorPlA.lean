/- A part of the proof of TypecheckErrors. -/
import Derived.Test.YtdkabnfphmmmnaaGreatDoorDgD
import Derived.ProofKit
namespace Go.Proofs.YtdkabnfphmmmnaaGreatDoor
open Go.Am
set_option maxRecDepth 100000
set_option maxHeartbeats 4000000
theorem Z1s : Rq = some true := L1x 300 _ (by kernel_rfl)
end Go.Proofs.YtdkabnfphmmmnaaGreatDoor

namespace Go.Proofs.YtdkabnfphmmmnaaGreatDoor
open Go.Am
theorem ob {α β : Type} (a : α) (f : α → Option β) : (some a >>= f) = f a := rfl
theorem V1 {α : Type} {l : List α} {k : Nat} {x : α} {r : List α} (h : l.drop k = x :: r) : decide ((k : Int) < (l.length : Int)) = true ∧ idx l (k : Int) = some x ∧ l.drop (k + 1) = r ∧ k < l.length ∧ x ∈ l := by
  have hk : k < l.length := by
    rcases Nat.lt_or_ge k l.length with h1 | h1
    · exact h1
    · rw [List.drop_eq_nil_of_le h1] at h; cases h
  have hx := List.drop_eq_getElem_cons hk
  rw [h] at hx
  obtain ⟨e1, e2⟩ := List.cons.inj hx
  refine ⟨decide_eq_true (by omega), ?_, e2.symm, hk, ?_⟩
  · unfold idx
    rw [if_pos (by omega), e1]
    simp [hk]
  · rw [e1]; exact List.getElem_mem hk
theorem I1 {α : Type} {l : List α} {k : Nat} (h : l.drop k = []) : decide ((k : Int) < (l.length : Int)) = false ∧ l.length ≤ k := by
  have := List.drop_eq_nil_iff.1 h
  exact ⟨decide_eq_false (by omega), this⟩
def BB : Nat := 68719476736
theorem wr {n : Int} (h : -4611686018427387904 ≤ n) (h' : n ≤ 4611686018427387904) : IntKind.i64.wrap n = n := C21 (by omega) (by omega)
theorem w1 {k : Nat} (h : k ≤ BB) : IntKind.i64.wrap ((k : Int) + 1) = ((k + 1 : Nat) : Int) := by
  unfold BB at h
  rw [wr (by omega) (by omega)]; rfl
def Dv (n : Int) : Bool := bif decide (n ≥ 97) then decide (n ≤ 122) else false
def M1x (n : Int) : Bool := bif decide (n ≥ 48) then decide (n ≤ 57) else false
def S29 (i : Nat) (c : UInt8) : Bool := Dv c.toNat || (i != 0 && M1x c.toNat)
def Mx : Nat → List UInt8 → Bool
  | _, [] => true
  | i, c :: r => S29 i c && Mx (i + 1) r
def Yg (s : List UInt8) : Bool := Mx 0 s && !(s == [])
def kw : List UInt8 := [32, 116, 121, 112, 101, 32, 115, 101, 99, 114, 101, 116, 32, 112, 117, 98, 108, 105, 99, 32, 114, 97, 110, 100, 111, 109, 32, 118, 97, 114, 32, 104, 97, 116, 99, 104, 32, 102, 117, 110, 99, 32, 114, 101, 116, 117, 114, 110, 32, 98, 101, 103, 105, 110, 32, 101, 110, 100, 32, 98, 111, 111, 108, 32, 105, 110, 116, 32, 97, 114, 114, 97, 121, 32, 111, 102, 32, 114, 101, 99, 111, 114, 100, 32, 116, 114, 117, 101, 32, 102, 97, 108, 115, 101, 32, 99, 97, 108, 108, 32, 114, 101, 108, 101, 97, 115, 101, 32, 111, 117, 116, 112, 117, 116, 32, 119, 97, 105, 116, 32, 105, 102, 32, 101, 108, 115, 101, 32, 119, 104, 105, 108, 101, 32, 108, 105, 109, 105, 116, 32, 102, 111, 114, 32, 116, 111, 32, 115, 101, 116, 116, 108, 101, 32, 109, 105, 110, 32, 109, 97, 120, 32]
def N1x (s : List UInt8) : Bool := bif (bif !(s == []) then !Lib.contains s [32] else false) then Lib.contains kw ([32] ++ s ++ [32]) else false
def Y8 (s : List UInt8) : Bool := bif (bif decide ((s.length : Int) ≤ 12) then Yg s else false) then !N1x s else false
theorem getD_some {s : List UInt8} {k : Nat} (h : k < s.length) : s[k]? = some (s.getD k 0) := by simp [List.getD, h]
def ld (c : UInt8) : Bool := bif Dv c.toNat then true else M1x c.toNat
def G1h : List UInt8 → Nat
  | [] => 0
  | c :: r => bif ld c then G1h r + 1 else 0
theorem K27 : ∀ s : List UInt8, G1h s ≤ s.length
  | [] => Nat.le_refl _
  | c :: r => by
    simp only [G1h, List.length_cons]
    have := K27 r
    cases ld c <;> simp <;> omega
def U1o (s : List UInt8) : Bool := bif ((s.length : Nat) : Int) == 0 then false else bif s.all (fun c => Dv c.toNat) then Lib.contains kw ([32] ++ s ++ [32]) else false
set_option maxRecDepth 100000 in
theorem V1o : kw.length = 162 := rfl
theorem A23 {s sub : List UInt8} {i : Nat} (hi : i + sub.length ≤ s.length) (h : ((s.take (i + sub.length)).drop i == sub) = true) : Lib.contains s sub = true := by
  have ho : Lib.occAt s sub i = true := by
    rw [Lib.occAt_iff_take s sub i hi]
    rw [List.drop_take] at h
    simpa using h
  rcases Lib.index_spec s sub with ⟨_, h2⟩ | ⟨j, h1, _⟩
  · rw [h2 i (by omega)] at ho; cases ho
  · unfold Lib.contains
    rw [h1]
    exact decide_eq_true (by omega)
theorem P1l {s sub : List UInt8} (h : ∀ i, i + sub.length ≤ s.length → ((s.take (i + sub.length)).drop i == sub) = false) (hne : sub ≠ []) : Lib.contains s sub = false := by
  rcases Lib.index_spec s sub with ⟨h1, _⟩ | ⟨j, h1, h2, h3, _⟩
  · unfold Lib.contains
    rw [h1]; rfl
  · rcases Lib.occAt_room h3 with hr | hr
    · have := h j hr
      rw [Lib.occAt_iff_take s sub j hr] at h3
      rw [List.drop_take] at this
      have e : j + sub.length - j = sub.length := by omega
      rw [e, h3] at this
      cases this
    · exact absurd hr hne
def T29 (s : List UInt8) : Bool :=
  bif (bif (bif (bif decide (((s.length : Nat) : Int) < 1) then true else decide (((s.length : Nat) : Int) > 12)) then true else !Dv (s.getD 0 0).toNat) then true else U1o s) then false else ((G1h s : Nat) : Int) == ((s.length : Nat) : Int)
theorem I1r : ∀ (r : List UInt8) (i : Nat), 1 ≤ i → Mx i r = r.all ld
  | [], _, _ => rfl
  | c :: r, i, h => by
    have hi : (i != 0) = true := by simp; omega
    simp only [Mx, List.all_cons, I1r r (i + 1) (by omega), S29, hi, Bool.true_and, ld]
    cases Dv c.toNat <;> rfl
theorem L27 : ∀ s : List UInt8, (((G1h s : Nat) : Int) == ((s.length : Nat) : Int)) = s.all ld
  | [] => rfl
  | c :: r => by
    have h := L27 r
    have hle := K27 r
    simp only [G1h, List.length_cons, List.all_cons, ← h]
    cases ld c with
    | false =>
      simp only [cond_false, Bool.false_and]
      apply beq_eq_false_iff_ne.2
      omega
    | true =>
      simp only [cond_true, Bool.true_and]
      rw [Bool.eq_iff_iff, beq_iff_eq, beq_iff_eq]
      omega
set_option maxRecDepth 100000 in
theorem H2f : kw.all (fun c => Dv c.toNat || c == 32) = true := by decide
theorem W1o {s sub : List UInt8} (h : Lib.contains s sub = true) (hne : sub ≠ []) : ∀ c ∈ sub, c ∈ s := by
  rcases Lib.index_spec s sub with ⟨h1, _⟩ | ⟨j, h1, h2, h3, _⟩
  · unfold Lib.contains at h
    rw [h1] at h
    cases h
  · rcases Lib.occAt_room h3 with hr | hr
    · rw [Lib.occAt_iff_take s sub j hr] at h3
      have e : (s.drop j).take sub.length = sub := by simpa using h3
      intro c hc
      rw [← e] at hc
      exact List.mem_of_mem_drop (List.mem_of_mem_take hc)
    · exact absurd hr hne
theorem B23 : ld 32 = false := by decide
theorem I2f {s : List UInt8} (h : s.all ld = true) : Lib.contains s [32] = false := by
  cases hc : Lib.contains s [32] with
  | false => rfl
  | true =>
    have := W1o hc (by simp) 32 (by simp)
    have := List.all_eq_true.1 h 32 this
    rw [B23] at this
    cases this
theorem H2h {s : List UInt8} (h : s.all ld = true) (hc : Lib.contains kw ([32] ++ s ++ [32]) = true) : s.all (fun c => Dv c.toNat) = true := by
  rw [List.all_eq_true]
  intro c hcs
  have h1 := W1o hc (by simp) c (by simp [hcs])
  have h2 := List.all_eq_true.1 H2f c h1
  have h3 := List.all_eq_true.1 h c hcs
  cases hl : Dv c.toNat with
  | true => rfl
  | false =>
    rw [hl, Bool.false_or, beq_iff_eq] at h2
    subst h2
    rw [B23] at h3
    cases h3
theorem I2h (s : List UInt8) : T29 s = Y8 s := by
  unfold T29 Y8
  rw [L27]
  cases s with
  | nil => rfl
  | cons c r =>
    have h1 : decide ((((c :: r).length : Nat) : Int) < 1) = false := decide_eq_false (by simp only [List.length_cons]; omega)
    have h12 : decide ((((c :: r).length : Nat) : Int) > 12) = !decide ((((c :: r).length : Nat) : Int) ≤ 12) := by
      rw [← decide_not]; exact decide_eq_decide.2 Int.not_le.symm
    have hw : Yg (c :: r) = (Dv c.toNat && r.all ld) := by
      unfold Yg
      simp only [Mx, S29, I1r r 1 (Nat.le_refl _)]
      simp
    rw [h1, h12, hw, cond_false, List.all_cons]
    show (bif (bif (bif !decide ((((c :: r).length : Nat) : Int) ≤ 12) then true else !Dv c.toNat) then true else U1o (c :: r)) then false else (ld c && r.all ld)) = _
    cases h12' : decide ((((c :: r).length : Nat) : Int) ≤ 12) with
    | false => rfl
    | true =>
      cases hl : Dv c.toNat with
      | false => rfl
      | true =>
        have hlc : ld c = true := by unfold ld; rw [hl]; rfl
        rw [hlc]
        cases ha : r.all ld with
        | false => cases U1o (c :: r) <;> rfl
        | true =>
          have hall : (c :: r).all ld = true := by rw [List.all_cons, hlc, ha]; rfl
          have hns := I2f hall
          have e : U1o (c :: r) = N1x (c :: r) := by
            unfold U1o N1x
            rw [hns]
            have hz : ((((c :: r).length : Nat) : Int) == 0) = false := beq_eq_false_iff_ne.2 (by simp only [List.length_cons]; omega)
            rw [hz]
            cases hk : Lib.contains kw ([32] ++ (c :: r) ++ [32]) with
            | false => simp
            | true =>
              rw [H2h hall hk]
              rfl
          rw [e]
          cases N1x (c :: r) <;> rfl
theorem M25 (n : Int) : Gn n = some (Dv n) := rfl
theorem U29 (n : Int) : Kp n = some (M1x n) := rfl
theorem L1v (s : Str) (hs : s.length ≤ BB) : ∀ (r : Str) (k : Nat), s.drop k = r → O8 s k = some (Mx k r && !(s == []))
  | [], k, h => by rw [O8, (I1 h).1]; simp [Mx]
  | c :: r, k, h => by
    obtain ⟨h1, h2, h3, h4, _⟩ := V1 h
    have ih := L1v s hs r (k + 1) h3
    rw [O8, h1, if_pos rfl, h2, ob, M25, ob, w1 (by omega), ih]
    have e : ((k : Int) == 0) = (k == 0) := by cases k <;> rfl
    simp only [e, Mx, S29, bne]
    cases hl : Dv c.toNat <;> cases hk : k == 0 <;> cases hd : M1x c.toNat <;> simp [U29, hd]
theorem J2c (s : Str) (hs : s.length ≤ BB) : Rr s = some (Yg s) := L1v s hs s 0 rfl
theorem Q1l (s t : Str) (hs : s.length ≤ 4000000000) : Et s t = some (Lib.contains s t) := by
  unfold Et
  rw [if_pos (decide_eq_true (by omega))]
theorem N25 (s : Str) (hs : s.length ≤ 4000000000) : Tj s = some (N1x s) := by
  unfold Tj
  have h1 : decide (1 + s.length ≤ maxLen) = true := decide_eq_true (by unfold maxLen; omega)
  have h2 : decide (([32] ++ s).length + 1 ≤ maxLen) = true := decide_eq_true (by unfold maxLen; simp; omega)
  rw [Q1l s _ hs]
  have h3 := Q1l kw (([32] ++ s) ++ [32]) (by rw [V1o]; omega)
  unfold kw at h3
  unfold N1x kw
  rw [h1, h2, h3]
  cases s == [] <;> cases Lib.contains s [32] <;> simp
theorem U1y (s : Str) (hs : s.length ≤ BB) : Zi s = some (Y8 s) := by
  unfold Zi Sr Y8
  rw [J2c s hs]
  cases h : decide ((s.length : Int) ≤ 12) with
  | false => simp
  | true =>
    have h' : s.length ≤ 12 := by have := of_decide_eq_true h; omega
    rw [N25 s (by omega)]
    cases Yg s <;> simp
theorem P1e (n : Int) : As n = some (Dv n) := rfl
theorem O25 (n : Int) : P17 n = some (M1x n) := rfl
theorem M27 (s : Str) (hs : s.length ≤ BB) : ∀ (r : Str) (k : Nat), s.drop k = r → Al s k = some ((k + G1h r : Nat) : Int)
  | [], k, h => by rw [Al, (I1 h).1]; simp [G1h, ob]
  | c :: r, k, h => by
    obtain ⟨h1, h2, h3, h4, _⟩ := V1 h
    have ih := M27 s hs r (k + 1) h3
    rw [Al, h1, if_pos rfl, h2, ob, if_pos rfl, P1e, ob, w1 (by omega), ih]
    simp only [G1h, ld]
    cases hl : Dv c.toNat <;> cases hd : M1x c.toNat <;> simp [O25, hd, ob] <;> omega
theorem K2i (s : Str) (hs : s.length ≤ BB) : R18 s 0 = some ((G1h s : Nat) : Int) := by
  have := M27 s hs s 0 rfl
  unfold R18
  rw [Nat.zero_add] at this
  exact this
theorem J2f (s : Str) (hs : s.length ≤ 4000000000) : ∀ (n k : Nat), n + k = 163 → (∀ i, i < k → i + ([32] ++ s ++ [32]).length ≤ kw.length → ((kw.take (i + ([32] ++ s ++ [32]).length)).drop i == [32] ++ s ++ [32]) = false) →
    Yb s k = some (Lib.contains kw ([32] ++ s ++ [32])) := by
  have hl : ([32] ++ s ++ [32]).length = s.length + 2 := by simp
  intro n
  induction n with
  | zero =>
    intro k hk hi
    rw [Yb, wr (n := (k : Int) + _) (by omega) (by omega), wr (by omega) (by omega), if_neg (by simp; omega), P1l (fun i h => hi i (by rw [V1o] at h; omega) h) (by simp)]
  | succ n ih =>
    intro k hk hi
    rw [Yb, wr (n := (k : Int) + _) (by omega) (by omega), wr (by omega) (by omega)]
    by_cases hr : k + ([32] ++ s ++ [32]).length ≤ kw.length
    · have hr' := hr
      rw [V1o, hl] at hr'
      rw [if_pos (decide_eq_true (by omega))]
      have hs2 : slc kw (k : Int) ((k : Int) + (s.length : Int) + 2) = some ((kw.take (k + ([32] ++ s ++ [32]).length)).drop k) := by
        unfold slc
        rw [if_pos ⟨by omega, by omega, by rw [V1o]; omega⟩, hl]
        rw [show ((k : Int) + (s.length : Int) + 2).toNat = k + (s.length + 2) by omega]
        rfl
      unfold kw at hs2
      rw [hs2, ob, if_pos (decide_eq_true (by unfold maxLen; omega)), if_pos (decide_eq_true (by unfold maxLen; simp; omega))]
      cases he : ((kw.take (k + ([32] ++ s ++ [32]).length)).drop k == [32] ++ s ++ [32]) with
      | true =>
        have := A23 hr he
        rw [this]
        unfold kw at he
        rw [he, if_pos rfl]
      | false =>
        have he' := he
        unfold kw at he'
        rw [he', if_neg (by simp), w1 (by unfold BB; omega)]
        refine ih (k + 1) (by omega) fun i hik => ?_
        rcases Nat.lt_or_eq_of_le (Nat.le_of_lt_succ hik) with h | h
        · exact hi i h
        · subst h; exact fun _ => he
    · have hr' := hr
      rw [V1o, hl] at hr'
      rw [if_neg (by simp; omega), P1l (fun i h => hi i (by omega) h) (by simp)]
theorem C23 (s : Str) (hs : s.length ≤ 4000000000) : ∀ (r : Str) (k : Nat), s.drop k = r → Zb s k = some (bif r.all (fun c => Dv c.toNat) then Lib.contains kw ([32] ++ s ++ [32]) else false)
  | [], k, h => by rw [Zb, (I1 h).1, if_neg (by simp)]; exact J2f s hs 163 0 rfl (fun i h => by omega)
  | c :: r, k, h => by
    obtain ⟨h1, h2, h3, h4, _⟩ := V1 h
    have ih := C23 s hs r (k + 1) h3
    rw [Zb, h1, if_pos rfl, h2, ob, P1e, ob, w1 (by unfold BB; omega), ih, List.all_cons]
    cases Dv c.toNat <;> simp
theorem O1x (s : Str) (hs : s.length ≤ 4000000000) : Bs s = some (U1o s) := by
  unfold Bs U1o
  have := C23 s hs s 0 rfl
  rw [show (0 : Int) = ((0 : Nat) : Int) from rfl, this]
  cases ((s.length : Int) == ((0 : Nat) : Int)) <;> simp
theorem Qs (s : Str) (hs : s.length ≤ BB) : Eg s = some (Y8 s) := by
  rw [← I2h]
  unfold Eg A13 T29
  cases h : (bif decide ((s.length : Int) < 1) then true else decide ((s.length : Int) > 12)) with
  | true => simp [ob]
  | false =>
    have h' : 1 ≤ s.length ∧ s.length ≤ 12 := by
      cases h1 : decide ((s.length : Int) < 1) with
      | true => rw [h1] at h; cases h
      | false =>
        rw [h1] at h
        have := of_decide_eq_false h1
        have := of_decide_eq_false (show decide ((s.length : Int) > 12) = false from h)
        omega
    have h0 : idx s 0 = some (s.getD 0 0) := getD_some (by omega)
    rw [h0, O1x s (by omega), K2i s hs]
    simp only [Bool.not_false, if_true, ob, P1e, cond_false]
    cases Dv (s.getD 0 0).toNat <;> cases U1o s <;> simp [ob]
end Go.Proofs.YtdkabnfphmmmnaaGreatDoor

set_option linter.unusedSimpArgs false
namespace Go.Proofs.YtdkabnfphmmmnaaGreatDoor
open Go.Am
theorem A0.ind {P : A0 → Prop} (h : ∀ t : A0, (∀ x ∈ t.Of, P x) → P t) : ∀ t, P t := by
  intro t
  refine A0.rec (motive_1 := P) (motive_2 := fun l => ∀ x ∈ l, P x) ?_ ?_ ?_ t
  · intro k l h' s n ns of ih
    exact h _ ih
  · intro x hx; cases hx
  · intro x r hx hr y hy
    cases hy with
    | head => exact hx
    | tail _ hy => exact hr y hy
mutual
def A0.depth : A0 → Nat
  | .mk _ _ _ _ _ _ of => A0.depths of + 1
def A0.depths : List A0 → Nat
  | [] => 0
  | t :: r => max (A0.depth t) (A0.depths r)
end
theorem A0.depth_eq (t : A0) : t.depth = A0.depths t.Of + 1 := by cases t; simp [A0.depth, A0.Of]
theorem A0.depth_le : ∀ {l : List A0} {t : A0}, t ∈ l → t.depth ≤ A0.depths l
  | x :: r, t, h => by
    simp only [A0.depths]
    cases h with
    | head => omega
    | tail _ h => have := A0.depth_le h; omega
def N3 (a b c : Int) : Bool := bif decide (a ≥ b) then decide (a ≤ c) else false
mutual
def A0.all (p : A0 → Bool) : A0 → Bool
  | .mk k l h s n ns of => p (.mk k l h s n ns of) && A0.alls p of
def A0.alls (p : A0 → Bool) : List A0 → Bool
  | [] => true
  | t :: r => A0.all p t && A0.alls p r
end
theorem A0.all_eq (p : A0 → Bool) (t : A0) : t.all p = (p t && A0.alls p t.Of) := by cases t; rfl
mutual
def A0.nodes : A0 → Nat
  | .mk _ _ _ _ _ _ of => A0.nodess of + 1
def A0.nodess : List A0 → Nat
  | [] => 0
  | t :: r => A0.nodes t + A0.nodess r
end
theorem A0.nodes_eq (t : A0) : t.nodes = A0.nodess t.Of + 1 := by cases t; rfl
mutual
theorem A0.depth_nodes : ∀ t : A0, t.depth ≤ t.nodes
  | .mk _ _ _ _ _ _ of => by simp only [A0.depth, A0.nodes]; have := A0.depths_nodess of; omega
theorem A0.depths_nodess : ∀ l : List A0, A0.depths l ≤ A0.nodess l
  | [] => Nat.le_refl _
  | t :: r => by simp only [A0.depths, A0.nodess]; have := A0.depth_nodes t; have := A0.depths_nodess r; omega
end
def fm1 (t : A0) : Bool := bif decide (t.Kind ≥ 0) then decide (t.Kind ≤ 4) else false
def fm2 (t : A0) : Bool := bif t.Kind == 1 then true else bif t.Low == 0 then t.High == 0 else false
def fm3 (t : A0) : Bool := bif t.Kind == 2 then true else t.Size == 0
def fm4 (t : A0) : Bool := bif t.Kind == 4 then true else t.Name == []
def fm5 (t : A0) : Bool := bif t.Kind == 3 then true else ((t.Names).length : Int) == 0
def fm6 (t : A0) : Bool := bif t.Kind == 2 then ((t.Of).length : Int) == 1 else bif t.Kind == 3 then (bif decide (((t.Of).length : Int) ≥ 1) then ((t.Of).length : Int) == ((t.Names).length : Int) else false) else ((t.Of).length : Int) == 0
def nm1 (t : A0) : Bool := bif t.Kind == 2 then N3 t.Size 1 32 else bif t.Kind == 3 then decide (((t.Of).length : Int) ≤ 32) else true
def nm2 (t : A0) : Bool := bif t.Kind == 1 then (bif N3 t.Low (-1048576) 1048576 then N3 t.High t.Low 1048576 else false) else true
def na1 (t : A0) : Bool := bif t.Kind == 4 then Y8 t.Name else true
def L5 (t : A0) : Bool := fm1 t && fm2 t && fm3 t && fm4 t && fm5 t && fm6 t
def Oi (t : A0) : Bool := nm1 t && nm2 t
def Jc (t : A0) : Bool := na1 t && t.Names.all Y8
theorem Q19 (a b c : Bool) : (a || !b || !c) = (a || !(b && c)) := by cases a <;> cases b <;> cases c <;> rfl
def Jn (n d : Int) (f m u : Bool) : Int :=
  bif (bif decide (n > 1024) then true else decide (d > 12)) then 4 else bif f then 1 else bif m then 7 else bif u then 3 else 0
theorem T1k (a b : Int) : decide (a < b) = !decide (a ≥ b) := by
  rw [← decide_not]; exact decide_eq_decide.2 Int.not_le.symm
theorem U1k (a b : Int) : decide (a > b) = !decide (a ≤ b) := by
  rw [← decide_not]; exact decide_eq_decide.2 Int.not_le.symm
def D23 (t : A0) : Bool := bif decide (t.Kind < 0) then true else decide (t.Kind > 4)
def E23 (t : A0) : Bool :=
  bif (bif (bif (bif t.Kind != 1 then (bif t.Low != 0 then true else t.High != 0) else false) then true else (bif t.Kind != 2 then t.Size != 0 else false)) then true else (bif t.Kind != 4 then !(t.Name == []) else false)) then true else
    (bif t.Kind != 3 then ((t.Names).length : Int) != 0 else false)
def F23 (t : A0) : Bool :=
  bif (bif (bif t.Kind == 2 then ((t.Of).length : Int) != 1 else false) then true else
    (bif t.Kind == 3 then (bif decide (((t.Of).length : Int) < 1) then true else ((t.Of).length : Int) != ((t.Names).length : Int)) else false)) then true else
    (bif (bif t.Kind != 2 then t.Kind != 3 else false) then ((t.Of).length : Int) != 0 else false)
theorem J2h (t : A0) : fm1 t = !D23 t := by
  unfold fm1 D23
  rw [T1k, U1k]
  cases decide (t.Kind ≥ 0) <;> cases decide (t.Kind ≤ 4) <;> rfl
theorem K2h (t : A0) : (fm2 t && fm3 t && fm4 t && fm5 t) = !E23 t := by
  unfold fm2 fm3 fm4 fm5 E23
  simp only [bne]
  generalize (t.Kind == 1) = a
  generalize (t.Kind == 2) = b
  generalize (t.Kind == 3) = c
  generalize (t.Kind == 4) = d
  generalize (t.Low == 0) = e
  generalize (t.High == 0) = f
  generalize (t.Size == 0) = g
  generalize (t.Name == []) = h
  generalize (((t.Names).length : Int) == 0) = i
  cases a <;> cases b <;> cases c <;> cases d <;> cases e <;> cases f <;> cases g <;> cases h <;> cases i <;> rfl
theorem L2h (t : A0) : fm6 t = !F23 t := by
  have hx : (t.Kind == 2) = true → (t.Kind == 3) = false := fun h => by
    have : t.Kind = 2 := by simpa using h
    rw [this]; rfl
  unfold fm6 F23
  rw [T1k]
  simp only [bne]
  revert hx
  generalize (t.Kind == 2) = b
  generalize (t.Kind == 3) = c
  generalize (((t.Of).length : Int) == 1) = d
  generalize (((t.Of).length : Int) == 0) = e
  generalize (((t.Of).length : Int) == ((t.Names).length : Int)) = f
  generalize (decide (((t.Of).length : Int) ≥ 1)) = g
  intro hx
  cases b <;> cases c <;> first | (exact absurd (hx rfl) (by decide)) | (cases d <;> cases e <;> cases f <;> cases g <;> rfl)
theorem K2f (t : A0) : L5 t = (!D23 t && !E23 t && !F23 t) := by
  rw [← J2h, ← K2h, ← L2h]
  unfold L5
  simp only [Bool.and_assoc]
def Lq (n : Int) : Bool := bif decide (n ≥ -1048576) then decide (n ≤ 1048576) else false
def G17 (t : A0) : Bool :=
  bif (bif (bif t.Kind == 1 then (bif (bif !Lq t.Low then true else !Lq t.High) then true else decide (t.Low > t.High)) else false) then true else
    (bif t.Kind == 2 then (bif decide (t.Size < 1) then true else decide (t.Size > 32)) else false)) then true else decide (((t.Of).length : Int) > 32)
theorem G23 (t : A0) (hf : L5 t = true) : Oi t = !G17 t := by
  have hk1 : (t.Kind == 1) = true → (t.Kind == 2) = false ∧ (t.Kind == 3) = false := fun h => by
    have : t.Kind = 1 := by simpa using h
    rw [this]; exact ⟨rfl, rfl⟩
  have hk2 : (t.Kind == 2) = true → (t.Kind == 3) = false := fun h => by
    have : t.Kind = 2 := by simpa using h
    rw [this]; rfl
  have h6 : fm6 t = true := by
    unfold L5 at hf
    simp only [Bool.and_eq_true] at hf
    exact hf.2
  have hin : (bif N3 t.Low (-1048576) 1048576 then N3 t.High t.Low 1048576 else false) = !(bif (bif !Lq t.Low then true else !Lq t.High) then true else decide (t.Low > t.High)) := by
    unfold N3 Lq
    by_cases a1 : t.Low ≥ -1048576 <;> by_cases a2 : t.Low ≤ 1048576 <;> by_cases a3 : t.High ≥ -1048576 <;> by_cases a4 : t.High ≤ 1048576 <;> by_cases a5 : t.High ≥ t.Low <;>
      simp [a1, a2, a3, a4, a5] <;> omega
  have hsz : N3 t.Size 1 32 = !(bif decide (t.Size < 1) then true else decide (t.Size > 32)) := by
    unfold N3
    rw [T1k, U1k]
    cases decide (t.Size ≥ 1) <;> cases decide (t.Size ≤ 32) <;> rfl
  unfold Oi G17 nm1 nm2
  rw [hin, hsz, U1k (((t.Of).length : Int))]
  have hl : (t.Kind == 3) = false → decide (((t.Of).length : Int) ≤ 32) = true := fun h3 => by
    unfold fm6 at h6
    rw [h3] at h6
    cases h2 : t.Kind == 2 with
    | true =>
      rw [h2] at h6
      have : ((t.Of).length : Int) = 1 := by simpa using h6
      exact decide_eq_true (by omega)
    | false =>
      rw [h2] at h6
      have : ((t.Of).length : Int) = 0 := by simpa using h6
      exact decide_eq_true (by omega)
  revert hk1 hk2 hl
  generalize (bif (bif !Lq t.Low then true else !Lq t.High) then true else decide (t.Low > t.High)) = X
  generalize (bif decide (t.Size < 1) then true else decide (t.Size > 32)) = Y
  generalize decide (((t.Of).length : Int) ≤ 32) = Z
  generalize (t.Kind == 1) = a
  generalize (t.Kind == 2) = b
  generalize (t.Kind == 3) = c
  intro hk1 hk2 hl
  cases a <;> cases b <;> cases c <;> first | exact absurd (hk1 rfl).1 (by decide) | exact absurd (hk1 rfl).2 (by decide) | exact absurd (hk2 rfl) (by decide) | (cases X <;> cases Y <;> cases Z <;> first | rfl | exact absurd (hl rfl) (by decide))
theorem J1r (t : A0) : t.all L5 = true → t.all Oi = t.all fun t => !G17 t := by
  induction t using A0.ind with
  | h t ih =>
  intro hf
  rw [A0.all_eq, Bool.and_eq_true] at hf
  rw [A0.all_eq, A0.all_eq, G23 t hf.1]
  congr 1
  have : ∀ l : List A0, (∀ x ∈ l, x.all L5 = true → x.all Oi = x.all fun t => !G17 t) → A0.alls L5 l = true → A0.alls Oi l = A0.alls (fun t => !G17 t) l := by
    intro l
    induction l with
    | nil => intros; rfl
    | cons x r ihr =>
      intro h1 h2
      simp only [A0.alls, Bool.and_eq_true] at h2
      simp only [A0.alls]
      rw [h1 x List.mem_cons_self h2.1, ihr (fun y hy => h1 y (List.mem_cons_of_mem _ hy)) h2.2]
  exact this t.Of ih hf.2
def Kc (t : A0) : Int := Jn t.nodes t.depth (!t.all L5) (!t.all Jc) (!t.all Oi)
mutual
def A0.cnt : A0 → Int
  | .mk k _ _ s _ _ of => min (bif k == 2 then min s 33 * A0.cnt1 of else bif k == 3 then A0.cnts of else 1) 33
def A0.cnt1 : List A0 → Int
  | [] => 0
  | t :: _ => A0.cnt t
def A0.cnts : List A0 → Int
  | [] => 0
  | t :: r => A0.cnt t + A0.cnts r
end
theorem A0.cnt_eq (t : A0) : t.cnt = min (bif t.Kind == 2 then min t.Size 33 * A0.cnt1 t.Of else bif t.Kind == 3 then A0.cnts t.Of else 1) 33 := by cases t; rfl
theorem A0.cnt_le (t : A0) : t.cnt ≤ 33 := by rw [A0.cnt_eq]; omega
theorem A0.alls_mem {p : A0 → Bool} : ∀ {l : List A0} {t : A0}, A0.alls p l = true → t ∈ l → t.all p = true
  | x :: r, t, h, hm => by
    simp only [A0.alls, Bool.and_eq_true] at h
    cases hm with
    | head => exact h.1
    | tail _ hm => exact A0.alls_mem h.2 hm
structure I6 (t : A0) : Prop where
  form : t.all L5 = true
  num : t.all Oi = true
theorem I6.kid {t x : A0} (h : I6 t) (hx : x ∈ t.Of) : I6 x := by
  have h1 := h.form
  have h2 := h.num
  rw [A0.all_eq, Bool.and_eq_true] at h1 h2
  exact ⟨A0.alls_mem h1.2 hx, A0.alls_mem h2.2 hx⟩
theorem I6.here {t : A0} (h : I6 t) : L5 t = true ∧ Oi t = true := by
  have h1 := h.form
  have h2 := h.num
  rw [A0.all_eq, Bool.and_eq_true] at h1 h2
  exact ⟨h1.1, h2.1⟩
theorem I6.arr {t : A0} (h : I6 t) (hk : (t.Kind == 2) = true) : ∃ x, t.Of = [x] ∧ 1 ≤ t.Size ∧ t.Size ≤ 32 := by
  obtain ⟨h1, h2⟩ := h.here
  simp only [L5, Oi, Bool.and_eq_true] at h1 h2
  have h6 := h1.2
  have hn := h2.1
  unfold fm6 at h6
  unfold nm1 N3 at hn
  rw [hk] at h6 hn
  simp only [cond_true] at h6 hn
  have hl : t.Of.length = 1 := by have : (t.Of.length : Int) = 1 := by simpa using h6
                                  omega
  obtain ⟨x, hx⟩ := List.length_eq_one_iff.1 hl
  cases hd : decide (t.Size ≥ 1) with
  | false => rw [hd] at hn; cases hn
  | true =>
    rw [hd] at hn
    exact ⟨x, hx, of_decide_eq_true hd, of_decide_eq_true hn⟩
theorem I6.recd {t : A0} (h : I6 t) (hk : (t.Kind == 3) = true) : t.Of.length ≤ 32 ∧ t.Of.length = t.Names.length ∧ 1 ≤ t.Of.length := by
  obtain ⟨h1, h2⟩ := h.here
  simp only [L5, Oi, Bool.and_eq_true] at h1 h2
  have h6 := h1.2
  have hn := h2.1
  have hk2 : (t.Kind == 2) = false := by
    have : t.Kind = 3 := by simpa using hk
    rw [this]; rfl
  unfold fm6 at h6
  unfold nm1 at hn
  rw [hk, hk2] at h6 hn
  simp only [cond_true, cond_false] at h6 hn
  have hn' : (t.Of.length : Int) ≤ 32 := of_decide_eq_true hn
  cases hd : decide ((t.Of.length : Int) ≥ 1) with
  | false => rw [hd] at h6; cases h6
  | true =>
    rw [hd] at h6
    have := of_decide_eq_true hd
    have h6' : (t.Of.length : Int) = t.Names.length := by simpa using h6
    omega
theorem A0.cnts_bound : ∀ l : List A0, (∀ x ∈ l, 0 ≤ x.cnt) → 0 ≤ A0.cnts l ∧ A0.cnts l ≤ 33 * l.length
  | [], _ => by simp [A0.cnts]
  | x :: r, h => by
    have h1 := h x List.mem_cons_self
    have h2 := A0.cnt_le x
    have h3 := A0.cnts_bound r fun y hy => h y (List.mem_cons_of_mem _ hy)
    simp only [A0.cnts, List.length_cons]
    omega
theorem A0.cnt_ge (t : A0) : I6 t → 0 ≤ t.cnt := by
  induction t using A0.ind with
  | h t ih =>
  intro hf
  rw [A0.cnt_eq]
  cases h2 : t.Kind == 2 with
  | true =>
    obtain ⟨x, hx, s1, s2⟩ := hf.arr h2
    have := ih x (by rw [hx]; exact List.mem_cons_self) (hf.kid (by rw [hx]; exact List.mem_cons_self))
    rw [hx]
    simp only [cond_true, A0.cnt1]
    have : 0 ≤ min t.Size 33 * x.cnt := Int.mul_nonneg (by omega) this
    omega
  | false =>
    cases h3 : t.Kind == 3 with
    | true =>
      have := A0.cnts_bound t.Of fun x hx => ih x hx (hf.kid hx)
      simp only [cond_true, cond_false]
      omega
    | false => simp only [cond_false]; omega
mutual
def A0.some (p : A0 → Bool) : A0 → Bool
  | .mk k l h s n ns of => p (.mk k l h s n ns of) || A0.somes p of
def A0.somes (p : A0 → Bool) : List A0 → Bool
  | [] => false
  | t :: r => A0.some p t || A0.somes p r
end
theorem A0.some_eq (p : A0 → Bool) (t : A0) : t.some p = (p t || t.Of.any (A0.some p)) := by
  have : ∀ l, A0.somes p l = l.any (A0.some p) := fun l => by
    induction l with
    | nil => rfl
    | cons x r ih => simp [A0.somes, ih]
  cases t
  simp only [A0.some, A0.Of, this]
def Rs (t : A0) : Bool := t.Kind == 4
def tw (seen : List (List UInt8)) : List (List UInt8) → Bool
  | [] => false
  | x :: r => (seen.any fun y => x == y) || tw (seen ++ [x]) r
def Jo (t : A0) : Bool := tw [] t.Names
def M1v (t : A0) : Int := bif t.some Rs then 7 else bif t.some Jo then 8 else bif decide (t.cnt > 32) then 4 else 0
theorem U1p {t : A0} (h : Kc t = 0) : I6 t := by
  unfold Kc Jn at h
  constructor
  · cases hf : t.all L5 with
    | true => rfl
    | false =>
      rw [hf] at h
      revert h
      cases (bif decide ((t.nodes : Int) > 1024) then true else decide ((t.depth : Int) > 12)) <;> simp
  · cases hf : t.all Oi with
    | true => rfl
    | false =>
      rw [hf] at h
      revert h
      cases (bif decide ((t.nodes : Int) > 1024) then true else decide ((t.depth : Int) > 12)) <;> cases t.all L5 <;> cases t.all Jc <;> simp
def Ko (t : A0) : Int := bif Kc t != 0 then Kc t else M1v t
def eqL {α : Type} (p : α → α → Bool) : List α → List α → Bool
  | [], [] => true
  | x :: r, y :: s => p x y && eqL p r s
  | _, _ => false
theorem Fy {α : Type} (p : α → α → Bool) : ∀ {l m : List α}, l.length ≠ m.length → eqL p l m = false
  | [], [], h => absurd rfl h
  | [], _ :: _, _ => rfl
  | _ :: _, [], _ => rfl
  | x :: r, y :: s, h => by rw [eqL, Fy p (l := r) (m := s) (by simpa using h), Bool.and_false]
mutual
def A0.same : A0 → A0 → Bool
  | .mk k l h s n ns of, t => k == t.Kind && l == t.Low && h == t.High && s == t.Size && n == t.Name && eqL (fun x y => x == y) ns t.Names && A0.sames of t.Of
def A0.sames : List A0 → List A0 → Bool
  | [], [] => true
  | x :: r, y :: s => A0.same x y && A0.sames r s
  | [], _ :: _ => false
  | _ :: _, [] => false
end
theorem A0.sames_eq : ∀ l m : List A0, A0.sames l m = eqL A0.same l m
  | [], [] => rfl
  | x :: r, y :: s => by simp only [A0.sames, eqL, A0.sames_eq r s]
  | [], _ :: _ => rfl
  | _ :: _, [] => rfl
theorem A0.same_eq (t u : A0) : t.same u = (t.Kind == u.Kind && t.Low == u.Low && t.High == u.High && t.Size == u.Size && t.Name == u.Name && eqL (fun x y => x == y) t.Names u.Names && eqL A0.same t.Of u.Of) := by
  rw [← A0.sames_eq]
  cases t
  rfl
def P1x (t u : A0) : Bool :=
  bif (bif (bif (bif (bif (bif t.Kind != u.Kind then true else t.Low != u.Low) then true else t.High != u.High) then true else t.Size != u.Size) then true else !(t.Name == u.Name)) then true else
    ((t.Names).length : Int) != ((u.Names).length : Int)) then true else ((t.Of).length : Int) != ((u.Of).length : Int)
theorem K2c {t u : A0} (h : P1x t u = true) : t.same u = false := by
  have hn : ((t.Names).length : Int) ≠ ((u.Names).length : Int) → eqL (fun x y => x == y) t.Names u.Names = false := fun h => Fy _ fun e => h (by omega)
  have ho : ((t.Of).length : Int) ≠ ((u.Of).length : Int) → eqL A0.same t.Of u.Of = false := fun h => Fy _ fun e => h (by omega)
  unfold P1x at h
  rw [A0.same_eq]
  by_cases h1 : ((t.Names).length : Int) = ((u.Names).length : Int)
  · by_cases h2 : ((t.Of).length : Int) = ((u.Of).length : Int)
    · rw [h1, h2] at h
      revert h
      simp only [bne, beq_self_eq_true, Bool.not_true]
      cases t.Kind == u.Kind <;> cases t.Low == u.Low <;> cases t.High == u.High <;> cases t.Size == u.Size <;> cases t.Name == u.Name <;> simp
    · rw [ho h2, Bool.and_false]
  · rw [hn h1, Bool.and_false, Bool.false_and]
theorem L2f {t u : A0} (h : P1x t u = false) : t.same u = (eqL (fun x y => x == y) t.Names u.Names && eqL A0.same t.Of u.Of) ∧ t.Names.length = u.Names.length ∧ t.Of.length = u.Of.length := by
  unfold P1x at h
  simp only [bne] at h
  have key : t.Kind == u.Kind ∧ t.Low == u.Low ∧ t.High == u.High ∧ t.Size == u.Size ∧ t.Name == u.Name ∧ ((t.Names).length : Int) == ((u.Names).length : Int) ∧ ((t.Of).length : Int) == ((u.Of).length : Int) := by
    revert h
    cases t.Kind == u.Kind <;> cases t.Low == u.Low <;> cases t.High == u.High <;> cases t.Size == u.Size <;> cases t.Name == u.Name <;> cases ((t.Names).length : Int) == ((u.Names).length : Int) <;> cases ((t.Of).length : Int) == ((u.Of).length : Int) <;> simp
  obtain ⟨k1, k2, k3, k4, k5, k6, k7⟩ := key
  refine ⟨by rw [A0.same_eq, k1, k2, k3, k4, k5]; rfl, ?_, ?_⟩
  · have : (t.Names.length : Int) = u.Names.length := by simpa using k6
    omega
  · have : (t.Of.length : Int) = u.Of.length := by simpa using k7
    omega
theorem M2h {t : A0} (hf : L5 t = true) (hk : (t.Kind == 3) = false) : Jo t = false := by
  unfold L5 fm5 at hf
  simp only [Bool.and_eq_true] at hf
  have h5 := hf.1.2
  rw [hk] at h5
  simp only [cond_false] at h5
  have : (t.Names.length : Int) = 0 := by simpa using h5
  unfold Jo
  rw [List.eq_nil_of_length_eq_zero (by omega : t.Names.length = 0)]
  rfl
end Go.Proofs.YtdkabnfphmmmnaaGreatDoor

set_option linter.unusedSimpArgs false
namespace Go.Proofs.YtdkabnfphmmmnaaGreatDoor
open Go.Am
mutual
def A0.bulk : A0 → Nat
  | .mk _ _ _ _ n ns of => 1 + (1 + (1 + (1 + ((n.length + 1) + (((ns.map fun s => s.length + 1).sum + 1) + ((A0.bulks of + 1) + 0)))))) + 1
def A0.bulks : List A0 → Nat
  | [] => 0
  | x :: r => A0.bulk x + A0.bulks r
end
theorem A0.bulk_eq (t : A0) : t.bulk = t.Name.length + (t.Names.map fun s => s.length + 1).sum + A0.bulks t.Of + 8 := by cases t; simp only [A0.bulk]; omega
theorem A0.bulk_kid {t : A0} : ∀ {l : List A0}, t ∈ l → t.bulk ≤ A0.bulks l
  | x :: r, h => by
    simp only [A0.bulks]
    cases h with
    | head => omega
    | tail _ h => have := A0.bulk_kid h; omega
theorem A0.bulk_len : ∀ l : List A0, l.length ≤ A0.bulks l
  | [] => Nat.le_refl _
  | x :: r => by
    simp only [A0.bulks, List.length_cons]
    have := A0.bulk_len r
    have := A0.bulk_eq x
    omega
theorem V1k {s : Str} : ∀ {l : List Str}, s ∈ l → s.length + 1 ≤ (l.map fun s => s.length + 1).sum
  | x :: r, h => by
    simp only [List.map_cons, List.sum_cons]
    cases h with
    | head => omega
    | tail _ h => have := V1k h; omega
theorem H23 : ∀ l : List Str, l.length ≤ (l.map fun s => s.length + 1).sum
  | [] => Nat.le_refl _
  | x :: r => by simp only [List.map_cons, List.sum_cons, List.length_cons]; have := H23 r; omega
mutual
theorem A0.nodes_bulk : ∀ t : A0, t.nodes ≤ t.bulk
  | .mk _ _ _ _ _ _ of => by simp only [A0.nodes, A0.bulk]; have := A0.nodess_bulk of; omega
theorem A0.nodess_bulk : ∀ l : List A0, A0.nodess l ≤ A0.bulks l
  | [] => Nat.le_refl _
  | x :: r => by simp only [A0.nodess, A0.bulks]; have := A0.nodes_bulk x; have := A0.nodess_bulk r; omega
end
def Ok (t : A0) : Prop := t.bulk ≤ BB
theorem Ok.kid {t x : A0} (h : Ok t) (hx : x ∈ t.Of) : Ok x := by
  unfold Ok at *
  have := A0.bulk_kid hx
  have := A0.bulk_eq t
  omega
theorem Ok.ofs {t : A0} (h : Ok t) : t.Of.length ≤ BB := by
  unfold Ok at *
  have := A0.bulk_len t.Of
  have := A0.bulk_eq t
  omega
theorem Ok.names {t : A0} (h : Ok t) : t.Names.length ≤ BB := by
  unfold Ok at *
  have := H23 t.Names
  have := A0.bulk_eq t
  omega
theorem Ok.name1 {t : A0} (h : Ok t) {s : Str} (hs : s ∈ t.Names) : s.length ≤ BB := by
  unfold Ok at *
  have := V1k hs
  have := A0.bulk_eq t
  omega
theorem Ok.name {t : A0} (h : Ok t) : t.Name.length ≤ BB := by
  unfold Ok at *
  have := A0.bulk_eq t
  omega
theorem Ok.nodes {t : A0} (h : Ok t) : t.nodes ≤ BB := Nat.le_trans (A0.nodes_bulk t) h
theorem bor (a b : Bool) : (bif a then true else b) = (a || b) := by cases a <;> rfl
theorem A1t (d : Int) (o : E0) : N8 d o = some ⟨o.nodes, max o.depth d, o.badForm, o.badName, o.badNumber⟩ := rfl
theorem B1t (b : Bool) (o : E0) : Y0 b o = some ⟨o.nodes, o.depth, o.badForm || !b, o.badName, o.badNumber⟩ := by unfold Y0; rw [bor]
theorem F1c (b : Bool) (o : E0) : J2 b o = some ⟨o.nodes, o.depth, o.badForm, o.badName, o.badNumber || !b⟩ := by unfold J2; rw [bor]
theorem Tt (a b c : Int) : T4 a b c = some (N3 a b c) := rfl
theorem W1k (s : Str) (hs : s.length ≤ BB) (o : E0) : H5 s o = some ⟨o.nodes, o.depth, o.badForm, o.badName || !Y8 s, o.badNumber⟩ := by
  unfold H5
  rw [U1y s hs]
  cases h : o.badName <;> simp
theorem I23 (o : E0) : E7 o = some (Jn o.nodes o.depth o.badForm o.badName o.badNumber) := by
  unfold E7 Jn
  cases (bif decide (o.nodes > 1024) then true else decide (o.depth > 12)) <;> cases o.badForm <;> cases o.badName <;> cases o.badNumber <;> rfl
def Lo (o : E0) (d : Int) (n m : Nat) (f a u : Bool) : E0 := ⟨o.nodes + n, max o.depth (d + m), o.badForm || !f, o.badName || !a, o.badNumber || !u⟩
theorem L2c (t : A0) (d : Int) (hd : 0 ≤ d) (ht : Ok t)
    (ih : ∀ x ∈ t.Of, ∀ (d : Int) (o : E0), 0 ≤ d → d + x.nodes ≤ 4 * BB → 0 ≤ o.nodes → o.nodes + x.nodes ≤ 4 * BB → F5 x d o = some (Lo o d x.nodes (x.depth - 1) (x.all L5) (x.all Jc) (x.all Oi))) :
    ∀ (r : List A0) (k : Nat) (o : E0), t.Of.drop k = r → (∀ x ∈ r, x ∈ t.Of) → d + 1 + A0.nodess r ≤ 4 * BB → 0 ≤ o.nodes → o.nodes + A0.nodess r ≤ 4 * BB → d ≤ o.depth →
      C5 t d o k = some (Lo o d (A0.nodess r) (A0.depths r) (A0.alls L5 r) (A0.alls Jc r) (A0.alls Oi r))
  | [], k, o, h, _, _, _, _, h5 => by
    rw [C5, (I1 h).1]
    simp only [Lo, A0.nodess, A0.depths, A0.alls, Bool.not_true, Bool.or_false]
    rw [if_neg (by simp), show o.nodes + ((0 : Nat) : Int) = o.nodes by omega, show max o.depth (d + ((0 : Nat) : Int)) = o.depth by omega]
  | x :: r, k, o, h, hm, hb, h3, h4, h5 => by
    obtain ⟨e1, e2, e3, e4, e5⟩ := V1 h
    simp only [A0.nodess] at hb h4
    have hdp : 1 ≤ x.depth := by rw [A0.depth_eq]; omega
    have hof := ht.ofs
    unfold BB at hb h4 hof
    rw [C5, e1, if_pos rfl, e2, ob, wr (n := d + 1) (by omega) (by omega), ih x e5 (d + 1) o (by omega) (by unfold BB; omega) h3 (by unfold BB; omega), ob, w1 (by unfold BB; omega),
      L2c t d hd ht ih r (k + 1) _ e3 (fun y hy => hm y (List.mem_cons_of_mem _ hy)) (by unfold BB; omega) (by simp only [Lo]; omega) (by simp only [Lo]; unfold BB; omega) (by simp only [Lo]; omega)]
    simp only [Lo, A0.nodess, A0.depths, A0.alls, Q19]
    rw [show o.nodes + (x.nodes : Int) + (A0.nodess r : Nat) = o.nodes + ((x.nodes + A0.nodess r : Nat) : Int) by omega,
      show max (max o.depth (d + 1 + ((x.depth - 1 : Nat) : Int))) (d + (A0.depths r : Nat)) = max o.depth (d + ((max x.depth (A0.depths r) : Nat) : Int)) by omega]
theorem M2c (t : A0) (d : Int) (ht : Ok t) (R : E0 → Option E0) (hR : ∀ o, C5 t d o 0 = R o) :
    ∀ (r : List Str) (k : Nat) (o : E0), t.Names.drop k = r → L4 t d o k = R ⟨o.nodes, o.depth, o.badForm, o.badName || !r.all Y8, o.badNumber⟩
  | [], k, o, h => by
    rw [L4, (I1 h).1, if_neg (by simp), hR]
    simp
  | x :: r, k, o, h => by
    obtain ⟨e1, e2, e3, e4, e5⟩ := V1 h
    have := ht.names
    rw [L4, e1, if_pos rfl, e2, ob, W1k x (ht.name1 e5), ob, w1 (by omega), M2c t d ht R hR r (k + 1) _ e3]
    simp only [List.all_cons, Q19]
theorem L2i (t : A0) (d : Int) (ht : Ok t) (o : E0) : U5 t d o = L4 t d ⟨o.nodes, o.depth, o.badForm, o.badName || !na1 t, o.badNumber⟩ 0 := by
  rw [U5, W1k _ ht.name, ob, B7, B7]
  unfold na1
  cases h : t.Kind == 4 <;> simp
theorem M2i (t : A0) (d : Int) (o : E0) : T5 t d o = U5 t d ⟨o.nodes, o.depth, o.badForm, o.badName, o.badNumber || !nm2 t⟩ := by
  rw [T5]
  unfold nm2
  simp only [Tt, F1c, ob]
  cases h : t.Kind == 1 <;> cases N3 t.Low (-1048576) 1048576 <;> simp [ob]
theorem N2c (t : A0) : Ok t → ∀ (d : Int) (o : E0), 0 ≤ d → d + t.nodes ≤ 4 * BB → 0 ≤ o.nodes → o.nodes + t.nodes ≤ 4 * BB →
    F5 t d o = some (Lo o d t.nodes (t.depth - 1) (t.all L5) (t.all Jc) (t.all Oi)) := by
  induction t using A0.ind with
  | h t ih =>
  intro ht d o hd hb h3 h4
  have h5 := fun o h3 h4 hd' => L2c t d hd ht (fun x hx => ih x hx (ht.kid hx)) t.Of 0 o rfl (fun _ h => h) (by rw [A0.nodes_eq] at hb; omega) h3 h4 hd'
  have l4 := M2c t d ht _ (fun o => rfl) t.Names 0
  rw [A0.nodes_eq] at hb h4
  unfold BB at hb h4
  rw [F5]
  simp only [A1t, B1t, Tt, F1c, ob, M2i, L2i t d ht]
  rw [wr (n := o.nodes + 1) (by omega) (by omega)]
  have fin : ∀ b6 u1, fm6 t = b6 → nm1 t = u1 →
      L4 t d ⟨o.nodes + 1, max o.depth d, (((((o.badForm || !fm1 t) || !fm2 t) || !fm3 t) || !fm4 t) || !fm5 t) || !b6, o.badName || !na1 t, (o.badNumber || !u1) || !nm2 t⟩ 0
        = some (Lo o d t.nodes (t.depth - 1) (t.all L5) (t.all Jc) (t.all Oi)) := by
    rintro _ _ rfl rfl
    have := l4 ⟨o.nodes + 1, max o.depth d, (((((o.badForm || !fm1 t) || !fm2 t) || !fm3 t) || !fm4 t) || !fm5 t) || !fm6 t, o.badName || !na1 t, (o.badNumber || !nm1 t) || !nm2 t⟩ rfl
    rw [show ((0 : Nat) : Int) = 0 from rfl] at this h5
    rw [this, h5 _ (by simp only; omega) (by simp only; unfold BB; omega) (by simp only; omega)]
    simp only [Lo, A0.all_eq, A0.nodes_eq, A0.depth_eq, L5, Jc, Oi, Q19, Bool.or_assoc, ← Bool.not_and]
    simp only [Q19, Bool.and_assoc]
    rw [show o.nodes + 1 + (A0.nodess t.Of : Int) = o.nodes + ((A0.nodess t.Of + 1 : Nat) : Int) by omega, show max (max o.depth d) (d + (A0.depths t.Of : Int)) = max o.depth (d + ((A0.depths t.Of + 1 - 1 : Nat) : Int)) by omega]
  have h2 : (t.Kind == 2) = true ∨ (t.Kind == 2) = false := by cases t.Kind == 2 <;> simp
  have h3 : (t.Kind == 3) = true ∨ (t.Kind == 3) = false := by cases t.Kind == 3 <;> simp
  rcases h2 with h2 | h2
  · rw [if_pos h2]
    exact fin ((t.Of.length : Int) == 1) (N3 t.Size 1 32) (by unfold fm6; rw [h2, cond_true]) (by unfold nm1; rw [h2, cond_true])
  · rw [if_neg (by rw [h2]; simp)]
    rcases h3 with h3 | h3
    · rw [if_pos h3]
      exact fin (bif decide ((t.Of.length : Int) ≥ 1) then (t.Of.length : Int) == (t.Names.length : Int) else false) (decide ((t.Of.length : Int) ≤ 32)) (by unfold fm6; rw [h2, h3, cond_false, cond_true]) (by unfold nm1; rw [h2, h3, cond_false, cond_true])
    · rw [if_neg (by rw [h3]; simp)]
      have := fin ((t.Of.length : Int) == 0) true (by unfold fm6; rw [h2, h3, cond_false, cond_false]) (by unfold nm1; rw [h2, h3, cond_false, cond_false])
      rw [Bool.not_true, Bool.or_false] at this
      exact this
theorem X1o (t : A0) (ht : Ok t) : Tc t = some (Kc t) := by
  have hn := ht.nodes
  unfold BB at hn
  have hp : 1 ≤ t.depth := by rw [A0.depth_eq]; omega
  unfold Tc
  rw [N2c t ht 1 _ (by omega) (by unfold BB; omega) (by simp) (by simp only; unfold BB; omega), ob, I23, ob]
  unfold Lo Kc
  simp only [Bool.false_or]
  rw [show (0 : Int) + (t.nodes : Int) = t.nodes by omega, show max 0 ((1 : Int) + ((t.depth - 1 : Nat) : Int)) = t.depth by omega]
end Go.Proofs.YtdkabnfphmmmnaaGreatDoor

set_option linter.unusedSimpArgs false
namespace Go.Proofs.YtdkabnfphmmmnaaGreatDoor
open Go.Am
theorem J23 (t : A0) (ht : Ok t) (ih : ∀ x ∈ t.Of, Kf x = some (x.nodes : Int)) :
    ∀ (r : List A0) (k : Nat) (n : Nat), t.Of.drop k = r → n + A0.nodess r ≤ BB → Yc t (n : Int) k = some ((n + A0.nodess r : Nat) : Int)
  | [], k, n, h, hb => by rw [Yc, (I1 h).1, if_neg (by simp)]; simp [A0.nodess]
  | x :: r, k, n, h, hb => by
    obtain ⟨e1, e2, e3, e4, e5⟩ := V1 h
    have := ht.ofs
    simp only [A0.nodess] at hb
    have hb' := hb
    unfold BB at hb'
    rw [Yc, e1, if_pos rfl, e2, ob, ih x e5, ob, wr (n := (n : Int) + _) (by omega) (by omega), w1 (by omega), show (n : Int) + (x.nodes : Int) = ((n + x.nodes : Nat) : Int) by omega, J23 t ht ih r (k + 1) _ e3 (by omega)]
    simp only [A0.nodess, Nat.add_assoc]
theorem V1y (t : A0) : Ok t → Kf t = some (t.nodes : Int) := by
  induction t using A0.ind with
  | h t ih =>
  intro ht
  have hn := ht.nodes
  rw [A0.nodes_eq] at hn
  rw [Kf]
  have := J23 t ht (fun x hx => ih x hx (ht.kid hx)) t.Of 0 1 rfl (by omega)
  rw [A0.nodes_eq, Nat.add_comm]
  exact this
theorem C1t (t : A0) (ht : Ok t) (ih : ∀ x ∈ t.Of, Lf x = some (x.depth : Int)) (B : Nat) (hB : B ≤ BB) :
    ∀ (r : List A0) (k : Nat) (n : Nat), t.Of.drop k = r → n ≤ B → A0.depths r ≤ B → Pa t (n : Int) k = some ((max n (A0.depths r) + 1 : Nat) : Int)
  | [], k, n, h, hb, _ => by
    rw [Pa, (I1 h).1, if_neg (by simp), w1 (by omega)]
    simp [A0.depths]
  | x :: r, k, n, h, hb, hd => by
    obtain ⟨e1, e2, e3, e4, e5⟩ := V1 h
    have := ht.ofs
    simp only [A0.depths] at hd
    rw [Pa, e1, if_pos rfl, e2, ob, ih x e5, ob, w1 (by omega), C1t t ht ih B hB r (k + 1) _ e3 (by omega) (by omega), C1t t ht ih B hB r (k + 1) _ e3 (by omega) (by omega)]
    simp only [A0.depths]
    by_cases hx : (x.depth : Int) > (n : Int)
    · rw [if_pos (decide_eq_true hx), show max n (max x.depth (A0.depths r)) = max x.depth (A0.depths r) by omega]
    · rw [if_neg (by simpa using hx), show max n (max x.depth (A0.depths r)) = max n (A0.depths r) by omega]
theorem W1y (t : A0) : Ok t → Lf t = some (t.depth : Int) := by
  induction t using A0.ind with
  | h t ih =>
  intro ht
  have hn := ht.nodes
  have hd := A0.depth_nodes t
  rw [Lf]
  rw [A0.depth_eq] at hd
  have := C1t t ht (fun x hx => ih x hx (ht.kid hx)) BB (Nat.le_refl _) t.Of 0 0 rfl (by omega) (by omega)
  rw [A0.depth_eq]
  rw [show max 0 (A0.depths t.Of) = A0.depths t.Of by omega] at this
  exact this
theorem N2h (t : A0) (ht : Ok t) : Ej ⟨0, 0⟩ t true = some ⟨t.nodes, t.depth⟩ := by
  have hn := ht.nodes
  unfold BB at hn
  have hp : 1 ≤ t.depth := by rw [A0.depth_eq]; omega
  unfold Ej
  rw [V1y t ht, W1y t ht]
  simp only [Bool.not_true, cond_false, ob, N9]
  rw [if_neg (by simp), ob, if_neg (by simp), wr (n := (0 : Int) + (t.nodes : Int)) (by omega) (by omega), if_pos (decide_eq_true (by omega)), ob]
  rw [show (0 : Int) + (t.nodes : Int) = t.nodes by omega]
theorem N27 (t : A0) (ht : Ok t) (ih : ∀ x ∈ t.Of, De x = some (x.all L5)) : ∀ (r : List A0) (k : Nat), t.Of.drop k = r → Af t k = some (A0.alls L5 r)
  | [], k, h => by rw [Af, (I1 h).1, if_neg (by simp)]; rfl
  | x :: r, k, h => by
    obtain ⟨e1, e2, e3, e4, e5⟩ := V1 h
    have := ht.ofs
    rw [Af, e1, if_pos rfl, e2, ob, ih x e5, ob, w1 (by omega), N27 t ht ih r (k + 1) e3, A0.alls]
    cases x.all L5 <;> simp
theorem K23 (t : A0) : Ok t → De t = some (t.all L5) := by
  induction t using A0.ind with
  | h t ih =>
  intro ht
  have h1 := N27 t ht (fun x hx => ih x hx (ht.kid hx)) t.Of 0 rfl
  rw [show ((0 : Nat) : Int) = 0 from rfl] at h1
  rw [De, h1, A0.all_eq, K2f]
  show (if D23 t = true then some false else if E23 t = true then some false else if F23 t = true then some false else some (A0.alls L5 t.Of)) = _
  cases D23 t <;> cases E23 t <;> cases F23 t <;> simp
theorem X1y (t : A0) (ht : Ok t) (ih : ∀ x ∈ t.Of, Ic x = some (x.all Jc)) : ∀ (r : List A0) (k : Nat), t.Of.drop k = r → Ra t k = some (A0.alls Jc r)
  | [], k, h => by rw [Ra, (I1 h).1, if_neg (by simp)]; rfl
  | x :: r, k, h => by
    obtain ⟨e1, e2, e3, e4, e5⟩ := V1 h
    have := ht.ofs
    rw [Ra, e1, if_pos rfl, e2, ob, ih x e5, ob, w1 (by omega), X1y t ht ih r (k + 1) e3, A0.alls]
    cases x.all Jc <;> simp
theorem Y1y (t : A0) (ht : Ok t) (b : Bool) (hb : Ra t 0 = some b) : ∀ (r : List Str) (k : Nat), t.Names.drop k = r → Dd t k = some (r.all Y8 && b)
  | [], k, h => by rw [Dd, (I1 h).1, if_neg (by simp), hb]; rfl
  | x :: r, k, h => by
    obtain ⟨e1, e2, e3, e4, e5⟩ := V1 h
    have := ht.names
    rw [Dd, e1, if_pos rfl, e2, ob, Qs x (ht.name1 e5), ob, w1 (by omega), Y1y t ht b hb r (k + 1) e3, List.all_cons]
    cases Y8 x <;> simp
theorem Z1y (t : A0) : Ok t → Ic t = some (t.all Jc) := by
  induction t using A0.ind with
  | h t ih =>
  intro ht
  have h2 := X1y t ht (fun x hx => ih x hx (ht.kid hx)) t.Of 0 rfl
  have h1 := Y1y t ht _ h2 t.Names 0 rfl
  rw [show ((0 : Nat) : Int) = 0 from rfl] at h1
  rw [Ic, h1, A0.all_eq, Qs t.Name ht.name]
  unfold Jc na1
  cases t.Kind == 4 <;> cases Y8 t.Name <;> simp
theorem N1v (t : A0) (ht : Ok t) (ih : ∀ x ∈ t.Of, O9 x = some (x.all fun t => !G17 t)) : ∀ (r : List A0) (k : Nat), t.Of.drop k = r → Bb t k = some (A0.alls (fun t => !G17 t) r)
  | [], k, h => by rw [Bb, (I1 h).1, if_neg (by simp)]; rfl
  | x :: r, k, h => by
    obtain ⟨e1, e2, e3, e4, e5⟩ := V1 h
    have := ht.ofs
    rw [Bb, e1, if_pos rfl, e2, ob, ih x e5, ob, w1 (by omega), N1v t ht ih r (k + 1) e3, A0.alls]
    cases x.all (fun t => !G17 t) <;> simp
theorem E1g (n : Int) : Bl n = some (Lq n) := rfl
theorem K1r (t : A0) : Ok t → O9 t = some (t.all fun t => !G17 t) := by
  induction t using A0.ind with
  | h t ih =>
  intro ht
  have h1 := N1v t ht (fun x hx => ih x hx (ht.kid hx)) t.Of 0 rfl
  rw [show ((0 : Nat) : Int) = 0 from rfl] at h1
  rw [O9, h1, A0.all_eq]
  simp only [E1g]
  generalize A0.alls (fun t => !G17 t) t.Of = A
  unfold G17
  generalize decide ((t.Of.length : Int) > 32) = b1
  generalize (bif t.Kind == 2 then (bif decide (t.Size < 1) then true else decide (t.Size > 32)) else false) = b2
  generalize decide (t.Low > t.High) = b3
  cases t.Kind == 1 <;> cases Lq t.Low <;> cases Lq t.High <;> cases b1 <;> cases b2 <;> cases b3 <;> rfl
theorem L1r (s : Q0) (f m u : Bool) : Mp s f m u = some (Jn s.nodes s.depth (!f) (!m) (!u)) := by
  unfold Mp Jn
  cases (bif decide (s.nodes > 1024) then true else decide (s.depth > 12)) <;> cases f <;> cases m <;> cases u <;> rfl
theorem R1l (t : A0) (ht : Ok t) : Ul t = some (Kc t) := by
  unfold Ul Kc
  rw [N2h t ht, K23 t ht, Z1y t ht, K1r t ht]
  simp only [ob, L1r]
  cases hf : t.all L5 with
  | true => rw [J1r t hf]
  | false => unfold Jn; rfl
end Go.Proofs.YtdkabnfphmmmnaaGreatDoor

set_option linter.unusedSimpArgs false
set_option linter.unusedVariables false
namespace Go.Proofs.YtdkabnfphmmmnaaGreatDoor
open Go.Am
theorem C0.ind {P : C0 → Prop} (h : ∀ t : C0, (∀ x ∈ t.Kids, P x) → P t) : ∀ t, P t := by
  intro t
  refine C0.rec (motive_1 := P) (motive_2 := fun l => ∀ x ∈ l, P x) ?_ ?_ ?_ t
  · intro k l n of ih
    exact h _ ih
  · intro x hx; cases hx
  · intro x r hx hr y hy
    cases hy with
    | head => exact hx
    | tail _ hy => exact hr y hy
mutual
def C0.depth : C0 → Nat
  | .mk _ _ _ of => C0.depths of + 1
def C0.depths : List C0 → Nat
  | [] => 0
  | t :: r => max (C0.depth t) (C0.depths r)
end
theorem C0.depth_eq (t : C0) : t.depth = C0.depths t.Kids + 1 := by cases t; simp [C0.depth, C0.Kids]
theorem C0.depth_le : ∀ {l : List C0} {t : C0}, t ∈ l → t.depth ≤ C0.depths l
  | x :: r, t, h => by
    simp only [C0.depths]
    cases h with
    | head => omega
    | tail _ h => have := C0.depth_le h; omega
mutual
def C0.all (p : C0 → Bool) : C0 → Bool
  | .mk k l n of => p (.mk k l n of) && C0.alls p of
def C0.alls (p : C0 → Bool) : List C0 → Bool
  | [] => true
  | t :: r => C0.all p t && C0.alls p r
end
theorem C0.all_eq (p : C0 → Bool) (t : C0) : t.all p = (p t && C0.alls p t.Kids) := by cases t; rfl
mutual
def C0.nodes : C0 → Nat
  | .mk _ _ _ of => C0.nodess of + 1
def C0.nodess : List C0 → Nat
  | [] => 0
  | t :: r => C0.nodes t + C0.nodess r
end
theorem C0.nodes_eq (t : C0) : t.nodes = C0.nodess t.Kids + 1 := by cases t; rfl
mutual
theorem C0.depth_nodes : ∀ t : C0, t.depth ≤ t.nodes
  | .mk _ _ _ of => by simp only [C0.depth, C0.nodes]; have := C0.depths_nodess of; omega
theorem C0.depths_nodess : ∀ l : List C0, C0.depths l ≤ C0.nodess l
  | [] => Nat.le_refl _
  | t :: r => by simp only [C0.depths, C0.nodess]; have := C0.depth_nodes t; have := C0.depths_nodess r; omega
end
mutual
def C0.bulk : C0 → Nat
  | .mk _ _ n ks => 1 + (1 + ((n.length + 1) + ((C0.bulks ks + 1) + 0))) + 1
def C0.bulks : List C0 → Nat
  | [] => 0
  | x :: r => C0.bulk x + C0.bulks r
end
theorem C0.bulk_eq (t : C0) : t.bulk = t.Name.length + C0.bulks t.Kids + 5 := by cases t; simp only [C0.bulk]; omega
theorem C0.bulk_kid {t : C0} : ∀ {l : List C0}, t ∈ l → t.bulk ≤ C0.bulks l
  | x :: r, h => by
    simp only [C0.bulks]
    cases h with
    | head => omega
    | tail _ h => have := C0.bulk_kid h; omega
theorem C0.bulk_len : ∀ l : List C0, l.length ≤ C0.bulks l
  | [] => Nat.le_refl _
  | x :: r => by
    simp only [C0.bulks, List.length_cons]
    have := C0.bulk_len r
    have := C0.bulk_eq x
    omega
mutual
theorem C0.nodes_bulk : ∀ t : C0, t.nodes ≤ t.bulk
  | .mk _ _ _ of => by simp only [C0.nodes, C0.bulk]; have := C0.nodess_bulk of; omega
theorem C0.nodess_bulk : ∀ l : List C0, C0.nodess l ≤ C0.bulks l
  | [] => Nat.le_refl _
  | x :: r => by simp only [C0.nodess, C0.bulks]; have := C0.nodes_bulk x; have := C0.nodess_bulk r; omega
end
def OkE (t : C0) : Prop := t.bulk ≤ BB
theorem OkE.kid {t x : C0} (h : OkE t) (hx : x ∈ t.Kids) : OkE x := by
  unfold OkE at *
  have := C0.bulk_kid hx
  have := C0.bulk_eq t
  omega
theorem OkE.kids {t : C0} (h : OkE t) : t.Kids.length ≤ BB := by
  unfold OkE at *
  have := C0.bulk_len t.Kids
  have := C0.bulk_eq t
  omega
theorem OkE.name {t : C0} (h : OkE t) : t.Name.length ≤ BB := by
  unfold OkE at *
  have := C0.bulk_eq t
  omega
theorem OkE.nodes {t : C0} (h : OkE t) : t.nodes ≤ BB := Nat.le_trans (C0.nodes_bulk t) h
theorem C0.alls_mem {p : C0 → Bool} : ∀ {l : List C0} {t : C0}, C0.alls p l = true → t ∈ l → t.all p = true
  | x :: r, t, h, hm => by
    simp only [C0.alls, Bool.and_eq_true] at h
    cases hm with
    | head => exact h.1
    | tail _ hm => exact C0.alls_mem h.2 hm
def ar (o : Int) : Int :=
  bif (bif (bif (bif (o == 0) then true else (o == 1)) then true else (o == 2)) then true else (o == 3)) then 0
  else bif (bif (bif (o == 4) then true else (o == 6)) then true else (o == 7)) then 1
  else bif (bif (o == 5) then true else (bif (decide (o ≥ 8)) then (decide (o ≤ 22)) else false)) then 2
  else bif (o == 23) then 3 else -1
theorem O2h (o : Int) : T12 o = some (ar o) := by
  unfold T12 ar
  cases (bif (bif (bif (o == 0) then true else (o == 1)) then true else (o == 2)) then true else (o == 3)) <;> cases (bif (bif (o == 4) then true else (o == 6)) then true else (o == 7)) <;>
    cases (bif (o == 5) then true else (bif (decide (o ≥ 8)) then (decide (o ≤ 22)) else false)) <;> cases o == 23 <;> rfl
theorem M2f (o : Int) : Nn o = some (ar o) := by
  by_cases h : o = 23
  · subst h; rfl
  have h' : (o == 23) = false := beq_eq_false_iff_ne.2 h
  simp only [Nn, Ec, Ff, ar, h']
  cases o == 0 <;> cases o == 1 <;> cases o == 2 <;> cases o == 3 <;> first | rfl | skip
  cases o == 4 <;> cases o == 6 <;> cases o == 7 <;> first | rfl | skip
  cases o == 5 <;> cases (bif decide (o ≥ 8) then decide (o ≤ 22) else false) <;> rfl
mutual
def C0.place : C0 → Bool
  | .mk op _ _ ks => bif op == 3 then true else bif (bif op == 4 then true else op == 5) then C0.place1 ks else false
def C0.place1 : List C0 → Bool
  | [] => false
  | x :: _ => C0.place x
end
theorem C0.place_eq (e : C0) : e.place = (bif e.Op == 3 then true else bif (bif e.Op == 4 then true else e.Op == 5) then C0.place1 e.Kids else false) := by cases e; simp only [C0.place]
theorem b3 {o : Int} (h : (bif o == 4 then true else o == 5) = true) : (o == 3) = false := by
  apply beq_eq_false_iff_ne.2
  rintro rfl
  cases h
theorem A1z (e : C0) : Uk e = some e.place := by
  unfold Uk
  induction e using C0.ind with
  | h e ih =>
  rw [Fc, C0.place_eq]
  cases hb : (bif e.Op == 4 then true else e.Op == 5) with
  | false => cases e.Op == 3 <;> simp
  | true =>
    rw [b3 hb]
    cases hk : e.Kids with
    | nil => rfl
    | cons k r =>
      have := ih k (by rw [hk]; simp)
      have h0 : idx (k :: r) 0 = some k := rfl
      have h1 : (((k :: r).length : Int) == 0) = false := beq_eq_false_iff_ne.2 (by simp only [List.length_cons]; omega)
      simp only [h1, h0, ob, this, cond_true, cond_false, C0.place1]
      simp
theorem B1z (e : C0) : Fj e = some e.place := by
  induction e using C0.ind with
  | h e ih =>
  rw [Fj, C0.place_eq]
  cases h3 : e.Op == 3 with
  | true => simp
  | false =>
    cases hb : (bif e.Op == 4 then true else e.Op == 5) with
    | false => simp [ob]
    | true =>
      cases hk : e.Kids with
      | nil => simp [ob, C0.place1]
      | cons k r =>
        have := ih k (by rw [hk]; simp)
        have h0 : idx (k :: r) 0 = some k := rfl
        have h1 : decide (((k :: r).length : Int) > 0) = true := decide_eq_true (by simp only [List.length_cons]; omega)
        simp only [h1, h0, ob, cond_true, cond_false, C0.place1]
        simp [ob, this]
def ef1 (e : C0) : Bool := ar e.Op == (e.Kids.length : Int)
def ef2 (e : C0) : Bool := bif e.NV == 0 then true else e.Op == 0
def ef3 (e : C0) : Bool := bif e.Name == [] then true else bif e.Op == 3 then true else e.Op == 4
def ef4 (e : C0) : Bool := bif (bif e.Op == 4 then true else e.Op == 5) then e.place else true
def N4 (e : C0) : Bool := ef1 e && ef2 e && ef3 e && ef4 e
def Ga (e : C0) : Bool := bif (bif e.Op == 3 then true else e.Op == 4) then Y8 e.Name else true
def P9 (e : C0) : Bool := bif e.Op == 0 then N3 e.NV 0 1048576 else true
theorem O27 (e : C0) (d : Int) (hd : 0 ≤ d) (ht : OkE e)
    (ih : ∀ x ∈ e.Kids, ∀ (d : Int) (o : E0), 0 ≤ d → d + x.nodes ≤ 4 * BB → 0 ≤ o.nodes → o.nodes + x.nodes ≤ 4 * BB → P3 x d o = some (Lo o d x.nodes (x.depth - 1) (x.all N4) (x.all Ga) (x.all P9))) :
    ∀ (r : List C0) (k : Nat) (o : E0), e.Kids.drop k = r → d + 1 + C0.nodess r ≤ 4 * BB → 0 ≤ o.nodes → o.nodes + C0.nodess r ≤ 4 * BB → d ≤ o.depth →
      A4 e d o k = some (Lo o d (C0.nodess r) (C0.depths r) (C0.alls N4 r) (C0.alls Ga r) (C0.alls P9 r))
  | [], k, o, h, _, _, _, h5 => by
    rw [A4, (I1 h).1]
    simp only [Lo, C0.nodess, C0.depths, C0.alls, Bool.not_true, Bool.or_false]
    rw [if_neg (by simp), show o.nodes + ((0 : Nat) : Int) = o.nodes by omega, show max o.depth (d + ((0 : Nat) : Int)) = o.depth by omega]
  | x :: r, k, o, h, hb, h3, h4, h5 => by
    obtain ⟨e1, e2, e3, e4, e5⟩ := V1 h
    simp only [C0.nodess] at hb h4
    have hdp : 1 ≤ x.depth := by rw [C0.depth_eq]; omega
    have hof := ht.kids
    unfold BB at hb h4 hof
    rw [A4, e1, if_pos rfl, e2, ob, wr (n := d + 1) (by omega) (by omega), ih x e5 (d + 1) o (by omega) (by unfold BB; omega) h3 (by unfold BB; omega), ob, w1 (by unfold BB; omega),
      O27 e d hd ht ih r (k + 1) _ e3 (by unfold BB; omega) (by simp only [Lo]; omega) (by simp only [Lo]; unfold BB; omega) (by simp only [Lo]; omega)]
    simp only [Lo, C0.nodess, C0.depths, C0.alls, Q19]
    rw [show o.nodes + (x.nodes : Int) + (C0.nodess r : Nat) = o.nodes + ((x.nodes + C0.nodess r : Nat) : Int) by omega,
      show max (max o.depth (d + 1 + ((x.depth - 1 : Nat) : Int))) (d + (C0.depths r : Nat)) = max o.depth (d + ((max x.depth (C0.depths r) : Nat) : Int)) by omega]
theorem N2f (e : C0) (ht : OkE e) (d : Int) (o : E0) : K6 e d o = A4 e d ⟨o.nodes, o.depth, o.badForm, o.badName || !Ga e, o.badNumber || !P9 e⟩ 0 := by
  rw [K6, W1k _ ht.name, ob]
  simp only [X7, Y7, Tt, F1c, ob]
  unfold Ga P9
  cases (bif e.Op == 3 then true else e.Op == 4) <;> cases e.Op == 0 <;> simp
theorem O2f (e : C0) : OkE e → ∀ (d : Int) (o : E0), 0 ≤ d → d + e.nodes ≤ 4 * BB → 0 ≤ o.nodes → o.nodes + e.nodes ≤ 4 * BB →
    P3 e d o = some (Lo o d e.nodes (e.depth - 1) (e.all N4) (e.all Ga) (e.all P9)) := by
  induction e using C0.ind with
  | h e ih =>
  intro ht d o hd hb h3 h4
  have h5 := fun o h3 h4 hd' => O27 e d hd ht (fun x hx => ih x hx (ht.kid hx)) e.Kids 0 o rfl (by rw [C0.nodes_eq] at hb; omega) h3 h4 hd'
  rw [C0.nodes_eq] at hb h4
  unfold BB at hb h4
  rw [P3]
  simp only [A1t, B1t, M2f, A1z, ob, N2f e ht]
  rw [wr (n := o.nodes + 1) (by omega) (by omega)]
  rw [show ((0 : Nat) : Int) = 0 from rfl] at h5
  have fin : ∀ f : Bool, ef4 e = f → A4 e d ⟨o.nodes + 1, max o.depth d, (((o.badForm || !ef1 e) || !ef2 e) || !ef3 e) || !f, o.badName || !Ga e, o.badNumber || !P9 e⟩ 0 = some (Lo o d e.nodes (e.depth - 1) (e.all N4) (e.all Ga) (e.all P9)) := by
    rintro _ rfl
    rw [h5 _ (by simp only; omega) (by simp only; unfold BB; omega) (by simp only; omega)]
    simp only [Lo, C0.all_eq, C0.nodes_eq, C0.depth_eq, N4, Q19, Bool.or_assoc, ← Bool.not_and]
    simp only [Q19, Bool.and_assoc]
    rw [show o.nodes + 1 + (C0.nodess e.Kids : Int) = o.nodes + ((C0.nodess e.Kids + 1 : Nat) : Int) by omega, show max (max o.depth d) (d + (C0.depths e.Kids : Int)) = max o.depth (d + ((C0.depths e.Kids + 1 - 1 : Nat) : Int)) by omega]
  cases hb : (bif e.Op == 4 then true else e.Op == 5) with
  | true =>
    rw [if_pos rfl]
    exact fin e.place (by unfold ef4; rw [hb]; rfl)
  | false =>
    rw [if_neg (by simp)]
    have := fin true (by unfold ef4; rw [hb]; rfl)
    rw [Bool.not_true, Bool.or_false] at this
    exact this
end Go.Proofs.YtdkabnfphmmmnaaGreatDoor

set_option linter.unusedSimpArgs false
set_option linter.unusedVariables false
namespace Go.Proofs.YtdkabnfphmmmnaaGreatDoor
open Go.Am
theorem C1z (t : C0) (ht : OkE t) (ih : ∀ x ∈ t.Kids, Nf x = some (x.nodes : Int)) :
    ∀ (r : List C0) (k : Nat) (n : Nat), t.Kids.drop k = r → n + C0.nodess r ≤ BB → Ad t (n : Int) k = some ((n + C0.nodess r : Nat) : Int)
  | [], k, n, h, hb => by rw [Ad, (I1 h).1, if_neg (by simp)]; simp [C0.nodess]
  | x :: r, k, n, h, hb => by
    obtain ⟨e1, e2, e3, e4, e5⟩ := V1 h
    have := ht.kids
    simp only [C0.nodess] at hb
    have hb' := hb
    unfold BB at hb'
    rw [Ad, e1, if_pos rfl, e2, ob, ih x e5, ob, wr (n := (n : Int) + _) (by omega) (by omega), w1 (by omega), show (n : Int) + (x.nodes : Int) = ((n + x.nodes : Nat) : Int) by omega, C1z t ht ih r (k + 1) _ e3 (by omega)]
    simp only [C0.nodess, Nat.add_assoc]
theorem V29 (t : C0) : OkE t → Nf t = some (t.nodes : Int) := by
  induction t using C0.ind with
  | h t ih =>
  intro ht
  have hn := ht.nodes
  rw [C0.nodes_eq] at hn
  rw [Nf]
  have := C1z t ht (fun x hx => ih x hx (ht.kid hx)) t.Kids 0 1 rfl (by omega)
  rw [C0.nodes_eq, Nat.add_comm]
  exact this
theorem Y1o (t : C0) (ht : OkE t) (ih : ∀ x ∈ t.Kids, Pf x = some (x.depth : Int)) (B : Nat) (hB : B ≤ BB) :
    ∀ (r : List C0) (k : Nat) (n : Nat), t.Kids.drop k = r → n ≤ B → C0.depths r ≤ B → Qa t (n : Int) k = some ((max n (C0.depths r) + 1 : Nat) : Int)
  | [], k, n, h, hb, _ => by
    rw [Qa, (I1 h).1, if_neg (by simp), w1 (by omega)]
    simp [C0.depths]
  | x :: r, k, n, h, hb, hd => by
    obtain ⟨e1, e2, e3, e4, e5⟩ := V1 h
    have := ht.kids
    simp only [C0.depths] at hd
    rw [Qa, e1, if_pos rfl, e2, ob, ih x e5, ob, w1 (by omega), Y1o t ht ih B hB r (k + 1) _ e3 (by omega) (by omega), Y1o t ht ih B hB r (k + 1) _ e3 (by omega) (by omega)]
    simp only [C0.depths]
    by_cases hx : (x.depth : Int) > (n : Int)
    · rw [if_pos (decide_eq_true hx), show max n (max x.depth (C0.depths r)) = max x.depth (C0.depths r) by omega]
    · rw [if_neg (by simpa using hx), show max n (max x.depth (C0.depths r)) = max n (C0.depths r) by omega]
theorem W29 (t : C0) : OkE t → Pf t = some (t.depth : Int) := by
  induction t using C0.ind with
  | h t ih =>
  intro ht
  have hn := ht.nodes
  have hd := C0.depth_nodes t
  rw [Pf]
  rw [C0.depth_eq] at hd
  have := Y1o t ht (fun x hx => ih x hx (ht.kid hx)) BB (Nat.le_refl _) t.Kids 0 0 rfl (by omega) (by omega)
  rw [C0.depth_eq]
  rw [show max 0 (C0.depths t.Kids) = C0.depths t.Kids by omega] at this
  exact this
theorem R19 (n : Int) (d : Int) (m : Int) : N9 ⟨n, d⟩ m = some ⟨n, max d m⟩ := by
  unfold N9
  by_cases h : m > d
  · rw [if_pos (decide_eq_true h), show max d m = m by omega]
  · rw [if_neg (by simpa using h), show max d m = d by omega]
theorem L23 (e : C0) (ht : OkE e) (ih : ∀ x ∈ e.Kids, L8 x = some (x.all N4)) : ∀ (r : List C0) (k : Nat), e.Kids.drop k = r → Bf e k = some (C0.alls N4 r)
  | [], k, h => by rw [Bf, (I1 h).1, if_neg (by simp)]; rfl
  | x :: r, k, h => by
    obtain ⟨e1, e2, e3, e4, e5⟩ := V1 h
    have := ht.kids
    rw [Bf, e1, if_pos rfl, e2, ob, ih x e5, ob, w1 (by omega), L23 e ht ih r (k + 1) e3, C0.alls]
    cases x.all N4 <;> simp
theorem F1g (e : C0) : OkE e → L8 e = some (e.all N4) := by
  induction e using C0.ind with
  | h e ih =>
  intro ht
  have h1 := L23 e ht (fun x hx => ih x hx (ht.kid hx)) e.Kids 0 rfl
  rw [show ((0 : Nat) : Int) = 0 from rfl] at h1
  rw [L8, h1, C0.all_eq, B1z, O2h, ob]
  generalize C0.alls N4 e.Kids = A
  have hb : (bif (bif (ar e.Op != (e.Kids.length : Int)) then true else (bif (e.Op != 0) then (e.NV != 0) else false)) then true else (bif (bif (e.Op != 3) then (e.Op != 4) else false) then (!(e.Name == [])) else false)) = !(ef1 e && ef2 e && ef3 e) := by
    unfold ef1 ef2 ef3
    simp only [bne]
    cases ar e.Op == (e.Kids.length : Int) <;> cases e.NV == 0 <;> cases e.Op == 0 <;> cases e.Name == [] <;> cases e.Op == 3 <;> cases e.Op == 4 <;> rfl
  rw [hb]
  unfold N4 ef4
  cases (ef1 e && ef2 e && ef3 e) <;> cases (bif e.Op == 4 then true else e.Op == 5) <;> cases e.place <;> simp [ob]
theorem D1z (e : C0) (ht : OkE e) (ih : ∀ x ∈ e.Kids, K7 x = some (x.all Ga)) : ∀ (r : List C0) (k : Nat), e.Kids.drop k = r → Ed e k = some (C0.alls Ga r)
  | [], k, h => by rw [Ed, (I1 h).1, if_neg (by simp)]; rfl
  | x :: r, k, h => by
    obtain ⟨e1, e2, e3, e4, e5⟩ := V1 h
    have := ht.kids
    rw [Ed, e1, if_pos rfl, e2, ob, ih x e5, ob, w1 (by omega), D1z e ht ih r (k + 1) e3, C0.alls]
    cases x.all Ga <;> simp
theorem G1c (e : C0) : OkE e → K7 e = some (e.all Ga) := by
  induction e using C0.ind with
  | h e ih =>
  intro ht
  have h1 := D1z e ht (fun x hx => ih x hx (ht.kid hx)) e.Kids 0 rfl
  rw [show ((0 : Nat) : Int) = 0 from rfl] at h1
  rw [K7, h1, C0.all_eq, Qs e.Name ht.name]
  generalize C0.alls Ga e.Kids = A
  unfold Ga
  cases (bif e.Op == 3 then true else e.Op == 4) <;> cases Y8 e.Name <;> simp [ob]
theorem M1r (e : C0) (ht : OkE e) (ih : ∀ x ∈ e.Kids, S5 x = some (x.all P9)) : ∀ (r : List C0) (k : Nat), e.Kids.drop k = r → Cb e k = some (C0.alls P9 r)
  | [], k, h => by rw [Cb, (I1 h).1, if_neg (by simp)]; rfl
  | x :: r, k, h => by
    obtain ⟨e1, e2, e3, e4, e5⟩ := V1 h
    have := ht.kids
    rw [Cb, e1, if_pos rfl, e2, ob, ih x e5, ob, w1 (by omega), M1r e ht ih r (k + 1) e3, C0.alls]
    cases x.all P9 <;> simp
theorem F14 (e : C0) : OkE e → S5 e = some (e.all P9) := by
  induction e using C0.ind with
  | h e ih =>
  intro ht
  have h1 := M1r e ht (fun x hx => ih x hx (ht.kid hx)) e.Kids 0 rfl
  rw [show ((0 : Nat) : Int) = 0 from rfl] at h1
  rw [S5, h1, C0.all_eq]
  have : P9 e = !(bif (e.Op == 0) then (bif (decide (e.NV < 0)) then true else (decide (e.NV > 1048576))) else false) := by
    unfold P9 N3
    rw [T1k, U1k]
    cases e.Op == 0 <;> cases decide (e.NV ≥ 0) <;> cases decide (e.NV ≤ 1048576) <;> rfl
  rw [this]
  cases (bif (e.Op == 0) then (bif (decide (e.NV < 0)) then true else (decide (e.NV > 1048576))) else false) <;> simp
theorem P27 (e : C0) (ht : OkE e) (ih : ∀ x ∈ e.Kids, ∀ n, ∃ m, S9 x n = some m) : ∀ (r : List C0) (k : Nat) (n : Int), e.Kids.drop k = r → ∃ m, Xe e n k = some m
  | [], k, n, h => by rw [Xe, (I1 h).1]; exact ⟨_, rfl⟩
  | x :: r, k, n, h => by
    obtain ⟨e1, e2, e3, e4, e5⟩ := V1 h
    have := ht.kids
    rw [Xe, e1, e2]
    cases decide (n ≥ 0) with
    | false => exact ⟨_, rfl⟩
    | true =>
      obtain ⟨m, hm⟩ := ih x e5 n
      rw [cond_true, if_pos rfl, ob, hm, ob, w1 (by omega)]
      exact P27 e ht ih r (k + 1) m e3
theorem H1c (e : C0) : OkE e → ∀ n, ∃ m, S9 e n = some m := by
  induction e using C0.ind with
  | h e ih =>
  intro ht n
  rw [S9]
  exact P27 e ht (fun x hx => ih x hx (ht.kid hx)) e.Kids 0 _ rfl
theorem D1t (t : A0) (ht : Ok t) (ih : ∀ x ∈ t.Of, ∀ n, ∃ m, Be x n = some m) : ∀ (r : List A0) (k : Nat) (n : Int), t.Of.drop k = r → ∃ m, We t n k = some m
  | [], k, n, h => by rw [We, (I1 h).1]; exact ⟨_, rfl⟩
  | x :: r, k, n, h => by
    obtain ⟨e1, e2, e3, e4, e5⟩ := V1 h
    have := ht.ofs
    rw [We, e1, e2]
    cases decide (n ≥ 0) with
    | false => exact ⟨_, rfl⟩
    | true =>
      obtain ⟨m, hm⟩ := ih x e5 n
      rw [cond_true, if_pos rfl, ob, hm, ob, w1 (by omega)]
      exact D1t t ht ih r (k + 1) m e3
theorem M23 (t : A0) (ht : Ok t) (ih : ∀ x ∈ t.Of, ∀ n, ∃ m, Be x n = some m) : ∀ (r : List Str) (k : Nat) (n : Int), t.Names.drop k = r → ∃ m, Ve t n k = some m
  | [], k, n, h => by rw [Ve, (I1 h).1]; exact D1t t ht ih t.Of 0 n rfl
  | x :: r, k, n, h => by
    obtain ⟨e1, e2, e3, e4, e5⟩ := V1 h
    have := ht.names
    rw [Ve, e1, e2]
    cases decide (n ≥ 0) with
    | false => exact D1t t ht ih t.Of 0 n rfl
    | true =>
      rw [cond_true, if_pos rfl, ob, w1 (by omega)]
      exact M23 t ht ih r (k + 1) _ e3
theorem X29 (t : A0) : Ok t → ∀ n, ∃ m, Be t n = some m := by
  induction t using A0.ind with
  | h t ih =>
  intro ht n
  rw [Be]
  exact M23 t ht (fun x hx => ih x hx (ht.kid hx)) t.Names 0 _ rfl
end Go.Proofs.YtdkabnfphmmmnaaGreatDoor

set_option linter.unusedSimpArgs false
set_option linter.unusedVariables false
namespace Go.Proofs.YtdkabnfphmmmnaaGreatDoor
open Go.Am
end Go.Proofs.YtdkabnfphmmmnaaGreatDoor

set_option linter.unusedSimpArgs false
set_option linter.unusedVariables false
namespace Go.Proofs.YtdkabnfphmmmnaaGreatDoor
open Go.Am
end Go.Proofs.YtdkabnfphmmmnaaGreatDoor

set_option linter.unusedSimpArgs false
set_option linter.unusedVariables false
set_option maxHeartbeats 800000
namespace Go.Proofs.YtdkabnfphmmmnaaGreatDoor
open Go.Am
end Go.Proofs.YtdkabnfphmmmnaaGreatDoor

set_option linter.unusedSimpArgs false
set_option linter.unusedVariables false
namespace Go.Proofs.YtdkabnfphmmmnaaGreatDoor
open Go.Am
theorem V1p {α : Type} {l : List α} {k : Nat} (h : k < l.length) : ∃ y, idx l (k : Int) = some y ∧ l.drop k = y :: l.drop (k + 1) ∧ y ∈ l := by
  refine ⟨l[k], ?_, List.drop_eq_getElem_cons h, List.getElem_mem h⟩
  unfold idx
  rw [if_pos (by omega)]
  simp [h]
theorem z0 : (0 : Int) = ((0 : Nat) : Int) := rfl
theorem E1z (t u : A0) (ht : Ok t) (hl : t.Of.length = u.Of.length) (ih : ∀ x ∈ t.Of, ∀ y, Gc x y = some (x.same y)) :
    ∀ (r : List A0) (k : Nat), t.Of.drop k = r → Oa t u k = some (eqL A0.same r (u.Of.drop k))
  | [], k, h => by
    rw [Oa, (I1 h).1, if_neg (by simp), List.drop_eq_nil_of_le (by have := (I1 h).2; omega)]; rfl
  | x :: r, k, h => by
    obtain ⟨e1, e2, e3, e4, e5⟩ := V1 h
    obtain ⟨y, f1, f2, f3⟩ := V1p (l := u.Of) (k := k) (by omega)
    have := ht.ofs
    rw [Oa, e1, if_pos rfl, e2, ob, f1, ob, ih x e5 y, ob, w1 (by omega), E1z t u ht hl ih r (k + 1) e3, f2, eqL]
    cases x.same y <;> simp
theorem F1z (t u : A0) (ht : Ok t) (hl : t.Names.length = u.Names.length) (b : Bool) (hb : Oa t u 0 = some b) :
    ∀ (r : List Str) (k : Nat), t.Names.drop k = r → Xc t u k = some (eqL (fun x y => x == y) r (u.Names.drop k) && b)
  | [], k, h => by
    rw [Xc, (I1 h).1, if_neg (by simp), List.drop_eq_nil_of_le (by have := (I1 h).2; omega), hb]; rfl
  | x :: r, k, h => by
    obtain ⟨e1, e2, e3, e4, e5⟩ := V1 h
    obtain ⟨y, f1, f2, f3⟩ := V1p (l := u.Names) (k := k) (by omega)
    have := ht.names
    rw [Xc, e1, if_pos rfl, e2, ob, f1, ob, w1 (by omega), F1z t u ht hl b hb r (k + 1) e3, f2, eqL]
    cases x == y <;> simp
theorem G1z (t : A0) : Ok t → ∀ u, Gc t u = some (t.same u) := by
  induction t using A0.ind with
  | h t ih =>
  intro ht u
  have ih' := fun x hx => ih x hx (ht.kid hx)
  rw [Gc]
  show (if P1x t u = true then _ else _) = _
  cases hd : P1x t u with
  | true => rw [if_pos rfl, K2c hd]
  | false =>
    obtain ⟨h1, h2, h3⟩ := L2f hd
    have h4 := E1z t u ht h3 ih' t.Of 0 rfl
    have h5 := F1z t u ht h2 _ h4 t.Names 0 rfl
    rw [if_neg (by simp), z0, h5, h1]
    rfl
theorem N23 (s u : List Str) (hs : s.length ≤ BB) (hl : s.length = u.length) : ∀ (r : List Str) (k : Nat), s.drop k = r → Y1 s u k = some (eqL (fun x y => x == y) r (u.drop k))
  | [], k, h => by
    rw [Y1, (I1 h).1, if_neg (by simp), List.drop_eq_nil_of_le (by have := (I1 h).2; omega)]; rfl
  | x :: r, k, h => by
    obtain ⟨e1, e2, e3, e4, e5⟩ := V1 h
    obtain ⟨y, f1, f2, f3⟩ := V1p (l := u) (k := k) (by omega)
    rw [Y1, e1, if_pos rfl, e2, ob, f1, ob, w1 (by omega), N23 s u hs hl r (k + 1) e3, f2, eqL]
    cases x == y <;> simp
theorem O2c (s u : List Str) (hs : s.length ≤ BB) : T3 s u = some (eqL (fun x y => x == y) s u) := by
  unfold T3
  by_cases hl : s.length = u.length
  · rw [if_neg (by simp; omega), z0, N23 s u hs hl s 0 rfl]; rfl
  · rw [if_pos (by simp; omega), Fy _ hl]
theorem O23 (s u : List A0) (hs : s.length ≤ BB) (hl : s.length = u.length) (ih : ∀ x ∈ s, ∀ y, O7 x y = some (x.same y)) :
    ∀ (r : List A0) (k : Nat), s.drop k = r → D1 s u k = some (eqL A0.same r (u.drop k))
  | [], k, h => by
    rw [D1, (I1 h).1, if_neg (by simp), List.drop_eq_nil_of_le (by have := (I1 h).2; omega)]; rfl
  | x :: r, k, h => by
    obtain ⟨e1, e2, e3, e4, e5⟩ := V1 h
    obtain ⟨y, f1, f2, f3⟩ := V1p (l := u) (k := k) (by omega)
    rw [D1, e1, if_pos rfl, e2, ob, f1, ob, ih x e5 y, ob, w1 (by omega), O23 s u hs hl ih r (k + 1) e3, f2, eqL]
    cases x.same y <;> simp
theorem Y29 (t : A0) : Ok t → ∀ u, O7 t u = some (t.same u) := by
  induction t using A0.ind with
  | h t ih =>
  intro ht u
  have ih' := fun x hx => ih x hx (ht.kid hx)
  have hO : P1 t.Of u.Of = some (eqL A0.same t.Of u.Of) := by
    rw [P1]
    by_cases hl : t.Of.length = u.Of.length
    · rw [if_neg (by simp; omega), z0, O23 t.Of u.Of ht.ofs hl ih' t.Of 0 rfl]; rfl
    · rw [if_pos (by simp; omega), Fy _ hl]
  rw [O7, hO, O2c _ _ ht.names, A0.same_eq]
  generalize eqL A0.same t.Of u.Of = a
  generalize eqL (fun x y => x == y) t.Names u.Names = b
  cases t.Kind == u.Kind <;> cases t.Low == u.Low <;> cases t.High == u.High <;> cases t.Size == u.Size <;> cases t.Name == u.Name <;> cases b <;> cases a <;> rfl
mutual
def C0.same : C0 → C0 → Bool
  | .mk o n nm ks, t => o == t.Op && n == t.NV && nm == t.Name && C0.sames ks t.Kids
def C0.sames : List C0 → List C0 → Bool
  | [], [] => true
  | x :: r, y :: s => C0.same x y && C0.sames r s
  | [], _ :: _ => false
  | _ :: _, [] => false
end
theorem C0.sames_eq : ∀ l m : List C0, C0.sames l m = eqL C0.same l m
  | [], [] => rfl
  | x :: r, y :: s => by simp only [C0.sames, eqL, C0.sames_eq r s]
  | [], _ :: _ => rfl
  | _ :: _, [] => rfl
theorem C0.same_eq (t u : C0) : t.same u = (t.Op == u.Op && t.NV == u.NV && t.Name == u.Name && eqL C0.same t.Kids u.Kids) := by
  rw [← C0.sames_eq]
  cases t
  rfl
theorem P2c (s u : List C0) (hs : s.length ≤ BB) (hl : s.length = u.length) (ih : ∀ x ∈ s, ∀ y, R6 x y = some (x.same y)) :
    ∀ (r : List C0) (k : Nat), s.drop k = r → E1 s u k = some (eqL C0.same r (u.drop k))
  | [], k, h => by
    rw [E1, (I1 h).1, if_neg (by simp), List.drop_eq_nil_of_le (by have := (I1 h).2; omega)]; rfl
  | x :: r, k, h => by
    obtain ⟨e1, e2, e3, e4, e5⟩ := V1 h
    obtain ⟨y, f1, f2, f3⟩ := V1p (l := u) (k := k) (by omega)
    rw [E1, e1, if_pos rfl, e2, ob, f1, ob, ih x e5 y, ob, w1 (by omega), P2c s u hs hl ih r (k + 1) e3, f2, eqL]
    cases x.same y <;> simp
theorem P2f (s u : List C0) (hs : s.length ≤ BB) (ih : ∀ x ∈ s, ∀ y, R6 x y = some (x.same y)) : Q1 s u = some (eqL C0.same s u) := by
  rw [Q1]
  by_cases hl : s.length = u.length
  · rw [if_neg (by simp; omega), z0, P2c s u hs hl ih s 0 rfl]; rfl
  · rw [if_pos (by simp; omega), Fy _ hl]
theorem Z29 (t : C0) : OkE t → ∀ u, R6 t u = some (t.same u) := by
  induction t using C0.ind with
  | h t ih =>
  intro ht u
  rw [R6, P2f t.Kids u.Kids ht.kids (fun x hx => ih x hx (ht.kid hx)), C0.same_eq]
  generalize eqL C0.same t.Kids u.Kids = a
  cases t.Op == u.Op <;> cases t.NV == u.NV <;> cases t.Name == u.Name <;> cases a <;> rfl
theorem Q2c (t u : C0) (ht : OkE t) (hl : t.Kids.length = u.Kids.length) (ih : ∀ x ∈ t.Kids, ∀ y, Mf x y = some (x.same y)) :
    ∀ (r : List C0) (k : Nat), t.Kids.drop k = r → Zc t u k = some (eqL C0.same r (u.Kids.drop k))
  | [], k, h => by
    rw [Zc, (I1 h).1, if_neg (by simp), List.drop_eq_nil_of_le (by have := (I1 h).2; omega)]; rfl
  | x :: r, k, h => by
    obtain ⟨e1, e2, e3, e4, e5⟩ := V1 h
    obtain ⟨y, f1, f2, f3⟩ := V1p (l := u.Kids) (k := k) (by omega)
    have := ht.kids
    rw [Zc, e1, if_pos rfl, e2, ob, f1, ob, ih x e5 y, ob, w1 (by omega), Q2c t u ht hl ih r (k + 1) e3, f2, eqL]
    cases x.same y <;> simp
theorem A2a (t : C0) : OkE t → ∀ u, Mf t u = some (t.same u) := by
  induction t using C0.ind with
  | h t ih =>
  intro ht u
  have ih' := fun x hx => ih x hx (ht.kid hx)
  rw [Mf, C0.same_eq]
  by_cases hl : t.Kids.length = u.Kids.length
  · have h4 := Q2c t u ht hl ih' t.Kids 0 rfl
    have hb : (bif (bif (bif (t.Op != u.Op) then true else (t.NV != u.NV)) then true else (!(t.Name == u.Name))) then true else ((t.Kids.length : Int) != (u.Kids.length : Int))) = !(t.Op == u.Op && t.NV == u.NV && t.Name == u.Name) := by
      have : ((t.Kids.length : Int) != (u.Kids.length : Int)) = false := by simp; omega
      rw [this]
      unfold bne
      cases t.Op == u.Op <;> cases t.NV == u.NV <;> cases t.Name == u.Name <;> rfl
    rw [hb, z0, h4]
    cases (t.Op == u.Op && t.NV == u.NV && t.Name == u.Name) <;> simp
  · have : ((t.Kids.length : Int) != (u.Kids.length : Int)) = true := by simp; omega
    rw [this, Fy _ hl, Bool.and_false]
    generalize (bif (bif (t.Op != u.Op) then true else (t.NV != u.NV)) then true else (!(t.Name == u.Name))) = b
    cases b <;> rfl
def Gr (e : C0) : Bool := e.same ⟨0, 0, [], []⟩
def U17 (t : A0) : Bool := t.same ⟨0, 0, 0, 0, [], [], []⟩
theorem G1g (e : C0) (h : OkE e) : Fh e = some (Gr e) := by unfold Fh; rw [A2a e h]; rfl
theorem R2c (t : A0) (h : Ok t) : Yr t = some (U17 t) := by unfold Yr; rw [G1z t h]; rfl
theorem Q2f {e : C0} (h : Gr e = true) : e = ⟨0, 0, [], []⟩ := by
  unfold Gr at h
  rw [C0.same_eq] at h
  obtain ⟨o, n, nm, ks⟩ := e
  simp only [Bool.and_eq_true, beq_iff_eq] at h
  obtain ⟨⟨⟨rfl, rfl⟩, rfl⟩, h4⟩ := h
  cases ks with
  | nil => rfl
  | cons x r => cases h4
theorem R2f {t : A0} (h : U17 t = true) : t = ⟨0, 0, 0, 0, [], [], []⟩ := by
  unfold U17 at h
  rw [A0.same_eq] at h
  obtain ⟨a, b, c, d, nm, ns, ks⟩ := t
  simp only [Bool.and_eq_true, beq_iff_eq] at h
  obtain ⟨⟨⟨⟨⟨⟨rfl, rfl⟩, rfl⟩, rfl⟩, rfl⟩, h5⟩, h4⟩ := h
  cases ks with
  | nil =>
    cases ns with
    | nil => rfl
    | cons x r => cases h5
  | cons x r => cases h4
end Go.Proofs.YtdkabnfphmmmnaaGreatDoor

namespace Go.Proofs.YtdkabnfphmmmnaaGreatDoor
open Go.Am
mutual
def D0.bulk : D0 → Nat
  | .mk y0 y1 y2 y3 y4 y5 y6 y7 y8 y9 y10 => 1 + (C0.bulk y1 + (C0.bulk y2 + ((y3.length + 1) + ((C0.bulks y4 + 1) + (1 + (1 + (1 + (((y8.map fun _ => 1).sum + 1) + ((D0.bulks y9 + 1) + ((D0.bulks y10 + 1) + (0))))))))))) + 1
def D0.bulks : List D0 → Nat
  | [] => 0
  | x :: r => D0.bulk x + D0.bulks r
end
mutual
def B0.bulk : B0 → Nat
  | .mk y0 y1 y2 y3 y4 y5 y6 y7 => 1 + ((y1.length + 1) + (A0.bulk y2 + (1 + (C0.bulk y4 + ((B0.bulks y5 + 1) + ((B0.bulks y6 + 1) + ((D0.bulks y7 + 1) + (0)))))))) + 1
def B0.bulks : List B0 → Nat
  | [] => 0
  | x :: r => B0.bulk x + B0.bulks r
end
mutual
def K0.bulk : K0 → Nat
  | .mk y0 y1 => (B0.bulks y0 + 1) + ((D0.bulks y1 + 1) + (0)) + 1
def K0.bulks : List K0 → Nat
  | [] => 0
  | x :: r => K0.bulk x + K0.bulks r
end
end Go.Proofs.YtdkabnfphmmmnaaGreatDoor

set_option linter.unusedSimpArgs false
set_option linter.unusedVariables false
set_option maxHeartbeats 1000000
namespace Go.Proofs.YtdkabnfphmmmnaaGreatDoor
open Go.Am
def uPl (v : Int) : Bool := bif (bif (v == 0) then true else (v == 1)) then true else (v == 2)
def uVa (v : Int) : Bool := bif (bif (bif (v == 0) then true else (v == 3)) then true else (v == 5)) then true else (v == 6)
def uNm (v : Int) : Bool := bif (bif (v == 1) then true else (v == 2)) then true else (v == 7)
def uNn (v : Int) : Bool := bif (v == 4) then true else (v == 6)
def uTh (v : Int) : Bool := bif (bif (v == 5) then true else (v == 6)) then true else (v == 7)
def okV (v : Int) : Bool := !(bif decide (v < 0) then true else decide (v > 8))
def stU (v : Int) : X0 × Bool := (⟨uPl v, uVa v, uNm v, v == 1, uNn v, v == 7, v == 8, uTh v, v == 5⟩, okV v)
theorem P23 (v : Int) : Qg v = some (stU v) := by
  have h : (v < 0 ∨ 8 < v) ∨ v = 0 ∨ v = 1 ∨ v = 2 ∨ v = 3 ∨ v = 4 ∨ v = 5 ∨ v = 6 ∨ v = 7 ∨ v = 8 := by omega
  rcases h with h | rfl | rfl | rfl | rfl | rfl | rfl | rfl | rfl | rfl
  · have f : ∀ k : Int, 0 ≤ k ∧ k ≤ 8 → (v == k) = false := fun k hk => beq_eq_false_iff_ne.2 (by omega)
    have hv : okV v = false := by
      unfold okV
      rcases h with h | h
      · rw [decide_eq_true h]; rfl
      · rw [decide_eq_true (show v > 8 from h)]; cases decide (v < 0) <;> rfl
    unfold Qg stU uPl uVa uNm uNn uTh
    rw [hv]
    simp only [f 0 (by decide), f 1 (by decide), f 2 (by decide), f 3 (by decide), f 4 (by decide), f 5 (by decide), f 6 (by decide), f 7 (by decide), f 8 (by decide)]
    rfl
  all_goals rfl
def oN (e : C0) (u : Bool) : Nat := bif (bif !u then Gr e else false) then 0 else e.nodes
def oD (e : C0) (u : Bool) : Nat := bif (bif !u then Gr e else false) then 0 else e.depth
def oF (e : C0) (u : Bool) : Bool := bif u then e.all N4 else Gr e
theorem B2a (e : C0) (u : Bool) : oN e u ≤ e.bulk := by
  unfold oN
  have := C0.nodes_bulk e
  cases (bif !u then Gr e else false) <;> simp <;> omega
def G14 : Int → List Int → Bool
  | _, [] => true
  | l, n :: r => (bif N3 n 0 1048576 then decide (n > l) else false) && G14 n r
def Xz (s : D0) : Bool :=
  bif s.Verb == 4 then N3 s.NV 0 1048576 else bif s.Verb == 6 then N3 s.NV 0 4096
  else bif s.Verb == 7 then (bif (bif N3 s.Low (-1048576) 1048576 then N3 s.High s.Low 1048576 else false) then decide (s.High - s.Low < 4096) else false)
  else bif s.Verb == 8 then N3 (s.Numbers.length : Int) 1 32 && G14 (-1) s.Numbers else true
def sform (s : D0) : Bool :=
  okV s.Verb && oF s.Place (uPl s.Verb) && (bif uPl s.Verb then s.Place.place else true) && oF s.Value (uVa s.Verb) && (bif uNm s.Verb then true else s.Name == []) && (bif s.Verb == 1 then true else ((s.Args.length : Int) == 0)) && C0.alls N4 s.Args
  && (bif uNn s.Verb then true else s.NV == 0) && (bif s.Verb == 7 then true else (bif s.Low == 0 then s.High == 0 else false)) && (bif s.Verb == 8 then true else ((s.Numbers.length : Int) == 0))
  && (bif uTh s.Verb then true else ((s.Then.length : Int) == 0)) && (bif s.Verb == 5 then true else ((s.Else.length : Int) == 0))
def Jj (s : D0) : Bool := s.Place.all Ga && s.Value.all Ga && (bif uNm s.Verb then Y8 s.Name else true) && C0.alls Ga s.Args
def snumb (s : D0) : Bool := s.Place.all P9 && s.Value.all P9 && C0.alls P9 s.Args && Xz s
mutual
def D0.nds : D0 → Nat
  | .mk v pl va nm ar n lo hi ns th el => 1 + (oN pl (uPl v) + (oN va (uVa v) + (C0.nodess ar + (D0.ndss th + D0.ndss el))))
def D0.ndss : List D0 → Nat
  | [] => 0
  | x :: r => D0.nds x + D0.ndss r
end
mutual
def D0.dps : D0 → Nat → Nat
  | .mk v pl va nm ar n lo hi ns th el, d => max d (max (oD pl (uPl v)) (max (oD va (uVa v)) (max (C0.depths ar) (max (D0.dpss th (d + 1)) (D0.dpss el (d + 1))))))
def D0.dpss : List D0 → Nat → Nat
  | [], _ => 0
  | x :: r, d => max (D0.dps x d) (D0.dpss r d)
end
mutual
def D0.all (p : D0 → Bool) : D0 → Bool
  | .mk v pl va nm ar n lo hi ns th el => p (.mk v pl va nm ar n lo hi ns th el) && (D0.alls p th && D0.alls p el)
def D0.alls (p : D0 → Bool) : List D0 → Bool
  | [] => true
  | x :: r => D0.all p x && D0.alls p r
end
theorem D0.nds_eq (s : D0) : s.nds = 1 + (oN s.Place (uPl s.Verb) + (oN s.Value (uVa s.Verb) + (C0.nodess s.Args + (D0.ndss s.Then + D0.ndss s.Else)))) := by cases s; simp only [D0.nds]
theorem D0.dps_eq (s : D0) (d : Nat) : s.dps d = max d (max (oD s.Place (uPl s.Verb)) (max (oD s.Value (uVa s.Verb)) (max (C0.depths s.Args) (max (D0.dpss s.Then (d + 1)) (D0.dpss s.Else (d + 1)))))) := by cases s; simp only [D0.dps]
theorem D0.all_eq (p : D0 → Bool) (s : D0) : s.all p = (p s && (D0.alls p s.Then && D0.alls p s.Else)) := by cases s; simp only [D0.all]
theorem D0.ind {P : D0 → Prop} (h : ∀ s : D0, (∀ x ∈ s.Then, P x) → (∀ x ∈ s.Else, P x) → P s) : ∀ s, P s := by
  intro s
  refine D0.rec (motive_1 := P) (motive_2 := fun l => ∀ x ∈ l, P x) ?_ ?_ ?_ s
  · intro v pl va nm ar n lo hi ns th el i1 i2
    exact h _ i1 i2
  · intro x hx; cases hx
  · intro x r hx hr y hy
    cases hy with
    | head => exact hx
    | tail _ hy => exact hr y hy
theorem D0.inds {Q : List D0 → Prop} (h : ∀ l : List D0, (∀ x ∈ l, Q x.Then ∧ Q x.Else) → Q l) : ∀ l, Q l := by
  have key : ∀ s : D0, Q s.Then ∧ Q s.Else := fun s => by
    induction s using D0.ind with
    | h s i1 i2 => exact ⟨h _ i1, h _ i2⟩
  exact fun l => h l fun x _ => key x
theorem D0.bulk_eq (s : D0) : s.bulk = s.Place.bulk + s.Value.bulk + s.Name.length + C0.bulks s.Args + (s.Numbers.map fun _ => 1).sum + D0.bulks s.Then + D0.bulks s.Else + 10 := by
  cases s; simp only [D0.bulk]; omega
theorem Q23 : ∀ l : List Int, (l.map fun _ => 1).sum = l.length
  | [] => rfl
  | x :: r => by simp only [List.map_cons, List.sum_cons, List.length_cons, Q23 r]; omega
theorem D0.bulk_mem {s : D0} : ∀ {l : List D0}, s ∈ l → s.bulk ≤ D0.bulks l
  | x :: r, h => by
    simp only [D0.bulks]
    cases h with
    | head => omega
    | tail _ h => have := D0.bulk_mem h; omega
theorem D0.bulk_len : ∀ l : List D0, l.length ≤ D0.bulks l
  | [] => Nat.le_refl _
  | x :: r => by
    simp only [D0.bulks, List.length_cons]
    have := D0.bulk_len r
    have := D0.bulk_eq x
    omega
mutual
theorem D0.nds_bulk : ∀ s : D0, s.nds ≤ s.bulk
  | .mk v pl va nm ar n lo hi ns th el => by
    have := B2a pl (uPl v)
    have := B2a va (uVa v)
    have := C0.nodess_bulk ar
    have := D0.ndss_bulk th
    have := D0.ndss_bulk el
    simp only [D0.nds, D0.bulk]; omega
theorem D0.ndss_bulk : ∀ l : List D0, D0.ndss l ≤ D0.bulks l
  | [] => Nat.le_refl _
  | x :: r => by
    have := D0.nds_bulk x
    have := D0.ndss_bulk r
    simp only [D0.ndss, D0.bulks]; omega
end
def OkS (l : List D0) : Prop := D0.bulks l ≤ BB
structure K1a (s : D0) : Prop where
  place : OkE s.Place
  value : OkE s.Value
  name : s.Name.length ≤ BB
  args : s.Args.length ≤ BB
  arg : ∀ a ∈ s.Args, OkE a
  nums : s.Numbers.length ≤ BB
  thens : OkS s.Then
  elses : OkS s.Else
theorem OkS.mem {l : List D0} (h : OkS l) {s : D0} (hs : s ∈ l) : K1a s := by
  unfold OkS at h
  have h1 := D0.bulk_mem hs
  have h2 := D0.bulk_eq s
  have h3 := Q23 s.Numbers
  have h4 := C0.bulk_len s.Args
  refine ⟨?_, ?_, ?_, ?_, fun a ha => ?_, ?_, ?_, ?_⟩ <;> first | (unfold OkE; omega) | (unfold OkS; omega) | omega | skip
  have := C0.bulk_kid ha
  unfold OkE; omega
theorem OkS.len {l : List D0} (h : OkS l) : l.length ≤ BB := Nat.le_trans (D0.bulk_len l) h
def T6 (o : E0) (n m : Nat) (f a u : Bool) : E0 := ⟨o.nodes + n, max o.depth m, o.badForm || !f, o.badName || !a, o.badNumber || !u⟩
theorem O6 (o : E0) (n m n' m' : Nat) (f a u f' a' u' : Bool) : T6 (T6 o n m f a u) n' m' f' a' u' = T6 o (n + n') (max m m') (f && f') (a && a') (u && u') := by
  simp only [T6, Q19]
  rw [show o.nodes + (n : Int) + (n' : Int) = o.nodes + ((n + n' : Nat) : Int) by omega, show max (max o.depth (m : Int)) (m' : Int) = max o.depth ((max m m' : Nat) : Int) by omega]
theorem Nx (o : E0) (h : 0 ≤ o.depth) : T6 o 0 0 true true true = o := by
  simp only [T6, Bool.not_true, Bool.or_false]
  rw [show o.nodes + ((0 : Nat) : Int) = o.nodes by omega, show max o.depth ((0 : Nat) : Int) = o.depth by omega]
theorem O1v (o : E0) (n m : Nat) (f a u : Bool) : (T6 o n m f a u).nodes = o.nodes + n := rfl
theorem H14 (o : E0) (n m : Nat) (f a u : Bool) : (T6 o n m f a u).depth = max o.depth m := rfl
theorem Xd (o : E0) (h : 0 ≤ o.depth) (b : Bool) : Y0 b o = some (T6 o 0 0 b true true) := by
  rw [B1t]
  simp only [T6, Bool.not_true, Bool.or_false]
  rw [show o.nodes + ((0 : Nat) : Int) = o.nodes by omega, show max o.depth ((0 : Nat) : Int) = o.depth by omega]
theorem Fn (o : E0) (h : 0 ≤ o.depth) (b : Bool) : J2 b o = some (T6 o 0 0 true true b) := by
  rw [F1c]
  simp only [T6, Bool.not_true, Bool.or_false]
  rw [show o.nodes + ((0 : Nat) : Int) = o.nodes by omega, show max o.depth ((0 : Nat) : Int) = o.depth by omega]
theorem H1z (o : E0) (h : 0 ≤ o.depth) (s : Str) (hs : s.length ≤ BB) : H5 s o = some (T6 o 0 0 true (Y8 s) true) := by
  rw [W1k s hs]
  simp only [T6, Bool.not_true, Bool.or_false]
  rw [show o.nodes + ((0 : Nat) : Int) = o.nodes by omega, show max o.depth ((0 : Nat) : Int) = o.depth by omega]
structure U7 (o : E0) (n : Nat) : Prop where
  dep : 0 ≤ o.depth
  low : 0 ≤ o.nodes
  high : o.nodes + n ≤ 3 * BB
theorem U7.x {o : E0} {n k m : Nat} {f a u : Bool} (h : U7 o (k + n)) : U7 (T6 o k m f a u) n := by
  obtain ⟨h1, h2, h3⟩ := h
  refine ⟨?_, ?_, ?_⟩
  · rw [H14]; omega
  · rw [O1v]; omega
  · rw [O1v]; omega
theorem U7.less {o : E0} {n k : Nat} (h : U7 o n) (hk : k ≤ n) : U7 o k := ⟨h.dep, h.low, by have := h.high; omega⟩
theorem U7.x0 {o : E0} {n m : Nat} {f a u : Bool} (h : U7 o n) : U7 (T6 o 0 m f a u) n := U7.x (by rw [Nat.zero_add]; exact h)
theorem Z1o (e : C0) (h : OkE e) (o : E0) (hr : U7 o e.nodes) : P3 e 1 o = some (T6 o e.nodes e.depth (e.all N4) (e.all Ga) (e.all P9)) := by
  have hn := h.nodes
  have hp : 1 ≤ e.depth := by rw [C0.depth_eq]; omega
  have h3 := hr.high
  unfold BB at hn h3
  rw [O2f e h 1 o (by omega) (by unfold BB; omega) hr.low (by unfold BB; omega)]
  simp only [Lo, T6]
  rw [show (1 : Int) + ((e.depth - 1 : Nat) : Int) = e.depth by omega]
theorem R23 (t : A0) (h : Ok t) (o : E0) (hr : U7 o t.nodes) : F5 t 1 o = some (T6 o t.nodes t.depth (t.all L5) (t.all Jc) (t.all Oi)) := by
  have hn := h.nodes
  have hp : 1 ≤ t.depth := by rw [A0.depth_eq]; omega
  have h3 := hr.high
  unfold BB at hn h3
  rw [N2c t h 1 o (by omega) (by unfold BB; omega) hr.low (by unfold BB; omega)]
  simp only [Lo, T6]
  rw [show (1 : Int) + ((t.depth - 1 : Nat) : Int) = t.depth by omega]
theorem S23 : (C0.mk 0 0 [] []).all N4 = true ∧ (C0.mk 0 0 [] []).all Ga = true ∧ (C0.mk 0 0 [] []).all P9 = true := ⟨rfl, rfl, rfl⟩
theorem E1t (e : C0) (u : Bool) (h : OkE e) (o : E0) (hr : U7 o (oN e u)) : I4 e u o = some (T6 o (oN e u) (oD e u) (oF e u) (e.all Ga) (e.all P9)) := by
  unfold I4
  rw [Z29 e h]
  show ((if (!u) = true then some (Gr e) else some default) >>= _) = _
  unfold oN oD oF at *
  cases u with
  | true =>
    simp only [Bool.not_true, cond_false, cond_true] at *
    rw [if_neg (by simp), ob, if_neg (by simp), Xd o hr.dep, ob, Z1o e h _ hr.x0, ob, O6]
    simp
  | false =>
    simp only [Bool.not_false, cond_false, cond_true] at *
    rw [if_pos trivial, ob]
    cases hz : Gr e with
    | true =>
      rw [if_pos rfl, Q2f hz, S23.2.1, S23.2.2]
      exact congrArg some (Nx o hr.dep).symm
    | false =>
      rw [hz] at hr
      rw [if_neg (by simp), Xd o hr.dep, ob, Z1o e h _ hr.x0, ob, O6]
      simp
theorem S2c (o : E0) (h : 0 ≤ o.nodes) (h' : o.nodes + 1 ≤ 3 * BB) (d : Nat) : N8 (d : Int) ⟨IntKind.i64.wrap (o.nodes + 1), o.depth, o.badForm, o.badName, o.badNumber⟩ = some (T6 o 1 d true true true) := by
  unfold BB at h'
  rw [A1t, wr (by omega) (by omega)]
  simp only [T6, Bool.not_true, Bool.or_false]
  rfl
theorem I1z (s : D0) (hs : K1a s) (K : E0 → Option E0) (F : E0 → Int → Option E0)
    (hF : ∀ (o : E0) (k : Int), F o k = if decide (k < (s.Args.length : Int)) = true then idx s.Args k >>= fun x => P3 x 1 o >>= fun y => F y (IntKind.i64.wrap (k + 1)) else K o) :
    ∀ (r : List C0) (k : Nat) (o : E0), s.Args.drop k = r → U7 o (C0.nodess r) → F o (k : Int) = K (T6 o (C0.nodess r) (C0.depths r) (C0.alls N4 r) (C0.alls Ga r) (C0.alls P9 r))
  | [], k, o, h, hr => by
    rw [hF, (I1 h).1, if_neg (by simp)]
    simp only [C0.nodess, C0.depths, C0.alls]
    rw [Nx o hr.dep]
  | x :: r, k, o, h, hr => by
    obtain ⟨e1, e2, e3, e4, e5⟩ := V1 h
    have := hs.args
    simp only [C0.nodess] at hr
    rw [hF, e1, if_pos rfl, e2, ob, Z1o x (hs.arg x e5) o (hr.less (by omega)), ob, w1 (by omega), I1z s hs K F hF r (k + 1) _ e3 hr.x, O6]
    rfl
theorem Q27 (s : D0) (hs : K1a s) : ∀ (r : List Int) (k : Nat) (last : Int) (o : E0), s.Numbers.drop k = r → 0 ≤ o.depth → Q3 s o last k = some (T6 o 0 0 true true (G14 last r))
  | [], k, last, o, h, h0 => by rw [Q3, (I1 h).1, if_neg (by simp)]; exact congrArg some (Nx o h0).symm
  | x :: r, k, last, o, h, h0 => by
    obtain ⟨e1, e2, e3, e4, e5⟩ := V1 h
    have := hs.nums
    rw [Q3, e1, if_pos rfl, e2, ob, Tt, ob, Fn _ h0, ob, w1 (by omega), Q27 s hs r (k + 1) x _ e3 (by rw [H14]; omega), O6]
    rfl
theorem T2c (s : D0) (hs : K1a s) (o : E0) (h0 : 0 ≤ o.depth) : Z7 s o = some (T6 o 0 0 true true (Xz s)) := by
  unfold Z7 Xz
  simp only [Tt]
  cases s.Verb == 4 with
  | true => rw [if_pos rfl, ob, Fn _ h0, ob]; rfl
  | false =>
    rw [if_neg (by simp)]
    cases s.Verb == 6 with
    | true => rw [if_pos rfl, ob, Fn _ h0, ob]; rfl
    | false =>
      rw [if_neg (by simp)]
      cases s.Verb == 7 with
      | true =>
        rw [if_pos rfl, ob]
        cases hl : N3 s.Low (-1048576) 1048576 with
        | false => rw [if_neg (by simp), ob, Fn _ h0, ob]; rfl
        | true =>
          rw [if_pos rfl, ob]
          cases hh : N3 s.High s.Low 1048576 with
          | false => rw [Fn _ h0, ob]; rfl
          | true =>
            have : IntKind.i64.wrap (s.High - s.Low) = s.High - s.Low := by
              simp [N3] at hl hh
              exact wr (by omega) (by omega)
            rw [this, Fn _ h0, ob]; rfl
      | false =>
        rw [if_neg (by simp)]
        cases s.Verb == 8 with
        | true =>
          rw [if_pos rfl, ob, Fn _ h0, ob, show (0 : Int) = ((0 : Nat) : Int) from rfl, Q27 s hs s.Numbers 0 (-1) _ rfl (by rw [H14]; omega), O6]
          simp
        | false => exact congrArg some (Nx o h0).symm
theorem J1z (l : List D0) : OkS l → ∀ (d : Nat) (o : E0), d + D0.bulks l ≤ 3 * BB → U7 o (D0.ndss l) →
    X3 l d o = some (T6 o (D0.ndss l) (D0.dpss l d) (D0.alls sform l) (D0.alls Jj l) (D0.alls snumb l)) := by
  induction l using D0.inds with
  | h l ih =>
  intro hl d o hd hr
  have main : ∀ (r : List D0) (k : Nat) (o : E0), l.drop k = r → U7 o (D0.ndss r) → J4 l d o k = some (T6 o (D0.ndss r) (D0.dpss r d) (D0.alls sform r) (D0.alls Jj r) (D0.alls snumb r)) := by
    intro r
    induction r with
    | nil =>
      intro k o h hr
      rw [J4, (I1 h).1, if_neg (by simp)]
      exact congrArg some (Nx o hr.dep).symm
    | cons s r ihr =>
      intro k o h hr
      obtain ⟨e1, e2, e3, e4, e5⟩ := V1 h
      have hs := hl.mem e5
      have hlen := hl.len
      obtain ⟨i1, i2⟩ := ih s e5
      have hbm := D0.bulk_mem e5
      have hbe := D0.bulk_eq s
      simp only [D0.ndss, D0.nds_eq] at hr
      have hhi := hr.high
      unfold BB at hhi hd
      have hwd : IntKind.i64.wrap ((d : Int) + 1) = ((d + 1 : Nat) : Int) := by rw [wr (by omega) (by omega)]; rfl
      have tail : ∀ o : E0, U7 o (D0.ndss s.Then + D0.ndss s.Else + D0.ndss r) →
          (Y0 (bif (stU s.Verb).1.n then true else (s.NV == 0)) o >>= fun x14 =>
            Y0 (bif (stU s.Verb).1.bounds then true else (bif (s.Low == 0) then (s.High == 0) else false)) x14 >>= fun x15 =>
            Y0 (bif (stU s.Verb).1.numbers then true else (((s.Numbers).length : Int) == 0)) x15 >>= fun x16 =>
            Y0 (bif (stU s.Verb).1.thenV then true else (((s.Then).length : Int) == 0)) x16 >>= fun x17 =>
            Y0 (bif (stU s.Verb).1.other then true else (((s.Else).length : Int) == 0)) x17 >>= fun x18 =>
            Z7 s x18 >>= fun x19 =>
            X3 s.Then (IntKind.i64.wrap ((d : Int) + 1)) x19 >>= fun x20 =>
            X3 s.Else (IntKind.i64.wrap ((d : Int) + 1)) x20 >>= fun x21 =>
            J4 l d x21 (IntKind.i64.wrap ((k : Int) + 1)))
          = some (T6 o (D0.ndss s.Then + D0.ndss s.Else + D0.ndss r) (max (D0.dpss s.Then (d + 1)) (max (D0.dpss s.Else (d + 1)) (D0.dpss r d)))
              ((bif uNn s.Verb then true else s.NV == 0) && (bif s.Verb == 7 then true else (bif s.Low == 0 then s.High == 0 else false)) && (bif s.Verb == 8 then true else ((s.Numbers.length : Int) == 0))
                && (bif uTh s.Verb then true else ((s.Then.length : Int) == 0)) && (bif s.Verb == 5 then true else ((s.Else.length : Int) == 0)) && D0.alls sform s.Then && D0.alls sform s.Else && D0.alls sform r)
              (D0.alls Jj s.Then && D0.alls Jj s.Else && D0.alls Jj r) (Xz s && D0.alls snumb s.Then && D0.alls snumb s.Else && D0.alls snumb r)) := by
        intro o hr
        have q1 := hr.x0 (m := 0) (f := bif (stU s.Verb).1.n then true else (s.NV == 0)) (a := true) (u := true)
        have q2 := q1.x0 (m := 0) (f := bif (stU s.Verb).1.bounds then true else (bif (s.Low == 0) then (s.High == 0) else false)) (a := true) (u := true)
        have q3 := q2.x0 (m := 0) (f := bif (stU s.Verb).1.numbers then true else (((s.Numbers).length : Int) == 0)) (a := true) (u := true)
        have q4 := q3.x0 (m := 0) (f := bif (stU s.Verb).1.thenV then true else (((s.Then).length : Int) == 0)) (a := true) (u := true)
        have q5 := q4.x0 (m := 0) (f := bif (stU s.Verb).1.other then true else (((s.Else).length : Int) == 0)) (a := true) (u := true)
        have q6 := q5.x0 (m := 0) (f := true) (a := true) (u := Xz s)
        rw [Xd o hr.dep, ob, Xd _ q1.dep, ob, Xd _ q2.dep, ob, Xd _ q3.dep, ob, Xd _ q4.dep, ob, T2c s hs _ q5.dep, ob, hwd,
          i1 hs.thens (d + 1) _ (by unfold BB; omega) (q6.less (by omega)), ob, i2 hs.elses (d + 1) _ (by unfold BB; omega) (U7.x (q6.less (by omega))), ob, w1 (by omega), ihr (k + 1) _ e3 (U7.x (U7.x (q6.less (by omega))))]
        simp only [O6, stU, Bool.true_and, Bool.and_true, Bool.and_assoc, Nat.zero_add, Nat.add_assoc, Nat.zero_max]
        simp only [← Nat.max_assoc]
      have args := I1z s hs _ (fun o k' => V5 l d o s (stU s.Verb) k k') (fun o k' => V5.eq_1 l d o s (stU s.Verb) k k') s.Args 0
      rw [show ((0 : Nat) : Int) = 0 from rfl] at args
      have j3 : ∀ o : E0, U7 o (C0.nodess s.Args + (D0.ndss s.Then + D0.ndss s.Else + D0.ndss r)) → Y4 l d o s (stU s.Verb) k
          = some (T6 o (C0.nodess s.Args + (D0.ndss s.Then + D0.ndss s.Else + D0.ndss r)) (max (C0.depths s.Args) (max (D0.dpss s.Then (d + 1)) (max (D0.dpss s.Else (d + 1)) (D0.dpss r d))))
              ((bif s.Verb == 1 then true else ((s.Args.length : Int) == 0)) && (C0.alls N4 s.Args && ((bif uNn s.Verb then true else s.NV == 0) && (bif s.Verb == 7 then true else (bif s.Low == 0 then s.High == 0 else false)) && (bif s.Verb == 8 then true else ((s.Numbers.length : Int) == 0))
                && (bif uTh s.Verb then true else ((s.Then.length : Int) == 0)) && (bif s.Verb == 5 then true else ((s.Else.length : Int) == 0)) && D0.alls sform s.Then && D0.alls sform s.Else && D0.alls sform r)))
              (C0.alls Ga s.Args && (D0.alls Jj s.Then && D0.alls Jj s.Else && D0.alls Jj r)) (C0.alls P9 s.Args && (Xz s && D0.alls snumb s.Then && D0.alls snumb s.Else && D0.alls snumb r))) := by
        intro o hr
        rw [Y4, Xd o hr.dep, ob, args _ rfl (hr.x0.less (by omega)), tail _ (U7.x hr.x0)]
        simp only [O6, stU, Bool.true_and, Bool.and_assoc, Nat.zero_add, Nat.zero_max]
      have j2 : ∀ o : E0, U7 o (oN s.Value (uVa s.Verb) + (C0.nodess s.Args + (D0.ndss s.Then + D0.ndss s.Else + D0.ndss r))) → X4 l d o s (stU s.Verb) k
          = (Y4 l d (T6 o (oN s.Value (uVa s.Verb)) (oD s.Value (uVa s.Verb)) (oF s.Value (uVa s.Verb) && (bif uNm s.Verb then true else s.Name == [])) (s.Value.all Ga && (bif uNm s.Verb then Y8 s.Name else true)) (s.Value.all P9)) s (stU s.Verb) k) := by
        intro o hr
        have q1 : U7 (T6 o (oN s.Value (uVa s.Verb)) (oD s.Value (uVa s.Verb)) (oF s.Value (uVa s.Verb)) (s.Value.all Ga) (s.Value.all P9)) 0 := U7.x (hr.less (by omega))
        rw [X4]
        show (I4 s.Value (uVa s.Verb) o >>= _) = _
        rw [E1t s.Value (uVa s.Verb) hs.value o (hr.less (by omega)), ob, Xd _ q1.dep, ob, H1z _ (q1.x0).dep s.Name hs.name]
        simp only [O6, stU]
        cases uNm s.Verb with
        | true => rw [if_pos rfl, ob]; simp
        | false => rw [if_neg (by simp)]; simp
      rw [J4, e1, if_pos rfl, e2, ob, S2c o hr.low (by unfold BB; omega) d, ob, P23, ob, Xd _ (show 0 ≤ (T6 o 1 d true true true).depth by rw [H14]; have := hr.dep; omega), ob, O6]
      have hr1 : U7 (T6 o (1 + 0) (max d 0) (true && (stU s.Verb).2) (true && true) (true && true)) (oN s.Place (uPl s.Verb) + (oN s.Value (uVa s.Verb) + (C0.nodess s.Args + (D0.ndss s.Then + D0.ndss s.Else + D0.ndss r)))) := U7.x (hr.less (by omega))
      have hopt := E1t s.Place (uPl s.Verb) hs.place _ (hr1.less (k := oN s.Place (uPl s.Verb)) (by omega))
      show (I4 s.Place (uPl s.Verb) _ >>= _) = _
      rw [hopt, ob, A1z, O6]
      have hr2 : ∀ f, U7 (T6 o (1 + 0 + oN s.Place (uPl s.Verb)) (max (max d 0) (oD s.Place (uPl s.Verb))) f (true && true && s.Place.all Ga) (true && true && s.Place.all P9)) (oN s.Value (uVa s.Verb) + (C0.nodess s.Args + (D0.ndss s.Then + D0.ndss s.Else + D0.ndss r))) := fun f => U7.x (hr.less (by omega))
      have fin : ∀ b : Bool, (bif uPl s.Verb then s.Place.place else true) = b →
          X4 l d (T6 o (1 + 0 + oN s.Place (uPl s.Verb)) (max (max d 0) (oD s.Place (uPl s.Verb))) (true && (stU s.Verb).2 && oF s.Place (uPl s.Verb) && b) (true && true && s.Place.all Ga) (true && true && s.Place.all P9)) s (stU s.Verb) k
            = some (T6 o (D0.ndss (s :: r)) (D0.dpss (s :: r) d) (D0.alls sform (s :: r)) (D0.alls Jj (s :: r)) (D0.alls snumb (s :: r))) := by
        rintro _ rfl
        rw [j2 _ (hr2 _), j3 _ (U7.x (hr2 _)), O6, O6]
        simp only [D0.ndss, D0.dpss, D0.alls, D0.nds_eq, D0.dps_eq, D0.all_eq, sform, Jj, snumb, stU, Bool.true_and, Bool.and_assoc, Nat.add_assoc, Nat.max_assoc, Nat.zero_add]
        congr 1
      cases hu : uPl s.Verb with
      | true =>
        rw [hu] at fin hr2
        rw [if_pos (show (stU s.Verb).1.place = true from hu), ob, Xd _ (hr2 _).dep, ob, O6]
        have := fin s.Place.place rfl
        simpa using this
      | false =>
        rw [hu] at fin
        rw [if_neg (by rw [show (stU s.Verb).1.place = false from hu]; simp)]
        have := fin true rfl
        rw [Bool.and_true] at this
        exact this
  rw [X3]
  exact main l 0 o rfl hr
end Go.Proofs.YtdkabnfphmmmnaaGreatDoor

set_option linter.unusedSimpArgs false
set_option linter.unusedVariables false
set_option maxHeartbeats 1000000
namespace Go.Proofs.YtdkabnfphmmmnaaGreatDoor
open Go.Am
def isK (k : Int) : Bool := bif decide (k ≥ 0) then decide (k ≤ 6) else false
def uV2 (k : Int) : Bool := bif k == 5 then true else k == 6
def tN (t : A0) (u : Bool) : Nat := bif (bif !u then U17 t else false) then 0 else t.nodes
def tD (t : A0) (u : Bool) : Nat := bif (bif !u then U17 t else false) then 0 else t.depth
theorem Z2i (t : A0) (u : Bool) : tN t u ≤ t.bulk := by
  unfold tN
  have := A0.nodes_bulk t
  cases (bif !u then U17 t else false) <;> simp <;> omega
def pOk (x : B0) : Bool := bif x.Kind == 4 then x.Init == 0 else false
def vOk (x : B0) : Bool := x.Kind == 4
def S19 (d : B0) : Bool := bif N3 d.Init (-1048576) 1048576 then (bif d.TypeV.Kind != 0 then true else N3 d.Init 0 1) else false
def H1j (d : B0) : Bool := bif (bif ((d.Params.length : Int) == 0) then ((d.Vars.length : Int) == 0) else false) then ((d.Body.length : Int) == 0) else false
def dform (d : B0) : Bool :=
  isK d.Kind && d.TypeV.all L5 && oF d.Value (uV2 d.Kind) && (bif d.Kind == 4 then true else d.Init == 0) && (bif d.Kind == 6 then true else H1j d) && d.Params.all pOk && d.Vars.all vOk && D0.alls sform d.Body
def Uo (d : B0) : Bool := d.TypeV.all Jc && Y8 d.Name && d.Value.all Ga && D0.alls Jj d.Body
def dnumb (d : B0) : Bool := d.TypeV.all Oi && d.Value.all P9 && S19 d && D0.alls snumb d.Body
mutual
def B0.nds : B0 → Nat
  | .mk k nm t i v ps vs bd => 1 + (tN t (isK k) + (oN v (uV2 k) + (B0.ndss ps + (B0.ndss vs + D0.ndss bd))))
def B0.ndss : List B0 → Nat
  | [] => 0
  | x :: r => B0.nds x + B0.ndss r
end
mutual
def B0.dps : B0 → Nat
  | .mk k nm t i v ps vs bd => max (tD t (isK k)) (max (oD v (uV2 k)) (max (B0.dpss ps) (max (B0.dpss vs) (D0.dpss bd 1))))
def B0.dpss : List B0 → Nat
  | [] => 0
  | x :: r => max (B0.dps x) (B0.dpss r)
end
mutual
def B0.all (p : B0 → Bool) : B0 → Bool
  | .mk k nm t i v ps vs bd => p (.mk k nm t i v ps vs bd) && (B0.alls p ps && B0.alls p vs)
def B0.alls (p : B0 → Bool) : List B0 → Bool
  | [] => true
  | x :: r => B0.all p x && B0.alls p r
end
theorem B0.nds_eq (d : B0) : d.nds = 1 + (tN d.TypeV (isK d.Kind) + (oN d.Value (uV2 d.Kind) + (B0.ndss d.Params + (B0.ndss d.Vars + D0.ndss d.Body)))) := by cases d; simp only [B0.nds]
theorem B0.dps_eq (d : B0) : d.dps = max (tD d.TypeV (isK d.Kind)) (max (oD d.Value (uV2 d.Kind)) (max (B0.dpss d.Params) (max (B0.dpss d.Vars) (D0.dpss d.Body 1)))) := by cases d; simp only [B0.dps]
theorem B0.all_eq (p : B0 → Bool) (d : B0) : d.all p = (p d && (B0.alls p d.Params && B0.alls p d.Vars)) := by cases d; simp only [B0.all]
theorem B0.ind {P : B0 → Prop} (h : ∀ d : B0, (∀ x ∈ d.Params, P x) → (∀ x ∈ d.Vars, P x) → P d) : ∀ d, P d := by
  intro d
  refine B0.rec (motive_1 := P) (motive_2 := fun l => ∀ x ∈ l, P x) ?_ ?_ ?_ d
  · intro k nm t i v ps vs bd i1 i2
    exact h _ i1 i2
  · intro x hx; cases hx
  · intro x r hx hr y hy
    cases hy with
    | head => exact hx
    | tail _ hy => exact hr y hy
theorem B0.inds {Q : List B0 → Prop} (h : ∀ l : List B0, (∀ x ∈ l, Q x.Params ∧ Q x.Vars) → Q l) : ∀ l, Q l := by
  have key : ∀ s : B0, Q s.Params ∧ Q s.Vars := fun s => by
    induction s using B0.ind with
    | h s i1 i2 => exact ⟨h _ i1, h _ i2⟩
  exact fun l => h l fun x _ => key x
theorem B0.bulk_eq (d : B0) : d.bulk = d.Name.length + d.TypeV.bulk + d.Value.bulk + B0.bulks d.Params + B0.bulks d.Vars + D0.bulks d.Body + 7 := by cases d; simp only [B0.bulk]; omega
theorem B0.bulk_mem {s : B0} : ∀ {l : List B0}, s ∈ l → s.bulk ≤ B0.bulks l
  | x :: r, h => by
    simp only [B0.bulks]
    cases h with
    | head => omega
    | tail _ h => have := B0.bulk_mem h; omega
theorem B0.bulk_len : ∀ l : List B0, l.length ≤ B0.bulks l
  | [] => Nat.le_refl _
  | x :: r => by
    simp only [B0.bulks, List.length_cons]
    have := B0.bulk_len r
    have := B0.bulk_eq x
    omega
mutual
theorem B0.nds_bulk : ∀ d : B0, d.nds ≤ d.bulk
  | .mk k nm t i v ps vs bd => by
    have := Z2i t (isK k)
    have := B2a v (uV2 k)
    have := B0.ndss_bulk ps
    have := B0.ndss_bulk vs
    have := D0.ndss_bulk bd
    simp only [B0.nds, B0.bulk]; omega
theorem B0.ndss_bulk : ∀ l : List B0, B0.ndss l ≤ B0.bulks l
  | [] => Nat.le_refl _
  | x :: r => by
    have := B0.nds_bulk x
    have := B0.ndss_bulk r
    simp only [B0.ndss, B0.bulks]; omega
end
def OkD (l : List B0) : Prop := B0.bulks l ≤ BB
structure G2j (d : B0) : Prop where
  type : Ok d.TypeV
  value : OkE d.Value
  name : d.Name.length ≤ BB
  params : OkD d.Params
  vars : OkD d.Vars
  body : OkS d.Body
theorem OkD.mem {l : List B0} (h : OkD l) {d : B0} (hd : d ∈ l) : G2j d := by
  unfold OkD at h
  have h1 := B0.bulk_mem hd
  have h2 := B0.bulk_eq d
  refine ⟨?_, ?_, ?_, ?_, ?_, ?_⟩ <;> first | (unfold OkE; omega) | (unfold OkS; omega) | (unfold OkD; omega) | (unfold Ok; omega) | omega
theorem OkD.len {l : List B0} (h : OkD l) : l.length ≤ BB := Nat.le_trans (B0.bulk_len l) h
theorem K1z : (A0.mk 0 0 0 0 [] [] []).all Jc = true ∧ (A0.mk 0 0 0 0 [] [] []).all Oi = true := ⟨rfl, rfl⟩
theorem Q1x (c : List B0) (hc : c.length ≤ BB) (q : B0 → Bool) (K : E0 → Option E0) (F : E0 → Int → Option E0)
    (hF : ∀ (o : E0) (k : Int), F o k = if decide (k < (c.length : Int)) = true then idx c k >>= fun x => Y0 (q x) o >>= fun y => F y (IntKind.i64.wrap (k + 1)) else K o) :
    ∀ (r : List B0) (k : Nat) (o : E0), c.drop k = r → 0 ≤ o.depth → F o (k : Int) = K (T6 o 0 0 (r.all q) true true)
  | [], k, o, h, hr => by
    rw [hF, (I1 h).1, if_neg (by simp), List.all_nil, Nx o hr]
  | x :: r, k, o, h, hr => by
    obtain ⟨e1, e2, e3, e4, e5⟩ := V1 h
    rw [hF, e1, if_pos rfl, e2, ob, Xd o hr, ob, w1 (by omega), Q1x c hc q K F hF r (k + 1) _ e3 (by rw [H14]; omega), O6]
    rfl
theorem U2c (l : List B0) : OkD l → ∀ (o : E0), U7 o (B0.ndss l) →
    M5 l o = some (T6 o (B0.ndss l) (B0.dpss l) (B0.alls dform l) (B0.alls Uo l) (B0.alls dnumb l)) := by
  induction l using B0.inds with
  | h l ih =>
  intro hl o hr
  have main : ∀ (r : List B0) (k : Nat) (o : E0), l.drop k = r → U7 o (B0.ndss r) → Z4 l o k = some (T6 o (B0.ndss r) (B0.dpss r) (B0.alls dform r) (B0.alls Uo r) (B0.alls dnumb r)) := by
    intro r
    induction r with
    | nil =>
      intro k o h hr
      rw [Z4, (I1 h).1, if_neg (by simp)]
      exact congrArg some (Nx o hr.dep).symm
    | cons d r ihr =>
      intro k o h hr
      obtain ⟨e1, e2, e3, e4, e5⟩ := V1 h
      have hs := hl.mem e5
      have hlen := hl.len
      obtain ⟨i1, i2⟩ := ih d e5
      simp only [B0.ndss, B0.nds_eq] at hr
      have hhi := hr.high
      have hbB : D0.bulks d.Body ≤ BB := hs.body
      have hlow := hr.low
      unfold BB at hhi
      have l4 := Q1x d.Vars hs.vars.len vOk _ (fun o k' => X5 l o d k k') (fun o k' => X5.eq_1 l o d k k') d.Vars 0
      have l3 := Q1x d.Params hs.params.len pOk _ (fun o k' => A5 l o d k k') (fun o k' => A5.eq_1 l o d k k') d.Params 0
      rw [show ((0 : Nat) : Int) = 0 from rfl] at l4 l3
      have tail : ∀ o : E0, U7 o (B0.ndss d.Params + (B0.ndss d.Vars + (D0.ndss d.Body + B0.ndss r))) →
          A5 l o d k 0 = some (T6 o (B0.ndss d.Params + (B0.ndss d.Vars + (D0.ndss d.Body + B0.ndss r))) (max (B0.dpss d.Params) (max (B0.dpss d.Vars) (max (D0.dpss d.Body 1) (B0.dpss r))))
            (d.Params.all pOk && (d.Vars.all vOk && (B0.alls dform d.Params && (B0.alls dform d.Vars && (D0.alls sform d.Body && B0.alls dform r)))))
            (B0.alls Uo d.Params && (B0.alls Uo d.Vars && (D0.alls Jj d.Body && B0.alls Uo r)))
            (B0.alls dnumb d.Params && (B0.alls dnumb d.Vars && (D0.alls snumb d.Body && B0.alls dnumb r)))) := by
        intro o hr
        have q1 := hr.x0 (m := 0) (f := d.Params.all pOk) (a := true) (u := true)
        have q2 := q1.x0 (m := 0) (f := d.Vars.all vOk) (a := true) (u := true)
        rw [l3 o rfl hr.dep, l4 _ rfl q1.dep, i1 hs.params _ (q2.less (by omega)), ob, i2 hs.vars _ (U7.x (q2.less (by omega))), ob,
          show (1 : Int) = ((1 : Nat) : Int) from rfl, J1z d.Body hs.body 1 _ (by unfold BB at *; omega) (U7.x (U7.x (q2.less (by omega)))), ob, show ((k : Int) + ((1 : Nat) : Int)) = (k : Int) + 1 from rfl, w1 (by omega), ihr (k + 1) _ e3 (U7.x (U7.x (U7.x (q2.less (by omega)))))]
        simp only [O6, Bool.true_and, Bool.and_assoc, Nat.zero_add, Nat.zero_max, Nat.add_assoc, Nat.max_assoc]
      have hin : (if ((N3 d.Init (-1048576) 1048576) && (!(d.TypeV.Kind != 0))) = true then T4 d.Init 0 1 else some default) = some (bif (N3 d.Init (-1048576) 1048576) && (!(d.TypeV.Kind != 0)) then N3 d.Init 0 1 else default) := by
        rw [Tt]
        cases ((N3 d.Init (-1048576) 1048576) && (!(d.TypeV.Kind != 0))) <;> rfl
      have j2 : ∀ (x2 : Bool × Bool) (o : E0), x2 = (isK d.Kind, uV2 d.Kind) → U7 o (oN d.Value (uV2 d.Kind) + (B0.ndss d.Params + (B0.ndss d.Vars + (D0.ndss d.Body + B0.ndss r)))) →
          W5 l o d x2 k = some (T6 o (oN d.Value (uV2 d.Kind) + (B0.ndss d.Params + (B0.ndss d.Vars + (D0.ndss d.Body + B0.ndss r)))) (max (oD d.Value (uV2 d.Kind)) (max (B0.dpss d.Params) (max (B0.dpss d.Vars) (max (D0.dpss d.Body 1) (B0.dpss r)))))
            (oF d.Value (uV2 d.Kind) && ((bif d.Kind == 4 then true else d.Init == 0) && ((bif d.Kind == 6 then true else H1j d) && (d.Params.all pOk && (d.Vars.all vOk && (B0.alls dform d.Params && (B0.alls dform d.Vars && (D0.alls sform d.Body && B0.alls dform r))))))))
            (Y8 d.Name && (d.Value.all Ga && (B0.alls Uo d.Params && (B0.alls Uo d.Vars && (D0.alls Jj d.Body && B0.alls Uo r)))))
            (d.Value.all P9 && (S19 d && (B0.alls dnumb d.Params && (B0.alls dnumb d.Vars && (D0.alls snumb d.Body && B0.alls dnumb r)))))) := by
        rintro _ o rfl hr
        have q1 := hr.x0 (m := 0) (f := true) (a := Y8 d.Name) (u := true)
        have q2 := U7.x (m := oD d.Value (uV2 d.Kind)) (f := oF d.Value (uV2 d.Kind)) (a := d.Value.all Ga) (u := d.Value.all P9) q1
        have hio : (bif N3 d.Init (-1048576) 1048576 then (bif (d.TypeV.Kind != 0) then true else (bif (N3 d.Init (-1048576) 1048576) && (!(d.TypeV.Kind != 0)) then N3 d.Init 0 1 else default)) else false) = S19 d := by
          unfold S19
          cases N3 d.Init (-1048576) 1048576 <;> cases (d.TypeV.Kind != 0) <;> rfl
        rw [W5, H1z o hr.dep d.Name hs.name, ob, E1t d.Value (uV2 d.Kind) hs.value _ (q1.less (by omega)), ob, Xd _ q2.dep, ob, Tt, ob, hin, ob, hio, Fn _ (q2.x0).dep, ob, Xd _ (q2.x0.x0).dep, ob, tail _ (q2.x0.x0.x0)]
        simp only [O6, Bool.true_and, Bool.and_true, Bool.and_assoc, Nat.zero_add, Nat.add_zero, Nat.zero_max, Nat.max_zero, Nat.add_assoc, Nat.max_assoc, H1j]
      have hwn : (E0.mk (IntKind.i64.wrap (o.nodes + 1)) o.depth o.badForm o.badName o.badNumber) = T6 o 1 0 true true true := by
        rw [wr (by omega) (by omega)]
        simp only [T6, Bool.not_true, Bool.or_false]
        have := hr.dep
        rw [show max o.depth ((0 : Nat) : Int) = o.depth by omega]
        rfl
      have q1 : U7 (T6 o 1 0 true true true) (tN d.TypeV (isK d.Kind) + (oN d.Value (uV2 d.Kind) + (B0.ndss d.Params + (B0.ndss d.Vars + (D0.ndss d.Body + B0.ndss r))))) := U7.x (hr.less (by omega))
      have q2 := q1.x0 (m := 0) (f := isK d.Kind) (a := true) (u := true)
      rw [Z4, e1, if_pos rfl, e2, ob, show Pl d.Kind = some (isK d.Kind, uV2 d.Kind) from rfl, ob]
      show (Y0 (isK d.Kind) _ >>= _) = _
      rw [hwn, Xd _ q1.dep, ob, Y29 d.TypeV hs.type]
      show ((if (!(isK d.Kind)) = true then some (U17 d.TypeV) else some default) >>= _) = _
      cases hk : isK d.Kind with
      | true =>
        rw [hk] at q2
        have q3 := q2
        unfold tN at q3
        simp only [Bool.not_true, cond_false] at q3
        rw [if_neg (by simp), ob]
        rw [if_pos (show (bif (true, uV2 d.Kind).1 then true else !default) = true from rfl), R23 d.TypeV hs.type _ (q3.less (by omega)), ob, j2 _ _ (by rw [hk]) (U7.x q3)]
        simp only [O6, B0.ndss, B0.dpss, B0.alls, B0.nds_eq, B0.dps_eq, B0.all_eq, dform, Uo, dnumb, hk, tN, tD, Bool.not_true, cond_false, Bool.true_and, Bool.and_assoc, Nat.add_assoc, Nat.max_assoc, Nat.zero_max, Nat.zero_add]
        congr 1
        simp only [T6]
        congr 1
        all_goals first
          | (congr 1; congr 1; ac_rfl)
          | (congr 1; congr 1)
          | skip
      | false =>
        rw [hk] at q2
        rw [if_pos (show (!false) = true from rfl), ob]
        show (if (!(U17 d.TypeV)) = true then _ else _) = _
        cases hz : U17 d.TypeV with
        | true =>
          unfold tN at q2
          rw [hz] at q2
          simp only [Bool.not_false, cond_true, Nat.zero_add] at q2
          rw [if_neg (by simp), j2 _ _ (by rw [hk]) q2]
          have hzt := R2f hz
          simp only [O6, B0.ndss, B0.dpss, B0.alls, B0.nds_eq, B0.dps_eq, B0.all_eq, dform, Uo, dnumb, hk, tN, tD, hz, Bool.not_false, cond_true, Bool.true_and, Bool.false_and, Bool.and_assoc, Nat.add_assoc, Nat.max_assoc, Nat.zero_max, Nat.zero_add]
          rw [hzt, K1z.1, K1z.2]
          simp only [Bool.true_and]
          congr 1
          simp only [T6]
          congr 1
          all_goals first
            | (congr 1; congr 1; ac_rfl)
            | (congr 1; congr 1)
            | skip
        | false =>
          have q3 := q2
          unfold tN at q3
          rw [hz] at q3
          simp only [Bool.not_false, cond_false, cond_true] at q3
          rw [if_pos (by simp), R23 d.TypeV hs.type _ (q3.less (by omega)), ob, j2 _ _ (by rw [hk]) (U7.x q3)]
          simp only [O6, B0.ndss, B0.dpss, B0.alls, B0.nds_eq, B0.dps_eq, B0.all_eq, dform, Uo, dnumb, hk, tN, tD, hz, Bool.not_false, cond_true, cond_false, Bool.true_and, Bool.false_and, Bool.and_assoc, Nat.add_assoc, Nat.max_assoc, Nat.zero_max, Nat.zero_add]
          congr 1
          simp only [T6]
          congr 1
          all_goals first
            | (congr 1; congr 1; ac_rfl)
            | (congr 1; congr 1)
            | skip
  rw [M5]
  exact main l 0 o rfl hr
structure OkP (p : K0) : Prop where
  decls : OkD p.Decls
  body : OkS p.Body
def P1v (p : K0) : Nat := B0.ndss p.Decls + D0.ndss p.Body
def Q1v (p : K0) : Nat := max (B0.dpss p.Decls) (D0.dpss p.Body 1)
def Q1e (p : K0) : Int :=
  Jn (P1v p) (Q1v p) (!(B0.alls dform p.Decls && D0.alls sform p.Body)) (!(B0.alls Uo p.Decls && D0.alls Jj p.Body)) (!(B0.alls dnumb p.Decls && D0.alls snumb p.Body))
theorem C2a (p : K0) (h : OkP p) : Uj p = some (T6 ⟨0, 0, false, false, false⟩ (P1v p) (Q1v p) (B0.alls dform p.Decls && D0.alls sform p.Body) (B0.alls Uo p.Decls && D0.alls Jj p.Body) (B0.alls dnumb p.Decls && D0.alls snumb p.Body)) := by
  have h1 := B0.ndss_bulk p.Decls
  have h2 := D0.ndss_bulk p.Body
  have h3 : B0.bulks p.Decls ≤ BB := h.decls
  have h4 : D0.bulks p.Body ≤ BB := h.body
  have hr : U7 ⟨0, 0, false, false, false⟩ (B0.ndss p.Decls + D0.ndss p.Body) := ⟨Int.le_refl _, Int.le_refl _, by simp only; omega⟩
  unfold Uj
  rw [U2c p.Decls h.decls _ (hr.less (by omega)), ob, show (1 : Int) = ((1 : Nat) : Int) from rfl, J1z p.Body h.body 1 _ (by unfold BB at *; omega) (U7.x hr), ob, O6]
  rfl
theorem V2c (n m : Nat) (f a u : Bool) : E7 (T6 ⟨0, 0, false, false, false⟩ n m f a u) = some (Jn n m (!f) (!a) (!u)) := by
  rw [I23]
  simp only [T6, Bool.false_or]
  rw [show (0 : Int) + (n : Int) = n by omega, show max (0 : Int) (m : Int) = m by omega]
theorem S2f (p : K0) (h : OkP p) : On p = some (Q1e p) := by
  unfold On
  rw [C2a p h, ob, V2c, ob]
  rfl
end Go.Proofs.YtdkabnfphmmmnaaGreatDoor

set_option linter.unusedSimpArgs false
set_option linter.unusedVariables false
set_option maxHeartbeats 1000000
namespace Go.Proofs.YtdkabnfphmmmnaaGreatDoor
open Go.Am
theorem ifs {b c : Bool} {X : Option Bool} {y : Bool} (h : b = !c) (hx : X = some y) : (if b = true then some false else X) = some (c && y) := by
  subst h
  rw [hx]
  cases c <;> rfl
theorem ifd (c a : Bool) : (if c = true then some a else some default) = some (bif c then a else default) := by cases c <;> rfl
theorem rUP (v : Int) : Rl v = some (uPl v) := rfl
theorem rUV (v : Int) : Sl v = some (uVa v) := rfl
theorem rUN (v : Int) : Zr v = some (uNm v) := rfl
theorem H2j (v : Int) : O17 v = some (uNn v) := rfl
theorem rUT (v : Int) : Tx v = some (uTh v) := rfl
theorem rDT (k : Int) : Xr k = some (isK k) := rfl
theorem rDV (k : Int) : Ql k = some (uV2 k) := rfl
def szX (s : Q0) (n m : Nat) : Q0 := ⟨s.nodes + n, max s.depth m⟩
theorem H1g (s : Q0) (n m n' m' : Nat) : szX (szX s n m) n' m' = szX s (n + n') (max m m') := by
  simp only [szX]
  rw [show s.nodes + (n : Int) + (n' : Int) = s.nodes + ((n + n' : Nat) : Int) by omega, show max (max s.depth (m : Int)) (m' : Int) = max s.depth ((max m m' : Nat) : Int) by omega]
structure Lb (s : Q0) (n : Nat) : Prop where
  dep : 0 ≤ s.depth
  low : 0 ≤ s.nodes
  high : s.nodes + n ≤ 3 * BB
theorem Lb.x {s : Q0} {n k m : Nat} (h : Lb s (k + n)) : Lb (szX s k m) n := by
  obtain ⟨h1, h2, h3⟩ := h
  refine ⟨?_, ?_, ?_⟩ <;> simp only [szX] <;> omega
theorem Lb.less {s : Q0} {n k : Nat} (h : Lb s n) (hk : k ≤ n) : Lb s k := ⟨h.dep, h.low, by have := h.high; omega⟩
theorem R1e (s : Q0) (h : 0 ≤ s.depth) : szX s 0 0 = s := by
  simp only [szX]
  rw [show s.nodes + ((0 : Nat) : Int) = s.nodes by omega, show max s.depth ((0 : Nat) : Int) = s.depth by omega]
theorem X1k (s : Q0) (e : C0) (u : Bool) (h : OkE e) (hr : Lb s (oN e u)) : Ng s e u = some (szX s (oN e u) (oD e u)) := by
  have hn := h.nodes
  have hh := hr.high
  have hl := hr.low
  unfold Ng
  rw [G1g e h, ifd, ob, V29 e h, W29 e h]
  unfold oN oD at *
  cases u with
  | true =>
    simp only [Bool.not_true, cond_false] at *
    unfold BB at hh hn
    rw [if_neg (by simp), ob, ob, R19, ob, wr (n := s.nodes + (e.nodes : Int)) (by omega) (by omega)]
    rfl
  | false =>
    simp only [Bool.not_false, cond_true] at *
    cases hz : Gr e with
    | true => rw [if_pos rfl]; exact congrArg some (R1e s hr.dep).symm
    | false =>
      rw [hz] at hh
      simp only [cond_false] at hh
      unfold BB at hh hn
      rw [if_neg (by simp), ob, ob, R19, ob, wr (n := s.nodes + (e.nodes : Int)) (by omega) (by omega)]
      rfl
theorem T2f (s : Q0) (t : A0) (u : Bool) (h : Ok t) (hr : Lb s (tN t u)) : Ej s t u = some (szX s (tN t u) (tD t u)) := by
  have hn := h.nodes
  have hh := hr.high
  have hl := hr.low
  unfold Ej
  rw [R2c t h, ifd, ob, V1y t h, W1y t h]
  unfold tN tD at *
  cases u with
  | true =>
    simp only [Bool.not_true, cond_false] at *
    unfold BB at hh hn
    rw [if_neg (by simp), ob, ob, R19, ob, wr (n := s.nodes + (t.nodes : Int)) (by omega) (by omega)]
    rfl
  | false =>
    simp only [Bool.not_false, cond_true] at *
    cases hz : U17 t with
    | true => rw [if_pos rfl]; exact congrArg some (R1e s hr.dep).symm
    | false =>
      rw [hz] at hh
      simp only [cond_false] at hh
      unfold BB at hh hn
      rw [if_neg (by simp), ob, ob, R19, ob, wr (n := s.nodes + (t.nodes : Int)) (by omega) (by omega)]
      rfl
theorem N2i (s : Q0) (hr : Lb s 1) (d : Nat) : N9 ⟨IntKind.i64.wrap (s.nodes + 1), s.depth⟩ (d : Int) = some (szX s 1 d) := by
  have hh := hr.high
  have hl := hr.low
  unfold BB at hh
  rw [R19, wr (n := s.nodes + 1) (by omega) (by omega)]
  rfl
theorem R1x (e : C0) : oN e true = e.nodes ∧ oD e true = e.depth := ⟨rfl, rfl⟩
theorem L1z (s : D0) (hs : K1a s) (K : Q0 → Option Q0) (F : Q0 → Int → Option Q0)
    (hF : ∀ (o : Q0) (k : Int), F o k = if decide (k < (s.Args.length : Int)) = true then idx s.Args k >>= fun x => Ng o x true >>= fun y => F y (IntKind.i64.wrap (k + 1)) else K o) :
    ∀ (r : List C0) (k : Nat) (o : Q0), s.Args.drop k = r → Lb o (C0.nodess r) → F o (k : Int) = K (szX o (C0.nodess r) (C0.depths r))
  | [], k, o, h, hr => by
    rw [hF, (I1 h).1, if_neg (by simp)]
    simp only [C0.nodess, C0.depths]
    rw [R1e o hr.dep]
  | x :: r, k, o, h, hr => by
    obtain ⟨e1, e2, e3, e4, e5⟩ := V1 h
    have := hs.args
    simp only [C0.nodess] at hr
    rw [hF, e1, if_pos rfl, e2, ob, X1k o x true (hs.arg x e5) (hr.less (by rw [(R1x x).1]; omega)), ob, (R1x x).1, (R1x x).2, w1 (by omega), L1z s hs K F hF r (k + 1) _ e3 hr.x, H1g]
    rfl
theorem A1p (l : List D0) : OkS l → ∀ (d : Nat) (o : Q0), d + D0.bulks l ≤ 3 * BB → Lb o (D0.ndss l) → Ce o l d = some (szX o (D0.ndss l) (D0.dpss l d)) := by
  induction l using D0.inds with
  | h l ih =>
  intro hl d o hd hr
  have main : ∀ (r : List D0) (k : Nat) (o : Q0), l.drop k = r → Lb o (D0.ndss r) → Ye l d o k = some (szX o (D0.ndss r) (D0.dpss r d)) := by
    intro r
    induction r with
    | nil =>
      intro k o h hr
      rw [Ye, (I1 h).1, if_neg (by simp)]
      exact congrArg some (R1e o hr.dep).symm
    | cons s r ihr =>
      intro k o h hr
      obtain ⟨e1, e2, e3, e4, e5⟩ := V1 h
      have hs := hl.mem e5
      have hlen := hl.len
      obtain ⟨i1, i2⟩ := ih s e5
      have hbm := D0.bulk_mem e5
      have hbe := D0.bulk_eq s
      simp only [D0.ndss, D0.nds_eq] at hr
      unfold BB at hd
      have hwd : IntKind.i64.wrap ((d : Int) + 1) = ((d + 1 : Nat) : Int) := by rw [wr (by omega) (by omega)]; rfl
      have args := L1z s hs _ (fun o k' => Ri l d o s k k') (fun o k' => Ri.eq_1 l d o s k k') s.Args 0
      rw [show ((0 : Nat) : Int) = 0 from rfl] at args
      have q1 : Lb (szX o 1 d) (oN s.Place (uPl s.Verb) + (oN s.Value (uVa s.Verb) + (C0.nodess s.Args + (D0.ndss s.Then + (D0.ndss s.Else + D0.ndss r))))) := Lb.x (hr.less (by omega))
      have q2 := Lb.x (m := oD s.Place (uPl s.Verb)) q1
      have q3 := Lb.x (m := oD s.Value (uVa s.Verb)) q2
      have q4 := Lb.x (m := C0.depths s.Args) q3
      have q5 := Lb.x (m := D0.dpss s.Then (d + 1)) q4
      have q6 := Lb.x (m := D0.dpss s.Else (d + 1)) q5
      rw [Ye, e1, if_pos rfl, e2, ob, N2i o (hr.less (by omega)) d, ob, rUP, ob, X1k _ s.Place _ hs.place (q1.less (by omega)), ob, rUV, ob, X1k _ s.Value _ hs.value (q2.less (by omega)), ob,
        args _ rfl (q3.less (by omega)), hwd, i1 hs.thens (d + 1) _ (by unfold BB; omega) (q4.less (by omega)), ob, i2 hs.elses (d + 1) _ (by unfold BB; omega) (q5.less (by omega)), ob, w1 (by omega), ihr (k + 1) _ e3 q6]
      simp only [H1g, D0.ndss, D0.dpss, D0.nds_eq, D0.dps_eq, Nat.add_assoc, Nat.max_assoc]
  rw [Ce]
  exact main l 0 o rfl hr
theorem T23 (l : List B0) : OkD l → ∀ (o : Q0), Lb o (B0.ndss l) → Gh o l = some (szX o (B0.ndss l) (B0.dpss l)) := by
  induction l using B0.inds with
  | h l ih =>
  intro hl o hr
  have main : ∀ (r : List B0) (k : Nat) (o : Q0), l.drop k = r → Lb o (B0.ndss r) → Ze l o k = some (szX o (B0.ndss r) (B0.dpss r)) := by
    intro r
    induction r with
    | nil =>
      intro k o h hr
      rw [Ze, (I1 h).1, if_neg (by simp)]
      exact congrArg some (R1e o hr.dep).symm
    | cons s r ihr =>
      intro k o h hr
      obtain ⟨e1, e2, e3, e4, e5⟩ := V1 h
      have hs := hl.mem e5
      have hlen := hl.len
      obtain ⟨i1, i2⟩ := ih s e5
      have hbB : D0.bulks s.Body ≤ BB := hs.body
      simp only [B0.ndss, B0.nds_eq] at hr
      have hh := hr.high
      have hlo := hr.low
      have hw : (Q0.mk (IntKind.i64.wrap (o.nodes + 1)) o.depth) = szX o 1 0 := by
        unfold BB at hh
        rw [wr (by omega) (by omega)]
        have := hr.dep
        simp only [szX]
        rw [show max o.depth ((0 : Nat) : Int) = o.depth by omega]
        rfl
      have q1 : Lb (szX o 1 0) (tN s.TypeV (isK s.Kind) + (oN s.Value (uV2 s.Kind) + (B0.ndss s.Params + (B0.ndss s.Vars + (D0.ndss s.Body + B0.ndss r))))) := Lb.x (hr.less (by omega))
      have q2 := Lb.x (m := tD s.TypeV (isK s.Kind)) q1
      have q3 := Lb.x (m := oD s.Value (uV2 s.Kind)) q2
      have q4 := Lb.x (m := B0.dpss s.Params) q3
      have q5 := Lb.x (m := B0.dpss s.Vars) q4
      have q6 := Lb.x (m := D0.dpss s.Body 1) q5
      rw [Ze, e1, if_pos rfl, e2, ob, rDT, ob, hw, T2f _ s.TypeV _ hs.type (q1.less (by omega)), ob, rDV, ob, X1k _ s.Value _ hs.value (q2.less (by omega)), ob, i1 hs.params _ (q3.less (by omega)), ob, i2 hs.vars _ (q4.less (by omega)), ob,
        show (1 : Int) = ((1 : Nat) : Int) from rfl, A1p s.Body hs.body 1 _ (by unfold BB at *; omega) (q5.less (by omega)), ob, show ((k : Int) + ((1 : Nat) : Int)) = (k : Int) + 1 from rfl, w1 (by omega), ihr (k + 1) _ e3 q6]
      simp only [H1g, B0.ndss, B0.dpss, B0.nds_eq, B0.dps_eq, Nat.add_assoc, Nat.max_assoc, Nat.zero_max]
  rw [Gh]
  exact main l 0 o rfl hr
theorem D2a (s : D0) (hs : K1a s) (p : C0 → Bool) (g : C0 → Option Bool) (hg : ∀ x ∈ s.Args, g x = some (x.all p)) (K : Option Bool) (F : Int → Option Bool) (y : Bool) (hK : K = some y)
    (hF : ∀ k : Int, F k = if decide (k < (s.Args.length : Int)) = true then idx s.Args k >>= fun x => g x >>= fun b => if (!b) = true then some false else F (IntKind.i64.wrap (k + 1)) else K) :
    ∀ (r : List C0) (k : Nat), s.Args.drop k = r → F (k : Int) = some (C0.alls p r && y)
  | [], k, h => by rw [hF, (I1 h).1, if_neg (by simp), hK]; rfl
  | x :: r, k, h => by
    obtain ⟨e1, e2, e3, e4, e5⟩ := V1 h
    have := hs.args
    rw [hF, e1, if_pos rfl, e2, ob, hg x e5, ob, w1 (by omega), D2a s hs p g hg K F y hK hF r (k + 1) e3, C0.alls]
    cases x.all p <;> simp
theorem S1l (l : List D0) : OkS l → Hc l = some (D0.alls sform l) := by
  induction l using D0.inds with
  | h l ih =>
  intro hl
  have main : ∀ (r : List D0) (k : Nat), l.drop k = r → Bd l k = some (D0.alls sform r) := by
    intro r
    induction r with
    | nil => intro k h; rw [Bd, (I1 h).1, if_neg (by simp)]; rfl
    | cons s r ihr =>
      intro k h
      obtain ⟨e1, e2, e3, e4, e5⟩ := V1 h
      have hs := hl.mem e5
      have hlen := hl.len
      obtain ⟨i1, i2⟩ := ih s e5
      have l2 := D2a s hs N4 L8 (fun x hx => F1g x (hs.arg x hx)) _ (fun k' => Hh l s k k') (D0.alls sform s.Then && D0.alls sform s.Else && D0.alls sform r)
        (by
          rw [i1 hs.thens, ob, i2 hs.elses, ifd, ob, w1 (by omega), ihr (k + 1) e3]
          cases D0.alls sform s.Then <;> cases D0.alls sform s.Else <;> simp)
        (fun k' => Hh.eq_1 l s k k') s.Args 0 rfl
      rw [show ((0 : Nat) : Int) = 0 from rfl] at l2
      rw [Bd, e1, if_pos rfl, e2, ob]
      simp only [rUP, rUV, rUN, H2j, rUT, B1z, F1g _ hs.place, F1g _ hs.value, G1g _ hs.place, G1g _ hs.value, ifd, ob]
      have := ifs (b := bif decide (s.Verb < 0) then true else decide (s.Verb > 8)) (c := okV s.Verb) (by unfold okV; rw [Bool.not_not])
        (ifs (c := oF s.Place (uPl s.Verb) && (bif uPl s.Verb then s.Place.place else true)) (b := bif (bif uPl s.Verb then (bif (!(bif uPl s.Verb then s.Place.place else default)) then true else (!(bif (uPl s.Verb && (!(!(bif uPl s.Verb then s.Place.place else default)))) then s.Place.all N4 else default))) else false) then true else (bif (!(bif (!(bif uPl s.Verb then (bif (!(bif uPl s.Verb then s.Place.place else default)) then true else (!(bif (uPl s.Verb && (!(!(bif uPl s.Verb then s.Place.place else default)))) then s.Place.all N4 else default))) else false)) then uPl s.Verb else default)) then (!(bif ((!(bif uPl s.Verb then (bif (!(bif uPl s.Verb then s.Place.place else default)) then true else (!(bif (uPl s.Verb && (!(!(bif uPl s.Verb then s.Place.place else default)))) then s.Place.all N4 else default))) else false)) && (!(bif (!(bif uPl s.Verb then (bif (!(bif uPl s.Verb then s.Place.place else default)) then true else (!(bif (uPl s.Verb && (!(!(bif uPl s.Verb then s.Place.place else default)))) then s.Place.all N4 else default))) else false)) then uPl s.Verb else default))) then Gr s.Place else default)) else false))
          (by unfold oF; cases uPl s.Verb <;> cases s.Place.place <;> cases s.Place.all N4 <;> cases Gr s.Place <;> rfl)
        (ifs (c := oF s.Value (uVa s.Verb)) (b := bif (bif uVa s.Verb then (!(bif uVa s.Verb then s.Value.all N4 else default)) else false) then true else (bif (!(bif (!(bif uVa s.Verb then (!(bif uVa s.Verb then s.Value.all N4 else default)) else false)) then uVa s.Verb else default)) then (!(bif ((!(bif uVa s.Verb then (!(bif uVa s.Verb then s.Value.all N4 else default)) else false)) && (!(bif (!(bif uVa s.Verb then (!(bif uVa s.Verb then s.Value.all N4 else default)) else false)) then uVa s.Verb else default))) then Gr s.Value else default)) else false))
          (by unfold oF; cases uVa s.Verb <;> cases s.Value.all N4 <;> cases Gr s.Value <;> rfl)
        (ifs (c := (bif uNm s.Verb then true else s.Name == []) && (bif s.Verb == 1 then true else ((s.Args.length : Int) == 0)) && (bif uNn s.Verb then true else s.NV == 0) && (bif s.Verb == 7 then true else (bif s.Low == 0 then s.High == 0 else false)) && (bif s.Verb == 8 then true else ((s.Numbers.length : Int) == 0)))
          (b := bif (bif (bif (bif (bif (!(uNm s.Verb)) then (!(s.Name == [])) else false) then true else (bif (s.Verb != 1) then (((s.Args).length : Int) != 0) else false)) then true else (bif (!(bif (!(bif (bif (!(uNm s.Verb)) then (!(s.Name == [])) else false) then true else (bif (s.Verb != 1) then (((s.Args).length : Int) != 0) else false))) then uNn s.Verb else default)) then (s.NV != 0) else false)) then true else (bif (s.Verb != 7) then (bif (s.Low != 0) then true else (s.High != 0)) else false)) then true else (bif (s.Verb != 8) then (((s.Numbers).length : Int) != 0) else false))
          (by
            unfold bne
            generalize (s.Verb == 1) = a1; generalize (s.Verb == 7) = a2; generalize (s.Verb == 8) = a3; generalize (s.Name == []) = a4; generalize ((s.Args.length : Int) == 0) = a5; generalize (s.NV == 0) = a6; generalize (s.Low == 0) = a7; generalize (s.High == 0) = a8
            generalize ((s.Numbers.length : Int) == 0) = a9; generalize uNm s.Verb = b1; generalize uNn s.Verb = b2
            cases b1 <;> cases a4 <;> cases a1 <;> cases a5 <;> cases b2 <;> cases a6 <;> first | rfl | (cases a2 <;> cases a7 <;> cases a8 <;> cases a3 <;> cases a9 <;> rfl))
        (ifs (c := (bif uTh s.Verb then true else ((s.Then.length : Int) == 0)) && (bif s.Verb == 5 then true else ((s.Else.length : Int) == 0))) (b := bif (bif (!(uTh s.Verb)) then (((s.Then).length : Int) != 0) else false) then true else (bif (s.Verb != 5) then (((s.Else).length : Int) != 0) else false))
          (by
            unfold bne
            generalize (s.Verb == 5) = a1; generalize ((s.Then.length : Int) == 0) = a2; generalize ((s.Else.length : Int) == 0) = a3
            generalize uTh s.Verb = a0
            cases a0 <;> cases a1 <;> cases a2 <;> cases a3 <;> rfl) l2))))
      refine this.trans ?_
      simp only [D0.alls, D0.all_eq, sform, Bool.and_assoc]
      congr 1
      generalize C0.alls N4 s.Args = x
      generalize (bif s.Verb == 1 then true else ((s.Args.length : Int) == 0)) = y
      ac_rfl
  rw [Hc]
  exact main l 0 rfl
end Go.Proofs.YtdkabnfphmmmnaaGreatDoor

set_option linter.unusedSimpArgs false
set_option linter.unusedVariables false
set_option maxHeartbeats 1000000
namespace Go.Proofs.YtdkabnfphmmmnaaGreatDoor
open Go.Am
theorem U23 (c : List B0) (hc : c.length ≤ BB) (q : B0 → Bool) (K : Option Bool) (F : Int → Option Bool) (y : Bool) (hK : K = some y)
    (hF : ∀ (r : List B0) (k : Nat) (x : B0), c.drop k = x :: r → F (k : Int) = if q x = true then F (IntKind.i64.wrap ((k : Int) + 1)) else some false) (hE : ∀ k : Nat, c.drop k = [] → F (k : Int) = K) :
    ∀ (r : List B0) (k : Nat), c.drop k = r → F (k : Int) = some (r.all q && y)
  | [], k, h => by rw [hE k h, hK]; rfl
  | x :: r, k, h => by
    obtain ⟨e1, e2, e3, e4, e5⟩ := V1 h
    rw [hF r k x h, w1 (by omega), U23 c hc q K F y hK hF hE r (k + 1) e3, List.all_cons]
    cases q x <;> simp
theorem A20 (l : List B0) : OkD l → Qf l = some (B0.alls dform l) := by
  induction l using B0.inds with
  | h l ih =>
  intro hl
  have main : ∀ (r : List B0) (k : Nat), l.drop k = r → Cd l k = some (B0.alls dform r) := by
    intro r
    induction r with
    | nil => intro k h; rw [Cd, (I1 h).1, if_neg (by simp)]; rfl
    | cons d r ihr =>
      intro k h
      obtain ⟨e1, e2, e3, e4, e5⟩ := V1 h
      have hs := hl.mem e5
      have hlen := hl.len
      obtain ⟨i1, i2⟩ := ih d e5
      have l3 := U23 d.Vars hs.vars.len vOk _ (fun k' => U8 l d k k') (B0.alls dform d.Params && B0.alls dform d.Vars && D0.alls sform d.Body && B0.alls dform r) rfl
        (fun r' k' x hx => by
          obtain ⟨f1, f2, f3, f4, f5⟩ := V1 hx
          show U8 l d k k' = _
          rw [U8, f1, if_pos rfl, f2, ob]
          unfold vOk bne
          cases (x.Kind == 4) <;> rfl)
        (fun k' hx => by
          show U8 l d k k' = _
          rw [U8, (I1 hx).1, if_neg (by simp), i1 hs.params, ob, i2 hs.vars, ifd, ob, S1l d.Body hs.body, ifd, ob, w1 (by omega), ihr (k + 1) e3]
          cases B0.alls dform d.Params <;> cases B0.alls dform d.Vars <;> cases D0.alls sform d.Body <;> simp) d.Vars 0 rfl
      have l2 := U23 d.Params hs.params.len pOk _ (fun k' => T8 l d k k') (d.Vars.all vOk && (B0.alls dform d.Params && B0.alls dform d.Vars && D0.alls sform d.Body && B0.alls dform r)) rfl
        (fun r' k' x hx => by
          obtain ⟨f1, f2, f3, f4, f5⟩ := V1 hx
          show T8 l d k k' = _
          rw [T8, f1, if_pos rfl, f2, ob]
          unfold pOk bne
          cases (x.Kind == 4)
          · rfl
          · simp only [Bool.not_true, Bool.not_false, if_true, ob, cond_true, cond_false]
            cases (x.Init == 0) <;> rfl)
        (fun k' hx => by
          show T8 l d k k' = _
          rw [T8, (I1 hx).1, if_neg (by simp)]
          exact l3) d.Params 0 rfl
      rw [show ((0 : Nat) : Int) = 0 from rfl] at l2
      rw [Cd, e1, if_pos rfl, e2, ob]
      simp only [rDT, rDV, K23 _ hs.type, F1g _ hs.value, G1g _ hs.value, ifd, ob]
      have := ifs (b := bif (!(isK d.Kind)) then true else (!(bif (!(!(isK d.Kind))) then d.TypeV.all L5 else default))) (c := isK d.Kind && d.TypeV.all L5) (by cases isK d.Kind <;> cases d.TypeV.all L5 <;> rfl)
        (ifs (c := oF d.Value (uV2 d.Kind) && (bif d.Kind == 4 then true else d.Init == 0)) (b := bif (bif (bif uV2 d.Kind then (!(bif uV2 d.Kind then d.Value.all N4 else default)) else false) then true else (bif (!(bif (!(bif uV2 d.Kind then (!(bif uV2 d.Kind then d.Value.all N4 else default)) else false)) then uV2 d.Kind else default)) then (!(bif ((!(bif uV2 d.Kind then (!(bif uV2 d.Kind then d.Value.all N4 else default)) else false)) && (!(bif (!(bif uV2 d.Kind then (!(bif uV2 d.Kind then d.Value.all N4 else default)) else false)) then uV2 d.Kind else default))) then Gr d.Value else default)) else false)) then true else (bif (d.Kind != 4) then (d.Init != 0) else false))
          (by
            unfold oF bne
            generalize (d.Kind == 4) = a1
            generalize (d.Init == 0) = a2
            generalize uV2 d.Kind = a3
            cases a3 <;> cases d.Value.all N4 <;> cases Gr d.Value <;> cases a1 <;> cases a2 <;> rfl)
        (ifs (c := bif d.Kind == 6 then true else H1j d) (b := bif (d.Kind != 6) then (bif (bif (((d.Params).length : Int) != 0) then true else (((d.Vars).length : Int) != 0)) then true else (((d.Body).length : Int) != 0)) else false)
          (by
            unfold H1j bne
            cases (d.Kind == 6) <;> cases ((d.Params.length : Int) == 0) <;> cases ((d.Vars.length : Int) == 0) <;> cases ((d.Body.length : Int) == 0) <;> rfl) l2))
      refine this.trans ?_
      simp only [B0.alls, B0.all_eq, dform, Bool.and_assoc]
      congr 1
      ac_rfl
  rw [Qf]
  exact main l 0 rfl
theorem W2c (s : D0) (hs : K1a s) (p : C0 → Bool) (g : C0 → Option Bool) (hg : ∀ x ∈ s.Args, g x = some (x.all p)) (K : Option Bool) (F : Int → Option Bool) (y : Bool) (hK : K = some y)
    (hF : ∀ k : Int, F k = if decide (k < (s.Args.length : Int)) = true then idx s.Args k >>= fun x => g x >>= fun b => if (!b) = true then some false else F (IntKind.i64.wrap (k + 1)) else K) : F 0 = some (C0.alls p s.Args && y) :=
  D2a s hs p g hg K F y hK hF s.Args 0 rfl
theorem I1j (l : List D0) : OkS l → Ab l = some (D0.alls Jj l) := by
  induction l using D0.inds with
  | h l ih =>
  intro hl
  have main : ∀ (r : List D0) (k : Nat), l.drop k = r → Cc l k = some (D0.alls Jj r) := by
    intro r
    induction r with
    | nil => intro k h; rw [Cc, (I1 h).1, if_neg (by simp)]; rfl
    | cons s r ihr =>
      intro k h
      obtain ⟨e1, e2, e3, e4, e5⟩ := V1 h
      have hs := hl.mem e5
      have hlen := hl.len
      obtain ⟨i1, i2⟩ := ih s e5
      have l2 := W2c s hs Ga K7 (fun x hx => G1c x (hs.arg x hx)) _ (fun k' => Vf l s k k') (D0.alls Jj r) (by rw [w1 (by omega), ihr (k + 1) e3]) (fun k' => Vf.eq_1 l s k k')
      rw [Cc, e1, if_pos rfl, e2, ob]
      simp only [rUN, Qs _ hs.name, G1c _ hs.place, G1c _ hs.value, i1 hs.thens, i2 hs.elses, ifd, ob, l2]
      simp only [D0.alls, D0.all_eq, Jj]
      generalize uNm s.Verb = a1
      generalize Y8 s.Name = a2
      generalize s.Place.all Ga = a3
      generalize s.Value.all Ga = a4
      generalize D0.alls Jj s.Then = a5
      generalize D0.alls Jj s.Else = a6
      cases a1 <;> cases a2 <;> cases a3 <;> cases a4 <;> cases a5 <;> cases a6 <;> simp
  rw [Ab]
  exact main l 0 rfl
theorem S1x (l : List B0) : OkD l → Fd l = some (B0.alls Uo l) := by
  induction l using B0.inds with
  | h l ih =>
  intro hl
  have main : ∀ (r : List B0) (k : Nat), l.drop k = r → Dc l k = some (B0.alls Uo r) := by
    intro r
    induction r with
    | nil => intro k h; rw [Dc, (I1 h).1, if_neg (by simp)]; rfl
    | cons d r ihr =>
      intro k h
      obtain ⟨e1, e2, e3, e4, e5⟩ := V1 h
      have hs := hl.mem e5
      have hlen := hl.len
      obtain ⟨i1, i2⟩ := ih d e5
      rw [Dc, e1, if_pos rfl, e2, ob]
      simp only [Qs _ hs.name, Z1y _ hs.type, G1c _ hs.value, i1 hs.params, i2 hs.vars, I1j _ hs.body, ifd, ob, w1 (show k ≤ BB by omega), ihr (k + 1) e3]
      simp only [B0.alls, B0.all_eq, Uo]
      generalize Y8 d.Name = a2
      generalize d.TypeV.all Jc = a3
      generalize d.Value.all Ga = a4
      generalize B0.alls Uo d.Params = a5
      generalize B0.alls Uo d.Vars = a6
      generalize D0.alls Jj d.Body = a1
      cases a1 <;> cases a2 <;> cases a3 <;> cases a4 <;> cases a5 <;> cases a6 <;> simp
  rw [Fd]
  exact main l 0 rfl
theorem E2a (x : Int) : N3 x 0 1048576 = (bif decide (x < 0) then false else !decide (x > 1048576)) := by
  unfold N3
  rw [T1k, U1k]
  cases decide (x ≥ 0) <;> cases decide (x ≤ 1048576) <;> rfl
theorem X2c (s : D0) (hs : K1a s) : ∀ (r : List Int) (k : Nat) (last : Int), s.Numbers.drop k = r → (k = 0 ∧ last = -1 ∨ 0 < k ∧ idx s.Numbers ((k - 1 : Nat) : Int) = some last) → V8 s k = some (G14 last r)
  | [], k, last, h, h0 => by rw [V8, (I1 h).1, if_neg (by simp)]; rfl
  | x :: r, k, last, h, h0 => by
    obtain ⟨e1, e2, e3, e4, e5⟩ := V1 h
    have hnl := hs.nums
    have ih := X2c s hs r (k + 1) x e3 (.inr ⟨by omega, e2⟩)
    unfold BB at hnl
    rw [show G14 last (x :: r) = ((bif N3 x 0 1048576 then decide (x > last) else false) && G14 x r) from rfl, E2a, V8, e1, if_pos rfl, e2, ob, w1 (by unfold BB; omega), ih]
    by_cases hx : x < 0
    · rw [decide_eq_true hx]; rfl
    · rw [decide_eq_false hx, if_pos (show (!false) = true from rfl), ob]
      cases hB : decide (x > 1048576) with
      | true => rfl
      | false =>
        rcases h0 with ⟨rfl, rfl⟩ | ⟨hk, hl⟩
        · have hk : decide (((0 : Nat) : Int) > 0) = false := by decide
          rw [hk, decide_eq_true (show x > -1 by omega)]
          cases G14 x r <;> rfl
        · have hk' : decide ((k : Int) > 0) = true := decide_eq_true (by omega)
          have hw : IntKind.i64.wrap ((k : Int) - 1) = ((k - 1 : Nat) : Int) := by rw [wr (by omega) (by omega)]; omega
          have hd : decide (x ≤ last) = !decide (x > last) := by rw [← decide_not]; exact decide_eq_decide.2 (by omega)
          rw [hk', hw, hl]
          show (if decide (x ≤ last) = true then some false else some (G14 x r)) = some (decide (x > last) && G14 x r)
          rw [hd]
          cases decide (x > last) <;> cases G14 x r <;> rfl
theorem U2f (s : D0) (hs : K1a s) : Gm s = some (Xz s) := by
  unfold Gm Xz
  cases s.Verb == 4 with
  | true => rw [if_pos rfl]; rfl
  | false =>
    rw [if_neg (by simp)]
    cases s.Verb == 6 with
    | true => rw [if_pos rfl]; rfl
    | false =>
      rw [if_neg (by simp)]
      cases s.Verb == 7 with
      | true =>
        rw [if_pos rfl, E1g, ob, E1g, ifd, ob]
        show some _ = some (bif (bif N3 s.Low (-1048576) 1048576 then N3 s.High s.Low 1048576 else false) then decide (s.High - s.Low < 4096) else false)
        congr 1
        by_cases hb : (-1048576 ≤ s.Low ∧ s.Low ≤ 1048576) ∧ (-1048576 ≤ s.High ∧ s.High ≤ 1048576)
        · obtain ⟨⟨b1, b2⟩, b3, b4⟩ := hb
          rw [wr (n := s.High - s.Low) (by omega) (by omega), wr (n := s.High - s.Low + 1) (by omega) (by omega)]
          unfold Lq N3
          rw [decide_eq_true (show s.Low ≥ -1048576 from b1), decide_eq_true b2, decide_eq_true (show s.High ≥ -1048576 from b3), decide_eq_true b4]
          simp only [cond_true]
          have e : decide (s.High - s.Low + 1 ≤ 4096) = decide (s.High - s.Low < 4096) := decide_eq_decide.2 (by omega)
          rw [e]
          show (bif decide (s.Low ≤ s.High) then decide (s.High - s.Low < 4096) else false) = (bif (bif decide (s.Low ≤ s.High) then true else false) then decide (s.High - s.Low < 4096) else false)
          cases decide (s.Low ≤ s.High) <;> rfl
        · unfold Lq N3
          by_cases h1 : -1048576 ≤ s.Low ∧ s.Low ≤ 1048576
          · obtain ⟨b1, b2⟩ := h1
            rw [decide_eq_true (show s.Low ≥ -1048576 from b1), decide_eq_true b2]
            simp only [cond_true]
            by_cases h2 : s.High ≤ 1048576
            · have h3 : ¬ s.High ≥ -1048576 := fun h => hb ⟨⟨b1, b2⟩, h, h2⟩
              rw [decide_eq_false h3, decide_eq_false (show ¬ s.High ≥ s.Low by omega)]
              rfl
            · rw [decide_eq_false h2]
              cases decide (s.High ≥ -1048576) <;> cases decide (s.High ≥ s.Low) <;> rfl
          · have : (bif decide (s.Low ≥ -1048576) then decide (s.Low ≤ 1048576) else false) = false := by
              by_cases h2 : -1048576 ≤ s.Low
              · rw [decide_eq_true (show s.Low ≥ -1048576 from h2), decide_eq_false (fun h => h1 ⟨h2, h⟩)]; rfl
              · rw [decide_eq_false (show ¬ s.Low ≥ -1048576 from h2)]; rfl
            rw [this]
            rfl
      | false =>
        rw [if_neg (by simp)]
        cases s.Verb == 8 with
        | true =>
          have := X2c s hs s.Numbers 0 (-1) rfl (.inl ⟨rfl, rfl⟩)
          rw [show ((0 : Nat) : Int) = 0 from rfl] at this
          rw [if_pos rfl, this, T1k, U1k]
          show _ = some (N3 (s.Numbers.length : Int) 1 32 && G14 (-1) s.Numbers)
          unfold N3
          cases decide ((s.Numbers.length : Int) ≥ 1) <;> cases decide ((s.Numbers.length : Int) ≤ 32) <;> simp
        | false => rfl
theorem S1e (l : List D0) : OkS l → W8 l = some (D0.alls snumb l) := by
  induction l using D0.inds with
  | h l ih =>
  intro hl
  have main : ∀ (r : List D0) (k : Nat), l.drop k = r → T9 l k = some (D0.alls snumb r) := by
    intro r
    induction r with
    | nil => intro k h; rw [T9, (I1 h).1, if_neg (by simp)]; rfl
    | cons s r ihr =>
      intro k h
      obtain ⟨e1, e2, e3, e4, e5⟩ := V1 h
      have hs := hl.mem e5
      have hlen := hl.len
      obtain ⟨i1, i2⟩ := ih s e5
      have l2 := W2c s hs P9 S5 (fun x hx => F14 x (hs.arg x hx)) _ (fun k' => Nc l s k k') (D0.alls snumb r) (by rw [w1 (by omega), ihr (k + 1) e3]) (fun k' => Nc.eq_1 l s k k')
      rw [T9, e1, if_pos rfl, e2, ob]
      simp only [U2f s hs, F14 _ hs.place, F14 _ hs.value, i1 hs.thens, i2 hs.elses, ifd, ob, l2]
      simp only [D0.alls, D0.all_eq, snumb]
      generalize Xz s = a2
      generalize s.Place.all P9 = a3
      generalize s.Value.all P9 = a4
      generalize D0.alls snumb s.Then = a5
      generalize D0.alls snumb s.Else = a6
      cases a2 <;> cases a3 <;> cases a4 <;> cases a5 <;> cases a6 <;> simp
  rw [W8]
  exact main l 0 rfl
def Y1k (d : B0) : Bool := (d.TypeV.all fun t => !G17 t) && d.Value.all P9 && S19 d && D0.alls snumb d.Body
theorem F1t (l : List B0) : OkD l → Sa l = some (B0.alls Y1k l) := by
  induction l using B0.inds with
  | h l ih =>
  intro hl
  have main : ∀ (r : List B0) (k : Nat), l.drop k = r → U9 l k = some (B0.alls Y1k r) := by
    intro r
    induction r with
    | nil => intro k h; rw [U9, (I1 h).1, if_neg (by simp)]; rfl
    | cons d r ihr =>
      intro k h
      obtain ⟨e1, e2, e3, e4, e5⟩ := V1 h
      have hs := hl.mem e5
      have hlen := hl.len
      obtain ⟨i1, i2⟩ := ih d e5
      rw [U9, e1, if_pos rfl, e2, ob, E1g, ob]
      simp only [K1r _ hs.type, F14 _ hs.value, i1 hs.params, i2 hs.vars, S1e _ hs.body, ifd, ob, w1 (show k ≤ BB by omega), ihr (k + 1) e3]
      have hi : (bif (!(Lq d.Init)) then true else (bif (d.TypeV.Kind == 0) then (bif (decide (d.Init < 0)) then true else (decide (d.Init > 1))) else false)) = !(S19 d) := by
        unfold S19 Lq N3 bne
        rw [T1k, U1k d.Init 1]
        cases decide (d.Init ≥ -1048576) <;> cases decide (d.Init ≤ 1048576) <;> cases (d.TypeV.Kind == 0) <;> cases decide (d.Init ≥ 0) <;> cases decide (d.Init ≤ 1) <;> rfl
      rw [hi]
      simp only [B0.alls, B0.all_eq, Y1k]
      generalize S19 d = a2
      generalize (d.TypeV.all fun t => !G17 t) = a3
      generalize d.Value.all P9 = a4
      generalize B0.alls Y1k d.Params = a5
      generalize B0.alls Y1k d.Vars = a6
      generalize D0.alls snumb d.Body = a1
      cases a1 <;> cases a2 <;> cases a3 <;> cases a4 <;> cases a5 <;> cases a6 <;> simp
  rw [Sa]
  exact main l 0 rfl
theorem Y2c (l : List B0) : B0.alls dform l = true → B0.alls Y1k l = B0.alls dnumb l := by
  induction l using B0.inds with
  | h l ih =>
  induction l with
  | nil => intro _; rfl
  | cons d r ihr =>
    intro h
    simp only [B0.alls, B0.all_eq, Bool.and_eq_true] at h
    obtain ⟨⟨h1, h2, h3⟩, h4⟩ := h
    obtain ⟨i1, i2⟩ := ih d List.mem_cons_self
    have h5 : d.TypeV.all L5 = true := by
      unfold dform at h1
      simp only [Bool.and_eq_true] at h1
      exact h1.1.1.1.1.1.1.2
    simp only [B0.alls, B0.all_eq, Y1k, dnumb, ← J1r d.TypeV h5, i1 h2, i2 h3, ihr (fun x hx => ih x (List.mem_cons_of_mem _ hx)) h4]
theorem V2f (p : K0) (h : OkP p) : Lz p = some ⟨P1v p, Q1v p⟩ := by
  have h1 := B0.ndss_bulk p.Decls
  have h2 := D0.ndss_bulk p.Body
  have h3 : B0.bulks p.Decls ≤ BB := h.decls
  have h4 : D0.bulks p.Body ≤ BB := h.body
  have hr : Lb ⟨0, 0⟩ (B0.ndss p.Decls + D0.ndss p.Body) := ⟨Int.le_refl _, Int.le_refl _, by simp only; omega⟩
  unfold Lz
  rw [T23 p.Decls h.decls _ (hr.less (by omega)), ob, show (1 : Int) = ((1 : Nat) : Int) from rfl, A1p p.Body h.body 1 _ (by unfold BB at *; omega) (Lb.x hr), ob, H1g]
  unfold szX P1v Q1v
  simp only
  rw [show (0 : Int) + ((B0.ndss p.Decls + D0.ndss p.Body : Nat) : Int) = ((B0.ndss p.Decls + D0.ndss p.Body : Nat) : Int) by omega, show max (0 : Int) ((max (B0.dpss p.Decls) (D0.dpss p.Body 1) : Nat) : Int) = ((max (B0.dpss p.Decls) (D0.dpss p.Body 1) : Nat) : Int) by omega]
theorem A2j (a b : Bool) : (bif a then (bif a then b else default) else false) = (a && b) := by cases a <;> rfl
theorem Z2c (p : K0) (h : OkP p) : Qz p = some (Q1e p) := by
  unfold Qz
  simp only [V2f p h, A20 _ h.decls, S1l _ h.body, S1x _ h.decls, I1j _ h.body, F1t _ h.decls, S1e _ h.body, ifd, ob, L1r, A2j]
  unfold Q1e
  cases hf : B0.alls dform p.Decls with
  | false => unfold Jn; rfl
  | true => rw [Y2c p.Decls hf]
theorem N1r (l : List D0) : OkS l → ∀ n, ∃ m, S8 l n = some m := by
  induction l using D0.inds with
  | h l ih =>
  intro hl n
  have main : ∀ (r : List D0) (k : Nat) (n : Int), l.drop k = r → ∃ m, Na l n k = some m := by
    intro r
    induction r with
    | nil => intro k n h; rw [Na, (I1 h).1]; exact ⟨_, rfl⟩
    | cons s r ihr =>
      intro k n h
      obtain ⟨e1, e2, e3, e4, e5⟩ := V1 h
      have hs := hl.mem e5
      have hlen := hl.len
      obtain ⟨i1, i2⟩ := ih s e5
      have tail : ∀ n : Int, ∃ m, (if decide ((s.Numbers.length : Int) > 100) = true then some (-1) else S8 s.Then n >>= fun x6 => S8 s.Else x6 >>= fun x7 => Na l x7 (IntKind.i64.wrap ((k : Int) + 1))) = some m := fun n => by
        cases decide ((s.Numbers.length : Int) > 100) with
        | true => exact ⟨_, rfl⟩
        | false =>
          obtain ⟨a, ha⟩ := i1 hs.thens n
          obtain ⟨b, hb⟩ := i2 hs.elses a
          rw [if_neg (by simp), ha, ob, hb, ob, w1 (by omega)]
          exact ihr (k + 1) b e3
      have l2 : ∀ (q : List C0) (j : Nat) (n : Int), s.Args.drop j = q → ∃ m, Vc l s n k j = some m := by
        intro q
        induction q with
        | nil => intro j n hj; rw [Vc, (I1 hj).1, cond_false, if_neg (by simp)]; exact tail n
        | cons a q ihq =>
          intro j n hj
          obtain ⟨f1, f2, f3, f4, f5⟩ := V1 hj
          have := hs.args
          rw [Vc, f1, cond_true, f2]
          cases decide (n ≥ 0) with
          | false => rw [if_neg (by simp)]; exact tail n
          | true =>
            obtain ⟨m, hm⟩ := H1c a (hs.arg a f5) n
            rw [if_pos rfl, ob, hm, ob, w1 (by omega)]
            exact ihq (j + 1) m f3
      rw [Na, e1, cond_true, e2]
      cases decide (n ≥ 0) with
      | false => exact ⟨_, rfl⟩
      | true =>
        rw [if_pos rfl, ob]
        obtain ⟨a, ha⟩ := H1c s.Place hs.place (IntKind.i64.wrap ((IntKind.i64.wrap (n - 1)) - (IntKind.i64.wrap (Int.tdiv ((s.Name).length : Int) 16))))
        obtain ⟨b, hb⟩ := H1c s.Value hs.value a
        rw [ha, ob, hb, ob]
        exact l2 s.Args 0 b rfl
  rw [S8]
  exact main l 0 n rfl
theorem F2a (l : List B0) : OkD l → ∀ n, ∃ m, Jf l n = some m := by
  induction l using B0.inds with
  | h l ih =>
  intro hl n
  have main : ∀ (r : List B0) (k : Nat) (n : Int), l.drop k = r → ∃ m, Wc l n k = some m := by
    intro r
    induction r with
    | nil => intro k n h; rw [Wc, (I1 h).1]; exact ⟨_, rfl⟩
    | cons d r ihr =>
      intro k n h
      obtain ⟨e1, e2, e3, e4, e5⟩ := V1 h
      have hs := hl.mem e5
      have hlen := hl.len
      obtain ⟨i1, i2⟩ := ih d e5
      rw [Wc, e1, cond_true, e2]
      cases decide (n ≥ 0) with
      | false => exact ⟨_, rfl⟩
      | true =>
        rw [if_pos rfl, ob]
        obtain ⟨a, ha⟩ := X29 d.TypeV hs.type (IntKind.i64.wrap ((IntKind.i64.wrap (n - 1)) - (IntKind.i64.wrap (Int.tdiv ((d.Name).length : Int) 16))))
        obtain ⟨b, hb⟩ := H1c d.Value hs.value a
        obtain ⟨c, hc⟩ := i1 hs.params b
        obtain ⟨e, he⟩ := i2 hs.vars c
        obtain ⟨f, hf⟩ := N1r d.Body hs.body e
        rw [ha, ob, hb, ob, hc, ob, he, ob, hf, ob, w1 (by omega)]
        exact ihr (k + 1) f e3
  rw [Jf]
  exact main l 0 n rfl
theorem A2d (p : K0) (h : OkP p) (n : Int) : ∃ b, L18 p n = some b := by
  obtain ⟨a, ha⟩ := F2a p.Decls h.decls n
  obtain ⟨b, hb⟩ := N1r p.Body h.body a
  unfold L18
  rw [ha, ob, hb]
  exact ⟨_, rfl⟩
theorem B2d {p : K0} (h : p.bulk ≤ 1048576) : OkP p := by
  cases p
  simp only [K0.bulk] at h
  exact ⟨by unfold OkD BB; simp only; omega, by unfold OkS BB; simp only; omega⟩
end Go.Proofs.YtdkabnfphmmmnaaGreatDoor

set_option linter.unusedSimpArgs false
namespace Go.Proofs.YtdkabnfphmmmnaaGreatDoor
open Go.Am
def T1e {α : Type} (p : α → Bool) : List α → Nat → Int
  | [], _ => -1
  | x :: r, i => bif p x then (i : Int) else T1e p r (i + 1)
theorem V23 {α : Type} (p : α → Bool) : ∀ (l : List α) (k : Nat), 0 ≤ T1e p l k ↔ l.any p = true
  | [], k => by simp [T1e]
  | x :: r, k => by
    have ih := V23 p r (k + 1)
    rw [List.any_cons, Bool.or_eq_true, ← ih]
    show 0 ≤ (bif p x then (k : Int) else T1e p r (k + 1)) ↔ _
    cases hp : p x with
    | true => simp
    | false => simp
theorem G1t {α : Type} (p : α → Bool) (l : List α) (k : Nat) : decide (T1e p l k ≥ 0) = l.any p := by
  rw [Bool.eq_iff_iff, decide_eq_true_eq]
  exact V23 p l k
theorem G2a {α : Type} {l : List α} {k : Nat} (h : k ≤ l.length) : slc l 0 (k : Int) = some (l.take k) := by
  unfold slc
  rw [if_pos ⟨by omega, by omega, by omega⟩]
  simp
theorem Ev : (0 : Int) = ((0 : Nat) : Int) := rfl
theorem R27 (s : List A0) (hs : s.length ≤ BB) (ih : ∀ x ∈ s, Dg x = some (x.some Rs)) :
    ∀ (r : List A0) (k : Nat), s.drop k = r → W1 s k = some (T1e (A0.some Rs) r k)
  | [], k, h => by rw [W1, (I1 h).1, if_neg (by simp)]; rfl
  | x :: r, k, h => by
    obtain ⟨e1, e2, e3, e4, e5⟩ := V1 h
    rw [W1, e1, if_pos rfl, e2, ob, ih x e5, ob, w1 (by omega), R27 s hs ih r (k + 1) e3, T1e]
    cases A0.some Rs x <;> simp
theorem W2f (t : A0) : Ok t → Dg t = some (t.some Rs) := by
  induction t using A0.ind with
  | h t ih =>
  intro ht
  have := R27 t.Of ht.ofs (fun x hx => ih x hx (ht.kid hx)) t.Of 0 rfl
  rw [← Ev] at this
  rw [Dg, Z2, L3, this, ob, A0.some_eq, G1t]
  show _ = some ((t.Kind == 4) || _)
  cases t.Kind == 4 <;> simp
theorem W23 (t : A0) (ht : Ok t) (ih : ∀ x ∈ t.Of, Dn x = some (x.some Rs)) :
    ∀ (r : List A0) (k : Nat), t.Of.drop k = r → Ak t k = some (r.any (A0.some Rs))
  | [], k, h => by rw [Ak, (I1 h).1, if_neg (by simp)]; rfl
  | x :: r, k, h => by
    obtain ⟨e1, e2, e3, e4, e5⟩ := V1 h
    have := ht.ofs
    rw [Ak, e1, if_pos rfl, e2, ob, ih x e5, ob, w1 (by omega), W23 t ht ih r (k + 1) e3, List.any_cons]
    cases A0.some Rs x <;> simp
theorem C2d (t : A0) : Ok t → Dn t = some (t.some Rs) := by
  induction t using A0.ind with
  | h t ih =>
  intro ht
  rw [Dn, Ev, W23 t ht (fun x hx => ih x hx (ht.kid hx)) t.Of 0 rfl, A0.some_eq]
  show _ = some ((t.Kind == 4) || _)
  cases t.Kind == 4 <;> simp
theorem X23 (s : List Str) (v : Str) (hs : s.length ≤ BB) : ∀ (r : List Str) (k : Nat), s.drop k = r → S2 s v k = some (T1e (fun y => v == y) r k)
  | [], k, h => by rw [S2, (I1 h).1, if_neg (by simp)]; rfl
  | x :: r, k, h => by
    obtain ⟨e1, e2, e3, e4, e5⟩ := V1 h
    rw [S2, e1, if_pos rfl, e2, ob, w1 (by omega), X23 s v hs r (k + 1) e3, T1e]
    cases v == x <;> simp
theorem Y23 (s : List Str) (v : Str) (hs : s.length ≤ BB) : J5 s v = some (s.any fun y => v == y) := by
  unfold J5 K8
  have := X23 s v hs s 0 rfl
  rw [← Ev] at this
  rw [this, ob, ← G1t (fun y => v == y) s 0]
theorem M1z (s : List A0) (hs : s.length ≤ BB) (ih : ∀ x ∈ s, Zd x = some (x.some Jo)) :
    ∀ (r : List A0) (k : Nat), s.drop k = r → C2 s k = some (T1e (A0.some Jo) r k)
  | [], k, h => by rw [C2, (I1 h).1, if_neg (by simp)]; rfl
  | x :: r, k, h => by
    obtain ⟨e1, e2, e3, e4, e5⟩ := V1 h
    rw [C2, e1, if_pos rfl, e2, ob, ih x e5, ob, w1 (by omega), M1z s hs ih r (k + 1) e3, T1e]
    cases A0.some Jo x <;> simp
theorem S27 (t : A0) (ht : Ok t) (b : Bool) (hb : F2 t.Of = some b) :
    ∀ (r : List Str) (k : Nat), t.Names.drop k = r → Nb t k = some (tw (t.Names.take k) r || b)
  | [], k, h => by rw [Nb, (I1 h).1, if_neg (by simp), hb, ob]; rfl
  | x :: r, k, h => by
    obtain ⟨e1, e2, e3, e4, e5⟩ := V1 h
    have := ht.names
    have hx : t.Names[k]? = Option.some x := by
      have := congrArg List.head? h
      simpa using this
    rw [Nb, e1, if_pos rfl, e2, ob, G2a (by omega), ob, Y23 _ _ (by simp; omega), ob, w1 (by omega), S27 t ht b hb r (k + 1) e3, tw, List.take_add_one, hx]
    show _ = some (((t.Names.take k).any fun y => x == y) || tw (t.Names.take k ++ [x]) r || b)
    cases (t.Names.take k).any fun y => x == y <;> simp
theorem Z23 (t : A0) : Ok t → Zd t = some (t.some Jo) := by
  induction t using A0.ind with
  | h t ih =>
  intro ht
  have h1 := M1z t.Of ht.ofs (fun x hx => ih x hx (ht.kid hx)) t.Of 0 rfl
  have h2 : F2 t.Of = some (t.Of.any (A0.some Jo)) := by
    rw [← Ev] at h1
    rw [F2, B4, h1, ob, G1t]
  rw [Zd, Ev, S27 t ht _ h2 t.Names 0 rfl, A0.some_eq]
  rfl
theorem O1r (t : A0) (ht : Ok t) (ih : ∀ x ∈ t.Of, Og x = some (x.some Jo)) :
    ∀ (r : List A0) (k : Nat), t.Of.drop k = r → Ug t k = some (r.any (A0.some Jo))
  | [], k, h => by rw [Ug, (I1 h).1, if_neg (by simp)]; rfl
  | x :: r, k, h => by
    obtain ⟨e1, e2, e3, e4, e5⟩ := V1 h
    have := ht.ofs
    rw [Ug, e1, if_pos rfl, e2, ob, ih x e5, ob, w1 (by omega), O1r t ht ih r (k + 1) e3, List.any_cons]
    cases A0.some Jo x <;> simp
theorem P1r (t : A0) (ht : Ok t) (b : Option Bool) {i : Nat} {x : Str} (hi : idx t.Names (i : Int) = some x) (hb : Hd t (IntKind.i64.wrap ((i : Int) + 1)) = b) :
    ∀ (r : List Str) (k : Nat), (t.Names.take i).drop k = r → i ≤ t.Names.length → Vg t i k = if (r.any fun y => x == y) = true then some true else b
  | [], k, h, hl => by
    have h1 := I1 h
    have : i ≤ k := by have := h1.2; simp at this; omega
    rw [Vg, if_neg (by simp; omega), hb]
    simp
  | y :: r, k, h, hl => by
    obtain ⟨e1, e2, e3, e4, e5⟩ := V1 h
    have hk : k < i := by simp at e4; omega
    have := ht.names
    have hy : idx t.Names (k : Int) = some y := by
      unfold idx at e2 ⊢
      rw [if_pos (by omega)] at e2 ⊢
      rw [show ((k : Int).toNat) = k from rfl, List.getElem?_take, if_pos hk] at e2
      exact e2
    rw [Vg, if_pos (decide_eq_true (by omega)), hi, ob, hy, ob, w1 (by omega), P1r t ht b hi hb r (k + 1) e3 hl, List.any_cons]
    cases x == y <;> simp
theorem Q1r (t : A0) (ht : Ok t) (b : Bool) (hb : Tg t = some b) :
    ∀ (r : List Str) (k : Nat), t.Names.drop k = r → Hd t k = some (tw (t.Names.take k) r || b)
  | [], k, h => by rw [Hd, (I1 h).1, if_neg (by simp), hb]; rfl
  | x :: r, k, h => by
    obtain ⟨e1, e2, e3, e4, e5⟩ := V1 h
    have := ht.names
    have hx : t.Names[k]? = Option.some x := by
      have := congrArg List.head? h
      simpa using this
    have h3 := P1r t ht _ e2 (by rw [w1 (by omega), Q1r t ht b hb r (k + 1) e3]) (t.Names.take k) 0 rfl (by omega)
    rw [Hd, e1, if_pos rfl, Ev, h3, tw, List.take_add_one, hx]
    show _ = some (((t.Names.take k).any fun y => x == y) || tw (t.Names.take k ++ [x]) r || b)
    cases (t.Names.take k).any fun y => x == y <;> simp
theorem R1r (t : A0) : Ok t → t.all L5 = true → Og t = some (t.some Jo) := by
  induction t using A0.ind with
  | h t ih =>
  intro ht hf
  rw [A0.all_eq, Bool.and_eq_true] at hf
  have h4 := O1r t ht (fun x hx => ih x hx (ht.kid hx) (A0.alls_mem hf.2 hx)) t.Of 0 rfl
  have h2 : Tg t = some (t.Of.any (A0.some Jo)) := by rw [Tg, Ev, h4]
  rw [Og, Ev, Q1r t ht _ h2 t.Names 0 rfl, h2, A0.some_eq]
  cases h : t.Kind == 3 with
  | true => rw [if_pos rfl]; rfl
  | false => rw [if_neg (by simp), M2h hf.1 h]; rfl
theorem I1g {t : A0} (hf : I6 t) (h3 : (t.Kind == 3) = true) {l : List A0} (hl : ∀ x ∈ l, x ∈ t.Of) (hn : l.length ≤ t.Of.length) : 0 ≤ A0.cnts l ∧ A0.cnts l ≤ 1056 := by
  have h1 := A0.cnts_bound l fun y hy => A0.cnt_ge y (hf.kid (hl y hy))
  have h2 := (hf.recd h3).1
  omega
theorem T27 (t : A0) (hf : I6 t) (h3 : (t.Kind == 3) = true) (ih : ∀ x ∈ t.Of, Qb x = some x.cnt) :
    ∀ (r : List A0) (k : Nat) (n : Int), t.Of.drop k = r → 0 ≤ n → n + A0.cnts r ≤ 2000 → Rb t n k = some (min (n + A0.cnts r) 33)
  | [], k, n, h, _, _ => by
    rw [Rb, (I1 h).1, if_neg (by simp)]
    simp [A0.cnts]
  | x :: r, k, n, h, h0, hb => by
    obtain ⟨e1, e2, e3, e4, e5⟩ := V1 h
    have := (hf.recd h3).1
    have hr := I1g hf h3 (l := r) (fun y hy => List.mem_of_mem_drop (i := k + 1) (by rw [e3]; exact hy)) (by rw [← e3]; simp)
    have hc := A0.cnt_le x
    have hc' := A0.cnt_ge x (hf.kid e5)
    simp only [A0.cnts] at hb
    rw [Rb, e1, if_pos rfl, e2, ob, ih x e5, ob, wr (n := n + _) (by omega) (by omega), w1 (by unfold BB; omega), T27 t hf h3 ih r (k + 1) _ e3 (by omega) (by omega)]
    simp only [A0.cnts, Int.add_assoc]
theorem A24 (t : A0) : I6 t → Qb t = some t.cnt := by
  induction t using A0.ind with
  | h t ih =>
  intro hf
  have ih' := fun x hx => ih x hx (hf.kid hx)
  rw [Qb, A0.cnt_eq]
  cases h2 : t.Kind == 2 with
  | true =>
    obtain ⟨x, hx, s1, s2⟩ := hf.arr h2
    have hm : x ∈ t.Of := by rw [hx]; exact List.mem_cons_self
    have hc := A0.cnt_le x
    have hc' := A0.cnt_ge x (hf.kid hm)
    have hi : idx t.Of 0 = some x := by rw [hx]; rfl
    have hb : 0 ≤ min t.Size 33 * x.cnt := Int.mul_nonneg (by omega) hc'
    have hb' : min t.Size 33 * x.cnt ≤ 33 * 33 := Int.mul_le_mul (by omega) hc hc' (by omega)
    rw [if_pos rfl, hi, ob, ih' x hm, ob, wr (by omega) (by omega), hx]
    rfl
  | false =>
    cases h3 : t.Kind == 3 with
    | true =>
      have hr := I1g hf h3 (l := t.Of) (fun _ h => h) (Nat.le_refl _)
      rw [if_neg (by simp), if_pos rfl, Ev, T27 t hf h3 ih' t.Of 0 _ rfl (by omega) (by omega)]
      simp
    | false => rfl
theorem B24 (t : A0) (hf : I6 t) (h3 : (t.Kind == 3) = true) (ih : ∀ x ∈ t.Of, Sh x = some x.cnt) :
    ∀ (r : List A0) (k : Nat) (n : Int), t.Of.drop k = r → 0 ≤ n → n + A0.cnts r ≤ 2000 → Xj t n k = some (min (n + A0.cnts r) 33)
  | [], k, n, h, _, _ => by
    rw [Xj, (I1 h).1, if_neg (by simp)]
    simp only [A0.cnts]
    by_cases hn : n > 32
    · rw [if_pos (decide_eq_true hn)]; congr 1; omega
    · rw [if_neg (by simpa using hn)]; congr 1; omega
  | x :: r, k, n, h, h0, hb => by
    obtain ⟨e1, e2, e3, e4, e5⟩ := V1 h
    have := (hf.recd h3).1
    have hr := I1g hf h3 (l := r) (fun y hy => List.mem_of_mem_drop (i := k + 1) (by rw [e3]; exact hy)) (by rw [← e3]; simp)
    have hc := A0.cnt_le x
    have hc' := A0.cnt_ge x (hf.kid e5)
    simp only [A0.cnts] at hb
    rw [Xj, e1, if_pos rfl, e2, ob, ih x e5, ob, wr (n := n + _) (by omega) (by omega), w1 (by unfold BB; omega), B24 t hf h3 ih r (k + 1) _ e3 (by omega) (by omega)]
    simp only [A0.cnts, Int.add_assoc]
theorem N1z (t : A0) : I6 t → Sh t = some t.cnt := by
  induction t using A0.ind with
  | h t ih =>
  intro hf
  have ih' := fun x hx => ih x hx (hf.kid hx)
  have hx23 : (t.Kind == 2) = true → (t.Kind == 3) = false := fun h => by
    have : t.Kind = 2 := by simpa using h
    rw [this]; rfl
  have fin : ∀ n : Int, (t.Kind == 3) = false → Wj t n = some (min n 33) := fun n h3 => by
    rw [Wj, h3, if_neg (by simp)]
    by_cases hn : n > 32
    · rw [if_pos (decide_eq_true hn)]; congr 1; omega
    · rw [if_neg (by simpa using hn)]; congr 1; omega
  rw [Sh, A0.cnt_eq]
  cases h2 : t.Kind == 2 with
  | true =>
    obtain ⟨x, hx, s1, s2⟩ := hf.arr h2
    have hm : x ∈ t.Of := by rw [hx]; exact List.mem_cons_self
    have hc := A0.cnt_le x
    have hc' := A0.cnt_ge x (hf.kid hm)
    have hi : idx t.Of 0 = some x := by rw [hx]; rfl
    have hb : 0 ≤ t.Size * x.cnt := Int.mul_nonneg (by omega) hc'
    have hb' : t.Size * x.cnt ≤ 33 * 33 := Int.mul_le_mul (by omega) hc hc' (by omega)
    rw [if_pos rfl, hi, ob, ih' x hm, ob, wr (by omega) (by omega), fin _ (hx23 h2), hx, show min t.Size 33 = t.Size by omega]
    rfl
  | false =>
    cases h3 : t.Kind == 3 with
    | true =>
      have hr := I1g hf h3 (l := t.Of) (fun _ h => h) (Nat.le_refl _)
      rw [if_neg (by simp), Wj, h3, if_pos rfl, Ev, B24 t hf h3 ih' t.Of 0 _ rfl (by omega) (by omega)]
      simp
    | false => rw [if_neg (by simp), fin _ h3]; rfl
theorem H2a (t : A0) (ht : Ok t) : Qq t = some (Ko t) := by
  unfold Qq Ko
  rw [X1o t ht, ob]
  cases h : Kc t != 0 with
  | true => rfl
  | false =>
    have hf := U1p (show Kc t = 0 by simpa using h)
    unfold Nu M1v
    rw [W2f t ht, Z23 t ht, A24 t hf]
    cases t.some Rs <;> cases t.some Jo <;> by_cases hc : t.cnt > 32 <;> simp [ob, hc]
theorem P25 (t : A0) (ht : Ok t) : Tz t = some (Ko t) := by
  unfold Tz Ko
  rw [R1l t ht, ob]
  cases h : Kc t != 0 with
  | true => rfl
  | false =>
    have hf := U1p (show Kc t = 0 by simpa using h)
    unfold M1v
    rw [C2d t ht, R1r t ht hf.form, N1z t hf]
    cases t.some Rs <;> cases t.some Jo <;> by_cases hc : t.cnt > 32 <;> simp [ob, hc]
theorem Gy {α : Type} {l : List α} {k : Nat} (h : k < l.length) : ∃ y, idx l (k : Int) = some y ∧ l.drop k = y :: l.drop (k + 1) ∧ y ∈ l := by
  refine ⟨l[k], ?_, List.drop_eq_getElem_cons h, List.getElem_mem h⟩
  unfold idx
  rw [if_pos (by omega)]
  simp [h]
end Go.Proofs.YtdkabnfphmmmnaaGreatDoor

set_option linter.unusedSimpArgs false
namespace Go.Proofs.YtdkabnfphmmmnaaGreatDoor
open Go.Am
end Go.Proofs.YtdkabnfphmmmnaaGreatDoor

set_option linter.unusedSimpArgs false
namespace Go.Proofs.YtdkabnfphmmmnaaGreatDoor
open Go.Am
theorem R1v (s u : List Str) (hs : s.length ≤ BB) (hl : s.length = u.length) : ∀ (r : List Str) (k : Nat), s.drop k = r → Y1 s u k = some (eqL (fun x y => x == y) r (u.drop k))
  | [], k, h => by
    rw [Y1, (I1 h).1, if_neg (by simp), List.drop_eq_nil_of_le (by have := (I1 h).2; omega)]; rfl
  | x :: r, k, h => by
    obtain ⟨e1, e2, e3, e4, e5⟩ := V1 h
    obtain ⟨y, f1, f2, f3⟩ := Gy (l := u) (k := k) (by omega)
    rw [Y1, e1, if_pos rfl, e2, ob, f1, ob, w1 (by omega), R1v s u hs hl r (k + 1) e3, f2, eqL]
    cases x == y <;> simp
theorem Q25 (s u : List Str) (hs : s.length ≤ BB) : T3 s u = some (eqL (fun x y => x == y) s u) := by
  unfold T3
  by_cases hl : s.length = u.length
  · rw [if_neg (by simp; omega), Ev, R1v s u hs hl s 0 rfl]; rfl
  · rw [if_pos (by simp; omega), Fy _ hl]
theorem S1v (s u : List A0) (hs : s.length ≤ BB) (hl : s.length = u.length) (ih : ∀ x ∈ s, ∀ y, Cg x y = some (x.same y)) :
    ∀ (r : List A0) (k : Nat), s.drop k = r → C1 s u k = some (eqL A0.same r (u.drop k))
  | [], k, h => by
    rw [C1, (I1 h).1, if_neg (by simp), List.drop_eq_nil_of_le (by have := (I1 h).2; omega)]; rfl
  | x :: r, k, h => by
    obtain ⟨e1, e2, e3, e4, e5⟩ := V1 h
    obtain ⟨y, f1, f2, f3⟩ := Gy (l := u) (k := k) (by omega)
    rw [C1, e1, if_pos rfl, e2, ob, f1, ob, ih x e5 y, ob, w1 (by omega), S1v s u hs hl ih r (k + 1) e3, f2, eqL]
    cases x.same y <;> simp
theorem X2f (t : A0) : Ok t → ∀ u, Cg t u = some (t.same u) := by
  induction t using A0.ind with
  | h t ih =>
  intro ht u
  have ih' := fun x hx => ih x hx (ht.kid hx)
  have hO : L1 t.Of u.Of = some (eqL A0.same t.Of u.Of) := by
    rw [L1]
    by_cases hl : t.Of.length = u.Of.length
    · rw [if_neg (by simp; omega), Ev, S1v t.Of u.Of ht.ofs hl ih' t.Of 0 rfl]; rfl
    · rw [if_pos (by simp; omega), Fy _ hl]
  rw [Cg, hO, Q25 _ _ ht.names, A0.same_eq]
  generalize eqL A0.same t.Of u.Of = a
  generalize eqL (fun x y => x == y) t.Names u.Names = b
  cases t.Kind == u.Kind <;> cases t.Low == u.Low <;> cases t.High == u.High <;> cases t.Size == u.Size <;> cases t.Name == u.Name <;> cases b <;> cases a <;> rfl
end Go.Proofs.YtdkabnfphmmmnaaGreatDoor

set_option linter.unusedSimpArgs false
namespace Go.Proofs.YtdkabnfphmmmnaaGreatDoor
open Go.Am
structure Val (t : A0) : Prop where
  ok : Ok t
  fine : I6 t
  nm : t.some Rs = false
  cnt : t.cnt ≤ 32
theorem Val.of {t : A0} (hok : Ok t) (h : Ko t = 0) : Val t ∧ t.some Jo = false := by
  unfold Ko at h
  cases hc : Kc t != 0 with
  | true =>
    rw [hc] at h
    simp only [cond_true] at h
    rw [h] at hc
    cases hc
  | false =>
    rw [hc] at h
    have hf := U1p (show Kc t = 0 by simpa using hc)
    simp only [cond_false, M1v] at h
    cases h1 : t.some Rs with
    | true => rw [h1] at h; cases h
    | false =>
      cases h2 : t.some Jo with
      | true => rw [h1, h2] at h; cases h
      | false =>
        rw [h1, h2] at h
        by_cases h3 : t.cnt > 32
        · rw [decide_eq_true h3] at h; cases h
        · exact ⟨⟨hok, hf, h1, by omega⟩, rfl⟩
theorem Val.kid0 {t x : A0} (h : Val t) (hx : x ∈ t.Of) (hc : x.cnt ≤ 32) : Val x := by
  refine ⟨h.ok.kid hx, h.fine.kid hx, ?_, hc⟩
  have := h.nm
  rw [A0.some_eq, Bool.or_eq_false_iff] at this
  cases hn : x.some Rs with
  | false => rfl
  | true =>
    have h2 := List.any_eq_true.2 ⟨x, hx, hn⟩
    rw [this.2] at h2
    cases h2
theorem Val.cnt_pos (t : A0) : Val t → 1 ≤ t.cnt := by
  induction t using A0.ind with
  | h t ih =>
  intro h
  have hc := h.cnt
  rw [A0.cnt_eq] at hc ⊢
  cases h2 : t.Kind == 2 with
  | true =>
    obtain ⟨x, hx, s1, s2⟩ := h.fine.arr h2
    have hm : x ∈ t.Of := by rw [hx]; exact List.mem_cons_self
    rw [hx, h2] at hc
    rw [hx]
    simp only [cond_true, A0.cnt1] at hc ⊢
    have h0 := A0.cnt_ge x (h.fine.kid hm)
    have hle : x.cnt ≤ 32 := by
      have : 1 * x.cnt ≤ min t.Size 33 * x.cnt := Int.mul_le_mul_of_nonneg_right (by omega) h0
      omega
    have := ih x hm (h.kid0 hm hle)
    have : 1 * 1 ≤ min t.Size 33 * x.cnt := Int.mul_le_mul (by omega) this (by omega) (by omega)
    omega
  | false =>
    cases h3 : t.Kind == 3 with
    | true =>
      rw [h2, h3] at hc
      simp only [cond_true, cond_false] at hc ⊢
      obtain ⟨r1, r2, r3⟩ := h.fine.recd h3
      cases hl : t.Of with
      | nil => rw [hl] at r3; simp at r3
      | cons x r =>
        have hm : x ∈ t.Of := by rw [hl]; exact List.mem_cons_self
        have hb := A0.cnts_bound r fun y hy => A0.cnt_ge y (h.fine.kid (by rw [hl]; exact List.mem_cons_of_mem _ hy))
        rw [hl] at hc
        simp only [A0.cnts] at hc ⊢
        have := ih x hm (h.kid0 hm (by omega))
        omega
    | false => show 1 ≤ min (1 : Int) 33; omega
theorem Val.arr {t : A0} (h : Val t) (h2 : (t.Kind == 2) = true) : ∃ x, t.Of = [x] ∧ 1 ≤ t.Size ∧ t.Size ≤ 32 ∧ Val x ∧ t.cnt = t.Size * x.cnt := by
  obtain ⟨x, hx, s1, s2⟩ := h.fine.arr h2
  have hm : x ∈ t.Of := by rw [hx]; exact List.mem_cons_self
  have h0 := A0.cnt_ge x (h.fine.kid hm)
  have hc := h.cnt
  have e := A0.cnt_eq t
  rw [hx, h2] at e
  simp only [cond_true, A0.cnt1] at e
  rw [show min t.Size 33 = t.Size by omega] at e
  have hle : x.cnt ≤ 32 := by
    have : 1 * x.cnt ≤ t.Size * x.cnt := Int.mul_le_mul_of_nonneg_right (by omega) h0
    omega
  exact ⟨x, hx, s1, s2, h.kid0 hm hle, by omega⟩
theorem C24 {x : A0} : ∀ {l : List A0}, (∀ y ∈ l, 0 ≤ y.cnt) → x ∈ l → x.cnt ≤ A0.cnts l
  | y :: r, h, hx => by
    have h1 := A0.cnts_bound r fun z hz => h z (List.mem_cons_of_mem _ hz)
    have h2 := h y List.mem_cons_self
    simp only [A0.cnts]
    cases hx with
    | head => omega
    | tail _ hx => have := C24 (fun z hz => h z (List.mem_cons_of_mem _ hz)) hx; omega
theorem Val.recd {t : A0} (h : Val t) (h3 : (t.Kind == 3) = true) : t.Of.length = t.Names.length ∧ t.Of.length ≤ 32 ∧ (∀ x ∈ t.Of, Val x) ∧ t.cnt = A0.cnts t.Of := by
  obtain ⟨r1, r2, r3⟩ := h.fine.recd h3
  have hn := fun y hy => A0.cnt_ge y (h.fine.kid hy)
  have hc := h.cnt
  have e := A0.cnt_eq t
  have h2 : (t.Kind == 2) = false := by
    have : t.Kind = 3 := by simpa using h3
    rw [this]; rfl
  rw [h2, h3] at e
  simp only [cond_true, cond_false] at e
  refine ⟨r2, r1, fun x hx => ?_, by omega⟩
  have := C24 hn hx
  exact h.kid0 hx (by omega)
theorem Val.leaf {t : A0} (h : Val t) (h2 : (t.Kind == 2) = false) (h3 : (t.Kind == 3) = false) : t.cnt = 1 ∧ (t.Kind = 0 ∨ t.Kind = 1) := by
  have e := A0.cnt_eq t
  rw [h2, h3] at e
  refine ⟨by rw [e]; rfl, ?_⟩
  have hn := h.nm
  rw [A0.some_eq, Bool.or_eq_false_iff] at hn
  have hf := h.fine.here.1
  unfold L5 fm1 at hf
  simp only [Bool.and_eq_true] at hf
  have h1 := hf.1.1.1.1.1
  cases hd : decide (t.Kind ≥ 0) with
  | false => rw [hd] at h1; cases h1
  | true =>
    rw [hd] at h1
    have a1 := of_decide_eq_true hd
    have a2 : t.Kind ≤ 4 := of_decide_eq_true h1
    have a3 : t.Kind ≠ 2 := by simpa using h2
    have a4 : t.Kind ≠ 3 := by simpa using h3
    have a5 : t.Kind ≠ 4 := by
      have := hn.1
      unfold Rs at this
      simpa using this
    omega
def rep {β : Type} (f : Nat → List β) : Nat → Nat → List β
  | _, 0 => []
  | k, n + 1 => f k ++ rep f (k + 1) n
def nx (path name : Str) : Str := (path ++ [46]) ++ name
mutual
def A0.sc : A0 → Str → List R0
  | .mk k l h s _ ns of, path => bif k == 0 then [⟨path, true, 0, 1⟩] else bif k == 1 then [⟨path, false, l, h⟩] else bif k == 2 then A0.scA of path s.toNat else bif k == 3 then A0.scR of ns path else []
def A0.scA : List A0 → Str → Nat → List R0
  | [], _, _ => []
  | x :: _, path, n => rep (fun i => A0.sc x (nx path (Lib.decDigits i))) 0 n
def A0.scR : List A0 → List Str → Str → List R0
  | x :: r, n :: ns, path => A0.sc x (nx path n) ++ A0.scR r ns path
  | _, _, _ => []
end
theorem A0.sc_eq (t : A0) (path : Str) : t.sc path = bif t.Kind == 0 then [⟨path, true, 0, 1⟩] else bif t.Kind == 1 then [⟨path, false, t.Low, t.High⟩] else bif t.Kind == 2 then A0.scA t.Of path t.Size.toNat else bif t.Kind == 3 then A0.scR t.Of t.Names path else [] := by cases t; rfl
theorem T1x {k : Nat} (h : k < 100) : (Lib.decDigits k).length ≤ 2 := by
  have h2 : ∀ k < 10, (Lib.decDigits k).length = 1 := fun k hk => by rw [Lib.decDigits, dif_pos hk]; rfl
  rw [Lib.decDigits]
  split
  · simp
  · rw [List.length_append, h2 _ (by omega)]; simp
theorem P2h {k : Nat} (h : k < 100) : I1i (k : Int) = some (Lib.decDigits k) := by
  unfold I1i
  rw [if_pos (decide_eq_true (by omega))]
  rfl
theorem O2i {k : Nat} (h : k < 10) : Bi (k : Int) = some (Lib.decDigits k) := by
  rw [Bi, if_pos (decide_eq_true (by omega)), Lib.decDigits, dif_pos h]
  have : k = 0 ∨ k = 1 ∨ k = 2 ∨ k = 3 ∨ k = 4 ∨ k = 5 ∨ k = 6 ∨ k = 7 ∨ k = 8 ∨ k = 9 := by omega
  rcases this with rfl | rfl | rfl | rfl | rfl | rfl | rfl | rfl | rfl | rfl <;> rfl
theorem P2i {k : Nat} (h : k < 100) : Bi (k : Int) = some (Lib.decDigits k) := by
  by_cases hk : k < 10
  · exact O2i hk
  · rw [Bi, if_neg (by simp; omega), show Int.tdiv (k : Int) 10 = ((k / 10 : Nat) : Int) from rfl, wr (n := ((k / 10 : Nat) : Int)) (by omega) (by omega), O2i (by omega), ob, show Int.tmod (k : Int) 10 = ((k % 10 : Nat) : Int) from rfl, wr (n := ((k % 10 : Nat) : Int) + 1) (by omega) (by omega)]
    have hs : slc [48, 49, 50, 51, 52, 53, 54, 55, 56, 57] ((k % 10 : Nat) : Int) (((k % 10 : Nat) : Int) + 1) = some [UInt8.ofNat (48 + k % 10)] := by
      have : k % 10 < 10 := Nat.mod_lt _ (by omega)
      generalize k % 10 = j at *
      have : j = 0 ∨ j = 1 ∨ j = 2 ∨ j = 3 ∨ j = 4 ∨ j = 5 ∨ j = 6 ∨ j = 7 ∨ j = 8 ∨ j = 9 := by omega
      rcases this with rfl | rfl | rfl | rfl | rfl | rfl | rfl | rfl | rfl | rfl <;> rfl
    have hl := T1x (k := k / 10) (by omega)
    rw [hs, ob, if_pos (decide_eq_true (by unfold maxLen; simp; omega))]
    congr 1
    rw [Lib.decDigits.eq_1 k, dif_neg hk]
theorem D2d (s : Str) (h : s.length ≤ BB) : Dj s = some s := by
  unfold Dj T1p
  unfold BB at h
  rw [if_pos (decide_eq_true (by omega))]
  rfl
def I14 (path : Str) (t : A0) : List R0 := bif t.Kind == 0 then [⟨path, true, 0, 1⟩] else bif t.Kind == 1 then [⟨path, false, t.Low, t.High⟩] else []
theorem Y2f (path : Str) (a : Int) (x : A0) (s : List R0) (hp : path.length ≤ BB) (hs : s.length ≤ 1000) : Uc path a x s = some (true, s ++ I14 path x) := by
  unfold Uc I14
  have hs' : (s.length + 1) * 41 ≤ 140737488355328 := by omega
  rw [D2d path hp]
  cases x.Kind == 0 <;> cases x.Kind == 1 <;> simp [ob, hs']
theorem U27 (path : Str) (t x : A0) (hx : t.Of = [x]) (hs : t.Size ≤ 32) (hp : path.length + t.bulk ≤ BB) (c : Nat) (hc : x.cnt = c)
    (ih : ∀ (path : Str) (s : Int) (s1 : List R0), path.length + x.bulk ≤ BB → 0 ≤ s → s + c ≤ 1000 → s1.length + c ≤ 1000 → M6 path x s s1 = some (true, s + c, s1 ++ x.sc path)) (hl : ∀ path, (x.sc path).length = c) :
    ∀ (n k : Nat) (o : Int) (l : List R0), ((k + n : Nat) : Int) = t.Size → 0 ≤ o → o + (n * c : Nat) ≤ 1000 → l.length + n * c ≤ 1000 →
      D6 path t o l k = some (true, o + (n * c : Nat), l ++ rep (fun i => x.sc (nx path (Lib.decDigits i))) k n)
  | 0, k, o, l, hk, _, _, _ => by
    rw [D6, if_neg (by simp; omega)]
    simp [rep]
  | n + 1, k, o, l, hk, h0, h1, h2 => by
    have hd := T1x (k := k) (by omega)
    have hbx := A0.bulk_eq t
    rw [hx] at hbx
    simp only [A0.bulks] at hbx
    unfold BB at hp
    rw [Nat.add_mul, Nat.one_mul] at h1 h2
    rw [D6, if_pos (decide_eq_true (by omega)), if_pos (decide_eq_true (by unfold maxLen; omega)), P2h (by omega), ob, if_pos (decide_eq_true (by unfold maxLen; simp; omega)), hx, show idx [x] 0 = some x from rfl, ob,
      ih _ o l (by unfold BB; simp; omega) h0 (by omega) (by omega), ob]
    simp only [Bool.not_true, Bool.false_eq_true, if_false]
    rw [w1 (by unfold BB; omega), U27 path t x hx hs (by unfold BB; omega) c hc ih hl n (k + 1) _ _ (by omega) (by omega) (by omega) (by rw [List.length_append, hl]; omega)]
    rw [rep, Nat.add_mul, Nat.one_mul, List.append_assoc]
    congr 3
    omega
theorem V27 (path : Str) (t : A0) (hp : path.length + t.bulk ≤ BB) (hln : t.Of.length = t.Names.length) (hv : ∀ x ∈ t.Of, Val x)
    (ih : ∀ x ∈ t.Of, ∀ (path : Str) (s : Int) (s1 : List R0), path.length + x.bulk ≤ BB → 0 ≤ s → s + x.cnt ≤ 1000 → s1.length + x.cnt ≤ 1000 → M6 path x s s1 = some (true, s + x.cnt, s1 ++ x.sc path)) (hl : ∀ x ∈ t.Of, ∀ path, ((x.sc path).length : Int) = x.cnt) :
    ∀ (r : List A0) (k : Nat) (o : Int) (l : List R0), t.Of.drop k = r → 0 ≤ o → o + A0.cnts r ≤ 1000 → l.length + A0.cnts r ≤ 1000 →
      C6 path t o l k = some (true, o + A0.cnts r, l ++ A0.scR r (t.Names.drop k) path)
  | [], k, o, l, h, _, _, _ => by
    rw [C6, (I1 h).1, if_neg (by simp)]
    simp [A0.cnts, A0.scR]
  | x :: r, k, o, l, h, h0, h1, h2 => by
    obtain ⟨e1, e2, e3, e4, e5⟩ := V1 h
    obtain ⟨y, f1, f2, f3⟩ := Gy (l := t.Names) (k := k) (by omega)
    have hof := (hv x e5).ok
    have hofs : t.Of.length ≤ BB := by have := A0.bulk_len t.Of; have := A0.bulk_eq t; omega
    have hc := Val.cnt_pos x (hv x e5)
    have hr := A0.cnts_bound r fun y hy => by have := Val.cnt_pos y (hv y (List.mem_of_mem_drop (i := k + 1) (by rw [e3]; exact hy))); omega
    have hbx := A0.bulk_eq t
    have hb1 := A0.bulk_kid e5
    have hb2 := V1k f3
    unfold BB at hp hofs
    simp only [A0.cnts] at h1 h2
    rw [C6, e1, if_pos rfl, e2, ob, if_pos (decide_eq_true (by unfold maxLen; omega)), f1, ob, if_pos (decide_eq_true (by unfold maxLen; simp; omega)),
      ih x e5 _ o l (by unfold BB; simp; omega) h0 (by omega) (by omega), ob]
    simp only [Bool.not_true, Bool.false_eq_true, if_false]
    have hlx := hl x e5 ((path ++ [46]) ++ y)
    rw [w1 (by unfold BB; omega), V27 path t (by unfold BB; omega) hln hv ih hl r (k + 1) _ _ e3 (by omega) (by omega) (by rw [List.length_append]; omega)]
    rw [f2, A0.scR, A0.cnts, List.append_assoc, Int.add_assoc]
    rfl
theorem W27 {β : Type} {f : Nat → List β} {c : Nat} (h : ∀ i, (f i).length = c) : ∀ n k, (rep f k n).length = n * c
  | 0, k => by simp [rep]
  | n + 1, k => by rw [rep, List.length_append, h, W27 h n, Nat.add_mul]; omega
theorem B1p (t : A0) : Val t → ∀ path, ((t.sc path).length : Int) = t.cnt := by
  induction t using A0.ind with
  | h t ih =>
  intro hv path
  rw [A0.sc_eq]
  cases h2 : t.Kind == 2 with
  | true =>
    obtain ⟨x, hx, s1, s2, hvx, e⟩ := hv.arr h2
    have hk : t.Kind = 2 := by simpa using h2
    have ihx := ih x (by rw [hx]; exact List.mem_cons_self) hvx
    have hcp := Val.cnt_pos x hvx
    rw [hk, hx, e]
    show ((A0.scA [x] path t.Size.toNat).length : Int) = _
    rw [A0.scA, W27 (c := x.cnt.toNat) (fun i => by have := ihx (nx path (Lib.decDigits i)); omega)]
    rw [Int.natCast_mul, show ((t.Size.toNat : Nat) : Int) = t.Size by omega, show ((x.cnt.toNat : Nat) : Int) = x.cnt by omega]
  | false =>
    cases h3 : t.Kind == 3 with
    | true =>
      obtain ⟨r1, r2, r3, e⟩ := hv.recd h3
      have hk : t.Kind = 3 := by simpa using h3
      rw [hk, e]
      show ((A0.scR t.Of t.Names path).length : Int) = _
      have key : ∀ (l : List A0) (ns : List Str), l.length = ns.length → (∀ x ∈ l, x ∈ t.Of) → ((A0.scR l ns path).length : Int) = A0.cnts l := by
        intro l
        induction l with
        | nil => intro ns _ _; rfl
        | cons x r ihr =>
          intro ns hl hm
          cases ns with
          | nil => simp at hl
          | cons n ns =>
            have h1 := ih x (hm x List.mem_cons_self) (r3 x (hm x List.mem_cons_self)) (nx path n)
            have h2 := ihr ns (by simpa using hl) fun y hy => hm y (List.mem_cons_of_mem _ hy)
            rw [A0.scR, List.length_append, A0.cnts]
            omega
      exact key t.Of t.Names r1 fun _ h => h
    | false =>
      obtain ⟨e, hk⟩ := hv.leaf h2 h3
      rw [e]
      rcases hk with hk | hk <;> rw [hk] <;> rfl
theorem Q2h (t : A0) : Val t → ∀ (path : Str) (s : Int) (s1 : List R0), path.length + t.bulk ≤ BB → 0 ≤ s → s + t.cnt ≤ 1000 → s1.length + t.cnt ≤ 1000 → M6 path t s s1 = some (true, s + t.cnt, s1 ++ t.sc path) := by
  induction t using A0.ind with
  | h t ih =>
  intro hv path s s1 hp h0 h1 h2
  have hcp := Val.cnt_pos t hv
  rw [M6, Y2f path s t s1 (by omega) (by omega), ob, A0.sc_eq]
  show (if (!true) = true then _ else _) = _
  rw [if_neg (by simp)]
  cases hk2 : t.Kind == 2 with
  | true =>
    obtain ⟨x, hx, s1', s2', hvx, e⟩ := hv.arr hk2
    have hk : t.Kind = 2 := by simpa using hk2
    have hm : x ∈ t.Of := by rw [hx]; exact List.mem_cons_self
    have hcx := Val.cnt_pos x hvx
    obtain ⟨c, hc⟩ : ∃ c : Nat, x.cnt = c := ⟨x.cnt.toNat, by omega⟩
    have en : ((t.Size.toNat * c : Nat) : Int) = t.cnt := by rw [e, hc, Int.natCast_mul, show ((t.Size.toNat : Nat) : Int) = t.Size by omega]
    have := U27 path t x hx s2' hp c hc (fun p s l a b c' d => by have := ih x hm hvx p s l a b (by omega) (by omega); rw [hc] at this; exact this) (fun p => by have := B1p x hvx p; omega) t.Size.toNat 0 s s1 (by omega) h0 (by omega) (by omega)
    rw [if_pos rfl]
    have hls : I14 path t = [] := by unfold I14; rw [hk]; rfl
    show D6 path t s (s1 ++ I14 path t) ((0 : Nat) : Int) = _
    rw [hls, List.append_nil, this, en, hk, hx]
    rfl
  | false =>
    rw [if_neg (by simp)]
    cases hk3 : t.Kind == 3 with
    | true =>
      obtain ⟨r1, r2, r3, e⟩ := hv.recd hk3
      have hk : t.Kind = 3 := by simpa using hk3
      have := V27 path t hp r1 r3 (fun x hx => ih x hx (r3 x hx)) (fun x hx => B1p x (r3 x hx)) t.Of 0 s s1 rfl h0 (by omega) (by omega)
      rw [if_pos rfl]
      have hls : I14 path t = [] := by unfold I14; rw [hk]; rfl
      show C6 path t s (s1 ++ I14 path t) ((0 : Nat) : Int) = _
      rw [hls, List.append_nil, this, e, hk]
      rfl
    | false =>
      obtain ⟨e, hk⟩ := hv.leaf hk2 hk3
      rw [if_neg (by simp), wr (by omega) (by omega), e]
      unfold I14
      rcases hk with hk | hk <;> rw [hk] <;> rfl
def Ox (t : A0) : List R0 × Int := bif Ko t != 0 then ([], Ko t) else (t.sc [], 0)
theorem T1v (t : A0) (ht : Ok t) : Bm t = some (Ox t) := by
  unfold Bm Ox
  rw [H2a t ht, ob]
  cases h : Ko t != 0 with
  | true => rfl
  | false =>
    have hv := (Val.of ht (by simpa using h)).1
    have hc := hv.cnt
    unfold Lp
    have := Q2h t hv [] 0 [] (by unfold Ok at ht; simpa using ht) (by omega) (by omega) (by simp; omega)
    rw [this, ob, if_neg (by simp), ob]
    rfl
theorem E2d (path : Str) (t x : A0) (hx : t.Of = [x]) (hs : t.Size ≤ 32) (hp : path.length + t.bulk ≤ BB) (c : Nat)
    (ih : ∀ (path : Str), path.length + x.bulk ≤ BB → Ae x path = some (x.sc path)) (hl : ∀ path, (x.sc path).length = c) :
    ∀ (n k : Nat) (l : List R0), ((k + n : Nat) : Int) = t.Size → l.length + n * c ≤ 1000 →
      Xg t path l k = some (l ++ rep (fun i => x.sc (nx path (Lib.decDigits i))) k n)
  | 0, k, l, hk, _ => by
    rw [Xg, if_neg (by simp; omega)]
    simp [rep]
  | n + 1, k, l, hk, h2 => by
    have hd := T1x (k := k) (by omega)
    have hbx := A0.bulk_eq t
    rw [hx] at hbx
    simp only [A0.bulks] at hbx
    unfold BB at hp
    rw [Nat.add_mul, Nat.one_mul] at h2
    have hlx := hl ((path ++ [46]) ++ Lib.decDigits k)
    rw [Xg, if_pos (decide_eq_true (by omega)), hx, show idx [x] 0 = some x from rfl, ob, if_pos (decide_eq_true (by unfold maxLen; omega)), P2i (by omega), ob, if_pos (decide_eq_true (by unfold maxLen; simp; omega)),
      ih _ (by unfold BB; simp; omega), ob, if_pos (decide_eq_true (by omega)), w1 (by unfold BB; omega), E2d path t x hx hs (by unfold BB; omega) c ih hl n (k + 1) _ (by omega) (by rw [List.length_append]; omega)]
    rw [rep, List.append_assoc]
    rfl
theorem F2d (path : Str) (t : A0) (hp : path.length + t.bulk ≤ BB) (hln : t.Of.length = t.Names.length) (hv : ∀ x ∈ t.Of, Val x)
    (ih : ∀ x ∈ t.Of, ∀ (path : Str), path.length + x.bulk ≤ BB → Ae x path = some (x.sc path)) (hl : ∀ x ∈ t.Of, ∀ path, ((x.sc path).length : Int) = x.cnt) :
    ∀ (r : List A0) (k : Nat) (l : List R0), t.Of.drop k = r → l.length + A0.cnts r ≤ 1000 →
      Wg t path l k = some (l ++ A0.scR r (t.Names.drop k) path)
  | [], k, l, h, _ => by
    rw [Wg, (I1 h).1, if_neg (by simp)]
    simp [A0.scR]
  | x :: r, k, l, h, h2 => by
    obtain ⟨e1, e2, e3, e4, e5⟩ := V1 h
    obtain ⟨y, f1, f2, f3⟩ := Gy (l := t.Names) (k := k) (by omega)
    have hofs : t.Of.length ≤ BB := by have := A0.bulk_len t.Of; have := A0.bulk_eq t; omega
    have hc := Val.cnt_pos x (hv x e5)
    have hr := A0.cnts_bound r fun y hy => by have := Val.cnt_pos y (hv y (List.mem_of_mem_drop (i := k + 1) (by rw [e3]; exact hy))); omega
    have hbx := A0.bulk_eq t
    have hb1 := A0.bulk_kid e5
    have hb2 := V1k f3
    unfold BB at hp hofs
    simp only [A0.cnts] at h2
    have hlx := hl x e5 ((path ++ [46]) ++ y)
    rw [Wg, e1, if_pos rfl, e2, ob, if_pos (decide_eq_true (by unfold maxLen; omega)), f1, ob, if_pos (decide_eq_true (by unfold maxLen; simp; omega)),
      ih x e5 _ (by unfold BB; simp; omega), ob, if_pos (decide_eq_true (by omega)), w1 (by unfold BB; omega), F2d path t (by unfold BB; omega) hln hv ih hl r (k + 1) _ e3 (by rw [List.length_append]; omega)]
    rw [f2, A0.scR, List.append_assoc]
    rfl
theorem Q2i (t : A0) : Val t → ∀ (path : Str), path.length + t.bulk ≤ BB → Ae t path = some (t.sc path) := by
  induction t using A0.ind with
  | h t ih =>
  intro hv path hp
  have hcp := hv.cnt
  rw [Ae, A0.sc_eq]
  cases hk2 : t.Kind == 2 with
  | true =>
    obtain ⟨x, hx, s1', s2', hvx, e⟩ := hv.arr hk2
    have hk : t.Kind = 2 := by simpa using hk2
    have hm : x ∈ t.Of := by rw [hx]; exact List.mem_cons_self
    have hcx := Val.cnt_pos x hvx
    obtain ⟨c, hc⟩ : ∃ c : Nat, x.cnt = c := ⟨x.cnt.toNat, by omega⟩
    have en : ((t.Size.toNat * c : Nat) : Int) = t.cnt := by rw [e, hc, Int.natCast_mul, show ((t.Size.toNat : Nat) : Int) = t.Size by omega]
    have := E2d path t x hx s2' hp c (fun p a => ih x hm hvx p a) (fun p => by have := B1p x hvx p; omega) t.Size.toNat 0 [] (by omega) (by simp; omega)
    rw [Ev, this, hk, hx]
    rfl
  | false =>
    cases hk3 : t.Kind == 3 with
    | true =>
      obtain ⟨r1, r2, r3, e⟩ := hv.recd hk3
      have hk : t.Kind = 3 := by simpa using hk3
      have := F2d path t hp r1 r3 (fun x hx => ih x hx (r3 x hx)) (fun x hx => B1p x (r3 x hx)) t.Of 0 [] rfl (by simp; omega)
      rw [Ev, this, hk]
      rfl
    | false =>
      obtain ⟨e, hk⟩ := hv.leaf hk2 hk3
      rcases hk with hk | hk <;> rw [hk] <;> rfl
theorem R25 (t : A0) (ht : Ok t) : Np t = some (Ox t) := by
  unfold Np Ox
  rw [P25 t ht, ob]
  cases h : Ko t != 0 with
  | true => rfl
  | false =>
    have hv := (Val.of ht (by simpa using h)).1
    rw [Q2i t hv [] (by unfold Ok at ht; simpa using ht), if_neg (by simp), ob]
    rfl
end Go.Proofs.YtdkabnfphmmmnaaGreatDoor

set_option linter.unusedSimpArgs false
namespace Go.Proofs.YtdkabnfphmmmnaaGreatDoor
open Go.Am
theorem X27 (t : A0) (ht : Ok t) (ih : ∀ x ∈ t.Of, Bg x = some (x.depth : Int)) (B : Nat) (hB : B ≤ BB) :
    ∀ (r : List A0) (k : Nat) (n : Nat), t.Of.drop k = r → n ≤ B → A0.depths r ≤ B → Pb t (n : Int) k = some ((max n (A0.depths r) + 1 : Nat) : Int)
  | [], k, n, h, hb, _ => by
    rw [Pb, (I1 h).1, if_neg (by simp), w1 (by omega)]
    simp [A0.depths]
  | x :: r, k, n, h, hb, hd => by
    obtain ⟨e1, e2, e3, e4, e5⟩ := V1 h
    have := ht.ofs
    simp only [A0.depths] at hd
    rw [Pb, e1, if_pos rfl, e2, ob, ih x e5, ob, w1 (by omega), show max (n : Int) (x.depth : Int) = ((max n x.depth : Nat) : Int) by omega, X27 t ht ih B hB r (k + 1) _ e3 (by omega) (by omega)]
    simp only [A0.depths]
    rw [show max (max n x.depth) (A0.depths r) = max n (max x.depth (A0.depths r)) by omega]
theorem G2d (t : A0) : Ok t → Bg t = some (t.depth : Int) := by
  induction t using A0.ind with
  | h t ih =>
  intro ht
  have hn := ht.nodes
  have hd := A0.depth_nodes t
  rw [Bg]
  rw [A0.depth_eq] at hd
  have := X27 t ht (fun x hx => ih x hx (ht.kid hx)) BB (Nat.le_refl _) t.Of 0 0 rfl (by omega) (by omega)
  rw [A0.depth_eq]
  rw [show max 0 (A0.depths t.Of) = A0.depths t.Of by omega] at this
  exact this
theorem C1p (t : A0) (ht : Ok t) (ih : ∀ x ∈ t.Of, Bn x = some (x.depth : Int)) (B : Nat) (hB : B ≤ BB) :
    ∀ (r : List A0) (k : Nat) (n : Nat), t.Of.drop k = r → n ≤ B → A0.depths r ≤ B → Ih t (n : Int) k = some ((max n (A0.depths r) + 1 : Nat) : Int)
  | [], k, n, h, hb, _ => by
    rw [Ih, (I1 h).1, if_neg (by simp), w1 (by omega)]
    simp [A0.depths]
  | x :: r, k, n, h, hb, hd => by
    obtain ⟨e1, e2, e3, e4, e5⟩ := V1 h
    have := ht.ofs
    simp only [A0.depths] at hd
    rw [Ih, e1, if_pos rfl, e2, ob, ih x e5, ob, w1 (by omega), C1p t ht ih B hB r (k + 1) _ e3 (by omega) (by omega), C1p t ht ih B hB r (k + 1) _ e3 (by omega) (by omega)]
    simp only [A0.depths]
    by_cases hx : (x.depth : Int) > (n : Int)
    · rw [if_pos (decide_eq_true hx), show max n (max x.depth (A0.depths r)) = max x.depth (A0.depths r) by omega]
    · rw [if_neg (by simpa using hx), show max n (max x.depth (A0.depths r)) = max n (A0.depths r) by omega]
theorem I2a (t : A0) : Ok t → Bn t = some (t.depth : Int) := by
  induction t using A0.ind with
  | h t ih =>
  intro ht
  have hn := ht.nodes
  have hd := A0.depth_nodes t
  rw [Bn]
  rw [A0.depth_eq] at hd
  have := C1p t ht (fun x hx => ih x hx (ht.kid hx)) BB (Nat.le_refl _) t.Of 0 0 rfl (by omega) (by omega)
  rw [A0.depth_eq]
  rw [show max 0 (A0.depths t.Of) = A0.depths t.Of by omega] at this
  exact this
structure Out (t : A0) : Prop where
  val : Val t
  names : t.all Jc = true
  deep : t.depth ≤ 12
def KK : Nat := 169728
theorem J2a {s : Str} (h : Y8 s = true) : s.length ≤ 12 := by
  unfold Y8 at h
  by_cases hl : (s.length : Int) ≤ 12
  · omega
  · rw [decide_eq_false hl] at h; simp at h
theorem O1z : ∀ {l : List Str}, l.all Y8 = true → (l.map fun s => s.length + 1).sum ≤ 13 * l.length
  | [], _ => by simp
  | s :: r, h => by
    simp only [List.all_cons, Bool.and_eq_true] at h
    have := J2a h.1
    have := O1z h.2
    simp only [List.map_cons, List.sum_cons, List.length_cons]
    omega
theorem D24 {p : A0 → Bool} {t : A0} (h : t.all p = true) : p t = true ∧ ∀ x ∈ t.Of, x.all p = true := by
  rw [A0.all_eq, Bool.and_eq_true] at h
  exact ⟨h.1, fun x hx => A0.alls_mem h.2 hx⟩
theorem S25 {t : A0} (hf : I6 t) (hn : t.some Rs = false) (ha : t.all Jc = true) : t.Name.length + (t.Names.map fun s => s.length + 1).sum + 8 ≤ 424 := by
  obtain ⟨h1, _⟩ := hf.here
  have h2 := (D24 ha).1
  unfold Jc at h2
  simp only [Bool.and_eq_true] at h2
  have h3 := O1z h2.2
  rw [A0.some_eq, Bool.or_eq_false_iff] at hn
  have hk4 : (t.Kind == 4) = false := hn.1
  unfold L5 at h1
  simp only [Bool.and_eq_true] at h1
  have f4 := h1.1.1.2
  have f5 := h1.1.2
  unfold fm4 at f4
  unfold fm5 at f5
  rw [hk4] at f4
  have hnm : t.Name = [] := by simpa using f4
  rw [hnm]
  cases hk3 : t.Kind == 3 with
  | true =>
    have := (hf.recd hk3)
    simp only [List.length_nil]
    omega
  | false =>
    rw [hk3] at f5
    have : (t.Names.length : Int) = 0 := by simpa using f5
    simp only [List.length_nil]
    omega
theorem E24 {c : Nat} : ∀ {l : List A0} {d : Nat}, (∀ x ∈ l, (x.bulk : Int) ≤ c * (x.cnt * x.depth) ∧ 1 ≤ x.cnt ∧ x.depth ≤ d) → (A0.bulks l : Int) ≤ c * (A0.cnts l * d)
  | [], d, _ => by simp [A0.bulks, A0.cnts]
  | x :: r, d, h => by
    obtain ⟨h1, h2, h3⟩ := h x List.mem_cons_self
    have h4 := E24 (c := c) (d := d) fun y hy => h y (List.mem_cons_of_mem _ hy)
    simp only [A0.bulks, A0.cnts]
    have h5 : x.cnt * (x.depth : Int) ≤ x.cnt * d := Int.mul_le_mul_of_nonneg_left (by omega) (by omega)
    have h6 : (c : Int) * (x.cnt * x.depth) ≤ c * (x.cnt * d) := Int.mul_le_mul_of_nonneg_left h5 (by omega)
    rw [Int.add_mul, Int.mul_add]
    omega
theorem H2d (t : A0) : Val t → t.all Jc = true → (t.bulk : Int) ≤ (424 : Nat) * (t.cnt * t.depth) := by
  induction t using A0.ind with
  | h t ih =>
  intro hv ha
  have hw := S25 hv.fine hv.nm ha
  have hb := A0.bulk_eq t
  have hc := Val.cnt_pos t hv
  have hd := A0.depth_eq t
  have hk := (D24 ha).2
  have key : ∀ c : Int, (A0.bulks t.Of : Int) ≤ (424 : Nat) * (c * A0.depths t.Of) → 0 ≤ c → c ≤ t.cnt → (t.bulk : Int) ≤ (424 : Nat) * (t.cnt * t.depth) := fun c h1 h0 h2 => by
    have h3 : c * (A0.depths t.Of : Int) ≤ t.cnt * A0.depths t.Of := Int.mul_le_mul_of_nonneg_right h2 (by omega)
    have h4 : t.cnt * (t.depth : Int) = t.cnt * A0.depths t.Of + t.cnt := by rw [hd, Int.natCast_add, Int.mul_add]; simp
    rw [h4]
    omega
  cases hk2 : t.Kind == 2 with
  | true =>
    obtain ⟨x, hx, s1, s2, hvx, e⟩ := hv.arr hk2
    have hm : x ∈ t.Of := by rw [hx]; exact List.mem_cons_self
    have hcx := Val.cnt_pos x hvx
    have := ih x hm hvx (hk x hm)
    refine key x.cnt ?_ (by omega) ?_
    · rw [hx]
      simp only [A0.bulks, A0.depths]
      rw [show max x.depth 0 = x.depth by omega]
      omega
    · rw [e]
      have : 1 * x.cnt ≤ t.Size * x.cnt := Int.mul_le_mul_of_nonneg_right (by omega) (by omega)
      omega
  | false =>
    cases hk3 : t.Kind == 3 with
    | true =>
      obtain ⟨r1, r2, r3, e⟩ := hv.recd hk3
      refine key t.cnt ?_ (by omega) (Int.le_refl _)
      rw [e]
      exact E24 fun x hx => ⟨ih x hx (r3 x hx) (hk x hx), Val.cnt_pos x (r3 x hx), A0.depth_le hx⟩
    | false =>
      refine key 0 ?_ (Int.le_refl _) (by omega)
      have hf := hv.fine.here.1
      unfold L5 fm6 at hf
      rw [hk2, hk3] at hf
      simp only [cond_false, Bool.and_eq_true] at hf
      have hl : (t.Of.length : Int) = 0 := by simpa using hf.2
      rw [List.eq_nil_of_length_eq_zero (by omega : t.Of.length = 0)]
      simp [A0.bulks]
theorem Out.bulk {t : A0} (h : Out t) : t.bulk ≤ KK := by
  have h1 := H2d t h.val h.names
  have h2 := Val.cnt_pos t h.val
  have h3 := h.val.cnt
  have h4 := h.deep
  have : t.cnt * (t.depth : Int) ≤ 32 * 12 := Int.mul_le_mul h3 (by omega) (by omega) (by omega)
  unfold KK
  omega
mutual
def A0.rp (m : List (Str × A0)) : A0 → Option A0
  | .mk k l h s n ns of => bif k == 4 then mgt n m else (A0.rps m of).map fun of' => A0.mk k l h s n ns of'
def A0.rps (m : List (Str × A0)) : List A0 → Option (List A0)
  | [] => Option.some []
  | x :: r => (A0.rp m x).bind fun y => (A0.rps m r).map fun s => y :: s
end
theorem A0.rp_eq (m : List (Str × A0)) (t : A0) : t.rp m = bif t.Kind == 4 then mgt t.Name m else (A0.rps m t.Of).map fun of' => A0.mk t.Kind t.Low t.High t.Size t.Name t.Names of' := by cases t; rfl
def MOk (m : List (Str × A0)) : Prop := ∀ p ∈ m, Out p.2
theorem Y27 {k : Str} {x : A0} : ∀ {m : List (Str × A0)}, mgt k m = some x → ∃ k', (k', x) ∈ m
  | [], h => by cases h
  | (k', y) :: r, h => by
    unfold mgt at h
    cases hk : k == k' with
    | true => rw [hk] at h; cases h; exact ⟨k', List.mem_cons_self⟩
    | false => rw [hk] at h; obtain ⟨k2, h2⟩ := Y27 h; exact ⟨k2, List.mem_cons_of_mem _ h2⟩
theorem MOk.get {m : List (Str × A0)} (h : MOk m) {k : Str} {x : A0} (hg : mgt k m = some x) : Out x := by
  obtain ⟨k', hm⟩ := Y27 hg
  exact h _ hm
theorem Z2f {m : List (Str × A0)} (hm : MOk m) (t : A0) : ∀ y, t.rp m = some y →
    (t.all L5 = true → y.all L5 = true) ∧ (t.all Oi = true → y.all Oi = true) ∧ (t.all Jc = true → y.all Jc = true) ∧ y.some Rs = false ∧ y.bulk ≤ t.bulk + t.nodes * KK := by
  induction t using A0.ind with
  | h t ih =>
  intro y hy
  rw [A0.rp_eq] at hy
  cases hk : t.Kind == 4 with
  | true =>
    rw [hk] at hy
    have ho := hm.get hy
    have hb := ho.bulk
    refine ⟨fun _ => ho.val.fine.form, fun _ => ho.val.fine.num, fun _ => ho.names, ho.val.nm, ?_⟩
    rw [A0.nodes_eq, Nat.add_mul]
    omega
  | false =>
    rw [hk, cond_false] at hy
    obtain ⟨of, ho, rfl⟩ := Option.map_eq_some_iff.1 hy
    have key : ∀ (l : List A0) (of : List A0), (∀ x ∈ l, x ∈ t.Of) → A0.rps m l = some of → of.length = l.length ∧ (A0.alls L5 l = true → A0.alls L5 of = true) ∧ (A0.alls Oi l = true → A0.alls Oi of = true) ∧
        (A0.alls Jc l = true → A0.alls Jc of = true) ∧ of.any (A0.some Rs) = false ∧ A0.bulks of ≤ A0.bulks l + A0.nodess l * KK := by
      intro l
      induction l with
      | nil => intro of _ h; cases h; exact ⟨rfl, fun h => h, fun h => h, fun h => h, rfl, by simp [A0.bulks]⟩
      | cons x r ihr =>
        intro of hl h
        rw [A0.rps] at h
        obtain ⟨z, hz, h2⟩ := Option.bind_eq_some_iff.1 h
        obtain ⟨s, hs, rfl⟩ := Option.map_eq_some_iff.1 h2
        obtain ⟨a1, a2, a3, a4, a5⟩ := ih x (hl x List.mem_cons_self) z hz
        obtain ⟨b0, b1, b2, b3, b4, b5⟩ := ihr s (fun y hy => hl y (List.mem_cons_of_mem _ hy)) hs
        simp only [A0.alls, Bool.and_eq_true, List.any_cons, Bool.or_eq_false_iff, A0.bulks, A0.nodess, List.length_cons, Nat.add_mul]
        exact ⟨by omega, fun h => ⟨a1 h.1, b1 h.2⟩, fun h => ⟨a2 h.1, b2 h.2⟩, fun h => ⟨a3 h.1, b3 h.2⟩, ⟨a4, b4⟩, by omega⟩
    obtain ⟨k0, k1, k2, k3, k4, k5⟩ := key t.Of of (fun _ h => h) ho
    have e1 : L5 (A0.mk t.Kind t.Low t.High t.Size t.Name t.Names of) = L5 t := by
      unfold L5 fm1 fm2 fm3 fm4 fm5 fm6
      simp only [k0]
    have e2 : Oi (A0.mk t.Kind t.Low t.High t.Size t.Name t.Names of) = Oi t := by
      unfold Oi nm1 nm2
      simp only [k0]
    have e3 : Jc (A0.mk t.Kind t.Low t.High t.Size t.Name t.Names of) = Jc t := rfl
    simp only [A0.all_eq, Bool.and_eq_true, e1, e2, e3, A0.some_eq, Bool.or_eq_false_iff]
    refine ⟨fun h => ⟨h.1, k1 h.2⟩, fun h => ⟨h.1, k2 h.2⟩, fun h => ⟨h.1, k3 h.2⟩, ⟨hk, k4⟩, ?_⟩
    rw [A0.bulk_eq, A0.bulk_eq t, A0.nodes_eq, Nat.add_mul]
    simp only
    omega
theorem R2g (m : List (Str × A0)) (t : A0) (ht : Ok t) (x2 : List Str) (ih : ∀ x ∈ t.Of, Q5 x m = some (x, true)) :
    ∀ (r : List A0) (k : Nat) (a : List A0), t.Of.drop k = r → a.length = k → G5 m t x2 a k = some (⟨t.Kind, t.Low, t.High, t.Size, t.Name, x2, a ++ r⟩, true)
  | [], k, a, h, ha => by rw [G5, (I1 h).1, if_neg (by simp)]; simp
  | x :: r, k, a, h, ha => by
    obtain ⟨e1, e2, e3, e4, e5⟩ := V1 h
    have := ht.ofs
    unfold BB at this
    rw [G5, e1, if_pos rfl, e2, ob, ih x e5, ob]
    simp only [Bool.not_true, Bool.false_eq_true, if_false]
    rw [if_pos (decide_eq_true (by omega)), w1 (by unfold BB; omega), R2g m t ht x2 ih r (k + 1) (a ++ [x]) e3 (by simp; omega)]
    simp
theorem Z27 {p : A0 → Bool} {l : List A0} (h : l.any p = false) {x : A0} (hx : x ∈ l) : p x = false := by
  cases hp : p x with
  | false => rfl
  | true => have h2 := List.any_eq_true.2 ⟨x, hx, hp⟩; rw [h] at h2; cases h2
theorem S2g (m : List (Str × A0)) (t : A0) (ht : Ok t) (ih : ∀ x ∈ t.Of, Q5 x m = some (x, true)) : B8 m t = some (t, true) := by
  have hnm := ht.names
  unfold BB at hnm
  rw [B8]
  unfold Gb
  rw [if_pos (decide_eq_true (by omega)), ob, Ev, R2g m t ht t.Names ih t.Of 0 [] rfl rfl, List.nil_append]
  cases t
  rfl
theorem R2i (m : List (Str × A0)) (t : A0) : Ok t → t.some Rs = false → Q5 t m = some (t, true) := by
  induction t using A0.ind with
  | h t ih =>
  intro ht hn
  rw [A0.some_eq, Bool.or_eq_false_iff] at hn
  have hk : (t.Kind == 4) = false := hn.1
  rw [Q5, hk, if_neg (by simp)]
  exact S2g m t ht fun x hx => ih x hx (ht.kid hx) (Z27 hn.2 hx)
def Rc : Option A0 → A0 × Bool
  | some x => (x, true)
  | none => (zTy, false)
  where zTy : A0 := A0.mk 0 0 0 0 [] [] []
theorem T2g (m : List (Str × A0)) (t : A0) (ht : Ok t) (x2 : List Str) (ih : ∀ x ∈ t.Of, Q5 x m = some (Rc (x.rp m))) :
    ∀ (r : List A0) (k : Nat) (a : List A0), t.Of.drop k = r → a.length = k → G5 m t x2 a k = some (Rc ((A0.rps m r).map fun s => ⟨t.Kind, t.Low, t.High, t.Size, t.Name, x2, a ++ s⟩))
  | [], k, a, h, ha => by rw [G5, (I1 h).1, if_neg (by simp)]; simp [A0.rps, Rc]
  | x :: r, k, a, h, ha => by
    obtain ⟨e1, e2, e3, e4, e5⟩ := V1 h
    have := ht.ofs
    unfold BB at this
    rw [G5, e1, if_pos rfl, e2, ob, ih x e5, ob, A0.rps]
    cases hx : x.rp m with
    | none => simp [Rc, Rc.zTy]
    | some y =>
      simp only [Rc, Bool.not_true, Bool.false_eq_true, if_false, Option.bind_some]
      rw [if_pos (decide_eq_true (by omega)), w1 (by unfold BB; omega), T2g m t ht x2 ih r (k + 1) (a ++ [y]) e3 (by simp; omega)]
      cases A0.rps m r <;> simp [Rc]
theorem T25 {m : List (Str × A0)} (hm : MOk m) (t : A0) : Ok t → Q5 t m = some (Rc (t.rp m)) := by
  induction t using A0.ind with
  | h t ih =>
  intro ht
  rw [Q5, A0.rp_eq]
  cases hk : t.Kind == 4 with
  | true =>
    rw [if_pos rfl, ob, cond_true]
    cases hg : mgt t.Name m with
    | none => rfl
    | some x =>
      have ho := hm.get hg
      have hb := ho.val.ok
      have := S2g m x hb fun z hz => R2i m z (hb.kid hz) (by
        have := ho.val.nm
        rw [A0.some_eq, Bool.or_eq_false_iff] at this
        exact Z27 this.2 hz)
      simp only [Option.isSome_some, Bool.not_true, Bool.false_eq_true, if_false, Option.getD_some]
      rw [this]
      rfl
  | false =>
    have hnm := ht.names
    unfold BB at hnm
    rw [if_neg (by simp), cond_false, B8]
    unfold Gb
    rw [if_pos (decide_eq_true (by omega)), ob, Ev, T2g m t ht t.Names (fun x hx => ih x hx (ht.kid hx)) t.Of 0 [] rfl rfl]
    simp
def dec (p : Str × A0) : B0 := B0.mk 0 p.1 p.2 0 (C0.mk 0 0 [] []) [] [] []
theorem A28 (a b : Str) : (a == b) = (b == a) := by
  rw [Bool.eq_iff_iff, beq_iff_eq, beq_iff_eq]
  exact ⟨fun h => h.symm, fun h => h.symm⟩
theorem B28 (m : List (Str × A0)) (hl : m.length ≤ BB) (t : A0) : ∀ (r : List (Str × A0)) (k : Nat), m.drop k = r → Gd (m.map dec) t k = some (Rc (mgt t.Name r))
  | [], k, h => by
    have h' : (m.map dec).drop k = [] := by rw [← List.map_drop, h]; rfl
    rw [Gd, (I1 h').1, if_neg (by simp)]; rfl
  | (n, x) :: r, k, h => by
    have h' : (m.map dec).drop k = dec (n, x) :: r.map dec := by rw [← List.map_drop, h]; rfl
    obtain ⟨e1, e2, e3, e4, e5⟩ := V1 h'
    obtain ⟨_, _, g3, g4, _⟩ := V1 h
    rw [Gd, e1, if_pos rfl, e2, ob, ob, w1 (by omega), B28 m hl t r (k + 1) g3, mgt]
    show (if (n == t.Name) = true then some (x, true) else _) = _
    rw [A28 n t.Name]
    cases t.Name == n <;> simp [Rc]
theorem C28 (m : List (Str × A0)) (t : A0) (ht : Ok t) (ih : ∀ x ∈ t.Of, Gj (m.map dec) x = some (Rc (x.rp m))) :
    ∀ (r : List A0) (k : Nat) (a : List A0), t.Of.drop k = r → a.length = k → Sg (m.map dec) t a k = some (Rc ((A0.rps m r).map fun s => ⟨t.Kind, t.Low, t.High, t.Size, t.Name, t.Names, a ++ s⟩))
  | [], k, a, h, ha => by rw [Sg, (I1 h).1, if_neg (by simp)]; simp [A0.rps, Rc]
  | x :: r, k, a, h, ha => by
    obtain ⟨e1, e2, e3, e4, e5⟩ := V1 h
    have := ht.ofs
    unfold BB at this
    rw [Sg, e1, if_pos rfl, e2, ob, ih x e5, ob, A0.rps]
    cases hx : x.rp m with
    | none => simp [Rc, Rc.zTy]
    | some y =>
      simp only [Rc, Bool.not_true, Bool.false_eq_true, if_false, Option.bind_some]
      rw [if_pos (decide_eq_true (by omega)), w1 (by unfold BB; omega), C28 m t ht ih r (k + 1) (a ++ [y]) e3 (by simp; omega)]
      cases A0.rps m r <;> simp [Rc]
theorem U25 (m : List (Str × A0)) (hl : m.length ≤ BB) (t : A0) : Ok t → Gj (m.map dec) t = some (Rc (t.rp m)) := by
  induction t using A0.ind with
  | h t ih =>
  intro ht
  rw [Gj, A0.rp_eq, Ev, B28 m hl t m 0 rfl, C28 m t ht (fun x hx => ih x hx (ht.kid hx)) t.Of 0 [] rfl rfl]
  cases t.Kind == 4 <;> simp
def Ip (m : List (Str × A0)) (t : A0) : A0 × Int :=
  bif Kc t != 0 then (Rc.zTy, Kc t) else match t.rp m with
    | none => (Rc.zTy, 7)
    | some x => bif x.some Jo then (Rc.zTy, 8) else bif (decide ((x.depth : Int) > 12) || decide (x.cnt > 32)) then (Rc.zTy, 4) else (x, 0)
theorem V25 {t : A0} (h : Kc t = 0) : t.nodes ≤ 1024 ∧ t.all Jc = true := by
  unfold Kc Jn at h
  by_cases h1 : (t.nodes : Int) > 1024
  · rw [decide_eq_true h1] at h; simp at h
  · refine ⟨by omega, ?_⟩
    revert h
    cases (bif decide ((t.nodes : Int) > 1024) then true else decide ((t.depth : Int) > 12)) <;> cases t.all L5 <;> cases t.all Jc <;> simp
theorem U1x {m : List (Str × A0)} (hm : MOk m) {t x : A0} (hb : t.bulk ≤ 1048576) (hc : Kc t = 0) (hx : t.rp m = some x) : Ok x ∧ I6 x ∧ x.some Rs = false ∧ x.all Jc = true := by
  obtain ⟨h1, h2, h3, h4, h5⟩ := Z2f hm t x hx
  have hf := U1p hc
  obtain ⟨hn, hna⟩ := V25 hc
  refine ⟨?_, ⟨h1 hf.form, h2 hf.num⟩, h4, h3 hna⟩
  have : t.nodes * KK ≤ 1024 * KK := Nat.mul_le_mul_right _ hn
  unfold Ok BB
  unfold KK at *
  omega
theorem F24 {m : List (Str × A0)} (hm : MOk m) {t : A0} (hb : t.bulk ≤ 1048576) (h : (Ip m t).2 = 0) : Out (Ip m t).1 ∧ (Ip m t).1.some Jo = false := by
  unfold Ip at h ⊢
  cases hc : Kc t != 0 with
  | true => rw [hc] at h; simp only [cond_true] at h; rw [h] at hc; cases hc
  | false =>
    have hc' : Kc t = 0 := by simpa using hc
    rw [hc] at h
    simp only [cond_false] at h ⊢
    cases hx : t.rp m with
    | none => rw [hx] at h; simp at h
    | some x =>
      rw [hx] at h
      simp only at h ⊢
      obtain ⟨a1, a2, a3, a4⟩ := U1x hm hb hc' hx
      cases h2 : x.some Jo with
      | true => rw [h2] at h; simp at h
      | false =>
        rw [h2] at h
        by_cases h3 : (x.depth : Int) > 12
        · rw [decide_eq_true h3] at h; simp at h
        · by_cases h4 : x.cnt > 32
          · rw [decide_eq_true h4] at h; simp at h
          · rw [decide_eq_false h3, decide_eq_false h4]
            exact ⟨⟨⟨a1, a2, a3, by simp only [cond_false, Bool.or_false]; omega⟩, a4, by simp only [cond_false, Bool.or_false]; omega⟩, h2⟩
theorem S1r {m : List (Str × A0)} (hm : MOk m) (t : A0) (hb : t.bulk ≤ 1048576) : Bh t m = some (Ip m t) := by
  have ht : Ok t := by unfold Ok BB; omega
  unfold Bh Ip
  rw [X1o t ht, ob, T25 hm t ht]
  cases hc : Kc t != 0 with
  | true => rfl
  | false =>
    rw [if_neg (by simp), ob]
    cases hx : t.rp m with
    | none => rfl
    | some x =>
      obtain ⟨a1, a2, a3, a4⟩ := U1x hm hb (by simpa using hc) hx
      simp only [Rc, Bool.not_true, Bool.false_eq_true, if_false]
      rw [Z23 x a1, G2d x a1, A24 x a2]
      simp only [ob]
      cases x.some Jo <;> cases decide ((x.depth : Int) > 12) <;> cases h4 : decide (x.cnt > 32) <;> simp only [ob, Bool.not_false, Bool.not_true, Bool.false_eq_true, if_true, if_false, cond_true, cond_false, Bool.or_true, Bool.true_or, Bool.or_false, Rc.zTy, h4]
theorem U1v {m : List (Str × A0)} (hm : MOk m) (hl : m.length ≤ BB) (t : A0) (hb : t.bulk ≤ 1048576) : Vn (m.map dec) t = some (Ip m t) := by
  have ht : Ok t := by unfold Ok BB; omega
  unfold Vn Ip
  rw [R1l t ht, ob, U25 m hl t ht]
  cases hc : Kc t != 0 with
  | true => rfl
  | false =>
    rw [if_neg (by simp), ob]
    cases hx : t.rp m with
    | none => rfl
    | some x =>
      obtain ⟨a1, a2, a3, a4⟩ := U1x hm hb (by simpa using hc) hx
      simp only [Rc, Bool.not_true, Bool.false_eq_true, if_false]
      rw [R1r x a1 a2.form, I2a x a1, N1z x a2]
      simp only [ob]
      cases x.some Jo <;> cases decide ((x.depth : Int) > 12) <;> cases h4 : decide (x.cnt > 32) <;> simp only [ob, Bool.not_false, Bool.not_true, Bool.false_eq_true, if_true, if_false, cond_true, cond_false, Bool.or_true, Bool.true_or, Bool.or_false, Rc.zTy, h4]
end Go.Proofs.YtdkabnfphmmmnaaGreatDoor

set_option linter.unusedSimpArgs false
namespace Go.Proofs.YtdkabnfphmmmnaaGreatDoor
open Go.Am
theorem D28 {k : Str} {x : A0} : ∀ {m : List (Str × A0)}, mgt k m = none → mpt k x m = m ++ [(k, x)]
  | [], _ => rfl
  | (k', y) :: r, h => by
    unfold mgt at h
    unfold mpt
    cases hk : k == k' with
    | true => rw [hk] at h; cases h
    | false => rw [hk] at h; rw [cond_false, D28 h]; rfl
def Xy : List B0 → List (Str × A0) → List (Str × A0) × Int
  | [], m => (m, 0)
  | d :: r, m => bif d.Kind != 0 then Xy r m else bif !Y8 d.Name then ([], 7) else bif (mgt d.Name m).isSome then ([], 8) else
      bif (Ip m d.TypeV).2 != 0 then ([], (Ip m d.TypeV).2) else Xy r (m ++ [(d.Name, (Ip m d.TypeV).1)])
def DOk (ds : List B0) : Prop := ds.length ≤ 2000000 ∧ ∀ d ∈ ds, d.TypeV.bulk ≤ 1048576 ∧ d.Name.length ≤ BB
theorem MOk.snoc {m : List (Str × A0)} (hm : MOk m) {d : B0} (hb : d.TypeV.bulk ≤ 1048576) (h : (Ip m d.TypeV).2 = 0) (k : Str) : MOk (m ++ [(k, (Ip m d.TypeV).1)]) := by
  intro p hp
  rw [List.mem_append] at hp
  rcases hp with hp | hp
  · exact hm p hp
  · simp at hp
    subst hp
    exact (F24 hm hb h).1
def D1p (e : List (Str × A0) × Int) (t : A0) : A0 × Int := bif e.2 != 0 then (Rc.zTy, e.2) else Ip e.1 t
theorem W1p {ds : List B0} : ∀ (r : List B0) (m : List (Str × A0)), (∀ d ∈ r, d.TypeV.bulk ≤ 1048576) → MOk m → MOk (Xy r m).1 ∧ (Xy r m).1.length ≤ m.length + r.length
  | [], m, _, hm => ⟨hm, by simp [Xy]⟩
  | d :: r, m, hd, hm => by
    have hn : MOk [] := fun p hp => by cases hp
    have hr := fun x hx => hd x (List.mem_cons_of_mem _ hx)
    rw [Xy]
    cases d.Kind != 0 with
    | true => have := W1p (ds := ds) r m hr hm; exact ⟨this.1, by simp only [cond_true, List.length_cons]; omega⟩
    | false =>
      cases Y8 d.Name with
      | false => exact ⟨hn, by simp⟩
      | true =>
        cases (mgt d.Name m).isSome with
        | true => exact ⟨hn, by simp⟩
        | false =>
          cases h : (Ip m d.TypeV).2 != 0 with
          | true => exact ⟨hn, by simp⟩
          | false =>
            have := W1p (ds := ds) r _ hr (hm.snoc (hd d List.mem_cons_self) (by simpa using h) d.Name)
            refine ⟨this.1, ?_⟩
            have h2 := this.2
            simp only [List.length_append, List.length_cons, List.length_nil, cond_false, Bool.not_true] at h2 ⊢
            omega
theorem H1t (ds : List B0) (hd : DOk ds) (t : A0) (ht : t.bulk ≤ 1048576) : ∀ (r : List B0) (k : Nat) (m : List (Str × A0)), ds.drop k = r → MOk m → J7 ds t m k = some (D1p (Xy r m) t)
  | [], k, m, h, hm => by
    rw [J7, (I1 h).1, if_neg (by simp), S1r hm t ht]
    rfl
  | d :: r, k, m, h, hm => by
    obtain ⟨e1, e2, e3, e4, e5⟩ := V1 h
    have hl := hd.1
    obtain ⟨hb, hn⟩ := hd.2 d e5
    rw [J7, e1, if_pos rfl, e2, ob, w1 (by unfold BB; omega), H1t ds hd t ht r (k + 1) m e3 hm, U1y _ hn, ob, Xy]
    cases d.Kind != 0 with
    | true => rfl
    | false =>
      rw [if_neg (by simp), cond_false]
      cases Y8 d.Name with
      | false => rfl
      | true =>
        rw [if_neg (by simp), ob]
        cases hg : mgt d.Name m with
        | some y => rfl
        | none =>
          rw [S1r hm _ hb]
          simp only [Option.isSome_none, Bool.false_eq_true, if_false, Bool.not_true, cond_false, ob]
          cases hc : (Ip m d.TypeV).2 != 0 with
          | true => simp only [if_true, cond_true, D1p, hc, Rc.zTy]
          | false =>
            have hm2 := hm.snoc hb (by simpa using hc) d.Name
            rw [if_neg (by simp), D28 hg, H1t ds hd t ht r (k + 1) _ e3 hm2]
            rfl
def Kn (ds : List B0) (t : A0) : A0 × Int := D1p (Xy ds []) t
theorem MOk.nil : MOk [] := fun p hp => by cases hp
theorem I2d (ds : List B0) (hd : DOk ds) (t : A0) (ht : t.bulk ≤ 1048576) : Sn ds t = some (Kn ds t) := by
  unfold Sn Kn
  exact H1t ds hd t ht ds 0 [] rfl .nil
theorem G24 (ds : List B0) (d : B0) (m : List (Str × A0)) (hl : m.length ≤ BB) (i : Nat) (b : Option (List B0 × Int))
    (hb : (Vn (m.map dec) d.TypeV >>= fun x4 => if (x4.2 != 0) = true then some ([], x4.2) else if (decide (((m.map dec).length + 1) * 257 ≤ 140737488355328)) = true then V9 ds (m.map dec ++ [(B0.mk 0 d.Name x4.1 0 (C0.mk 0 0 [] []) [] [] [])]) (IntKind.i64.wrap ((i : Int) + 1)) else none) = b) :
    ∀ (r : List (Str × A0)) (k : Nat), m.drop k = r → Yj ds d (m.map dec) i k = if (mgt d.Name r).isSome = true then some ([], 8) else b
  | [], k, h => by
    have h' : (m.map dec).drop k = [] := by rw [← List.map_drop, h]; rfl
    rw [Yj, (I1 h').1, if_neg (by simp), hb]; rfl
  | (n, x) :: r, k, h => by
    have h' : (m.map dec).drop k = dec (n, x) :: r.map dec := by rw [← List.map_drop, h]; rfl
    obtain ⟨e1, e2, e3, e4, e5⟩ := V1 h'
    obtain ⟨_, _, g3, g4, _⟩ := V1 h
    rw [Yj, e1, if_pos rfl, e2, ob, w1 (by omega), G24 ds d m hl i b hb r (k + 1) g3, mgt]
    show (if (n == d.Name) = true then _ else _) = _
    rw [A28 n d.Name]
    cases d.Name == n <;> simp
theorem I1t (ds : List B0) (hd : DOk ds) : ∀ (r : List B0) (k : Nat) (m : List (Str × A0)), ds.drop k = r → MOk m → m.length + r.length ≤ 2000000 → V9 ds (m.map dec) k = some ((Xy r m).1.map dec, (Xy r m).2)
  | [], k, m, h, hm, _ => by rw [V9, (I1 h).1, if_neg (by simp)]; rfl
  | d :: r, k, m, h, hm, hlm => by
    obtain ⟨e1, e2, e3, e4, e5⟩ := V1 h
    have hl := hd.1
    obtain ⟨hb, hn⟩ := hd.2 d e5
    simp only [List.length_cons] at hlm
    have h2 := G24 ds d m (by unfold BB; omega) k _ rfl m 0 rfl
    rw [← Ev] at h2
    rw [V9, e1, if_pos rfl, e2, ob, h2, Qs _ hn, w1 (by unfold BB; omega), U1v hm (by unfold BB; omega) _ hb, I1t ds hd r (k + 1) m e3 hm (by omega), Xy]
    cases d.Kind != 0 with
    | true => rfl
    | false =>
      rw [if_neg (by simp), cond_false, ob]
      cases Y8 d.Name with
      | false => rfl
      | true =>
        cases hg : mgt d.Name m with
        | some y => rfl
        | none =>
          simp only [Option.isSome_none, Bool.false_eq_true, if_false, Bool.not_true, cond_false, ob]
          cases hc : (Ip m d.TypeV).2 != 0 with
          | true => rfl
          | false =>
            have hm2 := hm.snoc hb (by simpa using hc) d.Name
            have := I1t ds hd r (k + 1) (m ++ [(d.Name, (Ip m d.TypeV).1)]) e3 hm2 (by simp; omega)
            rw [List.map_append] at this
            rw [if_neg (by simp), if_pos (decide_eq_true (by simp; omega)), cond_false]
            exact this
theorem K2a (ds : List B0) (hd : DOk ds) (t : A0) (ht : t.bulk ≤ 1048576) : Ax ds t = some (Kn ds t) := by
  unfold Ax Q17 Kn D1p
  have h0 := I1t ds hd ds 0 [] rfl .nil (by have := hd.1; simpa using this)
  have h0' : V9 ds [] 0 = some ((Xy ds []).1.map dec, (Xy ds []).2) := h0
  have hok := W1p (ds := ds) ds [] (fun d h => (hd.2 d h).1) .nil
  have hl := hd.1
  have h2 := hok.2
  simp only [List.length_nil] at h2
  rw [h0', ob, U1v hok.1 (by unfold BB; omega) t ht]
  cases (Xy ds []).2 != 0 <;> rfl
end Go.Proofs.YtdkabnfphmmmnaaGreatDoor

set_option linter.unusedSimpArgs false
namespace Go.Proofs.YtdkabnfphmmmnaaGreatDoor
open Go.Am
abbrev zT : A0 := A0.mk 0 0 0 0 [] [] []
def nT (a b : Int) : A0 := A0.mk 1 a b 0 [] [] []
theorem ifB {α : Type} (b : Bool) (x y : α) : (if b = true then some x else some y) = some (bif b then x else y) := by cases b <;> rfl
abbrev wi (n : Int) : Int := IntKind.i64.wrap n
mutual
def J0.find (nm : Str) : J0 → Option L0
  | .mk a vs => match mgt nm vs with
    | some v => some v
    | none => lkO nm a
def lkO (nm : Str) : Option J0 → Option L0
  | none => none
  | some s => s.find nm
end
theorem J2d {P : Option J0 → Prop} (h0 : P none) (h1 : ∀ a vs, P a → P (some (.mk a vs))) : ∀ s, P s := by
  have key : ∀ s : J0, P (some s) := fun s => J0.rec (motive_1 := fun s => P (some s)) (motive_2 := P) (fun a vs ih => h1 a vs ih) h0 (fun x hx => hx) s
  intro s
  cases s with
  | none => exact h0
  | some s => exact key s
def Z1k (s : Option J0) (nm : Str) : L0 × Bool := match lkO nm s with
  | some v => (v, true)
  | none => (L0.mk zT false, false)
theorem A2g (nm : Str) : ∀ s, I3 nm s = some (Z1k s nm) := by
  refine J2d ?_ ?_
  · rw [I3]; rfl
  · intro a vs ih
    rw [I3]
    simp only [Option.isNone, Bool.not_false, if_true, ob]
    unfold Z1k
    simp only [lkO, J0.find]
    cases hm : mgt nm vs with
    | some v => rfl
    | none =>
      simp only [Option.isSome, Bool.false_eq_true, if_false]
      exact ih
theorem E1p (s : Option J0) (nm : Str) : Y5 s nm = some (Z1k s nm) := A2g nm s
def Vv (t : A0) : A0 × Int := bif (bif t.Kind == 1 then (bif decide (t.Low < (-1048576)) then true else decide (t.High > 1048576)) else false) then (zT, 3) else (t, 0)
theorem R2h (t : A0) : Q9 t = some (Vv t) := ifB _ _ _
theorem J1j (a b : Int) : G3 a b = some (nT a b) := rfl
theorem U2g (k : Int) (l : List A0) (hl : l.length ≤ BB) : ∀ (r : List A0) (i : Nat), l.drop i = r → R3 k l i = some (r.all fun t => t.Kind == k)
  | [], i, h => by
    rw [R3, (I1 h).1]
    rfl
  | x :: r, i, h => by
    obtain ⟨h1, h2, h3, h4, _⟩ := V1 h
    rw [R3, h1, h2]
    simp only [if_true, ob, List.all_cons]
    rw [w1 (by omega), U2g k l hl r (i + 1) h3]
    show (if (!(x.Kind == k)) = true then some false else _) = _
    cases x.Kind == k <;> rfl
theorem Yz (k : Int) (l : List A0) (hl : l.length ≤ BB) : L6 k l = some (l.all fun t => t.Kind == k) := U2g k l hl l 0 rfl
def J14 (op : Int) (a b : A0) : A0 :=
  bif op == 8 then nT (wi (a.Low + b.Low)) (wi (a.High + b.High))
  else bif op == 9 then nT (wi (a.Low - b.High)) (wi (a.High - b.Low))
  else bif op == 10 then nT (min (min (min (wi (a.Low * b.Low)) (wi (a.Low * b.High))) (wi (a.High * b.Low))) (wi (a.High * b.High))) (max (max (max (wi (a.Low * b.Low)) (wi (a.Low * b.High))) (wi (a.High * b.Low))) (wi (a.High * b.High)))
  else bif op == 11 then (bif (bif decide (a.Low ≥ 0) then decide (b.Low ≥ 0) else false) then nT 0 (max a.High (wi (0 - a.Low))) else nT (wi (0 - max a.High (wi (0 - a.Low)))) (max a.High (wi (0 - a.Low))))
  else bif op == 12 then nT (bif decide (b.Low < 0) then min (wi (b.Low + 1)) 0 else 0) (bif decide (b.High > 0) then max (wi (b.High - 1)) 0 else 0)
  else bif op == 21 then nT (min a.Low b.Low) (min a.High b.High)
  else nT (max a.Low b.Low) (max a.High b.High)
theorem B2g (op : Int) (a b : A0) : P8 op a b = some (J14 op a b) := by
  unfold P8 J14
  cases op == 8
  case true => rfl
  cases op == 9
  case true => rfl
  cases op == 10
  case true => rfl
  cases op == 11
  case true =>
    simp only [Bool.false_eq_true, if_false, if_true, Tf, ob, cond_false, cond_true]
    cases (bif decide (a.Low ≥ 0) then decide (b.Low ≥ 0) else false) <;> rfl
  cases op == 12
  case true =>
    simp only [Bool.false_eq_true, if_false, if_true, cond_false, cond_true, J8, I8, J1j, ob]
    cases decide (b.Low < 0) <;> cases decide (b.High > 0) <;> rfl
  cases op == 21 <;> rfl
def opT (op : Int) (k : List A0) : A0 × Int :=
  bif op == 6 then (bif k.all (fun t => t.Kind == 1) then Vv (nT (wi (0 - (k.getD 0 zT).High)) (wi (0 - (k.getD 0 zT).Low))) else (zT, 9))
  else bif (op == 7 || op == 19 || op == 20) then (bif k.all (fun t => t.Kind == 0) then (zT, 0) else (zT, 9))
  else bif (op == 13 || op == 14) then (bif (k.all (fun t => t.Kind == 1) || k.all (fun t => t.Kind == 0)) then (zT, 0) else (zT, 9))
  else bif (op == 15 || op == 16 || op == 17 || op == 18) then (bif k.all (fun t => t.Kind == 1) then (zT, 0) else (zT, 9))
  else bif op == 23 then (bif (k.getD 0 zT).Kind != 0 then (zT, 9) else bif (k.drop 1).all (fun t => t.Kind == 1) then (nT (min (k.getD 1 zT).Low (k.getD 2 zT).Low) (max (k.getD 1 zT).High (k.getD 2 zT).High), 0)
    else bif (k.drop 1).all (fun t => t.Kind == 0) then (zT, 0) else (zT, 9))
  else bif k.all (fun t => t.Kind == 1) then Vv (J14 op (k.getD 0 zT) (k.getD 1 zT)) else (zT, 9)
theorem F1p (t : A0) : (Q9 t >>= fun x => some (x.1, x.2)) = some (Vv t) := by rw [R2h]; rfl
theorem K2d {op : Int} {n : Nat} (h : ar op = n) (h6 : 6 ≤ op) : (n = 1 ∧ (op = 6 ∨ op = 7)) ∨ (n = 2 ∧ 8 ≤ op ∧ op ≤ 22) ∨ (n = 3 ∧ op = 23) := by
  unfold ar at h
  have e : ∀ k : Int, k < 6 → (op == k) = false := fun k hk => beq_eq_false_iff_ne.2 (by omega)
  rw [e 0 (by omega), e 1 (by omega), e 2 (by omega), e 3 (by omega), e 4 (by omega), e 5 (by omega)] at h
  simp only [cond_false] at h
  by_cases a : op = 6
  · subst a; simp at h; omega
  by_cases b : op = 7
  · subst b; simp at h; omega
  rw [beq_eq_false_iff_ne.2 a, beq_eq_false_iff_ne.2 b, decide_eq_true (show op ≥ 8 by omega)] at h
  simp only [cond_false, cond_true] at h
  by_cases c : op ≤ 22
  · rw [decide_eq_true c] at h; simp only [cond_true] at h; omega
  · rw [decide_eq_false c] at h
    simp only [cond_false] at h
    by_cases d : op = 23
    · subst d; simp at h; omega
    · rw [beq_eq_false_iff_ne.2 d] at h; simp only [cond_false] at h; omega
theorem H24 (op : Int) (k : List A0) (h : ar op = (k.length : Int)) (h6 : 6 ≤ op) : J9 op k = some (opT op k) := by
  unfold J9
  rcases K2d h h6 with ⟨hn, rfl | rfl⟩ | ⟨hn, h8, h22⟩ | ⟨hn, rfl⟩
  · match k, hn with
    | [a], _ =>
      rw [Yz _ _ (by simp [BB]), Yz _ _ (by simp [BB])]
      simp only [ob]
      unfold opT
      simp only [show ((6 : Int) == 6) = true from rfl, if_true, cond_true, show idx [a] 0 = some a from rfl, ob, J1j, F1p, List.getD_cons_zero]
      exact ifB _ _ _
  · match k, hn with
    | [a], _ =>
      rw [Yz _ _ (by simp [BB]), Yz _ _ (by simp [BB])]
      simp only [ob, G7]
      unfold opT
      simp only [show ((7 : Int) == 6) = false from rfl, show ((7 : Int) == 7) = true from rfl, Bool.false_eq_true, if_false, if_true, cond_true, cond_false, Bool.true_or]
      exact ifB _ _ _
  · match k, hn with
    | [a, b], _ =>
      rw [Yz _ _ (by simp [BB]), Yz _ _ (by simp [BB])]
      simp only [ob]
      generalize hI : [a, b].all (fun t => t.Kind == 1) = I
      generalize hB : [a, b].all (fun t => t.Kind == 0) = B
      unfold opT
      simp only [hI, hB]
      have gen : ∀ x : Int, x = op → (x = 8 ∨ x = 9 ∨ x = 10 ∨ x = 11 ∨ x = 12 ∨ x = 13 ∨ x = 14 ∨ x = 15 ∨ x = 16 ∨ x = 17 ∨ x = 18 ∨ x = 19 ∨ x = 20 ∨ x = 21 ∨ x = 22) := fun x hx => by omega
      have fin : ∀ op, (bif I then Vv (J14 op a b) else ((zT, 9) : A0 × Int)) = bif I then Vv (J14 op a b) else (zT, 9) := fun _ => rfl
      rcases gen op rfl with rfl | rfl | rfl | rfl | rfl | rfl | rfl | rfl | rfl | rfl | rfl | rfl | rfl | rfl | rfl <;>
        (first
          | (cases I <;> cases B <;> rfl)
          | (cases I
             · rfl
             · show (idx [a, b] 0 >>= fun x16 => idx [a, b] 1 >>= fun x17 => P8 _ x16 x17 >>= fun x18 => Q9 x18 >>= fun x19 => some (x19.1, x19.2)) = _
               rw [show idx [a, b] 0 = some a from rfl, show idx [a, b] 1 = some b from rfl]
               simp only [ob, B2g, F1p]
               rfl))
  · match k, hn with
    | [a, b, c], _ =>
      rw [Yz _ _ (by simp [BB]), Yz _ _ (by simp [BB])]
      simp only [ob]
      show (slc [a, b, c] 1 (([a, b, c].length : Nat) : Int) >>= _) = _
      rw [show slc [a, b, c] 1 (([a, b, c].length : Nat) : Int) = some [b, c] from rfl]
      simp only [ob, show idx [a, b, c] 0 = some a from rfl]
      rw [Yz _ _ (by simp [BB]), Yz _ _ (by simp [BB])]
      simp only [ob, show idx [b, c] 0 = some b from rfl, show idx [b, c] 1 = some c from rfl, J1j]
      show _ = some (bif a.Kind != 0 then (zT, 9) else bif [b, c].all (fun t => t.Kind == 1) then (nT (min b.Low c.Low) (max b.High c.High), 0) else bif [b, c].all (fun t => t.Kind == 0) then (zT, 0) else (zT, 9))
      rw [ifB ([b, c].all fun t => t.Kind == 0), ifB ([b, c].all fun t => t.Kind == 1), ifB (a.Kind != 0)]
def V17 : List Str → List A0 → Str → A0 × Int
  | n :: ns, t :: ts, nm => bif n == nm then (t, 0) else V17 ns ts nm
  | _, _, _ => (zT, 7)
def J1g (t : A0) (nm : Str) : A0 × Int := bif t.Kind != 3 then (zT, 9) else V17 t.Names t.Of nm
theorem L2d (t : A0) (nm : Str) (hl : t.Of.length = t.Names.length) (hb : t.Names.length ≤ BB) : ∀ (r : List Str) (i : Nat), t.Names.drop i = r → K4 t nm i = some (V17 r (t.Of.drop i) nm)
  | [], i, h => by
    rw [K4, (I1 h).1]
    rfl
  | x :: r, i, h => by
    obtain ⟨h1, h2, h3, h4, _⟩ := V1 h
    obtain ⟨y, g1, g2, _⟩ := Gy (l := t.Of) (k := i) (by omega)
    rw [K4, h1, h2, g2]
    simp only [if_true, ob, g1]
    rw [w1 (by omega), L2d t nm hl hb r (i + 1) h3]
    exact ifB _ _ _
theorem S2h (t : A0) (nm : Str) (hf : I6 t) : V7 t nm = some (J1g t nm) := by
  unfold V7 J1g
  cases hk : t.Kind == 3 with
  | false =>
    have : (t.Kind != 3) = true := by simp [bne, hk]
    rw [this]; rfl
  | true =>
    have : (t.Kind != 3) = false := by simp [bne, hk]
    rw [this]
    obtain ⟨a, b, _⟩ := hf.recd hk
    exact L2d t nm b (by unfold BB; omega) t.Names 0 rfl
theorem V1v {nm : Str} : ∀ {ns : List Str} {ts : List A0}, (∀ t ∈ ts, I6 t) → (V17 ns ts nm).2 = 0 → I6 (V17 ns ts nm).1
  | [], _, _, h => by simp [V17] at h
  | _ :: _, [], _, h => by simp [V17] at h
  | n :: ns, t :: ts, hf, h => by
    simp only [V17] at h ⊢
    cases hn : n == nm with
    | true => exact hf t List.mem_cons_self
    | false =>
      rw [hn] at h
      exact V1v (fun t ht => hf t (List.mem_cons_of_mem _ ht)) h
theorem I6.zT : I6 zT := ⟨rfl, rfl⟩
theorem I6.rng {t : A0} (h : I6 t) (hk : (t.Kind == 1) = true) : -1048576 ≤ t.Low ∧ t.Low ≤ t.High ∧ t.High ≤ 1048576 := by
  have hn := h.here.2
  simp only [Oi, Bool.and_eq_true] at hn
  have h2 := hn.2
  unfold nm2 N3 at h2
  rw [hk] at h2
  simp only [cond_true] at h2
  by_cases a : t.Low ≥ -1048576
  · by_cases b : t.Low ≤ 1048576
    · by_cases c : t.High ≥ t.Low
      · by_cases d : t.High ≤ 1048576
        · exact ⟨a, c, d⟩
        · simp [a, b, c, d] at h2
      · simp [a, b, c] at h2
    · simp [a, b] at h2
  · simp [a] at h2
theorem I6.nT {a b : Int} (h1 : -1048576 ≤ a) (h2 : a ≤ b) (h3 : b ≤ 1048576) : I6 (nT a b) := by
  refine ⟨?_, ?_⟩
  · rfl
  · rw [A0.all_eq]
    have : nm2 (Go.Proofs.YtdkabnfphmmmnaaGreatDoor.nT a b) = true := by
      show (bif N3 a (-1048576) 1048576 then N3 b a 1048576 else false) = true
      unfold N3
      rw [decide_eq_true (show a ≥ -1048576 by omega), decide_eq_true (show a ≤ 1048576 by omega), decide_eq_true (show b ≥ a by omega), decide_eq_true (show b ≤ 1048576 by omega)]
      rfl
    show (Oi (Go.Proofs.YtdkabnfphmmmnaaGreatDoor.nT a b) && true) = true
    simp only [Oi, this, Bool.and_true]
    rfl
theorem C2g {a b : Int} (h : (Vv (nT a b)).2 = 0) : -1048576 ≤ a ∧ b ≤ 1048576 ∧ Vv (nT a b) = (nT a b, 0) := by
  unfold Vv at h ⊢
  have e : ((nT a b).Kind == 1) = true := rfl
  rw [e] at h ⊢
  simp only [cond_true] at h ⊢
  show _ ∧ _ ∧ (bif (bif decide (a < -1048576) then true else decide (b > 1048576)) then _ else _) = _
  change (bif (bif decide (a < -1048576) then true else decide (b > 1048576)) then ((zT, 3) : A0 × Int) else (nT a b, 0)).2 = 0 at h
  by_cases p : a < -1048576
  · simp [p] at h
  · by_cases q : b > 1048576
    · simp [p, q] at h
    · refine ⟨by omega, by omega, ?_⟩
      simp [p, q]
theorem G1p {a b : Int} (hab : a ≤ b) (h : (Vv (nT a b)).2 = 0) : I6 (Vv (nT a b)).1 := by
  obtain ⟨h1, h2, h3⟩ := C2g h
  rw [h3]
  exact .nT h1 hab h2
theorem wis {n : Int} (h : -4611686018427387904 ≤ n) (h' : n ≤ 4611686018427387904) : wi n = n := wr h h'
theorem L2a {op : Int} {a b : A0} (ha : I6 a) (hb : I6 b) (ka : (a.Kind == 1) = true) (kb : (b.Kind == 1) = true) : ∃ lo hi, J14 op a b = nT lo hi ∧ lo ≤ hi := by
  obtain ⟨a1, a2, a3⟩ := ha.rng ka
  obtain ⟨b1, b2, b3⟩ := hb.rng kb
  unfold J14
  cases op == 8
  case true => exact ⟨_, _, rfl, by rw [wis (by omega) (by omega), wis (by omega) (by omega)]; omega⟩
  cases op == 9
  case true => exact ⟨_, _, rfl, by rw [wis (by omega) (by omega), wis (by omega) (by omega)]; omega⟩
  cases op == 10
  case true => exact ⟨_, _, rfl, by omega⟩
  cases op == 11
  case true =>
    have e : wi (0 - a.Low) = -a.Low := by rw [wis (by omega) (by omega)]; omega
    simp only [cond_false, cond_true, e]
    by_cases p : a.Low ≥ 0
    · by_cases q : b.Low ≥ 0
      · rw [decide_eq_true p, decide_eq_true q]; exact ⟨_, _, rfl, by omega⟩
      · rw [decide_eq_true p, decide_eq_false q]; exact ⟨_, _, rfl, by rw [wis (by omega) (by omega)]; omega⟩
    · rw [decide_eq_false p]; exact ⟨_, _, rfl, by rw [wis (by omega) (by omega)]; omega⟩
  cases op == 12
  case true =>
    refine ⟨_, _, rfl, ?_⟩
    cases decide (b.Low < 0) <;> cases decide (b.High > 0) <;> simp only [cond_true, cond_false] <;> omega
  cases op == 21
  case true => exact ⟨_, _, rfl, by omega⟩
  exact ⟨_, _, rfl, by omega⟩
theorem D2g {op : Int} {k : List A0} (h : ar op = (k.length : Int)) (h6 : 6 ≤ op) (hk : ∀ t ∈ k, I6 t) (h0 : (opT op k).2 = 0) : I6 (opT op k).1 := by
  have zf : ∀ (c : Bool) {x : A0 × Int}, (x.2 = 0 → I6 x.1) → (bif c then x else ((zT, 9) : A0 × Int)).2 = 0 → I6 (bif c then x else ((zT, 9) : A0 × Int)).1 := fun c x hx hc => by
    cases c with
    | true => exact hx hc
    | false => exact absurd hc (by simp)
  unfold opT at h0 ⊢
  rcases K2d h h6 with ⟨hn, rfl | rfl⟩ | ⟨hn, h8, h22⟩ | ⟨hn, rfl⟩
  · match k, hn, hk with
    | [a], _, hk =>
      simp only [show ((6 : Int) == 6) = true from rfl, cond_true, List.getD_cons_zero] at h0 ⊢
      cases ha : a.Kind == 1 with
      | false => simp [ha] at h0
      | true =>
        obtain ⟨a1, a2, a3⟩ := (hk a List.mem_cons_self).rng ha
        simp only [List.all_cons, List.all_nil, ha, Bool.and_true, cond_true] at h0 ⊢
        exact G1p (by rw [wis (by omega) (by omega), wis (by omega) (by omega)]; omega) h0
  · simp only [show ((7 : Int) == 6) = false from rfl, show ((7 : Int) == 7) = true from rfl, cond_true, cond_false, Bool.true_or] at h0 ⊢
    exact zf _ (fun _ => .zT) h0
  · match k, hn, hk with
    | [a, b], _, hk =>
      rw [show (op == 6) = false from beq_eq_false_iff_ne.2 (by omega), show (op == 23) = false from beq_eq_false_iff_ne.2 (by omega)] at h0 ⊢
      simp only [cond_false] at h0 ⊢
      cases c1 : (op == 7 || op == 19 || op == 20) with
      | true => rw [c1] at h0; simp only [cond_true] at h0 ⊢; exact zf _ (fun _ => .zT) h0
      | false =>
        rw [c1] at h0
        simp only [cond_false] at h0 ⊢
        cases c2 : (op == 13 || op == 14) with
        | true => rw [c2] at h0; simp only [cond_true] at h0 ⊢; exact zf _ (fun _ => .zT) h0
        | false =>
          rw [c2] at h0
          simp only [cond_false] at h0 ⊢
          cases c3 : (op == 15 || op == 16 || op == 17 || op == 18) with
          | true => rw [c3] at h0; simp only [cond_true] at h0 ⊢; exact zf _ (fun _ => .zT) h0
          | false =>
            rw [c3] at h0
            simp only [cond_false, List.all_cons, List.all_nil, Bool.and_true] at h0 ⊢
            cases ha : a.Kind == 1 with
            | false => rw [ha] at h0; exact absurd h0 (by simp)
            | true =>
              cases hb : b.Kind == 1 with
              | false => rw [ha, hb] at h0; exact absurd h0 (by simp)
              | true =>
                rw [ha, hb] at h0
                obtain ⟨lo, hi, e, hle⟩ := L2a (op := op) (hk a List.mem_cons_self) (hk b (List.mem_cons_of_mem _ List.mem_cons_self)) ha hb
                simp only [Bool.and_self, cond_true, List.getD_cons_zero, List.getD_cons_succ, e] at h0 ⊢
                exact G1p hle h0
  · match k, hn, hk with
    | [a, b, c], _, hk =>
      change (bif a.Kind != 0 then ((zT, 9) : A0 × Int) else bif [b, c].all (fun t => t.Kind == 1) then (nT (min b.Low c.Low) (max b.High c.High), 0) else bif [b, c].all (fun t => t.Kind == 0) then (zT, 0) else (zT, 9)).2 = 0 at h0
      show I6 (bif a.Kind != 0 then ((zT, 9) : A0 × Int) else bif [b, c].all (fun t => t.Kind == 1) then (nT (min b.Low c.Low) (max b.High c.High), 0) else bif [b, c].all (fun t => t.Kind == 0) then (zT, 0) else (zT, 9)).1
      cases h1 : a.Kind != 0 with
      | true => rw [h1] at h0; exact absurd h0 (by simp)
      | false =>
        rw [h1] at h0
        simp only [cond_false] at h0 ⊢
        cases h2 : [b, c].all (fun t => t.Kind == 1) with
        | true =>
          simp only [List.all_cons, List.all_nil, Bool.and_true, Bool.and_eq_true] at h2
          obtain ⟨b1, b2, b3⟩ := (hk b (List.mem_cons_of_mem _ List.mem_cons_self)).rng h2.1
          obtain ⟨c1, c2, c3⟩ := (hk c (List.mem_cons_of_mem _ (List.mem_cons_of_mem _ List.mem_cons_self))).rng h2.2
          exact .nT (by omega) (by omega) (by omega)
        | false =>
          rw [h2] at h0
          exact zf _ (fun _ => .zT) h0
def W17 (σ : Str → Option L0) (o n : Int) (s : Str) (k : List A0) : A0 × Int :=
  bif o == 0 then Vv (nT n n)
  else bif (o == 1 || o == 2) then (zT, 0)
  else bif o == 3 then (match σ s with | some v => (v.typ, 0) | none => (zT, 7))
  else bif o == 4 then J1g (k.getD 0 zT) s
  else bif o == 5 then (bif (bif (k.getD 0 zT).Kind != 2 then true else (k.getD 1 zT).Kind != 1) then (zT, 9) else ((k.getD 0 zT).Of.getD 0 zT, 0))
  else opT o k
mutual
def C0.ty (σ : Str → Option L0) : C0 → A0 × Int
  | .mk o n s ks => bif (C0.tys σ ks).2 != 0 then (zT, (C0.tys σ ks).2) else W17 σ o n s (C0.tys σ ks).1
def C0.tys (σ : Str → Option L0) : List C0 → List A0 × Int
  | [] => ([], 0)
  | x :: r => bif (C0.ty σ x).2 != 0 then ([], (C0.ty σ x).2) else bif (C0.tys σ r).2 != 0 then ([], (C0.tys σ r).2) else ((C0.ty σ x).1 :: (C0.tys σ r).1, 0)
end
theorem C0.ty_eq (σ : Str → Option L0) (e : C0) : e.ty σ = bif (C0.tys σ e.Kids).2 != 0 then (zT, (C0.tys σ e.Kids).2) else W17 σ e.Op e.NV e.Name (C0.tys σ e.Kids).1 := by cases e; simp only [C0.ty]
theorem E28 (σ : Str → Option L0) : ∀ l : List C0, (C0.tys σ l).2 = 0 → (C0.tys σ l).1.length = l.length
  | [], _ => rfl
  | x :: r, h => by
    simp only [C0.tys] at h ⊢
    cases h1 : (C0.ty σ x).2 != 0 with
    | true => rw [h1] at h; simp only [cond_true] at h; rw [h] at h1; exact absurd h1 (by simp)
    | false =>
      rw [h1] at h
      simp only [cond_false] at h ⊢
      cases h2 : (C0.tys σ r).2 != 0 with
      | true => rw [h2] at h; simp only [cond_true] at h; rw [h] at h2; exact absurd h2 (by simp)
      | false =>
        simp only [cond_false, List.length_cons]
        rw [E28 σ r (by simpa using h2)]
theorem I24 {σ : Str → Option L0} : ∀ {l : List C0}, (∀ x ∈ l, (x.ty σ).2 = 0 → I6 (x.ty σ).1) → ∀ t ∈ (C0.tys σ l).1, I6 t
  | [], _, t, ht => by simp [C0.tys] at ht
  | x :: r, hx, t, ht => by
    simp only [C0.tys] at ht
    cases h1 : (C0.ty σ x).2 != 0 with
    | true => rw [h1] at ht; simp at ht
    | false =>
      rw [h1] at ht
      simp only [cond_false] at ht
      cases h2 : (C0.tys σ r).2 != 0 with
      | true => rw [h2] at ht; simp at ht
      | false =>
        rw [h2] at ht
        simp only [cond_false, List.mem_cons] at ht
        rcases ht with rfl | ht
        · exact hx x List.mem_cons_self (by simpa using h1)
        · exact I24 (fun y hy => hx y (List.mem_cons_of_mem _ hy)) t ht
def SF (σ : Str → Option L0) : Prop := ∀ nm v, σ nm = some v → I6 v.typ
theorem J24 {o : Int} {n : Nat} (h : ar o = n) (h6 : o < 6) : (n = 0 ∧ (o = 0 ∨ o = 1 ∨ o = 2 ∨ o = 3)) ∨ (n = 1 ∧ o = 4) ∨ (n = 2 ∧ o = 5) := by
  unfold ar at h
  by_cases a0 : o = 0
  · subst a0; simp at h; omega
  by_cases a1 : o = 1
  · subst a1; simp at h; omega
  by_cases a2 : o = 2
  · subst a2; simp at h; omega
  by_cases a3 : o = 3
  · subst a3; simp at h; omega
  by_cases a4 : o = 4
  · subst a4; simp at h; omega
  by_cases a5 : o = 5
  · subst a5; simp at h; omega
  rw [beq_eq_false_iff_ne.2 a0, beq_eq_false_iff_ne.2 a1, beq_eq_false_iff_ne.2 a2, beq_eq_false_iff_ne.2 a3, beq_eq_false_iff_ne.2 a4, beq_eq_false_iff_ne.2 a5,
    beq_eq_false_iff_ne.2 (show o ≠ 6 by omega), beq_eq_false_iff_ne.2 (show o ≠ 7 by omega), decide_eq_false (show ¬ o ≥ 8 by omega), beq_eq_false_iff_ne.2 (show o ≠ 23 by omega)] at h
  simp only [cond_false] at h
  omega
theorem M2a {σ : Str → Option L0} (hσ : SF σ) {o n : Int} {s : Str} {k : List A0} (h : ar o = (k.length : Int)) (hk : ∀ t ∈ k, I6 t) (h0 : (W17 σ o n s k).2 = 0) : I6 (W17 σ o n s k).1 := by
  by_cases h6 : o < 6
  · rcases J24 h h6 with ⟨hn, rfl | rfl | rfl | rfl⟩ | ⟨hn, rfl⟩ | ⟨hn, rfl⟩
    · exact G1p (Int.le_refl _) h0
    · exact .zT
    · exact .zT
    · change (match σ s with | some v => (v.typ, (0 : Int)) | none => (zT, 7)).2 = 0 at h0
      show I6 (match σ s with | some v => (v.typ, (0 : Int)) | none => (zT, 7)).1
      cases hs : σ s with
      | none => rw [hs] at h0; exact absurd h0 (by simp)
      | some v => exact hσ s v hs
    · match k, hn, hk with
      | [a], _, hk =>
        change (J1g a s).2 = 0 at h0
        show I6 (J1g a s).1
        have ha := hk a List.mem_cons_self
        unfold J1g at h0 ⊢
        cases h1 : a.Kind != 3 with
        | true => rw [h1] at h0; exact absurd h0 (by simp)
        | false =>
          rw [h1] at h0
          exact V1v (fun t ht => ha.kid ht) h0
    · match k, hn, hk with
      | [a, b], _, hk =>
        change (bif (bif a.Kind != 2 then true else b.Kind != 1) then ((zT, 9) : A0 × Int) else (a.Of.getD 0 zT, 0)).2 = 0 at h0
        show I6 (bif (bif a.Kind != 2 then true else b.Kind != 1) then ((zT, 9) : A0 × Int) else (a.Of.getD 0 zT, 0)).1
        have ha := hk a List.mem_cons_self
        cases h1 : a.Kind != 2 with
        | true => rw [h1] at h0; exact absurd h0 (by simp)
        | false =>
          rw [h1] at h0
          obtain ⟨x, hx, _, _⟩ := ha.arr (by simpa [bne] using h1)
          cases h2 : b.Kind != 1 with
          | true => rw [h2] at h0; exact absurd h0 (by simp)
          | false =>
            simp only [cond_false, hx, List.getD_cons_zero]
            exact ha.kid (by rw [hx]; exact List.mem_cons_self)
  · unfold W17 at h0 ⊢
    rw [beq_eq_false_iff_ne.2 (show o ≠ 0 by omega), beq_eq_false_iff_ne.2 (show o ≠ 1 by omega), beq_eq_false_iff_ne.2 (show o ≠ 2 by omega), beq_eq_false_iff_ne.2 (show o ≠ 3 by omega), beq_eq_false_iff_ne.2 (show o ≠ 4 by omega), beq_eq_false_iff_ne.2 (show o ≠ 5 by omega)] at h0 ⊢
    exact D2g h (by omega) hk h0
theorem T2h (s : Option J0) (e : C0) (k : List A0) (h : ar e.Op = (k.length : Int)) (hk : ∀ t ∈ k, I6 t) :
    (if (e.Op == 0) = true then G3 e.NV e.NV >>= fun x2 => Q9 x2 >>= fun x3 => some (x3.1, x3.2) else if (e.Op == 1) = true then M9 s e k (e.Op == 1) else M9 s e k (e.Op == 2)) =
      some (W17 (fun nm => lkO nm s) e.Op e.NV e.Name k) := by
  have tl : ∀ v, M9 s e k v = if v = true then some (zT, 0) else (if (e.Op == 3) = true then (Y5 s e.Name >>= fun x4 => if (!x4.2) = true then some (zT, 7) else some (x4.1.typ, 0)) else
      if (e.Op == 4) = true then (idx k 0 >>= fun x5 => V7 x5 e.Name >>= fun x6 => some (x6.1, x6.2)) else
      if (e.Op == 5) = true then (idx k 0 >>= fun x7 => (if (!(x7.Kind != 2)) = true then idx k 1 else some default) >>= fun x8 => if (bif (x7.Kind != 2) then true else (x8.Kind != 1)) = true then some (zT, 9) else (idx k 0 >>= fun x9 => idx x9.Of 0 >>= fun x10 => some (x10, 0))) else
      (J9 e.Op k >>= fun x11 => some (x11.1, x11.2))) := fun v => rfl
  unfold W17
  simp only [J1j, ob, F1p, tl, E1p]
  by_cases h6 : e.Op < 6
  · rcases J24 h h6 with ⟨hn, ho | ho | ho | ho⟩ | ⟨hn, ho⟩ | ⟨hn, ho⟩
    · rw [ho]; rfl
    · rw [ho]; rfl
    · rw [ho]; rfl
    · rw [ho]
      show (if (!(Z1k s e.Name).2) = true then some ((zT, 7) : A0 × Int) else some ((Z1k s e.Name).1.typ, 0)) = some (match lkO e.Name s with | some v => (v.typ, 0) | none => (zT, 7))
      unfold Z1k
      cases lkO e.Name s <;> rfl
    · rw [ho]
      match k, hn, hk with
      | [a], _, hk =>
        show (V7 a e.Name >>= fun x6 => some (x6.1, x6.2)) = some (J1g a e.Name)
        rw [S2h a e.Name (hk a List.mem_cons_self)]
        rfl
    · rw [ho]
      match k, hn, hk with
      | [a, b], _, hk =>
        have ha := hk a List.mem_cons_self
        show ((if (!(a.Kind != 2)) = true then some b else some default) >>= fun x8 => if (bif (a.Kind != 2) then true else (x8.Kind != 1)) = true then some ((zT, 9) : A0 × Int) else (idx a.Of 0 >>= fun x10 => some (x10, 0))) = some (bif (bif a.Kind != 2 then true else b.Kind != 1) then (zT, 9) else (a.Of.getD 0 zT, 0))
        cases h1 : a.Kind != 2 with
        | true => rfl
        | false =>
          obtain ⟨x, hx, _, _⟩ := ha.arr (by simpa [bne] using h1)
          rw [hx]
          simp only [Bool.not_false, if_true, ob, cond_false]
          cases h2 : b.Kind != 1 <;> rfl
  · have f : ∀ n : Int, n < 6 → (e.Op == n) = false := fun n hn => beq_eq_false_iff_ne.2 (by omega)
    rw [f 0 (by omega), f 1 (by omega), f 2 (by omega), f 3 (by omega), f 4 (by omega), f 5 (by omega), H24 e.Op k h (by omega)]
    rfl
theorem M2d (s : Option J0) (e : C0) (ho : OkE e) (hf : N4 e = true)
    (ih : ∀ x ∈ e.Kids, G4 s x = some (x.ty fun nm => lkO nm s) ∧ ((x.ty fun nm => lkO nm s).2 = 0 → I6 (x.ty fun nm => lkO nm s).1)) :
    ∀ (r : List C0) (i : Nat) (k : List A0), e.Kids.drop i = r → k.length = i ∧ i ≤ e.Kids.length → (∀ t ∈ k, I6 t) →
      C8 s e k i = some (bif (C0.tys (fun nm => lkO nm s) r).2 != 0 then (zT, (C0.tys (fun nm => lkO nm s) r).2) else W17 (fun nm => lkO nm s) e.Op e.NV e.Name (k ++ (C0.tys (fun nm => lkO nm s) r).1))
  | [], i, k, h, hi, hk => by
    obtain ⟨h1, h2⟩ := I1 h
    rw [C8, h1]
    have hl : k.length = e.Kids.length := by omega
    have har : ar e.Op = (k.length : Int) := by
      simp only [N4, Bool.and_eq_true] at hf
      have := hf.1.1.1
      unfold ef1 at this
      rw [hl]
      simpa using this
    simp only [Bool.false_eq_true, if_false, C0.tys, List.append_nil]
    exact T2h s e k har hk
  | x :: r, i, k, h, hi, hk => by
    obtain ⟨h1, h2, h3, h4, h5⟩ := V1 h
    obtain ⟨i1, i2⟩ := ih x h5
    have hb := ho.kids
    rw [C8, h1, h2]
    simp only [if_true, ob, i1, C0.tys]
    cases hc : (x.ty fun nm => lkO nm s).2 != 0 with
    | true => simp only [if_true, cond_true, hc]
    | false =>
      have hz : (x.ty fun nm => lkO nm s).2 = 0 := by simpa using hc
      rw [decide_eq_true (show (k.length + 1) * 97 ≤ 140737488355328 by unfold BB at hb; omega)]
      simp only [Bool.false_eq_true, if_false, if_true, cond_false]
      rw [w1 (by omega), M2d s e ho hf ih r (i + 1) (k ++ [(x.ty fun nm => lkO nm s).1]) h3 ⟨by simp [hi.1], by omega⟩ (fun t ht => by
        rcases List.mem_append.1 ht with ht | ht
        · exact hk t ht
        · simp at ht; subst ht; exact i2 hz)]
      cases h2 : (C0.tys (fun nm => lkO nm s) r).2 != 0 with
      | true => simp only [cond_true, h2]
      | false => simp only [cond_false, List.append_assoc, List.singleton_append]; rfl
theorem U2h (s : Option J0) (hs : SF fun nm => lkO nm s) (e : C0) : OkE e → e.all N4 = true → G4 s e = some (e.ty fun nm => lkO nm s) ∧ ((e.ty fun nm => lkO nm s).2 = 0 → I6 (e.ty fun nm => lkO nm s).1) := by
  refine C0.ind (P := fun e => OkE e → e.all N4 = true → G4 s e = some (e.ty fun nm => lkO nm s) ∧ ((e.ty fun nm => lkO nm s).2 = 0 → I6 (e.ty fun nm => lkO nm s).1)) ?_ e
  intro e ih ho hf
  rw [C0.all_eq, Bool.and_eq_true] at hf
  have ih' : ∀ x ∈ e.Kids, G4 s x = some (x.ty fun nm => lkO nm s) ∧ ((x.ty fun nm => lkO nm s).2 = 0 → I6 (x.ty fun nm => lkO nm s).1) := fun x hx => ih x hx (ho.kid hx) (C0.alls_mem hf.2 hx)
  have hb := ho.kids
  refine ⟨?_, fun h0 => ?_⟩
  · rw [G4, decide_eq_true (show 0 ≤ ((e.Kids.length : Nat) : Int) ∧ ((e.Kids.length : Nat) : Int).toNat * 97 ≤ 140737488355328 by unfold BB at hb; rw [Int.toNat_natCast]; omega), if_pos rfl]
    have := M2d s e ho hf.1 ih' e.Kids 0 [] rfl ⟨rfl, Nat.zero_le _⟩ (fun t ht => by cases ht)
    rw [C0.ty_eq]
    exact this
  · rw [C0.ty_eq] at h0 ⊢
    cases hc : (C0.tys (fun nm => lkO nm s) e.Kids).2 != 0 with
    | true => rw [hc] at h0; simp only [cond_true] at h0; rw [h0] at hc; exact absurd hc (by simp)
    | false =>
      rw [hc] at h0
      simp only [cond_false] at h0 ⊢
      refine M2a hs ?_ (I24 fun x hx => (ih' x hx).2) h0
      rw [E28 _ _ (by simpa using hc)]
      have := hf.1
      simp only [N4, Bool.and_eq_true] at this
      simpa [ef1] using this.1.1.1
end Go.Proofs.YtdkabnfphmmmnaaGreatDoor

