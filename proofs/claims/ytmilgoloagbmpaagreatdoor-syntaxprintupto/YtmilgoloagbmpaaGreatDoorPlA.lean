/- A part of the proof of SyntaxPrint. -/
import Derived.Test.YtmilgoloagbmpaaGreatDoorDgC
namespace Go.Proofs.YtmilgoloagbmpaaGreatDoor
open Go.Am
theorem ob {α β : Type} (a : α) (f : α → Option β) : (some a >>= f) = f a := rfl
theorem W1 {α : Type} {l : List α} {k : Nat} {x : α} {r : List α} (h : l.drop k = x :: r) : decide ((k : Int) < (l.length : Int)) = true ∧ idx l (k : Int) = some x ∧ l.drop (k + 1) = r ∧ k < l.length ∧ x ∈ l := by
  have hk : k < l.length := by
    rcases Nat.lt_or_ge k l.length with h1 | h1
    · exact h1
    · rw [List.drop_eq_nil_of_le h1] at h; cases h
  have hx := List.drop_eq_getElem_cons hk
  rw [h] at hx
  obtain ⟨e1, e2⟩ := List.cons.inj hx
  refine ⟨decide_eq_true (by omega), ?_, e2.symm, hk, ?_⟩
  · unfold idx
    rw [if_pos (by omega), e1]
    simp [hk]
  · rw [e1]; exact List.getElem_mem hk
theorem K1 {α : Type} {l : List α} {k : Nat} (h : l.drop k = []) : decide ((k : Int) < (l.length : Int)) = false ∧ l.length ≤ k := by
  have := List.drop_eq_nil_iff.1 h
  exact ⟨decide_eq_false (by omega), this⟩
def BB : Nat := 68719476736
theorem wr {n : Int} (h : -4611686018427387904 ≤ n) (h' : n ≤ 4611686018427387904) : IntKind.i64.wrap n = n := L1f (by omega) (by omega)
theorem w1 {k : Nat} (h : k ≤ BB) : IntKind.i64.wrap ((k : Int) + 1) = ((k + 1 : Nat) : Int) := by
  unfold BB at h
  rw [wr (by omega) (by omega)]; rfl
def Oo (n : Int) : Bool := bif decide (n ≥ 97) then decide (n ≤ 122) else false
def W1b (n : Int) : Bool := bif decide (n ≥ 48) then decide (n ≤ 57) else false
def E1n (i : Nat) (c : UInt8) : Bool := Oo c.toNat || (i != 0 && W1b c.toNat)
def Sp : Nat → List UInt8 → Bool
  | _, [] => true
  | i, c :: r => E1n i c && Sp (i + 1) r
def A4 (s : List UInt8) : Bool := Sp 0 s && !(s == [])
def kw : List UInt8 := [32, 116, 121, 112, 101, 32, 115, 101, 99, 114, 101, 116, 32, 112, 117, 98, 108, 105, 99, 32, 114, 97, 110, 100, 111, 109, 32, 118, 97, 114, 32, 104, 97, 116, 99, 104, 32, 102, 117, 110, 99, 32, 114, 101, 116, 117, 114, 110, 32, 98, 101, 103, 105, 110, 32, 101, 110, 100, 32, 98, 111, 111, 108, 32, 105, 110, 116, 32, 97, 114, 114, 97, 121, 32, 111, 102, 32, 114, 101, 99, 111, 114, 100, 32, 116, 114, 117, 101, 32, 102, 97, 108, 115, 101, 32, 99, 97, 108, 108, 32, 114, 101, 108, 101, 97, 115, 101, 32, 111, 117, 116, 112, 117, 116, 32, 119, 97, 105, 116, 32, 105, 102, 32, 101, 108, 115, 101, 32, 119, 104, 105, 108, 101, 32, 108, 105, 109, 105, 116, 32, 102, 111, 114, 32, 116, 111, 32, 115, 101, 116, 116, 108, 101, 32, 109, 105, 110, 32, 109, 97, 120, 32]
def X1b (s : List UInt8) : Bool := bif (bif !(s == []) then !Lib.contains s [32] else false) then Lib.contains kw ([32] ++ s ++ [32]) else false
def Hb (s : List UInt8) : Bool := bif (bif decide ((s.length : Int) ≤ 12) then A4 s else false) then !X1b s else false
theorem getD_some {s : List UInt8} {k : Nat} (h : k < s.length) : s[k]? = some (s.getD k 0) := by simp [List.getD, h]
def ld (c : UInt8) : Bool := bif Oo c.toNat then true else W1b c.toNat
def X10 : List UInt8 → Nat
  | [] => 0
  | c :: r => bif ld c then X10 r + 1 else 0
theorem F1l : ∀ s : List UInt8, X10 s ≤ s.length
  | [] => Nat.le_refl _
  | c :: r => by
    simp only [X10, List.length_cons]
    have := F1l r
    cases ld c <;> simp <;> omega
def G15 (s : List UInt8) : Bool := bif ((s.length : Nat) : Int) == 0 then false else bif s.all (fun c => Oo c.toNat) then Lib.contains kw ([32] ++ s ++ [32]) else false
set_option maxRecDepth 100000 in
theorem H15 : kw.length = 162 := rfl
theorem L1h {s sub : List UInt8} {i : Nat} (hi : i + sub.length ≤ s.length) (h : ((s.take (i + sub.length)).drop i == sub) = true) : Lib.contains s sub = true := by
  have ho : Lib.occAt s sub i = true := by
    rw [Lib.occAt_iff_take s sub i hi]
    rw [List.drop_take] at h
    simpa using h
  rcases Lib.index_spec s sub with ⟨_, h2⟩ | ⟨j, h1, _⟩
  · rw [h2 i (by omega)] at ho; cases ho
  · unfold Lib.contains
    rw [h1]
    exact decide_eq_true (by omega)
theorem F13 {s sub : List UInt8} (h : ∀ i, i + sub.length ≤ s.length → ((s.take (i + sub.length)).drop i == sub) = false) (hne : sub ≠ []) : Lib.contains s sub = false := by
  rcases Lib.index_spec s sub with ⟨h1, _⟩ | ⟨j, h1, h2, h3, _⟩
  · unfold Lib.contains
    rw [h1]; rfl
  · rcases Lib.occAt_room h3 with hr | hr
    · have := h j hr
      rw [Lib.occAt_iff_take s sub j hr] at h3
      rw [List.drop_take] at this
      have e : j + sub.length - j = sub.length := by omega
      rw [e, h3] at this
      cases this
    · exact absurd hr hne
def F1n (s : List UInt8) : Bool :=
  bif (bif (bif (bif decide (((s.length : Nat) : Int) < 1) then true else decide (((s.length : Nat) : Int) > 12)) then true else !Oo (s.getD 0 0).toNat) then true else G15 s) then false else ((X10 s : Nat) : Int) == ((s.length : Nat) : Int)
theorem G17 : ∀ (r : List UInt8) (i : Nat), 1 ≤ i → Sp i r = r.all ld
  | [], _, _ => rfl
  | c :: r, i, h => by
    have hi : (i != 0) = true := by simp; omega
    simp only [Sp, List.all_cons, G17 r (i + 1) (by omega), E1n, hi, Bool.true_and, ld]
    cases Oo c.toNat <;> rfl
theorem G1l : ∀ s : List UInt8, (((X10 s : Nat) : Int) == ((s.length : Nat) : Int)) = s.all ld
  | [] => rfl
  | c :: r => by
    have h := G1l r
    have hle := F1l r
    simp only [X10, List.length_cons, List.all_cons, ← h]
    cases ld c with
    | false =>
      simp only [cond_false, Bool.false_and]
      apply beq_eq_false_iff_ne.2
      omega
    | true =>
      simp only [cond_true, Bool.true_and]
      rw [Bool.eq_iff_iff, beq_iff_eq, beq_iff_eq]
      omega
set_option maxRecDepth 100000 in
theorem I1r : kw.all (fun c => Oo c.toNat || c == 32) = true := by decide
theorem I15 {s sub : List UInt8} (h : Lib.contains s sub = true) (hne : sub ≠ []) : ∀ c ∈ sub, c ∈ s := by
  rcases Lib.index_spec s sub with ⟨h1, _⟩ | ⟨j, h1, h2, h3, _⟩
  · unfold Lib.contains at h
    rw [h1] at h
    cases h
  · rcases Lib.occAt_room h3 with hr | hr
    · rw [Lib.occAt_iff_take s sub j hr] at h3
      have e : (s.drop j).take sub.length = sub := by simpa using h3
      intro c hc
      rw [← e] at hc
      exact List.mem_of_mem_drop (List.mem_of_mem_take hc)
    · exact absurd hr hne
theorem M1h : ld 32 = false := by decide
theorem J1r {s : List UInt8} (h : s.all ld = true) : Lib.contains s [32] = false := by
  cases hc : Lib.contains s [32] with
  | false => rfl
  | true =>
    have := I15 hc (by simp) 32 (by simp)
    have := List.all_eq_true.1 h 32 this
    rw [M1h] at this
    cases this
theorem Y1s {s : List UInt8} (h : s.all ld = true) (hc : Lib.contains kw ([32] ++ s ++ [32]) = true) : s.all (fun c => Oo c.toNat) = true := by
  rw [List.all_eq_true]
  intro c hcs
  have h1 := I15 hc (by simp) c (by simp [hcs])
  have h2 := List.all_eq_true.1 I1r c h1
  have h3 := List.all_eq_true.1 h c hcs
  cases hl : Oo c.toNat with
  | true => rfl
  | false =>
    rw [hl, Bool.false_or, beq_iff_eq] at h2
    subst h2
    rw [M1h] at h3
    cases h3
theorem Z1s (s : List UInt8) : F1n s = Hb s := by
  unfold F1n Hb
  rw [G1l]
  cases s with
  | nil => rfl
  | cons c r =>
    have h1 : decide ((((c :: r).length : Nat) : Int) < 1) = false := decide_eq_false (by simp only [List.length_cons]; omega)
    have h12 : decide ((((c :: r).length : Nat) : Int) > 12) = !decide ((((c :: r).length : Nat) : Int) ≤ 12) := by
      rw [← decide_not]; exact decide_eq_decide.2 Int.not_le.symm
    have hw : A4 (c :: r) = (Oo c.toNat && r.all ld) := by
      unfold A4
      simp only [Sp, E1n, G17 r 1 (Nat.le_refl _)]
      simp
    rw [h1, h12, hw, cond_false, List.all_cons]
    show (bif (bif (bif !decide ((((c :: r).length : Nat) : Int) ≤ 12) then true else !Oo c.toNat) then true else G15 (c :: r)) then false else (ld c && r.all ld)) = _
    cases h12' : decide ((((c :: r).length : Nat) : Int) ≤ 12) with
    | false => rfl
    | true =>
      cases hl : Oo c.toNat with
      | false => rfl
      | true =>
        have hlc : ld c = true := by unfold ld; rw [hl]; rfl
        rw [hlc]
        cases ha : r.all ld with
        | false => cases G15 (c :: r) <;> rfl
        | true =>
          have hall : (c :: r).all ld = true := by rw [List.all_cons, hlc, ha]; rfl
          have hns := J1r hall
          have e : G15 (c :: r) = X1b (c :: r) := by
            unfold G15 X1b
            rw [hns]
            have hz : ((((c :: r).length : Nat) : Int) == 0) = false := beq_eq_false_iff_ne.2 (by simp only [List.length_cons]; omega)
            rw [hz]
            cases hk : Lib.contains kw ([32] ++ (c :: r) ++ [32]) with
            | false => simp
            | true =>
              rw [Y1s hall hk]
              rfl
          rw [e]
          cases X1b (c :: r) <;> rfl
theorem W1j (n : Int) : Zg n = some (Oo n) := rfl
theorem G1n (n : Int) : Ri n = some (W1b n) := rfl
theorem K1a (s : Str) (hs : s.length ≤ BB) : ∀ (r : Str) (k : Nat), s.drop k = r → C6 s k = some (Sp k r && !(s == []))
  | [], k, h => by rw [C6, (K1 h).1]; simp [Sp]
  | c :: r, k, h => by
    obtain ⟨h1, h2, h3, h4, _⟩ := W1 h
    have ih := K1a s hs r (k + 1) h3
    rw [C6, h1, if_pos rfl, h2, ob, W1j, ob, w1 (by omega), ih]
    have e : ((k : Int) == 0) = (k == 0) := by cases k <;> rfl
    simp only [e, Sp, E1n, bne]
    cases hl : Oo c.toNat <;> cases hk : k == 0 <;> cases hd : W1b c.toNat <;> simp [G1n, hd]
theorem A1p (s : Str) (hs : s.length ≤ BB) : Mk s = some (A4 s) := K1a s hs s 0 rfl
theorem G13 (s t : Str) (hs : s.length ≤ 4000000000) : Sl s t = some (Lib.contains s t) := by
  unfold Sl
  rw [if_pos (decide_eq_true (by omega))]
theorem X1j (s : Str) (hs : s.length ≤ 4000000000) : Re s = some (X1b s) := by
  unfold Re
  have h1 : decide (1 + s.length ≤ maxLen) = true := decide_eq_true (by unfold maxLen; omega)
  have h2 : decide (([32] ++ s).length + 1 ≤ maxLen) = true := decide_eq_true (by unfold maxLen; simp; omega)
  rw [G13 s _ hs]
  have h3 := G13 kw (([32] ++ s) ++ [32]) (by rw [H15]; omega)
  unfold kw at h3
  unfold X1b kw
  rw [h1, h2, h3]
  cases s == [] <;> cases Lib.contains s [32] <;> simp
theorem B1p (s : Str) (hs : s.length ≤ BB) : Cg s = some (Hb s) := by
  unfold Cg Qk Hb
  rw [A1p s hs]
  cases h : decide ((s.length : Int) ≤ 12) with
  | false => simp
  | true =>
    have h' : s.length ≤ 12 := by have := of_decide_eq_true h; omega
    rw [X1j s (by omega)]
    cases A4 s <;> simp
theorem Jz (n : Int) : Dl n = some (Oo n) := rfl
theorem Y1j (n : Int) : Iw n = some (W1b n) := rfl
theorem H1l (s : Str) (hs : s.length ≤ BB) : ∀ (r : Str) (k : Nat), s.drop k = r → Hf s k = some ((k + X10 r : Nat) : Int)
  | [], k, h => by rw [Hf, (K1 h).1]; simp [X10, ob]
  | c :: r, k, h => by
    obtain ⟨h1, h2, h3, h4, _⟩ := W1 h
    have ih := H1l s hs r (k + 1) h3
    rw [Hf, h1, if_pos rfl, h2, ob, if_pos rfl, Jz, ob, w1 (by omega), ih]
    simp only [X10, ld]
    cases hl : Oo c.toNat <;> cases hd : W1b c.toNat <;> simp [Y1j, hd, ob] <;> omega
theorem T1t (s : Str) (hs : s.length ≤ BB) : Bx s 0 = some ((X10 s : Nat) : Int) := by
  have := H1l s hs s 0 rfl
  unfold Bx
  rw [Nat.zero_add] at this
  exact this
theorem K1r (s : Str) (hs : s.length ≤ 4000000000) : ∀ (n k : Nat), n + k = 163 → (∀ i, i < k → i + ([32] ++ s ++ [32]).length ≤ kw.length → ((kw.take (i + ([32] ++ s ++ [32]).length)).drop i == [32] ++ s ++ [32]) = false) →
    P8 s k = some (Lib.contains kw ([32] ++ s ++ [32])) := by
  have hl : ([32] ++ s ++ [32]).length = s.length + 2 := by simp
  intro n
  induction n with
  | zero =>
    intro k hk hi
    rw [P8, wr (n := (k : Int) + _) (by omega) (by omega), wr (by omega) (by omega), if_neg (by simp; omega), F13 (fun i h => hi i (by rw [H15] at h; omega) h) (by simp)]
  | succ n ih =>
    intro k hk hi
    rw [P8, wr (n := (k : Int) + _) (by omega) (by omega), wr (by omega) (by omega)]
    by_cases hr : k + ([32] ++ s ++ [32]).length ≤ kw.length
    · have hr' := hr
      rw [H15, hl] at hr'
      rw [if_pos (decide_eq_true (by omega))]
      have hs2 : slc kw (k : Int) ((k : Int) + (s.length : Int) + 2) = some ((kw.take (k + ([32] ++ s ++ [32]).length)).drop k) := by
        unfold slc
        rw [if_pos ⟨by omega, by omega, by rw [H15]; omega⟩, hl]
        rw [show ((k : Int) + (s.length : Int) + 2).toNat = k + (s.length + 2) by omega]
        rfl
      unfold kw at hs2
      rw [hs2, ob, if_pos (decide_eq_true (by unfold maxLen; omega)), if_pos (decide_eq_true (by unfold maxLen; simp; omega))]
      cases he : ((kw.take (k + ([32] ++ s ++ [32]).length)).drop k == [32] ++ s ++ [32]) with
      | true =>
        have := L1h hr he
        rw [this]
        unfold kw at he
        rw [he, if_pos rfl]
      | false =>
        have he' := he
        unfold kw at he'
        rw [he', if_neg (by simp), w1 (by unfold BB; omega)]
        refine ih (k + 1) (by omega) fun i hik => ?_
        rcases Nat.lt_or_eq_of_le (Nat.le_of_lt_succ hik) with h | h
        · exact hi i h
        · subst h; exact fun _ => he
    · have hr' := hr
      rw [H15, hl] at hr'
      rw [if_neg (by simp; omega), F13 (fun i h => hi i (by omega) h) (by simp)]
theorem N1h (s : Str) (hs : s.length ≤ 4000000000) : ∀ (r : Str) (k : Nat), s.drop k = r → Q8 s k = some (bif r.all (fun c => Oo c.toNat) then Lib.contains kw ([32] ++ s ++ [32]) else false)
  | [], k, h => by rw [Q8, (K1 h).1, if_neg (by simp)]; exact K1r s hs 163 0 rfl (fun i h => by omega)
  | c :: r, k, h => by
    obtain ⟨h1, h2, h3, h4, _⟩ := W1 h
    have ih := N1h s hs r (k + 1) h3
    rw [Q8, h1, if_pos rfl, h2, ob, Jz, ob, w1 (by unfold BB; omega), ih, List.all_cons]
    cases Oo c.toNat <;> simp
theorem Y1b (s : Str) (hs : s.length ≤ 4000000000) : El s = some (G15 s) := by
  unfold El G15
  have := N1h s hs s 0 rfl
  rw [show (0 : Int) = ((0 : Nat) : Int) from rfl, this]
  cases ((s.length : Int) == ((0 : Nat) : Int)) <;> simp
theorem Tp (s : Str) (hs : s.length ≤ BB) : Od s = some (Hb s) := by
  rw [← Z1s]
  unfold Od Xt F1n
  cases h : (bif decide ((s.length : Int) < 1) then true else decide ((s.length : Int) > 12)) with
  | true => simp [ob]
  | false =>
    have h' : 1 ≤ s.length ∧ s.length ≤ 12 := by
      cases h1 : decide ((s.length : Int) < 1) with
      | true => rw [h1] at h; cases h
      | false =>
        rw [h1] at h
        have := of_decide_eq_false h1
        have := of_decide_eq_false (show decide ((s.length : Int) > 12) = false from h)
        omega
    have h0 : idx s 0 = some (s.getD 0 0) := getD_some (by omega)
    rw [h0, Y1b s (by omega), T1t s hs]
    simp only [Bool.not_false, if_true, ob, Jz, cond_false]
    cases Oo (s.getD 0 0).toNat <;> cases G15 s <;> simp [ob]
end Go.Proofs.YtmilgoloagbmpaaGreatDoor

set_option linter.unusedSimpArgs false
namespace Go.Proofs.YtmilgoloagbmpaaGreatDoor
open Go.Am
theorem D0.ind {P : D0 → Prop} (h : ∀ t : D0, (∀ x ∈ t.Of, P x) → P t) : ∀ t, P t := by
  intro t
  refine D0.rec (motive_1 := P) (motive_2 := fun l => ∀ x ∈ l, P x) ?_ ?_ ?_ t
  · intro k l h' s n ns of ih
    exact h _ ih
  · intro x hx; cases hx
  · intro x r hx hr y hy
    cases hy with
    | head => exact hx
    | tail _ hy => exact hr y hy
mutual
def D0.depth : D0 → Nat
  | .mk _ _ _ _ _ _ of => D0.depths of + 1
def D0.depths : List D0 → Nat
  | [] => 0
  | t :: r => max (D0.depth t) (D0.depths r)
end
theorem D0.depth_eq (t : D0) : t.depth = D0.depths t.Of + 1 := by cases t; simp [D0.depth, D0.Of]
def A2 (a b c : Int) : Bool := bif decide (a ≥ b) then decide (a ≤ c) else false
mutual
def D0.all (p : D0 → Bool) : D0 → Bool
  | .mk k l h s n ns of => p (.mk k l h s n ns of) && D0.alls p of
def D0.alls (p : D0 → Bool) : List D0 → Bool
  | [] => true
  | t :: r => D0.all p t && D0.alls p r
end
theorem D0.all_eq (p : D0 → Bool) (t : D0) : t.all p = (p t && D0.alls p t.Of) := by cases t; rfl
mutual
def D0.nodes : D0 → Nat
  | .mk _ _ _ _ _ _ of => D0.nodess of + 1
def D0.nodess : List D0 → Nat
  | [] => 0
  | t :: r => D0.nodes t + D0.nodess r
end
theorem D0.nodes_eq (t : D0) : t.nodes = D0.nodess t.Of + 1 := by cases t; rfl
mutual
theorem D0.depth_nodes : ∀ t : D0, t.depth ≤ t.nodes
  | .mk _ _ _ _ _ _ of => by simp only [D0.depth, D0.nodes]; have := D0.depths_nodess of; omega
theorem D0.depths_nodess : ∀ l : List D0, D0.depths l ≤ D0.nodess l
  | [] => Nat.le_refl _
  | t :: r => by simp only [D0.depths, D0.nodess]; have := D0.depth_nodes t; have := D0.depths_nodess r; omega
end
def fm1 (t : D0) : Bool := bif decide (t.Kind ≥ 0) then decide (t.Kind ≤ 4) else false
def fm2 (t : D0) : Bool := bif t.Kind == 1 then true else bif t.Low == 0 then t.High == 0 else false
def fm3 (t : D0) : Bool := bif t.Kind == 2 then true else t.Size == 0
def fm4 (t : D0) : Bool := bif t.Kind == 4 then true else t.Name == []
def fm5 (t : D0) : Bool := bif t.Kind == 3 then true else ((t.Names).length : Int) == 0
def fm6 (t : D0) : Bool := bif t.Kind == 2 then ((t.Of).length : Int) == 1 else bif t.Kind == 3 then (bif decide (((t.Of).length : Int) ≥ 1) then ((t.Of).length : Int) == ((t.Names).length : Int) else false) else ((t.Of).length : Int) == 0
def nm1 (t : D0) : Bool := bif t.Kind == 2 then A2 t.Size 1 32 else bif t.Kind == 3 then decide (((t.Of).length : Int) ≤ 32) else true
def nm2 (t : D0) : Bool := bif t.Kind == 1 then (bif A2 t.Low (-1048576) 1048576 then A2 t.High t.Low 1048576 else false) else true
def na1 (t : D0) : Bool := bif t.Kind == 4 then Hb t.Name else true
def Ua (t : D0) : Bool := fm1 t && fm2 t && fm3 t && fm4 t && fm5 t && fm6 t
def Up (t : D0) : Bool := nm1 t && nm2 t
def Qo (t : D0) : Bool := na1 t && t.Names.all Hb
theorem Hx (a b c : Bool) : (a || !b || !c) = (a || !(b && c)) := by cases a <;> cases b <;> cases c <;> rfl
def Nt (n d : Int) (f m u : Bool) : Int :=
  bif (bif decide (n > 1024) then true else decide (d > 12)) then 4 else bif f then 1 else bif m then 7 else bif u then 3 else 0
theorem C10 (a b : Int) : decide (a < b) = !decide (a ≥ b) := by
  rw [← decide_not]; exact decide_eq_decide.2 Int.not_le.symm
theorem W12 (a b : Int) : decide (a > b) = !decide (a ≤ b) := by
  rw [← decide_not]; exact decide_eq_decide.2 Int.not_le.symm
def O1h (t : D0) : Bool := bif decide (t.Kind < 0) then true else decide (t.Kind > 4)
def P1h (t : D0) : Bool :=
  bif (bif (bif (bif t.Kind != 1 then (bif t.Low != 0 then true else t.High != 0) else false) then true else (bif t.Kind != 2 then t.Size != 0 else false)) then true else (bif t.Kind != 4 then !(t.Name == []) else false)) then true else
    (bif t.Kind != 3 then ((t.Names).length : Int) != 0 else false)
def Q1h (t : D0) : Bool :=
  bif (bif (bif t.Kind == 2 then ((t.Of).length : Int) != 1 else false) then true else
    (bif t.Kind == 3 then (bif decide (((t.Of).length : Int) < 1) then true else ((t.Of).length : Int) != ((t.Names).length : Int)) else false)) then true else
    (bif (bif t.Kind != 2 then t.Kind != 3 else false) then ((t.Of).length : Int) != 0 else false)
theorem A1t (t : D0) : fm1 t = !O1h t := by
  unfold fm1 O1h
  rw [C10, W12]
  cases decide (t.Kind ≥ 0) <;> cases decide (t.Kind ≤ 4) <;> rfl
theorem B1t (t : D0) : (fm2 t && fm3 t && fm4 t && fm5 t) = !P1h t := by
  unfold fm2 fm3 fm4 fm5 P1h
  simp only [bne]
  generalize (t.Kind == 1) = a
  generalize (t.Kind == 2) = b
  generalize (t.Kind == 3) = c
  generalize (t.Kind == 4) = d
  generalize (t.Low == 0) = e
  generalize (t.High == 0) = f
  generalize (t.Size == 0) = g
  generalize (t.Name == []) = h
  generalize (((t.Names).length : Int) == 0) = i
  cases a <;> cases b <;> cases c <;> cases d <;> cases e <;> cases f <;> cases g <;> cases h <;> cases i <;> rfl
theorem C1t (t : D0) : fm6 t = !Q1h t := by
  have hx : (t.Kind == 2) = true → (t.Kind == 3) = false := fun h => by
    have : t.Kind = 2 := by simpa using h
    rw [this]; rfl
  unfold fm6 Q1h
  rw [C10]
  simp only [bne]
  revert hx
  generalize (t.Kind == 2) = b
  generalize (t.Kind == 3) = c
  generalize (((t.Of).length : Int) == 1) = d
  generalize (((t.Of).length : Int) == 0) = e
  generalize (((t.Of).length : Int) == ((t.Names).length : Int)) = f
  generalize (decide (((t.Of).length : Int) ≥ 1)) = g
  intro hx
  cases b <;> cases c <;> first | (exact absurd (hx rfl) (by decide)) | (cases d <;> cases e <;> cases f <;> cases g <;> rfl)
theorem L1r (t : D0) : Ua t = (!O1h t && !P1h t && !Q1h t) := by
  rw [← A1t, ← B1t, ← C1t]
  unfold Ua
  simp only [Bool.and_assoc]
def Dj (n : Int) : Bool := bif decide (n ≥ -1048576) then decide (n ≤ 1048576) else false
def Xv (t : D0) : Bool :=
  bif (bif (bif t.Kind == 1 then (bif (bif !Dj t.Low then true else !Dj t.High) then true else decide (t.Low > t.High)) else false) then true else
    (bif t.Kind == 2 then (bif decide (t.Size < 1) then true else decide (t.Size > 32)) else false)) then true else decide (((t.Of).length : Int) > 32)
theorem R1h (t : D0) (hf : Ua t = true) : Up t = !Xv t := by
  have hk1 : (t.Kind == 1) = true → (t.Kind == 2) = false ∧ (t.Kind == 3) = false := fun h => by
    have : t.Kind = 1 := by simpa using h
    rw [this]; exact ⟨rfl, rfl⟩
  have hk2 : (t.Kind == 2) = true → (t.Kind == 3) = false := fun h => by
    have : t.Kind = 2 := by simpa using h
    rw [this]; rfl
  have h6 : fm6 t = true := by
    unfold Ua at hf
    simp only [Bool.and_eq_true] at hf
    exact hf.2
  have hin : (bif A2 t.Low (-1048576) 1048576 then A2 t.High t.Low 1048576 else false) = !(bif (bif !Dj t.Low then true else !Dj t.High) then true else decide (t.Low > t.High)) := by
    unfold A2 Dj
    by_cases a1 : t.Low ≥ -1048576 <;> by_cases a2 : t.Low ≤ 1048576 <;> by_cases a3 : t.High ≥ -1048576 <;> by_cases a4 : t.High ≤ 1048576 <;> by_cases a5 : t.High ≥ t.Low <;>
      simp [a1, a2, a3, a4, a5] <;> omega
  have hsz : A2 t.Size 1 32 = !(bif decide (t.Size < 1) then true else decide (t.Size > 32)) := by
    unfold A2
    rw [C10, W12]
    cases decide (t.Size ≥ 1) <;> cases decide (t.Size ≤ 32) <;> rfl
  unfold Up Xv nm1 nm2
  rw [hin, hsz, W12 (((t.Of).length : Int))]
  have hl : (t.Kind == 3) = false → decide (((t.Of).length : Int) ≤ 32) = true := fun h3 => by
    unfold fm6 at h6
    rw [h3] at h6
    cases h2 : t.Kind == 2 with
    | true =>
      rw [h2] at h6
      have : ((t.Of).length : Int) = 1 := by simpa using h6
      exact decide_eq_true (by omega)
    | false =>
      rw [h2] at h6
      have : ((t.Of).length : Int) = 0 := by simpa using h6
      exact decide_eq_true (by omega)
  revert hk1 hk2 hl
  generalize (bif (bif !Dj t.Low then true else !Dj t.High) then true else decide (t.Low > t.High)) = X
  generalize (bif decide (t.Size < 1) then true else decide (t.Size > 32)) = Y
  generalize decide (((t.Of).length : Int) ≤ 32) = Z
  generalize (t.Kind == 1) = a
  generalize (t.Kind == 2) = b
  generalize (t.Kind == 3) = c
  intro hk1 hk2 hl
  cases a <;> cases b <;> cases c <;> first | exact absurd (hk1 rfl).1 (by decide) | exact absurd (hk1 rfl).2 (by decide) | exact absurd (hk2 rfl) (by decide) | (cases X <;> cases Y <;> cases Z <;> first | rfl | exact absurd (hl rfl) (by decide))
theorem Z1j (t : D0) : t.all Ua = true → t.all Up = t.all fun t => !Xv t := by
  induction t using D0.ind with
  | h t ih =>
  intro hf
  rw [D0.all_eq, Bool.and_eq_true] at hf
  rw [D0.all_eq, D0.all_eq, R1h t hf.1]
  congr 1
  have : ∀ l : List D0, (∀ x ∈ l, x.all Ua = true → x.all Up = x.all fun t => !Xv t) → D0.alls Ua l = true → D0.alls Up l = D0.alls (fun t => !Xv t) l := by
    intro l
    induction l with
    | nil => intros; rfl
    | cons x r ihr =>
      intro h1 h2
      simp only [D0.alls, Bool.and_eq_true] at h2
      simp only [D0.alls]
      rw [h1 x List.mem_cons_self h2.1, ihr (fun y hy => h1 y (List.mem_cons_of_mem _ hy)) h2.2]
  exact this t.Of ih hf.2
theorem D0.alls_mem {p : D0 → Bool} : ∀ {l : List D0} {t : D0}, D0.alls p l = true → t ∈ l → t.all p = true
  | x :: r, t, h, hm => by
    simp only [D0.alls, Bool.and_eq_true] at h
    cases hm with
    | head => exact h.1
    | tail _ hm => exact D0.alls_mem h.2 hm
structure M1r (t : D0) : Prop where
  form : t.all Ua = true
  num : t.all Up = true
theorem M1r.kid {t x : D0} (h : M1r t) (hx : x ∈ t.Of) : M1r x := by
  have h1 := h.form
  have h2 := h.num
  rw [D0.all_eq, Bool.and_eq_true] at h1 h2
  exact ⟨D0.alls_mem h1.2 hx, D0.alls_mem h2.2 hx⟩
mutual
def D0.some (p : D0 → Bool) : D0 → Bool
  | .mk k l h s n ns of => p (.mk k l h s n ns of) || D0.somes p of
def D0.somes (p : D0 → Bool) : List D0 → Bool
  | [] => false
  | t :: r => D0.some p t || D0.somes p r
end
def eqL {α : Type} (p : α → α → Bool) : List α → List α → Bool
  | [], [] => true
  | x :: r, y :: s => p x y && eqL p r s
  | _, _ => false
theorem Yv {α : Type} (p : α → α → Bool) : ∀ {l m : List α}, l.length ≠ m.length → eqL p l m = false
  | [], [], h => absurd rfl h
  | [], _ :: _, _ => rfl
  | _ :: _, [], _ => rfl
  | x :: r, y :: s, h => by rw [eqL, Yv p (l := r) (m := s) (by simpa using h), Bool.and_false]
mutual
def D0.same : D0 → D0 → Bool
  | .mk k l h s n ns of, t => k == t.Kind && l == t.Low && h == t.High && s == t.Size && n == t.Name && eqL (fun x y => x == y) ns t.Names && D0.sames of t.Of
def D0.sames : List D0 → List D0 → Bool
  | [], [] => true
  | x :: r, y :: s => D0.same x y && D0.sames r s
  | [], _ :: _ => false
  | _ :: _, [] => false
end
theorem D0.sames_eq : ∀ l m : List D0, D0.sames l m = eqL D0.same l m
  | [], [] => rfl
  | x :: r, y :: s => by simp only [D0.sames, eqL, D0.sames_eq r s]
  | [], _ :: _ => rfl
  | _ :: _, [] => rfl
theorem D0.same_eq (t u : D0) : t.same u = (t.Kind == u.Kind && t.Low == u.Low && t.High == u.High && t.Size == u.Size && t.Name == u.Name && eqL (fun x y => x == y) t.Names u.Names && eqL D0.same t.Of u.Of) := by
  rw [← D0.sames_eq]
  cases t
  rfl
def Z1b (t u : D0) : Bool :=
  bif (bif (bif (bif (bif (bif t.Kind != u.Kind then true else t.Low != u.Low) then true else t.High != u.High) then true else t.Size != u.Size) then true else !(t.Name == u.Name)) then true else
    ((t.Names).length : Int) != ((u.Names).length : Int)) then true else ((t.Of).length : Int) != ((u.Of).length : Int)
theorem C1p {t u : D0} (h : Z1b t u = true) : t.same u = false := by
  have hn : ((t.Names).length : Int) ≠ ((u.Names).length : Int) → eqL (fun x y => x == y) t.Names u.Names = false := fun h => Yv _ fun e => h (by omega)
  have ho : ((t.Of).length : Int) ≠ ((u.Of).length : Int) → eqL D0.same t.Of u.Of = false := fun h => Yv _ fun e => h (by omega)
  unfold Z1b at h
  rw [D0.same_eq]
  by_cases h1 : ((t.Names).length : Int) = ((u.Names).length : Int)
  · by_cases h2 : ((t.Of).length : Int) = ((u.Of).length : Int)
    · rw [h1, h2] at h
      revert h
      simp only [bne, beq_self_eq_true, Bool.not_true]
      cases t.Kind == u.Kind <;> cases t.Low == u.Low <;> cases t.High == u.High <;> cases t.Size == u.Size <;> cases t.Name == u.Name <;> simp
    · rw [ho h2, Bool.and_false]
  · rw [hn h1, Bool.and_false, Bool.false_and]
theorem N1r {t u : D0} (h : Z1b t u = false) : t.same u = (eqL (fun x y => x == y) t.Names u.Names && eqL D0.same t.Of u.Of) ∧ t.Names.length = u.Names.length ∧ t.Of.length = u.Of.length := by
  unfold Z1b at h
  simp only [bne] at h
  have key : t.Kind == u.Kind ∧ t.Low == u.Low ∧ t.High == u.High ∧ t.Size == u.Size ∧ t.Name == u.Name ∧ ((t.Names).length : Int) == ((u.Names).length : Int) ∧ ((t.Of).length : Int) == ((u.Of).length : Int) := by
    revert h
    cases t.Kind == u.Kind <;> cases t.Low == u.Low <;> cases t.High == u.High <;> cases t.Size == u.Size <;> cases t.Name == u.Name <;> cases ((t.Names).length : Int) == ((u.Names).length : Int) <;> cases ((t.Of).length : Int) == ((u.Of).length : Int) <;> simp
  obtain ⟨k1, k2, k3, k4, k5, k6, k7⟩ := key
  refine ⟨by rw [D0.same_eq, k1, k2, k3, k4, k5]; rfl, ?_, ?_⟩
  · have : (t.Names.length : Int) = u.Names.length := by simpa using k6
    omega
  · have : (t.Of.length : Int) = u.Of.length := by simpa using k7
    omega
mutual
def D0.left : D0 → Int → Int
  | .mk _ _ _ _ _ ns of, n => D0.lefts of (n - (1 + min (ns.length : Int) (n + 1)))
def D0.lefts : List D0 → Int → Int
  | [], n => n
  | t :: r, n => bif decide (n ≥ 0) then D0.lefts r (D0.left t n) else n
end
end Go.Proofs.YtmilgoloagbmpaaGreatDoor

set_option linter.unusedSimpArgs false
namespace Go.Proofs.YtmilgoloagbmpaaGreatDoor
open Go.Am
mutual
def D0.bulk : D0 → Nat
  | .mk _ _ _ _ n ns of => 1 + (1 + (1 + (1 + ((n.length + 1) + (((ns.map fun s => s.length + 1).sum + 1) + ((D0.bulks of + 1) + 0)))))) + 1
def D0.bulks : List D0 → Nat
  | [] => 0
  | x :: r => D0.bulk x + D0.bulks r
end
theorem D0.bulk_eq (t : D0) : t.bulk = t.Name.length + (t.Names.map fun s => s.length + 1).sum + D0.bulks t.Of + 8 := by cases t; simp only [D0.bulk]; omega
theorem D0.bulk_kid {t : D0} : ∀ {l : List D0}, t ∈ l → t.bulk ≤ D0.bulks l
  | x :: r, h => by
    simp only [D0.bulks]
    cases h with
    | head => omega
    | tail _ h => have := D0.bulk_kid h; omega
theorem D0.bulk_len : ∀ l : List D0, l.length ≤ D0.bulks l
  | [] => Nat.le_refl _
  | x :: r => by
    simp only [D0.bulks, List.length_cons]
    have := D0.bulk_len r
    have := D0.bulk_eq x
    omega
theorem S1h {s : Str} : ∀ {l : List Str}, s ∈ l → s.length + 1 ≤ (l.map fun s => s.length + 1).sum
  | x :: r, h => by
    simp only [List.map_cons, List.sum_cons]
    cases h with
    | head => omega
    | tail _ h => have := S1h h; omega
theorem T1h : ∀ l : List Str, l.length ≤ (l.map fun s => s.length + 1).sum
  | [] => Nat.le_refl _
  | x :: r => by simp only [List.map_cons, List.sum_cons, List.length_cons]; have := T1h r; omega
mutual
theorem D0.nodes_bulk : ∀ t : D0, t.nodes ≤ t.bulk
  | .mk _ _ _ _ _ _ of => by simp only [D0.nodes, D0.bulk]; have := D0.nodess_bulk of; omega
theorem D0.nodess_bulk : ∀ l : List D0, D0.nodess l ≤ D0.bulks l
  | [] => Nat.le_refl _
  | x :: r => by simp only [D0.nodess, D0.bulks]; have := D0.nodes_bulk x; have := D0.nodess_bulk r; omega
end
def Ok (t : D0) : Prop := t.bulk ≤ BB
theorem Ok.kid {t x : D0} (h : Ok t) (hx : x ∈ t.Of) : Ok x := by
  unfold Ok at *
  have := D0.bulk_kid hx
  have := D0.bulk_eq t
  omega
theorem Ok.ofs {t : D0} (h : Ok t) : t.Of.length ≤ BB := by
  unfold Ok at *
  have := D0.bulk_len t.Of
  have := D0.bulk_eq t
  omega
theorem Ok.names {t : D0} (h : Ok t) : t.Names.length ≤ BB := by
  unfold Ok at *
  have := T1h t.Names
  have := D0.bulk_eq t
  omega
theorem Ok.name1 {t : D0} (h : Ok t) {s : Str} (hs : s ∈ t.Names) : s.length ≤ BB := by
  unfold Ok at *
  have := S1h hs
  have := D0.bulk_eq t
  omega
theorem Ok.name {t : D0} (h : Ok t) : t.Name.length ≤ BB := by
  unfold Ok at *
  have := D0.bulk_eq t
  omega
theorem Ok.nodes {t : D0} (h : Ok t) : t.nodes ≤ BB := Nat.le_trans (D0.nodes_bulk t) h
theorem bor (a b : Bool) : (bif a then true else b) = (a || b) := by cases a <;> rfl
theorem M18 (d : Int) (o : C0) : B6 d o = some ⟨o.nodes, max o.depth d, o.badForm, o.badName, o.badNumber⟩ := rfl
theorem N18 (b : Bool) (o : C0) : W0 b o = some ⟨o.nodes, o.depth, o.badForm || !b, o.badName, o.badNumber⟩ := by unfold W0; rw [bor]
theorem Ly (b : Bool) (o : C0) : O1 b o = some ⟨o.nodes, o.depth, o.badForm, o.badName, o.badNumber || !b⟩ := by unfold O1; rw [bor]
theorem Zm (a b c : Int) : I3 a b c = some (A2 a b c) := rfl
theorem X12 (s : Str) (hs : s.length ≤ BB) (o : C0) : T3 s o = some ⟨o.nodes, o.depth, o.badForm, o.badName || !Hb s, o.badNumber⟩ := by
  unfold T3
  rw [B1p s hs]
  cases h : o.badName <;> simp
theorem O1r (o : C0) : H5 o = some (Nt o.nodes o.depth o.badForm o.badName o.badNumber) := by
  unfold H5 Nt
  cases (bif decide (o.nodes > 1024) then true else decide (o.depth > 12)) <;> cases o.badForm <;> cases o.badName <;> cases o.badNumber <;> rfl
def Qi (o : C0) (d : Int) (n m : Nat) (f a u : Bool) : C0 := ⟨o.nodes + n, max o.depth (d + m), o.badForm || !f, o.badName || !a, o.badNumber || !u⟩
theorem D1p (t : D0) (d : Int) (hd : 0 ≤ d) (ht : Ok t)
    (ih : ∀ x ∈ t.Of, ∀ (d : Int) (o : C0), 0 ≤ d → d + x.nodes ≤ 4 * BB → 0 ≤ o.nodes → o.nodes + x.nodes ≤ 4 * BB → D4 x d o = some (Qi o d x.nodes (x.depth - 1) (x.all Ua) (x.all Qo) (x.all Up))) :
    ∀ (r : List D0) (k : Nat) (o : C0), t.Of.drop k = r → (∀ x ∈ r, x ∈ t.Of) → d + 1 + D0.nodess r ≤ 4 * BB → 0 ≤ o.nodes → o.nodes + D0.nodess r ≤ 4 * BB → d ≤ o.depth →
      P3 t d o k = some (Qi o d (D0.nodess r) (D0.depths r) (D0.alls Ua r) (D0.alls Qo r) (D0.alls Up r))
  | [], k, o, h, _, _, _, _, h5 => by
    rw [P3, (K1 h).1]
    simp only [Qi, D0.nodess, D0.depths, D0.alls, Bool.not_true, Bool.or_false]
    rw [if_neg (by simp), show o.nodes + ((0 : Nat) : Int) = o.nodes by omega, show max o.depth (d + ((0 : Nat) : Int)) = o.depth by omega]
  | x :: r, k, o, h, hm, hb, h3, h4, h5 => by
    obtain ⟨e1, e2, e3, e4, e5⟩ := W1 h
    simp only [D0.nodess] at hb h4
    have hdp : 1 ≤ x.depth := by rw [D0.depth_eq]; omega
    have hof := ht.ofs
    unfold BB at hb h4 hof
    rw [P3, e1, if_pos rfl, e2, ob, wr (n := d + 1) (by omega) (by omega), ih x e5 (d + 1) o (by omega) (by unfold BB; omega) h3 (by unfold BB; omega), ob, w1 (by unfold BB; omega),
      D1p t d hd ht ih r (k + 1) _ e3 (fun y hy => hm y (List.mem_cons_of_mem _ hy)) (by unfold BB; omega) (by simp only [Qi]; omega) (by simp only [Qi]; unfold BB; omega) (by simp only [Qi]; omega)]
    simp only [Qi, D0.nodess, D0.depths, D0.alls, Hx]
    rw [show o.nodes + (x.nodes : Int) + (D0.nodess r : Nat) = o.nodes + ((x.nodes + D0.nodess r : Nat) : Int) by omega,
      show max (max o.depth (d + 1 + ((x.depth - 1 : Nat) : Int))) (d + (D0.depths r : Nat)) = max o.depth (d + ((max x.depth (D0.depths r) : Nat) : Int)) by omega]
theorem E1p (t : D0) (d : Int) (ht : Ok t) (R : C0 → Option C0) (hR : ∀ o, P3 t d o 0 = R o) :
    ∀ (r : List Str) (k : Nat) (o : C0), t.Names.drop k = r → Z2 t d o k = R ⟨o.nodes, o.depth, o.badForm, o.badName || !r.all Hb, o.badNumber⟩
  | [], k, o, h => by
    rw [Z2, (K1 h).1, if_neg (by simp), hR]
    simp
  | x :: r, k, o, h => by
    obtain ⟨e1, e2, e3, e4, e5⟩ := W1 h
    have := ht.names
    rw [Z2, e1, if_pos rfl, e2, ob, X12 x (ht.name1 e5), ob, w1 (by omega), E1p t d ht R hR r (k + 1) _ e3]
    simp only [List.all_cons, Hx]
theorem U1t (t : D0) (d : Int) (ht : Ok t) (o : C0) : I4 t d o = Z2 t d ⟨o.nodes, o.depth, o.badForm, o.badName || !na1 t, o.badNumber⟩ 0 := by
  rw [I4, X12 _ ht.name, ob, F5, F5]
  unfold na1
  cases h : t.Kind == 4 <;> simp
theorem V1t (t : D0) (d : Int) (o : C0) : H4 t d o = I4 t d ⟨o.nodes, o.depth, o.badForm, o.badName, o.badNumber || !nm2 t⟩ := by
  rw [H4]
  unfold nm2
  simp only [Zm, Ly, ob]
  cases h : t.Kind == 1 <;> cases A2 t.Low (-1048576) 1048576 <;> simp [ob]
theorem W1t (t : D0) : Ok t → ∀ (d : Int) (o : C0), 0 ≤ d → d + t.nodes ≤ 4 * BB → 0 ≤ o.nodes → o.nodes + t.nodes ≤ 4 * BB →
    D4 t d o = some (Qi o d t.nodes (t.depth - 1) (t.all Ua) (t.all Qo) (t.all Up)) := by
  induction t using D0.ind with
  | h t ih =>
  intro ht d o hd hb h3 h4
  have h5 := fun o h3 h4 hd' => D1p t d hd ht (fun x hx => ih x hx (ht.kid hx)) t.Of 0 o rfl (fun _ h => h) (by rw [D0.nodes_eq] at hb; omega) h3 h4 hd'
  have l4 := E1p t d ht _ (fun o => rfl) t.Names 0
  rw [D0.nodes_eq] at hb h4
  unfold BB at hb h4
  rw [D4]
  simp only [M18, N18, Zm, Ly, ob, V1t, U1t t d ht]
  rw [wr (n := o.nodes + 1) (by omega) (by omega)]
  have fin : ∀ b6 u1, fm6 t = b6 → nm1 t = u1 →
      Z2 t d ⟨o.nodes + 1, max o.depth d, (((((o.badForm || !fm1 t) || !fm2 t) || !fm3 t) || !fm4 t) || !fm5 t) || !b6, o.badName || !na1 t, (o.badNumber || !u1) || !nm2 t⟩ 0
        = some (Qi o d t.nodes (t.depth - 1) (t.all Ua) (t.all Qo) (t.all Up)) := by
    rintro _ _ rfl rfl
    have := l4 ⟨o.nodes + 1, max o.depth d, (((((o.badForm || !fm1 t) || !fm2 t) || !fm3 t) || !fm4 t) || !fm5 t) || !fm6 t, o.badName || !na1 t, (o.badNumber || !nm1 t) || !nm2 t⟩ rfl
    rw [show ((0 : Nat) : Int) = 0 from rfl] at this h5
    rw [this, h5 _ (by simp only; omega) (by simp only; unfold BB; omega) (by simp only; omega)]
    simp only [Qi, D0.all_eq, D0.nodes_eq, D0.depth_eq, Ua, Qo, Up, Hx, Bool.or_assoc, ← Bool.not_and]
    simp only [Hx, Bool.and_assoc]
    rw [show o.nodes + 1 + (D0.nodess t.Of : Int) = o.nodes + ((D0.nodess t.Of + 1 : Nat) : Int) by omega, show max (max o.depth d) (d + (D0.depths t.Of : Int)) = max o.depth (d + ((D0.depths t.Of + 1 - 1 : Nat) : Int)) by omega]
  have h2 : (t.Kind == 2) = true ∨ (t.Kind == 2) = false := by cases t.Kind == 2 <;> simp
  have h3 : (t.Kind == 3) = true ∨ (t.Kind == 3) = false := by cases t.Kind == 3 <;> simp
  rcases h2 with h2 | h2
  · rw [if_pos h2]
    exact fin ((t.Of.length : Int) == 1) (A2 t.Size 1 32) (by unfold fm6; rw [h2, cond_true]) (by unfold nm1; rw [h2, cond_true])
  · rw [if_neg (by rw [h2]; simp)]
    rcases h3 with h3 | h3
    · rw [if_pos h3]
      exact fin (bif decide ((t.Of.length : Int) ≥ 1) then (t.Of.length : Int) == (t.Names.length : Int) else false) (decide ((t.Of.length : Int) ≤ 32)) (by unfold fm6; rw [h2, h3, cond_false, cond_true]) (by unfold nm1; rw [h2, h3, cond_false, cond_true])
    · rw [if_neg (by rw [h3]; simp)]
      have := fin ((t.Of.length : Int) == 0) true (by unfold fm6; rw [h2, h3, cond_false, cond_false]) (by unfold nm1; rw [h2, h3, cond_false, cond_false])
      rw [Bool.not_true, Bool.or_false] at this
      exact this
end Go.Proofs.YtmilgoloagbmpaaGreatDoor

set_option linter.unusedSimpArgs false
namespace Go.Proofs.YtmilgoloagbmpaaGreatDoor
open Go.Am
theorem U1h (t : D0) (ht : Ok t) (ih : ∀ x ∈ t.Of, Xb x = some (x.nodes : Int)) :
    ∀ (r : List D0) (k : Nat) (n : Nat), t.Of.drop k = r → n + D0.nodess r ≤ BB → N9 t (n : Int) k = some ((n + D0.nodess r : Nat) : Int)
  | [], k, n, h, hb => by rw [N9, (K1 h).1, if_neg (by simp)]; simp [D0.nodess]
  | x :: r, k, n, h, hb => by
    obtain ⟨e1, e2, e3, e4, e5⟩ := W1 h
    have := ht.ofs
    simp only [D0.nodess] at hb
    have hb' := hb
    unfold BB at hb'
    rw [N9, e1, if_pos rfl, e2, ob, ih x e5, ob, wr (n := (n : Int) + _) (by omega) (by omega), w1 (by omega), show (n : Int) + (x.nodes : Int) = ((n + x.nodes : Nat) : Int) by omega, U1h t ht ih r (k + 1) _ e3 (by omega)]
    simp only [D0.nodess, Nat.add_assoc]
theorem F1p (t : D0) : Ok t → Xb t = some (t.nodes : Int) := by
  induction t using D0.ind with
  | h t ih =>
  intro ht
  have hn := ht.nodes
  rw [D0.nodes_eq] at hn
  rw [Xb]
  have := U1h t ht (fun x hx => ih x hx (ht.kid hx)) t.Of 0 1 rfl (by omega)
  rw [D0.nodes_eq, Nat.add_comm]
  exact this
theorem O18 (t : D0) (ht : Ok t) (ih : ∀ x ∈ t.Of, Yb x = some (x.depth : Int)) (B : Nat) (hB : B ≤ BB) :
    ∀ (r : List D0) (k : Nat) (n : Nat), t.Of.drop k = r → n ≤ B → D0.depths r ≤ B → M7 t (n : Int) k = some ((max n (D0.depths r) + 1 : Nat) : Int)
  | [], k, n, h, hb, _ => by
    rw [M7, (K1 h).1, if_neg (by simp), w1 (by omega)]
    simp [D0.depths]
  | x :: r, k, n, h, hb, hd => by
    obtain ⟨e1, e2, e3, e4, e5⟩ := W1 h
    have := ht.ofs
    simp only [D0.depths] at hd
    rw [M7, e1, if_pos rfl, e2, ob, ih x e5, ob, w1 (by omega), O18 t ht ih B hB r (k + 1) _ e3 (by omega) (by omega), O18 t ht ih B hB r (k + 1) _ e3 (by omega) (by omega)]
    simp only [D0.depths]
    by_cases hx : (x.depth : Int) > (n : Int)
    · rw [if_pos (decide_eq_true hx), show max n (max x.depth (D0.depths r)) = max x.depth (D0.depths r) by omega]
    · rw [if_neg (by simpa using hx), show max n (max x.depth (D0.depths r)) = max n (D0.depths r) by omega]
theorem G1p (t : D0) : Ok t → Yb t = some (t.depth : Int) := by
  induction t using D0.ind with
  | h t ih =>
  intro ht
  have hn := ht.nodes
  have hd := D0.depth_nodes t
  rw [Yb]
  rw [D0.depth_eq] at hd
  have := O18 t ht (fun x hx => ih x hx (ht.kid hx)) BB (Nat.le_refl _) t.Of 0 0 rfl (by omega) (by omega)
  rw [D0.depth_eq]
  rw [show max 0 (D0.depths t.Of) = D0.depths t.Of by omega] at this
  exact this
theorem I1l (t : D0) (ht : Ok t) (ih : ∀ x ∈ t.Of, Cd x = some (x.all Ua)) : ∀ (r : List D0) (k : Nat), t.Of.drop k = r → Nb t k = some (D0.alls Ua r)
  | [], k, h => by rw [Nb, (K1 h).1, if_neg (by simp)]; rfl
  | x :: r, k, h => by
    obtain ⟨e1, e2, e3, e4, e5⟩ := W1 h
    have := ht.ofs
    rw [Nb, e1, if_pos rfl, e2, ob, ih x e5, ob, w1 (by omega), I1l t ht ih r (k + 1) e3, D0.alls]
    cases x.all Ua <;> simp
theorem P1r (t : D0) : Ok t → Cd t = some (t.all Ua) := by
  induction t using D0.ind with
  | h t ih =>
  intro ht
  have h1 := I1l t ht (fun x hx => ih x hx (ht.kid hx)) t.Of 0 rfl
  rw [show ((0 : Nat) : Int) = 0 from rfl] at h1
  rw [Cd, h1, D0.all_eq, L1r]
  show (if O1h t = true then some false else if P1h t = true then some false else if Q1h t = true then some false else some (D0.alls Ua t.Of)) = _
  cases O1h t <;> cases P1h t <;> cases Q1h t <;> simp
theorem O1c (t : D0) (ht : Ok t) (ih : ∀ x ∈ t.Of, Dc x = some (x.all Qo)) : ∀ (r : List D0) (k : Nat), t.Of.drop k = r → O7 t k = some (D0.alls Qo r)
  | [], k, h => by rw [O7, (K1 h).1, if_neg (by simp)]; rfl
  | x :: r, k, h => by
    obtain ⟨e1, e2, e3, e4, e5⟩ := W1 h
    have := ht.ofs
    rw [O7, e1, if_pos rfl, e2, ob, ih x e5, ob, w1 (by omega), O1c t ht ih r (k + 1) e3, D0.alls]
    cases x.all Qo <;> simp
theorem P1c (t : D0) (ht : Ok t) (b : Bool) (hb : O7 t 0 = some b) : ∀ (r : List Str) (k : Nat), t.Names.drop k = r → S9 t k = some (r.all Hb && b)
  | [], k, h => by rw [S9, (K1 h).1, if_neg (by simp), hb]; rfl
  | x :: r, k, h => by
    obtain ⟨e1, e2, e3, e4, e5⟩ := W1 h
    have := ht.names
    rw [S9, e1, if_pos rfl, e2, ob, Tp x (ht.name1 e5), ob, w1 (by omega), P1c t ht b hb r (k + 1) e3, List.all_cons]
    cases Hb x <;> simp
theorem H1p (t : D0) : Ok t → Dc t = some (t.all Qo) := by
  induction t using D0.ind with
  | h t ih =>
  intro ht
  have h2 := O1c t ht (fun x hx => ih x hx (ht.kid hx)) t.Of 0 rfl
  have h1 := P1c t ht _ h2 t.Names 0 rfl
  rw [show ((0 : Nat) : Int) = 0 from rfl] at h1
  rw [Dc, h1, D0.all_eq, Tp t.Name ht.name]
  unfold Qo na1
  cases t.Kind == 4 <;> cases Hb t.Name <;> simp
theorem L1a (t : D0) (ht : Ok t) (ih : ∀ x ∈ t.Of, R8 x = some (x.all fun t => !Xv t)) : ∀ (r : List D0) (k : Nat), t.Of.drop k = r → V7 t k = some (D0.alls (fun t => !Xv t) r)
  | [], k, h => by rw [V7, (K1 h).1, if_neg (by simp)]; rfl
  | x :: r, k, h => by
    obtain ⟨e1, e2, e3, e4, e5⟩ := W1 h
    have := ht.ofs
    rw [V7, e1, if_pos rfl, e2, ob, ih x e5, ob, w1 (by omega), L1a t ht ih r (k + 1) e3, D0.alls]
    cases x.all (fun t => !Xv t) <;> simp
theorem D10 (n : Int) : Jf n = some (Dj n) := rfl
theorem A1k (t : D0) : Ok t → R8 t = some (t.all fun t => !Xv t) := by
  induction t using D0.ind with
  | h t ih =>
  intro ht
  have h1 := L1a t ht (fun x hx => ih x hx (ht.kid hx)) t.Of 0 rfl
  rw [show ((0 : Nat) : Int) = 0 from rfl] at h1
  rw [R8, h1, D0.all_eq]
  simp only [D10]
  generalize D0.alls (fun t => !Xv t) t.Of = A
  unfold Xv
  generalize decide ((t.Of.length : Int) > 32) = b1
  generalize (bif t.Kind == 2 then (bif decide (t.Size < 1) then true else decide (t.Size > 32)) else false) = b2
  generalize decide (t.Low > t.High) = b3
  cases t.Kind == 1 <;> cases Dj t.Low <;> cases Dj t.High <;> cases b1 <;> cases b2 <;> cases b3 <;> rfl
theorem B1k (s : I0) (f m u : Bool) : Fn s f m u = some (Nt s.nodes s.depth (!f) (!m) (!u)) := by
  unfold Fn Nt
  cases (bif decide (s.nodes > 1024) then true else decide (s.depth > 12)) <;> cases f <;> cases m <;> cases u <;> rfl
end Go.Proofs.YtmilgoloagbmpaaGreatDoor

set_option linter.unusedSimpArgs false
set_option linter.unusedVariables false
namespace Go.Proofs.YtmilgoloagbmpaaGreatDoor
open Go.Am
theorem A0.ind {P : A0 → Prop} (h : ∀ t : A0, (∀ x ∈ t.Kids, P x) → P t) : ∀ t, P t := by
  intro t
  refine A0.rec (motive_1 := P) (motive_2 := fun l => ∀ x ∈ l, P x) ?_ ?_ ?_ t
  · intro k l n of ih
    exact h _ ih
  · intro x hx; cases hx
  · intro x r hx hr y hy
    cases hy with
    | head => exact hx
    | tail _ hy => exact hr y hy
mutual
def A0.depth : A0 → Nat
  | .mk _ _ _ of => A0.depths of + 1
def A0.depths : List A0 → Nat
  | [] => 0
  | t :: r => max (A0.depth t) (A0.depths r)
end
theorem A0.depth_eq (t : A0) : t.depth = A0.depths t.Kids + 1 := by cases t; simp [A0.depth, A0.Kids]
mutual
def A0.all (p : A0 → Bool) : A0 → Bool
  | .mk k l n of => p (.mk k l n of) && A0.alls p of
def A0.alls (p : A0 → Bool) : List A0 → Bool
  | [] => true
  | t :: r => A0.all p t && A0.alls p r
end
theorem A0.all_eq (p : A0 → Bool) (t : A0) : t.all p = (p t && A0.alls p t.Kids) := by cases t; rfl
mutual
def A0.nodes : A0 → Nat
  | .mk _ _ _ of => A0.nodess of + 1
def A0.nodess : List A0 → Nat
  | [] => 0
  | t :: r => A0.nodes t + A0.nodess r
end
theorem A0.nodes_eq (t : A0) : t.nodes = A0.nodess t.Kids + 1 := by cases t; rfl
mutual
theorem A0.depth_nodes : ∀ t : A0, t.depth ≤ t.nodes
  | .mk _ _ _ of => by simp only [A0.depth, A0.nodes]; have := A0.depths_nodess of; omega
theorem A0.depths_nodess : ∀ l : List A0, A0.depths l ≤ A0.nodess l
  | [] => Nat.le_refl _
  | t :: r => by simp only [A0.depths, A0.nodess]; have := A0.depth_nodes t; have := A0.depths_nodess r; omega
end
mutual
def A0.bulk : A0 → Nat
  | .mk _ _ n ks => 1 + (1 + ((n.length + 1) + ((A0.bulks ks + 1) + 0))) + 1
def A0.bulks : List A0 → Nat
  | [] => 0
  | x :: r => A0.bulk x + A0.bulks r
end
theorem A0.bulk_eq (t : A0) : t.bulk = t.Name.length + A0.bulks t.Kids + 5 := by cases t; simp only [A0.bulk]; omega
theorem A0.bulk_kid {t : A0} : ∀ {l : List A0}, t ∈ l → t.bulk ≤ A0.bulks l
  | x :: r, h => by
    simp only [A0.bulks]
    cases h with
    | head => omega
    | tail _ h => have := A0.bulk_kid h; omega
theorem A0.bulk_len : ∀ l : List A0, l.length ≤ A0.bulks l
  | [] => Nat.le_refl _
  | x :: r => by
    simp only [A0.bulks, List.length_cons]
    have := A0.bulk_len r
    have := A0.bulk_eq x
    omega
mutual
theorem A0.nodes_bulk : ∀ t : A0, t.nodes ≤ t.bulk
  | .mk _ _ _ of => by simp only [A0.nodes, A0.bulk]; have := A0.nodess_bulk of; omega
theorem A0.nodess_bulk : ∀ l : List A0, A0.nodess l ≤ A0.bulks l
  | [] => Nat.le_refl _
  | x :: r => by simp only [A0.nodess, A0.bulks]; have := A0.nodes_bulk x; have := A0.nodess_bulk r; omega
end
def OkE (t : A0) : Prop := t.bulk ≤ BB
theorem OkE.kid {t x : A0} (h : OkE t) (hx : x ∈ t.Kids) : OkE x := by
  unfold OkE at *
  have := A0.bulk_kid hx
  have := A0.bulk_eq t
  omega
theorem OkE.kids {t : A0} (h : OkE t) : t.Kids.length ≤ BB := by
  unfold OkE at *
  have := A0.bulk_len t.Kids
  have := A0.bulk_eq t
  omega
theorem OkE.name {t : A0} (h : OkE t) : t.Name.length ≤ BB := by
  unfold OkE at *
  have := A0.bulk_eq t
  omega
theorem OkE.nodes {t : A0} (h : OkE t) : t.nodes ≤ BB := Nat.le_trans (A0.nodes_bulk t) h
theorem A0.alls_mem {p : A0 → Bool} : ∀ {l : List A0} {t : A0}, A0.alls p l = true → t ∈ l → t.all p = true
  | x :: r, t, h, hm => by
    simp only [A0.alls, Bool.and_eq_true] at h
    cases hm with
    | head => exact h.1
    | tail _ hm => exact A0.alls_mem h.2 hm
def ar (o : Int) : Int :=
  bif (bif (bif (bif (o == 0) then true else (o == 1)) then true else (o == 2)) then true else (o == 3)) then 0
  else bif (bif (bif (o == 4) then true else (o == 6)) then true else (o == 7)) then 1
  else bif (bif (o == 5) then true else (bif (decide (o ≥ 8)) then (decide (o ≤ 22)) else false)) then 2
  else bif (o == 23) then 3 else -1
theorem D1t (o : Int) : Ut o = some (ar o) := by
  unfold Ut ar
  cases (bif (bif (bif (o == 0) then true else (o == 1)) then true else (o == 2)) then true else (o == 3)) <;> cases (bif (bif (o == 4) then true else (o == 6)) then true else (o == 7)) <;>
    cases (bif (o == 5) then true else (bif (decide (o ≥ 8)) then (decide (o ≤ 22)) else false)) <;> cases o == 23 <;> rfl
theorem Q1r (o : Int) : Hh o = some (ar o) := by
  by_cases h : o = 23
  · subst h; rfl
  have h' : (o == 23) = false := beq_eq_false_iff_ne.2 h
  simp only [Hh, B9, Tb, ar, h']
  cases o == 0 <;> cases o == 1 <;> cases o == 2 <;> cases o == 3 <;> first | rfl | skip
  cases o == 4 <;> cases o == 6 <;> cases o == 7 <;> first | rfl | skip
  cases o == 5 <;> cases (bif decide (o ≥ 8) then decide (o ≤ 22) else false) <;> rfl
mutual
def A0.place : A0 → Bool
  | .mk op _ _ ks => bif op == 3 then true else bif (bif op == 4 then true else op == 5) then A0.place1 ks else false
def A0.place1 : List A0 → Bool
  | [] => false
  | x :: _ => A0.place x
end
theorem A0.place_eq (e : A0) : e.place = (bif e.Op == 3 then true else bif (bif e.Op == 4 then true else e.Op == 5) then A0.place1 e.Kids else false) := by cases e; simp only [A0.place]
theorem b3 {o : Int} (h : (bif o == 4 then true else o == 5) = true) : (o == 3) = false := by
  apply beq_eq_false_iff_ne.2
  rintro rfl
  cases h
theorem Q1c (e : A0) : Ef e = some e.place := by
  unfold Ef
  induction e using A0.ind with
  | h e ih =>
  rw [C9, A0.place_eq]
  cases hb : (bif e.Op == 4 then true else e.Op == 5) with
  | false => cases e.Op == 3 <;> simp
  | true =>
    rw [b3 hb]
    cases hk : e.Kids with
    | nil => rfl
    | cons k r =>
      have := ih k (by rw [hk]; simp)
      have h0 : idx (k :: r) 0 = some k := rfl
      have h1 : (((k :: r).length : Int) == 0) = false := beq_eq_false_iff_ne.2 (by simp only [List.length_cons]; omega)
      simp only [h1, h0, ob, this, cond_true, cond_false, A0.place1]
      simp
theorem R1c (e : A0) : Ee e = some e.place := by
  induction e using A0.ind with
  | h e ih =>
  rw [Ee, A0.place_eq]
  cases h3 : e.Op == 3 with
  | true => simp
  | false =>
    cases hb : (bif e.Op == 4 then true else e.Op == 5) with
    | false => simp [ob]
    | true =>
      cases hk : e.Kids with
      | nil => simp [ob, A0.place1]
      | cons k r =>
        have := ih k (by rw [hk]; simp)
        have h0 : idx (k :: r) 0 = some k := rfl
        have h1 : decide (((k :: r).length : Int) > 0) = true := decide_eq_true (by simp only [List.length_cons]; omega)
        simp only [h1, h0, ob, cond_true, cond_false, A0.place1]
        simp [ob, this]
def ef1 (e : A0) : Bool := ar e.Op == (e.Kids.length : Int)
def ef2 (e : A0) : Bool := bif e.NV == 0 then true else e.Op == 0
def ef3 (e : A0) : Bool := bif e.Name == [] then true else bif e.Op == 3 then true else e.Op == 4
def ef4 (e : A0) : Bool := bif (bif e.Op == 4 then true else e.Op == 5) then e.place else true
def G5 (e : A0) : Bool := ef1 e && ef2 e && ef3 e && ef4 e
def H7 (e : A0) : Bool := bif (bif e.Op == 3 then true else e.Op == 4) then Hb e.Name else true
def L6 (e : A0) : Bool := bif e.Op == 0 then A2 e.NV 0 1048576 else true
theorem J1l (e : A0) (d : Int) (hd : 0 ≤ d) (ht : OkE e)
    (ih : ∀ x ∈ e.Kids, ∀ (d : Int) (o : C0), 0 ≤ d → d + x.nodes ≤ 4 * BB → 0 ≤ o.nodes → o.nodes + x.nodes ≤ 4 * BB → F2 x d o = some (Qi o d x.nodes (x.depth - 1) (x.all G5) (x.all H7) (x.all L6))) :
    ∀ (r : List A0) (k : Nat) (o : C0), e.Kids.drop k = r → d + 1 + A0.nodess r ≤ 4 * BB → 0 ≤ o.nodes → o.nodes + A0.nodess r ≤ 4 * BB → d ≤ o.depth →
      P2 e d o k = some (Qi o d (A0.nodess r) (A0.depths r) (A0.alls G5 r) (A0.alls H7 r) (A0.alls L6 r))
  | [], k, o, h, _, _, _, h5 => by
    rw [P2, (K1 h).1]
    simp only [Qi, A0.nodess, A0.depths, A0.alls, Bool.not_true, Bool.or_false]
    rw [if_neg (by simp), show o.nodes + ((0 : Nat) : Int) = o.nodes by omega, show max o.depth (d + ((0 : Nat) : Int)) = o.depth by omega]
  | x :: r, k, o, h, hb, h3, h4, h5 => by
    obtain ⟨e1, e2, e3, e4, e5⟩ := W1 h
    simp only [A0.nodess] at hb h4
    have hdp : 1 ≤ x.depth := by rw [A0.depth_eq]; omega
    have hof := ht.kids
    unfold BB at hb h4 hof
    rw [P2, e1, if_pos rfl, e2, ob, wr (n := d + 1) (by omega) (by omega), ih x e5 (d + 1) o (by omega) (by unfold BB; omega) h3 (by unfold BB; omega), ob, w1 (by unfold BB; omega),
      J1l e d hd ht ih r (k + 1) _ e3 (by unfold BB; omega) (by simp only [Qi]; omega) (by simp only [Qi]; unfold BB; omega) (by simp only [Qi]; omega)]
    simp only [Qi, A0.nodess, A0.depths, A0.alls, Hx]
    rw [show o.nodes + (x.nodes : Int) + (A0.nodess r : Nat) = o.nodes + ((x.nodes + A0.nodess r : Nat) : Int) by omega,
      show max (max o.depth (d + 1 + ((x.depth - 1 : Nat) : Int))) (d + (A0.depths r : Nat)) = max o.depth (d + ((max x.depth (A0.depths r) : Nat) : Int)) by omega]
theorem R1r (e : A0) (ht : OkE e) (d : Int) (o : C0) : S4 e d o = P2 e d ⟨o.nodes, o.depth, o.badForm, o.badName || !H7 e, o.badNumber || !L6 e⟩ 0 := by
  rw [S4, X12 _ ht.name, ob]
  simp only [U5, V5, Zm, Ly, ob]
  unfold H7 L6
  cases (bif e.Op == 3 then true else e.Op == 4) <;> cases e.Op == 0 <;> simp
theorem S1r (e : A0) : OkE e → ∀ (d : Int) (o : C0), 0 ≤ d → d + e.nodes ≤ 4 * BB → 0 ≤ o.nodes → o.nodes + e.nodes ≤ 4 * BB →
    F2 e d o = some (Qi o d e.nodes (e.depth - 1) (e.all G5) (e.all H7) (e.all L6)) := by
  induction e using A0.ind with
  | h e ih =>
  intro ht d o hd hb h3 h4
  have h5 := fun o h3 h4 hd' => J1l e d hd ht (fun x hx => ih x hx (ht.kid hx)) e.Kids 0 o rfl (by rw [A0.nodes_eq] at hb; omega) h3 h4 hd'
  rw [A0.nodes_eq] at hb h4
  unfold BB at hb h4
  rw [F2]
  simp only [M18, N18, Q1r, Q1c, ob, R1r e ht]
  rw [wr (n := o.nodes + 1) (by omega) (by omega)]
  rw [show ((0 : Nat) : Int) = 0 from rfl] at h5
  have fin : ∀ f : Bool, ef4 e = f → P2 e d ⟨o.nodes + 1, max o.depth d, (((o.badForm || !ef1 e) || !ef2 e) || !ef3 e) || !f, o.badName || !H7 e, o.badNumber || !L6 e⟩ 0 = some (Qi o d e.nodes (e.depth - 1) (e.all G5) (e.all H7) (e.all L6)) := by
    rintro _ rfl
    rw [h5 _ (by simp only; omega) (by simp only; unfold BB; omega) (by simp only; omega)]
    simp only [Qi, A0.all_eq, A0.nodes_eq, A0.depth_eq, G5, Hx, Bool.or_assoc, ← Bool.not_and]
    simp only [Hx, Bool.and_assoc]
    rw [show o.nodes + 1 + (A0.nodess e.Kids : Int) = o.nodes + ((A0.nodess e.Kids + 1 : Nat) : Int) by omega, show max (max o.depth d) (d + (A0.depths e.Kids : Int)) = max o.depth (d + ((A0.depths e.Kids + 1 - 1 : Nat) : Int)) by omega]
  cases hb : (bif e.Op == 4 then true else e.Op == 5) with
  | true =>
    rw [if_pos rfl]
    exact fin e.place (by unfold ef4; rw [hb]; rfl)
  | false =>
    rw [if_neg (by simp)]
    have := fin true (by unfold ef4; rw [hb]; rfl)
    rw [Bool.not_true, Bool.or_false] at this
    exact this
end Go.Proofs.YtmilgoloagbmpaaGreatDoor

set_option linter.unusedSimpArgs false
set_option linter.unusedVariables false
namespace Go.Proofs.YtmilgoloagbmpaaGreatDoor
open Go.Am
theorem S1c (t : A0) (ht : OkE t) (ih : ∀ x ∈ t.Kids, Ac x = some (x.nodes : Int)) :
    ∀ (r : List A0) (k : Nat) (n : Nat), t.Kids.drop k = r → n + A0.nodess r ≤ BB → P9 t (n : Int) k = some ((n + A0.nodess r : Nat) : Int)
  | [], k, n, h, hb => by rw [P9, (K1 h).1, if_neg (by simp)]; simp [A0.nodess]
  | x :: r, k, n, h, hb => by
    obtain ⟨e1, e2, e3, e4, e5⟩ := W1 h
    have := ht.kids
    simp only [A0.nodess] at hb
    have hb' := hb
    unfold BB at hb'
    rw [P9, e1, if_pos rfl, e2, ob, ih x e5, ob, wr (n := (n : Int) + _) (by omega) (by omega), w1 (by omega), show (n : Int) + (x.nodes : Int) = ((n + x.nodes : Nat) : Int) by omega, S1c t ht ih r (k + 1) _ e3 (by omega)]
    simp only [A0.nodess, Nat.add_assoc]
theorem H1n (t : A0) : OkE t → Ac t = some (t.nodes : Int) := by
  induction t using A0.ind with
  | h t ih =>
  intro ht
  have hn := ht.nodes
  rw [A0.nodes_eq] at hn
  rw [Ac]
  have := S1c t ht (fun x hx => ih x hx (ht.kid hx)) t.Kids 0 1 rfl (by omega)
  rw [A0.nodes_eq, Nat.add_comm]
  exact this
theorem J15 (t : A0) (ht : OkE t) (ih : ∀ x ∈ t.Kids, Bc x = some (x.depth : Int)) (B : Nat) (hB : B ≤ BB) :
    ∀ (r : List A0) (k : Nat) (n : Nat), t.Kids.drop k = r → n ≤ B → A0.depths r ≤ B → N7 t (n : Int) k = some ((max n (A0.depths r) + 1 : Nat) : Int)
  | [], k, n, h, hb, _ => by
    rw [N7, (K1 h).1, if_neg (by simp), w1 (by omega)]
    simp [A0.depths]
  | x :: r, k, n, h, hb, hd => by
    obtain ⟨e1, e2, e3, e4, e5⟩ := W1 h
    have := ht.kids
    simp only [A0.depths] at hd
    rw [N7, e1, if_pos rfl, e2, ob, ih x e5, ob, w1 (by omega), J15 t ht ih B hB r (k + 1) _ e3 (by omega) (by omega), J15 t ht ih B hB r (k + 1) _ e3 (by omega) (by omega)]
    simp only [A0.depths]
    by_cases hx : (x.depth : Int) > (n : Int)
    · rw [if_pos (decide_eq_true hx), show max n (max x.depth (A0.depths r)) = max x.depth (A0.depths r) by omega]
    · rw [if_neg (by simpa using hx), show max n (max x.depth (A0.depths r)) = max n (A0.depths r) by omega]
theorem I1n (t : A0) : OkE t → Bc t = some (t.depth : Int) := by
  induction t using A0.ind with
  | h t ih =>
  intro ht
  have hn := ht.nodes
  have hd := A0.depth_nodes t
  rw [Bc]
  rw [A0.depth_eq] at hd
  have := J15 t ht (fun x hx => ih x hx (ht.kid hx)) BB (Nat.le_refl _) t.Kids 0 0 rfl (by omega) (by omega)
  rw [A0.depth_eq]
  rw [show max 0 (A0.depths t.Kids) = A0.depths t.Kids by omega] at this
  exact this
theorem Ix (n : Int) (d : Int) (m : Int) : O8 ⟨n, d⟩ m = some ⟨n, max d m⟩ := by
  unfold O8
  by_cases h : m > d
  · rw [if_pos (decide_eq_true h), show max d m = m by omega]
  · rw [if_neg (by simpa using h), show max d m = d by omega]
theorem V1h (e : A0) (ht : OkE e) (ih : ∀ x ∈ e.Kids, A6 x = some (x.all G5)) : ∀ (r : List A0) (k : Nat), e.Kids.drop k = r → Pb e k = some (A0.alls G5 r)
  | [], k, h => by rw [Pb, (K1 h).1, if_neg (by simp)]; rfl
  | x :: r, k, h => by
    obtain ⟨e1, e2, e3, e4, e5⟩ := W1 h
    have := ht.kids
    rw [Pb, e1, if_pos rfl, e2, ob, ih x e5, ob, w1 (by omega), V1h e ht ih r (k + 1) e3, A0.alls]
    cases x.all G5 <;> simp
theorem E10 (e : A0) : OkE e → A6 e = some (e.all G5) := by
  induction e using A0.ind with
  | h e ih =>
  intro ht
  have h1 := V1h e ht (fun x hx => ih x hx (ht.kid hx)) e.Kids 0 rfl
  rw [show ((0 : Nat) : Int) = 0 from rfl] at h1
  rw [A6, h1, A0.all_eq, R1c, D1t, ob]
  generalize A0.alls G5 e.Kids = A
  have hb : (bif (bif (ar e.Op != (e.Kids.length : Int)) then true else (bif (e.Op != 0) then (e.NV != 0) else false)) then true else (bif (bif (e.Op != 3) then (e.Op != 4) else false) then (!(e.Name == [])) else false)) = !(ef1 e && ef2 e && ef3 e) := by
    unfold ef1 ef2 ef3
    simp only [bne]
    cases ar e.Op == (e.Kids.length : Int) <;> cases e.NV == 0 <;> cases e.Op == 0 <;> cases e.Name == [] <;> cases e.Op == 3 <;> cases e.Op == 4 <;> rfl
  rw [hb]
  unfold G5 ef4
  cases (ef1 e && ef2 e && ef3 e) <;> cases (bif e.Op == 4 then true else e.Op == 5) <;> cases e.place <;> simp [ob]
theorem T1c (e : A0) (ht : OkE e) (ih : ∀ x ∈ e.Kids, O5 x = some (x.all H7)) : ∀ (r : List A0) (k : Nat), e.Kids.drop k = r → T9 e k = some (A0.alls H7 r)
  | [], k, h => by rw [T9, (K1 h).1, if_neg (by simp)]; rfl
  | x :: r, k, h => by
    obtain ⟨e1, e2, e3, e4, e5⟩ := W1 h
    have := ht.kids
    rw [T9, e1, if_pos rfl, e2, ob, ih x e5, ob, w1 (by omega), T1c e ht ih r (k + 1) e3, A0.alls]
    cases x.all H7 <;> simp
theorem My (e : A0) : OkE e → O5 e = some (e.all H7) := by
  induction e using A0.ind with
  | h e ih =>
  intro ht
  have h1 := T1c e ht (fun x hx => ih x hx (ht.kid hx)) e.Kids 0 rfl
  rw [show ((0 : Nat) : Int) = 0 from rfl] at h1
  rw [O5, h1, A0.all_eq, Tp e.Name ht.name]
  generalize A0.alls H7 e.Kids = A
  unfold H7
  cases (bif e.Op == 3 then true else e.Op == 4) <;> cases Hb e.Name <;> simp [ob]
theorem H17 (e : A0) (ht : OkE e) (ih : ∀ x ∈ e.Kids, E4 x = some (x.all L6)) : ∀ (r : List A0) (k : Nat), e.Kids.drop k = r → W7 e k = some (A0.alls L6 r)
  | [], k, h => by rw [W7, (K1 h).1, if_neg (by simp)]; rfl
  | x :: r, k, h => by
    obtain ⟨e1, e2, e3, e4, e5⟩ := W1 h
    have := ht.kids
    rw [W7, e1, if_pos rfl, e2, ob, ih x e5, ob, w1 (by omega), H17 e ht ih r (k + 1) e3, A0.alls]
    cases x.all L6 <;> simp
theorem Ku (e : A0) : OkE e → E4 e = some (e.all L6) := by
  induction e using A0.ind with
  | h e ih =>
  intro ht
  have h1 := H17 e ht (fun x hx => ih x hx (ht.kid hx)) e.Kids 0 rfl
  rw [show ((0 : Nat) : Int) = 0 from rfl] at h1
  rw [E4, h1, A0.all_eq]
  have : L6 e = !(bif (e.Op == 0) then (bif (decide (e.NV < 0)) then true else (decide (e.NV > 1048576))) else false) := by
    unfold L6 A2
    rw [C10, W12]
    cases e.Op == 0 <;> cases decide (e.NV ≥ 0) <;> cases decide (e.NV ≤ 1048576) <;> rfl
  rw [this]
  cases (bif (e.Op == 0) then (bif (decide (e.NV < 0)) then true else (decide (e.NV > 1048576))) else false) <;> simp
theorem K1l (e : A0) (ht : OkE e) (ih : ∀ x ∈ e.Kids, ∀ n, ∃ m, V6 x n = some m) : ∀ (r : List A0) (k : Nat) (n : Int), e.Kids.drop k = r → ∃ m, Kb e n k = some m
  | [], k, n, h => by rw [Kb, (K1 h).1]; exact ⟨_, rfl⟩
  | x :: r, k, n, h => by
    obtain ⟨e1, e2, e3, e4, e5⟩ := W1 h
    have := ht.kids
    rw [Kb, e1, e2]
    cases decide (n ≥ 0) with
    | false => exact ⟨_, rfl⟩
    | true =>
      obtain ⟨m, hm⟩ := ih x e5 n
      rw [cond_true, if_pos rfl, ob, hm, ob, w1 (by omega)]
      exact K1l e ht ih r (k + 1) m e3
theorem Ny (e : A0) : OkE e → ∀ n, ∃ m, V6 e n = some m := by
  induction e using A0.ind with
  | h e ih =>
  intro ht n
  rw [V6]
  exact K1l e ht (fun x hx => ih x hx (ht.kid hx)) e.Kids 0 _ rfl
theorem P18 (t : D0) (ht : Ok t) (ih : ∀ x ∈ t.Of, ∀ n, ∃ m, Ra x n = some m) : ∀ (r : List D0) (k : Nat) (n : Int), t.Of.drop k = r → ∃ m, Jb t n k = some m
  | [], k, n, h => by rw [Jb, (K1 h).1]; exact ⟨_, rfl⟩
  | x :: r, k, n, h => by
    obtain ⟨e1, e2, e3, e4, e5⟩ := W1 h
    have := ht.ofs
    rw [Jb, e1, e2]
    cases decide (n ≥ 0) with
    | false => exact ⟨_, rfl⟩
    | true =>
      obtain ⟨m, hm⟩ := ih x e5 n
      rw [cond_true, if_pos rfl, ob, hm, ob, w1 (by omega)]
      exact P18 t ht ih r (k + 1) m e3
theorem W1h (t : D0) (ht : Ok t) (ih : ∀ x ∈ t.Of, ∀ n, ∃ m, Ra x n = some m) : ∀ (r : List Str) (k : Nat) (n : Int), t.Names.drop k = r → ∃ m, Ib t n k = some m
  | [], k, n, h => by rw [Ib, (K1 h).1]; exact P18 t ht ih t.Of 0 n rfl
  | x :: r, k, n, h => by
    obtain ⟨e1, e2, e3, e4, e5⟩ := W1 h
    have := ht.names
    rw [Ib, e1, e2]
    cases decide (n ≥ 0) with
    | false => exact P18 t ht ih t.Of 0 n rfl
    | true =>
      rw [cond_true, if_pos rfl, ob, w1 (by omega)]
      exact W1h t ht ih r (k + 1) _ e3
theorem J1n (t : D0) : Ok t → ∀ n, ∃ m, Ra t n = some m := by
  induction t using D0.ind with
  | h t ih =>
  intro ht n
  rw [Ra]
  exact W1h t ht (fun x hx => ih x hx (ht.kid hx)) t.Names 0 _ rfl
end Go.Proofs.YtmilgoloagbmpaaGreatDoor

set_option linter.unusedSimpArgs false
set_option linter.unusedVariables false
namespace Go.Proofs.YtmilgoloagbmpaaGreatDoor
open Go.Am
def Z5 (n : Int) : Prop := -1099511627776 ≤ n ∧ n ≤ 1099511627776
theorem Y4 {n : Int} (h : Z5 n) : (Lib.itoa n).length ≤ 19 := L1g (by unfold Z5 at h; omega)
theorem Ll {n : Int} (h : Z5 n) : Gh n = some (Lib.itoa n) := by
  unfold Gh
  rw [if_pos (decide_eq_true (by unfold Z5 at h; omega))]
theorem T1r (k : Nat) (h : k < 1099511627777) : Jk [IntKind.u8.wrap (IntKind.i64.wrap (48 + Int.tmod (k : Int) 10))] = [UInt8.ofNat (48 + k % 10)] := by
  have e : Int.tmod (k : Int) 10 = ((k % 10 : Nat) : Int) := by rw [Int.tmod_eq_emod_of_nonneg (by omega)]; omega
  have : k % 10 < 10 := Nat.mod_lt _ (by decide)
  rw [e, wr (by omega) (by omega), M1s (by omega) (by omega)]
  unfold Jk
  rw [List.map_cons, List.map_nil, show ((48 : Int) + ((k % 10 : Nat) : Int)).toNat = 48 + k % 10 by omega]
theorem M1a (k : Nat) : k < 1099511627777 → R3 (k : Int) = some (Lib.decDigits k) := by
  induction k using Nat.strongRecOn with
  | ind k ih =>
  intro h
  rw [R3, if_neg (by simp), T1r k h, Lib.decDigits]
  by_cases h10 : k < 10
  · rw [if_pos (decide_eq_true (by omega)), dif_pos h10, Nat.mod_eq_of_lt h10]
  · have e : IntKind.i64.wrap (Int.tdiv (k : Int) 10) = ((k / 10 : Nat) : Int) := by
      rw [Int.tdiv_eq_ediv_of_nonneg (by omega), wr (by omega) (by omega)]; rfl
    have hl : (Lib.decDigits (k / 10)).length ≤ 18 := Bn 17 _ (by omega)
    rw [if_neg (by simp; omega), dif_neg h10, e, ih (k / 10) (by omega) (by omega), ob, if_pos (decide_eq_true (by unfold maxLen; simp; omega))]
theorem Pf {n : Int} (h : Z5 n) : R3 n = some (Lib.itoa n) := by
  unfold Z5 at h
  unfold Lib.itoa
  by_cases h0 : n < 0
  · have e : IntKind.i64.wrap (0 - n) = (n.natAbs : Int) := by rw [wr (by omega) (by omega)]; omega
    have hl : (Lib.decDigits n.natAbs).length ≤ 18 := Bn 17 _ (by omega)
    rw [R3, if_pos (decide_eq_true h0), e, M1a _ (by omega), ob, if_pos h0, if_pos (decide_eq_true (by unfold maxLen; omega))]
    rfl
  · rw [if_neg h0]
    have := M1a n.toNat (by omega)
    rw [show ((n.toNat : Nat) : Int) = n by omega] at this
    exact this
def LL : Nat := 70368744177664
theorem ws {s b : Str} (h : b.length + s.length ≤ LL) : F0 s b = some ((s.length : Int), b ++ s) := by
  unfold F0
  rw [if_pos (decide_eq_true (by unfold LL at h; omega))]
theorem fit {n : Nat} {α : Type} {x : Option α} (h : n ≤ LL) : (if decide (n ≤ maxLen) = true then x else none) = x := by
  rw [if_pos (decide_eq_true (by unfold LL at h; unfold maxLen; omega))]
def lv (o : Int) : Int :=
  bif o == 23 then 0 else bif o == 20 then 1 else bif o == 19 then 2 else bif (bif decide (o ≥ 13) then decide (o ≤ 18) else false) then 3
  else bif (bif o == 8 then true else o == 9) then 4 else bif (bif (bif o == 10 then true else o == 11) then true else o == 12) then 5 else bif (bif o == 6 then true else o == 7) then 6 else 7
theorem U1c (o : Int) : Ln o = some (lv o) := by
  unfold Ln lv
  cases o == 23 <;> cases o == 20 <;> cases o == 19 <;> cases (bif decide (o ≥ 13) then decide (o ≤ 18) else false) <;> cases (bif o == 8 then true else o == 9) <;>
    cases (bif (bif o == 10 then true else o == 11) then true else o == 12) <;> cases (bif o == 6 then true else o == 7) <;> rfl
theorem X1h (o : Int) : (o < 0 ∨ 23 < o) ∨ o = 0 ∨ o = 1 ∨ o = 2 ∨ o = 3 ∨ o = 4 ∨ o = 5 ∨ o = 6 ∨ o = 7 ∨ o = 8 ∨ o = 9 ∨ o = 10 ∨ o = 11 ∨ o = 12 ∨ o = 13 ∨ o = 14 ∨ o = 15 ∨ o = 16 ∨ o = 17 ∨ o = 18 ∨ o = 19 ∨ o = 20 ∨ o = 21 ∨ o = 22 ∨ o = 23 := by omega
theorem far {o k : Int} (h : o < 0 ∨ 23 < o) (hk : 0 ≤ k ∧ k ≤ 23) : (o == k) = false := beq_eq_false_iff_ne.2 (by omega)
theorem V1c (o : Int) : Ff o = some (lv o) := by
  rcases X1h o with h | rfl | rfl | rfl | rfl | rfl | rfl | rfl | rfl | rfl | rfl | rfl | rfl | rfl | rfl | rfl | rfl | rfl | rfl | rfl | rfl | rfl | rfl | rfl | rfl
  · have hr : (bif decide (o ≥ 13) then decide (o ≤ 18) else false) = false := by
      rcases h with h | h
      · rw [decide_eq_false (by omega)]; rfl
      · rw [decide_eq_false (show ¬ o ≤ 18 by omega)]; cases decide (o ≥ 13) <;> rfl
    have f := fun k hk => far (k := k) h hk
    simp only [Ff, D6, Md, Ub, lv, hr, f 23 (by decide), f 20 (by decide), f 19 (by decide), f 13 (by decide), f 14 (by decide), f 15 (by decide), f 16 (by decide), f 17 (by decide), f 18 (by decide),
      f 8 (by decide), f 9 (by decide), f 10 (by decide), f 11 (by decide), f 12 (by decide), f 6 (by decide), f 7 (by decide)]
    rfl
  all_goals rfl
def Ge (o : Int) : Str := Zo.getD (o - 8).toNat []
theorem Jx {o : Int} (h : 8 ≤ o) (h' : o ≤ 20) : o = 8 ∨ o = 9 ∨ o = 10 ∨ o = 11 ∨ o = 12 ∨ o = 13 ∨ o = 14 ∨ o = 15 ∨ o = 16 ∨ o = 17 ∨ o = 18 ∨ o = 19 ∨ o = 20 := by omega
theorem A1c {o : Int} (h : 8 ≤ o) (h' : o ≤ 20) : idx Zo (IntKind.i64.wrap (o - 8)) = some (Ge o) ∧ Jy o = some (Ge o) ∧ (Ge o).length ≤ 2 := by
  rcases Jx h h' with rfl | rfl | rfl | rfl | rfl | rfl | rfl | rfl | rfl | rfl | rfl | rfl | rfl
  all_goals exact ⟨rfl, rfl, by decide⟩
def par (req : Int) (p : Int × Str) : Str := bif decide (lv p.1 ≥ req) then p.2 else [40] ++ p.2 ++ [41]
def etx (op n : Int) (nm : Str) (ks : List (Int × Str)) : Str :=
  let k := fun i => ks.getD i (0, [])
  bif op == 0 then Lib.itoa n else bif op == 1 then [116, 114, 117, 101] else bif op == 2 then [102, 97, 108, 115, 101] else bif op == 3 then nm
  else bif op == 4 then (k 0).2 ++ ([46] ++ nm) else bif op == 5 then (k 0).2 ++ [91] ++ (k 1).2 ++ [93] else bif op == 6 then [45] ++ par 6 (k 0) else bif op == 7 then [33] ++ par 6 (k 0)
  else bif op == 21 then [109, 105, 110, 40] ++ (k 0).2 ++ [44, 32] ++ (k 1).2 ++ [41] else bif op == 22 then [109, 97, 120, 40] ++ (k 0).2 ++ [44, 32] ++ (k 1).2 ++ [41]
  else bif op == 23 then par 1 (k 0) ++ [32, 63, 32] ++ (k 1).2 ++ [32, 58, 32] ++ (k 2).2
  else par (bif lv op == 3 then 4 else lv op) (k 0) ++ ([32] ++ Ge op ++ [32]) ++ par (lv op + 1) (k 1)
mutual
def A0.text : A0 → Str
  | .mk op n nm ks => etx op n nm (A0.texts ks)
def A0.texts : List A0 → List (Int × Str)
  | [] => []
  | x :: r => (x.Op, A0.text x) :: A0.texts r
end
theorem K1n {α : Type} {l : List α} (h : l.length = 2) : ∃ a b, l = [a, b] := by
  match l, h with
  | [a, b], _ => exact ⟨a, b, rfl⟩
theorem H1u {α : Type} {l : List α} (h : l.length = 3) : ∃ a b c, l = [a, b, c] := by
  match l, h with
  | [a, b, c], _ => exact ⟨a, b, c, rfl⟩
inductive Ro : A0 → Prop
  | lit (n) : Ro (.mk 0 n [] [])
  | tt : Ro (.mk 1 0 [] [])
  | ff : Ro (.mk 2 0 [] [])
  | name (nm) : Ro (.mk 3 0 nm [])
  | field (nm k) : Ro (.mk 4 0 nm [k])
  | index (a b) : Ro (.mk 5 0 [] [a, b])
  | neg (k) : Ro (.mk 6 0 [] [k])
  | not (k) : Ro (.mk 7 0 [] [k])
  | bin (o a b) (h : 8 ≤ o) (h' : o ≤ 20) : Ro (.mk o 0 [] [a, b])
  | min (a b) : Ro (.mk 21 0 [] [a, b])
  | max (a b) : Ro (.mk 22 0 [] [a, b])
  | cond (a b c) : Ro (.mk 23 0 [] [a, b, c])
theorem U1r (e : A0) (h : G5 e = true) : Ro e := by
  obtain ⟨op, n, nm, ks⟩ := e
  unfold G5 at h
  simp only [Bool.and_eq_true] at h
  obtain ⟨⟨⟨h1, h2⟩, h3⟩, _⟩ := h
  have e1 : ar op = (ks.length : Int) := by simpa [ef1] using h1
  have e2 : op ≠ 0 → n = 0 := fun hne => by
    have := beq_eq_false_iff_ne.2 hne
    simp only [ef2, this] at h2
    cases hn : n == 0 with
    | true => simpa using hn
    | false => rw [hn] at h2; cases h2
  have e3 : op ≠ 3 → op ≠ 4 → nm = [] := fun hne hne' => by
    have := beq_eq_false_iff_ne.2 hne
    have h4 := beq_eq_false_iff_ne.2 hne'
    simp only [ef3, this, h4] at h3
    cases hn : nm == [] with
    | true => simpa using hn
    | false => rw [hn] at h3; cases h3
  rcases X1h op with h | h
  · have : ar op = -1 := by
      have f := fun k hk => far (k := k) h hk
      have hr : (bif decide (op ≥ 8) then decide (op ≤ 22) else false) = false := by
        rcases h with h | h
        · rw [decide_eq_false (by omega)]; rfl
        · rw [decide_eq_false (show ¬ op ≤ 22 by omega)]; cases decide (op ≥ 8) <;> rfl
      unfold ar
      rw [hr, f 0 (by decide), f 1 (by decide), f 2 (by decide), f 3 (by decide), f 4 (by decide), f 6 (by decide), f 7 (by decide), f 5 (by decide), f 23 (by decide)]
      rfl
    omega
  by_cases hb : 8 ≤ op ∧ op ≤ 20
  · have e4 : ar op = 2 := by rcases Jx hb.1 hb.2 with rfl | rfl | rfl | rfl | rfl | rfl | rfl | rfl | rfl | rfl | rfl | rfl | rfl <;> rfl
    obtain ⟨a, b, rfl⟩ := K1n (l := ks) (by omega)
    obtain rfl := e2 (by omega)
    obtain rfl := e3 (by omega) (by omega)
    exact .bin _ _ _ hb.1 hb.2
  have hc : op = 0 ∨ op = 1 ∨ op = 2 ∨ op = 3 ∨ op = 4 ∨ op = 5 ∨ op = 6 ∨ op = 7 ∨ op = 21 ∨ op = 22 ∨ op = 23 := by omega
  rcases hc with rfl | rfl | rfl | rfl | rfl | rfl | rfl | rfl | rfl | rfl | rfl
  · obtain rfl := List.eq_nil_of_length_eq_zero (l := ks) (by have : ar 0 = 0 := rfl; omega)
    obtain rfl := e3 (by decide) (by decide)
    exact .lit n
  · obtain rfl := List.eq_nil_of_length_eq_zero (l := ks) (by have : ar 1 = 0 := rfl; omega)
    obtain rfl := e3 (by decide) (by decide)
    obtain rfl := e2 (by decide)
    exact .tt
  · obtain rfl := List.eq_nil_of_length_eq_zero (l := ks) (by have : ar 2 = 0 := rfl; omega)
    obtain rfl := e3 (by decide) (by decide)
    obtain rfl := e2 (by decide)
    exact .ff
  · obtain rfl := List.eq_nil_of_length_eq_zero (l := ks) (by have : ar 3 = 0 := rfl; omega)
    obtain rfl := e2 (by decide)
    exact .name nm
  · obtain ⟨k, rfl⟩ := List.length_eq_one_iff.1 (show ks.length = 1 by have : ar 4 = 1 := rfl; omega)
    obtain rfl := e2 (by decide)
    exact .field nm k
  · obtain ⟨a, b, rfl⟩ := K1n (l := ks) (by have : ar 5 = 2 := rfl; omega)
    obtain rfl := e3 (by decide) (by decide)
    obtain rfl := e2 (by decide)
    exact .index a b
  · obtain ⟨k, rfl⟩ := List.length_eq_one_iff.1 (show ks.length = 1 by have : ar 6 = 1 := rfl; omega)
    obtain rfl := e3 (by decide) (by decide)
    obtain rfl := e2 (by decide)
    exact .neg k
  · obtain ⟨k, rfl⟩ := List.length_eq_one_iff.1 (show ks.length = 1 by have : ar 7 = 1 := rfl; omega)
    obtain rfl := e3 (by decide) (by decide)
    obtain rfl := e2 (by decide)
    exact .not k
  · obtain ⟨a, b, rfl⟩ := K1n (l := ks) (by have : ar 21 = 2 := rfl; omega)
    obtain rfl := e3 (by decide) (by decide)
    obtain rfl := e2 (by decide)
    exact .min a b
  · obtain ⟨a, b, rfl⟩ := K1n (l := ks) (by have : ar 22 = 2 := rfl; omega)
    obtain rfl := e3 (by decide) (by decide)
    obtain rfl := e2 (by decide)
    exact .max a b
  · obtain ⟨a, b, c, rfl⟩ := H1u (l := ks) (by have : ar 23 = 3 := rfl; omega)
    obtain rfl := e3 (by decide) (by decide)
    obtain rfl := e2 (by decide)
    exact .cond a b c
structure Va (e : A0) : Prop where
  form : e.all G5 = true
  numb : e.all L6 = true
  ok : OkE e
theorem Va.kid {e k : A0} (h : Va e) (hk : k ∈ e.Kids) : Va k := by
  have h1 := h.form
  have h2 := h.numb
  rw [A0.all_eq, Bool.and_eq_true] at h1 h2
  exact ⟨A0.alls_mem h1.2 hk, A0.alls_mem h2.2 hk, h.ok.kid hk⟩
theorem Va.shape {e : A0} (h : Va e) : Ro e := by
  have h1 := h.form
  rw [A0.all_eq, Bool.and_eq_true] at h1
  exact U1r e h1.1
theorem Va.small {n : Int} (h : Va (.mk 0 n [] [])) : Z5 n := by
  have h2 := h.numb
  rw [A0.all_eq, Bool.and_eq_true] at h2
  have h3 := h2.1
  unfold L6 A2 at h3
  simp at h3
  unfold Z5
  omega
theorem Si (r : Int) (p : Int × Str) : (par r p).length ≤ p.2.length + 2 := by
  unfold par
  cases decide (lv p.1 ≥ r) <;> simp <;> omega
theorem Q18 {o : Int} (a b : A0) (h : 8 ≤ o) (h' : o ≤ 20) : (A0.mk o 0 [] [a, b]).text = par (bif lv o == 3 then 4 else lv o) (a.Op, a.text) ++ ([32] ++ Ge o ++ [32]) ++ par (lv o + 1) (b.Op, b.text) := by
  rcases Jx h h' with rfl | rfl | rfl | rfl | rfl | rfl | rfl | rfl | rfl | rfl | rfl | rfl | rfl
  all_goals rfl
theorem Y2 (e : A0) : Va e → e.text.length ≤ 40 * e.bulk := by
  induction e using A0.ind with
  | h e ih =>
  intro hf
  have ih' := fun k hk => ih k hk (hf.kid hk)
  cases hf.shape with
  | lit n =>
    have := Y4 hf.small
    show (Lib.itoa n).length ≤ _
    simp only [A0.bulk, A0.bulks]; omega
  | tt => decide
  | ff => decide
  | name nm => show nm.length ≤ _; simp only [A0.bulk, A0.bulks]; omega
  | field nm k =>
    have := ih' k (by simp)
    show (k.text ++ ([46] ++ nm)).length ≤ _
    simp only [A0.bulk, A0.bulks, List.length_append, List.length_cons, List.length_nil]; omega
  | index a b =>
    have := ih' a (by simp); have := ih' b (by simp)
    show (a.text ++ [91] ++ b.text ++ [93]).length ≤ _
    simp only [A0.bulk, A0.bulks, List.length_append, List.length_cons, List.length_nil]; omega
  | neg k =>
    have := ih' k (by simp); have := Si 6 (k.Op, k.text)
    show ([45] ++ par 6 (k.Op, k.text)).length ≤ _
    simp only [A0.bulk, A0.bulks, List.length_append, List.length_cons, List.length_nil] at *; omega
  | not k =>
    have := ih' k (by simp); have := Si 6 (k.Op, k.text)
    show ([33] ++ par 6 (k.Op, k.text)).length ≤ _
    simp only [A0.bulk, A0.bulks, List.length_append, List.length_cons, List.length_nil] at *; omega
  | bin o a b h h' =>
    have := ih' a (by simp); have := ih' b (by simp)
    have := Si (bif lv o == 3 then 4 else lv o) (a.Op, a.text); have := Si (lv o + 1) (b.Op, b.text)
    have := (A1c h h').2.2
    rw [Q18 a b h h']
    simp only [A0.bulk, A0.bulks, List.length_append, List.length_cons, List.length_nil] at *; omega
  | min a b =>
    have := ih' a (by simp); have := ih' b (by simp)
    show ([109, 105, 110, 40] ++ a.text ++ [44, 32] ++ b.text ++ [41]).length ≤ _
    simp only [A0.bulk, A0.bulks, List.length_append, List.length_cons, List.length_nil]; omega
  | max a b =>
    have := ih' a (by simp); have := ih' b (by simp)
    show ([109, 97, 120, 40] ++ a.text ++ [44, 32] ++ b.text ++ [41]).length ≤ _
    simp only [A0.bulk, A0.bulks, List.length_append, List.length_cons, List.length_nil]; omega
  | cond a b c =>
    have := ih' a (by simp); have := ih' b (by simp); have := ih' c (by simp)
    have := Si 1 (a.Op, a.text)
    show (par 1 (a.Op, a.text) ++ [32, 63, 32] ++ b.text ++ [32, 58, 32] ++ c.text).length ≤ _
    simp only [A0.bulk, A0.bulks, List.length_append, List.length_cons, List.length_nil] at *; omega
end Go.Proofs.YtmilgoloagbmpaaGreatDoor

set_option linter.unusedSimpArgs false
set_option linter.unusedVariables false
namespace Go.Proofs.YtmilgoloagbmpaaGreatDoor
open Go.Am
theorem T11 {k : A0} (hk : ∀ b : Str, b.length + 40 * k.bulk ≤ LL → U0 k b = some (b ++ k.text)) (hl : k.text.length ≤ 40 * k.bulk) (req : Int) (b : Str) (hb : b.length + 2 + 40 * k.bulk ≤ LL) :
    O4 k req b = some (b ++ par req (k.Op, k.text)) := by
  rw [O4, V1c, ob]
  unfold par
  cases h : decide (lv k.Op ≥ req) with
  | true => rw [if_pos (by simp), hk b (by omega), ob]; rfl
  | false =>
    rw [if_neg (by simp), ws (by simp; omega), ob, hk (b ++ [40]) (by simp; omega), ob, ws (by simp; omega), ob]
    simp
theorem Qf (e : A0) : Va e → ∀ b : Str, b.length + 40 * e.bulk ≤ LL → U0 e b = some (b ++ e.text) := by
  induction e using A0.ind with
  | h e ih =>
  intro hf b hb
  have ih' := fun k hk => ih k hk (hf.kid hk)
  have hl := fun k hk => Y2 k (hf.kid hk)
  cases hf.shape with
  | lit n =>
    have := Y4 hf.small
    simp only [A0.bulk, A0.bulks] at hb
    rw [U0, if_pos (by simp), Ll hf.small, ob, ws (by omega), ob]
    rfl
  | tt =>
    simp only [A0.bulk, A0.bulks] at hb
    rw [U0, if_neg (by simp), if_pos (by simp), ws (by simp; omega), ob]
    rfl
  | ff =>
    simp only [A0.bulk, A0.bulks] at hb
    rw [U0, if_neg (by simp), if_neg (by simp), if_pos (by simp), ws (by simp; omega), ob]
    rfl
  | name nm =>
    simp only [A0.bulk, A0.bulks] at hb
    rw [U0, if_neg (by simp), if_neg (by simp), if_neg (by simp), if_pos (by simp), ws (by simp only; omega), ob]
    rfl
  | field nm k =>
    have i1 := ih' k (by simp)
    have l1 := hl k (by simp)
    simp only [A0.bulk, A0.bulks] at hb
    rw [U0, if_neg (by simp), if_neg (by simp), if_neg (by simp), if_neg (by simp), if_pos (by simp), show idx (A0.mk 4 0 nm [k]).Kids 0 = some k from rfl, ob, i1 b (by omega), ob,
      fit (by unfold LL at *; simp only; omega), ws (by simp; omega), ob]
    show some ((b ++ k.text) ++ ([46] ++ nm)) = some (b ++ (k.text ++ ([46] ++ nm)))
    rw [List.append_assoc]
  | index x y =>
    have i1 := ih' x (by simp); have i2 := ih' y (by simp)
    have l1 := hl x (by simp); have l2 := hl y (by simp)
    simp only [A0.bulk, A0.bulks] at hb
    rw [U0, if_neg (by simp), if_neg (by simp), if_neg (by simp), if_neg (by simp), if_neg (by simp), if_pos (by simp), show idx (A0.mk 5 0 [] [x, y]).Kids 0 = some x from rfl, ob, i1 b (by omega), ob,
      ws (by simp; omega), ob, show idx (A0.mk 5 0 [] [x, y]).Kids 1 = some y from rfl, ob, i2 _ (by simp; omega), ob, ws (by simp; omega), ob]
    show some _ = some (b ++ (x.text ++ [91] ++ y.text ++ [93]))
    simp
  | neg k =>
    have i1 := ih' k (by simp)
    have l1 := hl k (by simp)
    simp only [A0.bulk, A0.bulks] at hb
    rw [U0, if_neg (by simp), if_neg (by simp), if_neg (by simp), if_neg (by simp), if_neg (by simp), if_neg (by simp), if_pos (by simp), B2, if_pos (by simp), if_neg (by simp), G4,
      ws (by simp; omega), ob, show idx (A0.mk 6 0 [] [k]).Kids 0 = some k from rfl, ob, T11 i1 l1 6 _ (by simp; omega), ob]
    show some _ = some (b ++ ([45] ++ par 6 (k.Op, k.text)))
    simp
  | not k =>
    have i1 := ih' k (by simp)
    have l1 := hl k (by simp)
    simp only [A0.bulk, A0.bulks] at hb
    rw [U0, if_neg (by simp), if_neg (by simp), if_neg (by simp), if_neg (by simp), if_neg (by simp), if_neg (by simp), if_neg (by simp), B2, if_pos (by simp), if_pos (by simp), G4,
      ws (by simp; omega), ob, show idx (A0.mk 7 0 [] [k]).Kids 0 = some k from rfl, ob, T11 i1 l1 6 _ (by simp; omega), ob]
    show some _ = some (b ++ ([33] ++ par 6 (k.Op, k.text)))
    simp
  | bin o x y h h' =>
    have i1 := ih' x (by simp); have i2 := ih' y (by simp)
    have l1 := hl x (by simp); have l2 := hl y (by simp)
    obtain ⟨g1, _, g2⟩ := A1c h h'
    have p1 := Si (bif lv o == 3 then 4 else lv o) (x.Op, x.text)
    simp only [A0.bulk, A0.bulks] at hb p1
    have hw : IntKind.i64.wrap (lv o + 1) = lv o + 1 := by rcases Jx h h' with rfl | rfl | rfl | rfl | rfl | rfl | rfl | rfl | rfl | rfl | rfl | rfl | rfl <;> rfl
    have e1 : ∀ left, left = (bif lv o == 3 then 4 else lv o) → O3 (A0.mk o 0 [] [x, y]) b (lv o) left = some (b ++ (A0.mk o 0 [] [x, y]).text) := by
      rintro _ rfl
      rw [O3, show idx (A0.mk o 0 [] [x, y]).Kids 0 = some x from rfl, ob, T11 i1 l1 _ b (by omega), ob, g1, ob, fit (by unfold LL at *; omega), fit (by unfold LL at *; simp; omega),
        ws (by simp; omega), ob, show idx (A0.mk o 0 [] [x, y]).Kids 1 = some y from rfl, ob, hw, T11 i2 l2 _ _ (by simp; omega), ob, Q18 x y h h']
      simp
    have e2 : T4 (A0.mk o 0 [] [x, y]) b = some (b ++ (A0.mk o 0 [] [x, y]).text) := by
      rw [T4, V1c, ob]
      cases h3 : lv o == 3 with
      | true => rw [if_pos (by simp)]; exact e1 4 (by rw [h3]; rfl)
      | false => rw [if_neg (by simp)]; exact e1 (lv o) (by rw [h3]; rfl)
    have e3 : U0 (A0.mk o 0 [] [x, y]) b = (T4 (A0.mk o 0 [] [x, y]) b >>= fun x29 => some x29) := by
      have n : ∀ k : Int, k < 8 ∨ 20 < k → (o == k) = false := fun k hk => beq_eq_false_iff_ne.2 (by omega)
      rw [U0]
      simp only [n 0 (by decide), n 1 (by decide), n 2 (by decide), n 3 (by decide), n 4 (by decide), n 5 (by decide), n 6 (by decide), n 7 (by decide)]
      rw [if_neg (by simp), if_neg (by simp), if_neg (by simp), if_neg (by simp), if_neg (by simp), if_neg (by simp), if_neg (by simp), B2, if_neg (by simp)]
      simp only [n 21 (by decide), n 22 (by decide), n 23 (by decide)]
      rw [if_neg (by simp), U2, if_neg (by simp)]
      simp only [n 23 (by decide)]
      rw [if_neg (by simp)]
    rw [e3, e2, ob]
  | min x y =>
    have i1 := ih' x (by simp); have i2 := ih' y (by simp)
    have l1 := hl x (by simp); have l2 := hl y (by simp)
    simp only [A0.bulk, A0.bulks] at hb
    rw [U0, if_neg (by simp), if_neg (by simp), if_neg (by simp), if_neg (by simp), if_neg (by simp), if_neg (by simp), if_neg (by simp), B2, if_neg (by simp), if_pos (by simp), U2, if_pos (by simp), if_neg (by simp), F4,
      ws (by simp; omega), ob, W3, L1, if_pos (by simp), show idx (A0.mk 21 0 [] [x, y]).Kids 0 = some x from rfl, ob, if_neg (by simp), i1 _ (by simp; omega), ob,
      show IntKind.i64.wrap (0 + 1) = 1 from rfl, L1, if_pos (by simp), show idx (A0.mk 21 0 [] [x, y]).Kids 1 = some y from rfl, ob, if_pos (by simp), ws (by simp; omega), ob, i2 _ (by simp; omega), ob,
      show IntKind.i64.wrap (1 + 1) = 2 from rfl, L1, if_neg (by simp), ob, ws (by simp; omega), ob]
    show some _ = some (b ++ ([109, 105, 110, 40] ++ x.text ++ [44, 32] ++ y.text ++ [41]))
    simp
  | max x y =>
    have i1 := ih' x (by simp); have i2 := ih' y (by simp)
    have l1 := hl x (by simp); have l2 := hl y (by simp)
    simp only [A0.bulk, A0.bulks] at hb
    rw [U0, if_neg (by simp), if_neg (by simp), if_neg (by simp), if_neg (by simp), if_neg (by simp), if_neg (by simp), if_neg (by simp), B2, if_neg (by simp), if_neg (by simp), U2, if_pos (by simp), if_pos (by simp), F4,
      ws (by simp; omega), ob, W3, L1, if_pos (by simp), show idx (A0.mk 22 0 [] [x, y]).Kids 0 = some x from rfl, ob, if_neg (by simp), i1 _ (by simp; omega), ob,
      show IntKind.i64.wrap (0 + 1) = 1 from rfl, L1, if_pos (by simp), show idx (A0.mk 22 0 [] [x, y]).Kids 1 = some y from rfl, ob, if_pos (by simp), ws (by simp; omega), ob, i2 _ (by simp; omega), ob,
      show IntKind.i64.wrap (1 + 1) = 2 from rfl, L1, if_neg (by simp), ob, ws (by simp; omega), ob]
    show some _ = some (b ++ ([109, 97, 120, 40] ++ x.text ++ [44, 32] ++ y.text ++ [41]))
    simp
  | cond x y z =>
    have i1 := ih' x (by simp); have i2 := ih' y (by simp); have i3 := ih' z (by simp)
    have l1 := hl x (by simp); have l2 := hl y (by simp); have l3 := hl z (by simp)
    have p1 := Si 1 (x.Op, x.text)
    simp only [A0.bulk, A0.bulks] at hb p1
    rw [U0, if_neg (by simp), if_neg (by simp), if_neg (by simp), if_neg (by simp), if_neg (by simp), if_neg (by simp), if_neg (by simp), B2, if_neg (by simp), if_neg (by simp), U2, if_neg (by simp), if_pos (by simp),
      show idx (A0.mk 23 0 [] [x, y, z]).Kids 0 = some x from rfl, ob, T11 i1 l1 1 b (by omega), ob, ws (by simp; omega), ob, show idx (A0.mk 23 0 [] [x, y, z]).Kids 1 = some y from rfl, ob, i2 _ (by simp; omega), ob,
      ws (by simp; omega), ob, show idx (A0.mk 23 0 [] [x, y, z]).Kids 2 = some z from rfl, ob, i3 _ (by simp; omega), ob]
    show some _ = some (b ++ (par 1 (x.Op, x.text) ++ [32, 63, 32] ++ y.text ++ [32, 58, 32] ++ z.text))
    simp
theorem U11 {k : A0} (hk : C1 k = some k.text) (hl : k.text.length ≤ 40 * k.bulk) (ho : k.bulk ≤ BB) (req : Int) : Zi k req = some (par req (k.Op, k.text)) := by
  rw [Zi, U1c, ob, hk, C10]
  unfold par
  cases h : decide (lv k.Op ≥ req) with
  | true => rfl
  | false =>
    unfold BB at ho
    rw [Bool.not_false, if_pos (by simp), ob, fit (by unfold LL; omega), fit (by unfold LL; simp; omega)]
    rfl
theorem Yh (e : A0) : Va e → C1 e = some e.text := by
  induction e using A0.ind with
  | h e ih =>
  intro hf
  have ih' := fun k hk => ih k hk (hf.kid hk)
  have hl := fun k hk => Y2 k (hf.kid hk)
  have hko := fun k hk => (hf.kid (k := k) hk).ok
  have hb := hf.ok
  unfold OkE BB at hb
  cases hf.shape with
  | lit n => rw [C1, if_pos (by simp), Pf hf.small, ob]; rfl
  | tt => rw [C1, if_neg (by simp), if_pos (by simp)]; rfl
  | ff => rw [C1, if_neg (by simp), if_neg (by simp), if_pos (by simp)]; rfl
  | name nm => rw [C1, if_neg (by simp), if_neg (by simp), if_neg (by simp), if_pos (by simp)]; rfl
  | field nm k =>
    have i1 := ih' k (by simp)
    have l1 := hl k (by simp)
    simp only [A0.bulk, A0.bulks] at hb
    rw [C1, if_neg (by simp), if_neg (by simp), if_neg (by simp), if_neg (by simp), if_pos (by simp), show idx (A0.mk 4 0 nm [k]).Kids 0 = some k from rfl, ob, i1, ob, fit (by unfold LL; omega), fit (by unfold LL; simp; omega)]
    show some ((k.text ++ [46]) ++ nm) = some (k.text ++ ([46] ++ nm))
    rw [List.append_assoc]
  | index x y =>
    have i1 := ih' x (by simp); have i2 := ih' y (by simp)
    have l1 := hl x (by simp); have l2 := hl y (by simp)
    simp only [A0.bulk, A0.bulks] at hb
    rw [C1, if_neg (by simp), if_neg (by simp), if_neg (by simp), if_neg (by simp), if_neg (by simp), if_pos (by simp), show idx (A0.mk 5 0 [] [x, y]).Kids 0 = some x from rfl, ob, i1, ob, fit (by unfold LL; omega),
      show idx (A0.mk 5 0 [] [x, y]).Kids 1 = some y from rfl, ob, i2, ob, fit (by unfold LL; simp; omega), fit (by unfold LL; simp; omega)]
    rfl
  | neg k =>
    have i1 := ih' k (by simp)
    have l1 := hl k (by simp)
    have p1 := Si 6 (k.Op, k.text)
    simp only [A0.bulk, A0.bulks] at hb p1
    rw [C1, if_neg (by simp), if_neg (by simp), if_neg (by simp), if_neg (by simp), if_neg (by simp), if_neg (by simp), if_pos (by simp), show idx (A0.mk 6 0 [] [k]).Kids 0 = some k from rfl, ob, U11 i1 l1 (hko k (by simp)), ob, fit (by unfold LL; omega)]
    rfl
  | not k =>
    have i1 := ih' k (by simp)
    have l1 := hl k (by simp)
    have p1 := Si 6 (k.Op, k.text)
    simp only [A0.bulk, A0.bulks] at hb p1
    rw [C1, if_neg (by simp), if_neg (by simp), if_neg (by simp), if_neg (by simp), if_neg (by simp), if_neg (by simp), if_neg (by simp), if_pos (by simp), show idx (A0.mk 7 0 [] [k]).Kids 0 = some k from rfl, ob, U11 i1 l1 (hko k (by simp)), ob, fit (by unfold LL; omega)]
    rfl
  | bin o x y h h' =>
    have i1 := ih' x (by simp); have i2 := ih' y (by simp)
    have l1 := hl x (by simp); have l2 := hl y (by simp)
    obtain ⟨_, g1, g2⟩ := A1c h h'
    have p1 := Si (bif lv o == 3 then 4 else lv o) (x.Op, x.text)
    have p2 := Si (lv o + 1) (y.Op, y.text)
    simp only [A0.bulk, A0.bulks] at hb p1 p2
    have hw : IntKind.i64.wrap (lv o + 1) = lv o + 1 := by rcases Jx h h' with rfl | rfl | rfl | rfl | rfl | rfl | rfl | rfl | rfl | rfl | rfl | rfl | rfl <;> rfl
    have e1 : ∀ left, left = (bif lv o == 3 then 4 else lv o) → Zd (A0.mk o 0 [] [x, y]) (lv o) left = some (A0.mk o 0 [] [x, y]).text := by
      rintro _ rfl
      rw [Zd, show idx (A0.mk o 0 [] [x, y]).Kids 0 = some x from rfl, ob, U11 i1 l1 (hko x (by simp)), ob, fit (by unfold LL; omega), g1, ob, fit (by unfold LL; simp; omega), fit (by unfold LL; simp; omega),
        show idx (A0.mk o 0 [] [x, y]).Kids 1 = some y from rfl, ob, hw, U11 i2 l2 (hko y (by simp)), ob, fit (by unfold LL; simp; omega), Q18 x y h h']
      simp
    have n : ∀ k : Int, k < 8 ∨ 20 < k → (o == k) = false := fun k hk => beq_eq_false_iff_ne.2 (by omega)
    rw [C1]
    simp only [n 0 (by decide), n 1 (by decide), n 2 (by decide), n 3 (by decide), n 4 (by decide), n 5 (by decide), n 6 (by decide), n 7 (by decide), n 21 (by decide), n 22 (by decide), n 23 (by decide)]
    rw [if_neg (by simp), if_neg (by simp), if_neg (by simp), if_neg (by simp), if_neg (by simp), if_neg (by simp), if_neg (by simp), if_neg (by simp), if_neg (by simp), if_neg (by simp), if_neg (by simp), U1c, ob]
    cases h3 : lv o == 3 with
    | true => rw [if_pos (by simp)]; exact e1 4 (by rw [h3]; rfl)
    | false => rw [if_neg (by simp)]; exact e1 (lv o) (by rw [h3]; rfl)
  | min x y =>
    have i1 := ih' x (by simp); have i2 := ih' y (by simp)
    have l1 := hl x (by simp); have l2 := hl y (by simp)
    simp only [A0.bulk, A0.bulks] at hb
    rw [C1, if_neg (by simp), if_neg (by simp), if_neg (by simp), if_neg (by simp), if_neg (by simp), if_neg (by simp), if_neg (by simp), if_neg (by simp), if_pos (by simp), show idx (A0.mk 21 0 [] [x, y]).Kids 0 = some x from rfl, ob, i1, ob,
      fit (by unfold LL; omega), fit (by unfold LL; simp; omega), show idx (A0.mk 21 0 [] [x, y]).Kids 1 = some y from rfl, ob, i2, ob, fit (by unfold LL; simp; omega), fit (by unfold LL; simp; omega)]
    rfl
  | max x y =>
    have i1 := ih' x (by simp); have i2 := ih' y (by simp)
    have l1 := hl x (by simp); have l2 := hl y (by simp)
    simp only [A0.bulk, A0.bulks] at hb
    rw [C1, if_neg (by simp), if_neg (by simp), if_neg (by simp), if_neg (by simp), if_neg (by simp), if_neg (by simp), if_neg (by simp), if_neg (by simp), if_neg (by simp), if_pos (by simp), show idx (A0.mk 22 0 [] [x, y]).Kids 0 = some x from rfl, ob, i1, ob,
      fit (by unfold LL; omega), fit (by unfold LL; simp; omega), show idx (A0.mk 22 0 [] [x, y]).Kids 1 = some y from rfl, ob, i2, ob, fit (by unfold LL; simp; omega), fit (by unfold LL; simp; omega)]
    rfl
  | cond x y z =>
    have i1 := ih' x (by simp); have i2 := ih' y (by simp); have i3 := ih' z (by simp)
    have l1 := hl x (by simp); have l2 := hl y (by simp); have l3 := hl z (by simp)
    have p1 := Si 1 (x.Op, x.text)
    simp only [A0.bulk, A0.bulks] at hb p1
    rw [C1, if_neg (by simp), if_neg (by simp), if_neg (by simp), if_neg (by simp), if_neg (by simp), if_neg (by simp), if_neg (by simp), if_neg (by simp), if_neg (by simp), if_neg (by simp), if_pos (by simp),
      show idx (A0.mk 23 0 [] [x, y, z]).Kids 0 = some x from rfl, ob, U11 i1 l1 (hko x (by simp)), ob, fit (by unfold LL; omega), show idx (A0.mk 23 0 [] [x, y, z]).Kids 1 = some y from rfl, ob, i2, ob,
      fit (by unfold LL; simp; omega), fit (by unfold LL; simp; omega), show idx (A0.mk 23 0 [] [x, y, z]).Kids 2 = some z from rfl, ob, i3, ob, fit (by unfold LL; simp; omega)]
    rfl
def V11 (s : Str) : Str × Int := bif decide ((s.length : Int) > 8192) then ([], 5) else (s, 0)
theorem V1r (b : Str) : R6 b = some (V11 b) := by
  unfold R6 Pg Ie V11
  rw [ob]
  cases decide ((b.length : Int) > 8192) <;> rfl
theorem I1p (b : Str) : Sr b = some (V11 b) := by
  unfold Sr V11
  cases decide ((b.length : Int) > 8192) <;> rfl
end Go.Proofs.YtmilgoloagbmpaaGreatDoor

set_option linter.unusedSimpArgs false
set_option linter.unusedVariables false
set_option maxHeartbeats 800000
namespace Go.Proofs.YtmilgoloagbmpaaGreatDoor
open Go.Am
def He : Bool → List Str → List Str → Str
  | f, n :: ns, t :: ts => (bif f then [] else [44, 32]) ++ (n ++ [58, 32] ++ t) ++ He false ns ts
  | _, _, _ => []
def ttx (k lo hi sz : Int) (nm : Str) (ns : List Str) (ks : List Str) : Str :=
  bif k == 0 then [98, 111, 111, 108] else bif k == 1 then [105, 110, 116, 91] ++ Lib.itoa lo ++ [46, 46] ++ Lib.itoa hi ++ [93]
  else bif k == 2 then [97, 114, 114, 97, 121, 32] ++ Lib.itoa sz ++ [32, 111, 102, 32] ++ ks.getD 0 []
  else bif k == 3 then [114, 101, 99, 111, 114, 100, 32, 123] ++ He true ns ks ++ [125] else nm
mutual
def D0.text : D0 → Str
  | .mk k lo hi sz nm ns ks => ttx k lo hi sz nm ns (D0.texts ks)
def D0.texts : List D0 → List Str
  | [] => []
  | x :: r => D0.text x :: D0.texts r
end
inductive Kz : D0 → Prop
  | bool : Kz (.mk 0 0 0 0 [] [] [])
  | int (lo hi) (h : Z5 lo) (h' : Z5 hi) : Kz (.mk 1 lo hi 0 [] [] [])
  | array (sz k) (h : Z5 sz) : Kz (.mk 2 0 0 sz [] [] [k])
  | record (ns ks) (h : ns.length = ks.length) (h' : 1 ≤ ks.length) : Kz (.mk 3 0 0 0 [] ns ks)
  | name (nm) : Kz (.mk 4 0 0 0 nm [] [])
theorem J1p (t : D0) (h : Ua t = true) (hn : Up t = true) : Kz t := by
  obtain ⟨k, lo, hi, sz, nm, ns, ks⟩ := t
  unfold Ua at h
  unfold Up at hn
  simp only [Bool.and_eq_true] at h hn
  obtain ⟨⟨⟨⟨⟨h1, h2⟩, h3⟩, h4⟩, h5⟩, h6⟩ := h
  obtain ⟨u1, u2⟩ := hn
  have hk : k = 0 ∨ k = 1 ∨ k = 2 ∨ k = 3 ∨ k = 4 := by
    unfold fm1 at h1
    simp at h1
    omega
  rcases hk with rfl | rfl | rfl | rfl | rfl
  · simp [fm2, fm3, fm4, fm5, fm6] at h2 h3 h4 h5 h6
    obtain ⟨rfl, rfl⟩ := h2
    subst h3 h4 h5 h6
    exact .bool
  · simp [fm2, fm3, fm4, fm5, fm6] at h3 h4 h5 h6
    simp [nm2, A2] at u2
    subst h3 h4 h5 h6
    exact .int _ _ (by unfold Z5; omega) (by unfold Z5; omega)
  · simp [fm2, fm3, fm4, fm5, fm6] at h2 h4 h5 h6
    simp [nm1, A2] at u1
    obtain ⟨rfl, rfl⟩ := h2
    obtain ⟨k, rfl⟩ := List.length_eq_one_iff.1 (show ks.length = 1 by omega)
    subst h4 h5
    exact .array _ _ (by unfold Z5; omega)
  · simp [fm2, fm3, fm4, fm5, fm6] at h2 h3 h4 h6
    obtain ⟨rfl, rfl⟩ := h2
    subst h3 h4
    exact .record _ _ (by omega) (by omega)
  · simp [fm2, fm3, fm4, fm5, fm6] at h2 h3 h5 h6
    obtain ⟨rfl, rfl⟩ := h2
    subst h3 h5 h6
    exact .name _
structure Cs (t : D0) : Prop where
  form : t.all Ua = true
  numb : t.all Up = true
  ok : Ok t
theorem Cs.kid {t k : D0} (h : Cs t) (hk : k ∈ t.Of) : Cs k := by
  have h1 := h.form
  have h2 := h.numb
  rw [D0.all_eq, Bool.and_eq_true] at h1 h2
  exact ⟨D0.alls_mem h1.2 hk, D0.alls_mem h2.2 hk, h.ok.kid hk⟩
theorem Cs.shape {t : D0} (h : Cs t) : Kz t := by
  have h1 := h.form
  have h2 := h.numb
  rw [D0.all_eq, Bool.and_eq_true] at h1 h2
  exact J1p t h1.1 h2.1
theorem Y1h : ∀ (f : Bool) (ns : List Str) (ks : List D0), (∀ k ∈ ks, k.text.length ≤ 64 * k.bulk) → (He f ns (D0.texts ks)).length ≤ 64 * ((ns.map fun s => s.length + 1).sum + D0.bulks ks)
  | f, [], ks, _ => by cases ks <;> simp [He]
  | f, n :: ns, [], _ => by simp [He, D0.texts]
  | f, n :: ns, k :: ks, h => by
    have := Y1h false ns ks (fun x hx => h x (List.mem_cons_of_mem _ hx))
    have := h k List.mem_cons_self
    simp only [He, D0.texts, D0.bulks, List.map_cons, List.sum_cons, List.length_append, List.length_cons, List.length_nil] at *
    cases f <;> simp <;> omega
theorem La (t : D0) : Cs t → t.text.length ≤ 64 * t.bulk := by
  induction t using D0.ind with
  | h t ih =>
  intro hf
  have ih' := fun k hk => ih k hk (hf.kid hk)
  cases hf.shape with
  | bool => decide
  | int lo hi h h' =>
    have := Y4 h; have := Y4 h'
    show ([105, 110, 116, 91] ++ Lib.itoa lo ++ [46, 46] ++ Lib.itoa hi ++ [93]).length ≤ _
    simp only [D0.bulk, D0.bulks, List.map_nil, List.sum_nil, List.length_append, List.length_cons, List.length_nil]; omega
  | array sz k h =>
    have := Y4 h; have := ih' k (by simp)
    show ([97, 114, 114, 97, 121, 32] ++ Lib.itoa sz ++ [32, 111, 102, 32] ++ k.text).length ≤ _
    simp only [D0.bulk, D0.bulks, List.map_nil, List.sum_nil, List.length_append, List.length_cons, List.length_nil]; omega
  | record ns ks h h' =>
    have := Y1h true ns ks ih'
    show ([114, 101, 99, 111, 114, 100, 32, 123] ++ He true ns (D0.texts ks) ++ [125]).length ≤ _
    simp only [D0.bulk, List.length_append, List.length_cons, List.length_nil]; omega
  | name nm => show nm.length ≤ _; simp only [D0.bulk, D0.bulks]; omega
theorem F10 (f : Bool) (n : Str) (ns : List Str) (k : D0) (ks : List D0) : He f (n :: ns) (D0.texts (k :: ks)) = (bif f then [] else [44, 32]) ++ (n ++ [58, 32] ++ k.text) ++ He false ns (D0.texts ks) := rfl
theorem Z1h {t : D0} (h : t.Names.length = t.Of.length) {k : Nat} {x : D0} {r : List D0} (hr : t.Of.drop k = x :: r) : ∃ n ns, t.Names.drop k = n :: ns ∧ idx t.Names (k : Int) = some n := by
  have hk := (W1 hr).2.2.2.1
  cases hn : t.Names.drop k with
  | nil => have := (K1 hn).2; omega
  | cons n ns => exact ⟨n, ns, rfl, (W1 hn).2.1⟩
theorem A1i (t : D0) (ht : Cs t) (hlen : t.Names.length = t.Of.length) (ih : ∀ k ∈ t.Of, ∀ b : Str, b.length + 64 * k.bulk ≤ LL → R1 k b = some (b ++ k.text)) :
    ∀ (r : List D0) (k : Nat) (ns : List Str) (b : Str), t.Of.drop k = r → t.Names.drop k = ns → b.length + 64 * ((ns.map fun s => s.length + 1).sum + D0.bulks r) + 1 ≤ LL →
      V3 t b k = some (b ++ He (k == 0) ns (D0.texts r) ++ [125])
  | [], k, ns, b, h, hn, hb => by
    rw [V3, (K1 h).1, if_neg (by simp), ws (by simp; omega), ob]
    have : He (k == 0) ns (D0.texts []) = [] := by cases ns <;> rfl
    rw [this]
    simp
  | x :: r, k, ns, b, h, hn, hb => by
    obtain ⟨e1, e2, e3, e4, e5⟩ := W1 h
    obtain ⟨n, ms, hm, hi⟩ := Z1h hlen h
    rw [hm] at hn
    subst hn
    have hms := (W1 hm).2.2.1
    have hof := ht.ok.ofs
    have hxl := La x (ht.kid e5)
    simp only [List.map_cons, List.sum_cons, D0.bulks] at hb
    have step : ∀ c : Str, c.length ≤ b.length + 2 → U4 t c x k k = some (c ++ (n ++ [58, 32] ++ x.text) ++ He false ms (D0.texts r) ++ [125]) := fun c hc => by
      rw [U4, hi, ob, fit (by unfold LL at *; omega), ws (by simp; omega), ob, ih x e5 _ (by simp; omega), ob, w1 (by omega), A1i t ht hlen ih r (k + 1) ms _ e3 hms (by simp; omega)]
      simp
    rw [V3, e1, if_pos rfl, e2, ob]
    cases k with
    | zero =>
      rw [if_neg (by simp), step b (by omega)]
      simp [F10]
    | succ k =>
      rw [if_pos (decide_eq_true (by omega)), ws (by simp; omega), ob, step (b ++ [44, 32]) (by simp)]
      simp [F10]
theorem R18 (t : D0) : Cs t → ∀ b : Str, b.length + 64 * t.bulk ≤ LL → R1 t b = some (b ++ t.text) := by
  induction t using D0.ind with
  | h t ih =>
  intro hf b hb
  have ih' := fun k hk => ih k hk (hf.kid hk)
  cases hf.shape with
  | bool =>
    simp only [D0.bulk, D0.bulks, List.map_nil, List.sum_nil, List.length_nil] at hb
    rw [R1, if_pos (by simp), ws (by simp; omega), ob]
    rfl
  | int lo hi h h' =>
    have := Y4 h; have := Y4 h'
    simp only [D0.bulk, D0.bulks, List.map_nil, List.sum_nil, List.length_nil] at hb
    rw [R1, if_neg (by simp), if_pos (by simp), Ll h, ob, fit (by unfold LL; omega), fit (by unfold LL; simp; omega), Ll h', ob, fit (by unfold LL; simp; omega), fit (by unfold LL; simp; omega), ws (by simp; omega), ob]
    rfl
  | array sz k h =>
    have := Y4 h
    have i1 := ih' k (by simp)
    simp only [D0.bulk, D0.bulks, List.map_nil, List.sum_nil, List.length_nil] at hb
    rw [R1, if_neg (by simp), if_neg (by simp), if_pos (by simp), Ll h, ob, fit (by unfold LL; omega), fit (by unfold LL; simp; omega), ws (by simp; omega), ob, show idx (D0.mk 2 0 0 sz [] [] [k]).Of 0 = some k from rfl, ob,
      i1 _ (by simp; omega), ob]
    show some _ = some (b ++ ([97, 114, 114, 97, 121, 32] ++ Lib.itoa sz ++ [32, 111, 102, 32] ++ k.text))
    simp
  | record ns ks h h' =>
    simp only [D0.bulk] at hb
    have := A1i (.mk 3 0 0 0 [] ns ks) hf h ih' ks 0 ns (b ++ [114, 101, 99, 111, 114, 100, 32, 123]) rfl rfl (by simp; omega)
    rw [show ((0 : Nat) : Int) = 0 from rfl] at this
    rw [R1, if_neg (by simp), if_neg (by simp), if_neg (by simp), if_pos (by simp), ws (by simp; omega), ob, this]
    show some _ = some (b ++ ([114, 101, 99, 111, 114, 100, 32, 123] ++ He true ns (D0.texts ks) ++ [125]))
    simp
  | name nm =>
    simp only [D0.bulk, D0.bulks, List.map_nil, List.sum_nil, List.length_nil] at hb
    rw [R1, if_neg (by simp), if_neg (by simp), if_neg (by simp), if_neg (by simp), if_pos (by simp), ws (by simp only; omega), ob]
    rfl
theorem B1i (t : D0) (ht : Cs t) (hlen : t.Names.length = t.Of.length) (ih : ∀ k ∈ t.Of, E2 k = some k.text) :
    ∀ (r : List D0) (k : Nat) (ns : List Str) (b : Str), t.Of.drop k = r → t.Names.drop k = ns → b.length + 64 * ((ns.map fun s => s.length + 1).sum + D0.bulks r) + 1 ≤ LL →
      Qb t b k = some (b ++ He (k == 0) ns (D0.texts r) ++ [125])
  | [], k, ns, b, h, hn, hb => by
    rw [Qb, (K1 h).1, if_neg (by simp), fit (by omega)]
    have : He (k == 0) ns (D0.texts []) = [] := by cases ns <;> rfl
    rw [this]
    simp
  | x :: r, k, ns, b, h, hn, hb => by
    obtain ⟨e1, e2, e3, e4, e5⟩ := W1 h
    obtain ⟨n, ms, hm, hi⟩ := Z1h hlen h
    rw [hm] at hn
    subst hn
    have hms := (W1 hm).2.2.1
    have hof := ht.ok.ofs
    have hxl := La x (ht.kid e5)
    simp only [List.map_cons, List.sum_cons, D0.bulks] at hb
    have step : ∀ c : Str, c.length ≤ b.length + 2 → Ae t c k = some (c ++ (n ++ [58, 32] ++ x.text) ++ He false ms (D0.texts r) ++ [125]) := fun c hc => by
      rw [Ae, hi, ob, fit (by omega), fit (by simp; omega), e2, ob, ih x e5, ob, fit (by simp; omega), w1 (by omega), B1i t ht hlen ih r (k + 1) ms _ e3 hms (by simp; omega)]
      simp
    rw [Qb, e1, if_pos rfl]
    cases k with
    | zero =>
      rw [if_neg (by simp), step b (by omega)]
      simp [F10]
    | succ k =>
      rw [if_pos (decide_eq_true (by omega)), fit (by omega), step (b ++ [44, 32]) (by simp)]
      simp [F10]
theorem Ej (t : D0) : Cs t → E2 t = some t.text := by
  induction t using D0.ind with
  | h t ih =>
  intro hf
  have ih' := fun k hk => ih k hk (hf.kid hk)
  have hb := hf.ok
  unfold Ok BB at hb
  cases hf.shape with
  | bool => rw [E2, if_neg (by simp), if_neg (by simp), if_neg (by simp), if_neg (by simp)]; rfl
  | int lo hi h h' =>
    have := Y4 h; have := Y4 h'
    rw [E2, if_pos (by simp), Pf h, ob, fit (by unfold LL; omega), fit (by unfold LL; simp; omega), Pf h', ob, fit (by unfold LL; simp; omega), fit (by unfold LL; simp; omega)]
    rfl
  | array sz k h =>
    have := Y4 h
    have i1 := ih' k (by simp)
    have l1 := La k (hf.kid (by simp))
    simp only [D0.bulk, D0.bulks, List.map_nil, List.sum_nil, List.length_nil] at hb
    rw [E2, if_neg (by simp), if_pos (by simp), Pf h, ob, fit (by unfold LL; omega), fit (by unfold LL; simp; omega), show idx (D0.mk 2 0 0 sz [] [] [k]).Of 0 = some k from rfl, ob, i1, ob, fit (by unfold LL; simp; omega)]
    rfl
  | record ns ks h h' =>
    simp only [D0.bulk] at hb
    have := B1i (.mk 3 0 0 0 [] ns ks) hf h ih' ks 0 ns [114, 101, 99, 111, 114, 100, 32, 123] rfl rfl (by unfold LL; simp; omega)
    rw [show ((0 : Nat) : Int) = 0 from rfl] at this
    rw [E2, if_neg (by simp), if_neg (by simp), if_neg (by simp), if_pos (by simp), this]
    rfl
  | name nm => rw [E2, if_neg (by simp), if_neg (by simp), if_pos (by simp)]; rfl
end Go.Proofs.YtmilgoloagbmpaaGreatDoor

set_option linter.unusedSimpArgs false
set_option linter.unusedVariables false
namespace Go.Proofs.YtmilgoloagbmpaaGreatDoor
open Go.Am
theorem A16 {α : Type} {l : List α} {k : Nat} (h : k < l.length) : ∃ y, idx l (k : Int) = some y ∧ l.drop k = y :: l.drop (k + 1) ∧ y ∈ l := by
  refine ⟨l[k], ?_, List.drop_eq_getElem_cons h, List.getElem_mem h⟩
  unfold idx
  rw [if_pos (by omega)]
  simp [h]
theorem z0 : (0 : Int) = ((0 : Nat) : Int) := rfl
theorem W1c (t u : D0) (ht : Ok t) (hl : t.Of.length = u.Of.length) (ih : ∀ x ∈ t.Of, ∀ y, Wb x y = some (x.same y)) :
    ∀ (r : List D0) (k : Nat), t.Of.drop k = r → L7 t u k = some (eqL D0.same r (u.Of.drop k))
  | [], k, h => by
    rw [L7, (K1 h).1, if_neg (by simp), List.drop_eq_nil_of_le (by have := (K1 h).2; omega)]; rfl
  | x :: r, k, h => by
    obtain ⟨e1, e2, e3, e4, e5⟩ := W1 h
    obtain ⟨y, f1, f2, f3⟩ := A16 (l := u.Of) (k := k) (by omega)
    have := ht.ofs
    rw [L7, e1, if_pos rfl, e2, ob, f1, ob, ih x e5 y, ob, w1 (by omega), W1c t u ht hl ih r (k + 1) e3, f2, eqL]
    cases x.same y <;> simp
theorem X1c (t u : D0) (ht : Ok t) (hl : t.Names.length = u.Names.length) (b : Bool) (hb : L7 t u 0 = some b) :
    ∀ (r : List Str) (k : Nat), t.Names.drop k = r → M9 t u k = some (eqL (fun x y => x == y) r (u.Names.drop k) && b)
  | [], k, h => by
    rw [M9, (K1 h).1, if_neg (by simp), List.drop_eq_nil_of_le (by have := (K1 h).2; omega), hb]; rfl
  | x :: r, k, h => by
    obtain ⟨e1, e2, e3, e4, e5⟩ := W1 h
    obtain ⟨y, f1, f2, f3⟩ := A16 (l := u.Names) (k := k) (by omega)
    have := ht.names
    rw [M9, e1, if_pos rfl, e2, ob, f1, ob, w1 (by omega), X1c t u ht hl b hb r (k + 1) e3, f2, eqL]
    cases x == y <;> simp
theorem K1p (t : D0) : Ok t → ∀ u, Wb t u = some (t.same u) := by
  induction t using D0.ind with
  | h t ih =>
  intro ht u
  have ih' := fun x hx => ih x hx (ht.kid hx)
  rw [Wb]
  show (if Z1b t u = true then _ else _) = _
  cases hd : Z1b t u with
  | true => rw [if_pos rfl, C1p hd]
  | false =>
    obtain ⟨h1, h2, h3⟩ := N1r hd
    have h4 := W1c t u ht h3 ih' t.Of 0 rfl
    have h5 := X1c t u ht h2 _ h4 t.Names 0 rfl
    rw [if_neg (by simp), z0, h5, h1]
    rfl
theorem C1i (s u : List Str) (hs : s.length ≤ BB) (hl : s.length = u.length) : ∀ (r : List Str) (k : Nat), s.drop k = r → Q1 s u k = some (eqL (fun x y => x == y) r (u.drop k))
  | [], k, h => by
    rw [Q1, (K1 h).1, if_neg (by simp), List.drop_eq_nil_of_le (by have := (K1 h).2; omega)]; rfl
  | x :: r, k, h => by
    obtain ⟨e1, e2, e3, e4, e5⟩ := W1 h
    obtain ⟨y, f1, f2, f3⟩ := A16 (l := u) (k := k) (by omega)
    rw [Q1, e1, if_pos rfl, e2, ob, f1, ob, w1 (by omega), C1i s u hs hl r (k + 1) e3, f2, eqL]
    cases x == y <;> simp
theorem L1p (s u : List Str) (hs : s.length ≤ BB) : B5 s u = some (eqL (fun x y => x == y) s u) := by
  unfold B5
  by_cases hl : s.length = u.length
  · rw [if_neg (by simp; omega), z0, C1i s u hs hl s 0 rfl]; rfl
  · rw [if_pos (by simp; omega), Yv _ hl]
theorem D1i (s u : List D0) (hs : s.length ≤ BB) (hl : s.length = u.length) (ih : ∀ x ∈ s, ∀ y, R5 x y = some (x.same y)) :
    ∀ (r : List D0) (k : Nat), s.drop k = r → Y0 s u k = some (eqL D0.same r (u.drop k))
  | [], k, h => by
    rw [Y0, (K1 h).1, if_neg (by simp), List.drop_eq_nil_of_le (by have := (K1 h).2; omega)]; rfl
  | x :: r, k, h => by
    obtain ⟨e1, e2, e3, e4, e5⟩ := W1 h
    obtain ⟨y, f1, f2, f3⟩ := A16 (l := u) (k := k) (by omega)
    rw [Y0, e1, if_pos rfl, e2, ob, f1, ob, ih x e5 y, ob, w1 (by omega), D1i s u hs hl ih r (k + 1) e3, f2, eqL]
    cases x.same y <;> simp
theorem L1n (t : D0) : Ok t → ∀ u, R5 t u = some (t.same u) := by
  induction t using D0.ind with
  | h t ih =>
  intro ht u
  have ih' := fun x hx => ih x hx (ht.kid hx)
  have hO : G1 t.Of u.Of = some (eqL D0.same t.Of u.Of) := by
    rw [G1]
    by_cases hl : t.Of.length = u.Of.length
    · rw [if_neg (by simp; omega), z0, D1i t.Of u.Of ht.ofs hl ih' t.Of 0 rfl]; rfl
    · rw [if_pos (by simp; omega), Yv _ hl]
  rw [R5, hO, L1p _ _ ht.names, D0.same_eq]
  generalize eqL D0.same t.Of u.Of = a
  generalize eqL (fun x y => x == y) t.Names u.Names = b
  cases t.Kind == u.Kind <;> cases t.Low == u.Low <;> cases t.High == u.High <;> cases t.Size == u.Size <;> cases t.Name == u.Name <;> cases b <;> cases a <;> rfl
mutual
def A0.same : A0 → A0 → Bool
  | .mk o n nm ks, t => o == t.Op && n == t.NV && nm == t.Name && A0.sames ks t.Kids
def A0.sames : List A0 → List A0 → Bool
  | [], [] => true
  | x :: r, y :: s => A0.same x y && A0.sames r s
  | [], _ :: _ => false
  | _ :: _, [] => false
end
theorem A0.sames_eq : ∀ l m : List A0, A0.sames l m = eqL A0.same l m
  | [], [] => rfl
  | x :: r, y :: s => by simp only [A0.sames, eqL, A0.sames_eq r s]
  | [], _ :: _ => rfl
  | _ :: _, [] => rfl
theorem A0.same_eq (t u : A0) : t.same u = (t.Op == u.Op && t.NV == u.NV && t.Name == u.Name && eqL A0.same t.Kids u.Kids) := by
  rw [← A0.sames_eq]
  cases t
  rfl
theorem M1p (s u : List A0) (hs : s.length ≤ BB) (hl : s.length = u.length) (ih : ∀ x ∈ s, ∀ y, C5 x y = some (x.same y)) :
    ∀ (r : List A0) (k : Nat), s.drop k = r → Z0 s u k = some (eqL A0.same r (u.drop k))
  | [], k, h => by
    rw [Z0, (K1 h).1, if_neg (by simp), List.drop_eq_nil_of_le (by have := (K1 h).2; omega)]; rfl
  | x :: r, k, h => by
    obtain ⟨e1, e2, e3, e4, e5⟩ := W1 h
    obtain ⟨y, f1, f2, f3⟩ := A16 (l := u) (k := k) (by omega)
    rw [Z0, e1, if_pos rfl, e2, ob, f1, ob, ih x e5 y, ob, w1 (by omega), M1p s u hs hl ih r (k + 1) e3, f2, eqL]
    cases x.same y <;> simp
theorem W1r (s u : List A0) (hs : s.length ≤ BB) (ih : ∀ x ∈ s, ∀ y, C5 x y = some (x.same y)) : H1 s u = some (eqL A0.same s u) := by
  rw [H1]
  by_cases hl : s.length = u.length
  · rw [if_neg (by simp; omega), z0, M1p s u hs hl ih s 0 rfl]; rfl
  · rw [if_pos (by simp; omega), Yv _ hl]
theorem M1n (t : A0) : OkE t → ∀ u, C5 t u = some (t.same u) := by
  induction t using A0.ind with
  | h t ih =>
  intro ht u
  rw [C5, W1r t.Kids u.Kids ht.kids (fun x hx => ih x hx (ht.kid hx)), A0.same_eq]
  generalize eqL A0.same t.Kids u.Kids = a
  cases t.Op == u.Op <;> cases t.NV == u.NV <;> cases t.Name == u.Name <;> cases a <;> rfl
theorem N1p (t u : A0) (ht : OkE t) (hl : t.Kids.length = u.Kids.length) (ih : ∀ x ∈ t.Kids, ∀ y, Zb x y = some (x.same y)) :
    ∀ (r : List A0) (k : Nat), t.Kids.drop k = r → O9 t u k = some (eqL A0.same r (u.Kids.drop k))
  | [], k, h => by
    rw [O9, (K1 h).1, if_neg (by simp), List.drop_eq_nil_of_le (by have := (K1 h).2; omega)]; rfl
  | x :: r, k, h => by
    obtain ⟨e1, e2, e3, e4, e5⟩ := W1 h
    obtain ⟨y, f1, f2, f3⟩ := A16 (l := u.Kids) (k := k) (by omega)
    have := ht.kids
    rw [O9, e1, if_pos rfl, e2, ob, f1, ob, ih x e5 y, ob, w1 (by omega), N1p t u ht hl ih r (k + 1) e3, f2, eqL]
    cases x.same y <;> simp
theorem N1n (t : A0) : OkE t → ∀ u, Zb t u = some (t.same u) := by
  induction t using A0.ind with
  | h t ih =>
  intro ht u
  have ih' := fun x hx => ih x hx (ht.kid hx)
  rw [Zb, A0.same_eq]
  by_cases hl : t.Kids.length = u.Kids.length
  · have h4 := N1p t u ht hl ih' t.Kids 0 rfl
    have hb : (bif (bif (bif (t.Op != u.Op) then true else (t.NV != u.NV)) then true else (!(t.Name == u.Name))) then true else ((t.Kids.length : Int) != (u.Kids.length : Int))) = !(t.Op == u.Op && t.NV == u.NV && t.Name == u.Name) := by
      have : ((t.Kids.length : Int) != (u.Kids.length : Int)) = false := by simp; omega
      rw [this]
      unfold bne
      cases t.Op == u.Op <;> cases t.NV == u.NV <;> cases t.Name == u.Name <;> rfl
    rw [hb, z0, h4]
    cases (t.Op == u.Op && t.NV == u.NV && t.Name == u.Name) <;> simp
  · have : ((t.Kids.length : Int) != (u.Kids.length : Int)) = true := by simp; omega
    rw [this, Yv _ hl, Bool.and_false]
    generalize (bif (bif (t.Op != u.Op) then true else (t.NV != u.NV)) then true else (!(t.Name == u.Name))) = b
    cases b <;> rfl
def Gk (e : A0) : Bool := e.same ⟨0, 0, [], []⟩
def Lw (t : D0) : Bool := t.same ⟨0, 0, 0, 0, [], [], []⟩
theorem G10 (e : A0) (h : OkE e) : Ad e = some (Gk e) := by unfold Ad; rw [N1n e h]; rfl
theorem O1p (t : D0) (h : Ok t) : Bl t = some (Lw t) := by unfold Bl; rw [K1p t h]; rfl
theorem Fg {e : A0} (h : Gk e = true) : e = ⟨0, 0, [], []⟩ := by
  unfold Gk at h
  rw [A0.same_eq] at h
  obtain ⟨o, n, nm, ks⟩ := e
  simp only [Bool.and_eq_true, beq_iff_eq] at h
  obtain ⟨⟨⟨rfl, rfl⟩, rfl⟩, h4⟩ := h
  cases ks with
  | nil => rfl
  | cons x r => cases h4
theorem X1r {t : D0} (h : Lw t = true) : t = ⟨0, 0, 0, 0, [], [], []⟩ := by
  unfold Lw at h
  rw [D0.same_eq] at h
  obtain ⟨a, b, c, d, nm, ns, ks⟩ := t
  simp only [Bool.and_eq_true, beq_iff_eq] at h
  obtain ⟨⟨⟨⟨⟨⟨rfl, rfl⟩, rfl⟩, rfl⟩, rfl⟩, h5⟩, h4⟩ := h
  cases ks with
  | nil =>
    cases ns with
    | nil => rfl
    | cons x r => cases h5
  | cons x r => cases h4
end Go.Proofs.YtmilgoloagbmpaaGreatDoor

namespace Go.Proofs.YtmilgoloagbmpaaGreatDoor
open Go.Am
mutual
def B0.bulk : B0 → Nat
  | .mk y0 y1 y2 y3 y4 y5 y6 y7 y8 y9 y10 => 1 + (A0.bulk y1 + (A0.bulk y2 + ((y3.length + 1) + ((A0.bulks y4 + 1) + (1 + (1 + (1 + (((y8.map fun _ => 1).sum + 1) + ((B0.bulks y9 + 1) + ((B0.bulks y10 + 1) + (0))))))))))) + 1
def B0.bulks : List B0 → Nat
  | [] => 0
  | x :: r => B0.bulk x + B0.bulks r
end
mutual
def E0.bulk : E0 → Nat
  | .mk y0 y1 y2 y3 y4 y5 y6 y7 => 1 + ((y1.length + 1) + (D0.bulk y2 + (1 + (A0.bulk y4 + ((E0.bulks y5 + 1) + ((E0.bulks y6 + 1) + ((B0.bulks y7 + 1) + (0)))))))) + 1
def E0.bulks : List E0 → Nat
  | [] => 0
  | x :: r => E0.bulk x + E0.bulks r
end
mutual
def L0.bulk : L0 → Nat
  | .mk y0 y1 => (E0.bulks y0 + 1) + ((B0.bulks y1 + 1) + (0)) + 1
def L0.bulks : List L0 → Nat
  | [] => 0
  | x :: r => L0.bulk x + L0.bulks r
end
end Go.Proofs.YtmilgoloagbmpaaGreatDoor

set_option linter.unusedSimpArgs false
set_option linter.unusedVariables false
set_option maxHeartbeats 1000000
namespace Go.Proofs.YtmilgoloagbmpaaGreatDoor
open Go.Am
def uPl (v : Int) : Bool := bif (bif (v == 0) then true else (v == 1)) then true else (v == 2)
def uVa (v : Int) : Bool := bif (bif (bif (v == 0) then true else (v == 3)) then true else (v == 5)) then true else (v == 6)
def uNm (v : Int) : Bool := bif (bif (v == 1) then true else (v == 2)) then true else (v == 7)
def uNn (v : Int) : Bool := bif (v == 4) then true else (v == 6)
def uTh (v : Int) : Bool := bif (bif (v == 5) then true else (v == 6)) then true else (v == 7)
def okV (v : Int) : Bool := !(bif decide (v < 0) then true else decide (v > 8))
def stU (v : Int) : P0 × Bool := (⟨uPl v, uVa v, uNm v, v == 1, uNn v, v == 7, v == 8, uTh v, v == 5⟩, okV v)
theorem E1i (v : Int) : Wc v = some (stU v) := by
  have h : (v < 0 ∨ 8 < v) ∨ v = 0 ∨ v = 1 ∨ v = 2 ∨ v = 3 ∨ v = 4 ∨ v = 5 ∨ v = 6 ∨ v = 7 ∨ v = 8 := by omega
  rcases h with h | rfl | rfl | rfl | rfl | rfl | rfl | rfl | rfl | rfl
  · have f : ∀ k : Int, 0 ≤ k ∧ k ≤ 8 → (v == k) = false := fun k hk => beq_eq_false_iff_ne.2 (by omega)
    have hv : okV v = false := by
      unfold okV
      rcases h with h | h
      · rw [decide_eq_true h]; rfl
      · rw [decide_eq_true (show v > 8 from h)]; cases decide (v < 0) <;> rfl
    unfold Wc stU uPl uVa uNm uNn uTh
    rw [hv]
    simp only [f 0 (by decide), f 1 (by decide), f 2 (by decide), f 3 (by decide), f 4 (by decide), f 5 (by decide), f 6 (by decide), f 7 (by decide), f 8 (by decide)]
    rfl
  all_goals rfl
def oN (e : A0) (u : Bool) : Nat := bif (bif !u then Gk e else false) then 0 else e.nodes
def oD (e : A0) (u : Bool) : Nat := bif (bif !u then Gk e else false) then 0 else e.depth
def oF (e : A0) (u : Bool) : Bool := bif u then e.all G5 else Gk e
theorem O1n (e : A0) (u : Bool) : oN e u ≤ e.bulk := by
  unfold oN
  have := A0.nodes_bulk e
  cases (bif !u then Gk e else false) <;> simp <;> omega
def So : Int → List Int → Bool
  | _, [] => true
  | l, n :: r => (bif A2 n 0 1048576 then decide (n > l) else false) && So n r
def Jn (s : B0) : Bool :=
  bif s.Verb == 4 then A2 s.NV 0 1048576 else bif s.Verb == 6 then A2 s.NV 0 4096
  else bif s.Verb == 7 then (bif (bif A2 s.Low (-1048576) 1048576 then A2 s.High s.Low 1048576 else false) then decide (s.High - s.Low < 4096) else false)
  else bif s.Verb == 8 then A2 (s.Numbers.length : Int) 1 32 && So (-1) s.Numbers else true
def J8 (s : B0) : Bool :=
  okV s.Verb && oF s.Place (uPl s.Verb) && (bif uPl s.Verb then s.Place.place else true) && oF s.Value (uVa s.Verb) && (bif uNm s.Verb then true else s.Name == []) && (bif s.Verb == 1 then true else ((s.Args.length : Int) == 0)) && A0.alls G5 s.Args
  && (bif uNn s.Verb then true else s.NV == 0) && (bif s.Verb == 7 then true else (bif s.Low == 0 then s.High == 0 else false)) && (bif s.Verb == 8 then true else ((s.Numbers.length : Int) == 0))
  && (bif uTh s.Verb then true else ((s.Then.length : Int) == 0)) && (bif s.Verb == 5 then true else ((s.Else.length : Int) == 0))
def Wd (s : B0) : Bool := s.Place.all H7 && s.Value.all H7 && (bif uNm s.Verb then Hb s.Name else true) && A0.alls H7 s.Args
def Wa (s : B0) : Bool := s.Place.all L6 && s.Value.all L6 && A0.alls L6 s.Args && Jn s
mutual
def B0.nds : B0 → Nat
  | .mk v pl va nm ar n lo hi ns th el => 1 + (oN pl (uPl v) + (oN va (uVa v) + (A0.nodess ar + (B0.ndss th + B0.ndss el))))
def B0.ndss : List B0 → Nat
  | [] => 0
  | x :: r => B0.nds x + B0.ndss r
end
mutual
def B0.dps : B0 → Nat → Nat
  | .mk v pl va nm ar n lo hi ns th el, d => max d (max (oD pl (uPl v)) (max (oD va (uVa v)) (max (A0.depths ar) (max (B0.dpss th (d + 1)) (B0.dpss el (d + 1))))))
def B0.dpss : List B0 → Nat → Nat
  | [], _ => 0
  | x :: r, d => max (B0.dps x d) (B0.dpss r d)
end
mutual
def B0.all (p : B0 → Bool) : B0 → Bool
  | .mk v pl va nm ar n lo hi ns th el => p (.mk v pl va nm ar n lo hi ns th el) && (B0.alls p th && B0.alls p el)
def B0.alls (p : B0 → Bool) : List B0 → Bool
  | [] => true
  | x :: r => B0.all p x && B0.alls p r
end
theorem B0.nds_eq (s : B0) : s.nds = 1 + (oN s.Place (uPl s.Verb) + (oN s.Value (uVa s.Verb) + (A0.nodess s.Args + (B0.ndss s.Then + B0.ndss s.Else)))) := by cases s; simp only [B0.nds]
theorem B0.dps_eq (s : B0) (d : Nat) : s.dps d = max d (max (oD s.Place (uPl s.Verb)) (max (oD s.Value (uVa s.Verb)) (max (A0.depths s.Args) (max (B0.dpss s.Then (d + 1)) (B0.dpss s.Else (d + 1)))))) := by cases s; simp only [B0.dps]
theorem B0.all_eq (p : B0 → Bool) (s : B0) : s.all p = (p s && (B0.alls p s.Then && B0.alls p s.Else)) := by cases s; simp only [B0.all]
theorem B0.ind {P : B0 → Prop} (h : ∀ s : B0, (∀ x ∈ s.Then, P x) → (∀ x ∈ s.Else, P x) → P s) : ∀ s, P s := by
  intro s
  refine B0.rec (motive_1 := P) (motive_2 := fun l => ∀ x ∈ l, P x) ?_ ?_ ?_ s
  · intro v pl va nm ar n lo hi ns th el i1 i2
    exact h _ i1 i2
  · intro x hx; cases hx
  · intro x r hx hr y hy
    cases hy with
    | head => exact hx
    | tail _ hy => exact hr y hy
theorem B0.inds {Q : List B0 → Prop} (h : ∀ l : List B0, (∀ x ∈ l, Q x.Then ∧ Q x.Else) → Q l) : ∀ l, Q l := by
  have key : ∀ s : B0, Q s.Then ∧ Q s.Else := fun s => by
    induction s using B0.ind with
    | h s i1 i2 => exact ⟨h _ i1, h _ i2⟩
  exact fun l => h l fun x _ => key x
theorem B0.bulk_eq (s : B0) : s.bulk = s.Place.bulk + s.Value.bulk + s.Name.length + A0.bulks s.Args + (s.Numbers.map fun _ => 1).sum + B0.bulks s.Then + B0.bulks s.Else + 10 := by
  cases s; simp only [B0.bulk]; omega
theorem Xe : ∀ l : List Int, (l.map fun _ => 1).sum = l.length
  | [] => rfl
  | x :: r => by simp only [List.map_cons, List.sum_cons, List.length_cons, Xe r]; omega
theorem B0.bulk_mem {s : B0} : ∀ {l : List B0}, s ∈ l → s.bulk ≤ B0.bulks l
  | x :: r, h => by
    simp only [B0.bulks]
    cases h with
    | head => omega
    | tail _ h => have := B0.bulk_mem h; omega
theorem B0.bulk_len : ∀ l : List B0, l.length ≤ B0.bulks l
  | [] => Nat.le_refl _
  | x :: r => by
    simp only [B0.bulks, List.length_cons]
    have := B0.bulk_len r
    have := B0.bulk_eq x
    omega
mutual
theorem B0.nds_bulk : ∀ s : B0, s.nds ≤ s.bulk
  | .mk v pl va nm ar n lo hi ns th el => by
    have := O1n pl (uPl v)
    have := O1n va (uVa v)
    have := A0.nodess_bulk ar
    have := B0.ndss_bulk th
    have := B0.ndss_bulk el
    simp only [B0.nds, B0.bulk]; omega
theorem B0.ndss_bulk : ∀ l : List B0, B0.ndss l ≤ B0.bulks l
  | [] => Nat.le_refl _
  | x :: r => by
    have := B0.nds_bulk x
    have := B0.ndss_bulk r
    simp only [B0.ndss, B0.bulks]; omega
end
def OkS (l : List B0) : Prop := B0.bulks l ≤ BB
structure Y10 (s : B0) : Prop where
  place : OkE s.Place
  value : OkE s.Value
  name : s.Name.length ≤ BB
  args : s.Args.length ≤ BB
  arg : ∀ a ∈ s.Args, OkE a
  nums : s.Numbers.length ≤ BB
  thens : OkS s.Then
  elses : OkS s.Else
theorem OkS.mem {l : List B0} (h : OkS l) {s : B0} (hs : s ∈ l) : Y10 s := by
  unfold OkS at h
  have h1 := B0.bulk_mem hs
  have h2 := B0.bulk_eq s
  have h3 := Xe s.Numbers
  have h4 := A0.bulk_len s.Args
  refine ⟨?_, ?_, ?_, ?_, fun a ha => ?_, ?_, ?_, ?_⟩ <;> first | (unfold OkE; omega) | (unfold OkS; omega) | omega | skip
  have := A0.bulk_kid ha
  unfold OkE; omega
theorem OkS.len {l : List B0} (h : OkS l) : l.length ≤ BB := Nat.le_trans (B0.bulk_len l) h
def D5 (o : C0) (n m : Nat) (f a u : Bool) : C0 := ⟨o.nodes + n, max o.depth m, o.badForm || !f, o.badName || !a, o.badNumber || !u⟩
theorem Z4 (o : C0) (n m n' m' : Nat) (f a u f' a' u' : Bool) : D5 (D5 o n m f a u) n' m' f' a' u' = D5 o (n + n') (max m m') (f && f') (a && a') (u && u') := by
  simp only [D5, Hx]
  rw [show o.nodes + (n : Int) + (n' : Int) = o.nodes + ((n + n' : Nat) : Int) by omega, show max (max o.depth (m : Int)) (m' : Int) = max o.depth ((max m m' : Nat) : Int) by omega]
theorem Vp (o : C0) (h : 0 ≤ o.depth) : D5 o 0 0 true true true = o := by
  simp only [D5, Bool.not_true, Bool.or_false]
  rw [show o.nodes + ((0 : Nat) : Int) = o.nodes by omega, show max o.depth ((0 : Nat) : Int) = o.depth by omega]
theorem N1a (o : C0) (n m : Nat) (f a u : Bool) : (D5 o n m f a u).nodes = o.nodes + n := rfl
theorem Lu (o : C0) (n m : Nat) (f a u : Bool) : (D5 o n m f a u).depth = max o.depth m := rfl
theorem Ma (o : C0) (h : 0 ≤ o.depth) (b : Bool) : W0 b o = some (D5 o 0 0 b true true) := by
  rw [N18]
  simp only [D5, Bool.not_true, Bool.or_false]
  rw [show o.nodes + ((0 : Nat) : Int) = o.nodes by omega, show max o.depth ((0 : Nat) : Int) = o.depth by omega]
theorem Yg (o : C0) (h : 0 ≤ o.depth) (b : Bool) : O1 b o = some (D5 o 0 0 true true b) := by
  rw [Ly]
  simp only [D5, Bool.not_true, Bool.or_false]
  rw [show o.nodes + ((0 : Nat) : Int) = o.nodes by omega, show max o.depth ((0 : Nat) : Int) = o.depth by omega]
theorem Y1c (o : C0) (h : 0 ≤ o.depth) (s : Str) (hs : s.length ≤ BB) : T3 s o = some (D5 o 0 0 true (Hb s) true) := by
  rw [X12 s hs]
  simp only [D5, Bool.not_true, Bool.or_false]
  rw [show o.nodes + ((0 : Nat) : Int) = o.nodes by omega, show max o.depth ((0 : Nat) : Int) = o.depth by omega]
structure S5 (o : C0) (n : Nat) : Prop where
  dep : 0 ≤ o.depth
  low : 0 ≤ o.nodes
  high : o.nodes + n ≤ 3 * BB
theorem S5.x {o : C0} {n k m : Nat} {f a u : Bool} (h : S5 o (k + n)) : S5 (D5 o k m f a u) n := by
  obtain ⟨h1, h2, h3⟩ := h
  refine ⟨?_, ?_, ?_⟩
  · rw [Lu]; omega
  · rw [N1a]; omega
  · rw [N1a]; omega
theorem S5.less {o : C0} {n k : Nat} (h : S5 o n) (hk : k ≤ n) : S5 o k := ⟨h.dep, h.low, by have := h.high; omega⟩
theorem S5.x0 {o : C0} {n m : Nat} {f a u : Bool} (h : S5 o n) : S5 (D5 o 0 m f a u) n := S5.x (by rw [Nat.zero_add]; exact h)
theorem K15 (e : A0) (h : OkE e) (o : C0) (hr : S5 o e.nodes) : F2 e 1 o = some (D5 o e.nodes e.depth (e.all G5) (e.all H7) (e.all L6)) := by
  have hn := h.nodes
  have hp : 1 ≤ e.depth := by rw [A0.depth_eq]; omega
  have h3 := hr.high
  unfold BB at hn h3
  rw [S1r e h 1 o (by omega) (by unfold BB; omega) hr.low (by unfold BB; omega)]
  simp only [Qi, D5]
  rw [show (1 : Int) + ((e.depth - 1 : Nat) : Int) = e.depth by omega]
theorem F1i (t : D0) (h : Ok t) (o : C0) (hr : S5 o t.nodes) : D4 t 1 o = some (D5 o t.nodes t.depth (t.all Ua) (t.all Qo) (t.all Up)) := by
  have hn := h.nodes
  have hp : 1 ≤ t.depth := by rw [D0.depth_eq]; omega
  have h3 := hr.high
  unfold BB at hn h3
  rw [W1t t h 1 o (by omega) (by unfold BB; omega) hr.low (by unfold BB; omega)]
  simp only [Qi, D5]
  rw [show (1 : Int) + ((t.depth - 1 : Nat) : Int) = t.depth by omega]
theorem G1i : (A0.mk 0 0 [] []).all G5 = true ∧ (A0.mk 0 0 [] []).all H7 = true ∧ (A0.mk 0 0 [] []).all L6 = true := ⟨rfl, rfl, rfl⟩
theorem S18 (e : A0) (u : Bool) (h : OkE e) (o : C0) (hr : S5 o (oN e u)) : V2 e u o = some (D5 o (oN e u) (oD e u) (oF e u) (e.all H7) (e.all L6)) := by
  unfold V2
  rw [M1n e h]
  show ((if (!u) = true then some (Gk e) else some default) >>= _) = _
  unfold oN oD oF at *
  cases u with
  | true =>
    simp only [Bool.not_true, cond_false, cond_true] at *
    rw [if_neg (by simp), ob, if_neg (by simp), Ma o hr.dep, ob, K15 e h _ hr.x0, ob, Z4]
    simp
  | false =>
    simp only [Bool.not_false, cond_false, cond_true] at *
    rw [if_pos trivial, ob]
    cases hz : Gk e with
    | true =>
      rw [if_pos rfl, Fg hz, G1i.2.1, G1i.2.2]
      exact congrArg some (Vp o hr.dep).symm
    | false =>
      rw [hz] at hr
      rw [if_neg (by simp), Ma o hr.dep, ob, K15 e h _ hr.x0, ob, Z4]
      simp
theorem P1p (o : C0) (h : 0 ≤ o.nodes) (h' : o.nodes + 1 ≤ 3 * BB) (d : Nat) : B6 (d : Int) ⟨IntKind.i64.wrap (o.nodes + 1), o.depth, o.badForm, o.badName, o.badNumber⟩ = some (D5 o 1 d true true true) := by
  unfold BB at h'
  rw [M18, wr (by omega) (by omega)]
  simp only [D5, Bool.not_true, Bool.or_false]
  rfl
theorem Z1c (s : B0) (hs : Y10 s) (K : C0 → Option C0) (F : C0 → Int → Option C0)
    (hF : ∀ (o : C0) (k : Int), F o k = if decide (k < (s.Args.length : Int)) = true then idx s.Args k >>= fun x => F2 x 1 o >>= fun y => F y (IntKind.i64.wrap (k + 1)) else K o) :
    ∀ (r : List A0) (k : Nat) (o : C0), s.Args.drop k = r → S5 o (A0.nodess r) → F o (k : Int) = K (D5 o (A0.nodess r) (A0.depths r) (A0.alls G5 r) (A0.alls H7 r) (A0.alls L6 r))
  | [], k, o, h, hr => by
    rw [hF, (K1 h).1, if_neg (by simp)]
    simp only [A0.nodess, A0.depths, A0.alls]
    rw [Vp o hr.dep]
  | x :: r, k, o, h, hr => by
    obtain ⟨e1, e2, e3, e4, e5⟩ := W1 h
    have := hs.args
    simp only [A0.nodess] at hr
    rw [hF, e1, if_pos rfl, e2, ob, K15 x (hs.arg x e5) o (hr.less (by omega)), ob, w1 (by omega), Z1c s hs K F hF r (k + 1) _ e3 hr.x, Z4]
    rfl
theorem L1l (s : B0) (hs : Y10 s) : ∀ (r : List Int) (k : Nat) (last : Int) (o : C0), s.Numbers.drop k = r → 0 ≤ o.depth → I2 s o last k = some (D5 o 0 0 true true (So last r))
  | [], k, last, o, h, h0 => by rw [I2, (K1 h).1, if_neg (by simp)]; exact congrArg some (Vp o h0).symm
  | x :: r, k, last, o, h, h0 => by
    obtain ⟨e1, e2, e3, e4, e5⟩ := W1 h
    have := hs.nums
    rw [I2, e1, if_pos rfl, e2, ob, Zm, ob, Yg _ h0, ob, w1 (by omega), L1l s hs r (k + 1) x _ e3 (by rw [Lu]; omega), Z4]
    rfl
theorem Q1p (s : B0) (hs : Y10 s) (o : C0) (h0 : 0 ≤ o.depth) : W5 s o = some (D5 o 0 0 true true (Jn s)) := by
  unfold W5 Jn
  simp only [Zm]
  cases s.Verb == 4 with
  | true => rw [if_pos rfl, ob, Yg _ h0, ob]; rfl
  | false =>
    rw [if_neg (by simp)]
    cases s.Verb == 6 with
    | true => rw [if_pos rfl, ob, Yg _ h0, ob]; rfl
    | false =>
      rw [if_neg (by simp)]
      cases s.Verb == 7 with
      | true =>
        rw [if_pos rfl, ob]
        cases hl : A2 s.Low (-1048576) 1048576 with
        | false => rw [if_neg (by simp), ob, Yg _ h0, ob]; rfl
        | true =>
          rw [if_pos rfl, ob]
          cases hh : A2 s.High s.Low 1048576 with
          | false => rw [Yg _ h0, ob]; rfl
          | true =>
            have : IntKind.i64.wrap (s.High - s.Low) = s.High - s.Low := by
              simp [A2] at hl hh
              exact wr (by omega) (by omega)
            rw [this, Yg _ h0, ob]; rfl
      | false =>
        rw [if_neg (by simp)]
        cases s.Verb == 8 with
        | true =>
          rw [if_pos rfl, ob, Yg _ h0, ob, show (0 : Int) = ((0 : Nat) : Int) from rfl, L1l s hs s.Numbers 0 (-1) _ rfl (by rw [Lu]; omega), Z4]
          simp
        | false => exact congrArg some (Vp o h0).symm
theorem A1d (l : List B0) : OkS l → ∀ (d : Nat) (o : C0), d + B0.bulks l ≤ 3 * BB → S5 o (B0.ndss l) →
    L2 l d o = some (D5 o (B0.ndss l) (B0.dpss l d) (B0.alls J8 l) (B0.alls Wd l) (B0.alls Wa l)) := by
  induction l using B0.inds with
  | h l ih =>
  intro hl d o hd hr
  have main : ∀ (r : List B0) (k : Nat) (o : C0), l.drop k = r → S5 o (B0.ndss r) → W2 l d o k = some (D5 o (B0.ndss r) (B0.dpss r d) (B0.alls J8 r) (B0.alls Wd r) (B0.alls Wa r)) := by
    intro r
    induction r with
    | nil =>
      intro k o h hr
      rw [W2, (K1 h).1, if_neg (by simp)]
      exact congrArg some (Vp o hr.dep).symm
    | cons s r ihr =>
      intro k o h hr
      obtain ⟨e1, e2, e3, e4, e5⟩ := W1 h
      have hs := hl.mem e5
      have hlen := hl.len
      obtain ⟨i1, i2⟩ := ih s e5
      have hbm := B0.bulk_mem e5
      have hbe := B0.bulk_eq s
      simp only [B0.ndss, B0.nds_eq] at hr
      have hhi := hr.high
      unfold BB at hhi hd
      have hwd : IntKind.i64.wrap ((d : Int) + 1) = ((d + 1 : Nat) : Int) := by rw [wr (by omega) (by omega)]; rfl
      have tail : ∀ o : C0, S5 o (B0.ndss s.Then + B0.ndss s.Else + B0.ndss r) →
          (W0 (bif (stU s.Verb).1.n then true else (s.NV == 0)) o >>= fun x14 =>
            W0 (bif (stU s.Verb).1.bounds then true else (bif (s.Low == 0) then (s.High == 0) else false)) x14 >>= fun x15 =>
            W0 (bif (stU s.Verb).1.numbers then true else (((s.Numbers).length : Int) == 0)) x15 >>= fun x16 =>
            W0 (bif (stU s.Verb).1.thenV then true else (((s.Then).length : Int) == 0)) x16 >>= fun x17 =>
            W0 (bif (stU s.Verb).1.other then true else (((s.Else).length : Int) == 0)) x17 >>= fun x18 =>
            W5 s x18 >>= fun x19 =>
            L2 s.Then (IntKind.i64.wrap ((d : Int) + 1)) x19 >>= fun x20 =>
            L2 s.Else (IntKind.i64.wrap ((d : Int) + 1)) x20 >>= fun x21 =>
            W2 l d x21 (IntKind.i64.wrap ((k : Int) + 1)))
          = some (D5 o (B0.ndss s.Then + B0.ndss s.Else + B0.ndss r) (max (B0.dpss s.Then (d + 1)) (max (B0.dpss s.Else (d + 1)) (B0.dpss r d)))
              ((bif uNn s.Verb then true else s.NV == 0) && (bif s.Verb == 7 then true else (bif s.Low == 0 then s.High == 0 else false)) && (bif s.Verb == 8 then true else ((s.Numbers.length : Int) == 0))
                && (bif uTh s.Verb then true else ((s.Then.length : Int) == 0)) && (bif s.Verb == 5 then true else ((s.Else.length : Int) == 0)) && B0.alls J8 s.Then && B0.alls J8 s.Else && B0.alls J8 r)
              (B0.alls Wd s.Then && B0.alls Wd s.Else && B0.alls Wd r) (Jn s && B0.alls Wa s.Then && B0.alls Wa s.Else && B0.alls Wa r)) := by
        intro o hr
        have q1 := hr.x0 (m := 0) (f := bif (stU s.Verb).1.n then true else (s.NV == 0)) (a := true) (u := true)
        have q2 := q1.x0 (m := 0) (f := bif (stU s.Verb).1.bounds then true else (bif (s.Low == 0) then (s.High == 0) else false)) (a := true) (u := true)
        have q3 := q2.x0 (m := 0) (f := bif (stU s.Verb).1.numbers then true else (((s.Numbers).length : Int) == 0)) (a := true) (u := true)
        have q4 := q3.x0 (m := 0) (f := bif (stU s.Verb).1.thenV then true else (((s.Then).length : Int) == 0)) (a := true) (u := true)
        have q5 := q4.x0 (m := 0) (f := bif (stU s.Verb).1.other then true else (((s.Else).length : Int) == 0)) (a := true) (u := true)
        have q6 := q5.x0 (m := 0) (f := true) (a := true) (u := Jn s)
        rw [Ma o hr.dep, ob, Ma _ q1.dep, ob, Ma _ q2.dep, ob, Ma _ q3.dep, ob, Ma _ q4.dep, ob, Q1p s hs _ q5.dep, ob, hwd,
          i1 hs.thens (d + 1) _ (by unfold BB; omega) (q6.less (by omega)), ob, i2 hs.elses (d + 1) _ (by unfold BB; omega) (S5.x (q6.less (by omega))), ob, w1 (by omega), ihr (k + 1) _ e3 (S5.x (S5.x (q6.less (by omega))))]
        simp only [Z4, stU, Bool.true_and, Bool.and_true, Bool.and_assoc, Nat.zero_add, Nat.add_assoc, Nat.zero_max]
        simp only [← Nat.max_assoc]
      have args := Z1c s hs _ (fun o k' => J4 l d o s (stU s.Verb) k k') (fun o k' => J4.eq_1 l d o s (stU s.Verb) k k') s.Args 0
      rw [show ((0 : Nat) : Int) = 0 from rfl] at args
      have j3 : ∀ o : C0, S5 o (A0.nodess s.Args + (B0.ndss s.Then + B0.ndss s.Else + B0.ndss r)) → L3 l d o s (stU s.Verb) k
          = some (D5 o (A0.nodess s.Args + (B0.ndss s.Then + B0.ndss s.Else + B0.ndss r)) (max (A0.depths s.Args) (max (B0.dpss s.Then (d + 1)) (max (B0.dpss s.Else (d + 1)) (B0.dpss r d))))
              ((bif s.Verb == 1 then true else ((s.Args.length : Int) == 0)) && (A0.alls G5 s.Args && ((bif uNn s.Verb then true else s.NV == 0) && (bif s.Verb == 7 then true else (bif s.Low == 0 then s.High == 0 else false)) && (bif s.Verb == 8 then true else ((s.Numbers.length : Int) == 0))
                && (bif uTh s.Verb then true else ((s.Then.length : Int) == 0)) && (bif s.Verb == 5 then true else ((s.Else.length : Int) == 0)) && B0.alls J8 s.Then && B0.alls J8 s.Else && B0.alls J8 r)))
              (A0.alls H7 s.Args && (B0.alls Wd s.Then && B0.alls Wd s.Else && B0.alls Wd r)) (A0.alls L6 s.Args && (Jn s && B0.alls Wa s.Then && B0.alls Wa s.Else && B0.alls Wa r))) := by
        intro o hr
        rw [L3, Ma o hr.dep, ob, args _ rfl (hr.x0.less (by omega)), tail _ (S5.x hr.x0)]
        simp only [Z4, stU, Bool.true_and, Bool.and_assoc, Nat.zero_add, Nat.zero_max]
      have j2 : ∀ o : C0, S5 o (oN s.Value (uVa s.Verb) + (A0.nodess s.Args + (B0.ndss s.Then + B0.ndss s.Else + B0.ndss r))) → K3 l d o s (stU s.Verb) k
          = (L3 l d (D5 o (oN s.Value (uVa s.Verb)) (oD s.Value (uVa s.Verb)) (oF s.Value (uVa s.Verb) && (bif uNm s.Verb then true else s.Name == [])) (s.Value.all H7 && (bif uNm s.Verb then Hb s.Name else true)) (s.Value.all L6)) s (stU s.Verb) k) := by
        intro o hr
        have q1 : S5 (D5 o (oN s.Value (uVa s.Verb)) (oD s.Value (uVa s.Verb)) (oF s.Value (uVa s.Verb)) (s.Value.all H7) (s.Value.all L6)) 0 := S5.x (hr.less (by omega))
        rw [K3]
        show (V2 s.Value (uVa s.Verb) o >>= _) = _
        rw [S18 s.Value (uVa s.Verb) hs.value o (hr.less (by omega)), ob, Ma _ q1.dep, ob, Y1c _ (q1.x0).dep s.Name hs.name]
        simp only [Z4, stU]
        cases uNm s.Verb with
        | true => rw [if_pos rfl, ob]; simp
        | false => rw [if_neg (by simp)]; simp
      rw [W2, e1, if_pos rfl, e2, ob, P1p o hr.low (by unfold BB; omega) d, ob, E1i, ob, Ma _ (show 0 ≤ (D5 o 1 d true true true).depth by rw [Lu]; have := hr.dep; omega), ob, Z4]
      have hr1 : S5 (D5 o (1 + 0) (max d 0) (true && (stU s.Verb).2) (true && true) (true && true)) (oN s.Place (uPl s.Verb) + (oN s.Value (uVa s.Verb) + (A0.nodess s.Args + (B0.ndss s.Then + B0.ndss s.Else + B0.ndss r)))) := S5.x (hr.less (by omega))
      have hopt := S18 s.Place (uPl s.Verb) hs.place _ (hr1.less (k := oN s.Place (uPl s.Verb)) (by omega))
      show (V2 s.Place (uPl s.Verb) _ >>= _) = _
      rw [hopt, ob, Q1c, Z4]
      have hr2 : ∀ f, S5 (D5 o (1 + 0 + oN s.Place (uPl s.Verb)) (max (max d 0) (oD s.Place (uPl s.Verb))) f (true && true && s.Place.all H7) (true && true && s.Place.all L6)) (oN s.Value (uVa s.Verb) + (A0.nodess s.Args + (B0.ndss s.Then + B0.ndss s.Else + B0.ndss r))) := fun f => S5.x (hr.less (by omega))
      have fin : ∀ b : Bool, (bif uPl s.Verb then s.Place.place else true) = b →
          K3 l d (D5 o (1 + 0 + oN s.Place (uPl s.Verb)) (max (max d 0) (oD s.Place (uPl s.Verb))) (true && (stU s.Verb).2 && oF s.Place (uPl s.Verb) && b) (true && true && s.Place.all H7) (true && true && s.Place.all L6)) s (stU s.Verb) k
            = some (D5 o (B0.ndss (s :: r)) (B0.dpss (s :: r) d) (B0.alls J8 (s :: r)) (B0.alls Wd (s :: r)) (B0.alls Wa (s :: r))) := by
        rintro _ rfl
        rw [j2 _ (hr2 _), j3 _ (S5.x (hr2 _)), Z4, Z4]
        simp only [B0.ndss, B0.dpss, B0.alls, B0.nds_eq, B0.dps_eq, B0.all_eq, J8, Wd, Wa, stU, Bool.true_and, Bool.and_assoc, Nat.add_assoc, Nat.max_assoc, Nat.zero_add]
        congr 1
      cases hu : uPl s.Verb with
      | true =>
        rw [hu] at fin hr2
        rw [if_pos (show (stU s.Verb).1.place = true from hu), ob, Ma _ (hr2 _).dep, ob, Z4]
        have := fin s.Place.place rfl
        simpa using this
      | false =>
        rw [hu] at fin
        rw [if_neg (by rw [show (stU s.Verb).1.place = false from hu]; simp)]
        have := fin true rfl
        rw [Bool.and_true] at this
        exact this
  rw [L2]
  exact main l 0 o rfl hr
end Go.Proofs.YtmilgoloagbmpaaGreatDoor

set_option linter.unusedSimpArgs false
set_option linter.unusedVariables false
set_option maxHeartbeats 1000000
namespace Go.Proofs.YtmilgoloagbmpaaGreatDoor
open Go.Am
def isK (k : Int) : Bool := bif decide (k ≥ 0) then decide (k ≤ 6) else false
def uV2 (k : Int) : Bool := bif k == 5 then true else k == 6
def tN (t : D0) (u : Bool) : Nat := bif (bif !u then Lw t else false) then 0 else t.nodes
def tD (t : D0) (u : Bool) : Nat := bif (bif !u then Lw t else false) then 0 else t.depth
theorem B1u (t : D0) (u : Bool) : tN t u ≤ t.bulk := by
  unfold tN
  have := D0.nodes_bulk t
  cases (bif !u then Lw t else false) <;> simp <;> omega
def pOk (x : E0) : Bool := bif x.Kind == 4 then x.Init == 0 else false
def vOk (x : E0) : Bool := x.Kind == 4
def Mu (d : E0) : Bool := bif A2 d.Init (-1048576) 1048576 then (bif d.TypeV.Kind != 0 then true else A2 d.Init 0 1) else false
def W11 (d : E0) : Bool := bif (bif ((d.Params.length : Int) == 0) then ((d.Vars.length : Int) == 0) else false) then ((d.Body.length : Int) == 0) else false
def A8 (d : E0) : Bool :=
  isK d.Kind && d.TypeV.all Ua && oF d.Value (uV2 d.Kind) && (bif d.Kind == 4 then true else d.Init == 0) && (bif d.Kind == 6 then true else W11 d) && d.Params.all pOk && d.Vars.all vOk && B0.alls J8 d.Body
def Ug (d : E0) : Bool := d.TypeV.all Qo && Hb d.Name && d.Value.all H7 && B0.alls Wd d.Body
def Vg (d : E0) : Bool := d.TypeV.all Up && d.Value.all L6 && Mu d && B0.alls Wa d.Body
mutual
def E0.nds : E0 → Nat
  | .mk k nm t i v ps vs bd => 1 + (tN t (isK k) + (oN v (uV2 k) + (E0.ndss ps + (E0.ndss vs + B0.ndss bd))))
def E0.ndss : List E0 → Nat
  | [] => 0
  | x :: r => E0.nds x + E0.ndss r
end
mutual
def E0.dps : E0 → Nat
  | .mk k nm t i v ps vs bd => max (tD t (isK k)) (max (oD v (uV2 k)) (max (E0.dpss ps) (max (E0.dpss vs) (B0.dpss bd 1))))
def E0.dpss : List E0 → Nat
  | [] => 0
  | x :: r => max (E0.dps x) (E0.dpss r)
end
mutual
def E0.all (p : E0 → Bool) : E0 → Bool
  | .mk k nm t i v ps vs bd => p (.mk k nm t i v ps vs bd) && (E0.alls p ps && E0.alls p vs)
def E0.alls (p : E0 → Bool) : List E0 → Bool
  | [] => true
  | x :: r => E0.all p x && E0.alls p r
end
theorem E0.nds_eq (d : E0) : d.nds = 1 + (tN d.TypeV (isK d.Kind) + (oN d.Value (uV2 d.Kind) + (E0.ndss d.Params + (E0.ndss d.Vars + B0.ndss d.Body)))) := by cases d; simp only [E0.nds]
theorem E0.dps_eq (d : E0) : d.dps = max (tD d.TypeV (isK d.Kind)) (max (oD d.Value (uV2 d.Kind)) (max (E0.dpss d.Params) (max (E0.dpss d.Vars) (B0.dpss d.Body 1)))) := by cases d; simp only [E0.dps]
theorem E0.all_eq (p : E0 → Bool) (d : E0) : d.all p = (p d && (E0.alls p d.Params && E0.alls p d.Vars)) := by cases d; simp only [E0.all]
theorem E0.ind {P : E0 → Prop} (h : ∀ d : E0, (∀ x ∈ d.Params, P x) → (∀ x ∈ d.Vars, P x) → P d) : ∀ d, P d := by
  intro d
  refine E0.rec (motive_1 := P) (motive_2 := fun l => ∀ x ∈ l, P x) ?_ ?_ ?_ d
  · intro k nm t i v ps vs bd i1 i2
    exact h _ i1 i2
  · intro x hx; cases hx
  · intro x r hx hr y hy
    cases hy with
    | head => exact hx
    | tail _ hy => exact hr y hy
theorem E0.inds {Q : List E0 → Prop} (h : ∀ l : List E0, (∀ x ∈ l, Q x.Params ∧ Q x.Vars) → Q l) : ∀ l, Q l := by
  have key : ∀ s : E0, Q s.Params ∧ Q s.Vars := fun s => by
    induction s using E0.ind with
    | h s i1 i2 => exact ⟨h _ i1, h _ i2⟩
  exact fun l => h l fun x _ => key x
theorem E0.bulk_eq (d : E0) : d.bulk = d.Name.length + d.TypeV.bulk + d.Value.bulk + E0.bulks d.Params + E0.bulks d.Vars + B0.bulks d.Body + 7 := by cases d; simp only [E0.bulk]; omega
theorem E0.bulk_mem {s : E0} : ∀ {l : List E0}, s ∈ l → s.bulk ≤ E0.bulks l
  | x :: r, h => by
    simp only [E0.bulks]
    cases h with
    | head => omega
    | tail _ h => have := E0.bulk_mem h; omega
theorem E0.bulk_len : ∀ l : List E0, l.length ≤ E0.bulks l
  | [] => Nat.le_refl _
  | x :: r => by
    simp only [E0.bulks, List.length_cons]
    have := E0.bulk_len r
    have := E0.bulk_eq x
    omega
mutual
theorem E0.nds_bulk : ∀ d : E0, d.nds ≤ d.bulk
  | .mk k nm t i v ps vs bd => by
    have := B1u t (isK k)
    have := O1n v (uV2 k)
    have := E0.ndss_bulk ps
    have := E0.ndss_bulk vs
    have := B0.ndss_bulk bd
    simp only [E0.nds, E0.bulk]; omega
theorem E0.ndss_bulk : ∀ l : List E0, E0.ndss l ≤ E0.bulks l
  | [] => Nat.le_refl _
  | x :: r => by
    have := E0.nds_bulk x
    have := E0.ndss_bulk r
    simp only [E0.ndss, E0.bulks]; omega
end
def OkD (l : List E0) : Prop := E0.bulks l ≤ BB
structure I1u (d : E0) : Prop where
  type : Ok d.TypeV
  value : OkE d.Value
  name : d.Name.length ≤ BB
  params : OkD d.Params
  vars : OkD d.Vars
  body : OkS d.Body
theorem OkD.mem {l : List E0} (h : OkD l) {d : E0} (hd : d ∈ l) : I1u d := by
  unfold OkD at h
  have h1 := E0.bulk_mem hd
  have h2 := E0.bulk_eq d
  refine ⟨?_, ?_, ?_, ?_, ?_, ?_⟩ <;> first | (unfold OkE; omega) | (unfold OkS; omega) | (unfold OkD; omega) | (unfold Ok; omega) | omega
theorem OkD.len {l : List E0} (h : OkD l) : l.length ≤ BB := Nat.le_trans (E0.bulk_len l) h
theorem B1d : (D0.mk 0 0 0 0 [] [] []).all Qo = true ∧ (D0.mk 0 0 0 0 [] [] []).all Up = true := ⟨rfl, rfl⟩
theorem B1c (c : List E0) (hc : c.length ≤ BB) (q : E0 → Bool) (K : C0 → Option C0) (F : C0 → Int → Option C0)
    (hF : ∀ (o : C0) (k : Int), F o k = if decide (k < (c.length : Int)) = true then idx c k >>= fun x => W0 (q x) o >>= fun y => F y (IntKind.i64.wrap (k + 1)) else K o) :
    ∀ (r : List E0) (k : Nat) (o : C0), c.drop k = r → 0 ≤ o.depth → F o (k : Int) = K (D5 o 0 0 (r.all q) true true)
  | [], k, o, h, hr => by
    rw [hF, (K1 h).1, if_neg (by simp), List.all_nil, Vp o hr]
  | x :: r, k, o, h, hr => by
    obtain ⟨e1, e2, e3, e4, e5⟩ := W1 h
    rw [hF, e1, if_pos rfl, e2, ob, Ma o hr, ob, w1 (by omega), B1c c hc q K F hF r (k + 1) _ e3 (by rw [Lu]; omega), Z4]
    rfl
theorem R1p (l : List E0) : OkD l → ∀ (o : C0), S5 o (E0.ndss l) →
    Z3 l o = some (D5 o (E0.ndss l) (E0.dpss l) (E0.alls A8 l) (E0.alls Ug l) (E0.alls Vg l)) := by
  induction l using E0.inds with
  | h l ih =>
  intro hl o hr
  have main : ∀ (r : List E0) (k : Nat) (o : C0), l.drop k = r → S5 o (E0.ndss r) → M3 l o k = some (D5 o (E0.ndss r) (E0.dpss r) (E0.alls A8 r) (E0.alls Ug r) (E0.alls Vg r)) := by
    intro r
    induction r with
    | nil =>
      intro k o h hr
      rw [M3, (K1 h).1, if_neg (by simp)]
      exact congrArg some (Vp o hr.dep).symm
    | cons d r ihr =>
      intro k o h hr
      obtain ⟨e1, e2, e3, e4, e5⟩ := W1 h
      have hs := hl.mem e5
      have hlen := hl.len
      obtain ⟨i1, i2⟩ := ih d e5
      simp only [E0.ndss, E0.nds_eq] at hr
      have hhi := hr.high
      have hbB : B0.bulks d.Body ≤ BB := hs.body
      have hlow := hr.low
      unfold BB at hhi
      have l4 := B1c d.Vars hs.vars.len vOk _ (fun o k' => L4 l o d k k') (fun o k' => L4.eq_1 l o d k k') d.Vars 0
      have l3 := B1c d.Params hs.params.len pOk _ (fun o k' => N3 l o d k k') (fun o k' => N3.eq_1 l o d k k') d.Params 0
      rw [show ((0 : Nat) : Int) = 0 from rfl] at l4 l3
      have tail : ∀ o : C0, S5 o (E0.ndss d.Params + (E0.ndss d.Vars + (B0.ndss d.Body + E0.ndss r))) →
          N3 l o d k 0 = some (D5 o (E0.ndss d.Params + (E0.ndss d.Vars + (B0.ndss d.Body + E0.ndss r))) (max (E0.dpss d.Params) (max (E0.dpss d.Vars) (max (B0.dpss d.Body 1) (E0.dpss r))))
            (d.Params.all pOk && (d.Vars.all vOk && (E0.alls A8 d.Params && (E0.alls A8 d.Vars && (B0.alls J8 d.Body && E0.alls A8 r)))))
            (E0.alls Ug d.Params && (E0.alls Ug d.Vars && (B0.alls Wd d.Body && E0.alls Ug r)))
            (E0.alls Vg d.Params && (E0.alls Vg d.Vars && (B0.alls Wa d.Body && E0.alls Vg r)))) := by
        intro o hr
        have q1 := hr.x0 (m := 0) (f := d.Params.all pOk) (a := true) (u := true)
        have q2 := q1.x0 (m := 0) (f := d.Vars.all vOk) (a := true) (u := true)
        rw [l3 o rfl hr.dep, l4 _ rfl q1.dep, i1 hs.params _ (q2.less (by omega)), ob, i2 hs.vars _ (S5.x (q2.less (by omega))), ob,
          show (1 : Int) = ((1 : Nat) : Int) from rfl, A1d d.Body hs.body 1 _ (by unfold BB at *; omega) (S5.x (S5.x (q2.less (by omega)))), ob, show ((k : Int) + ((1 : Nat) : Int)) = (k : Int) + 1 from rfl, w1 (by omega), ihr (k + 1) _ e3 (S5.x (S5.x (S5.x (q2.less (by omega)))))]
        simp only [Z4, Bool.true_and, Bool.and_assoc, Nat.zero_add, Nat.zero_max, Nat.add_assoc, Nat.max_assoc]
      have hin : (if ((A2 d.Init (-1048576) 1048576) && (!(d.TypeV.Kind != 0))) = true then I3 d.Init 0 1 else some default) = some (bif (A2 d.Init (-1048576) 1048576) && (!(d.TypeV.Kind != 0)) then A2 d.Init 0 1 else default) := by
        rw [Zm]
        cases ((A2 d.Init (-1048576) 1048576) && (!(d.TypeV.Kind != 0))) <;> rfl
      have j2 : ∀ (x2 : Bool × Bool) (o : C0), x2 = (isK d.Kind, uV2 d.Kind) → S5 o (oN d.Value (uV2 d.Kind) + (E0.ndss d.Params + (E0.ndss d.Vars + (B0.ndss d.Body + E0.ndss r)))) →
          K4 l o d x2 k = some (D5 o (oN d.Value (uV2 d.Kind) + (E0.ndss d.Params + (E0.ndss d.Vars + (B0.ndss d.Body + E0.ndss r)))) (max (oD d.Value (uV2 d.Kind)) (max (E0.dpss d.Params) (max (E0.dpss d.Vars) (max (B0.dpss d.Body 1) (E0.dpss r)))))
            (oF d.Value (uV2 d.Kind) && ((bif d.Kind == 4 then true else d.Init == 0) && ((bif d.Kind == 6 then true else W11 d) && (d.Params.all pOk && (d.Vars.all vOk && (E0.alls A8 d.Params && (E0.alls A8 d.Vars && (B0.alls J8 d.Body && E0.alls A8 r))))))))
            (Hb d.Name && (d.Value.all H7 && (E0.alls Ug d.Params && (E0.alls Ug d.Vars && (B0.alls Wd d.Body && E0.alls Ug r)))))
            (d.Value.all L6 && (Mu d && (E0.alls Vg d.Params && (E0.alls Vg d.Vars && (B0.alls Wa d.Body && E0.alls Vg r)))))) := by
        rintro _ o rfl hr
        have q1 := hr.x0 (m := 0) (f := true) (a := Hb d.Name) (u := true)
        have q2 := S5.x (m := oD d.Value (uV2 d.Kind)) (f := oF d.Value (uV2 d.Kind)) (a := d.Value.all H7) (u := d.Value.all L6) q1
        have hio : (bif A2 d.Init (-1048576) 1048576 then (bif (d.TypeV.Kind != 0) then true else (bif (A2 d.Init (-1048576) 1048576) && (!(d.TypeV.Kind != 0)) then A2 d.Init 0 1 else default)) else false) = Mu d := by
          unfold Mu
          cases A2 d.Init (-1048576) 1048576 <;> cases (d.TypeV.Kind != 0) <;> rfl
        rw [K4, Y1c o hr.dep d.Name hs.name, ob, S18 d.Value (uV2 d.Kind) hs.value _ (q1.less (by omega)), ob, Ma _ q2.dep, ob, Zm, ob, hin, ob, hio, Yg _ (q2.x0).dep, ob, Ma _ (q2.x0.x0).dep, ob, tail _ (q2.x0.x0.x0)]
        simp only [Z4, Bool.true_and, Bool.and_true, Bool.and_assoc, Nat.zero_add, Nat.add_zero, Nat.zero_max, Nat.max_zero, Nat.add_assoc, Nat.max_assoc, W11]
      have hwn : (C0.mk (IntKind.i64.wrap (o.nodes + 1)) o.depth o.badForm o.badName o.badNumber) = D5 o 1 0 true true true := by
        rw [wr (by omega) (by omega)]
        simp only [D5, Bool.not_true, Bool.or_false]
        have := hr.dep
        rw [show max o.depth ((0 : Nat) : Int) = o.depth by omega]
        rfl
      have q1 : S5 (D5 o 1 0 true true true) (tN d.TypeV (isK d.Kind) + (oN d.Value (uV2 d.Kind) + (E0.ndss d.Params + (E0.ndss d.Vars + (B0.ndss d.Body + E0.ndss r))))) := S5.x (hr.less (by omega))
      have q2 := q1.x0 (m := 0) (f := isK d.Kind) (a := true) (u := true)
      rw [M3, e1, if_pos rfl, e2, ob, show Sf d.Kind = some (isK d.Kind, uV2 d.Kind) from rfl, ob]
      show (W0 (isK d.Kind) _ >>= _) = _
      rw [hwn, Ma _ q1.dep, ob, L1n d.TypeV hs.type]
      show ((if (!(isK d.Kind)) = true then some (Lw d.TypeV) else some default) >>= _) = _
      cases hk : isK d.Kind with
      | true =>
        rw [hk] at q2
        have q3 := q2
        unfold tN at q3
        simp only [Bool.not_true, cond_false] at q3
        rw [if_neg (by simp), ob]
        rw [if_pos (show (bif (true, uV2 d.Kind).1 then true else !default) = true from rfl), F1i d.TypeV hs.type _ (q3.less (by omega)), ob, j2 _ _ (by rw [hk]) (S5.x q3)]
        simp only [Z4, E0.ndss, E0.dpss, E0.alls, E0.nds_eq, E0.dps_eq, E0.all_eq, A8, Ug, Vg, hk, tN, tD, Bool.not_true, cond_false, Bool.true_and, Bool.and_assoc, Nat.add_assoc, Nat.max_assoc, Nat.zero_max, Nat.zero_add]
        congr 1
        simp only [D5]
        congr 1
        all_goals first
          | (congr 1; congr 1; ac_rfl)
          | (congr 1; congr 1)
          | skip
      | false =>
        rw [hk] at q2
        rw [if_pos (show (!false) = true from rfl), ob]
        show (if (!(Lw d.TypeV)) = true then _ else _) = _
        cases hz : Lw d.TypeV with
        | true =>
          unfold tN at q2
          rw [hz] at q2
          simp only [Bool.not_false, cond_true, Nat.zero_add] at q2
          rw [if_neg (by simp), j2 _ _ (by rw [hk]) q2]
          have hzt := X1r hz
          simp only [Z4, E0.ndss, E0.dpss, E0.alls, E0.nds_eq, E0.dps_eq, E0.all_eq, A8, Ug, Vg, hk, tN, tD, hz, Bool.not_false, cond_true, Bool.true_and, Bool.false_and, Bool.and_assoc, Nat.add_assoc, Nat.max_assoc, Nat.zero_max, Nat.zero_add]
          rw [hzt, B1d.1, B1d.2]
          simp only [Bool.true_and]
          congr 1
          simp only [D5]
          congr 1
          all_goals first
            | (congr 1; congr 1; ac_rfl)
            | (congr 1; congr 1)
            | skip
        | false =>
          have q3 := q2
          unfold tN at q3
          rw [hz] at q3
          simp only [Bool.not_false, cond_false, cond_true] at q3
          rw [if_pos (by simp), F1i d.TypeV hs.type _ (q3.less (by omega)), ob, j2 _ _ (by rw [hk]) (S5.x q3)]
          simp only [Z4, E0.ndss, E0.dpss, E0.alls, E0.nds_eq, E0.dps_eq, E0.all_eq, A8, Ug, Vg, hk, tN, tD, hz, Bool.not_false, cond_true, cond_false, Bool.true_and, Bool.false_and, Bool.and_assoc, Nat.add_assoc, Nat.max_assoc, Nat.zero_max, Nat.zero_add]
          congr 1
          simp only [D5]
          congr 1
          all_goals first
            | (congr 1; congr 1; ac_rfl)
            | (congr 1; congr 1)
            | skip
  rw [Z3]
  exact main l 0 o rfl hr
structure OkP (p : L0) : Prop where
  decls : OkD p.Decls
  body : OkS p.Body
def L15 (p : L0) : Nat := E0.ndss p.Decls + B0.ndss p.Body
def M15 (p : L0) : Nat := max (E0.dpss p.Decls) (B0.dpss p.Body 1)
def Nu (p : L0) : Int :=
  Nt (L15 p) (M15 p) (!(E0.alls A8 p.Decls && B0.alls J8 p.Body)) (!(E0.alls Ug p.Decls && B0.alls Wd p.Body)) (!(E0.alls Vg p.Decls && B0.alls Wa p.Body))
theorem P1n (p : L0) (h : OkP p) : Zc p = some (D5 ⟨0, 0, false, false, false⟩ (L15 p) (M15 p) (E0.alls A8 p.Decls && B0.alls J8 p.Body) (E0.alls Ug p.Decls && B0.alls Wd p.Body) (E0.alls Vg p.Decls && B0.alls Wa p.Body)) := by
  have h1 := E0.ndss_bulk p.Decls
  have h2 := B0.ndss_bulk p.Body
  have h3 : E0.bulks p.Decls ≤ BB := h.decls
  have h4 : B0.bulks p.Body ≤ BB := h.body
  have hr : S5 ⟨0, 0, false, false, false⟩ (E0.ndss p.Decls + B0.ndss p.Body) := ⟨Int.le_refl _, Int.le_refl _, by simp only; omega⟩
  unfold Zc
  rw [R1p p.Decls h.decls _ (hr.less (by omega)), ob, show (1 : Int) = ((1 : Nat) : Int) from rfl, A1d p.Body h.body 1 _ (by unfold BB at *; omega) (S5.x hr), ob, Z4]
  rfl
theorem S1p (n m : Nat) (f a u : Bool) : H5 (D5 ⟨0, 0, false, false, false⟩ n m f a u) = some (Nt n m (!f) (!a) (!u)) := by
  rw [O1r]
  simp only [D5, Bool.false_or]
  rw [show (0 : Int) + (n : Int) = n by omega, show max (0 : Int) (m : Int) = m by omega]
theorem Y1r (p : L0) (h : OkP p) : Vh p = some (Nu p) := by
  unfold Vh
  rw [P1n p h, ob, S1p, ob]
  rfl
end Go.Proofs.YtmilgoloagbmpaaGreatDoor

set_option linter.unusedSimpArgs false
set_option linter.unusedVariables false
set_option maxHeartbeats 1000000
namespace Go.Proofs.YtmilgoloagbmpaaGreatDoor
open Go.Am
theorem ifs {b c : Bool} {X : Option Bool} {y : Bool} (h : b = !c) (hx : X = some y) : (if b = true then some false else X) = some (c && y) := by
  subst h
  rw [hx]
  cases c <;> rfl
theorem ifd (c a : Bool) : (if c = true then some a else some default) = some (bif c then a else default) := by cases c <;> rfl
theorem rUP (v : Int) : Uf v = some (uPl v) := rfl
theorem rUV (v : Int) : Vf v = some (uVa v) := rfl
theorem rUN (v : Int) : Cl v = some (uNm v) := rfl
theorem J1u (v : Int) : Hw v = some (uNn v) := rfl
theorem rUT (v : Int) : Cq v = some (uTh v) := rfl
theorem rDT (k : Int) : Al k = some (isK k) := rfl
theorem rDV (k : Int) : Tf k = some (uV2 k) := rfl
def szX (s : I0) (n m : Nat) : I0 := ⟨s.nodes + n, max s.depth m⟩
theorem H10 (s : I0) (n m n' m' : Nat) : szX (szX s n m) n' m' = szX s (n + n') (max m m') := by
  simp only [szX]
  rw [show s.nodes + (n : Int) + (n' : Int) = s.nodes + ((n + n' : Nat) : Int) by omega, show max (max s.depth (m : Int)) (m' : Int) = max s.depth ((max m m' : Nat) : Int) by omega]
structure K8 (s : I0) (n : Nat) : Prop where
  dep : 0 ≤ s.depth
  low : 0 ≤ s.nodes
  high : s.nodes + n ≤ 3 * BB
theorem K8.x {s : I0} {n k m : Nat} (h : K8 s (k + n)) : K8 (szX s k m) n := by
  obtain ⟨h1, h2, h3⟩ := h
  refine ⟨?_, ?_, ?_⟩ <;> simp only [szX] <;> omega
theorem K8.less {s : I0} {n k : Nat} (h : K8 s n) (hk : k ≤ n) : K8 s k := ⟨h.dep, h.low, by have := h.high; omega⟩
theorem Lz (s : I0) (h : 0 ≤ s.depth) : szX s 0 0 = s := by
  simp only [szX]
  rw [show s.nodes + ((0 : Nat) : Int) = s.nodes by omega, show max s.depth ((0 : Nat) : Int) = s.depth by omega]
theorem Y12 (s : I0) (e : A0) (u : Bool) (h : OkE e) (hr : K8 s (oN e u)) : Sc s e u = some (szX s (oN e u) (oD e u)) := by
  have hn := h.nodes
  have hh := hr.high
  have hl := hr.low
  unfold Sc
  rw [G10 e h, ifd, ob, H1n e h, I1n e h]
  unfold oN oD at *
  cases u with
  | true =>
    simp only [Bool.not_true, cond_false] at *
    unfold BB at hh hn
    rw [if_neg (by simp), ob, ob, Ix, ob, wr (n := s.nodes + (e.nodes : Int)) (by omega) (by omega)]
    rfl
  | false =>
    simp only [Bool.not_false, cond_true] at *
    cases hz : Gk e with
    | true => rw [if_pos rfl]; exact congrArg some (Lz s hr.dep).symm
    | false =>
      rw [hz] at hh
      simp only [cond_false] at hh
      unfold BB at hh hn
      rw [if_neg (by simp), ob, ob, Ix, ob, wr (n := s.nodes + (e.nodes : Int)) (by omega) (by omega)]
      rfl
theorem Z1r (s : I0) (t : D0) (u : Bool) (h : Ok t) (hr : K8 s (tN t u)) : En s t u = some (szX s (tN t u) (tD t u)) := by
  have hn := h.nodes
  have hh := hr.high
  have hl := hr.low
  unfold En
  rw [O1p t h, ifd, ob, F1p t h, G1p t h]
  unfold tN tD at *
  cases u with
  | true =>
    simp only [Bool.not_true, cond_false] at *
    unfold BB at hh hn
    rw [if_neg (by simp), ob, ob, Ix, ob, wr (n := s.nodes + (t.nodes : Int)) (by omega) (by omega)]
    rfl
  | false =>
    simp only [Bool.not_false, cond_true] at *
    cases hz : Lw t with
    | true => rw [if_pos rfl]; exact congrArg some (Lz s hr.dep).symm
    | false =>
      rw [hz] at hh
      simp only [cond_false] at hh
      unfold BB at hh hn
      rw [if_neg (by simp), ob, ob, Ix, ob, wr (n := s.nodes + (t.nodes : Int)) (by omega) (by omega)]
      rfl
theorem X1t (s : I0) (hr : K8 s 1) (d : Nat) : O8 ⟨IntKind.i64.wrap (s.nodes + 1), s.depth⟩ (d : Int) = some (szX s 1 d) := by
  have hh := hr.high
  have hl := hr.low
  unfold BB at hh
  rw [Ix, wr (n := s.nodes + 1) (by omega) (by omega)]
  rfl
theorem C1c (e : A0) : oN e true = e.nodes ∧ oD e true = e.depth := ⟨rfl, rfl⟩
theorem C1d (s : B0) (hs : Y10 s) (K : I0 → Option I0) (F : I0 → Int → Option I0)
    (hF : ∀ (o : I0) (k : Int), F o k = if decide (k < (s.Args.length : Int)) = true then idx s.Args k >>= fun x => Sc o x true >>= fun y => F y (IntKind.i64.wrap (k + 1)) else K o) :
    ∀ (r : List A0) (k : Nat) (o : I0), s.Args.drop k = r → K8 o (A0.nodess r) → F o (k : Int) = K (szX o (A0.nodess r) (A0.depths r))
  | [], k, o, h, hr => by
    rw [hF, (K1 h).1, if_neg (by simp)]
    simp only [A0.nodess, A0.depths]
    rw [Lz o hr.dep]
  | x :: r, k, o, h, hr => by
    obtain ⟨e1, e2, e3, e4, e5⟩ := W1 h
    have := hs.args
    simp only [A0.nodess] at hr
    rw [hF, e1, if_pos rfl, e2, ob, Y12 o x true (hs.arg x e5) (hr.less (by rw [(C1c x).1]; omega)), ob, (C1c x).1, (C1c x).2, w1 (by omega), C1d s hs K F hF r (k + 1) _ e3 hr.x, H10]
    rfl
theorem N15 (l : List B0) : OkS l → ∀ (d : Nat) (o : I0), d + B0.bulks l ≤ 3 * BB → K8 o (B0.ndss l) → Sa o l d = some (szX o (B0.ndss l) (B0.dpss l d)) := by
  induction l using B0.inds with
  | h l ih =>
  intro hl d o hd hr
  have main : ∀ (r : List B0) (k : Nat) (o : I0), l.drop k = r → K8 o (B0.ndss r) → Lb l d o k = some (szX o (B0.ndss r) (B0.dpss r d)) := by
    intro r
    induction r with
    | nil =>
      intro k o h hr
      rw [Lb, (K1 h).1, if_neg (by simp)]
      exact congrArg some (Lz o hr.dep).symm
    | cons s r ihr =>
      intro k o h hr
      obtain ⟨e1, e2, e3, e4, e5⟩ := W1 h
      have hs := hl.mem e5
      have hlen := hl.len
      obtain ⟨i1, i2⟩ := ih s e5
      have hbm := B0.bulk_mem e5
      have hbe := B0.bulk_eq s
      simp only [B0.ndss, B0.nds_eq] at hr
      unfold BB at hd
      have hwd : IntKind.i64.wrap ((d : Int) + 1) = ((d + 1 : Nat) : Int) := by rw [wr (by omega) (by omega)]; rfl
      have args := C1d s hs _ (fun o k' => Yd l d o s k k') (fun o k' => Yd.eq_1 l d o s k k') s.Args 0
      rw [show ((0 : Nat) : Int) = 0 from rfl] at args
      have q1 : K8 (szX o 1 d) (oN s.Place (uPl s.Verb) + (oN s.Value (uVa s.Verb) + (A0.nodess s.Args + (B0.ndss s.Then + (B0.ndss s.Else + B0.ndss r))))) := K8.x (hr.less (by omega))
      have q2 := K8.x (m := oD s.Place (uPl s.Verb)) q1
      have q3 := K8.x (m := oD s.Value (uVa s.Verb)) q2
      have q4 := K8.x (m := A0.depths s.Args) q3
      have q5 := K8.x (m := B0.dpss s.Then (d + 1)) q4
      have q6 := K8.x (m := B0.dpss s.Else (d + 1)) q5
      rw [Lb, e1, if_pos rfl, e2, ob, X1t o (hr.less (by omega)) d, ob, rUP, ob, Y12 _ s.Place _ hs.place (q1.less (by omega)), ob, rUV, ob, Y12 _ s.Value _ hs.value (q2.less (by omega)), ob,
        args _ rfl (q3.less (by omega)), hwd, i1 hs.thens (d + 1) _ (by unfold BB; omega) (q4.less (by omega)), ob, i2 hs.elses (d + 1) _ (by unfold BB; omega) (q5.less (by omega)), ob, w1 (by omega), ihr (k + 1) _ e3 q6]
      simp only [H10, B0.ndss, B0.dpss, B0.nds_eq, B0.dps_eq, Nat.add_assoc, Nat.max_assoc]
  rw [Sa]
  exact main l 0 o rfl hr
theorem H1i (l : List E0) : OkD l → ∀ (o : I0), K8 o (E0.ndss l) → Bd o l = some (szX o (E0.ndss l) (E0.dpss l)) := by
  induction l using E0.inds with
  | h l ih =>
  intro hl o hr
  have main : ∀ (r : List E0) (k : Nat) (o : I0), l.drop k = r → K8 o (E0.ndss r) → Mb l o k = some (szX o (E0.ndss r) (E0.dpss r)) := by
    intro r
    induction r with
    | nil =>
      intro k o h hr
      rw [Mb, (K1 h).1, if_neg (by simp)]
      exact congrArg some (Lz o hr.dep).symm
    | cons s r ihr =>
      intro k o h hr
      obtain ⟨e1, e2, e3, e4, e5⟩ := W1 h
      have hs := hl.mem e5
      have hlen := hl.len
      obtain ⟨i1, i2⟩ := ih s e5
      have hbB : B0.bulks s.Body ≤ BB := hs.body
      simp only [E0.ndss, E0.nds_eq] at hr
      have hh := hr.high
      have hlo := hr.low
      have hw : (I0.mk (IntKind.i64.wrap (o.nodes + 1)) o.depth) = szX o 1 0 := by
        unfold BB at hh
        rw [wr (by omega) (by omega)]
        have := hr.dep
        simp only [szX]
        rw [show max o.depth ((0 : Nat) : Int) = o.depth by omega]
        rfl
      have q1 : K8 (szX o 1 0) (tN s.TypeV (isK s.Kind) + (oN s.Value (uV2 s.Kind) + (E0.ndss s.Params + (E0.ndss s.Vars + (B0.ndss s.Body + E0.ndss r))))) := K8.x (hr.less (by omega))
      have q2 := K8.x (m := tD s.TypeV (isK s.Kind)) q1
      have q3 := K8.x (m := oD s.Value (uV2 s.Kind)) q2
      have q4 := K8.x (m := E0.dpss s.Params) q3
      have q5 := K8.x (m := E0.dpss s.Vars) q4
      have q6 := K8.x (m := B0.dpss s.Body 1) q5
      rw [Mb, e1, if_pos rfl, e2, ob, rDT, ob, hw, Z1r _ s.TypeV _ hs.type (q1.less (by omega)), ob, rDV, ob, Y12 _ s.Value _ hs.value (q2.less (by omega)), ob, i1 hs.params _ (q3.less (by omega)), ob, i2 hs.vars _ (q4.less (by omega)), ob,
        show (1 : Int) = ((1 : Nat) : Int) from rfl, N15 s.Body hs.body 1 _ (by unfold BB at *; omega) (q5.less (by omega)), ob, show ((k : Int) + ((1 : Nat) : Int)) = (k : Int) + 1 from rfl, w1 (by omega), ihr (k + 1) _ e3 q6]
      simp only [H10, E0.ndss, E0.dpss, E0.nds_eq, E0.dps_eq, Nat.add_assoc, Nat.max_assoc, Nat.zero_max]
  rw [Bd]
  exact main l 0 o rfl hr
theorem Q1n (s : B0) (hs : Y10 s) (p : A0 → Bool) (g : A0 → Option Bool) (hg : ∀ x ∈ s.Args, g x = some (x.all p)) (K : Option Bool) (F : Int → Option Bool) (y : Bool) (hK : K = some y)
    (hF : ∀ k : Int, F k = if decide (k < (s.Args.length : Int)) = true then idx s.Args k >>= fun x => g x >>= fun b => if (!b) = true then some false else F (IntKind.i64.wrap (k + 1)) else K) :
    ∀ (r : List A0) (k : Nat), s.Args.drop k = r → F (k : Int) = some (A0.alls p r && y)
  | [], k, h => by rw [hF, (K1 h).1, if_neg (by simp), hK]; rfl
  | x :: r, k, h => by
    obtain ⟨e1, e2, e3, e4, e5⟩ := W1 h
    have := hs.args
    rw [hF, e1, if_pos rfl, e2, ob, hg x e5, ob, w1 (by omega), Q1n s hs p g hg K F y hK hF r (k + 1) e3, A0.alls]
    cases x.all p <;> simp
theorem H13 (l : List B0) : OkS l → D9 l = some (B0.alls J8 l) := by
  induction l using B0.inds with
  | h l ih =>
  intro hl
  have main : ∀ (r : List B0) (k : Nat), l.drop k = r → Q9 l k = some (B0.alls J8 r) := by
    intro r
    induction r with
    | nil => intro k h; rw [Q9, (K1 h).1, if_neg (by simp)]; rfl
    | cons s r ihr =>
      intro k h
      obtain ⟨e1, e2, e3, e4, e5⟩ := W1 h
      have hs := hl.mem e5
      have hlen := hl.len
      obtain ⟨i1, i2⟩ := ih s e5
      have l2 := Q1n s hs G5 A6 (fun x hx => E10 x (hs.arg x hx)) _ (fun k' => Dd l s k k') (B0.alls J8 s.Then && B0.alls J8 s.Else && B0.alls J8 r)
        (by
          rw [i1 hs.thens, ob, i2 hs.elses, ifd, ob, w1 (by omega), ihr (k + 1) e3]
          cases B0.alls J8 s.Then <;> cases B0.alls J8 s.Else <;> simp)
        (fun k' => Dd.eq_1 l s k k') s.Args 0 rfl
      rw [show ((0 : Nat) : Int) = 0 from rfl] at l2
      rw [Q9, e1, if_pos rfl, e2, ob]
      simp only [rUP, rUV, rUN, J1u, rUT, R1c, E10 _ hs.place, E10 _ hs.value, G10 _ hs.place, G10 _ hs.value, ifd, ob]
      have := ifs (b := bif decide (s.Verb < 0) then true else decide (s.Verb > 8)) (c := okV s.Verb) (by unfold okV; rw [Bool.not_not])
        (ifs (c := oF s.Place (uPl s.Verb) && (bif uPl s.Verb then s.Place.place else true)) (b := bif (bif uPl s.Verb then (bif (!(bif uPl s.Verb then s.Place.place else default)) then true else (!(bif (uPl s.Verb && (!(!(bif uPl s.Verb then s.Place.place else default)))) then s.Place.all G5 else default))) else false) then true else (bif (!(bif (!(bif uPl s.Verb then (bif (!(bif uPl s.Verb then s.Place.place else default)) then true else (!(bif (uPl s.Verb && (!(!(bif uPl s.Verb then s.Place.place else default)))) then s.Place.all G5 else default))) else false)) then uPl s.Verb else default)) then (!(bif ((!(bif uPl s.Verb then (bif (!(bif uPl s.Verb then s.Place.place else default)) then true else (!(bif (uPl s.Verb && (!(!(bif uPl s.Verb then s.Place.place else default)))) then s.Place.all G5 else default))) else false)) && (!(bif (!(bif uPl s.Verb then (bif (!(bif uPl s.Verb then s.Place.place else default)) then true else (!(bif (uPl s.Verb && (!(!(bif uPl s.Verb then s.Place.place else default)))) then s.Place.all G5 else default))) else false)) then uPl s.Verb else default))) then Gk s.Place else default)) else false))
          (by unfold oF; cases uPl s.Verb <;> cases s.Place.place <;> cases s.Place.all G5 <;> cases Gk s.Place <;> rfl)
        (ifs (c := oF s.Value (uVa s.Verb)) (b := bif (bif uVa s.Verb then (!(bif uVa s.Verb then s.Value.all G5 else default)) else false) then true else (bif (!(bif (!(bif uVa s.Verb then (!(bif uVa s.Verb then s.Value.all G5 else default)) else false)) then uVa s.Verb else default)) then (!(bif ((!(bif uVa s.Verb then (!(bif uVa s.Verb then s.Value.all G5 else default)) else false)) && (!(bif (!(bif uVa s.Verb then (!(bif uVa s.Verb then s.Value.all G5 else default)) else false)) then uVa s.Verb else default))) then Gk s.Value else default)) else false))
          (by unfold oF; cases uVa s.Verb <;> cases s.Value.all G5 <;> cases Gk s.Value <;> rfl)
        (ifs (c := (bif uNm s.Verb then true else s.Name == []) && (bif s.Verb == 1 then true else ((s.Args.length : Int) == 0)) && (bif uNn s.Verb then true else s.NV == 0) && (bif s.Verb == 7 then true else (bif s.Low == 0 then s.High == 0 else false)) && (bif s.Verb == 8 then true else ((s.Numbers.length : Int) == 0)))
          (b := bif (bif (bif (bif (bif (!(uNm s.Verb)) then (!(s.Name == [])) else false) then true else (bif (s.Verb != 1) then (((s.Args).length : Int) != 0) else false)) then true else (bif (!(bif (!(bif (bif (!(uNm s.Verb)) then (!(s.Name == [])) else false) then true else (bif (s.Verb != 1) then (((s.Args).length : Int) != 0) else false))) then uNn s.Verb else default)) then (s.NV != 0) else false)) then true else (bif (s.Verb != 7) then (bif (s.Low != 0) then true else (s.High != 0)) else false)) then true else (bif (s.Verb != 8) then (((s.Numbers).length : Int) != 0) else false))
          (by
            unfold bne
            generalize (s.Verb == 1) = a1; generalize (s.Verb == 7) = a2; generalize (s.Verb == 8) = a3; generalize (s.Name == []) = a4; generalize ((s.Args.length : Int) == 0) = a5; generalize (s.NV == 0) = a6; generalize (s.Low == 0) = a7; generalize (s.High == 0) = a8
            generalize ((s.Numbers.length : Int) == 0) = a9; generalize uNm s.Verb = b1; generalize uNn s.Verb = b2
            cases b1 <;> cases a4 <;> cases a1 <;> cases a5 <;> cases b2 <;> cases a6 <;> first | rfl | (cases a2 <;> cases a7 <;> cases a8 <;> cases a3 <;> cases a9 <;> rfl))
        (ifs (c := (bif uTh s.Verb then true else ((s.Then.length : Int) == 0)) && (bif s.Verb == 5 then true else ((s.Else.length : Int) == 0))) (b := bif (bif (!(uTh s.Verb)) then (((s.Then).length : Int) != 0) else false) then true else (bif (s.Verb != 5) then (((s.Else).length : Int) != 0) else false))
          (by
            unfold bne
            generalize (s.Verb == 5) = a1; generalize ((s.Then.length : Int) == 0) = a2; generalize ((s.Else.length : Int) == 0) = a3
            generalize uTh s.Verb = a0
            cases a0 <;> cases a1 <;> cases a2 <;> cases a3 <;> rfl) l2))))
      refine this.trans ?_
      simp only [B0.alls, B0.all_eq, J8, Bool.and_assoc]
      congr 1
      generalize A0.alls G5 s.Args = x
      generalize (bif s.Verb == 1 then true else ((s.Args.length : Int) == 0)) = y
      ac_rfl
  rw [D9]
  exact main l 0 rfl
end Go.Proofs.YtmilgoloagbmpaaGreatDoor

set_option linter.unusedSimpArgs false
set_option linter.unusedVariables false
set_option maxHeartbeats 1000000
namespace Go.Proofs.YtmilgoloagbmpaaGreatDoor
open Go.Am
theorem I1i (c : List E0) (hc : c.length ≤ BB) (q : E0 → Bool) (K : Option Bool) (F : Int → Option Bool) (y : Bool) (hK : K = some y)
    (hF : ∀ (r : List E0) (k : Nat) (x : E0), c.drop k = x :: r → F (k : Int) = if q x = true then F (IntKind.i64.wrap ((k : Int) + 1)) else some false) (hE : ∀ k : Nat, c.drop k = [] → F (k : Int) = K) :
    ∀ (r : List E0) (k : Nat), c.drop k = r → F (k : Int) = some (r.all q && y)
  | [], k, h => by rw [hE k h, hK]; rfl
  | x :: r, k, h => by
    obtain ⟨e1, e2, e3, e4, e5⟩ := W1 h
    rw [hF r k x h, w1 (by omega), I1i c hc q K F y hK hF hE r (k + 1) e3, List.all_cons]
    cases q x <;> simp
theorem E1e (l : List E0) : OkD l → Cc l = some (E0.alls A8 l) := by
  induction l using E0.inds with
  | h l ih =>
  intro hl
  have main : ∀ (r : List E0) (k : Nat), l.drop k = r → R9 l k = some (E0.alls A8 r) := by
    intro r
    induction r with
    | nil => intro k h; rw [R9, (K1 h).1, if_neg (by simp)]; rfl
    | cons d r ihr =>
      intro k h
      obtain ⟨e1, e2, e3, e4, e5⟩ := W1 h
      have hs := hl.mem e5
      have hlen := hl.len
      obtain ⟨i1, i2⟩ := ih d e5
      have l3 := I1i d.Vars hs.vars.len vOk _ (fun k' => H6 l d k k') (E0.alls A8 d.Params && E0.alls A8 d.Vars && B0.alls J8 d.Body && E0.alls A8 r) rfl
        (fun r' k' x hx => by
          obtain ⟨f1, f2, f3, f4, f5⟩ := W1 hx
          show H6 l d k k' = _
          rw [H6, f1, if_pos rfl, f2, ob]
          unfold vOk bne
          cases (x.Kind == 4) <;> rfl)
        (fun k' hx => by
          show H6 l d k k' = _
          rw [H6, (K1 hx).1, if_neg (by simp), i1 hs.params, ob, i2 hs.vars, ifd, ob, H13 d.Body hs.body, ifd, ob, w1 (by omega), ihr (k + 1) e3]
          cases E0.alls A8 d.Params <;> cases E0.alls A8 d.Vars <;> cases B0.alls J8 d.Body <;> simp) d.Vars 0 rfl
      have l2 := I1i d.Params hs.params.len pOk _ (fun k' => G6 l d k k') (d.Vars.all vOk && (E0.alls A8 d.Params && E0.alls A8 d.Vars && B0.alls J8 d.Body && E0.alls A8 r)) rfl
        (fun r' k' x hx => by
          obtain ⟨f1, f2, f3, f4, f5⟩ := W1 hx
          show G6 l d k k' = _
          rw [G6, f1, if_pos rfl, f2, ob]
          unfold pOk bne
          cases (x.Kind == 4)
          · rfl
          · simp only [Bool.not_true, Bool.not_false, if_true, ob, cond_true, cond_false]
            cases (x.Init == 0) <;> rfl)
        (fun k' hx => by
          show G6 l d k k' = _
          rw [G6, (K1 hx).1, if_neg (by simp)]
          exact l3) d.Params 0 rfl
      rw [show ((0 : Nat) : Int) = 0 from rfl] at l2
      rw [R9, e1, if_pos rfl, e2, ob]
      simp only [rDT, rDV, P1r _ hs.type, E10 _ hs.value, G10 _ hs.value, ifd, ob]
      have := ifs (b := bif (!(isK d.Kind)) then true else (!(bif (!(!(isK d.Kind))) then d.TypeV.all Ua else default))) (c := isK d.Kind && d.TypeV.all Ua) (by cases isK d.Kind <;> cases d.TypeV.all Ua <;> rfl)
        (ifs (c := oF d.Value (uV2 d.Kind) && (bif d.Kind == 4 then true else d.Init == 0)) (b := bif (bif (bif uV2 d.Kind then (!(bif uV2 d.Kind then d.Value.all G5 else default)) else false) then true else (bif (!(bif (!(bif uV2 d.Kind then (!(bif uV2 d.Kind then d.Value.all G5 else default)) else false)) then uV2 d.Kind else default)) then (!(bif ((!(bif uV2 d.Kind then (!(bif uV2 d.Kind then d.Value.all G5 else default)) else false)) && (!(bif (!(bif uV2 d.Kind then (!(bif uV2 d.Kind then d.Value.all G5 else default)) else false)) then uV2 d.Kind else default))) then Gk d.Value else default)) else false)) then true else (bif (d.Kind != 4) then (d.Init != 0) else false))
          (by
            unfold oF bne
            generalize (d.Kind == 4) = a1
            generalize (d.Init == 0) = a2
            generalize uV2 d.Kind = a3
            cases a3 <;> cases d.Value.all G5 <;> cases Gk d.Value <;> cases a1 <;> cases a2 <;> rfl)
        (ifs (c := bif d.Kind == 6 then true else W11 d) (b := bif (d.Kind != 6) then (bif (bif (((d.Params).length : Int) != 0) then true else (((d.Vars).length : Int) != 0)) then true else (((d.Body).length : Int) != 0)) else false)
          (by
            unfold W11 bne
            cases (d.Kind == 6) <;> cases ((d.Params.length : Int) == 0) <;> cases ((d.Vars.length : Int) == 0) <;> cases ((d.Body.length : Int) == 0) <;> rfl) l2))
      refine this.trans ?_
      simp only [E0.alls, E0.all_eq, A8, Bool.and_assoc]
      congr 1
      ac_rfl
  rw [Cc]
  exact main l 0 rfl
theorem T1p (s : B0) (hs : Y10 s) (p : A0 → Bool) (g : A0 → Option Bool) (hg : ∀ x ∈ s.Args, g x = some (x.all p)) (K : Option Bool) (F : Int → Option Bool) (y : Bool) (hK : K = some y)
    (hF : ∀ k : Int, F k = if decide (k < (s.Args.length : Int)) = true then idx s.Args k >>= fun x => g x >>= fun b => if (!b) = true then some false else F (IntKind.i64.wrap (k + 1)) else K) : F 0 = some (A0.alls p s.Args && y) :=
  Q1n s hs p g hg K F y hK hF s.Args 0 rfl
theorem X11 (l : List B0) : OkS l → U7 l = some (B0.alls Wd l) := by
  induction l using B0.inds with
  | h l ih =>
  intro hl
  have main : ∀ (r : List B0) (k : Nat), l.drop k = r → Z8 l k = some (B0.alls Wd r) := by
    intro r
    induction r with
    | nil => intro k h; rw [Z8, (K1 h).1, if_neg (by simp)]; rfl
    | cons s r ihr =>
      intro k h
      obtain ⟨e1, e2, e3, e4, e5⟩ := W1 h
      have hs := hl.mem e5
      have hlen := hl.len
      obtain ⟨i1, i2⟩ := ih s e5
      have l2 := T1p s hs H7 O5 (fun x hx => My x (hs.arg x hx)) _ (fun k' => Gc l s k k') (B0.alls Wd r) (by rw [w1 (by omega), ihr (k + 1) e3]) (fun k' => Gc.eq_1 l s k k')
      rw [Z8, e1, if_pos rfl, e2, ob]
      simp only [rUN, Tp _ hs.name, My _ hs.place, My _ hs.value, i1 hs.thens, i2 hs.elses, ifd, ob, l2]
      simp only [B0.alls, B0.all_eq, Wd]
      generalize uNm s.Verb = a1
      generalize Hb s.Name = a2
      generalize s.Place.all H7 = a3
      generalize s.Value.all H7 = a4
      generalize B0.alls Wd s.Then = a5
      generalize B0.alls Wd s.Else = a6
      cases a1 <;> cases a2 <;> cases a3 <;> cases a4 <;> cases a5 <;> cases a6 <;> simp
  rw [U7]
  exact main l 0 rfl
theorem D1c (l : List E0) : OkD l → U9 l = some (E0.alls Ug l) := by
  induction l using E0.inds with
  | h l ih =>
  intro hl
  have main : ∀ (r : List E0) (k : Nat), l.drop k = r → A9 l k = some (E0.alls Ug r) := by
    intro r
    induction r with
    | nil => intro k h; rw [A9, (K1 h).1, if_neg (by simp)]; rfl
    | cons d r ihr =>
      intro k h
      obtain ⟨e1, e2, e3, e4, e5⟩ := W1 h
      have hs := hl.mem e5
      have hlen := hl.len
      obtain ⟨i1, i2⟩ := ih d e5
      rw [A9, e1, if_pos rfl, e2, ob]
      simp only [Tp _ hs.name, H1p _ hs.type, My _ hs.value, i1 hs.params, i2 hs.vars, X11 _ hs.body, ifd, ob, w1 (show k ≤ BB by omega), ihr (k + 1) e3]
      simp only [E0.alls, E0.all_eq, Ug]
      generalize Hb d.Name = a2
      generalize d.TypeV.all Qo = a3
      generalize d.Value.all H7 = a4
      generalize E0.alls Ug d.Params = a5
      generalize E0.alls Ug d.Vars = a6
      generalize B0.alls Wd d.Body = a1
      cases a1 <;> cases a2 <;> cases a3 <;> cases a4 <;> cases a5 <;> cases a6 <;> simp
  rw [U9]
  exact main l 0 rfl
theorem R1n (x : Int) : A2 x 0 1048576 = (bif decide (x < 0) then false else !decide (x > 1048576)) := by
  unfold A2
  rw [C10, W12]
  cases decide (x ≥ 0) <;> cases decide (x ≤ 1048576) <;> rfl
theorem U1p (s : B0) (hs : Y10 s) : ∀ (r : List Int) (k : Nat) (last : Int), s.Numbers.drop k = r → (k = 0 ∧ last = -1 ∨ 0 < k ∧ idx s.Numbers ((k - 1 : Nat) : Int) = some last) → I6 s k = some (So last r)
  | [], k, last, h, h0 => by rw [I6, (K1 h).1, if_neg (by simp)]; rfl
  | x :: r, k, last, h, h0 => by
    obtain ⟨e1, e2, e3, e4, e5⟩ := W1 h
    have hnl := hs.nums
    have ih := U1p s hs r (k + 1) x e3 (.inr ⟨by omega, e2⟩)
    unfold BB at hnl
    rw [show So last (x :: r) = ((bif A2 x 0 1048576 then decide (x > last) else false) && So x r) from rfl, R1n, I6, e1, if_pos rfl, e2, ob, w1 (by unfold BB; omega), ih]
    by_cases hx : x < 0
    · rw [decide_eq_true hx]; rfl
    · rw [decide_eq_false hx, if_pos (show (!false) = true from rfl), ob]
      cases hB : decide (x > 1048576) with
      | true => rfl
      | false =>
        rcases h0 with ⟨rfl, rfl⟩ | ⟨hk, hl⟩
        · have hk : decide (((0 : Nat) : Int) > 0) = false := by decide
          rw [hk, decide_eq_true (show x > -1 by omega)]
          cases So x r <;> rfl
        · have hk' : decide ((k : Int) > 0) = true := decide_eq_true (by omega)
          have hw : IntKind.i64.wrap ((k : Int) - 1) = ((k - 1 : Nat) : Int) := by rw [wr (by omega) (by omega)]; omega
          have hd : decide (x ≤ last) = !decide (x > last) := by rw [← decide_not]; exact decide_eq_decide.2 (by omega)
          rw [hk', hw, hl]
          show (if decide (x ≤ last) = true then some false else some (So x r)) = some (decide (x > last) && So x r)
          rw [hd]
          cases decide (x > last) <;> cases So x r <;> rfl
theorem A1s (s : B0) (hs : Y10 s) : Hg s = some (Jn s) := by
  unfold Hg Jn
  cases s.Verb == 4 with
  | true => rw [if_pos rfl]; rfl
  | false =>
    rw [if_neg (by simp)]
    cases s.Verb == 6 with
    | true => rw [if_pos rfl]; rfl
    | false =>
      rw [if_neg (by simp)]
      cases s.Verb == 7 with
      | true =>
        rw [if_pos rfl, D10, ob, D10, ifd, ob]
        show some _ = some (bif (bif A2 s.Low (-1048576) 1048576 then A2 s.High s.Low 1048576 else false) then decide (s.High - s.Low < 4096) else false)
        congr 1
        by_cases hb : (-1048576 ≤ s.Low ∧ s.Low ≤ 1048576) ∧ (-1048576 ≤ s.High ∧ s.High ≤ 1048576)
        · obtain ⟨⟨b1, b2⟩, b3, b4⟩ := hb
          rw [wr (n := s.High - s.Low) (by omega) (by omega), wr (n := s.High - s.Low + 1) (by omega) (by omega)]
          unfold Dj A2
          rw [decide_eq_true (show s.Low ≥ -1048576 from b1), decide_eq_true b2, decide_eq_true (show s.High ≥ -1048576 from b3), decide_eq_true b4]
          simp only [cond_true]
          have e : decide (s.High - s.Low + 1 ≤ 4096) = decide (s.High - s.Low < 4096) := decide_eq_decide.2 (by omega)
          rw [e]
          show (bif decide (s.Low ≤ s.High) then decide (s.High - s.Low < 4096) else false) = (bif (bif decide (s.Low ≤ s.High) then true else false) then decide (s.High - s.Low < 4096) else false)
          cases decide (s.Low ≤ s.High) <;> rfl
        · unfold Dj A2
          by_cases h1 : -1048576 ≤ s.Low ∧ s.Low ≤ 1048576
          · obtain ⟨b1, b2⟩ := h1
            rw [decide_eq_true (show s.Low ≥ -1048576 from b1), decide_eq_true b2]
            simp only [cond_true]
            by_cases h2 : s.High ≤ 1048576
            · have h3 : ¬ s.High ≥ -1048576 := fun h => hb ⟨⟨b1, b2⟩, h, h2⟩
              rw [decide_eq_false h3, decide_eq_false (show ¬ s.High ≥ s.Low by omega)]
              rfl
            · rw [decide_eq_false h2]
              cases decide (s.High ≥ -1048576) <;> cases decide (s.High ≥ s.Low) <;> rfl
          · have : (bif decide (s.Low ≥ -1048576) then decide (s.Low ≤ 1048576) else false) = false := by
              by_cases h2 : -1048576 ≤ s.Low
              · rw [decide_eq_true (show s.Low ≥ -1048576 from h2), decide_eq_false (fun h => h1 ⟨h2, h⟩)]; rfl
              · rw [decide_eq_false (show ¬ s.Low ≥ -1048576 from h2)]; rfl
            rw [this]
            rfl
      | false =>
        rw [if_neg (by simp)]
        cases s.Verb == 8 with
        | true =>
          have := U1p s hs s.Numbers 0 (-1) rfl (.inl ⟨rfl, rfl⟩)
          rw [show ((0 : Nat) : Int) = 0 from rfl] at this
          rw [if_pos rfl, this, C10, W12]
          show _ = some (A2 (s.Numbers.length : Int) 1 32 && So (-1) s.Numbers)
          unfold A2
          cases decide ((s.Numbers.length : Int) ≥ 1) <;> cases decide ((s.Numbers.length : Int) ≤ 32) <;> simp
        | false => rfl
theorem Mz (l : List B0) : OkS l → J6 l = some (B0.alls Wa l) := by
  induction l using B0.inds with
  | h l ih =>
  intro hl
  have main : ∀ (r : List B0) (k : Nat), l.drop k = r → W6 l k = some (B0.alls Wa r) := by
    intro r
    induction r with
    | nil => intro k h; rw [W6, (K1 h).1, if_neg (by simp)]; rfl
    | cons s r ihr =>
      intro k h
      obtain ⟨e1, e2, e3, e4, e5⟩ := W1 h
      have hs := hl.mem e5
      have hlen := hl.len
      obtain ⟨i1, i2⟩ := ih s e5
      have l2 := T1p s hs L6 E4 (fun x hx => Ku x (hs.arg x hx)) _ (fun k' => G9 l s k k') (B0.alls Wa r) (by rw [w1 (by omega), ihr (k + 1) e3]) (fun k' => G9.eq_1 l s k k')
      rw [W6, e1, if_pos rfl, e2, ob]
      simp only [A1s s hs, Ku _ hs.place, Ku _ hs.value, i1 hs.thens, i2 hs.elses, ifd, ob, l2]
      simp only [B0.alls, B0.all_eq, Wa]
      generalize Jn s = a2
      generalize s.Place.all L6 = a3
      generalize s.Value.all L6 = a4
      generalize B0.alls Wa s.Then = a5
      generalize B0.alls Wa s.Else = a6
      cases a2 <;> cases a3 <;> cases a4 <;> cases a5 <;> cases a6 <;> simp
  rw [J6]
  exact main l 0 rfl
def Z12 (d : E0) : Bool := (d.TypeV.all fun t => !Xv t) && d.Value.all L6 && Mu d && B0.alls Wa d.Body
theorem T18 (l : List E0) : OkD l → P7 l = some (E0.alls Z12 l) := by
  induction l using E0.inds with
  | h l ih =>
  intro hl
  have main : ∀ (r : List E0) (k : Nat), l.drop k = r → X6 l k = some (E0.alls Z12 r) := by
    intro r
    induction r with
    | nil => intro k h; rw [X6, (K1 h).1, if_neg (by simp)]; rfl
    | cons d r ihr =>
      intro k h
      obtain ⟨e1, e2, e3, e4, e5⟩ := W1 h
      have hs := hl.mem e5
      have hlen := hl.len
      obtain ⟨i1, i2⟩ := ih d e5
      rw [X6, e1, if_pos rfl, e2, ob, D10, ob]
      simp only [A1k _ hs.type, Ku _ hs.value, i1 hs.params, i2 hs.vars, Mz _ hs.body, ifd, ob, w1 (show k ≤ BB by omega), ihr (k + 1) e3]
      have hi : (bif (!(Dj d.Init)) then true else (bif (d.TypeV.Kind == 0) then (bif (decide (d.Init < 0)) then true else (decide (d.Init > 1))) else false)) = !(Mu d) := by
        unfold Mu Dj A2 bne
        rw [C10, W12 d.Init 1]
        cases decide (d.Init ≥ -1048576) <;> cases decide (d.Init ≤ 1048576) <;> cases (d.TypeV.Kind == 0) <;> cases decide (d.Init ≥ 0) <;> cases decide (d.Init ≤ 1) <;> rfl
      rw [hi]
      simp only [E0.alls, E0.all_eq, Z12]
      generalize Mu d = a2
      generalize (d.TypeV.all fun t => !Xv t) = a3
      generalize d.Value.all L6 = a4
      generalize E0.alls Z12 d.Params = a5
      generalize E0.alls Z12 d.Vars = a6
      generalize B0.alls Wa d.Body = a1
      cases a1 <;> cases a2 <;> cases a3 <;> cases a4 <;> cases a5 <;> cases a6 <;> simp
  rw [P7]
  exact main l 0 rfl
theorem V1p (l : List E0) : E0.alls A8 l = true → E0.alls Z12 l = E0.alls Vg l := by
  induction l using E0.inds with
  | h l ih =>
  induction l with
  | nil => intro _; rfl
  | cons d r ihr =>
    intro h
    simp only [E0.alls, E0.all_eq, Bool.and_eq_true] at h
    obtain ⟨⟨h1, h2, h3⟩, h4⟩ := h
    obtain ⟨i1, i2⟩ := ih d List.mem_cons_self
    have h5 : d.TypeV.all Ua = true := by
      unfold A8 at h1
      simp only [Bool.and_eq_true] at h1
      exact h1.1.1.1.1.1.1.2
    simp only [E0.alls, E0.all_eq, Z12, Vg, ← Z1j d.TypeV h5, i1 h2, i2 h3, ihr (fun x hx => ih x (List.mem_cons_of_mem _ hx)) h4]
theorem B1s (p : L0) (h : OkP p) : Mr p = some ⟨L15 p, M15 p⟩ := by
  have h1 := E0.ndss_bulk p.Decls
  have h2 := B0.ndss_bulk p.Body
  have h3 : E0.bulks p.Decls ≤ BB := h.decls
  have h4 : B0.bulks p.Body ≤ BB := h.body
  have hr : K8 ⟨0, 0⟩ (E0.ndss p.Decls + B0.ndss p.Body) := ⟨Int.le_refl _, Int.le_refl _, by simp only; omega⟩
  unfold Mr
  rw [H1i p.Decls h.decls _ (hr.less (by omega)), ob, show (1 : Int) = ((1 : Nat) : Int) from rfl, N15 p.Body h.body 1 _ (by unfold BB at *; omega) (K8.x hr), ob, H10]
  unfold szX L15 M15
  simp only
  rw [show (0 : Int) + ((E0.ndss p.Decls + B0.ndss p.Body : Nat) : Int) = ((E0.ndss p.Decls + B0.ndss p.Body : Nat) : Int) by omega, show max (0 : Int) ((max (E0.dpss p.Decls) (B0.dpss p.Body 1) : Nat) : Int) = ((max (E0.dpss p.Decls) (B0.dpss p.Body 1) : Nat) : Int) by omega]
theorem C1u (a b : Bool) : (bif a then (bif a then b else default) else false) = (a && b) := by cases a <;> rfl
theorem W1p (p : L0) (h : OkP p) : Rr p = some (Nu p) := by
  unfold Rr
  simp only [B1s p h, E1e _ h.decls, H13 _ h.body, D1c _ h.decls, X11 _ h.body, T18 _ h.decls, Mz _ h.body, ifd, ob, B1k, C1u]
  unfold Nu
  cases hf : E0.alls A8 p.Decls with
  | false => unfold Nt; rfl
  | true => rw [V1p p.Decls hf]
theorem I17 (l : List B0) : OkS l → ∀ n, ∃ m, F6 l n = some m := by
  induction l using B0.inds with
  | h l ih =>
  intro hl n
  have main : ∀ (r : List B0) (k : Nat) (n : Int), l.drop k = r → ∃ m, K7 l n k = some m := by
    intro r
    induction r with
    | nil => intro k n h; rw [K7, (K1 h).1]; exact ⟨_, rfl⟩
    | cons s r ihr =>
      intro k n h
      obtain ⟨e1, e2, e3, e4, e5⟩ := W1 h
      have hs := hl.mem e5
      have hlen := hl.len
      obtain ⟨i1, i2⟩ := ih s e5
      have tail : ∀ n : Int, ∃ m, (if decide ((s.Numbers.length : Int) > 100) = true then some (-1) else F6 s.Then n >>= fun x6 => F6 s.Else x6 >>= fun x7 => K7 l x7 (IntKind.i64.wrap ((k : Int) + 1))) = some m := fun n => by
        cases decide ((s.Numbers.length : Int) > 100) with
        | true => exact ⟨_, rfl⟩
        | false =>
          obtain ⟨a, ha⟩ := i1 hs.thens n
          obtain ⟨b, hb⟩ := i2 hs.elses a
          rw [if_neg (by simp), ha, ob, hb, ob, w1 (by omega)]
          exact ihr (k + 1) b e3
      have l2 : ∀ (q : List A0) (j : Nat) (n : Int), s.Args.drop j = q → ∃ m, K9 l s n k j = some m := by
        intro q
        induction q with
        | nil => intro j n hj; rw [K9, (K1 hj).1, cond_false, if_neg (by simp)]; exact tail n
        | cons a q ihq =>
          intro j n hj
          obtain ⟨f1, f2, f3, f4, f5⟩ := W1 hj
          have := hs.args
          rw [K9, f1, cond_true, f2]
          cases decide (n ≥ 0) with
          | false => rw [if_neg (by simp)]; exact tail n
          | true =>
            obtain ⟨m, hm⟩ := Ny a (hs.arg a f5) n
            rw [if_pos rfl, ob, hm, ob, w1 (by omega)]
            exact ihq (j + 1) m f3
      rw [K7, e1, cond_true, e2]
      cases decide (n ≥ 0) with
      | false => exact ⟨_, rfl⟩
      | true =>
        rw [if_pos rfl, ob]
        obtain ⟨a, ha⟩ := Ny s.Place hs.place (IntKind.i64.wrap ((IntKind.i64.wrap (n - 1)) - (IntKind.i64.wrap (Int.tdiv ((s.Name).length : Int) 16))))
        obtain ⟨b, hb⟩ := Ny s.Value hs.value a
        rw [ha, ob, hb, ob]
        exact l2 s.Args 0 b rfl
  rw [F6]
  exact main l 0 n rfl
theorem S1n (l : List E0) : OkD l → ∀ n, ∃ m, Vb l n = some m := by
  induction l using E0.inds with
  | h l ih =>
  intro hl n
  have main : ∀ (r : List E0) (k : Nat) (n : Int), l.drop k = r → ∃ m, L9 l n k = some m := by
    intro r
    induction r with
    | nil => intro k n h; rw [L9, (K1 h).1]; exact ⟨_, rfl⟩
    | cons d r ihr =>
      intro k n h
      obtain ⟨e1, e2, e3, e4, e5⟩ := W1 h
      have hs := hl.mem e5
      have hlen := hl.len
      obtain ⟨i1, i2⟩ := ih d e5
      rw [L9, e1, cond_true, e2]
      cases decide (n ≥ 0) with
      | false => exact ⟨_, rfl⟩
      | true =>
        rw [if_pos rfl, ob]
        obtain ⟨a, ha⟩ := J1n d.TypeV hs.type (IntKind.i64.wrap ((IntKind.i64.wrap (n - 1)) - (IntKind.i64.wrap (Int.tdiv ((d.Name).length : Int) 16))))
        obtain ⟨b, hb⟩ := Ny d.Value hs.value a
        obtain ⟨c, hc⟩ := i1 hs.params b
        obtain ⟨e, he⟩ := i2 hs.vars c
        obtain ⟨f, hf⟩ := I17 d.Body hs.body e
        rw [ha, ob, hb, ob, hc, ob, he, ob, hf, ob, w1 (by omega)]
        exact ihr (k + 1) f e3
  rw [Vb]
  exact main l 0 n rfl
theorem X1p (p : L0) (h : OkP p) (n : Int) : ∃ b, Ww p n = some b := by
  obtain ⟨a, ha⟩ := S1n p.Decls h.decls n
  obtain ⟨b, hb⟩ := I17 p.Body h.body a
  unfold Ww
  rw [ha, ob, hb]
  exact ⟨_, rfl⟩
theorem J1i {p : L0} (h : p.bulk ≤ 1048576) : OkP p := by
  cases p
  simp only [L0.bulk] at h
  exact ⟨by unfold OkD BB; simp only; omega, by unfold OkS BB; simp only; omega⟩
end Go.Proofs.YtmilgoloagbmpaaGreatDoor

set_option linter.unusedSimpArgs false
set_option linter.unusedVariables false
set_option maxHeartbeats 2000000
namespace Go.Proofs.YtmilgoloagbmpaaGreatDoor
open Go.Am
structure Fq (l : List B0) : Prop where
  form : B0.alls J8 l = true
  numb : B0.alls Wa l = true
  ok : OkS l
theorem B0.alls_mem {p : B0 → Bool} : ∀ {l : List B0} {t : B0}, B0.alls p l = true → t ∈ l → t.all p = true
  | x :: r, t, h, hm => by
    simp only [B0.alls, Bool.and_eq_true] at h
    cases hm with
    | head => exact h.1
    | tail _ hm => exact B0.alls_mem h.2 hm
abbrev z : A0 := ⟨0, 0, [], []⟩
inductive Wp : B0 → Prop
  | set (pl va) (h : Va pl) (h' : Va va) : Wp (.mk 0 pl va [] [] 0 0 0 [] [] [])
  | call (pl nm ar) (h : Va pl) (h' : ∀ a ∈ ar, Va a) : Wp (.mk 1 pl z nm ar 0 0 0 [] [] [])
  | rel (pl nm) (h : Va pl) : Wp (.mk 2 pl z nm [] 0 0 0 [] [] [])
  | out (va) (h : Va va) : Wp (.mk 3 z va [] [] 0 0 0 [] [] [])
  | wait (n) (h : Z5 n) : Wp (.mk 4 z z [] [] n 0 0 [] [] [])
  | cond (va th el) (h : Va va) (h1 : Fq th) (h2 : Fq el) : Wp (.mk 5 z va [] [] 0 0 0 [] th el)
  | loop (va n th) (h : Va va) (hn : Z5 n) (h1 : Fq th) : Wp (.mk 6 z va [] [] n 0 0 [] th [])
  | count (nm lo hi th) (h : Z5 lo) (h' : Z5 hi) (h1 : Fq th) : Wp (.mk 7 z z nm [] 0 lo hi [] th [])
  | settle (ns) (h : ∀ n ∈ ns, Z5 n) : Wp (.mk 8 z z [] [] 0 0 0 ns [] [])
theorem J17 : ∀ (l : List Int) (last : Int), So last l = true → ∀ n ∈ l, Z5 n
  | x :: r, last, h, n, hn => by
    simp only [So, Bool.and_eq_true] at h
    cases hn with
    | head =>
      have h1 := h.1
      unfold A2 at h1
      simp at h1
      unfold Z5
      omega
    | tail _ hn => exact J17 r x h.2 n hn
theorem Y1p (s : B0) (hs : Y10 s) (hf : s.all J8 = true) (hn : s.all Wa = true) : Wp s := by
  rw [B0.all_eq, Bool.and_eq_true, Bool.and_eq_true] at hf hn
  obtain ⟨f0, ft, fe⟩ := hf
  obtain ⟨n0, nt, ne⟩ := hn
  have FT : Fq s.Then := ⟨ft, nt, hs.thens⟩
  have FE : Fq s.Else := ⟨fe, ne, hs.elses⟩
  unfold J8 at f0
  unfold Wa at n0
  simp only [Bool.and_eq_true] at f0 n0
  obtain ⟨⟨⟨⟨⟨⟨⟨⟨⟨⟨⟨g0, g1⟩, g2⟩, g3⟩, g4⟩, g5⟩, g6⟩, g7⟩, g8⟩, g9⟩, g10⟩, g11⟩ := f0
  obtain ⟨⟨⟨m1, m2⟩, m3⟩, m4⟩ := n0
  have FP : s.Place.all G5 = true → Va s.Place := fun h => ⟨h, m1, hs.place⟩
  have FV : s.Value.all G5 = true → Va s.Value := fun h => ⟨h, m2, hs.value⟩
  have FA : ∀ a ∈ s.Args, Va a := fun a ha => ⟨A0.alls_mem g6 ha, A0.alls_mem m3 ha, hs.arg a ha⟩
  obtain ⟨v, pl, va, nm, ar, n, lo, hi, ns, th, el⟩ := s
  simp only at *
  have hv : v = 0 ∨ v = 1 ∨ v = 2 ∨ v = 3 ∨ v = 4 ∨ v = 5 ∨ v = 6 ∨ v = 7 ∨ v = 8 := by
    unfold okV at g0
    by_cases h1 : v < 0
    · rw [decide_eq_true h1] at g0; cases g0
    · by_cases h2 : v > 8
      · rw [decide_eq_false h1, decide_eq_true h2] at g0; cases g0
      · omega
  rcases hv with rfl | rfl | rfl | rfl | rfl | rfl | rfl | rfl | rfl
  · simp [oF, uPl, uVa, uNm, uNn, uTh] at g1 g3 g4 g5 g7 g8 g9 g10 g11
    obtain ⟨rfl, rfl⟩ := g8
    subst g4 g5 g7 g9 g10 g11
    exact .set _ _ (FP g1) (FV g3)
  · simp [oF, uPl, uVa, uNm, uNn, uTh] at g1 g3 g4 g5 g7 g8 g9 g10 g11
    obtain ⟨rfl, rfl⟩ := g8
    obtain rfl := Fg g3
    subst g7 g9 g10 g11
    exact .call _ _ _ (FP g1) FA
  · simp [oF, uPl, uVa, uNm, uNn, uTh] at g1 g3 g4 g5 g7 g8 g9 g10 g11
    obtain ⟨rfl, rfl⟩ := g8
    obtain rfl := Fg g3
    subst g5 g7 g9 g10 g11
    exact .rel _ _ (FP g1)
  · simp [oF, uPl, uVa, uNm, uNn, uTh] at g1 g3 g4 g5 g7 g8 g9 g10 g11
    obtain ⟨rfl, rfl⟩ := g8
    obtain rfl := Fg g1
    subst g4 g5 g7 g9 g10 g11
    exact .out _ (FV g3)
  · simp [oF, uPl, uVa, uNm, uNn, uTh] at g1 g3 g4 g5 g7 g8 g9 g10 g11
    obtain ⟨rfl, rfl⟩ := g8
    obtain rfl := Fg g1
    obtain rfl := Fg g3
    subst g4 g5 g9 g10 g11
    simp [Jn, A2] at m4
    exact .wait _ (by unfold Z5; omega)
  · simp [oF, uPl, uVa, uNm, uNn, uTh] at g1 g3 g4 g5 g7 g8 g9 g10 g11
    obtain ⟨rfl, rfl⟩ := g8
    obtain rfl := Fg g1
    subst g4 g5 g7 g9
    exact .cond _ _ _ (FV g3) FT FE
  · simp [oF, uPl, uVa, uNm, uNn, uTh] at g1 g3 g4 g5 g7 g8 g9 g10 g11
    obtain ⟨rfl, rfl⟩ := g8
    obtain rfl := Fg g1
    subst g4 g5 g9 g11
    simp [Jn, A2] at m4
    exact .loop _ _ _ (FV g3) (by unfold Z5; omega) FT
  · simp [oF, uPl, uVa, uNm, uNn, uTh] at g1 g3 g4 g5 g7 g8 g9 g10 g11
    obtain rfl := Fg g1
    obtain rfl := Fg g3
    subst g5 g7 g9 g11
    simp [Jn, A2] at m4
    exact .count _ _ _ _ (by unfold Z5; omega) (by unfold Z5; omega) FT
  · simp [oF, uPl, uVa, uNm, uNn, uTh] at g1 g3 g4 g5 g7 g8 g9 g10 g11
    obtain ⟨rfl, rfl⟩ := g8
    obtain rfl := Fg g1
    obtain rfl := Fg g3
    subst g4 g5 g7 g10 g11
    have m5 : (A2 (ns.length : Int) 1 32 && So (-1) ns) = true := m4
    rw [Bool.and_eq_true] at m5
    exact .settle _ (J17 ns _ m5.2)
theorem Fq.mem {l : List B0} (h : Fq l) {s : B0} (hs : s ∈ l) : Wp s := Y1p s (h.ok.mem hs) (B0.alls_mem h.form hs) (B0.alls_mem h.numb hs)
def exl : Bool → List A0 → Str
  | _, [] => []
  | f, x :: r => (bif f then [] else [44, 32]) ++ x.text ++ exl false r
def nul : Bool → List Int → Str
  | _, [] => []
  | f, x :: r => (bif f then [] else [44, 32]) ++ Lib.itoa x ++ nul false r
mutual
def B0.text : B0 → Str → Str
  | .mk v pl va nm ar n lo hi ns th el, m =>
    bif v == 5 then [105, 102, 32] ++ va.text ++ ([32, 123, 10] ++ B0.lines th (m ++ [9]) ++ (m ++ [125])) ++ (bif decide ((el.length : Int) > 0) then [32, 101, 108, 115, 101] ++ ([32, 123, 10] ++ B0.lines el (m ++ [9]) ++ (m ++ [125])) else [])
    else bif v == 6 then [119, 104, 105, 108, 101, 32] ++ va.text ++ ([32, 108, 105, 109, 105, 116, 32] ++ Lib.itoa n) ++ ([32, 123, 10] ++ B0.lines th (m ++ [9]) ++ (m ++ [125]))
    else bif v == 7 then [102, 111, 114, 32] ++ nm ++ [32, 61, 32] ++ Lib.itoa lo ++ [32, 116, 111, 32] ++ Lib.itoa hi ++ ([32, 123, 10] ++ B0.lines th (m ++ [9]) ++ (m ++ [125]))
    else (bif v == 0 then pl.text ++ [32, 61, 32] ++ va.text else bif v == 1 then pl.text ++ ([32, 61, 32, 99, 97, 108, 108, 32] ++ nm ++ [40]) ++ exl true ar ++ [41]
      else bif v == 2 then pl.text ++ ([32, 61, 32, 114, 101, 108, 101, 97, 115, 101, 32] ++ nm) else bif v == 3 then [111, 117, 116, 112, 117, 116, 32] ++ va.text
      else bif v == 4 then [119, 97, 105, 116, 32] ++ Lib.itoa n else bif v == 8 then [115, 101, 116, 116, 108, 101, 32] ++ nul true ns else []) ++ [59]
def B0.lines : List B0 → Str → Str
  | [], _ => []
  | x :: r, m => m ++ B0.text x m ++ [10] ++ B0.lines r m
end
theorem Tc (x : B0) (r : List B0) (m : Str) : B0.lines (x :: r) m = m ++ B0.text x m ++ [10] ++ B0.lines r m := by simp only [B0.lines]
theorem B16 : ∀ (f : Bool) (l : List A0), (∀ a ∈ l, Va a) → (exl f l).length ≤ 42 * A0.bulks l
  | f, [], _ => by simp [exl]
  | f, x :: r, h => by
    have := B16 false r (fun a ha => h a (List.mem_cons_of_mem _ ha))
    have := Y2 x (h x List.mem_cons_self)
    have := A0.bulk_eq x
    simp only [exl, A0.bulks, List.length_append]
    cases f <;> simp <;> omega
theorem C16 : ∀ (f : Bool) (l : List Int), (∀ a ∈ l, Z5 a) → (nul f l).length ≤ 21 * l.length
  | f, [], _ => by simp [nul]
  | f, x :: r, h => by
    have := C16 false r (fun a ha => h a (List.mem_cons_of_mem _ ha))
    have := Y4 (h x List.mem_cons_self)
    simp only [nul, List.length_append, List.length_cons]
    cases f <;> simp <;> omega
theorem Gd (l : List B0) : Fq l → ∀ m : Str, m.length + B0.bulks l ≤ 2097152 → (B0.lines l m).length ≤ 8000000 * B0.bulks l := by
  induction l using B0.inds with
  | h l ih =>
  intro hf m hm
  have main : ∀ r : List B0, (∀ x ∈ r, x ∈ l) → m.length + B0.bulks r ≤ 2097152 → (B0.lines r m).length ≤ 8000000 * B0.bulks r := by
    intro r
    induction r with
    | nil => intro _ _; simp [B0.lines]
    | cons s r ihr =>
      intro hr hm
      simp only [B0.bulks] at hm ⊢
      have h1 := ihr (fun x hx => hr x (List.mem_cons_of_mem _ hx)) (by omega)
      have hs := hr s List.mem_cons_self
      obtain ⟨i1, i2⟩ := ih s hs
      rw [Tc]
      have key : (B0.text s m).length + m.length + 1 ≤ 8000000 * s.bulk := by
        cases hf.mem hs with
        | set pl va h h' =>
          have := Y2 pl h; have := Y2 va h'
          show (pl.text ++ [32, 61, 32] ++ va.text ++ [59]).length + _ + _ ≤ _
          simp only [B0.bulk, B0.bulks, List.map_nil, List.sum_nil, A0.bulks, List.length_append, List.length_cons, List.length_nil] at *; omega
        | call pl nm ar h h' =>
          have := Y2 pl h; have := B16 true ar h'
          show (pl.text ++ ([32, 61, 32, 99, 97, 108, 108, 32] ++ nm ++ [40]) ++ exl true ar ++ [41] ++ [59]).length + _ + _ ≤ _
          simp only [B0.bulk, B0.bulks, List.map_nil, List.sum_nil, A0.bulks, A0.bulk, List.length_append, List.length_cons, List.length_nil] at *; omega
        | rel pl nm h =>
          have := Y2 pl h
          show (pl.text ++ ([32, 61, 32, 114, 101, 108, 101, 97, 115, 101, 32] ++ nm) ++ [59]).length + _ + _ ≤ _
          simp only [B0.bulk, B0.bulks, List.map_nil, List.sum_nil, A0.bulks, A0.bulk, List.length_append, List.length_cons, List.length_nil] at *; omega
        | out va h =>
          have := Y2 va h
          show ([111, 117, 116, 112, 117, 116, 32] ++ va.text ++ [59]).length + _ + _ ≤ _
          simp only [B0.bulk, B0.bulks, List.map_nil, List.sum_nil, A0.bulks, A0.bulk, List.length_append, List.length_cons, List.length_nil] at *; omega
        | wait n h =>
          have := Y4 h
          show ([119, 97, 105, 116, 32] ++ Lib.itoa n ++ [59]).length + _ + _ ≤ _
          simp only [B0.bulk, B0.bulks, List.map_nil, List.sum_nil, A0.bulks, A0.bulk, List.length_append, List.length_cons, List.length_nil] at *; omega
        | cond va th el h f1 f2 =>
          have hb : (B0.mk 5 z va [] [] 0 0 0 [] th el).bulk = va.bulk + B0.bulks th + B0.bulks el + 15 := by simp only [B0.bulk, List.map_nil, List.sum_nil, A0.bulks, A0.bulk, List.length_nil]; omega
          rw [hb] at hm ⊢
          have a1 := Y2 va h
          have a2 := i1 f1 (m ++ [9]) (by simp only [List.length_append, List.length_cons, List.length_nil]; omega)
          have a3 := i2 f2 (m ++ [9]) (by simp only [List.length_append, List.length_cons, List.length_nil]; omega)
          simp only at a2 a3
          show ([105, 102, 32] ++ va.text ++ ([32, 123, 10] ++ B0.lines th (m ++ [9]) ++ (m ++ [125])) ++ (bif decide ((el.length : Int) > 0) then [32, 101, 108, 115, 101] ++ ([32, 123, 10] ++ B0.lines el (m ++ [9]) ++ (m ++ [125])) else [])).length + _ + _ ≤ _
          cases decide ((el.length : Int) > 0) <;> simp only [cond_true, cond_false, List.length_append, List.length_cons, List.length_nil] <;> omega
        | loop va n th h hn f1 =>
          have hb : (B0.mk 6 z va [] [] n 0 0 [] th []).bulk = va.bulk + B0.bulks th + 15 := by simp only [B0.bulk, B0.bulks, List.map_nil, List.sum_nil, A0.bulks, A0.bulk, List.length_nil]; omega
          rw [hb] at hm ⊢
          have a1 := Y2 va h
          have a0 := Y4 hn
          have a2 := i1 f1 (m ++ [9]) (by simp only [List.length_append, List.length_cons, List.length_nil]; omega)
          simp only at a2
          show ([119, 104, 105, 108, 101, 32] ++ va.text ++ ([32, 108, 105, 109, 105, 116, 32] ++ Lib.itoa n) ++ ([32, 123, 10] ++ B0.lines th (m ++ [9]) ++ (m ++ [125]))).length + _ + _ ≤ _
          simp only [List.length_append, List.length_cons, List.length_nil]; omega
        | count nm lo hi th h h' f1 =>
          have hb : (B0.mk 7 z z nm [] 0 lo hi [] th []).bulk = nm.length + B0.bulks th + 20 := by simp only [B0.bulk, B0.bulks, List.map_nil, List.sum_nil, A0.bulks, A0.bulk, List.length_nil]; omega
          rw [hb] at hm ⊢
          have a1 := Y4 h
          have a0 := Y4 h'
          have a2 := i1 f1 (m ++ [9]) (by simp only [List.length_append, List.length_cons, List.length_nil]; omega)
          simp only at a2
          show ([102, 111, 114, 32] ++ nm ++ [32, 61, 32] ++ Lib.itoa lo ++ [32, 116, 111, 32] ++ Lib.itoa hi ++ ([32, 123, 10] ++ B0.lines th (m ++ [9]) ++ (m ++ [125]))).length + _ + _ ≤ _
          simp only [List.length_append, List.length_cons, List.length_nil]; omega
        | settle ns h =>
          have := C16 true ns h
          have hb : (B0.mk 8 z z [] [] 0 0 0 ns [] []).bulk = ns.length + 20 := by simp only [B0.bulk, B0.bulks, Xe, A0.bulks, A0.bulk, List.length_nil]; omega
          rw [hb] at hm ⊢
          show ([115, 101, 116, 116, 108, 101, 32] ++ nul true ns ++ [59]).length + _ + _ ≤ _
          simp only [List.length_append, List.length_cons, List.length_nil]; omega
      simp only [List.length_append, List.length_cons, List.length_nil] at *
      omega
  exact main l (fun _ h => h) hm
theorem E1c (l : List A0) (hl : l.length ≤ BB) (hf : ∀ a ∈ l, Va a) : ∀ (r : List A0) (k : Nat) (b : Str), l.drop k = r → b.length + 42 * A0.bulks r ≤ LL → L1 l b k = some (b ++ exl (k == 0) r)
  | [], k, b, h, hb => by rw [L1, (K1 h).1, if_neg (by simp)]; simp [exl]
  | x :: r, k, b, h, hb => by
    obtain ⟨e1, e2, e3, e4, e5⟩ := W1 h
    have hx := Y2 x (hf x e5)
    have hbx := A0.bulk_eq x
    simp only [A0.bulks] at hb
    rw [L1, e1, if_pos rfl, e2, ob]
    cases k with
    | zero =>
      rw [if_neg (by simp), Qf x (hf x e5) b (by omega), ob, w1 (by omega), E1c l hl hf r 1 _ e3 (by simp only [List.length_append]; omega)]
      simp [exl]
    | succ k =>
      rw [if_pos (decide_eq_true (by omega)), ws (by simp only [List.length_cons, List.length_nil]; omega), ob, Qf x (hf x e5) _ (by simp only [List.length_append, List.length_cons, List.length_nil]; omega), ob, w1 (by omega),
        E1c l hl hf r (k + 1 + 1) _ e3 (by simp only [List.length_append, List.length_cons, List.length_nil]; omega)]
      simp [exl]
theorem C1s (l : List A0) (hl : l.length ≤ BB) (hf : ∀ a ∈ l, Va a) (b : Str) (hb : b.length + 42 * A0.bulks l ≤ LL) : W3 l b = some (b ++ exl true l) := by
  rw [W3, show (0 : Int) = ((0 : Nat) : Int) from rfl, E1c l hl hf l 0 b rfl hb]
  rfl
theorem O15 (s : B0) (hl : s.Numbers.length ≤ BB) (hf : ∀ a ∈ s.Numbers, Z5 a) : ∀ (r : List Int) (k : Nat) (b : Str), s.Numbers.drop k = r → b.length + 21 * r.length + 1 ≤ LL → X2 s b k = some (b ++ nul (k == 0) r ++ [59])
  | [], k, b, h, hb => by
    rw [X2, (K1 h).1, if_neg (by simp), ws (by simp only [List.length_cons, List.length_nil]; omega), ob]
    simp [nul]
  | x :: r, k, b, h, hb => by
    obtain ⟨e1, e2, e3, e4, e5⟩ := W1 h
    have hx := Y4 (hf x e5)
    simp only [List.length_cons] at hb
    rw [X2, e1, if_pos rfl, e2, ob]
    cases k with
    | zero =>
      rw [if_neg (by simp), M4, Ll (hf x e5), ob, ws (by omega), ob, w1 (by omega), O15 s hl hf r 1 _ e3 (by simp only [List.length_append]; omega)]
      simp [nul]
    | succ k =>
      rw [if_pos (decide_eq_true (by omega)), ws (by simp only [List.length_cons, List.length_nil]; omega), ob, M4, Ll (hf x e5), ob, ws (by simp only [List.length_append, List.length_cons, List.length_nil]; omega), ob, w1 (by omega),
        O15 s hl hf r (k + 1 + 1) _ e3 (by simp only [List.length_append, List.length_cons, List.length_nil]; omega)]
      simp [nul]
theorem I10 (l : List B0) (m : Str) (hm : m.length + 1 + B0.bulks l ≤ 2097152) (hl : (B0.lines l (m ++ [9])).length ≤ 8000000 * B0.bulks l)
    (ih : ∀ b : Str, b.length + 8000000 * B0.bulks l ≤ LL → B3 l (m ++ [9]) b = some (b ++ B0.lines l (m ++ [9]))) (b : Str) (hb : b.length + 8000000 * B0.bulks l + m.length + 10 ≤ LL) :
    Q3 l m b = some (b ++ ([32, 123, 10] ++ B0.lines l (m ++ [9]) ++ (m ++ [125]))) := by
  rw [Q3, ws (by simp only [List.length_cons, List.length_nil]; omega), ob, fit (by unfold LL; omega), ih _ (by simp only [List.length_append, List.length_cons, List.length_nil]; omega), ob, fit (by unfold LL; omega),
    ws (by simp only [List.length_append, List.length_cons, List.length_nil]; omega), ob]
  simp
theorem P15 (l : List B0) : Fq l → ∀ (m b : Str), m.length + B0.bulks l ≤ 2097152 → b.length + 8000000 * B0.bulks l ≤ LL → B3 l m b = some (b ++ B0.lines l m) := by
  induction l using B0.inds with
  | h l ih =>
  intro hf m b hm hb
  have main : ∀ (r : List B0) (k : Nat) (b : Str), l.drop k = r → m.length + B0.bulks r ≤ 2097152 → b.length + 8000000 * B0.bulks r ≤ LL → F3 l m b k = some (b ++ B0.lines r m) := by
    intro r
    induction r with
    | nil =>
      intro k b hdr hm hb
      rw [F3, (K1 hdr).1, if_neg (by simp)]
      simp [B0.lines]
    | cons s r ihr =>
      intro k b hdr hm hb
      obtain ⟨e1, e2, e3, e4, e5⟩ := W1 hdr
      have hlen := hf.ok.len
      obtain ⟨i1, i2⟩ := ih s e5
      simp only [B0.bulks] at hm hb
      have key : (B0.text s m).length + m.length + 1 ≤ 8000000 * s.bulk ∧ ∀ c : Str, c.length + 8000000 * s.bulk ≤ LL + m.length → X1 s m c = some (c ++ B0.text s m) := by
        have hm1 : m.length ≤ 2097152 := by omega
        cases hf.mem e5 with
        | set pl va h h' =>
          have a1 := Y2 pl h; have a2 := Y2 va h'
          have hb : (B0.mk 0 pl va [] [] 0 0 0 [] [] []).bulk = pl.bulk + va.bulk + 10 := by simp only [B0.bulk, B0.bulks, List.map_nil, List.sum_nil, A0.bulks, List.length_nil]; omega
          rw [hb]
          have et : B0.text (B0.mk 0 pl va [] [] 0 0 0 [] [] []) m = pl.text ++ [32, 61, 32] ++ va.text ++ [59] := rfl
          rw [et]
          refine ⟨by simp only [List.length_append, List.length_cons, List.length_nil]; omega, fun c hc => ?_⟩
          rw [X1, if_neg (by simp), if_neg (by simp), if_neg (by simp), if_pos (by simp), Qf pl h c (by omega), ob, ws (by simp only [List.length_append, List.length_cons, List.length_nil]; omega), ob,
            Qf va h' _ (by simp only [List.length_append, List.length_cons, List.length_nil]; omega), ob, ws (by simp only [List.length_append, List.length_cons, List.length_nil]; omega), ob]
          simp
        | call pl nm ar h h' =>
          have a1 := Y2 pl h; have a2 := B16 true ar h'
          have har := (hf.ok.mem e5).args
          have hb : (B0.mk 1 pl z nm ar 0 0 0 [] [] []).bulk = pl.bulk + nm.length + A0.bulks ar + 15 := by simp only [B0.bulk, B0.bulks, List.map_nil, List.sum_nil, A0.bulks, A0.bulk, List.length_nil]; omega
          rw [hb]
          have et : B0.text (B0.mk 1 pl z nm ar 0 0 0 [] [] []) m = pl.text ++ ([32, 61, 32, 99, 97, 108, 108, 32] ++ nm ++ [40]) ++ exl true ar ++ [41] ++ [59] := rfl
          rw [et]
          refine ⟨by simp only [List.length_append, List.length_cons, List.length_nil]; omega, fun c hc => ?_⟩
          rw [X1, if_neg (by simp), if_neg (by simp), if_neg (by simp), if_neg (by simp), if_pos (by simp), Qf pl h c (by omega), ob, fit (by unfold LL at *; simp only; omega), fit (by unfold LL at *; simp only [List.length_append, List.length_cons, List.length_nil]; omega),
            ws (by simp only [List.length_append, List.length_cons, List.length_nil]; omega), ob, C1s _ har h' _ (by simp only [List.length_append, List.length_cons, List.length_nil]; omega), ob, ws (by simp only [List.length_append, List.length_cons, List.length_nil]; omega), ob,
            ws (by simp only [List.length_append, List.length_cons, List.length_nil]; omega), ob]
          simp
        | rel pl nm h =>
          have a1 := Y2 pl h
          have hb : (B0.mk 2 pl z nm [] 0 0 0 [] [] []).bulk = pl.bulk + nm.length + 15 := by simp only [B0.bulk, B0.bulks, List.map_nil, List.sum_nil, A0.bulks, A0.bulk, List.length_nil]; omega
          rw [hb]
          have et : B0.text (B0.mk 2 pl z nm [] 0 0 0 [] [] []) m = pl.text ++ ([32, 61, 32, 114, 101, 108, 101, 97, 115, 101, 32] ++ nm) ++ [59] := rfl
          rw [et]
          refine ⟨by simp only [List.length_append, List.length_cons, List.length_nil]; omega, fun c hc => ?_⟩
          rw [X1, if_neg (by simp), if_neg (by simp), if_neg (by simp), if_neg (by simp), if_neg (by simp), if_pos (by simp), Qf pl h c (by omega), ob, fit (by unfold LL at *; simp only; omega),
            ws (by simp only [List.length_append, List.length_cons, List.length_nil]; omega), ob, ws (by simp only [List.length_append, List.length_cons, List.length_nil]; omega), ob]
          simp
        | out va h =>
          have a1 := Y2 va h
          have hb : (B0.mk 3 z va [] [] 0 0 0 [] [] []).bulk = va.bulk + 15 := by simp only [B0.bulk, B0.bulks, List.map_nil, List.sum_nil, A0.bulks, A0.bulk, List.length_nil]; omega
          rw [hb]
          have et : B0.text (B0.mk 3 z va [] [] 0 0 0 [] [] []) m = [111, 117, 116, 112, 117, 116, 32] ++ va.text ++ [59] := rfl
          rw [et]
          refine ⟨by simp only [List.length_append, List.length_cons, List.length_nil]; omega, fun c hc => ?_⟩
          rw [X1, if_neg (by simp), if_neg (by simp), if_neg (by simp), if_neg (by simp), if_neg (by simp), if_neg (by simp), if_pos (by simp), ws (by simp only [List.length_append, List.length_cons, List.length_nil]; omega), ob,
            Qf va h _ (by simp only [List.length_append, List.length_cons, List.length_nil]; omega), ob, ws (by simp only [List.length_append, List.length_cons, List.length_nil]; omega), ob]
          simp
        | wait n h =>
          have a1 := Y4 h
          have hb : (B0.mk 4 z z [] [] n 0 0 [] [] []).bulk = 20 := by simp only [B0.bulk, B0.bulks, List.map_nil, List.sum_nil, A0.bulks, A0.bulk, List.length_nil]; omega
          rw [hb]
          have et : B0.text (B0.mk 4 z z [] [] n 0 0 [] [] []) m = [119, 97, 105, 116, 32] ++ Lib.itoa n ++ [59] := rfl
          rw [et]
          refine ⟨by simp only [List.length_append, List.length_cons, List.length_nil]; omega, fun c hc => ?_⟩
          rw [X1, if_neg (by simp), if_neg (by simp), if_neg (by simp), if_neg (by simp), if_neg (by simp), if_neg (by simp), if_neg (by simp), if_pos (by simp), Ll h, ob, fit (by unfold LL at *; omega),
            ws (by simp only [List.length_append, List.length_cons, List.length_nil]; omega), ob, ws (by simp only [List.length_append, List.length_cons, List.length_nil]; omega), ob]
          simp
        | cond va th el h f1 f2 =>
          have a1 := Y2 va h
          have hb : (B0.mk 5 z va [] [] 0 0 0 [] th el).bulk = va.bulk + B0.bulks th + B0.bulks el + 15 := by simp only [B0.bulk, List.map_nil, List.sum_nil, A0.bulks, A0.bulk, List.length_nil]; omega
          rw [hb] at hm ⊢
          have l1 := Gd th f1 (m ++ [9]) (by simp only [List.length_append, List.length_cons, List.length_nil]; omega)
          have l2 := Gd el f2 (m ++ [9]) (by simp only [List.length_append, List.length_cons, List.length_nil]; omega)
          have et : B0.text (B0.mk 5 z va [] [] 0 0 0 [] th el) m = [105, 102, 32] ++ va.text ++ ([32, 123, 10] ++ B0.lines th (m ++ [9]) ++ (m ++ [125])) ++ (bif decide ((el.length : Int) > 0) then [32, 101, 108, 115, 101] ++ ([32, 123, 10] ++ B0.lines el (m ++ [9]) ++ (m ++ [125])) else []) := rfl
          rw [et]
          refine ⟨by cases decide ((el.length : Int) > 0) <;> simp only [cond_true, cond_false, List.length_append, List.length_cons, List.length_nil] <;> omega, fun c hc => ?_⟩
          rw [X1, if_pos (by simp), ws (by simp only [List.length_append, List.length_cons, List.length_nil]; omega), ob, Qf va h _ (by simp only [List.length_append, List.length_cons, List.length_nil]; omega), ob,
            I10 th m (by omega) l1 (fun b hb => i1 f1 (m ++ [9]) b (by simp only [List.length_append, List.length_cons, List.length_nil]; omega) hb) _ (by simp only [List.length_append, List.length_cons, List.length_nil]; omega), ob]
          cases decide ((el.length : Int) > 0) with
          | false => simp
          | true =>
            rw [if_pos rfl, ws (by simp only [List.length_append, List.length_cons, List.length_nil]; omega), ob,
              I10 el m (by omega) l2 (fun b hb => i2 f2 (m ++ [9]) b (by simp only [List.length_append, List.length_cons, List.length_nil]; omega) hb) _ (by simp only [List.length_append, List.length_cons, List.length_nil]; omega), ob]
            simp
        | loop va n th h hn f1 =>
          have a1 := Y2 va h; have a2 := Y4 hn
          have hb : (B0.mk 6 z va [] [] n 0 0 [] th []).bulk = va.bulk + B0.bulks th + 15 := by simp only [B0.bulk, B0.bulks, List.map_nil, List.sum_nil, A0.bulks, A0.bulk, List.length_nil]; omega
          rw [hb] at hm ⊢
          have l1 := Gd th f1 (m ++ [9]) (by simp only [List.length_append, List.length_cons, List.length_nil]; omega)
          have et : B0.text (B0.mk 6 z va [] [] n 0 0 [] th []) m = [119, 104, 105, 108, 101, 32] ++ va.text ++ ([32, 108, 105, 109, 105, 116, 32] ++ Lib.itoa n) ++ ([32, 123, 10] ++ B0.lines th (m ++ [9]) ++ (m ++ [125])) := rfl
          rw [et]
          refine ⟨by simp only [List.length_append, List.length_cons, List.length_nil]; omega, fun c hc => ?_⟩
          rw [X1, if_neg (by simp), if_pos (by simp), ws (by simp only [List.length_append, List.length_cons, List.length_nil]; omega), ob, Qf va h _ (by simp only [List.length_append, List.length_cons, List.length_nil]; omega), ob, Ll hn, ob, fit (by unfold LL; omega),
            ws (by simp only [List.length_append, List.length_cons, List.length_nil]; omega), ob, I10 th m (by omega) l1 (fun b hb => i1 f1 (m ++ [9]) b (by simp only [List.length_append, List.length_cons, List.length_nil]; omega) hb) _ (by simp only [List.length_append, List.length_cons, List.length_nil]; omega), ob]
          simp
        | count nm lo hi th h h' f1 =>
          have a1 := Y4 h; have a2 := Y4 h'
          have hb : (B0.mk 7 z z nm [] 0 lo hi [] th []).bulk = nm.length + B0.bulks th + 20 := by simp only [B0.bulk, B0.bulks, List.map_nil, List.sum_nil, A0.bulks, A0.bulk, List.length_nil]; omega
          rw [hb] at hm ⊢
          have l1 := Gd th f1 (m ++ [9]) (by simp only [List.length_append, List.length_cons, List.length_nil]; omega)
          have et : B0.text (B0.mk 7 z z nm [] 0 lo hi [] th []) m = [102, 111, 114, 32] ++ nm ++ [32, 61, 32] ++ Lib.itoa lo ++ [32, 116, 111, 32] ++ Lib.itoa hi ++ ([32, 123, 10] ++ B0.lines th (m ++ [9]) ++ (m ++ [125])) := rfl
          rw [et]
          refine ⟨by simp only [List.length_append, List.length_cons, List.length_nil]; omega, fun c hc => ?_⟩
          rw [X1, if_neg (by simp), if_neg (by simp), if_pos (by simp), fit (by unfold LL at *; simp only; omega), fit (by unfold LL at *; simp only [List.length_append, List.length_cons, List.length_nil]; omega), Ll h, ob,
            fit (by unfold LL at *; simp only [List.length_append, List.length_cons, List.length_nil]; omega), fit (by unfold LL at *; simp only [List.length_append, List.length_cons, List.length_nil]; omega), Ll h', ob, fit (by unfold LL at *; simp only [List.length_append, List.length_cons, List.length_nil]; omega),
            ws (by simp only [List.length_append, List.length_cons, List.length_nil]; omega), ob, I10 th m (by omega) l1 (fun b hb => i1 f1 (m ++ [9]) b (by simp only [List.length_append, List.length_cons, List.length_nil]; omega) hb) _ (by simp only [List.length_append, List.length_cons, List.length_nil]; omega), ob]
          simp
        | settle ns h =>
          have a1 := C16 true ns h
          have hnl := (hf.ok.mem e5).nums
          have hb : (B0.mk 8 z z [] [] 0 0 0 ns [] []).bulk = ns.length + 20 := by simp only [B0.bulk, B0.bulks, Xe, A0.bulks, A0.bulk, List.length_nil]; omega
          rw [hb]
          have et : B0.text (B0.mk 8 z z [] [] 0 0 0 ns [] []) m = [115, 101, 116, 116, 108, 101, 32] ++ nul true ns ++ [59] := rfl
          rw [et]
          refine ⟨by simp only [List.length_append, List.length_cons, List.length_nil]; omega, fun c hc => ?_⟩
          rw [X1, if_neg (by simp), if_neg (by simp), if_neg (by simp), if_neg (by simp), if_neg (by simp), if_neg (by simp), if_neg (by simp), if_neg (by simp), if_pos (by simp), ws (by simp only [List.length_append, List.length_cons, List.length_nil]; omega), ob]
          have := O15 (B0.mk 8 z z [] [] 0 0 0 ns [] []) hnl h ns 0 (c ++ [115, 101, 116, 116, 108, 101, 32]) rfl (by simp only [List.length_append, List.length_cons, List.length_nil]; omega)
          rw [show ((0 : Nat) : Int) = 0 from rfl] at this
          rw [this]
          simp
      obtain ⟨k1, k2⟩ := key
      rw [F3, e1, if_pos rfl, e2, ob, ws (by omega), ob, k2 _ (by simp only [List.length_append]; omega), ob, ws (by simp only [List.length_append, List.length_cons, List.length_nil]; omega), ob, w1 (by omega),
        ihr (k + 1) _ e3 (by omega) (by simp only [List.length_append, List.length_cons, List.length_nil]; omega), Tc]
      simp
  rw [B3]
  exact main l 0 b rfl hm hb
end Go.Proofs.YtmilgoloagbmpaaGreatDoor

set_option linter.unusedSimpArgs false
set_option linter.unusedVariables false
set_option maxHeartbeats 4000000
namespace Go.Proofs.YtmilgoloagbmpaaGreatDoor
open Go.Am
theorem U18 (l : List A0) (hl : l.length ≤ BB) (hf : ∀ a ∈ l, Va a) : ∀ (r : List A0) (k : Nat) (b : Str), l.drop k = r → b.length + 42 * A0.bulks r ≤ LL → Ed l b k = some (b ++ exl (k == 0) r)
  | [], k, b, h, hb => by rw [Ed, (K1 h).1, if_neg (by simp)]; simp [exl]
  | x :: r, k, b, h, hb => by
    obtain ⟨e1, e2, e3, e4, e5⟩ := W1 h
    have hx := Y2 x (hf x e5)
    have hbx := A0.bulk_eq x
    simp only [A0.bulks] at hb
    rw [Ed, e1, if_pos rfl]
    cases k with
    | zero =>
      rw [if_neg (by simp), Bh, e2, ob, Yh x (hf x e5), ob, fit (by omega), w1 (by omega), U18 l hl hf r 1 _ e3 (by simp only [List.length_append]; omega)]
      simp [exl]
    | succ k =>
      rw [if_pos (decide_eq_true (by omega)), fit (by omega), Bh, e2, ob, Yh x (hf x e5), ob, fit (by simp only [List.length_append, List.length_cons, List.length_nil]; omega), w1 (by omega),
        U18 l hl hf r (k + 1 + 1) _ e3 (by simp only [List.length_append, List.length_cons, List.length_nil]; omega)]
      simp [exl]
theorem Z1p (l : List A0) (hl : l.length ≤ BB) (hf : ∀ a ∈ l, Va a) (hb : 42 * A0.bulks l ≤ LL) : Tr l = some (exl true l) := by
  unfold Tr
  rw [show (0 : Int) = ((0 : Nat) : Int) from rfl, U18 l hl hf l 0 [] rfl (by simpa using hb)]
  rfl
theorem Q15 (l : List B0) (m : Str) (s : B0) (hl : s.Numbers.length ≤ BB) (hf : ∀ a ∈ s.Numbers, Z5 a) (i : Int) : ∀ (r : List Int) (k : Nat) (b : Str), s.Numbers.drop k = r → b.length + 21 * r.length + 2 ≤ LL →
    Pd l m s b i k = H3 l m (b ++ nul (k == 0) r ++ [59, 10]) (IntKind.i64.wrap (i + 1))
  | [], k, b, h, hb => by
    rw [Pd, (K1 h).1, if_neg (by simp), fit (by simp only [List.length_nil] at hb; omega)]
    simp [nul]
  | x :: r, k, b, h, hb => by
    obtain ⟨e1, e2, e3, e4, e5⟩ := W1 h
    have hx := Y4 (hf x e5)
    simp only [List.length_cons] at hb
    rw [Pd, e1, if_pos rfl]
    cases k with
    | zero =>
      rw [if_neg (by simp), Wf, e2, ob, Pf (hf x e5), ob, fit (by omega), w1 (by omega), Q15 l m s hl hf i r 1 _ e3 (by simp only [List.length_append]; omega)]
      simp [nul]
    | succ k =>
      rw [if_pos (decide_eq_true (by omega)), fit (by omega), Wf, e2, ob, Pf (hf x e5), ob, fit (by simp only [List.length_append, List.length_cons, List.length_nil]; omega), w1 (by omega),
        Q15 l m s hl hf i r (k + 1 + 1) _ e3 (by simp only [List.length_append, List.length_cons, List.length_nil]; omega)]
      simp [nul]
theorem D1d (l : List B0) : Fq l → ∀ m : Str, m.length + B0.bulks l ≤ 2097152 → Ic l m = some (B0.lines l m) := by
  induction l using B0.inds with
  | h l ih =>
  intro hf m hm
  have main : ∀ (r : List B0) (k : Nat) (o : Str), l.drop k = r → m.length + B0.bulks r ≤ 2097152 → o.length + 8000000 * B0.bulks r ≤ LL → H3 l m o k = some (o ++ B0.lines r m) := by
    intro r
    induction r with
    | nil =>
      intro k o hdr hm hb
      rw [H3, (K1 hdr).1, if_neg (by simp)]
      simp [B0.lines]
    | cons s r ihr =>
      intro k o hdr hm hbn
      obtain ⟨e1, e2, e3, e4, e5⟩ := W1 hdr
      have hlen := hf.ok.len
      obtain ⟨i1, i2⟩ := ih s e5
      simp only [B0.bulks] at hm hbn
      have hm1 : m.length ≤ 2097152 := by omega
      cases hf.mem e5 with
      | set pl va h h' =>
          have a1 := Y2 pl h; have a2 := Y2 va h'
          have hb : (B0.mk 0 pl va [] [] 0 0 0 [] [] []).bulk = pl.bulk + va.bulk + 10 := by simp only [B0.bulk, B0.bulks, List.map_nil, List.sum_nil, Xe, A0.bulks, A0.bulk, List.length_nil]; omega
          rw [hb] at hm hbn
          have et : B0.text (B0.mk 0 pl va [] [] 0 0 0 [] [] []) m = pl.text ++ [32, 61, 32] ++ va.text ++ [59] := rfl
          rw [H3, e1, if_pos rfl, e2, ob, fit (by (try simp only [List.length_append, List.length_cons, List.length_nil]); (try unfold LL at *); omega), if_pos (by simp), Yh pl h, ob, fit (by (try simp only [List.length_append, List.length_cons, List.length_nil]); (try unfold LL at *); omega), fit (by (try simp only [List.length_append, List.length_cons, List.length_nil]); (try unfold LL at *); omega), Yh va h', ob, fit (by (try simp only [List.length_append, List.length_cons, List.length_nil]); (try unfold LL at *); omega), fit (by (try simp only [List.length_append, List.length_cons, List.length_nil]); (try unfold LL at *); omega), J5, if_neg (by simp), K5, if_neg (by simp), L5, if_neg (by simp), M5, if_neg (by simp), N5, if_neg (by simp), V4, if_neg (by simp), W4, if_neg (by simp), B4, if_neg (by simp), w1 (by omega), ihr (k + 1) _ e3 (by omega) (by simp only [List.length_append, List.length_cons, List.length_nil]; omega), Tc, et]
          simp
      | call pl nm ar h h' =>
          have a1 := Y2 pl h; have a2 := B16 true ar h'
          have har := (hf.ok.mem e5).args
          have hb : (B0.mk 1 pl z nm ar 0 0 0 [] [] []).bulk = pl.bulk + nm.length + A0.bulks ar + 15 := by simp only [B0.bulk, B0.bulks, List.map_nil, List.sum_nil, Xe, A0.bulks, A0.bulk, List.length_nil]; omega
          rw [hb] at hm hbn
          have et : B0.text (B0.mk 1 pl z nm ar 0 0 0 [] [] []) m = pl.text ++ ([32, 61, 32, 99, 97, 108, 108, 32] ++ nm ++ [40]) ++ exl true ar ++ [41] ++ [59] := rfl
          rw [H3, e1, if_pos rfl, e2, ob, fit (by (try simp only [List.length_append, List.length_cons, List.length_nil]); (try unfold LL at *); omega), if_neg (by simp), J5, if_pos (by simp), Yh pl h, ob, fit (by (try simp only [List.length_append, List.length_cons, List.length_nil]); (try unfold LL at *); omega), fit (by (try simp only [List.length_append, List.length_cons, List.length_nil]); (try unfold LL at *); omega), fit (by (try simp only [List.length_append, List.length_cons, List.length_nil]); (try unfold LL at *); omega), fit (by (try simp only [List.length_append, List.length_cons, List.length_nil]); (try unfold LL at *); omega), Z1p ar har h' (by unfold LL at *; omega), ob, fit (by (try simp only [List.length_append, List.length_cons, List.length_nil]); (try unfold LL at *); omega), fit (by (try simp only [List.length_append, List.length_cons, List.length_nil]); (try unfold LL at *); omega), K5, if_neg (by simp), L5, if_neg (by simp), M5, if_neg (by simp), N5, if_neg (by simp), V4, if_neg (by simp), W4, if_neg (by simp), B4, if_neg (by simp), w1 (by omega), ihr (k + 1) _ e3 (by omega) (by simp only [List.length_append, List.length_cons, List.length_nil]; omega), Tc, et]
          simp
      | rel pl nm h =>
          have a1 := Y2 pl h
          have hb : (B0.mk 2 pl z nm [] 0 0 0 [] [] []).bulk = pl.bulk + nm.length + 15 := by simp only [B0.bulk, B0.bulks, List.map_nil, List.sum_nil, Xe, A0.bulks, A0.bulk, List.length_nil]; omega
          rw [hb] at hm hbn
          have et : B0.text (B0.mk 2 pl z nm [] 0 0 0 [] [] []) m = pl.text ++ ([32, 61, 32, 114, 101, 108, 101, 97, 115, 101, 32] ++ nm) ++ [59] := rfl
          rw [H3, e1, if_pos rfl, e2, ob, fit (by (try simp only [List.length_append, List.length_cons, List.length_nil]); (try unfold LL at *); omega), if_neg (by simp), J5, if_neg (by simp), K5, if_pos (by simp), Yh pl h, ob, fit (by (try simp only [List.length_append, List.length_cons, List.length_nil]); (try unfold LL at *); omega), fit (by (try simp only [List.length_append, List.length_cons, List.length_nil]); (try unfold LL at *); omega), fit (by (try simp only [List.length_append, List.length_cons, List.length_nil]); (try unfold LL at *); omega), fit (by (try simp only [List.length_append, List.length_cons, List.length_nil]); (try unfold LL at *); omega), L5, if_neg (by simp), M5, if_neg (by simp), N5, if_neg (by simp), V4, if_neg (by simp), W4, if_neg (by simp), B4, if_neg (by simp), w1 (by omega), ihr (k + 1) _ e3 (by omega) (by simp only [List.length_append, List.length_cons, List.length_nil]; omega), Tc, et]
          simp
      | out va h =>
          have a1 := Y2 va h
          have hb : (B0.mk 3 z va [] [] 0 0 0 [] [] []).bulk = va.bulk + 15 := by simp only [B0.bulk, B0.bulks, List.map_nil, List.sum_nil, Xe, A0.bulks, A0.bulk, List.length_nil]; omega
          rw [hb] at hm hbn
          have et : B0.text (B0.mk 3 z va [] [] 0 0 0 [] [] []) m = [111, 117, 116, 112, 117, 116, 32] ++ va.text ++ [59] := rfl
          rw [H3, e1, if_pos rfl, e2, ob, fit (by (try simp only [List.length_append, List.length_cons, List.length_nil]); (try unfold LL at *); omega), if_neg (by simp), J5, if_neg (by simp), K5, if_neg (by simp), L5, if_pos (by simp), fit (by (try simp only [List.length_append, List.length_cons, List.length_nil]); (try unfold LL at *); omega), Yh va h, ob, fit (by (try simp only [List.length_append, List.length_cons, List.length_nil]); (try unfold LL at *); omega), fit (by (try simp only [List.length_append, List.length_cons, List.length_nil]); (try unfold LL at *); omega), M5, if_neg (by simp), N5, if_neg (by simp), V4, if_neg (by simp), W4, if_neg (by simp), B4, if_neg (by simp), w1 (by omega), ihr (k + 1) _ e3 (by omega) (by simp only [List.length_append, List.length_cons, List.length_nil]; omega), Tc, et]
          simp
      | wait n h =>
          have a1 := Y4 h
          have hb : (B0.mk 4 z z [] [] n 0 0 [] [] []).bulk = 20 := by simp only [B0.bulk, B0.bulks, List.map_nil, List.sum_nil, Xe, A0.bulks, A0.bulk, List.length_nil]; omega
          rw [hb] at hm hbn
          have et : B0.text (B0.mk 4 z z [] [] n 0 0 [] [] []) m = [119, 97, 105, 116, 32] ++ Lib.itoa n ++ [59] := rfl
          rw [H3, e1, if_pos rfl, e2, ob, fit (by (try simp only [List.length_append, List.length_cons, List.length_nil]); (try unfold LL at *); omega), if_neg (by simp), J5, if_neg (by simp), K5, if_neg (by simp), L5, if_neg (by simp), M5, if_pos (by simp), fit (by (try simp only [List.length_append, List.length_cons, List.length_nil]); (try unfold LL at *); omega), Pf h, ob, fit (by (try simp only [List.length_append, List.length_cons, List.length_nil]); (try unfold LL at *); omega), fit (by (try simp only [List.length_append, List.length_cons, List.length_nil]); (try unfold LL at *); omega), N5, if_neg (by simp), V4, if_neg (by simp), W4, if_neg (by simp), B4, if_neg (by simp), w1 (by omega), ihr (k + 1) _ e3 (by omega) (by simp only [List.length_append, List.length_cons, List.length_nil]; omega), Tc, et]
          simp
      | cond va th el h f1 f2 =>
          have a1 := Y2 va h
          have hb : (B0.mk 5 z va [] [] 0 0 0 [] th el).bulk = va.bulk + B0.bulks th + B0.bulks el + 15 := by simp only [B0.bulk, B0.bulks, List.map_nil, List.sum_nil, Xe, A0.bulks, A0.bulk, List.length_nil]; omega
          rw [hb] at hm hbn
          have l1 := Gd th f1 (m ++ [9]) (by simp only [List.length_append, List.length_cons, List.length_nil]; omega)
          have l2 := Gd el f2 (m ++ [9]) (by simp only [List.length_append, List.length_cons, List.length_nil]; omega)
          have r1 := i1 f1 (m ++ [9]) (by simp only [List.length_append, List.length_cons, List.length_nil]; omega)
          have r2 := i2 f2 (m ++ [9]) (by simp only [List.length_append, List.length_cons, List.length_nil]; omega)
          simp only at r1 r2
          have et : B0.text (B0.mk 5 z va [] [] 0 0 0 [] th el) m = [105, 102, 32] ++ va.text ++ ([32, 123, 10] ++ B0.lines th (m ++ [9]) ++ (m ++ [125])) ++ (bif decide ((el.length : Int) > 0) then [32, 101, 108, 115, 101] ++ ([32, 123, 10] ++ B0.lines el (m ++ [9]) ++ (m ++ [125])) else []) := rfl
          rw [H3, e1, if_pos rfl, e2, ob, fit (by (try simp only [List.length_append, List.length_cons, List.length_nil]); (try unfold LL at *); omega), if_neg (by simp), J5, if_neg (by simp), K5, if_neg (by simp), L5, if_neg (by simp), M5, if_neg (by simp), N5, if_pos (by simp), fit (by (try simp only [List.length_append, List.length_cons, List.length_nil]); (try unfold LL at *); omega), Yh va h, ob, fit (by (try simp only [List.length_append, List.length_cons, List.length_nil]); (try unfold LL at *); omega), fit (by (try simp only [List.length_append, List.length_cons, List.length_nil]); (try unfold LL at *); omega), fit (by (try simp only [List.length_append, List.length_cons, List.length_nil]); (try unfold LL at *); omega), r1, ob, fit (by (try simp only [List.length_append, List.length_cons, List.length_nil]); (try unfold LL at *); omega), fit (by (try simp only [List.length_append, List.length_cons, List.length_nil]); (try unfold LL at *); omega), fit (by (try simp only [List.length_append, List.length_cons, List.length_nil]); (try unfold LL at *); omega)]
          cases hd : decide ((el.length : Int) > 0) with
          | false =>
            rw [hd] at et
            rw [if_neg (by simp), Ch, fit (by (try simp only [List.length_append, List.length_cons, List.length_nil]); (try unfold LL at *); omega), V4, if_neg (by simp), W4, if_neg (by simp), B4, if_neg (by simp), w1 (by omega), ihr (k + 1) _ e3 (by omega) (by simp only [List.length_append, List.length_cons, List.length_nil]; omega), Tc, et]
            simp
          | true =>
            rw [hd] at et
            rw [if_pos rfl, fit (by (try simp only [List.length_append, List.length_cons, List.length_nil]); (try unfold LL at *); omega), fit (by (try simp only [List.length_append, List.length_cons, List.length_nil]); (try unfold LL at *); omega), r2, ob, fit (by (try simp only [List.length_append, List.length_cons, List.length_nil]); (try unfold LL at *); omega), fit (by (try simp only [List.length_append, List.length_cons, List.length_nil]); (try unfold LL at *); omega), fit (by (try simp only [List.length_append, List.length_cons, List.length_nil]); (try unfold LL at *); omega), Ch, fit (by (try simp only [List.length_append, List.length_cons, List.length_nil]); (try unfold LL at *); omega), V4, if_neg (by simp), W4, if_neg (by simp), B4, if_neg (by simp), w1 (by omega), ihr (k + 1) _ e3 (by omega) (by simp only [List.length_append, List.length_cons, List.length_nil]; omega), Tc, et]
            simp
      | loop va n th h hn f1 =>
          have a1 := Y2 va h; have a2 := Y4 hn
          have hb : (B0.mk 6 z va [] [] n 0 0 [] th []).bulk = va.bulk + B0.bulks th + 15 := by simp only [B0.bulk, B0.bulks, List.map_nil, List.sum_nil, Xe, A0.bulks, A0.bulk, List.length_nil]; omega
          rw [hb] at hm hbn
          have l1 := Gd th f1 (m ++ [9]) (by simp only [List.length_append, List.length_cons, List.length_nil]; omega)
          have r1 := i1 f1 (m ++ [9]) (by simp only [List.length_append, List.length_cons, List.length_nil]; omega)
          simp only at r1
          have et : B0.text (B0.mk 6 z va [] [] n 0 0 [] th []) m = [119, 104, 105, 108, 101, 32] ++ va.text ++ ([32, 108, 105, 109, 105, 116, 32] ++ Lib.itoa n) ++ ([32, 123, 10] ++ B0.lines th (m ++ [9]) ++ (m ++ [125])) := rfl
          rw [H3, e1, if_pos rfl, e2, ob, fit (by (try simp only [List.length_append, List.length_cons, List.length_nil]); (try unfold LL at *); omega), if_neg (by simp), J5, if_neg (by simp), K5, if_neg (by simp), L5, if_neg (by simp), M5, if_neg (by simp), N5, if_neg (by simp), V4, if_pos (by simp), fit (by (try simp only [List.length_append, List.length_cons, List.length_nil]); (try unfold LL at *); omega), Yh va h, ob, fit (by (try simp only [List.length_append, List.length_cons, List.length_nil]); (try unfold LL at *); omega), fit (by (try simp only [List.length_append, List.length_cons, List.length_nil]); (try unfold LL at *); omega), Pf hn, ob, fit (by (try simp only [List.length_append, List.length_cons, List.length_nil]); (try unfold LL at *); omega), fit (by (try simp only [List.length_append, List.length_cons, List.length_nil]); (try unfold LL at *); omega), fit (by (try simp only [List.length_append, List.length_cons, List.length_nil]); (try unfold LL at *); omega), r1, ob, fit (by (try simp only [List.length_append, List.length_cons, List.length_nil]); (try unfold LL at *); omega), fit (by (try simp only [List.length_append, List.length_cons, List.length_nil]); (try unfold LL at *); omega), fit (by (try simp only [List.length_append, List.length_cons, List.length_nil]); (try unfold LL at *); omega), W4, if_neg (by simp), B4, if_neg (by simp), w1 (by omega), ihr (k + 1) _ e3 (by omega) (by simp only [List.length_append, List.length_cons, List.length_nil]; omega), Tc, et]
          simp
      | count nm lo hi th h h' f1 =>
          have a1 := Y4 h; have a2 := Y4 h'
          have hb : (B0.mk 7 z z nm [] 0 lo hi [] th []).bulk = nm.length + B0.bulks th + 20 := by simp only [B0.bulk, B0.bulks, List.map_nil, List.sum_nil, Xe, A0.bulks, A0.bulk, List.length_nil]; omega
          rw [hb] at hm hbn
          have l1 := Gd th f1 (m ++ [9]) (by simp only [List.length_append, List.length_cons, List.length_nil]; omega)
          have r1 := i1 f1 (m ++ [9]) (by simp only [List.length_append, List.length_cons, List.length_nil]; omega)
          simp only at r1
          have et : B0.text (B0.mk 7 z z nm [] 0 lo hi [] th []) m = [102, 111, 114, 32] ++ nm ++ [32, 61, 32] ++ Lib.itoa lo ++ [32, 116, 111, 32] ++ Lib.itoa hi ++ ([32, 123, 10] ++ B0.lines th (m ++ [9]) ++ (m ++ [125])) := rfl
          rw [H3, e1, if_pos rfl, e2, ob, fit (by (try simp only [List.length_append, List.length_cons, List.length_nil]); (try unfold LL at *); omega), if_neg (by simp), J5, if_neg (by simp), K5, if_neg (by simp), L5, if_neg (by simp), M5, if_neg (by simp), N5, if_neg (by simp), V4, if_neg (by simp), W4, if_pos (by simp), fit (by (try simp only [List.length_append, List.length_cons, List.length_nil]); (try unfold LL at *); omega), fit (by (try simp only [List.length_append, List.length_cons, List.length_nil]); (try unfold LL at *); omega), fit (by (try simp only [List.length_append, List.length_cons, List.length_nil]); (try unfold LL at *); omega), Pf h, ob, fit (by (try simp only [List.length_append, List.length_cons, List.length_nil]); (try unfold LL at *); omega), fit (by (try simp only [List.length_append, List.length_cons, List.length_nil]); (try unfold LL at *); omega), Pf h', ob, fit (by (try simp only [List.length_append, List.length_cons, List.length_nil]); (try unfold LL at *); omega), fit (by (try simp only [List.length_append, List.length_cons, List.length_nil]); (try unfold LL at *); omega), fit (by (try simp only [List.length_append, List.length_cons, List.length_nil]); (try unfold LL at *); omega), r1, ob, fit (by (try simp only [List.length_append, List.length_cons, List.length_nil]); (try unfold LL at *); omega), fit (by (try simp only [List.length_append, List.length_cons, List.length_nil]); (try unfold LL at *); omega), fit (by (try simp only [List.length_append, List.length_cons, List.length_nil]); (try unfold LL at *); omega), B4, if_neg (by simp), w1 (by omega), ihr (k + 1) _ e3 (by omega) (by simp only [List.length_append, List.length_cons, List.length_nil]; omega), Tc, et]
          simp
      | settle ns h =>
          have a1 := C16 true ns h
          have hnl := (hf.ok.mem e5).nums
          have hb : (B0.mk 8 z z [] [] 0 0 0 ns [] []).bulk = ns.length + 20 := by simp only [B0.bulk, B0.bulks, List.map_nil, List.sum_nil, Xe, A0.bulks, A0.bulk, List.length_nil]; omega
          rw [hb] at hm hbn
          have et : B0.text (B0.mk 8 z z [] [] 0 0 0 ns [] []) m = [115, 101, 116, 116, 108, 101, 32] ++ nul true ns ++ [59] := rfl
          have := Q15 l m (B0.mk 8 z z [] [] 0 0 0 ns [] []) hnl h (k : Int) ns 0 (o ++ m ++ [115, 101, 116, 116, 108, 101, 32]) rfl (by simp only [List.length_append, List.length_cons, List.length_nil]; omega)
          rw [show ((0 : Nat) : Int) = 0 from rfl, show ((0 : Nat) == 0) = true from rfl] at this
          rw [H3, e1, if_pos rfl, e2, ob, fit (by (try simp only [List.length_append, List.length_cons, List.length_nil]); (try unfold LL at *); omega), if_neg (by simp), J5, if_neg (by simp), K5, if_neg (by simp), L5, if_neg (by simp), M5, if_neg (by simp), N5, if_neg (by simp), V4, if_neg (by simp), W4, if_neg (by simp), B4, if_pos (by simp), fit (by (try simp only [List.length_append, List.length_cons, List.length_nil]); (try unfold LL at *); omega), this, w1 (by omega), ihr (k + 1) _ e3 (by omega) (by simp only [List.length_append, List.length_cons, List.length_nil]; omega), Tc, et]
          simp
  rw [Ic, show (0 : Int) = ((0 : Nat) : Int) from rfl, main l 0 [] rfl hm (by unfold LL; simp only [List.length_nil]; omega)]
  rfl
end Go.Proofs.YtmilgoloagbmpaaGreatDoor

