/- A part of the proof of SyntaxCheck. -/
import Derived.Test.YtmilgoloagbmpaaGreatDoorDgC
import Derived.ProofKit
namespace Go.Proofs.YtmilgoloagbmpaaGreatDoor
open Go.Am

/-! ### loops -/
theorem ob {α β : Type} (a : α) (f : α → Option β) : (some a >>= f) = f a := rfl
theorem lp_in {α : Type} {l : List α} {k : Nat} {x : α} {r : List α} (h : l.drop k = x :: r) : decide ((k : Int) < (l.length : Int)) = true ∧ idx l (k : Int) = some x ∧ l.drop (k + 1) = r ∧ k < l.length ∧ x ∈ l := by
  have hk : k < l.length := by
    rcases Nat.lt_or_ge k l.length with h1 | h1
    · exact h1
    · rw [List.drop_eq_nil_of_le h1] at h; cases h
  have hx := List.drop_eq_getElem_cons hk
  rw [h] at hx
  obtain ⟨e1, e2⟩ := List.cons.inj hx
  refine ⟨decide_eq_true (by omega), ?_, e2.symm, hk, ?_⟩
  · unfold idx
    rw [if_pos (by omega), e1]
    simp [hk]
  · rw [e1]; exact List.getElem_mem hk
theorem lp_out {α : Type} {l : List α} {k : Nat} (h : l.drop k = []) : decide ((k : Int) < (l.length : Int)) = false ∧ l.length ≤ k := by
  have := List.drop_eq_nil_iff.1 h
  exact ⟨decide_eq_false (by omega), this⟩
/-- sizes that no sum or product here can pass -/
def BB : Nat := 68719476736
theorem wr {n : Int} (h : -4611686018427387904 ≤ n) (h' : n ≤ 4611686018427387904) : IntKind.i64.wrap n = n := wrap_i64 (by omega) (by omega)
theorem w1 {k : Nat} (h : k ≤ BB) : IntKind.i64.wrap ((k : Int) + 1) = ((k + 1 : Nat) : Int) := by
  unfold BB at h
  rw [wr (by omega) (by omega)]; rfl

/-! ### names -/
def lowI (n : Int) : Bool := bif decide (n ≥ 97) then decide (n ≤ 122) else false
def digI (n : Int) : Bool := bif decide (n ≥ 48) then decide (n ≤ 57) else false

/-- the letter or digit at a place of a name -/
def okAt (i : Nat) (c : UInt8) : Bool := lowI c.toNat || (i != 0 && digI c.toNat)
def wordFrom : Nat → List UInt8 → Bool
  | _, [] => true
  | i, c :: r => okAt i c && wordFrom (i + 1) r
def word (s : List UInt8) : Bool := wordFrom 0 s && !(s == [])

/-- the reserved words, a blank around each -/
def kw : List UInt8 := [32, 116, 121, 112, 101, 32, 115, 101, 99, 114, 101, 116, 32, 112, 117, 98, 108, 105, 99, 32, 114, 97, 110, 100, 111, 109, 32, 118, 97, 114, 32, 104, 97, 116, 99, 104, 32, 102, 117, 110, 99, 32, 114, 101, 116, 117, 114, 110, 32, 98, 101, 103, 105, 110, 32, 101, 110, 100, 32, 98, 111, 111, 108, 32, 105, 110, 116, 32, 97, 114, 114, 97, 121, 32, 111, 102, 32, 114, 101, 99, 111, 114, 100, 32, 116, 114, 117, 101, 32, 102, 97, 108, 115, 101, 32, 99, 97, 108, 108, 32, 114, 101, 108, 101, 97, 115, 101, 32, 111, 117, 116, 112, 117, 116, 32, 119, 97, 105, 116, 32, 105, 102, 32, 101, 108, 115, 101, 32, 119, 104, 105, 108, 101, 32, 108, 105, 109, 105, 116, 32, 102, 111, 114, 32, 116, 111, 32, 115, 101, 116, 116, 108, 101, 32, 109, 105, 110, 32, 109, 97, 120, 32]

def resv (s : List UInt8) : Bool := bif (bif !(s == []) then !Lib.contains s [32] else false) then Lib.contains kw ([32] ++ s ++ [32]) else false
def isName (s : List UInt8) : Bool := bif (bif decide ((s.length : Int) ≤ 12) then word s else false) then !resv s else false

theorem getD_some {s : List UInt8} {k : Nat} (h : k < s.length) : s[k]? = some (s.getD k 0) := by simp [List.getD, h]

def ld (c : UInt8) : Bool := bif lowI c.toNat then true else digI c.toNat
/-- how many letters and digits a text begins with -/
def lead : List UInt8 → Nat
  | [] => 0
  | c :: r => bif ld c then lead r + 1 else 0
theorem lead_le : ∀ s : List UInt8, lead s ≤ s.length
  | [] => Nat.le_refl _
  | c :: r => by
    simp only [lead, List.length_cons]
    have := lead_le r
    cases ld c <;> simp <;> omega
def rres (s : List UInt8) : Bool := bif ((s.length : Nat) : Int) == 0 then false else bif s.all (fun c => lowI c.toNat) then Lib.contains kw ([32] ++ s ++ [32]) else false

set_option maxRecDepth 100000 in
theorem kw_len : kw.length = 162 := rfl

theorem contains_hit {s sub : List UInt8} {i : Nat} (hi : i + sub.length ≤ s.length) (h : ((s.take (i + sub.length)).drop i == sub) = true) : Lib.contains s sub = true := by
  have ho : Lib.occAt s sub i = true := by
    rw [Lib.occAt_iff_take s sub i hi]
    rw [List.drop_take] at h
    simpa using h
  rcases Lib.index_spec s sub with ⟨_, h2⟩ | ⟨j, h1, _⟩
  · rw [h2 i (by omega)] at ho; cases ho
  · unfold Lib.contains
    rw [h1]
    exact decide_eq_true (by omega)
theorem contains_miss {s sub : List UInt8} (h : ∀ i, i + sub.length ≤ s.length → ((s.take (i + sub.length)).drop i == sub) = false) (hne : sub ≠ []) : Lib.contains s sub = false := by
  rcases Lib.index_spec s sub with ⟨h1, _⟩ | ⟨j, h1, h2, h3, _⟩
  · unfold Lib.contains
    rw [h1]; rfl
  · rcases Lib.occAt_room h3 with hr | hr
    · have := h j hr
      rw [Lib.occAt_iff_take s sub j hr] at h3
      rw [List.drop_take] at this
      have e : j + sub.length - j = sub.length := by omega
      rw [e, h3] at this
      cases this
    · exact absurd hr hne

def refNm (s : List UInt8) : Bool :=
  bif (bif (bif (bif decide (((s.length : Nat) : Int) < 1) then true else decide (((s.length : Nat) : Int) > 12)) then true else !lowI (s.getD 0 0).toNat) then true else rres s) then false else ((lead s : Nat) : Int) == ((s.length : Nat) : Int)

theorem wordFrom_ld : ∀ (r : List UInt8) (i : Nat), 1 ≤ i → wordFrom i r = r.all ld
  | [], _, _ => rfl
  | c :: r, i, h => by
    have hi : (i != 0) = true := by simp; omega
    simp only [wordFrom, List.all_cons, wordFrom_ld r (i + 1) (by omega), okAt, hi, Bool.true_and, ld]
    cases lowI c.toNat <;> rfl
theorem lead_ld : ∀ s : List UInt8, (((lead s : Nat) : Int) == ((s.length : Nat) : Int)) = s.all ld
  | [] => rfl
  | c :: r => by
    have h := lead_ld r
    have hle := lead_le r
    simp only [lead, List.length_cons, List.all_cons, ← h]
    cases ld c with
    | false =>
      simp only [cond_false, Bool.false_and]
      apply beq_eq_false_iff_ne.2
      omega
    | true =>
      simp only [cond_true, Bool.true_and]
      rw [Bool.eq_iff_iff, beq_iff_eq, beq_iff_eq]
      omega

set_option maxRecDepth 100000 in
theorem kw_chars : kw.all (fun c => lowI c.toNat || c == 32) = true := by decide

theorem contains_mem {s sub : List UInt8} (h : Lib.contains s sub = true) (hne : sub ≠ []) : ∀ c ∈ sub, c ∈ s := by
  rcases Lib.index_spec s sub with ⟨h1, _⟩ | ⟨j, h1, h2, h3, _⟩
  · unfold Lib.contains at h
    rw [h1] at h
    cases h
  · rcases Lib.occAt_room h3 with hr | hr
    · rw [Lib.occAt_iff_take s sub j hr] at h3
      have e : (s.drop j).take sub.length = sub := by simpa using h3
      intro c hc
      rw [← e] at hc
      exact List.mem_of_mem_drop (List.mem_of_mem_take hc)
    · exact absurd hr hne

theorem ld_space : ld 32 = false := by decide

theorem no_space {s : List UInt8} (h : s.all ld = true) : Lib.contains s [32] = false := by
  cases hc : Lib.contains s [32] with
  | false => rfl
  | true =>
    have := contains_mem hc (by simp) 32 (by simp)
    have := List.all_eq_true.1 h 32 this
    rw [ld_space] at this
    cases this

theorem all_low {s : List UInt8} (h : s.all ld = true) (hc : Lib.contains kw ([32] ++ s ++ [32]) = true) : s.all (fun c => lowI c.toNat) = true := by
  rw [List.all_eq_true]
  intro c hcs
  have h1 := contains_mem hc (by simp) c (by simp [hcs])
  have h2 := List.all_eq_true.1 kw_chars c h1
  have h3 := List.all_eq_true.1 h c hcs
  cases hl : lowI c.toNat with
  | true => rfl
  | false =>
    rw [hl, Bool.false_or, beq_iff_eq] at h2
    subst h2
    rw [ld_space] at h3
    cases h3

theorem name_eq (s : List UInt8) : refNm s = isName s := by
  unfold refNm isName
  rw [lead_ld]
  cases s with
  | nil => rfl
  | cons c r =>
    have h1 : decide ((((c :: r).length : Nat) : Int) < 1) = false := decide_eq_false (by simp only [List.length_cons]; omega)
    have h12 : decide ((((c :: r).length : Nat) : Int) > 12) = !decide ((((c :: r).length : Nat) : Int) ≤ 12) := by
      rw [← decide_not]; exact decide_eq_decide.2 Int.not_le.symm
    have hw : word (c :: r) = (lowI c.toNat && r.all ld) := by
      unfold word
      simp only [wordFrom, okAt, wordFrom_ld r 1 (Nat.le_refl _)]
      simp
    rw [h1, h12, hw, cond_false, List.all_cons]
    show (bif (bif (bif !decide ((((c :: r).length : Nat) : Int) ≤ 12) then true else !lowI c.toNat) then true else rres (c :: r)) then false else (ld c && r.all ld)) = _
    cases h12' : decide ((((c :: r).length : Nat) : Int) ≤ 12) with
    | false => rfl
    | true =>
      cases hl : lowI c.toNat with
      | false => rfl
      | true =>
        have hlc : ld c = true := by unfold ld; rw [hl]; rfl
        rw [hlc]
        cases ha : r.all ld with
        | false => cases rres (c :: r) <;> rfl
        | true =>
          have hall : (c :: r).all ld = true := by rw [List.all_cons, hlc, ha]; rfl
          have hns := no_space hall
          have e : rres (c :: r) = resv (c :: r) := by
            unfold rres resv
            rw [hns]
            have hz : ((((c :: r).length : Nat) : Int) == 0) = false := beq_eq_false_iff_ne.2 (by simp only [List.length_cons]; omega)
            rw [hz]
            cases hk : Lib.contains kw ([32] ++ (c :: r) ++ [32]) with
            | false => simp
            | true =>
              rw [all_low hall hk]
              rfl
          rw [e]
          cases resv (c :: r) <;> rfl

/-! ### the program's -/
theorem isLetter_eq (n : Int) : lexer_isLetter n = some (lowI n) := rfl
theorem isDigit_eq (n : Int) : lexer_isDigit n = some (digI n) := rfl
theorem isWord_run (s : Str) (hs : s.length ≤ BB) : ∀ (r : Str) (k : Nat), s.drop k = r → lexer_isWord_l1 s k = some (wordFrom k r && !(s == []))
  | [], k, h => by rw [lexer_isWord_l1, (lp_out h).1]; simp [wordFrom]
  | c :: r, k, h => by
    obtain ⟨h1, h2, h3, h4, _⟩ := lp_in h
    have ih := isWord_run s hs r (k + 1) h3
    rw [lexer_isWord_l1, h1, if_pos rfl, h2, ob, isLetter_eq, ob, w1 (by omega), ih]
    have e : ((k : Int) == 0) = (k == 0) := by cases k <;> rfl
    simp only [e, wordFrom, okAt, bne]
    cases hl : lowI c.toNat <;> cases hk : k == 0 <;> cases hd : digI c.toNat <;> simp [isDigit_eq, hd]
theorem isWord_eq (s : Str) (hs : s.length ≤ BB) : lexer_isWord s = some (word s) := isWord_run s hs s 0 rfl
theorem X_Contains_eq (s t : Str) (hs : s.length ≤ 4000000000) : X_Contains s t = some (Lib.contains s t) := by
  unfold X_Contains
  rw [if_pos (decide_eq_true (by omega))]
theorem Reserved_eq (s : Str) (hs : s.length ≤ 4000000000) : lexer_Reserved s = some (resv s) := by
  unfold lexer_Reserved
  have h1 : decide (1 + s.length ≤ maxLen) = true := decide_eq_true (by unfold maxLen; omega)
  have h2 : decide (([32] ++ s).length + 1 ≤ maxLen) = true := decide_eq_true (by unfold maxLen; simp; omega)
  rw [X_Contains_eq s _ hs]
  have h3 := X_Contains_eq kw (([32] ++ s) ++ [32]) (by rw [kw_len]; omega)
  unfold kw at h3
  unfold resv kw
  rw [h1, h2, h3]
  cases s == [] <;> cases Lib.contains s [32] <;> simp
theorem IsName_eq (s : Str) (hs : s.length ≤ BB) : syntax_IsName s = some (isName s) := by
  unfold syntax_IsName lexer_IsName isName
  rw [isWord_eq s hs]
  cases h : decide ((s.length : Int) ≤ 12) with
  | false => simp
  | true =>
    have h' : s.length ≤ 12 := by have := of_decide_eq_true h; omega
    rw [Reserved_eq s (by omega)]
    cases word s <;> simp

/-! ### the reference's -/
theorem refLetter_eq (n : Int) : ref09_letter n = some (lowI n) := rfl
theorem refDigit_eq (n : Int) : ref09_digit n = some (digI n) := rfl
theorem run_run (s : Str) (hs : s.length ≤ BB) : ∀ (r : Str) (k : Nat), s.drop k = r → ref09_run_l1 s k = some ((k + lead r : Nat) : Int)
  | [], k, h => by rw [ref09_run_l1, (lp_out h).1]; simp [lead, ob]
  | c :: r, k, h => by
    obtain ⟨h1, h2, h3, h4, _⟩ := lp_in h
    have ih := run_run s hs r (k + 1) h3
    rw [ref09_run_l1, h1, if_pos rfl, h2, ob, if_pos rfl, refLetter_eq, ob, w1 (by omega), ih]
    simp only [lead, ld]
    cases hl : lowI c.toNat <;> cases hd : digI c.toNat <;> simp [refDigit_eq, hd, ob] <;> omega
theorem run_eq (s : Str) (hs : s.length ≤ BB) : ref09_run s 0 = some ((lead s : Nat) : Int) := by
  have := run_run s hs s 0 rfl
  unfold ref09_run
  rw [Nat.zero_add] at this
  exact this
theorem res2_run (s : Str) (hs : s.length ≤ 4000000000) : ∀ (n k : Nat), n + k = 163 → (∀ i, i < k → i + ([32] ++ s ++ [32]).length ≤ kw.length → ((kw.take (i + ([32] ++ s ++ [32]).length)).drop i == [32] ++ s ++ [32]) = false) →
    ref09_Reserved_l2 s k = some (Lib.contains kw ([32] ++ s ++ [32])) := by
  have hl : ([32] ++ s ++ [32]).length = s.length + 2 := by simp
  intro n
  induction n with
  | zero =>
    intro k hk hi
    rw [ref09_Reserved_l2, wr (n := (k : Int) + _) (by omega) (by omega), wr (by omega) (by omega), if_neg (by simp; omega), contains_miss (fun i h => hi i (by rw [kw_len] at h; omega) h) (by simp)]
  | succ n ih =>
    intro k hk hi
    rw [ref09_Reserved_l2, wr (n := (k : Int) + _) (by omega) (by omega), wr (by omega) (by omega)]
    by_cases hr : k + ([32] ++ s ++ [32]).length ≤ kw.length
    · have hr' := hr
      rw [kw_len, hl] at hr'
      rw [if_pos (decide_eq_true (by omega))]
      have hs2 : slc kw (k : Int) ((k : Int) + (s.length : Int) + 2) = some ((kw.take (k + ([32] ++ s ++ [32]).length)).drop k) := by
        unfold slc
        rw [if_pos ⟨by omega, by omega, by rw [kw_len]; omega⟩, hl]
        rw [show ((k : Int) + (s.length : Int) + 2).toNat = k + (s.length + 2) by omega]
        rfl
      unfold kw at hs2
      rw [hs2, ob, if_pos (decide_eq_true (by unfold maxLen; omega)), if_pos (decide_eq_true (by unfold maxLen; simp; omega))]
      cases he : ((kw.take (k + ([32] ++ s ++ [32]).length)).drop k == [32] ++ s ++ [32]) with
      | true =>
        have := contains_hit hr he
        rw [this]
        unfold kw at he
        rw [he, if_pos rfl]
      | false =>
        have he' := he
        unfold kw at he'
        rw [he', if_neg (by simp), w1 (by unfold BB; omega)]
        refine ih (k + 1) (by omega) fun i hik => ?_
        rcases Nat.lt_or_eq_of_le (Nat.le_of_lt_succ hik) with h | h
        · exact hi i h
        · subst h; exact fun _ => he
    · have hr' := hr
      rw [kw_len, hl] at hr'
      rw [if_neg (by simp; omega), contains_miss (fun i h => hi i (by omega) h) (by simp)]
theorem res1_run (s : Str) (hs : s.length ≤ 4000000000) : ∀ (r : Str) (k : Nat), s.drop k = r → ref09_Reserved_l1 s k = some (bif r.all (fun c => lowI c.toNat) then Lib.contains kw ([32] ++ s ++ [32]) else false)
  | [], k, h => by rw [ref09_Reserved_l1, (lp_out h).1, if_neg (by simp)]; exact res2_run s hs 163 0 rfl (fun i h => by omega)
  | c :: r, k, h => by
    obtain ⟨h1, h2, h3, h4, _⟩ := lp_in h
    have ih := res1_run s hs r (k + 1) h3
    rw [ref09_Reserved_l1, h1, if_pos rfl, h2, ob, refLetter_eq, ob, w1 (by unfold BB; omega), ih, List.all_cons]
    cases lowI c.toNat <;> simp
theorem refReserved_eq (s : Str) (hs : s.length ≤ 4000000000) : ref09_Reserved s = some (rres s) := by
  unfold ref09_Reserved rres
  have := res1_run s hs s 0 rfl
  rw [show (0 : Int) = ((0 : Nat) : Int) from rfl, this]
  cases ((s.length : Int) == ((0 : Nat) : Int)) <;> simp
theorem refIsName_eq (s : Str) (hs : s.length ≤ BB) : ref10_IsName s = some (isName s) := by
  rw [← name_eq]
  unfold ref10_IsName ref09_IsName refNm
  cases h : (bif decide ((s.length : Int) < 1) then true else decide ((s.length : Int) > 12)) with
  | true => simp [ob]
  | false =>
    have h' : 1 ≤ s.length ∧ s.length ≤ 12 := by
      cases h1 : decide ((s.length : Int) < 1) with
      | true => rw [h1] at h; cases h
      | false =>
        rw [h1] at h
        have := of_decide_eq_false h1
        have := of_decide_eq_false (show decide ((s.length : Int) > 12) = false from h)
        omega
    have h0 : idx s 0 = some (s.getD 0 0) := getD_some (by omega)
    rw [h0, refReserved_eq s (by omega), run_eq s hs]
    simp only [Bool.not_false, if_true, ob, refLetter_eq, cond_false]
    cases lowI (s.getD 0 0).toNat <;> cases rres s <;> simp [ob]
end Go.Proofs.YtmilgoloagbmpaaGreatDoor

set_option linter.unusedSimpArgs false
namespace Go.Proofs.YtmilgoloagbmpaaGreatDoor
open Go.Am

theorem ApiType.ind {P : ApiType → Prop} (h : ∀ t : ApiType, (∀ x ∈ t.Of, P x) → P t) : ∀ t, P t := by
  intro t
  refine ApiType.rec (motive_1 := P) (motive_2 := fun l => ∀ x ∈ l, P x) ?_ ?_ ?_ t
  · intro k l h' s n ns of ih
    exact h _ ih
  · intro x hx; cases hx
  · intro x r hx hr y hy
    cases hy with
    | head => exact hx
    | tail _ hy => exact hr y hy

mutual
def ApiType.depth : ApiType → Nat
  | .mk _ _ _ _ _ _ of => ApiType.depths of + 1
def ApiType.depths : List ApiType → Nat
  | [] => 0
  | t :: r => max (ApiType.depth t) (ApiType.depths r)
end
theorem ApiType.depth_eq (t : ApiType) : t.depth = ApiType.depths t.Of + 1 := by cases t; simp [ApiType.depth, ApiType.Of]
def inside (a b c : Int) : Bool := bif decide (a ≥ b) then decide (a ≤ c) else false
mutual
/-- every node meets p -/
def ApiType.all (p : ApiType → Bool) : ApiType → Bool
  | .mk k l h s n ns of => p (.mk k l h s n ns of) && ApiType.alls p of
def ApiType.alls (p : ApiType → Bool) : List ApiType → Bool
  | [] => true
  | t :: r => ApiType.all p t && ApiType.alls p r
end
theorem ApiType.all_eq (p : ApiType → Bool) (t : ApiType) : t.all p = (p t && ApiType.alls p t.Of) := by cases t; rfl
mutual
def ApiType.nodes : ApiType → Nat
  | .mk _ _ _ _ _ _ of => ApiType.nodess of + 1
def ApiType.nodess : List ApiType → Nat
  | [] => 0
  | t :: r => ApiType.nodes t + ApiType.nodess r
end
theorem ApiType.nodes_eq (t : ApiType) : t.nodes = ApiType.nodess t.Of + 1 := by cases t; rfl
mutual
theorem ApiType.depth_nodes : ∀ t : ApiType, t.depth ≤ t.nodes
  | .mk _ _ _ _ _ _ of => by simp only [ApiType.depth, ApiType.nodes]; have := ApiType.depths_nodess of; omega
theorem ApiType.depths_nodess : ∀ l : List ApiType, ApiType.depths l ≤ ApiType.nodess l
  | [] => Nat.le_refl _
  | t :: r => by simp only [ApiType.depths, ApiType.nodess]; have := ApiType.depth_nodes t; have := ApiType.depths_nodess r; omega
end

/-! ### what one node is asked -/

def fm1 (t : ApiType) : Bool := bif decide (t.Kind ≥ 0) then decide (t.Kind ≤ 4) else false
def fm2 (t : ApiType) : Bool := bif t.Kind == 1 then true else bif t.Low == 0 then t.High == 0 else false
def fm3 (t : ApiType) : Bool := bif t.Kind == 2 then true else t.Size == 0
def fm4 (t : ApiType) : Bool := bif t.Kind == 4 then true else t.Name == []
def fm5 (t : ApiType) : Bool := bif t.Kind == 3 then true else ((t.Names).length : Int) == 0
def fm6 (t : ApiType) : Bool := bif t.Kind == 2 then ((t.Of).length : Int) == 1 else bif t.Kind == 3 then (bif decide (((t.Of).length : Int) ≥ 1) then ((t.Of).length : Int) == ((t.Names).length : Int) else false) else ((t.Of).length : Int) == 0
def nm1 (t : ApiType) : Bool := bif t.Kind == 2 then inside t.Size 1 32 else bif t.Kind == 3 then decide (((t.Of).length : Int) ≤ 32) else true
def nm2 (t : ApiType) : Bool := bif t.Kind == 1 then (bif inside t.Low (-1048576) 1048576 then inside t.High t.Low 1048576 else false) else true
def na1 (t : ApiType) : Bool := bif t.Kind == 4 then isName t.Name else true
def formN (t : ApiType) : Bool := fm1 t && fm2 t && fm3 t && fm4 t && fm5 t && fm6 t
def numN (t : ApiType) : Bool := nm1 t && nm2 t
def nameN (t : ApiType) : Bool := na1 t && t.Names.all isName

theorem or_not (a b c : Bool) : (a || !b || !c) = (a || !(b && c)) := by cases a <;> cases b <;> cases c <;> rfl

def repCode (n d : Int) (f m u : Bool) : Int :=
  bif (bif decide (n > 1024) then true else decide (d > 12)) then 4 else bif f then 1 else bif m then 7 else bif u then 3 else 0

theorem lt_ge (a b : Int) : decide (a < b) = !decide (a ≥ b) := by
  rw [← decide_not]; exact decide_eq_decide.2 Int.not_le.symm
theorem gt_le (a b : Int) : decide (a > b) = !decide (a ≤ b) := by
  rw [← decide_not]; exact decide_eq_decide.2 Int.not_le.symm

def bad0 (t : ApiType) : Bool := bif decide (t.Kind < 0) then true else decide (t.Kind > 4)
def bad1 (t : ApiType) : Bool :=
  bif (bif (bif (bif t.Kind != 1 then (bif t.Low != 0 then true else t.High != 0) else false) then true else (bif t.Kind != 2 then t.Size != 0 else false)) then true else (bif t.Kind != 4 then !(t.Name == []) else false)) then true else
    (bif t.Kind != 3 then ((t.Names).length : Int) != 0 else false)
def bad2 (t : ApiType) : Bool :=
  bif (bif (bif t.Kind == 2 then ((t.Of).length : Int) != 1 else false) then true else
    (bif t.Kind == 3 then (bif decide (((t.Of).length : Int) < 1) then true else ((t.Of).length : Int) != ((t.Names).length : Int)) else false)) then true else
    (bif (bif t.Kind != 2 then t.Kind != 3 else false) then ((t.Of).length : Int) != 0 else false)

theorem bad0_eq (t : ApiType) : fm1 t = !bad0 t := by
  unfold fm1 bad0
  rw [lt_ge, gt_le]
  cases decide (t.Kind ≥ 0) <;> cases decide (t.Kind ≤ 4) <;> rfl
theorem bad1_eq (t : ApiType) : (fm2 t && fm3 t && fm4 t && fm5 t) = !bad1 t := by
  unfold fm2 fm3 fm4 fm5 bad1
  simp only [bne]
  generalize (t.Kind == 1) = a
  generalize (t.Kind == 2) = b
  generalize (t.Kind == 3) = c
  generalize (t.Kind == 4) = d
  generalize (t.Low == 0) = e
  generalize (t.High == 0) = f
  generalize (t.Size == 0) = g
  generalize (t.Name == []) = h
  generalize (((t.Names).length : Int) == 0) = i
  cases a <;> cases b <;> cases c <;> cases d <;> cases e <;> cases f <;> cases g <;> cases h <;> cases i <;> rfl
theorem bad2_eq (t : ApiType) : fm6 t = !bad2 t := by
  have hx : (t.Kind == 2) = true → (t.Kind == 3) = false := fun h => by
    have : t.Kind = 2 := by simpa using h
    rw [this]; rfl
  unfold fm6 bad2
  rw [lt_ge]
  simp only [bne]
  revert hx
  generalize (t.Kind == 2) = b
  generalize (t.Kind == 3) = c
  generalize (((t.Of).length : Int) == 1) = d
  generalize (((t.Of).length : Int) == 0) = e
  generalize (((t.Of).length : Int) == ((t.Names).length : Int)) = f
  generalize (decide (((t.Of).length : Int) ≥ 1)) = g
  intro hx
  cases b <;> cases c <;> first | (exact absurd (hx rfl) (by decide)) | (cases d <;> cases e <;> cases f <;> cases g <;> rfl)
theorem formN_eq (t : ApiType) : formN t = (!bad0 t && !bad1 t && !bad2 t) := by
  rw [← bad0_eq, ← bad1_eq, ← bad2_eq]
  unfold formN
  simp only [Bool.and_assoc]

def within (n : Int) : Bool := bif decide (n ≥ -1048576) then decide (n ≤ 1048576) else false
def nbad (t : ApiType) : Bool :=
  bif (bif (bif t.Kind == 1 then (bif (bif !within t.Low then true else !within t.High) then true else decide (t.Low > t.High)) else false) then true else
    (bif t.Kind == 2 then (bif decide (t.Size < 1) then true else decide (t.Size > 32)) else false)) then true else decide (((t.Of).length : Int) > 32)

theorem numbers_node (t : ApiType) (hf : formN t = true) : numN t = !nbad t := by
  have hk1 : (t.Kind == 1) = true → (t.Kind == 2) = false ∧ (t.Kind == 3) = false := fun h => by
    have : t.Kind = 1 := by simpa using h
    rw [this]; exact ⟨rfl, rfl⟩
  have hk2 : (t.Kind == 2) = true → (t.Kind == 3) = false := fun h => by
    have : t.Kind = 2 := by simpa using h
    rw [this]; rfl
  have h6 : fm6 t = true := by
    unfold formN at hf
    simp only [Bool.and_eq_true] at hf
    exact hf.2
  have hin : (bif inside t.Low (-1048576) 1048576 then inside t.High t.Low 1048576 else false) = !(bif (bif !within t.Low then true else !within t.High) then true else decide (t.Low > t.High)) := by
    unfold inside within
    by_cases a1 : t.Low ≥ -1048576 <;> by_cases a2 : t.Low ≤ 1048576 <;> by_cases a3 : t.High ≥ -1048576 <;> by_cases a4 : t.High ≤ 1048576 <;> by_cases a5 : t.High ≥ t.Low <;>
      simp [a1, a2, a3, a4, a5] <;> omega
  have hsz : inside t.Size 1 32 = !(bif decide (t.Size < 1) then true else decide (t.Size > 32)) := by
    unfold inside
    rw [lt_ge, gt_le]
    cases decide (t.Size ≥ 1) <;> cases decide (t.Size ≤ 32) <;> rfl
  unfold numN nbad nm1 nm2
  rw [hin, hsz, gt_le (((t.Of).length : Int))]
  have hl : (t.Kind == 3) = false → decide (((t.Of).length : Int) ≤ 32) = true := fun h3 => by
    unfold fm6 at h6
    rw [h3] at h6
    cases h2 : t.Kind == 2 with
    | true =>
      rw [h2] at h6
      have : ((t.Of).length : Int) = 1 := by simpa using h6
      exact decide_eq_true (by omega)
    | false =>
      rw [h2] at h6
      have : ((t.Of).length : Int) = 0 := by simpa using h6
      exact decide_eq_true (by omega)
  revert hk1 hk2 hl
  generalize (bif (bif !within t.Low then true else !within t.High) then true else decide (t.Low > t.High)) = X
  generalize (bif decide (t.Size < 1) then true else decide (t.Size > 32)) = Y
  generalize decide (((t.Of).length : Int) ≤ 32) = Z
  generalize (t.Kind == 1) = a
  generalize (t.Kind == 2) = b
  generalize (t.Kind == 3) = c
  intro hk1 hk2 hl
  cases a <;> cases b <;> cases c <;> first | exact absurd (hk1 rfl).1 (by decide) | exact absurd (hk1 rfl).2 (by decide) | exact absurd (hk2 rfl) (by decide) | (cases X <;> cases Y <;> cases Z <;> first | rfl | exact absurd (hl rfl) (by decide))

theorem numbers_all (t : ApiType) : t.all formN = true → t.all numN = t.all fun t => !nbad t := by
  induction t using ApiType.ind with
  | h t ih =>
  intro hf
  rw [ApiType.all_eq, Bool.and_eq_true] at hf
  rw [ApiType.all_eq, ApiType.all_eq, numbers_node t hf.1]
  congr 1
  have : ∀ l : List ApiType, (∀ x ∈ l, x.all formN = true → x.all numN = x.all fun t => !nbad t) → ApiType.alls formN l = true → ApiType.alls numN l = ApiType.alls (fun t => !nbad t) l := by
    intro l
    induction l with
    | nil => intros; rfl
    | cons x r ihr =>
      intro h1 h2
      simp only [ApiType.alls, Bool.and_eq_true] at h2
      simp only [ApiType.alls]
      rw [h1 x List.mem_cons_self h2.1, ihr (fun y hy => h1 y (List.mem_cons_of_mem _ hy)) h2.2]
  exact this t.Of ih hf.2

theorem ApiType.alls_mem {p : ApiType → Bool} : ∀ {l : List ApiType} {t : ApiType}, ApiType.alls p l = true → t ∈ l → t.all p = true
  | x :: r, t, h, hm => by
    simp only [ApiType.alls, Bool.and_eq_true] at h
    cases hm with
    | head => exact h.1
    | tail _ hm => exact ApiType.alls_mem h.2 hm

/-- what a type that CheckType lets pass is like -/
structure Fine (t : ApiType) : Prop where
  form : t.all formN = true
  num : t.all numN = true
theorem Fine.kid {t x : ApiType} (h : Fine t) (hx : x ∈ t.Of) : Fine x := by
  have h1 := h.form
  have h2 := h.num
  rw [ApiType.all_eq, Bool.and_eq_true] at h1 h2
  exact ⟨ApiType.alls_mem h1.2 hx, ApiType.alls_mem h2.2 hx⟩
mutual
/-- some node meets p -/
def ApiType.some (p : ApiType → Bool) : ApiType → Bool
  | .mk k l h s n ns of => p (.mk k l h s n ns of) || ApiType.somes p of
def ApiType.somes (p : ApiType → Bool) : List ApiType → Bool
  | [] => false
  | t :: r => ApiType.some p t || ApiType.somes p r
end
/-- two lists, place by place -/
def eqL {α : Type} (p : α → α → Bool) : List α → List α → Bool
  | [], [] => true
  | x :: r, y :: s => p x y && eqL p r s
  | _, _ => false
theorem eqL_len {α : Type} (p : α → α → Bool) : ∀ {l m : List α}, l.length ≠ m.length → eqL p l m = false
  | [], [], h => absurd rfl h
  | [], _ :: _, _ => rfl
  | _ :: _, [], _ => rfl
  | x :: r, y :: s, h => by rw [eqL, eqL_len p (l := r) (m := s) (by simpa using h), Bool.and_false]

mutual
/-- all fields are the same -/
def ApiType.same : ApiType → ApiType → Bool
  | .mk k l h s n ns of, t => k == t.Kind && l == t.Low && h == t.High && s == t.Size && n == t.Name && eqL (fun x y => x == y) ns t.Names && ApiType.sames of t.Of
def ApiType.sames : List ApiType → List ApiType → Bool
  | [], [] => true
  | x :: r, y :: s => ApiType.same x y && ApiType.sames r s
  | [], _ :: _ => false
  | _ :: _, [] => false
end
theorem ApiType.sames_eq : ∀ l m : List ApiType, ApiType.sames l m = eqL ApiType.same l m
  | [], [] => rfl
  | x :: r, y :: s => by simp only [ApiType.sames, eqL, ApiType.sames_eq r s]
  | [], _ :: _ => rfl
  | _ :: _, [] => rfl
theorem ApiType.same_eq (t u : ApiType) : t.same u = (t.Kind == u.Kind && t.Low == u.Low && t.High == u.High && t.Size == u.Size && t.Name == u.Name && eqL (fun x y => x == y) t.Names u.Names && eqL ApiType.same t.Of u.Of) := by
  rw [← ApiType.sames_eq]
  cases t
  rfl

def diff (t u : ApiType) : Bool :=
  bif (bif (bif (bif (bif (bif t.Kind != u.Kind then true else t.Low != u.Low) then true else t.High != u.High) then true else t.Size != u.Size) then true else !(t.Name == u.Name)) then true else
    ((t.Names).length : Int) != ((u.Names).length : Int)) then true else ((t.Of).length : Int) != ((u.Of).length : Int)

theorem diff_same {t u : ApiType} (h : diff t u = true) : t.same u = false := by
  have hn : ((t.Names).length : Int) ≠ ((u.Names).length : Int) → eqL (fun x y => x == y) t.Names u.Names = false := fun h => eqL_len _ fun e => h (by omega)
  have ho : ((t.Of).length : Int) ≠ ((u.Of).length : Int) → eqL ApiType.same t.Of u.Of = false := fun h => eqL_len _ fun e => h (by omega)
  unfold diff at h
  rw [ApiType.same_eq]
  by_cases h1 : ((t.Names).length : Int) = ((u.Names).length : Int)
  · by_cases h2 : ((t.Of).length : Int) = ((u.Of).length : Int)
    · rw [h1, h2] at h
      revert h
      simp only [bne, beq_self_eq_true, Bool.not_true]
      cases t.Kind == u.Kind <;> cases t.Low == u.Low <;> cases t.High == u.High <;> cases t.Size == u.Size <;> cases t.Name == u.Name <;> simp
    · rw [ho h2, Bool.and_false]
  · rw [hn h1, Bool.and_false, Bool.false_and]

theorem diff_not {t u : ApiType} (h : diff t u = false) : t.same u = (eqL (fun x y => x == y) t.Names u.Names && eqL ApiType.same t.Of u.Of) ∧ t.Names.length = u.Names.length ∧ t.Of.length = u.Of.length := by
  unfold diff at h
  simp only [bne] at h
  have key : t.Kind == u.Kind ∧ t.Low == u.Low ∧ t.High == u.High ∧ t.Size == u.Size ∧ t.Name == u.Name ∧ ((t.Names).length : Int) == ((u.Names).length : Int) ∧ ((t.Of).length : Int) == ((u.Of).length : Int) := by
    revert h
    cases t.Kind == u.Kind <;> cases t.Low == u.Low <;> cases t.High == u.High <;> cases t.Size == u.Size <;> cases t.Name == u.Name <;> cases ((t.Names).length : Int) == ((u.Names).length : Int) <;> cases ((t.Of).length : Int) == ((u.Of).length : Int) <;> simp
  obtain ⟨k1, k2, k3, k4, k5, k6, k7⟩ := key
  refine ⟨by rw [ApiType.same_eq, k1, k2, k3, k4, k5]; rfl, ?_, ?_⟩
  · have : (t.Names.length : Int) = u.Names.length := by simpa using k6
    omega
  · have : (t.Of.length : Int) = u.Of.length := by simpa using k7
    omega

end Go.Proofs.YtmilgoloagbmpaaGreatDoor

set_option linter.unusedSimpArgs false
namespace Go.Proofs.YtmilgoloagbmpaaGreatDoor
open Go.Am

mutual
def ApiType.bulk : ApiType → Nat
  | .mk _ _ _ _ n ns of => 1 + (1 + (1 + (1 + ((n.length + 1) + (((ns.map fun s => s.length + 1).sum + 1) + ((ApiType.bulks of + 1) + 0)))))) + 1
def ApiType.bulks : List ApiType → Nat
  | [] => 0
  | x :: r => ApiType.bulk x + ApiType.bulks r
end
theorem ApiType.bulk_eq (t : ApiType) : t.bulk = t.Name.length + (t.Names.map fun s => s.length + 1).sum + ApiType.bulks t.Of + 8 := by cases t; simp only [ApiType.bulk]; omega
theorem ApiType.bulk_kid {t : ApiType} : ∀ {l : List ApiType}, t ∈ l → t.bulk ≤ ApiType.bulks l
  | x :: r, h => by
    simp only [ApiType.bulks]
    cases h with
    | head => omega
    | tail _ h => have := ApiType.bulk_kid h; omega
theorem ApiType.bulk_len : ∀ l : List ApiType, l.length ≤ ApiType.bulks l
  | [] => Nat.le_refl _
  | x :: r => by
    simp only [ApiType.bulks, List.length_cons]
    have := ApiType.bulk_len r
    have := ApiType.bulk_eq x
    omega
theorem strs_kid {s : Str} : ∀ {l : List Str}, s ∈ l → s.length + 1 ≤ (l.map fun s => s.length + 1).sum
  | x :: r, h => by
    simp only [List.map_cons, List.sum_cons]
    cases h with
    | head => omega
    | tail _ h => have := strs_kid h; omega
theorem strs_sum : ∀ l : List Str, l.length ≤ (l.map fun s => s.length + 1).sum
  | [] => Nat.le_refl _
  | x :: r => by simp only [List.map_cons, List.sum_cons, List.length_cons]; have := strs_sum r; omega
mutual
theorem ApiType.nodes_bulk : ∀ t : ApiType, t.nodes ≤ t.bulk
  | .mk _ _ _ _ _ _ of => by simp only [ApiType.nodes, ApiType.bulk]; have := ApiType.nodess_bulk of; omega
theorem ApiType.nodess_bulk : ∀ l : List ApiType, ApiType.nodess l ≤ ApiType.bulks l
  | [] => Nat.le_refl _
  | x :: r => by simp only [ApiType.nodess, ApiType.bulks]; have := ApiType.nodes_bulk x; have := ApiType.nodess_bulk r; omega
end
/-- a type of bounded size -/
def Ok (t : ApiType) : Prop := t.bulk ≤ BB
theorem Ok.kid {t x : ApiType} (h : Ok t) (hx : x ∈ t.Of) : Ok x := by
  unfold Ok at *
  have := ApiType.bulk_kid hx
  have := ApiType.bulk_eq t
  omega
theorem Ok.ofs {t : ApiType} (h : Ok t) : t.Of.length ≤ BB := by
  unfold Ok at *
  have := ApiType.bulk_len t.Of
  have := ApiType.bulk_eq t
  omega
theorem Ok.names {t : ApiType} (h : Ok t) : t.Names.length ≤ BB := by
  unfold Ok at *
  have := strs_sum t.Names
  have := ApiType.bulk_eq t
  omega
theorem Ok.name1 {t : ApiType} (h : Ok t) {s : Str} (hs : s ∈ t.Names) : s.length ≤ BB := by
  unfold Ok at *
  have := strs_kid hs
  have := ApiType.bulk_eq t
  omega
theorem Ok.name {t : ApiType} (h : Ok t) : t.Name.length ≤ BB := by
  unfold Ok at *
  have := ApiType.bulk_eq t
  omega
theorem Ok.nodes {t : ApiType} (h : Ok t) : t.nodes ≤ BB := Nat.le_trans (ApiType.nodes_bulk t) h

/-! ### the program's CheckType -/
theorem bor (a b : Bool) : (bif a then true else b) = (a || b) := by cases a <;> rfl
theorem rep_deep (d : Int) (o : SyntaxReport) : syntax_report_deep d o = some ⟨o.nodes, max o.depth d, o.badForm, o.badName, o.badNumber⟩ := rfl
theorem rep_form (b : Bool) (o : SyntaxReport) : syntax_report_form b o = some ⟨o.nodes, o.depth, o.badForm || !b, o.badName, o.badNumber⟩ := by unfold syntax_report_form; rw [bor]
theorem rep_number (b : Bool) (o : SyntaxReport) : syntax_report_number b o = some ⟨o.nodes, o.depth, o.badForm, o.badName, o.badNumber || !b⟩ := by unfold syntax_report_number; rw [bor]
theorem rep_inside (a b c : Int) : syntax_inside a b c = some (inside a b c) := rfl
theorem rep_name (s : Str) (hs : s.length ≤ BB) (o : SyntaxReport) : syntax_report_name s o = some ⟨o.nodes, o.depth, o.badForm, o.badName || !isName s, o.badNumber⟩ := by
  unfold syntax_report_name
  rw [IsName_eq s hs]
  cases h : o.badName <;> simp
theorem rep_code (o : SyntaxReport) : syntax_report_code o = some (repCode o.nodes o.depth o.badForm o.badName o.badNumber) := by
  unfold syntax_report_code repCode
  cases (bif decide (o.nodes > 1024) then true else decide (o.depth > 12)) <;> cases o.badForm <;> cases o.badName <;> cases o.badNumber <;> rfl

def repT (o : SyntaxReport) (d : Int) (n m : Nat) (f a u : Bool) : SyntaxReport := ⟨o.nodes + n, max o.depth (d + m), o.badForm || !f, o.badName || !a, o.badNumber || !u⟩

theorem typ_l5 (t : ApiType) (d : Int) (hd : 0 ≤ d) (ht : Ok t)
    (ih : ∀ x ∈ t.Of, ∀ (d : Int) (o : SyntaxReport), 0 ≤ d → d + x.nodes ≤ 4 * BB → 0 ≤ o.nodes → o.nodes + x.nodes ≤ 4 * BB → syntax_report_typ x d o = some (repT o d x.nodes (x.depth - 1) (x.all formN) (x.all nameN) (x.all numN))) :
    ∀ (r : List ApiType) (k : Nat) (o : SyntaxReport), t.Of.drop k = r → (∀ x ∈ r, x ∈ t.Of) → d + 1 + ApiType.nodess r ≤ 4 * BB → 0 ≤ o.nodes → o.nodes + ApiType.nodess r ≤ 4 * BB → d ≤ o.depth →
      syntax_report_typ_l5 t d o k = some (repT o d (ApiType.nodess r) (ApiType.depths r) (ApiType.alls formN r) (ApiType.alls nameN r) (ApiType.alls numN r))
  | [], k, o, h, _, _, _, _, h5 => by
    rw [syntax_report_typ_l5, (lp_out h).1]
    simp only [repT, ApiType.nodess, ApiType.depths, ApiType.alls, Bool.not_true, Bool.or_false]
    rw [if_neg (by simp), show o.nodes + ((0 : Nat) : Int) = o.nodes by omega, show max o.depth (d + ((0 : Nat) : Int)) = o.depth by omega]
  | x :: r, k, o, h, hm, hb, h3, h4, h5 => by
    obtain ⟨e1, e2, e3, e4, e5⟩ := lp_in h
    simp only [ApiType.nodess] at hb h4
    have hdp : 1 ≤ x.depth := by rw [ApiType.depth_eq]; omega
    have hof := ht.ofs
    unfold BB at hb h4 hof
    rw [syntax_report_typ_l5, e1, if_pos rfl, e2, ob, wr (n := d + 1) (by omega) (by omega), ih x e5 (d + 1) o (by omega) (by unfold BB; omega) h3 (by unfold BB; omega), ob, w1 (by unfold BB; omega),
      typ_l5 t d hd ht ih r (k + 1) _ e3 (fun y hy => hm y (List.mem_cons_of_mem _ hy)) (by unfold BB; omega) (by simp only [repT]; omega) (by simp only [repT]; unfold BB; omega) (by simp only [repT]; omega)]
    simp only [repT, ApiType.nodess, ApiType.depths, ApiType.alls, or_not]
    rw [show o.nodes + (x.nodes : Int) + (ApiType.nodess r : Nat) = o.nodes + ((x.nodes + ApiType.nodess r : Nat) : Int) by omega,
      show max (max o.depth (d + 1 + ((x.depth - 1 : Nat) : Int))) (d + (ApiType.depths r : Nat)) = max o.depth (d + ((max x.depth (ApiType.depths r) : Nat) : Int)) by omega]

theorem typ_l4 (t : ApiType) (d : Int) (ht : Ok t) (R : SyntaxReport → Option SyntaxReport) (hR : ∀ o, syntax_report_typ_l5 t d o 0 = R o) :
    ∀ (r : List Str) (k : Nat) (o : SyntaxReport), t.Names.drop k = r → syntax_report_typ_l4 t d o k = R ⟨o.nodes, o.depth, o.badForm, o.badName || !r.all isName, o.badNumber⟩
  | [], k, o, h => by
    rw [syntax_report_typ_l4, (lp_out h).1, if_neg (by simp), hR]
    simp
  | x :: r, k, o, h => by
    obtain ⟨e1, e2, e3, e4, e5⟩ := lp_in h
    have := ht.names
    rw [syntax_report_typ_l4, e1, if_pos rfl, e2, ob, rep_name x (ht.name1 e5), ob, w1 (by omega), typ_l4 t d ht R hR r (k + 1) _ e3]
    simp only [List.all_cons, or_not]

theorem typ_j2 (t : ApiType) (d : Int) (ht : Ok t) (o : SyntaxReport) : syntax_report_typ_j2 t d o = syntax_report_typ_l4 t d ⟨o.nodes, o.depth, o.badForm, o.badName || !na1 t, o.badNumber⟩ 0 := by
  rw [syntax_report_typ_j2, rep_name _ ht.name, ob, syntax_report_typ_j3, syntax_report_typ_j3]
  unfold na1
  cases h : t.Kind == 4 <;> simp
theorem typ_j1 (t : ApiType) (d : Int) (o : SyntaxReport) : syntax_report_typ_j1 t d o = syntax_report_typ_j2 t d ⟨o.nodes, o.depth, o.badForm, o.badName, o.badNumber || !nm2 t⟩ := by
  rw [syntax_report_typ_j1]
  unfold nm2
  simp only [rep_inside, rep_number, ob]
  cases h : t.Kind == 1 <;> cases inside t.Low (-1048576) 1048576 <;> simp [ob]

theorem typ_eq (t : ApiType) : Ok t → ∀ (d : Int) (o : SyntaxReport), 0 ≤ d → d + t.nodes ≤ 4 * BB → 0 ≤ o.nodes → o.nodes + t.nodes ≤ 4 * BB →
    syntax_report_typ t d o = some (repT o d t.nodes (t.depth - 1) (t.all formN) (t.all nameN) (t.all numN)) := by
  induction t using ApiType.ind with
  | h t ih =>
  intro ht d o hd hb h3 h4
  have h5 := fun o h3 h4 hd' => typ_l5 t d hd ht (fun x hx => ih x hx (ht.kid hx)) t.Of 0 o rfl (fun _ h => h) (by rw [ApiType.nodes_eq] at hb; omega) h3 h4 hd'
  have l4 := typ_l4 t d ht _ (fun o => rfl) t.Names 0
  rw [ApiType.nodes_eq] at hb h4
  unfold BB at hb h4
  rw [syntax_report_typ]
  simp only [rep_deep, rep_form, rep_inside, rep_number, ob, typ_j1, typ_j2 t d ht]
  rw [wr (n := o.nodes + 1) (by omega) (by omega)]
  have fin : ∀ b6 u1, fm6 t = b6 → nm1 t = u1 →
      syntax_report_typ_l4 t d ⟨o.nodes + 1, max o.depth d, (((((o.badForm || !fm1 t) || !fm2 t) || !fm3 t) || !fm4 t) || !fm5 t) || !b6, o.badName || !na1 t, (o.badNumber || !u1) || !nm2 t⟩ 0
        = some (repT o d t.nodes (t.depth - 1) (t.all formN) (t.all nameN) (t.all numN)) := by
    rintro _ _ rfl rfl
    have := l4 ⟨o.nodes + 1, max o.depth d, (((((o.badForm || !fm1 t) || !fm2 t) || !fm3 t) || !fm4 t) || !fm5 t) || !fm6 t, o.badName || !na1 t, (o.badNumber || !nm1 t) || !nm2 t⟩ rfl
    rw [show ((0 : Nat) : Int) = 0 from rfl] at this h5
    rw [this, h5 _ (by simp only; omega) (by simp only; unfold BB; omega) (by simp only; omega)]
    simp only [repT, ApiType.all_eq, ApiType.nodes_eq, ApiType.depth_eq, formN, nameN, numN, or_not, Bool.or_assoc, ← Bool.not_and]
    simp only [or_not, Bool.and_assoc]
    rw [show o.nodes + 1 + (ApiType.nodess t.Of : Int) = o.nodes + ((ApiType.nodess t.Of + 1 : Nat) : Int) by omega, show max (max o.depth d) (d + (ApiType.depths t.Of : Int)) = max o.depth (d + ((ApiType.depths t.Of + 1 - 1 : Nat) : Int)) by omega]
  have h2 : (t.Kind == 2) = true ∨ (t.Kind == 2) = false := by cases t.Kind == 2 <;> simp
  have h3 : (t.Kind == 3) = true ∨ (t.Kind == 3) = false := by cases t.Kind == 3 <;> simp
  rcases h2 with h2 | h2
  · rw [if_pos h2]
    exact fin ((t.Of.length : Int) == 1) (inside t.Size 1 32) (by unfold fm6; rw [h2, cond_true]) (by unfold nm1; rw [h2, cond_true])
  · rw [if_neg (by rw [h2]; simp)]
    rcases h3 with h3 | h3
    · rw [if_pos h3]
      exact fin (bif decide ((t.Of.length : Int) ≥ 1) then (t.Of.length : Int) == (t.Names.length : Int) else false) (decide ((t.Of.length : Int) ≤ 32)) (by unfold fm6; rw [h2, h3, cond_false, cond_true]) (by unfold nm1; rw [h2, h3, cond_false, cond_true])
    · rw [if_neg (by rw [h3]; simp)]
      have := fin ((t.Of.length : Int) == 0) true (by unfold fm6; rw [h2, h3, cond_false, cond_false]) (by unfold nm1; rw [h2, h3, cond_false, cond_false])
      rw [Bool.not_true, Bool.or_false] at this
      exact this

end Go.Proofs.YtmilgoloagbmpaaGreatDoor

set_option linter.unusedSimpArgs false
namespace Go.Proofs.YtmilgoloagbmpaaGreatDoor
open Go.Am

/-! ### the reference's CheckType -/
theorem rNodes_l (t : ApiType) (ht : Ok t) (ih : ∀ x ∈ t.Of, ref10_typeNodes x = some (x.nodes : Int)) :
    ∀ (r : List ApiType) (k : Nat) (n : Nat), t.Of.drop k = r → n + ApiType.nodess r ≤ BB → ref10_typeNodes_l1 t (n : Int) k = some ((n + ApiType.nodess r : Nat) : Int)
  | [], k, n, h, hb => by rw [ref10_typeNodes_l1, (lp_out h).1, if_neg (by simp)]; simp [ApiType.nodess]
  | x :: r, k, n, h, hb => by
    obtain ⟨e1, e2, e3, e4, e5⟩ := lp_in h
    have := ht.ofs
    simp only [ApiType.nodess] at hb
    have hb' := hb
    unfold BB at hb'
    rw [ref10_typeNodes_l1, e1, if_pos rfl, e2, ob, ih x e5, ob, wr (n := (n : Int) + _) (by omega) (by omega), w1 (by omega), show (n : Int) + (x.nodes : Int) = ((n + x.nodes : Nat) : Int) by omega, rNodes_l t ht ih r (k + 1) _ e3 (by omega)]
    simp only [ApiType.nodess, Nat.add_assoc]
theorem rNodes_eq (t : ApiType) : Ok t → ref10_typeNodes t = some (t.nodes : Int) := by
  induction t using ApiType.ind with
  | h t ih =>
  intro ht
  have hn := ht.nodes
  rw [ApiType.nodes_eq] at hn
  rw [ref10_typeNodes]
  have := rNodes_l t ht (fun x hx => ih x hx (ht.kid hx)) t.Of 0 1 rfl (by omega)
  rw [ApiType.nodes_eq, Nat.add_comm]
  exact this
theorem rDepth_l (t : ApiType) (ht : Ok t) (ih : ∀ x ∈ t.Of, ref10_typeDepth x = some (x.depth : Int)) (B : Nat) (hB : B ≤ BB) :
    ∀ (r : List ApiType) (k : Nat) (n : Nat), t.Of.drop k = r → n ≤ B → ApiType.depths r ≤ B → ref10_typeDepth_l1 t (n : Int) k = some ((max n (ApiType.depths r) + 1 : Nat) : Int)
  | [], k, n, h, hb, _ => by
    rw [ref10_typeDepth_l1, (lp_out h).1, if_neg (by simp), w1 (by omega)]
    simp [ApiType.depths]
  | x :: r, k, n, h, hb, hd => by
    obtain ⟨e1, e2, e3, e4, e5⟩ := lp_in h
    have := ht.ofs
    simp only [ApiType.depths] at hd
    rw [ref10_typeDepth_l1, e1, if_pos rfl, e2, ob, ih x e5, ob, w1 (by omega), rDepth_l t ht ih B hB r (k + 1) _ e3 (by omega) (by omega), rDepth_l t ht ih B hB r (k + 1) _ e3 (by omega) (by omega)]
    simp only [ApiType.depths]
    by_cases hx : (x.depth : Int) > (n : Int)
    · rw [if_pos (decide_eq_true hx), show max n (max x.depth (ApiType.depths r)) = max x.depth (ApiType.depths r) by omega]
    · rw [if_neg (by simpa using hx), show max n (max x.depth (ApiType.depths r)) = max n (ApiType.depths r) by omega]
theorem rDepth_eq (t : ApiType) : Ok t → ref10_typeDepth t = some (t.depth : Int) := by
  induction t using ApiType.ind with
  | h t ih =>
  intro ht
  have hn := ht.nodes
  have hd := ApiType.depth_nodes t
  rw [ref10_typeDepth]
  rw [ApiType.depth_eq] at hd
  have := rDepth_l t ht (fun x hx => ih x hx (ht.kid hx)) BB (Nat.le_refl _) t.Of 0 0 rfl (by omega) (by omega)
  rw [ApiType.depth_eq]
  rw [show max 0 (ApiType.depths t.Of) = ApiType.depths t.Of by omega] at this
  exact this
theorem rForm_l (t : ApiType) (ht : Ok t) (ih : ∀ x ∈ t.Of, ref10_typeForm x = some (x.all formN)) : ∀ (r : List ApiType) (k : Nat), t.Of.drop k = r → ref10_typeForm_l1 t k = some (ApiType.alls formN r)
  | [], k, h => by rw [ref10_typeForm_l1, (lp_out h).1, if_neg (by simp)]; rfl
  | x :: r, k, h => by
    obtain ⟨e1, e2, e3, e4, e5⟩ := lp_in h
    have := ht.ofs
    rw [ref10_typeForm_l1, e1, if_pos rfl, e2, ob, ih x e5, ob, w1 (by omega), rForm_l t ht ih r (k + 1) e3, ApiType.alls]
    cases x.all formN <;> simp
theorem rForm_eq (t : ApiType) : Ok t → ref10_typeForm t = some (t.all formN) := by
  induction t using ApiType.ind with
  | h t ih =>
  intro ht
  have h1 := rForm_l t ht (fun x hx => ih x hx (ht.kid hx)) t.Of 0 rfl
  rw [show ((0 : Nat) : Int) = 0 from rfl] at h1
  rw [ref10_typeForm, h1, ApiType.all_eq, formN_eq]
  show (if bad0 t = true then some false else if bad1 t = true then some false else if bad2 t = true then some false else some (ApiType.alls formN t.Of)) = _
  cases bad0 t <;> cases bad1 t <;> cases bad2 t <;> simp

theorem rNames_l2 (t : ApiType) (ht : Ok t) (ih : ∀ x ∈ t.Of, ref10_typeNames x = some (x.all nameN)) : ∀ (r : List ApiType) (k : Nat), t.Of.drop k = r → ref10_typeNames_l2 t k = some (ApiType.alls nameN r)
  | [], k, h => by rw [ref10_typeNames_l2, (lp_out h).1, if_neg (by simp)]; rfl
  | x :: r, k, h => by
    obtain ⟨e1, e2, e3, e4, e5⟩ := lp_in h
    have := ht.ofs
    rw [ref10_typeNames_l2, e1, if_pos rfl, e2, ob, ih x e5, ob, w1 (by omega), rNames_l2 t ht ih r (k + 1) e3, ApiType.alls]
    cases x.all nameN <;> simp
theorem rNames_l1 (t : ApiType) (ht : Ok t) (b : Bool) (hb : ref10_typeNames_l2 t 0 = some b) : ∀ (r : List Str) (k : Nat), t.Names.drop k = r → ref10_typeNames_l1 t k = some (r.all isName && b)
  | [], k, h => by rw [ref10_typeNames_l1, (lp_out h).1, if_neg (by simp), hb]; rfl
  | x :: r, k, h => by
    obtain ⟨e1, e2, e3, e4, e5⟩ := lp_in h
    have := ht.names
    rw [ref10_typeNames_l1, e1, if_pos rfl, e2, ob, refIsName_eq x (ht.name1 e5), ob, w1 (by omega), rNames_l1 t ht b hb r (k + 1) e3, List.all_cons]
    cases isName x <;> simp
theorem rNames_eq (t : ApiType) : Ok t → ref10_typeNames t = some (t.all nameN) := by
  induction t using ApiType.ind with
  | h t ih =>
  intro ht
  have h2 := rNames_l2 t ht (fun x hx => ih x hx (ht.kid hx)) t.Of 0 rfl
  have h1 := rNames_l1 t ht _ h2 t.Names 0 rfl
  rw [show ((0 : Nat) : Int) = 0 from rfl] at h1
  rw [ref10_typeNames, h1, ApiType.all_eq, refIsName_eq t.Name ht.name]
  unfold nameN na1
  cases t.Kind == 4 <;> cases isName t.Name <;> simp

theorem rNumbers_l (t : ApiType) (ht : Ok t) (ih : ∀ x ∈ t.Of, ref10_typeNumbers x = some (x.all fun t => !nbad t)) : ∀ (r : List ApiType) (k : Nat), t.Of.drop k = r → ref10_typeNumbers_l1 t k = some (ApiType.alls (fun t => !nbad t) r)
  | [], k, h => by rw [ref10_typeNumbers_l1, (lp_out h).1, if_neg (by simp)]; rfl
  | x :: r, k, h => by
    obtain ⟨e1, e2, e3, e4, e5⟩ := lp_in h
    have := ht.ofs
    rw [ref10_typeNumbers_l1, e1, if_pos rfl, e2, ob, ih x e5, ob, w1 (by omega), rNumbers_l t ht ih r (k + 1) e3, ApiType.alls]
    cases x.all (fun t => !nbad t) <;> simp
theorem within_eq (n : Int) : ref10_within n = some (within n) := rfl
theorem rNumbers_eq (t : ApiType) : Ok t → ref10_typeNumbers t = some (t.all fun t => !nbad t) := by
  induction t using ApiType.ind with
  | h t ih =>
  intro ht
  have h1 := rNumbers_l t ht (fun x hx => ih x hx (ht.kid hx)) t.Of 0 rfl
  rw [show ((0 : Nat) : Int) = 0 from rfl] at h1
  rw [ref10_typeNumbers, h1, ApiType.all_eq]
  simp only [within_eq]
  generalize ApiType.alls (fun t => !nbad t) t.Of = A
  unfold nbad
  generalize decide ((t.Of.length : Int) > 32) = b1
  generalize (bif t.Kind == 2 then (bif decide (t.Size < 1) then true else decide (t.Size > 32)) else false) = b2
  generalize decide (t.Low > t.High) = b3
  cases t.Kind == 1 <;> cases within t.Low <;> cases within t.High <;> cases b1 <;> cases b2 <;> cases b3 <;> rfl
theorem rVerdict_eq (s : Keyholeref10Size) (f m u : Bool) : ref10_verdict s f m u = some (repCode s.nodes s.depth (!f) (!m) (!u)) := by
  unfold ref10_verdict repCode
  cases (bif decide (s.nodes > 1024) then true else decide (s.depth > 12)) <;> cases f <;> cases m <;> cases u <;> rfl
end Go.Proofs.YtmilgoloagbmpaaGreatDoor

set_option linter.unusedSimpArgs false
set_option linter.unusedVariables false
namespace Go.Proofs.YtmilgoloagbmpaaGreatDoor
open Go.Am

theorem ApiExpr.ind {P : ApiExpr → Prop} (h : ∀ t : ApiExpr, (∀ x ∈ t.Kids, P x) → P t) : ∀ t, P t := by
  intro t
  refine ApiExpr.rec (motive_1 := P) (motive_2 := fun l => ∀ x ∈ l, P x) ?_ ?_ ?_ t
  · intro k l n of ih
    exact h _ ih
  · intro x hx; cases hx
  · intro x r hx hr y hy
    cases hy with
    | head => exact hx
    | tail _ hy => exact hr y hy

mutual
def ApiExpr.depth : ApiExpr → Nat
  | .mk _ _ _ of => ApiExpr.depths of + 1
def ApiExpr.depths : List ApiExpr → Nat
  | [] => 0
  | t :: r => max (ApiExpr.depth t) (ApiExpr.depths r)
end
theorem ApiExpr.depth_eq (t : ApiExpr) : t.depth = ApiExpr.depths t.Kids + 1 := by cases t; simp [ApiExpr.depth, ApiExpr.Kids]
mutual
/-- every node meets p -/
def ApiExpr.all (p : ApiExpr → Bool) : ApiExpr → Bool
  | .mk k l n of => p (.mk k l n of) && ApiExpr.alls p of
def ApiExpr.alls (p : ApiExpr → Bool) : List ApiExpr → Bool
  | [] => true
  | t :: r => ApiExpr.all p t && ApiExpr.alls p r
end
theorem ApiExpr.all_eq (p : ApiExpr → Bool) (t : ApiExpr) : t.all p = (p t && ApiExpr.alls p t.Kids) := by cases t; rfl
mutual
def ApiExpr.nodes : ApiExpr → Nat
  | .mk _ _ _ of => ApiExpr.nodess of + 1
def ApiExpr.nodess : List ApiExpr → Nat
  | [] => 0
  | t :: r => ApiExpr.nodes t + ApiExpr.nodess r
end
theorem ApiExpr.nodes_eq (t : ApiExpr) : t.nodes = ApiExpr.nodess t.Kids + 1 := by cases t; rfl
mutual
theorem ApiExpr.depth_nodes : ∀ t : ApiExpr, t.depth ≤ t.nodes
  | .mk _ _ _ of => by simp only [ApiExpr.depth, ApiExpr.nodes]; have := ApiExpr.depths_nodess of; omega
theorem ApiExpr.depths_nodess : ∀ l : List ApiExpr, ApiExpr.depths l ≤ ApiExpr.nodess l
  | [] => Nat.le_refl _
  | t :: r => by simp only [ApiExpr.depths, ApiExpr.nodess]; have := ApiExpr.depth_nodes t; have := ApiExpr.depths_nodess r; omega
end

mutual
def ApiExpr.bulk : ApiExpr → Nat
  | .mk _ _ n ks => 1 + (1 + ((n.length + 1) + ((ApiExpr.bulks ks + 1) + 0))) + 1
def ApiExpr.bulks : List ApiExpr → Nat
  | [] => 0
  | x :: r => ApiExpr.bulk x + ApiExpr.bulks r
end
theorem ApiExpr.bulk_eq (t : ApiExpr) : t.bulk = t.Name.length + ApiExpr.bulks t.Kids + 5 := by cases t; simp only [ApiExpr.bulk]; omega
theorem ApiExpr.bulk_kid {t : ApiExpr} : ∀ {l : List ApiExpr}, t ∈ l → t.bulk ≤ ApiExpr.bulks l
  | x :: r, h => by
    simp only [ApiExpr.bulks]
    cases h with
    | head => omega
    | tail _ h => have := ApiExpr.bulk_kid h; omega
theorem ApiExpr.bulk_len : ∀ l : List ApiExpr, l.length ≤ ApiExpr.bulks l
  | [] => Nat.le_refl _
  | x :: r => by
    simp only [ApiExpr.bulks, List.length_cons]
    have := ApiExpr.bulk_len r
    have := ApiExpr.bulk_eq x
    omega
mutual
theorem ApiExpr.nodes_bulk : ∀ t : ApiExpr, t.nodes ≤ t.bulk
  | .mk _ _ _ of => by simp only [ApiExpr.nodes, ApiExpr.bulk]; have := ApiExpr.nodess_bulk of; omega
theorem ApiExpr.nodess_bulk : ∀ l : List ApiExpr, ApiExpr.nodess l ≤ ApiExpr.bulks l
  | [] => Nat.le_refl _
  | x :: r => by simp only [ApiExpr.nodess, ApiExpr.bulks]; have := ApiExpr.nodes_bulk x; have := ApiExpr.nodess_bulk r; omega
end
/-- an expression of bounded size -/
def OkE (t : ApiExpr) : Prop := t.bulk ≤ BB
theorem OkE.kid {t x : ApiExpr} (h : OkE t) (hx : x ∈ t.Kids) : OkE x := by
  unfold OkE at *
  have := ApiExpr.bulk_kid hx
  have := ApiExpr.bulk_eq t
  omega
theorem OkE.kids {t : ApiExpr} (h : OkE t) : t.Kids.length ≤ BB := by
  unfold OkE at *
  have := ApiExpr.bulk_len t.Kids
  have := ApiExpr.bulk_eq t
  omega
theorem OkE.name {t : ApiExpr} (h : OkE t) : t.Name.length ≤ BB := by
  unfold OkE at *
  have := ApiExpr.bulk_eq t
  omega
theorem OkE.nodes {t : ApiExpr} (h : OkE t) : t.nodes ≤ BB := Nat.le_trans (ApiExpr.nodes_bulk t) h
theorem ApiExpr.alls_mem {p : ApiExpr → Bool} : ∀ {l : List ApiExpr} {t : ApiExpr}, ApiExpr.alls p l = true → t ∈ l → t.all p = true
  | x :: r, t, h, hm => by
    simp only [ApiExpr.alls, Bool.and_eq_true] at h
    cases hm with
    | head => exact h.1
    | tail _ hm => exact ApiExpr.alls_mem h.2 hm

/-! ### what one node is asked -/
def ar (o : Int) : Int :=
  bif (bif (bif (bif (o == 0) then true else (o == 1)) then true else (o == 2)) then true else (o == 3)) then 0
  else bif (bif (bif (o == 4) then true else (o == 6)) then true else (o == 7)) then 1
  else bif (bif (o == 5) then true else (bif (decide (o ≥ 8)) then (decide (o ≤ 22)) else false)) then 2
  else bif (o == 23) then 3 else -1
theorem kids_eq (o : Int) : ref10_kids o = some (ar o) := by
  unfold ref10_kids ar
  cases (bif (bif (bif (o == 0) then true else (o == 1)) then true else (o == 2)) then true else (o == 3)) <;> cases (bif (bif (o == 4) then true else (o == 6)) then true else (o == 7)) <;>
    cases (bif (o == 5) then true else (bif (decide (o ≥ 8)) then (decide (o ≤ 22)) else false)) <;> cases o == 23 <;> rfl
theorem arity_eq (o : Int) : syntax_arity o = some (ar o) := by
  by_cases h : o = 23
  · subst h; rfl
  have h' : (o == 23) = false := beq_eq_false_iff_ne.2 h
  simp only [syntax_arity, syntax_arity_j1, syntax_arity_j2, ar, h']
  cases o == 0 <;> cases o == 1 <;> cases o == 2 <;> cases o == 3 <;> first | rfl | skip
  cases o == 4 <;> cases o == 6 <;> cases o == 7 <;> first | rfl | skip
  cases o == 5 <;> cases (bif decide (o ≥ 8) then decide (o ≤ 22) else false) <;> rfl

mutual
def ApiExpr.place : ApiExpr → Bool
  | .mk op _ _ ks => bif op == 3 then true else bif (bif op == 4 then true else op == 5) then ApiExpr.place1 ks else false
def ApiExpr.place1 : List ApiExpr → Bool
  | [] => false
  | x :: _ => ApiExpr.place x
end
theorem ApiExpr.place_eq (e : ApiExpr) : e.place = (bif e.Op == 3 then true else bif (bif e.Op == 4 then true else e.Op == 5) then ApiExpr.place1 e.Kids else false) := by cases e; simp only [ApiExpr.place]
theorem b3 {o : Int} (h : (bif o == 4 then true else o == 5) = true) : (o == 3) = false := by
  apply beq_eq_false_iff_ne.2
  rintro rfl
  cases h
theorem splace_eq (e : ApiExpr) : syntax_place e = some e.place := by
  unfold syntax_place
  induction e using ApiExpr.ind with
  | h e ih =>
  rw [syntax_place_l1, ApiExpr.place_eq]
  cases hb : (bif e.Op == 4 then true else e.Op == 5) with
  | false => cases e.Op == 3 <;> simp
  | true =>
    rw [b3 hb]
    cases hk : e.Kids with
    | nil => rfl
    | cons k r =>
      have := ih k (by rw [hk]; simp)
      have h0 : idx (k :: r) 0 = some k := rfl
      have h1 : (((k :: r).length : Int) == 0) = false := beq_eq_false_iff_ne.2 (by simp only [List.length_cons]; omega)
      simp only [h1, h0, ob, this, cond_true, cond_false, ApiExpr.place1]
      simp
theorem rplace_eq (e : ApiExpr) : ref10_isPlace e = some e.place := by
  induction e using ApiExpr.ind with
  | h e ih =>
  rw [ref10_isPlace, ApiExpr.place_eq]
  cases h3 : e.Op == 3 with
  | true => simp
  | false =>
    cases hb : (bif e.Op == 4 then true else e.Op == 5) with
    | false => simp [ob]
    | true =>
      cases hk : e.Kids with
      | nil => simp [ob, ApiExpr.place1]
      | cons k r =>
        have := ih k (by rw [hk]; simp)
        have h0 : idx (k :: r) 0 = some k := rfl
        have h1 : decide (((k :: r).length : Int) > 0) = true := decide_eq_true (by simp only [List.length_cons]; omega)
        simp only [h1, h0, ob, cond_true, cond_false, ApiExpr.place1]
        simp [ob, this]

def ef1 (e : ApiExpr) : Bool := ar e.Op == (e.Kids.length : Int)
def ef2 (e : ApiExpr) : Bool := bif e.NV == 0 then true else e.Op == 0
def ef3 (e : ApiExpr) : Bool := bif e.Name == [] then true else bif e.Op == 3 then true else e.Op == 4
def ef4 (e : ApiExpr) : Bool := bif (bif e.Op == 4 then true else e.Op == 5) then e.place else true
def eform (e : ApiExpr) : Bool := ef1 e && ef2 e && ef3 e && ef4 e
def ename (e : ApiExpr) : Bool := bif (bif e.Op == 3 then true else e.Op == 4) then isName e.Name else true
def enumb (e : ApiExpr) : Bool := bif e.Op == 0 then inside e.NV 0 1048576 else true
/-! ### the program's -/
theorem rexpr_l (e : ApiExpr) (d : Int) (hd : 0 ≤ d) (ht : OkE e)
    (ih : ∀ x ∈ e.Kids, ∀ (d : Int) (o : SyntaxReport), 0 ≤ d → d + x.nodes ≤ 4 * BB → 0 ≤ o.nodes → o.nodes + x.nodes ≤ 4 * BB → syntax_report_expr x d o = some (repT o d x.nodes (x.depth - 1) (x.all eform) (x.all ename) (x.all enumb))) :
    ∀ (r : List ApiExpr) (k : Nat) (o : SyntaxReport), e.Kids.drop k = r → d + 1 + ApiExpr.nodess r ≤ 4 * BB → 0 ≤ o.nodes → o.nodes + ApiExpr.nodess r ≤ 4 * BB → d ≤ o.depth →
      syntax_report_expr_l4 e d o k = some (repT o d (ApiExpr.nodess r) (ApiExpr.depths r) (ApiExpr.alls eform r) (ApiExpr.alls ename r) (ApiExpr.alls enumb r))
  | [], k, o, h, _, _, _, h5 => by
    rw [syntax_report_expr_l4, (lp_out h).1]
    simp only [repT, ApiExpr.nodess, ApiExpr.depths, ApiExpr.alls, Bool.not_true, Bool.or_false]
    rw [if_neg (by simp), show o.nodes + ((0 : Nat) : Int) = o.nodes by omega, show max o.depth (d + ((0 : Nat) : Int)) = o.depth by omega]
  | x :: r, k, o, h, hb, h3, h4, h5 => by
    obtain ⟨e1, e2, e3, e4, e5⟩ := lp_in h
    simp only [ApiExpr.nodess] at hb h4
    have hdp : 1 ≤ x.depth := by rw [ApiExpr.depth_eq]; omega
    have hof := ht.kids
    unfold BB at hb h4 hof
    rw [syntax_report_expr_l4, e1, if_pos rfl, e2, ob, wr (n := d + 1) (by omega) (by omega), ih x e5 (d + 1) o (by omega) (by unfold BB; omega) h3 (by unfold BB; omega), ob, w1 (by unfold BB; omega),
      rexpr_l e d hd ht ih r (k + 1) _ e3 (by unfold BB; omega) (by simp only [repT]; omega) (by simp only [repT]; unfold BB; omega) (by simp only [repT]; omega)]
    simp only [repT, ApiExpr.nodess, ApiExpr.depths, ApiExpr.alls, or_not]
    rw [show o.nodes + (x.nodes : Int) + (ApiExpr.nodess r : Nat) = o.nodes + ((x.nodes + ApiExpr.nodess r : Nat) : Int) by omega,
      show max (max o.depth (d + 1 + ((x.depth - 1 : Nat) : Int))) (d + (ApiExpr.depths r : Nat)) = max o.depth (d + ((max x.depth (ApiExpr.depths r) : Nat) : Int)) by omega]
theorem rexpr_j1 (e : ApiExpr) (ht : OkE e) (d : Int) (o : SyntaxReport) : syntax_report_expr_j1 e d o = syntax_report_expr_l4 e d ⟨o.nodes, o.depth, o.badForm, o.badName || !ename e, o.badNumber || !enumb e⟩ 0 := by
  rw [syntax_report_expr_j1, rep_name _ ht.name, ob]
  simp only [syntax_report_expr_j2, syntax_report_expr_j3, rep_inside, rep_number, ob]
  unfold ename enumb
  cases (bif e.Op == 3 then true else e.Op == 4) <;> cases e.Op == 0 <;> simp

theorem rexpr_eq (e : ApiExpr) : OkE e → ∀ (d : Int) (o : SyntaxReport), 0 ≤ d → d + e.nodes ≤ 4 * BB → 0 ≤ o.nodes → o.nodes + e.nodes ≤ 4 * BB →
    syntax_report_expr e d o = some (repT o d e.nodes (e.depth - 1) (e.all eform) (e.all ename) (e.all enumb)) := by
  induction e using ApiExpr.ind with
  | h e ih =>
  intro ht d o hd hb h3 h4
  have h5 := fun o h3 h4 hd' => rexpr_l e d hd ht (fun x hx => ih x hx (ht.kid hx)) e.Kids 0 o rfl (by rw [ApiExpr.nodes_eq] at hb; omega) h3 h4 hd'
  rw [ApiExpr.nodes_eq] at hb h4
  unfold BB at hb h4
  rw [syntax_report_expr]
  simp only [rep_deep, rep_form, arity_eq, splace_eq, ob, rexpr_j1 e ht]
  rw [wr (n := o.nodes + 1) (by omega) (by omega)]
  rw [show ((0 : Nat) : Int) = 0 from rfl] at h5
  have fin : ∀ f : Bool, ef4 e = f → syntax_report_expr_l4 e d ⟨o.nodes + 1, max o.depth d, (((o.badForm || !ef1 e) || !ef2 e) || !ef3 e) || !f, o.badName || !ename e, o.badNumber || !enumb e⟩ 0 = some (repT o d e.nodes (e.depth - 1) (e.all eform) (e.all ename) (e.all enumb)) := by
    rintro _ rfl
    rw [h5 _ (by simp only; omega) (by simp only; unfold BB; omega) (by simp only; omega)]
    simp only [repT, ApiExpr.all_eq, ApiExpr.nodes_eq, ApiExpr.depth_eq, eform, or_not, Bool.or_assoc, ← Bool.not_and]
    simp only [or_not, Bool.and_assoc]
    rw [show o.nodes + 1 + (ApiExpr.nodess e.Kids : Int) = o.nodes + ((ApiExpr.nodess e.Kids + 1 : Nat) : Int) by omega, show max (max o.depth d) (d + (ApiExpr.depths e.Kids : Int)) = max o.depth (d + ((ApiExpr.depths e.Kids + 1 - 1 : Nat) : Int)) by omega]
  cases hb : (bif e.Op == 4 then true else e.Op == 5) with
  | true =>
    rw [if_pos rfl]
    exact fin e.place (by unfold ef4; rw [hb]; rfl)
  | false =>
    rw [if_neg (by simp)]
    have := fin true (by unfold ef4; rw [hb]; rfl)
    rw [Bool.not_true, Bool.or_false] at this
    exact this
end Go.Proofs.YtmilgoloagbmpaaGreatDoor

set_option linter.unusedSimpArgs false
set_option linter.unusedVariables false
namespace Go.Proofs.YtmilgoloagbmpaaGreatDoor
open Go.Am

theorem reNodes_l (t : ApiExpr) (ht : OkE t) (ih : ∀ x ∈ t.Kids, ref10_exprNodes x = some (x.nodes : Int)) :
    ∀ (r : List ApiExpr) (k : Nat) (n : Nat), t.Kids.drop k = r → n + ApiExpr.nodess r ≤ BB → ref10_exprNodes_l1 t (n : Int) k = some ((n + ApiExpr.nodess r : Nat) : Int)
  | [], k, n, h, hb => by rw [ref10_exprNodes_l1, (lp_out h).1, if_neg (by simp)]; simp [ApiExpr.nodess]
  | x :: r, k, n, h, hb => by
    obtain ⟨e1, e2, e3, e4, e5⟩ := lp_in h
    have := ht.kids
    simp only [ApiExpr.nodess] at hb
    have hb' := hb
    unfold BB at hb'
    rw [ref10_exprNodes_l1, e1, if_pos rfl, e2, ob, ih x e5, ob, wr (n := (n : Int) + _) (by omega) (by omega), w1 (by omega), show (n : Int) + (x.nodes : Int) = ((n + x.nodes : Nat) : Int) by omega, reNodes_l t ht ih r (k + 1) _ e3 (by omega)]
    simp only [ApiExpr.nodess, Nat.add_assoc]
theorem reNodes_eq (t : ApiExpr) : OkE t → ref10_exprNodes t = some (t.nodes : Int) := by
  induction t using ApiExpr.ind with
  | h t ih =>
  intro ht
  have hn := ht.nodes
  rw [ApiExpr.nodes_eq] at hn
  rw [ref10_exprNodes]
  have := reNodes_l t ht (fun x hx => ih x hx (ht.kid hx)) t.Kids 0 1 rfl (by omega)
  rw [ApiExpr.nodes_eq, Nat.add_comm]
  exact this
theorem reDepth_l (t : ApiExpr) (ht : OkE t) (ih : ∀ x ∈ t.Kids, ref10_exprDepth x = some (x.depth : Int)) (B : Nat) (hB : B ≤ BB) :
    ∀ (r : List ApiExpr) (k : Nat) (n : Nat), t.Kids.drop k = r → n ≤ B → ApiExpr.depths r ≤ B → ref10_exprDepth_l1 t (n : Int) k = some ((max n (ApiExpr.depths r) + 1 : Nat) : Int)
  | [], k, n, h, hb, _ => by
    rw [ref10_exprDepth_l1, (lp_out h).1, if_neg (by simp), w1 (by omega)]
    simp [ApiExpr.depths]
  | x :: r, k, n, h, hb, hd => by
    obtain ⟨e1, e2, e3, e4, e5⟩ := lp_in h
    have := ht.kids
    simp only [ApiExpr.depths] at hd
    rw [ref10_exprDepth_l1, e1, if_pos rfl, e2, ob, ih x e5, ob, w1 (by omega), reDepth_l t ht ih B hB r (k + 1) _ e3 (by omega) (by omega), reDepth_l t ht ih B hB r (k + 1) _ e3 (by omega) (by omega)]
    simp only [ApiExpr.depths]
    by_cases hx : (x.depth : Int) > (n : Int)
    · rw [if_pos (decide_eq_true hx), show max n (max x.depth (ApiExpr.depths r)) = max x.depth (ApiExpr.depths r) by omega]
    · rw [if_neg (by simpa using hx), show max n (max x.depth (ApiExpr.depths r)) = max n (ApiExpr.depths r) by omega]
theorem reDepth_eq (t : ApiExpr) : OkE t → ref10_exprDepth t = some (t.depth : Int) := by
  induction t using ApiExpr.ind with
  | h t ih =>
  intro ht
  have hn := ht.nodes
  have hd := ApiExpr.depth_nodes t
  rw [ref10_exprDepth]
  rw [ApiExpr.depth_eq] at hd
  have := reDepth_l t ht (fun x hx => ih x hx (ht.kid hx)) BB (Nat.le_refl _) t.Kids 0 0 rfl (by omega) (by omega)
  rw [ApiExpr.depth_eq]
  rw [show max 0 (ApiExpr.depths t.Kids) = ApiExpr.depths t.Kids by omega] at this
  exact this

theorem deeper_eq (n : Int) (d : Int) (m : Int) : ref10_size_deeper ⟨n, d⟩ m = some ⟨n, max d m⟩ := by
  unfold ref10_size_deeper
  by_cases h : m > d
  · rw [if_pos (decide_eq_true h), show max d m = m by omega]
  · rw [if_neg (by simpa using h), show max d m = d by omega]

theorem reForm_l (e : ApiExpr) (ht : OkE e) (ih : ∀ x ∈ e.Kids, ref10_exprForm x = some (x.all eform)) : ∀ (r : List ApiExpr) (k : Nat), e.Kids.drop k = r → ref10_exprForm_l1 e k = some (ApiExpr.alls eform r)
  | [], k, h => by rw [ref10_exprForm_l1, (lp_out h).1, if_neg (by simp)]; rfl
  | x :: r, k, h => by
    obtain ⟨e1, e2, e3, e4, e5⟩ := lp_in h
    have := ht.kids
    rw [ref10_exprForm_l1, e1, if_pos rfl, e2, ob, ih x e5, ob, w1 (by omega), reForm_l e ht ih r (k + 1) e3, ApiExpr.alls]
    cases x.all eform <;> simp
theorem reForm_eq (e : ApiExpr) : OkE e → ref10_exprForm e = some (e.all eform) := by
  induction e using ApiExpr.ind with
  | h e ih =>
  intro ht
  have h1 := reForm_l e ht (fun x hx => ih x hx (ht.kid hx)) e.Kids 0 rfl
  rw [show ((0 : Nat) : Int) = 0 from rfl] at h1
  rw [ref10_exprForm, h1, ApiExpr.all_eq, rplace_eq, kids_eq, ob]
  generalize ApiExpr.alls eform e.Kids = A
  have hb : (bif (bif (ar e.Op != (e.Kids.length : Int)) then true else (bif (e.Op != 0) then (e.NV != 0) else false)) then true else (bif (bif (e.Op != 3) then (e.Op != 4) else false) then (!(e.Name == [])) else false)) = !(ef1 e && ef2 e && ef3 e) := by
    unfold ef1 ef2 ef3
    simp only [bne]
    cases ar e.Op == (e.Kids.length : Int) <;> cases e.NV == 0 <;> cases e.Op == 0 <;> cases e.Name == [] <;> cases e.Op == 3 <;> cases e.Op == 4 <;> rfl
  rw [hb]
  unfold eform ef4
  cases (ef1 e && ef2 e && ef3 e) <;> cases (bif e.Op == 4 then true else e.Op == 5) <;> cases e.place <;> simp [ob]
theorem reNames_l (e : ApiExpr) (ht : OkE e) (ih : ∀ x ∈ e.Kids, ref10_exprNames x = some (x.all ename)) : ∀ (r : List ApiExpr) (k : Nat), e.Kids.drop k = r → ref10_exprNames_l1 e k = some (ApiExpr.alls ename r)
  | [], k, h => by rw [ref10_exprNames_l1, (lp_out h).1, if_neg (by simp)]; rfl
  | x :: r, k, h => by
    obtain ⟨e1, e2, e3, e4, e5⟩ := lp_in h
    have := ht.kids
    rw [ref10_exprNames_l1, e1, if_pos rfl, e2, ob, ih x e5, ob, w1 (by omega), reNames_l e ht ih r (k + 1) e3, ApiExpr.alls]
    cases x.all ename <;> simp
theorem reNames_eq (e : ApiExpr) : OkE e → ref10_exprNames e = some (e.all ename) := by
  induction e using ApiExpr.ind with
  | h e ih =>
  intro ht
  have h1 := reNames_l e ht (fun x hx => ih x hx (ht.kid hx)) e.Kids 0 rfl
  rw [show ((0 : Nat) : Int) = 0 from rfl] at h1
  rw [ref10_exprNames, h1, ApiExpr.all_eq, refIsName_eq e.Name ht.name]
  generalize ApiExpr.alls ename e.Kids = A
  unfold ename
  cases (bif e.Op == 3 then true else e.Op == 4) <;> cases isName e.Name <;> simp [ob]
theorem reNumbers_l (e : ApiExpr) (ht : OkE e) (ih : ∀ x ∈ e.Kids, ref10_exprNumbers x = some (x.all enumb)) : ∀ (r : List ApiExpr) (k : Nat), e.Kids.drop k = r → ref10_exprNumbers_l1 e k = some (ApiExpr.alls enumb r)
  | [], k, h => by rw [ref10_exprNumbers_l1, (lp_out h).1, if_neg (by simp)]; rfl
  | x :: r, k, h => by
    obtain ⟨e1, e2, e3, e4, e5⟩ := lp_in h
    have := ht.kids
    rw [ref10_exprNumbers_l1, e1, if_pos rfl, e2, ob, ih x e5, ob, w1 (by omega), reNumbers_l e ht ih r (k + 1) e3, ApiExpr.alls]
    cases x.all enumb <;> simp
theorem reNumbers_eq (e : ApiExpr) : OkE e → ref10_exprNumbers e = some (e.all enumb) := by
  induction e using ApiExpr.ind with
  | h e ih =>
  intro ht
  have h1 := reNumbers_l e ht (fun x hx => ih x hx (ht.kid hx)) e.Kids 0 rfl
  rw [show ((0 : Nat) : Int) = 0 from rfl] at h1
  rw [ref10_exprNumbers, h1, ApiExpr.all_eq]
  have : enumb e = !(bif (e.Op == 0) then (bif (decide (e.NV < 0)) then true else (decide (e.NV > 1048576))) else false) := by
    unfold enumb inside
    rw [lt_ge, gt_le]
    cases e.Op == 0 <;> cases decide (e.NV ≥ 0) <;> cases decide (e.NV ≤ 1048576) <;> rfl
  rw [this]
  cases (bif (e.Op == 0) then (bif (decide (e.NV < 0)) then true else (decide (e.NV > 1048576))) else false) <;> simp
/-! ### few -/
theorem eleft_l (e : ApiExpr) (ht : OkE e) (ih : ∀ x ∈ e.Kids, ∀ n, ∃ m, ref10_exprLeft x n = some m) : ∀ (r : List ApiExpr) (k : Nat) (n : Int), e.Kids.drop k = r → ∃ m, ref10_exprLeft_l1 e n k = some m
  | [], k, n, h => by rw [ref10_exprLeft_l1, (lp_out h).1]; exact ⟨_, rfl⟩
  | x :: r, k, n, h => by
    obtain ⟨e1, e2, e3, e4, e5⟩ := lp_in h
    have := ht.kids
    rw [ref10_exprLeft_l1, e1, e2]
    cases decide (n ≥ 0) with
    | false => exact ⟨_, rfl⟩
    | true =>
      obtain ⟨m, hm⟩ := ih x e5 n
      rw [cond_true, if_pos rfl, ob, hm, ob, w1 (by omega)]
      exact eleft_l e ht ih r (k + 1) m e3
theorem eleft_some (e : ApiExpr) : OkE e → ∀ n, ∃ m, ref10_exprLeft e n = some m := by
  induction e using ApiExpr.ind with
  | h e ih =>
  intro ht n
  rw [ref10_exprLeft]
  exact eleft_l e ht (fun x hx => ih x hx (ht.kid hx)) e.Kids 0 _ rfl
theorem tleft_l2 (t : ApiType) (ht : Ok t) (ih : ∀ x ∈ t.Of, ∀ n, ∃ m, ref10_typeLeft x n = some m) : ∀ (r : List ApiType) (k : Nat) (n : Int), t.Of.drop k = r → ∃ m, ref10_typeLeft_l2 t n k = some m
  | [], k, n, h => by rw [ref10_typeLeft_l2, (lp_out h).1]; exact ⟨_, rfl⟩
  | x :: r, k, n, h => by
    obtain ⟨e1, e2, e3, e4, e5⟩ := lp_in h
    have := ht.ofs
    rw [ref10_typeLeft_l2, e1, e2]
    cases decide (n ≥ 0) with
    | false => exact ⟨_, rfl⟩
    | true =>
      obtain ⟨m, hm⟩ := ih x e5 n
      rw [cond_true, if_pos rfl, ob, hm, ob, w1 (by omega)]
      exact tleft_l2 t ht ih r (k + 1) m e3
theorem tleft_l1 (t : ApiType) (ht : Ok t) (ih : ∀ x ∈ t.Of, ∀ n, ∃ m, ref10_typeLeft x n = some m) : ∀ (r : List Str) (k : Nat) (n : Int), t.Names.drop k = r → ∃ m, ref10_typeLeft_l1 t n k = some m
  | [], k, n, h => by rw [ref10_typeLeft_l1, (lp_out h).1]; exact tleft_l2 t ht ih t.Of 0 n rfl
  | x :: r, k, n, h => by
    obtain ⟨e1, e2, e3, e4, e5⟩ := lp_in h
    have := ht.names
    rw [ref10_typeLeft_l1, e1, e2]
    cases decide (n ≥ 0) with
    | false => exact tleft_l2 t ht ih t.Of 0 n rfl
    | true =>
      rw [cond_true, if_pos rfl, ob, w1 (by omega)]
      exact tleft_l1 t ht ih r (k + 1) _ e3
theorem tleft_some (t : ApiType) : Ok t → ∀ n, ∃ m, ref10_typeLeft t n = some m := by
  induction t using ApiType.ind with
  | h t ih =>
  intro ht n
  rw [ref10_typeLeft]
  exact tleft_l1 t ht (fun x hx => ih x hx (ht.kid hx)) t.Names 0 _ rfl
end Go.Proofs.YtmilgoloagbmpaaGreatDoor

set_option linter.unusedSimpArgs false
set_option linter.unusedVariables false
namespace Go.Proofs.YtmilgoloagbmpaaGreatDoor
open Go.Am

theorem lp_at {α : Type} {l : List α} {k : Nat} (h : k < l.length) : ∃ y, idx l (k : Int) = some y ∧ l.drop k = y :: l.drop (k + 1) ∧ y ∈ l := by
  refine ⟨l[k], ?_, List.drop_eq_getElem_cons h, List.getElem_mem h⟩
  unfold idx
  rw [if_pos (by omega)]
  simp [h]
theorem z0 : (0 : Int) = ((0 : Nat) : Int) := rfl

theorem rEqual_l2 (t u : ApiType) (ht : Ok t) (hl : t.Of.length = u.Of.length) (ih : ∀ x ∈ t.Of, ∀ y, ref10_EqualType x y = some (x.same y)) :
    ∀ (r : List ApiType) (k : Nat), t.Of.drop k = r → ref10_EqualType_l2 t u k = some (eqL ApiType.same r (u.Of.drop k))
  | [], k, h => by
    rw [ref10_EqualType_l2, (lp_out h).1, if_neg (by simp), List.drop_eq_nil_of_le (by have := (lp_out h).2; omega)]; rfl
  | x :: r, k, h => by
    obtain ⟨e1, e2, e3, e4, e5⟩ := lp_in h
    obtain ⟨y, f1, f2, f3⟩ := lp_at (l := u.Of) (k := k) (by omega)
    have := ht.ofs
    rw [ref10_EqualType_l2, e1, if_pos rfl, e2, ob, f1, ob, ih x e5 y, ob, w1 (by omega), rEqual_l2 t u ht hl ih r (k + 1) e3, f2, eqL]
    cases x.same y <;> simp
theorem rEqual_l1 (t u : ApiType) (ht : Ok t) (hl : t.Names.length = u.Names.length) (b : Bool) (hb : ref10_EqualType_l2 t u 0 = some b) :
    ∀ (r : List Str) (k : Nat), t.Names.drop k = r → ref10_EqualType_l1 t u k = some (eqL (fun x y => x == y) r (u.Names.drop k) && b)
  | [], k, h => by
    rw [ref10_EqualType_l1, (lp_out h).1, if_neg (by simp), List.drop_eq_nil_of_le (by have := (lp_out h).2; omega), hb]; rfl
  | x :: r, k, h => by
    obtain ⟨e1, e2, e3, e4, e5⟩ := lp_in h
    obtain ⟨y, f1, f2, f3⟩ := lp_at (l := u.Names) (k := k) (by omega)
    have := ht.names
    rw [ref10_EqualType_l1, e1, if_pos rfl, e2, ob, f1, ob, w1 (by omega), rEqual_l1 t u ht hl b hb r (k + 1) e3, f2, eqL]
    cases x == y <;> simp
theorem rEqual_eq (t : ApiType) : Ok t → ∀ u, ref10_EqualType t u = some (t.same u) := by
  induction t using ApiType.ind with
  | h t ih =>
  intro ht u
  have ih' := fun x hx => ih x hx (ht.kid hx)
  rw [ref10_EqualType]
  show (if diff t u = true then _ else _) = _
  cases hd : diff t u with
  | true => rw [if_pos rfl, diff_same hd]
  | false =>
    obtain ⟨h1, h2, h3⟩ := diff_not hd
    have h4 := rEqual_l2 t u ht h3 ih' t.Of 0 rfl
    have h5 := rEqual_l1 t u ht h2 _ h4 t.Names 0 rfl
    rw [if_neg (by simp), z0, h5, h1]
    rfl
theorem sEqual_l (s u : List Str) (hs : s.length ≤ BB) (hl : s.length = u.length) : ∀ (r : List Str) (k : Nat), s.drop k = r → slices_Equal_string_string_l1 s u k = some (eqL (fun x y => x == y) r (u.drop k))
  | [], k, h => by
    rw [slices_Equal_string_string_l1, (lp_out h).1, if_neg (by simp), List.drop_eq_nil_of_le (by have := (lp_out h).2; omega)]; rfl
  | x :: r, k, h => by
    obtain ⟨e1, e2, e3, e4, e5⟩ := lp_in h
    obtain ⟨y, f1, f2, f3⟩ := lp_at (l := u) (k := k) (by omega)
    rw [slices_Equal_string_string_l1, e1, if_pos rfl, e2, ob, f1, ob, w1 (by omega), sEqual_l s u hs hl r (k + 1) e3, f2, eqL]
    cases x == y <;> simp
theorem sEqual_eq (s u : List Str) (hs : s.length ≤ BB) : slices_Equal_string_string s u = some (eqL (fun x y => x == y) s u) := by
  unfold slices_Equal_string_string
  by_cases hl : s.length = u.length
  · rw [if_neg (by simp; omega), z0, sEqual_l s u hs hl s 0 rfl]; rfl
  · rw [if_pos (by simp; omega), eqL_len _ hl]
theorem tEqual_l (s u : List ApiType) (hs : s.length ≤ BB) (hl : s.length = u.length) (ih : ∀ x ∈ s, ∀ y, syntax_equalType x y = some (x.same y)) :
    ∀ (r : List ApiType) (k : Nat), s.drop k = r → slices_EqualFunc_api_Type_api_Type_api_Type_api_Type_l1 s u k = some (eqL ApiType.same r (u.drop k))
  | [], k, h => by
    rw [slices_EqualFunc_api_Type_api_Type_api_Type_api_Type_l1, (lp_out h).1, if_neg (by simp), List.drop_eq_nil_of_le (by have := (lp_out h).2; omega)]; rfl
  | x :: r, k, h => by
    obtain ⟨e1, e2, e3, e4, e5⟩ := lp_in h
    obtain ⟨y, f1, f2, f3⟩ := lp_at (l := u) (k := k) (by omega)
    rw [slices_EqualFunc_api_Type_api_Type_api_Type_api_Type_l1, e1, if_pos rfl, e2, ob, f1, ob, ih x e5 y, ob, w1 (by omega), tEqual_l s u hs hl ih r (k + 1) e3, f2, eqL]
    cases x.same y <;> simp
theorem sEqualT_eq (t : ApiType) : Ok t → ∀ u, syntax_equalType t u = some (t.same u) := by
  induction t using ApiType.ind with
  | h t ih =>
  intro ht u
  have ih' := fun x hx => ih x hx (ht.kid hx)
  have hO : slices_EqualFunc_api_Type_api_Type_api_Type_api_Type t.Of u.Of = some (eqL ApiType.same t.Of u.Of) := by
    rw [slices_EqualFunc_api_Type_api_Type_api_Type_api_Type]
    by_cases hl : t.Of.length = u.Of.length
    · rw [if_neg (by simp; omega), z0, tEqual_l t.Of u.Of ht.ofs hl ih' t.Of 0 rfl]; rfl
    · rw [if_pos (by simp; omega), eqL_len _ hl]
  rw [syntax_equalType, hO, sEqual_eq _ _ ht.names, ApiType.same_eq]
  generalize eqL ApiType.same t.Of u.Of = a
  generalize eqL (fun x y => x == y) t.Names u.Names = b
  cases t.Kind == u.Kind <;> cases t.Low == u.Low <;> cases t.High == u.High <;> cases t.Size == u.Size <;> cases t.Name == u.Name <;> cases b <;> cases a <;> rfl

/-! ### expressions -/
mutual
def ApiExpr.same : ApiExpr → ApiExpr → Bool
  | .mk o n nm ks, t => o == t.Op && n == t.NV && nm == t.Name && ApiExpr.sames ks t.Kids
def ApiExpr.sames : List ApiExpr → List ApiExpr → Bool
  | [], [] => true
  | x :: r, y :: s => ApiExpr.same x y && ApiExpr.sames r s
  | [], _ :: _ => false
  | _ :: _, [] => false
end
theorem ApiExpr.sames_eq : ∀ l m : List ApiExpr, ApiExpr.sames l m = eqL ApiExpr.same l m
  | [], [] => rfl
  | x :: r, y :: s => by simp only [ApiExpr.sames, eqL, ApiExpr.sames_eq r s]
  | [], _ :: _ => rfl
  | _ :: _, [] => rfl
theorem ApiExpr.same_eq (t u : ApiExpr) : t.same u = (t.Op == u.Op && t.NV == u.NV && t.Name == u.Name && eqL ApiExpr.same t.Kids u.Kids) := by
  rw [← ApiExpr.sames_eq]
  cases t
  rfl
theorem sEqE_l (s u : List ApiExpr) (hs : s.length ≤ BB) (hl : s.length = u.length) (ih : ∀ x ∈ s, ∀ y, syntax_EqualExpr x y = some (x.same y)) :
    ∀ (r : List ApiExpr) (k : Nat), s.drop k = r → slices_EqualFunc_api_Expr_api_Expr_api_Expr_api_Expr_l1 s u k = some (eqL ApiExpr.same r (u.drop k))
  | [], k, h => by
    rw [slices_EqualFunc_api_Expr_api_Expr_api_Expr_api_Expr_l1, (lp_out h).1, if_neg (by simp), List.drop_eq_nil_of_le (by have := (lp_out h).2; omega)]; rfl
  | x :: r, k, h => by
    obtain ⟨e1, e2, e3, e4, e5⟩ := lp_in h
    obtain ⟨y, f1, f2, f3⟩ := lp_at (l := u) (k := k) (by omega)
    rw [slices_EqualFunc_api_Expr_api_Expr_api_Expr_api_Expr_l1, e1, if_pos rfl, e2, ob, f1, ob, ih x e5 y, ob, w1 (by omega), sEqE_l s u hs hl ih r (k + 1) e3, f2, eqL]
    cases x.same y <;> simp
theorem sEqEs_eq (s u : List ApiExpr) (hs : s.length ≤ BB) (ih : ∀ x ∈ s, ∀ y, syntax_EqualExpr x y = some (x.same y)) : slices_EqualFunc_api_Expr_api_Expr_api_Expr_api_Expr s u = some (eqL ApiExpr.same s u) := by
  rw [slices_EqualFunc_api_Expr_api_Expr_api_Expr_api_Expr]
  by_cases hl : s.length = u.length
  · rw [if_neg (by simp; omega), z0, sEqE_l s u hs hl ih s 0 rfl]; rfl
  · rw [if_pos (by simp; omega), eqL_len _ hl]
theorem sEqualE_eq (t : ApiExpr) : OkE t → ∀ u, syntax_EqualExpr t u = some (t.same u) := by
  induction t using ApiExpr.ind with
  | h t ih =>
  intro ht u
  rw [syntax_EqualExpr, sEqEs_eq t.Kids u.Kids ht.kids (fun x hx => ih x hx (ht.kid hx)), ApiExpr.same_eq]
  generalize eqL ApiExpr.same t.Kids u.Kids = a
  cases t.Op == u.Op <;> cases t.NV == u.NV <;> cases t.Name == u.Name <;> cases a <;> rfl
theorem rEqE_l (t u : ApiExpr) (ht : OkE t) (hl : t.Kids.length = u.Kids.length) (ih : ∀ x ∈ t.Kids, ∀ y, ref10_EqualExpr x y = some (x.same y)) :
    ∀ (r : List ApiExpr) (k : Nat), t.Kids.drop k = r → ref10_EqualExpr_l1 t u k = some (eqL ApiExpr.same r (u.Kids.drop k))
  | [], k, h => by
    rw [ref10_EqualExpr_l1, (lp_out h).1, if_neg (by simp), List.drop_eq_nil_of_le (by have := (lp_out h).2; omega)]; rfl
  | x :: r, k, h => by
    obtain ⟨e1, e2, e3, e4, e5⟩ := lp_in h
    obtain ⟨y, f1, f2, f3⟩ := lp_at (l := u.Kids) (k := k) (by omega)
    have := ht.kids
    rw [ref10_EqualExpr_l1, e1, if_pos rfl, e2, ob, f1, ob, ih x e5 y, ob, w1 (by omega), rEqE_l t u ht hl ih r (k + 1) e3, f2, eqL]
    cases x.same y <;> simp
theorem rEqualE_eq (t : ApiExpr) : OkE t → ∀ u, ref10_EqualExpr t u = some (t.same u) := by
  induction t using ApiExpr.ind with
  | h t ih =>
  intro ht u
  have ih' := fun x hx => ih x hx (ht.kid hx)
  rw [ref10_EqualExpr, ApiExpr.same_eq]
  by_cases hl : t.Kids.length = u.Kids.length
  · have h4 := rEqE_l t u ht hl ih' t.Kids 0 rfl
    have hb : (bif (bif (bif (t.Op != u.Op) then true else (t.NV != u.NV)) then true else (!(t.Name == u.Name))) then true else ((t.Kids.length : Int) != (u.Kids.length : Int))) = !(t.Op == u.Op && t.NV == u.NV && t.Name == u.Name) := by
      have : ((t.Kids.length : Int) != (u.Kids.length : Int)) = false := by simp; omega
      rw [this]
      unfold bne
      cases t.Op == u.Op <;> cases t.NV == u.NV <;> cases t.Name == u.Name <;> rfl
    rw [hb, z0, h4]
    cases (t.Op == u.Op && t.NV == u.NV && t.Name == u.Name) <;> simp
  · have : ((t.Kids.length : Int) != (u.Kids.length : Int)) = true := by simp; omega
    rw [this, eqL_len _ hl, Bool.and_false]
    generalize (bif (bif (t.Op != u.Op) then true else (t.NV != u.NV)) then true else (!(t.Name == u.Name))) = b
    cases b <;> rfl
def zeroE (e : ApiExpr) : Bool := e.same ⟨0, 0, [], []⟩
def zeroT (t : ApiType) : Bool := t.same ⟨0, 0, 0, 0, [], [], []⟩
theorem rzeroE_eq (e : ApiExpr) (h : OkE e) : ref10_zeroExpr e = some (zeroE e) := by unfold ref10_zeroExpr; rw [rEqualE_eq e h]; rfl
theorem rzeroT_eq (t : ApiType) (h : Ok t) : ref10_zeroType t = some (zeroT t) := by unfold ref10_zeroType; rw [rEqual_eq t h]; rfl
theorem zeroE_of {e : ApiExpr} (h : zeroE e = true) : e = ⟨0, 0, [], []⟩ := by
  unfold zeroE at h
  rw [ApiExpr.same_eq] at h
  obtain ⟨o, n, nm, ks⟩ := e
  simp only [Bool.and_eq_true, beq_iff_eq] at h
  obtain ⟨⟨⟨rfl, rfl⟩, rfl⟩, h4⟩ := h
  cases ks with
  | nil => rfl
  | cons x r => cases h4
theorem zeroT_of {t : ApiType} (h : zeroT t = true) : t = ⟨0, 0, 0, 0, [], [], []⟩ := by
  unfold zeroT at h
  rw [ApiType.same_eq] at h
  obtain ⟨a, b, c, d, nm, ns, ks⟩ := t
  simp only [Bool.and_eq_true, beq_iff_eq] at h
  obtain ⟨⟨⟨⟨⟨⟨rfl, rfl⟩, rfl⟩, rfl⟩, rfl⟩, h5⟩, h4⟩ := h
  cases ks with
  | nil =>
    cases ns with
    | nil => rfl
    | cons x r => cases h5
  | cons x r => cases h4
end Go.Proofs.YtmilgoloagbmpaaGreatDoor

namespace Go.Proofs.YtmilgoloagbmpaaGreatDoor
open Go.Am

mutual
def ApiStmt.bulk : ApiStmt → Nat
  | .mk y0 y1 y2 y3 y4 y5 y6 y7 y8 y9 y10 => 1 + (ApiExpr.bulk y1 + (ApiExpr.bulk y2 + ((y3.length + 1) + ((ApiExpr.bulks y4 + 1) + (1 + (1 + (1 + (((y8.map fun _ => 1).sum + 1) + ((ApiStmt.bulks y9 + 1) + ((ApiStmt.bulks y10 + 1) + (0))))))))))) + 1
def ApiStmt.bulks : List ApiStmt → Nat
  | [] => 0
  | x :: r => ApiStmt.bulk x + ApiStmt.bulks r
end
mutual
def ApiDecl.bulk : ApiDecl → Nat
  | .mk y0 y1 y2 y3 y4 y5 y6 y7 => 1 + ((y1.length + 1) + (ApiType.bulk y2 + (1 + (ApiExpr.bulk y4 + ((ApiDecl.bulks y5 + 1) + ((ApiDecl.bulks y6 + 1) + ((ApiStmt.bulks y7 + 1) + (0)))))))) + 1
def ApiDecl.bulks : List ApiDecl → Nat
  | [] => 0
  | x :: r => ApiDecl.bulk x + ApiDecl.bulks r
end
mutual
def ApiProgram.bulk : ApiProgram → Nat
  | .mk y0 y1 => (ApiDecl.bulks y0 + 1) + ((ApiStmt.bulks y1 + 1) + (0)) + 1
def ApiProgram.bulks : List ApiProgram → Nat
  | [] => 0
  | x :: r => ApiProgram.bulk x + ApiProgram.bulks r
end
end Go.Proofs.YtmilgoloagbmpaaGreatDoor

set_option linter.unusedSimpArgs false
set_option linter.unusedVariables false
set_option maxHeartbeats 1000000
namespace Go.Proofs.YtmilgoloagbmpaaGreatDoor
open Go.Am

def uPl (v : Int) : Bool := bif (bif (v == 0) then true else (v == 1)) then true else (v == 2)
def uVa (v : Int) : Bool := bif (bif (bif (v == 0) then true else (v == 3)) then true else (v == 5)) then true else (v == 6)
def uNm (v : Int) : Bool := bif (bif (v == 1) then true else (v == 2)) then true else (v == 7)
def uNn (v : Int) : Bool := bif (v == 4) then true else (v == 6)
def uTh (v : Int) : Bool := bif (bif (v == 5) then true else (v == 6)) then true else (v == 7)
def okV (v : Int) : Bool := !(bif decide (v < 0) then true else decide (v > 8))
def stU (v : Int) : SyntaxUses × Bool := (⟨uPl v, uVa v, uNm v, v == 1, uNn v, v == 7, v == 8, uTh v, v == 5⟩, okV v)
theorem statement_eq (v : Int) : syntax_statement v = some (stU v) := by
  have h : (v < 0 ∨ 8 < v) ∨ v = 0 ∨ v = 1 ∨ v = 2 ∨ v = 3 ∨ v = 4 ∨ v = 5 ∨ v = 6 ∨ v = 7 ∨ v = 8 := by omega
  rcases h with h | rfl | rfl | rfl | rfl | rfl | rfl | rfl | rfl | rfl
  · have f : ∀ k : Int, 0 ≤ k ∧ k ≤ 8 → (v == k) = false := fun k hk => beq_eq_false_iff_ne.2 (by omega)
    have hv : okV v = false := by
      unfold okV
      rcases h with h | h
      · rw [decide_eq_true h]; rfl
      · rw [decide_eq_true (show v > 8 from h)]; cases decide (v < 0) <;> rfl
    unfold syntax_statement stU uPl uVa uNm uNn uTh
    rw [hv]
    simp only [f 0 (by decide), f 1 (by decide), f 2 (by decide), f 3 (by decide), f 4 (by decide), f 5 (by decide), f 6 (by decide), f 7 (by decide), f 8 (by decide)]
    rfl
  all_goals rfl

/-- an expression that may be unused -/
def oN (e : ApiExpr) (u : Bool) : Nat := bif (bif !u then zeroE e else false) then 0 else e.nodes
def oD (e : ApiExpr) (u : Bool) : Nat := bif (bif !u then zeroE e else false) then 0 else e.depth
def oF (e : ApiExpr) (u : Bool) : Bool := bif u then e.all eform else zeroE e
theorem oN_le (e : ApiExpr) (u : Bool) : oN e u ≤ e.bulk := by
  unfold oN
  have := ApiExpr.nodes_bulk e
  cases (bif !u then zeroE e else false) <;> simp <;> omega

/-- the numbers of a settle -/
def rises : Int → List Int → Bool
  | _, [] => true
  | l, n :: r => (bif inside n 0 1048576 then decide (n > l) else false) && rises n r
def numsOk (s : ApiStmt) : Bool :=
  bif s.Verb == 4 then inside s.NV 0 1048576 else bif s.Verb == 6 then inside s.NV 0 4096
  else bif s.Verb == 7 then (bif (bif inside s.Low (-1048576) 1048576 then inside s.High s.Low 1048576 else false) then decide (s.High - s.Low < 4096) else false)
  else bif s.Verb == 8 then inside (s.Numbers.length : Int) 1 32 && rises (-1) s.Numbers else true

def sform (s : ApiStmt) : Bool :=
  okV s.Verb && oF s.Place (uPl s.Verb) && (bif uPl s.Verb then s.Place.place else true) && oF s.Value (uVa s.Verb) && (bif uNm s.Verb then true else s.Name == []) && (bif s.Verb == 1 then true else ((s.Args.length : Int) == 0)) && ApiExpr.alls eform s.Args
  && (bif uNn s.Verb then true else s.NV == 0) && (bif s.Verb == 7 then true else (bif s.Low == 0 then s.High == 0 else false)) && (bif s.Verb == 8 then true else ((s.Numbers.length : Int) == 0))
  && (bif uTh s.Verb then true else ((s.Then.length : Int) == 0)) && (bif s.Verb == 5 then true else ((s.Else.length : Int) == 0))
def sname (s : ApiStmt) : Bool := s.Place.all ename && s.Value.all ename && (bif uNm s.Verb then isName s.Name else true) && ApiExpr.alls ename s.Args
def snumb (s : ApiStmt) : Bool := s.Place.all enumb && s.Value.all enumb && ApiExpr.alls enumb s.Args && numsOk s

mutual
def ApiStmt.nds : ApiStmt → Nat
  | .mk v pl va nm ar n lo hi ns th el => 1 + (oN pl (uPl v) + (oN va (uVa v) + (ApiExpr.nodess ar + (ApiStmt.ndss th + ApiStmt.ndss el))))
def ApiStmt.ndss : List ApiStmt → Nat
  | [] => 0
  | x :: r => ApiStmt.nds x + ApiStmt.ndss r
end
mutual
def ApiStmt.dps : ApiStmt → Nat → Nat
  | .mk v pl va nm ar n lo hi ns th el, d => max d (max (oD pl (uPl v)) (max (oD va (uVa v)) (max (ApiExpr.depths ar) (max (ApiStmt.dpss th (d + 1)) (ApiStmt.dpss el (d + 1))))))
def ApiStmt.dpss : List ApiStmt → Nat → Nat
  | [], _ => 0
  | x :: r, d => max (ApiStmt.dps x d) (ApiStmt.dpss r d)
end
mutual
def ApiStmt.all (p : ApiStmt → Bool) : ApiStmt → Bool
  | .mk v pl va nm ar n lo hi ns th el => p (.mk v pl va nm ar n lo hi ns th el) && (ApiStmt.alls p th && ApiStmt.alls p el)
def ApiStmt.alls (p : ApiStmt → Bool) : List ApiStmt → Bool
  | [] => true
  | x :: r => ApiStmt.all p x && ApiStmt.alls p r
end
theorem ApiStmt.nds_eq (s : ApiStmt) : s.nds = 1 + (oN s.Place (uPl s.Verb) + (oN s.Value (uVa s.Verb) + (ApiExpr.nodess s.Args + (ApiStmt.ndss s.Then + ApiStmt.ndss s.Else)))) := by cases s; simp only [ApiStmt.nds]
theorem ApiStmt.dps_eq (s : ApiStmt) (d : Nat) : s.dps d = max d (max (oD s.Place (uPl s.Verb)) (max (oD s.Value (uVa s.Verb)) (max (ApiExpr.depths s.Args) (max (ApiStmt.dpss s.Then (d + 1)) (ApiStmt.dpss s.Else (d + 1)))))) := by cases s; simp only [ApiStmt.dps]
theorem ApiStmt.all_eq (p : ApiStmt → Bool) (s : ApiStmt) : s.all p = (p s && (ApiStmt.alls p s.Then && ApiStmt.alls p s.Else)) := by cases s; simp only [ApiStmt.all]

theorem ApiStmt.ind {P : ApiStmt → Prop} (h : ∀ s : ApiStmt, (∀ x ∈ s.Then, P x) → (∀ x ∈ s.Else, P x) → P s) : ∀ s, P s := by
  intro s
  refine ApiStmt.rec (motive_1 := P) (motive_2 := fun l => ∀ x ∈ l, P x) ?_ ?_ ?_ s
  · intro v pl va nm ar n lo hi ns th el i1 i2
    exact h _ i1 i2
  · intro x hx; cases hx
  · intro x r hx hr y hy
    cases hy with
    | head => exact hx
    | tail _ hy => exact hr y hy
/-- lists of statements, the parts of each element known -/
theorem ApiStmt.inds {Q : List ApiStmt → Prop} (h : ∀ l : List ApiStmt, (∀ x ∈ l, Q x.Then ∧ Q x.Else) → Q l) : ∀ l, Q l := by
  have key : ∀ s : ApiStmt, Q s.Then ∧ Q s.Else := fun s => by
    induction s using ApiStmt.ind with
    | h s i1 i2 => exact ⟨h _ i1, h _ i2⟩
  exact fun l => h l fun x _ => key x

theorem ApiStmt.bulk_eq (s : ApiStmt) : s.bulk = s.Place.bulk + s.Value.bulk + s.Name.length + ApiExpr.bulks s.Args + (s.Numbers.map fun _ => 1).sum + ApiStmt.bulks s.Then + ApiStmt.bulks s.Else + 10 := by
  cases s; simp only [ApiStmt.bulk]; omega
theorem ints_sum : ∀ l : List Int, (l.map fun _ => 1).sum = l.length
  | [] => rfl
  | x :: r => by simp only [List.map_cons, List.sum_cons, List.length_cons, ints_sum r]; omega
theorem ApiStmt.bulk_mem {s : ApiStmt} : ∀ {l : List ApiStmt}, s ∈ l → s.bulk ≤ ApiStmt.bulks l
  | x :: r, h => by
    simp only [ApiStmt.bulks]
    cases h with
    | head => omega
    | tail _ h => have := ApiStmt.bulk_mem h; omega
theorem ApiStmt.bulk_len : ∀ l : List ApiStmt, l.length ≤ ApiStmt.bulks l
  | [] => Nat.le_refl _
  | x :: r => by
    simp only [ApiStmt.bulks, List.length_cons]
    have := ApiStmt.bulk_len r
    have := ApiStmt.bulk_eq x
    omega
mutual
theorem ApiStmt.nds_bulk : ∀ s : ApiStmt, s.nds ≤ s.bulk
  | .mk v pl va nm ar n lo hi ns th el => by
    have := oN_le pl (uPl v)
    have := oN_le va (uVa v)
    have := ApiExpr.nodess_bulk ar
    have := ApiStmt.ndss_bulk th
    have := ApiStmt.ndss_bulk el
    simp only [ApiStmt.nds, ApiStmt.bulk]; omega
theorem ApiStmt.ndss_bulk : ∀ l : List ApiStmt, ApiStmt.ndss l ≤ ApiStmt.bulks l
  | [] => Nat.le_refl _
  | x :: r => by
    have := ApiStmt.nds_bulk x
    have := ApiStmt.ndss_bulk r
    simp only [ApiStmt.ndss, ApiStmt.bulks]; omega
end
def OkS (l : List ApiStmt) : Prop := ApiStmt.bulks l ≤ BB
structure OkS1 (s : ApiStmt) : Prop where
  place : OkE s.Place
  value : OkE s.Value
  name : s.Name.length ≤ BB
  args : s.Args.length ≤ BB
  arg : ∀ a ∈ s.Args, OkE a
  nums : s.Numbers.length ≤ BB
  thens : OkS s.Then
  elses : OkS s.Else
theorem OkS.mem {l : List ApiStmt} (h : OkS l) {s : ApiStmt} (hs : s ∈ l) : OkS1 s := by
  unfold OkS at h
  have h1 := ApiStmt.bulk_mem hs
  have h2 := ApiStmt.bulk_eq s
  have h3 := ints_sum s.Numbers
  have h4 := ApiExpr.bulk_len s.Args
  refine ⟨?_, ?_, ?_, ?_, fun a ha => ?_, ?_, ?_, ?_⟩ <;> first | (unfold OkE; omega) | (unfold OkS; omega) | omega | skip
  have := ApiExpr.bulk_kid ha
  unfold OkE; omega
theorem OkS.len {l : List ApiStmt} (h : OkS l) : l.length ≤ BB := Nat.le_trans (ApiStmt.bulk_len l) h

/-- a report after a part: how many nodes, how deep, and what is right -/
def repX (o : SyntaxReport) (n m : Nat) (f a u : Bool) : SyntaxReport := ⟨o.nodes + n, max o.depth m, o.badForm || !f, o.badName || !a, o.badNumber || !u⟩
theorem repX_trans (o : SyntaxReport) (n m n' m' : Nat) (f a u f' a' u' : Bool) : repX (repX o n m f a u) n' m' f' a' u' = repX o (n + n') (max m m') (f && f') (a && a') (u && u') := by
  simp only [repX, or_not]
  rw [show o.nodes + (n : Int) + (n' : Int) = o.nodes + ((n + n' : Nat) : Int) by omega, show max (max o.depth (m : Int)) (m' : Int) = max o.depth ((max m m' : Nat) : Int) by omega]
theorem repX_zero (o : SyntaxReport) (h : 0 ≤ o.depth) : repX o 0 0 true true true = o := by
  simp only [repX, Bool.not_true, Bool.or_false]
  rw [show o.nodes + ((0 : Nat) : Int) = o.nodes by omega, show max o.depth ((0 : Nat) : Int) = o.depth by omega]
theorem repX_nodes (o : SyntaxReport) (n m : Nat) (f a u : Bool) : (repX o n m f a u).nodes = o.nodes + n := rfl
theorem repX_depth (o : SyntaxReport) (n m : Nat) (f a u : Bool) : (repX o n m f a u).depth = max o.depth m := rfl
theorem repX_form (o : SyntaxReport) (h : 0 ≤ o.depth) (b : Bool) : syntax_report_form b o = some (repX o 0 0 b true true) := by
  rw [rep_form]
  simp only [repX, Bool.not_true, Bool.or_false]
  rw [show o.nodes + ((0 : Nat) : Int) = o.nodes by omega, show max o.depth ((0 : Nat) : Int) = o.depth by omega]
theorem repX_number (o : SyntaxReport) (h : 0 ≤ o.depth) (b : Bool) : syntax_report_number b o = some (repX o 0 0 true true b) := by
  rw [rep_number]
  simp only [repX, Bool.not_true, Bool.or_false]
  rw [show o.nodes + ((0 : Nat) : Int) = o.nodes by omega, show max o.depth ((0 : Nat) : Int) = o.depth by omega]
theorem repX_name (o : SyntaxReport) (h : 0 ≤ o.depth) (s : Str) (hs : s.length ≤ BB) : syntax_report_name s o = some (repX o 0 0 true (isName s) true) := by
  rw [rep_name s hs]
  simp only [repX, Bool.not_true, Bool.or_false]
  rw [show o.nodes + ((0 : Nat) : Int) = o.nodes by omega, show max o.depth ((0 : Nat) : Int) = o.depth by omega]
/-- room for the counts -/
structure Room (o : SyntaxReport) (n : Nat) : Prop where
  dep : 0 ≤ o.depth
  low : 0 ≤ o.nodes
  high : o.nodes + n ≤ 3 * BB
theorem Room.x {o : SyntaxReport} {n k m : Nat} {f a u : Bool} (h : Room o (k + n)) : Room (repX o k m f a u) n := by
  obtain ⟨h1, h2, h3⟩ := h
  refine ⟨?_, ?_, ?_⟩
  · rw [repX_depth]; omega
  · rw [repX_nodes]; omega
  · rw [repX_nodes]; omega
theorem Room.less {o : SyntaxReport} {n k : Nat} (h : Room o n) (hk : k ≤ n) : Room o k := ⟨h.dep, h.low, by have := h.high; omega⟩
theorem Room.x0 {o : SyntaxReport} {n m : Nat} {f a u : Bool} (h : Room o n) : Room (repX o 0 m f a u) n := Room.x (by rw [Nat.zero_add]; exact h)

theorem repX_expr (e : ApiExpr) (h : OkE e) (o : SyntaxReport) (hr : Room o e.nodes) : syntax_report_expr e 1 o = some (repX o e.nodes e.depth (e.all eform) (e.all ename) (e.all enumb)) := by
  have hn := h.nodes
  have hp : 1 ≤ e.depth := by rw [ApiExpr.depth_eq]; omega
  have h3 := hr.high
  unfold BB at hn h3
  rw [rexpr_eq e h 1 o (by omega) (by unfold BB; omega) hr.low (by unfold BB; omega)]
  simp only [repT, repX]
  rw [show (1 : Int) + ((e.depth - 1 : Nat) : Int) = e.depth by omega]
theorem repX_typ (t : ApiType) (h : Ok t) (o : SyntaxReport) (hr : Room o t.nodes) : syntax_report_typ t 1 o = some (repX o t.nodes t.depth (t.all formN) (t.all nameN) (t.all numN)) := by
  have hn := h.nodes
  have hp : 1 ≤ t.depth := by rw [ApiType.depth_eq]; omega
  have h3 := hr.high
  unfold BB at hn h3
  rw [typ_eq t h 1 o (by omega) (by unfold BB; omega) hr.low (by unfold BB; omega)]
  simp only [repT, repX]
  rw [show (1 : Int) + ((t.depth - 1 : Nat) : Int) = t.depth by omega]
theorem zero_all : (ApiExpr.mk 0 0 [] []).all eform = true ∧ (ApiExpr.mk 0 0 [] []).all ename = true ∧ (ApiExpr.mk 0 0 [] []).all enumb = true := ⟨rfl, rfl, rfl⟩
theorem repX_opt (e : ApiExpr) (u : Bool) (h : OkE e) (o : SyntaxReport) (hr : Room o (oN e u)) : syntax_report_optional e u o = some (repX o (oN e u) (oD e u) (oF e u) (e.all ename) (e.all enumb)) := by
  unfold syntax_report_optional
  rw [sEqualE_eq e h]
  show ((if (!u) = true then some (zeroE e) else some default) >>= _) = _
  unfold oN oD oF at *
  cases u with
  | true =>
    simp only [Bool.not_true, cond_false, cond_true] at *
    rw [if_neg (by simp), ob, if_neg (by simp), repX_form o hr.dep, ob, repX_expr e h _ hr.x0, ob, repX_trans]
    simp
  | false =>
    simp only [Bool.not_false, cond_false, cond_true] at *
    rw [if_pos trivial, ob]
    cases hz : zeroE e with
    | true =>
      rw [if_pos rfl, zeroE_of hz, zero_all.2.1, zero_all.2.2]
      exact congrArg some (repX_zero o hr.dep).symm
    | false =>
      rw [hz] at hr
      rw [if_neg (by simp), repX_form o hr.dep, ob, repX_expr e h _ hr.x0, ob, repX_trans]
      simp
theorem repX_deep (o : SyntaxReport) (h : 0 ≤ o.nodes) (h' : o.nodes + 1 ≤ 3 * BB) (d : Nat) : syntax_report_deep (d : Int) ⟨IntKind.i64.wrap (o.nodes + 1), o.depth, o.badForm, o.badName, o.badNumber⟩ = some (repX o 1 d true true true) := by
  unfold BB at h'
  rw [rep_deep, wr (by omega) (by omega)]
  simp only [repX, Bool.not_true, Bool.or_false]
  rfl

theorem repX_args (s : ApiStmt) (hs : OkS1 s) (K : SyntaxReport → Option SyntaxReport) (F : SyntaxReport → Int → Option SyntaxReport)
    (hF : ∀ (o : SyntaxReport) (k : Int), F o k = if decide (k < (s.Args.length : Int)) = true then idx s.Args k >>= fun x => syntax_report_expr x 1 o >>= fun y => F y (IntKind.i64.wrap (k + 1)) else K o) :
    ∀ (r : List ApiExpr) (k : Nat) (o : SyntaxReport), s.Args.drop k = r → Room o (ApiExpr.nodess r) → F o (k : Int) = K (repX o (ApiExpr.nodess r) (ApiExpr.depths r) (ApiExpr.alls eform r) (ApiExpr.alls ename r) (ApiExpr.alls enumb r))
  | [], k, o, h, hr => by
    rw [hF, (lp_out h).1, if_neg (by simp)]
    simp only [ApiExpr.nodess, ApiExpr.depths, ApiExpr.alls]
    rw [repX_zero o hr.dep]
  | x :: r, k, o, h, hr => by
    obtain ⟨e1, e2, e3, e4, e5⟩ := lp_in h
    have := hs.args
    simp only [ApiExpr.nodess] at hr
    rw [hF, e1, if_pos rfl, e2, ob, repX_expr x (hs.arg x e5) o (hr.less (by omega)), ob, w1 (by omega), repX_args s hs K F hF r (k + 1) _ e3 hr.x, repX_trans]
    rfl

theorem rises_l (s : ApiStmt) (hs : OkS1 s) : ∀ (r : List Int) (k : Nat) (last : Int) (o : SyntaxReport), s.Numbers.drop k = r → 0 ≤ o.depth → syntax_report_numbers_l1 s o last k = some (repX o 0 0 true true (rises last r))
  | [], k, last, o, h, h0 => by rw [syntax_report_numbers_l1, (lp_out h).1, if_neg (by simp)]; exact congrArg some (repX_zero o h0).symm
  | x :: r, k, last, o, h, h0 => by
    obtain ⟨e1, e2, e3, e4, e5⟩ := lp_in h
    have := hs.nums
    rw [syntax_report_numbers_l1, e1, if_pos rfl, e2, ob, rep_inside, ob, repX_number _ h0, ob, w1 (by omega), rises_l s hs r (k + 1) x _ e3 (by rw [repX_depth]; omega), repX_trans]
    rfl
theorem repX_nums (s : ApiStmt) (hs : OkS1 s) (o : SyntaxReport) (h0 : 0 ≤ o.depth) : syntax_report_numbers s o = some (repX o 0 0 true true (numsOk s)) := by
  unfold syntax_report_numbers numsOk
  simp only [rep_inside]
  cases s.Verb == 4 with
  | true => rw [if_pos rfl, ob, repX_number _ h0, ob]; rfl
  | false =>
    rw [if_neg (by simp)]
    cases s.Verb == 6 with
    | true => rw [if_pos rfl, ob, repX_number _ h0, ob]; rfl
    | false =>
      rw [if_neg (by simp)]
      cases s.Verb == 7 with
      | true =>
        rw [if_pos rfl, ob]
        cases hl : inside s.Low (-1048576) 1048576 with
        | false => rw [if_neg (by simp), ob, repX_number _ h0, ob]; rfl
        | true =>
          rw [if_pos rfl, ob]
          cases hh : inside s.High s.Low 1048576 with
          | false => rw [repX_number _ h0, ob]; rfl
          | true =>
            have : IntKind.i64.wrap (s.High - s.Low) = s.High - s.Low := by
              simp [inside] at hl hh
              exact wr (by omega) (by omega)
            rw [this, repX_number _ h0, ob]; rfl
      | false =>
        rw [if_neg (by simp)]
        cases s.Verb == 8 with
        | true =>
          rw [if_pos rfl, ob, repX_number _ h0, ob, show (0 : Int) = ((0 : Nat) : Int) from rfl, rises_l s hs s.Numbers 0 (-1) _ rfl (by rw [repX_depth]; omega), repX_trans]
          simp
        | false => exact congrArg some (repX_zero o h0).symm

/-- a list of statements -/
theorem sstmts_eq (l : List ApiStmt) : OkS l → ∀ (d : Nat) (o : SyntaxReport), d + ApiStmt.bulks l ≤ 3 * BB → Room o (ApiStmt.ndss l) →
    syntax_report_stmts l d o = some (repX o (ApiStmt.ndss l) (ApiStmt.dpss l d) (ApiStmt.alls sform l) (ApiStmt.alls sname l) (ApiStmt.alls snumb l)) := by
  induction l using ApiStmt.inds with
  | h l ih =>
  intro hl d o hd hr
  have main : ∀ (r : List ApiStmt) (k : Nat) (o : SyntaxReport), l.drop k = r → Room o (ApiStmt.ndss r) → syntax_report_stmts_l1 l d o k = some (repX o (ApiStmt.ndss r) (ApiStmt.dpss r d) (ApiStmt.alls sform r) (ApiStmt.alls sname r) (ApiStmt.alls snumb r)) := by
    intro r
    induction r with
    | nil =>
      intro k o h hr
      rw [syntax_report_stmts_l1, (lp_out h).1, if_neg (by simp)]
      exact congrArg some (repX_zero o hr.dep).symm
    | cons s r ihr =>
      intro k o h hr
      obtain ⟨e1, e2, e3, e4, e5⟩ := lp_in h
      have hs := hl.mem e5
      have hlen := hl.len
      obtain ⟨i1, i2⟩ := ih s e5
      have hbm := ApiStmt.bulk_mem e5
      have hbe := ApiStmt.bulk_eq s
      simp only [ApiStmt.ndss, ApiStmt.nds_eq] at hr
      have hhi := hr.high
      unfold BB at hhi hd
      have hwd : IntKind.i64.wrap ((d : Int) + 1) = ((d + 1 : Nat) : Int) := by rw [wr (by omega) (by omega)]; rfl
      -- the rest behind the arguments
      have tail : ∀ o : SyntaxReport, Room o (ApiStmt.ndss s.Then + ApiStmt.ndss s.Else + ApiStmt.ndss r) →
          (syntax_report_form (bif (stU s.Verb).1.n then true else (s.NV == 0)) o >>= fun x14 =>
            syntax_report_form (bif (stU s.Verb).1.bounds then true else (bif (s.Low == 0) then (s.High == 0) else false)) x14 >>= fun x15 =>
            syntax_report_form (bif (stU s.Verb).1.numbers then true else (((s.Numbers).length : Int) == 0)) x15 >>= fun x16 =>
            syntax_report_form (bif (stU s.Verb).1.thenV then true else (((s.Then).length : Int) == 0)) x16 >>= fun x17 =>
            syntax_report_form (bif (stU s.Verb).1.other then true else (((s.Else).length : Int) == 0)) x17 >>= fun x18 =>
            syntax_report_numbers s x18 >>= fun x19 =>
            syntax_report_stmts s.Then (IntKind.i64.wrap ((d : Int) + 1)) x19 >>= fun x20 =>
            syntax_report_stmts s.Else (IntKind.i64.wrap ((d : Int) + 1)) x20 >>= fun x21 =>
            syntax_report_stmts_l1 l d x21 (IntKind.i64.wrap ((k : Int) + 1)))
          = some (repX o (ApiStmt.ndss s.Then + ApiStmt.ndss s.Else + ApiStmt.ndss r) (max (ApiStmt.dpss s.Then (d + 1)) (max (ApiStmt.dpss s.Else (d + 1)) (ApiStmt.dpss r d)))
              ((bif uNn s.Verb then true else s.NV == 0) && (bif s.Verb == 7 then true else (bif s.Low == 0 then s.High == 0 else false)) && (bif s.Verb == 8 then true else ((s.Numbers.length : Int) == 0))
                && (bif uTh s.Verb then true else ((s.Then.length : Int) == 0)) && (bif s.Verb == 5 then true else ((s.Else.length : Int) == 0)) && ApiStmt.alls sform s.Then && ApiStmt.alls sform s.Else && ApiStmt.alls sform r)
              (ApiStmt.alls sname s.Then && ApiStmt.alls sname s.Else && ApiStmt.alls sname r) (numsOk s && ApiStmt.alls snumb s.Then && ApiStmt.alls snumb s.Else && ApiStmt.alls snumb r)) := by
        intro o hr
        have q1 := hr.x0 (m := 0) (f := bif (stU s.Verb).1.n then true else (s.NV == 0)) (a := true) (u := true)
        have q2 := q1.x0 (m := 0) (f := bif (stU s.Verb).1.bounds then true else (bif (s.Low == 0) then (s.High == 0) else false)) (a := true) (u := true)
        have q3 := q2.x0 (m := 0) (f := bif (stU s.Verb).1.numbers then true else (((s.Numbers).length : Int) == 0)) (a := true) (u := true)
        have q4 := q3.x0 (m := 0) (f := bif (stU s.Verb).1.thenV then true else (((s.Then).length : Int) == 0)) (a := true) (u := true)
        have q5 := q4.x0 (m := 0) (f := bif (stU s.Verb).1.other then true else (((s.Else).length : Int) == 0)) (a := true) (u := true)
        have q6 := q5.x0 (m := 0) (f := true) (a := true) (u := numsOk s)
        rw [repX_form o hr.dep, ob, repX_form _ q1.dep, ob, repX_form _ q2.dep, ob, repX_form _ q3.dep, ob, repX_form _ q4.dep, ob, repX_nums s hs _ q5.dep, ob, hwd,
          i1 hs.thens (d + 1) _ (by unfold BB; omega) (q6.less (by omega)), ob, i2 hs.elses (d + 1) _ (by unfold BB; omega) (Room.x (q6.less (by omega))), ob, w1 (by omega), ihr (k + 1) _ e3 (Room.x (Room.x (q6.less (by omega))))]
        simp only [repX_trans, stU, Bool.true_and, Bool.and_true, Bool.and_assoc, Nat.zero_add, Nat.add_assoc, Nat.zero_max]
        simp only [← Nat.max_assoc]
      have args := repX_args s hs _ (fun o k' => syntax_report_stmts_l4 l d o s (stU s.Verb) k k') (fun o k' => syntax_report_stmts_l4.eq_1 l d o s (stU s.Verb) k k') s.Args 0
      rw [show ((0 : Nat) : Int) = 0 from rfl] at args
      have j3 : ∀ o : SyntaxReport, Room o (ApiExpr.nodess s.Args + (ApiStmt.ndss s.Then + ApiStmt.ndss s.Else + ApiStmt.ndss r)) → syntax_report_stmts_j3 l d o s (stU s.Verb) k
          = some (repX o (ApiExpr.nodess s.Args + (ApiStmt.ndss s.Then + ApiStmt.ndss s.Else + ApiStmt.ndss r)) (max (ApiExpr.depths s.Args) (max (ApiStmt.dpss s.Then (d + 1)) (max (ApiStmt.dpss s.Else (d + 1)) (ApiStmt.dpss r d))))
              ((bif s.Verb == 1 then true else ((s.Args.length : Int) == 0)) && (ApiExpr.alls eform s.Args && ((bif uNn s.Verb then true else s.NV == 0) && (bif s.Verb == 7 then true else (bif s.Low == 0 then s.High == 0 else false)) && (bif s.Verb == 8 then true else ((s.Numbers.length : Int) == 0))
                && (bif uTh s.Verb then true else ((s.Then.length : Int) == 0)) && (bif s.Verb == 5 then true else ((s.Else.length : Int) == 0)) && ApiStmt.alls sform s.Then && ApiStmt.alls sform s.Else && ApiStmt.alls sform r)))
              (ApiExpr.alls ename s.Args && (ApiStmt.alls sname s.Then && ApiStmt.alls sname s.Else && ApiStmt.alls sname r)) (ApiExpr.alls enumb s.Args && (numsOk s && ApiStmt.alls snumb s.Then && ApiStmt.alls snumb s.Else && ApiStmt.alls snumb r))) := by
        intro o hr
        rw [syntax_report_stmts_j3, repX_form o hr.dep, ob, args _ rfl (hr.x0.less (by omega)), tail _ (Room.x hr.x0)]
        simp only [repX_trans, stU, Bool.true_and, Bool.and_assoc, Nat.zero_add, Nat.zero_max]
      have j2 : ∀ o : SyntaxReport, Room o (oN s.Value (uVa s.Verb) + (ApiExpr.nodess s.Args + (ApiStmt.ndss s.Then + ApiStmt.ndss s.Else + ApiStmt.ndss r))) → syntax_report_stmts_j2 l d o s (stU s.Verb) k
          = (syntax_report_stmts_j3 l d (repX o (oN s.Value (uVa s.Verb)) (oD s.Value (uVa s.Verb)) (oF s.Value (uVa s.Verb) && (bif uNm s.Verb then true else s.Name == [])) (s.Value.all ename && (bif uNm s.Verb then isName s.Name else true)) (s.Value.all enumb)) s (stU s.Verb) k) := by
        intro o hr
        have q1 : Room (repX o (oN s.Value (uVa s.Verb)) (oD s.Value (uVa s.Verb)) (oF s.Value (uVa s.Verb)) (s.Value.all ename) (s.Value.all enumb)) 0 := Room.x (hr.less (by omega))
        rw [syntax_report_stmts_j2]
        show (syntax_report_optional s.Value (uVa s.Verb) o >>= _) = _
        rw [repX_opt s.Value (uVa s.Verb) hs.value o (hr.less (by omega)), ob, repX_form _ q1.dep, ob, repX_name _ (q1.x0).dep s.Name hs.name]
        simp only [repX_trans, stU]
        cases uNm s.Verb with
        | true => rw [if_pos rfl, ob]; simp
        | false => rw [if_neg (by simp)]; simp
      rw [syntax_report_stmts_l1, e1, if_pos rfl, e2, ob, repX_deep o hr.low (by unfold BB; omega) d, ob, statement_eq, ob, repX_form _ (show 0 ≤ (repX o 1 d true true true).depth by rw [repX_depth]; have := hr.dep; omega), ob, repX_trans]
      have hr1 : Room (repX o (1 + 0) (max d 0) (true && (stU s.Verb).2) (true && true) (true && true)) (oN s.Place (uPl s.Verb) + (oN s.Value (uVa s.Verb) + (ApiExpr.nodess s.Args + (ApiStmt.ndss s.Then + ApiStmt.ndss s.Else + ApiStmt.ndss r)))) := Room.x (hr.less (by omega))
      have hopt := repX_opt s.Place (uPl s.Verb) hs.place _ (hr1.less (k := oN s.Place (uPl s.Verb)) (by omega))
      show (syntax_report_optional s.Place (uPl s.Verb) _ >>= _) = _
      rw [hopt, ob, splace_eq, repX_trans]
      have hr2 : ∀ f, Room (repX o (1 + 0 + oN s.Place (uPl s.Verb)) (max (max d 0) (oD s.Place (uPl s.Verb))) f (true && true && s.Place.all ename) (true && true && s.Place.all enumb)) (oN s.Value (uVa s.Verb) + (ApiExpr.nodess s.Args + (ApiStmt.ndss s.Then + ApiStmt.ndss s.Else + ApiStmt.ndss r))) := fun f => Room.x (hr.less (by omega))
      have fin : ∀ b : Bool, (bif uPl s.Verb then s.Place.place else true) = b →
          syntax_report_stmts_j2 l d (repX o (1 + 0 + oN s.Place (uPl s.Verb)) (max (max d 0) (oD s.Place (uPl s.Verb))) (true && (stU s.Verb).2 && oF s.Place (uPl s.Verb) && b) (true && true && s.Place.all ename) (true && true && s.Place.all enumb)) s (stU s.Verb) k
            = some (repX o (ApiStmt.ndss (s :: r)) (ApiStmt.dpss (s :: r) d) (ApiStmt.alls sform (s :: r)) (ApiStmt.alls sname (s :: r)) (ApiStmt.alls snumb (s :: r))) := by
        rintro _ rfl
        rw [j2 _ (hr2 _), j3 _ (Room.x (hr2 _)), repX_trans, repX_trans]
        simp only [ApiStmt.ndss, ApiStmt.dpss, ApiStmt.alls, ApiStmt.nds_eq, ApiStmt.dps_eq, ApiStmt.all_eq, sform, sname, snumb, stU, Bool.true_and, Bool.and_assoc, Nat.add_assoc, Nat.max_assoc, Nat.zero_add]
        congr 1
      cases hu : uPl s.Verb with
      | true =>
        rw [hu] at fin hr2
        rw [if_pos (show (stU s.Verb).1.place = true from hu), ob, repX_form _ (hr2 _).dep, ob, repX_trans]
        have := fin s.Place.place rfl
        simpa using this
      | false =>
        rw [hu] at fin
        rw [if_neg (by rw [show (stU s.Verb).1.place = false from hu]; simp)]
        have := fin true rfl
        rw [Bool.and_true] at this
        exact this
  rw [syntax_report_stmts]
  exact main l 0 o rfl hr
end Go.Proofs.YtmilgoloagbmpaaGreatDoor

set_option linter.unusedSimpArgs false
set_option linter.unusedVariables false
set_option maxHeartbeats 1000000
namespace Go.Proofs.YtmilgoloagbmpaaGreatDoor
open Go.Am

def isK (k : Int) : Bool := bif decide (k ≥ 0) then decide (k ≤ 6) else false
def uV2 (k : Int) : Bool := bif k == 5 then true else k == 6
def tN (t : ApiType) (u : Bool) : Nat := bif (bif !u then zeroT t else false) then 0 else t.nodes
def tD (t : ApiType) (u : Bool) : Nat := bif (bif !u then zeroT t else false) then 0 else t.depth
theorem tN_le (t : ApiType) (u : Bool) : tN t u ≤ t.bulk := by
  unfold tN
  have := ApiType.nodes_bulk t
  cases (bif !u then zeroT t else false) <;> simp <;> omega
def pOk (x : ApiDecl) : Bool := bif x.Kind == 4 then x.Init == 0 else false
def vOk (x : ApiDecl) : Bool := x.Kind == 4
def initOk (d : ApiDecl) : Bool := bif inside d.Init (-1048576) 1048576 then (bif d.TypeV.Kind != 0 then true else inside d.Init 0 1) else false
def noParts (d : ApiDecl) : Bool := bif (bif ((d.Params.length : Int) == 0) then ((d.Vars.length : Int) == 0) else false) then ((d.Body.length : Int) == 0) else false
def dform (d : ApiDecl) : Bool :=
  isK d.Kind && d.TypeV.all formN && oF d.Value (uV2 d.Kind) && (bif d.Kind == 4 then true else d.Init == 0) && (bif d.Kind == 6 then true else noParts d) && d.Params.all pOk && d.Vars.all vOk && ApiStmt.alls sform d.Body
def dname (d : ApiDecl) : Bool := d.TypeV.all nameN && isName d.Name && d.Value.all ename && ApiStmt.alls sname d.Body
def dnumb (d : ApiDecl) : Bool := d.TypeV.all numN && d.Value.all enumb && initOk d && ApiStmt.alls snumb d.Body

mutual
def ApiDecl.nds : ApiDecl → Nat
  | .mk k nm t i v ps vs bd => 1 + (tN t (isK k) + (oN v (uV2 k) + (ApiDecl.ndss ps + (ApiDecl.ndss vs + ApiStmt.ndss bd))))
def ApiDecl.ndss : List ApiDecl → Nat
  | [] => 0
  | x :: r => ApiDecl.nds x + ApiDecl.ndss r
end
mutual
def ApiDecl.dps : ApiDecl → Nat
  | .mk k nm t i v ps vs bd => max (tD t (isK k)) (max (oD v (uV2 k)) (max (ApiDecl.dpss ps) (max (ApiDecl.dpss vs) (ApiStmt.dpss bd 1))))
def ApiDecl.dpss : List ApiDecl → Nat
  | [] => 0
  | x :: r => max (ApiDecl.dps x) (ApiDecl.dpss r)
end
mutual
def ApiDecl.all (p : ApiDecl → Bool) : ApiDecl → Bool
  | .mk k nm t i v ps vs bd => p (.mk k nm t i v ps vs bd) && (ApiDecl.alls p ps && ApiDecl.alls p vs)
def ApiDecl.alls (p : ApiDecl → Bool) : List ApiDecl → Bool
  | [] => true
  | x :: r => ApiDecl.all p x && ApiDecl.alls p r
end
theorem ApiDecl.nds_eq (d : ApiDecl) : d.nds = 1 + (tN d.TypeV (isK d.Kind) + (oN d.Value (uV2 d.Kind) + (ApiDecl.ndss d.Params + (ApiDecl.ndss d.Vars + ApiStmt.ndss d.Body)))) := by cases d; simp only [ApiDecl.nds]
theorem ApiDecl.dps_eq (d : ApiDecl) : d.dps = max (tD d.TypeV (isK d.Kind)) (max (oD d.Value (uV2 d.Kind)) (max (ApiDecl.dpss d.Params) (max (ApiDecl.dpss d.Vars) (ApiStmt.dpss d.Body 1)))) := by cases d; simp only [ApiDecl.dps]
theorem ApiDecl.all_eq (p : ApiDecl → Bool) (d : ApiDecl) : d.all p = (p d && (ApiDecl.alls p d.Params && ApiDecl.alls p d.Vars)) := by cases d; simp only [ApiDecl.all]
theorem ApiDecl.ind {P : ApiDecl → Prop} (h : ∀ d : ApiDecl, (∀ x ∈ d.Params, P x) → (∀ x ∈ d.Vars, P x) → P d) : ∀ d, P d := by
  intro d
  refine ApiDecl.rec (motive_1 := P) (motive_2 := fun l => ∀ x ∈ l, P x) ?_ ?_ ?_ d
  · intro k nm t i v ps vs bd i1 i2
    exact h _ i1 i2
  · intro x hx; cases hx
  · intro x r hx hr y hy
    cases hy with
    | head => exact hx
    | tail _ hy => exact hr y hy
theorem ApiDecl.inds {Q : List ApiDecl → Prop} (h : ∀ l : List ApiDecl, (∀ x ∈ l, Q x.Params ∧ Q x.Vars) → Q l) : ∀ l, Q l := by
  have key : ∀ s : ApiDecl, Q s.Params ∧ Q s.Vars := fun s => by
    induction s using ApiDecl.ind with
    | h s i1 i2 => exact ⟨h _ i1, h _ i2⟩
  exact fun l => h l fun x _ => key x

theorem ApiDecl.bulk_eq (d : ApiDecl) : d.bulk = d.Name.length + d.TypeV.bulk + d.Value.bulk + ApiDecl.bulks d.Params + ApiDecl.bulks d.Vars + ApiStmt.bulks d.Body + 7 := by cases d; simp only [ApiDecl.bulk]; omega
theorem ApiDecl.bulk_mem {s : ApiDecl} : ∀ {l : List ApiDecl}, s ∈ l → s.bulk ≤ ApiDecl.bulks l
  | x :: r, h => by
    simp only [ApiDecl.bulks]
    cases h with
    | head => omega
    | tail _ h => have := ApiDecl.bulk_mem h; omega
theorem ApiDecl.bulk_len : ∀ l : List ApiDecl, l.length ≤ ApiDecl.bulks l
  | [] => Nat.le_refl _
  | x :: r => by
    simp only [ApiDecl.bulks, List.length_cons]
    have := ApiDecl.bulk_len r
    have := ApiDecl.bulk_eq x
    omega
mutual
theorem ApiDecl.nds_bulk : ∀ d : ApiDecl, d.nds ≤ d.bulk
  | .mk k nm t i v ps vs bd => by
    have := tN_le t (isK k)
    have := oN_le v (uV2 k)
    have := ApiDecl.ndss_bulk ps
    have := ApiDecl.ndss_bulk vs
    have := ApiStmt.ndss_bulk bd
    simp only [ApiDecl.nds, ApiDecl.bulk]; omega
theorem ApiDecl.ndss_bulk : ∀ l : List ApiDecl, ApiDecl.ndss l ≤ ApiDecl.bulks l
  | [] => Nat.le_refl _
  | x :: r => by
    have := ApiDecl.nds_bulk x
    have := ApiDecl.ndss_bulk r
    simp only [ApiDecl.ndss, ApiDecl.bulks]; omega
end
def OkD (l : List ApiDecl) : Prop := ApiDecl.bulks l ≤ BB
structure OkD1 (d : ApiDecl) : Prop where
  type : Ok d.TypeV
  value : OkE d.Value
  name : d.Name.length ≤ BB
  params : OkD d.Params
  vars : OkD d.Vars
  body : OkS d.Body
theorem OkD.mem {l : List ApiDecl} (h : OkD l) {d : ApiDecl} (hd : d ∈ l) : OkD1 d := by
  unfold OkD at h
  have h1 := ApiDecl.bulk_mem hd
  have h2 := ApiDecl.bulk_eq d
  refine ⟨?_, ?_, ?_, ?_, ?_, ?_⟩ <;> first | (unfold OkE; omega) | (unfold OkS; omega) | (unfold OkD; omega) | (unfold Ok; omega) | omega
theorem OkD.len {l : List ApiDecl} (h : OkD l) : l.length ≤ BB := Nat.le_trans (ApiDecl.bulk_len l) h

theorem zeroT_all : (ApiType.mk 0 0 0 0 [] [] []).all nameN = true ∧ (ApiType.mk 0 0 0 0 [] [] []).all numN = true := ⟨rfl, rfl⟩

/-- the flags of a list of declarations -/
theorem flags_l (c : List ApiDecl) (hc : c.length ≤ BB) (q : ApiDecl → Bool) (K : SyntaxReport → Option SyntaxReport) (F : SyntaxReport → Int → Option SyntaxReport)
    (hF : ∀ (o : SyntaxReport) (k : Int), F o k = if decide (k < (c.length : Int)) = true then idx c k >>= fun x => syntax_report_form (q x) o >>= fun y => F y (IntKind.i64.wrap (k + 1)) else K o) :
    ∀ (r : List ApiDecl) (k : Nat) (o : SyntaxReport), c.drop k = r → 0 ≤ o.depth → F o (k : Int) = K (repX o 0 0 (r.all q) true true)
  | [], k, o, h, hr => by
    rw [hF, (lp_out h).1, if_neg (by simp), List.all_nil, repX_zero o hr]
  | x :: r, k, o, h, hr => by
    obtain ⟨e1, e2, e3, e4, e5⟩ := lp_in h
    rw [hF, e1, if_pos rfl, e2, ob, repX_form o hr, ob, w1 (by omega), flags_l c hc q K F hF r (k + 1) _ e3 (by rw [repX_depth]; omega), repX_trans]
    rfl

theorem sdecls_eq (l : List ApiDecl) : OkD l → ∀ (o : SyntaxReport), Room o (ApiDecl.ndss l) →
    syntax_report_decls l o = some (repX o (ApiDecl.ndss l) (ApiDecl.dpss l) (ApiDecl.alls dform l) (ApiDecl.alls dname l) (ApiDecl.alls dnumb l)) := by
  induction l using ApiDecl.inds with
  | h l ih =>
  intro hl o hr
  have main : ∀ (r : List ApiDecl) (k : Nat) (o : SyntaxReport), l.drop k = r → Room o (ApiDecl.ndss r) → syntax_report_decls_l1 l o k = some (repX o (ApiDecl.ndss r) (ApiDecl.dpss r) (ApiDecl.alls dform r) (ApiDecl.alls dname r) (ApiDecl.alls dnumb r)) := by
    intro r
    induction r with
    | nil =>
      intro k o h hr
      rw [syntax_report_decls_l1, (lp_out h).1, if_neg (by simp)]
      exact congrArg some (repX_zero o hr.dep).symm
    | cons d r ihr =>
      intro k o h hr
      obtain ⟨e1, e2, e3, e4, e5⟩ := lp_in h
      have hs := hl.mem e5
      have hlen := hl.len
      obtain ⟨i1, i2⟩ := ih d e5
      simp only [ApiDecl.ndss, ApiDecl.nds_eq] at hr
      have hhi := hr.high
      have hbB : ApiStmt.bulks d.Body ≤ BB := hs.body
      have hlow := hr.low
      unfold BB at hhi
      -- the parts
      have l4 := flags_l d.Vars hs.vars.len vOk _ (fun o k' => syntax_report_decls_l4 l o d k k') (fun o k' => syntax_report_decls_l4.eq_1 l o d k k') d.Vars 0
      have l3 := flags_l d.Params hs.params.len pOk _ (fun o k' => syntax_report_decls_l3 l o d k k') (fun o k' => syntax_report_decls_l3.eq_1 l o d k k') d.Params 0
      rw [show ((0 : Nat) : Int) = 0 from rfl] at l4 l3
      have tail : ∀ o : SyntaxReport, Room o (ApiDecl.ndss d.Params + (ApiDecl.ndss d.Vars + (ApiStmt.ndss d.Body + ApiDecl.ndss r))) →
          syntax_report_decls_l3 l o d k 0 = some (repX o (ApiDecl.ndss d.Params + (ApiDecl.ndss d.Vars + (ApiStmt.ndss d.Body + ApiDecl.ndss r))) (max (ApiDecl.dpss d.Params) (max (ApiDecl.dpss d.Vars) (max (ApiStmt.dpss d.Body 1) (ApiDecl.dpss r))))
            (d.Params.all pOk && (d.Vars.all vOk && (ApiDecl.alls dform d.Params && (ApiDecl.alls dform d.Vars && (ApiStmt.alls sform d.Body && ApiDecl.alls dform r)))))
            (ApiDecl.alls dname d.Params && (ApiDecl.alls dname d.Vars && (ApiStmt.alls sname d.Body && ApiDecl.alls dname r)))
            (ApiDecl.alls dnumb d.Params && (ApiDecl.alls dnumb d.Vars && (ApiStmt.alls snumb d.Body && ApiDecl.alls dnumb r)))) := by
        intro o hr
        have q1 := hr.x0 (m := 0) (f := d.Params.all pOk) (a := true) (u := true)
        have q2 := q1.x0 (m := 0) (f := d.Vars.all vOk) (a := true) (u := true)
        rw [l3 o rfl hr.dep, l4 _ rfl q1.dep, i1 hs.params _ (q2.less (by omega)), ob, i2 hs.vars _ (Room.x (q2.less (by omega))), ob,
          show (1 : Int) = ((1 : Nat) : Int) from rfl, sstmts_eq d.Body hs.body 1 _ (by unfold BB at *; omega) (Room.x (Room.x (q2.less (by omega)))), ob, show ((k : Int) + ((1 : Nat) : Int)) = (k : Int) + 1 from rfl, w1 (by omega), ihr (k + 1) _ e3 (Room.x (Room.x (Room.x (q2.less (by omega)))))]
        simp only [repX_trans, Bool.true_and, Bool.and_assoc, Nat.zero_add, Nat.zero_max, Nat.add_assoc, Nat.max_assoc]
      have hin : (if ((inside d.Init (-1048576) 1048576) && (!(d.TypeV.Kind != 0))) = true then syntax_inside d.Init 0 1 else some default) = some (bif (inside d.Init (-1048576) 1048576) && (!(d.TypeV.Kind != 0)) then inside d.Init 0 1 else default) := by
        rw [rep_inside]
        cases ((inside d.Init (-1048576) 1048576) && (!(d.TypeV.Kind != 0))) <;> rfl
      have j2 : ∀ (x2 : Bool × Bool) (o : SyntaxReport), x2 = (isK d.Kind, uV2 d.Kind) → Room o (oN d.Value (uV2 d.Kind) + (ApiDecl.ndss d.Params + (ApiDecl.ndss d.Vars + (ApiStmt.ndss d.Body + ApiDecl.ndss r)))) →
          syntax_report_decls_j2 l o d x2 k = some (repX o (oN d.Value (uV2 d.Kind) + (ApiDecl.ndss d.Params + (ApiDecl.ndss d.Vars + (ApiStmt.ndss d.Body + ApiDecl.ndss r)))) (max (oD d.Value (uV2 d.Kind)) (max (ApiDecl.dpss d.Params) (max (ApiDecl.dpss d.Vars) (max (ApiStmt.dpss d.Body 1) (ApiDecl.dpss r)))))
            (oF d.Value (uV2 d.Kind) && ((bif d.Kind == 4 then true else d.Init == 0) && ((bif d.Kind == 6 then true else noParts d) && (d.Params.all pOk && (d.Vars.all vOk && (ApiDecl.alls dform d.Params && (ApiDecl.alls dform d.Vars && (ApiStmt.alls sform d.Body && ApiDecl.alls dform r))))))))
            (isName d.Name && (d.Value.all ename && (ApiDecl.alls dname d.Params && (ApiDecl.alls dname d.Vars && (ApiStmt.alls sname d.Body && ApiDecl.alls dname r)))))
            (d.Value.all enumb && (initOk d && (ApiDecl.alls dnumb d.Params && (ApiDecl.alls dnumb d.Vars && (ApiStmt.alls snumb d.Body && ApiDecl.alls dnumb r)))))) := by
        rintro _ o rfl hr
        have q1 := hr.x0 (m := 0) (f := true) (a := isName d.Name) (u := true)
        have q2 := Room.x (m := oD d.Value (uV2 d.Kind)) (f := oF d.Value (uV2 d.Kind)) (a := d.Value.all ename) (u := d.Value.all enumb) q1
        have hio : (bif inside d.Init (-1048576) 1048576 then (bif (d.TypeV.Kind != 0) then true else (bif (inside d.Init (-1048576) 1048576) && (!(d.TypeV.Kind != 0)) then inside d.Init 0 1 else default)) else false) = initOk d := by
          unfold initOk
          cases inside d.Init (-1048576) 1048576 <;> cases (d.TypeV.Kind != 0) <;> rfl
        rw [syntax_report_decls_j2, repX_name o hr.dep d.Name hs.name, ob, repX_opt d.Value (uV2 d.Kind) hs.value _ (q1.less (by omega)), ob, repX_form _ q2.dep, ob, rep_inside, ob, hin, ob, hio, repX_number _ (q2.x0).dep, ob, repX_form _ (q2.x0.x0).dep, ob, tail _ (q2.x0.x0.x0)]
        simp only [repX_trans, Bool.true_and, Bool.and_true, Bool.and_assoc, Nat.zero_add, Nat.add_zero, Nat.zero_max, Nat.max_zero, Nat.add_assoc, Nat.max_assoc, noParts]
      have hwn : (SyntaxReport.mk (IntKind.i64.wrap (o.nodes + 1)) o.depth o.badForm o.badName o.badNumber) = repX o 1 0 true true true := by
        rw [wr (by omega) (by omega)]
        simp only [repX, Bool.not_true, Bool.or_false]
        have := hr.dep
        rw [show max o.depth ((0 : Nat) : Int) = o.depth by omega]
        rfl
      have q1 : Room (repX o 1 0 true true true) (tN d.TypeV (isK d.Kind) + (oN d.Value (uV2 d.Kind) + (ApiDecl.ndss d.Params + (ApiDecl.ndss d.Vars + (ApiStmt.ndss d.Body + ApiDecl.ndss r))))) := Room.x (hr.less (by omega))
      have q2 := q1.x0 (m := 0) (f := isK d.Kind) (a := true) (u := true)
      rw [syntax_report_decls_l1, e1, if_pos rfl, e2, ob, show syntax_declared d.Kind = some (isK d.Kind, uV2 d.Kind) from rfl, ob]
      show (syntax_report_form (isK d.Kind) _ >>= _) = _
      rw [hwn, repX_form _ q1.dep, ob, sEqualT_eq d.TypeV hs.type]
      show ((if (!(isK d.Kind)) = true then some (zeroT d.TypeV) else some default) >>= _) = _
      cases hk : isK d.Kind with
      | true =>
        rw [hk] at q2
        have q3 := q2
        unfold tN at q3
        simp only [Bool.not_true, cond_false] at q3
        rw [if_neg (by simp), ob]
        rw [if_pos (show (bif (true, uV2 d.Kind).1 then true else !default) = true from rfl), repX_typ d.TypeV hs.type _ (q3.less (by omega)), ob, j2 _ _ (by rw [hk]) (Room.x q3)]
        simp only [repX_trans, ApiDecl.ndss, ApiDecl.dpss, ApiDecl.alls, ApiDecl.nds_eq, ApiDecl.dps_eq, ApiDecl.all_eq, dform, dname, dnumb, hk, tN, tD, Bool.not_true, cond_false, Bool.true_and, Bool.and_assoc, Nat.add_assoc, Nat.max_assoc, Nat.zero_max, Nat.zero_add]
        congr 1
        simp only [repX]
        congr 1
        all_goals first
          | (congr 1; congr 1; ac_rfl)
          | (congr 1; congr 1)
          | skip
      | false =>
        rw [hk] at q2
        rw [if_pos (show (!false) = true from rfl), ob]
        show (if (!(zeroT d.TypeV)) = true then _ else _) = _
        cases hz : zeroT d.TypeV with
        | true =>
          unfold tN at q2
          rw [hz] at q2
          simp only [Bool.not_false, cond_true, Nat.zero_add] at q2
          rw [if_neg (by simp), j2 _ _ (by rw [hk]) q2]
          have hzt := zeroT_of hz
          simp only [repX_trans, ApiDecl.ndss, ApiDecl.dpss, ApiDecl.alls, ApiDecl.nds_eq, ApiDecl.dps_eq, ApiDecl.all_eq, dform, dname, dnumb, hk, tN, tD, hz, Bool.not_false, cond_true, Bool.true_and, Bool.false_and, Bool.and_assoc, Nat.add_assoc, Nat.max_assoc, Nat.zero_max, Nat.zero_add]
          rw [hzt, zeroT_all.1, zeroT_all.2]
          simp only [Bool.true_and]
          congr 1
          simp only [repX]
          congr 1
          all_goals first
            | (congr 1; congr 1; ac_rfl)
            | (congr 1; congr 1)
            | skip
        | false =>
          have q3 := q2
          unfold tN at q3
          rw [hz] at q3
          simp only [Bool.not_false, cond_false, cond_true] at q3
          rw [if_pos (by simp), repX_typ d.TypeV hs.type _ (q3.less (by omega)), ob, j2 _ _ (by rw [hk]) (Room.x q3)]
          simp only [repX_trans, ApiDecl.ndss, ApiDecl.dpss, ApiDecl.alls, ApiDecl.nds_eq, ApiDecl.dps_eq, ApiDecl.all_eq, dform, dname, dnumb, hk, tN, tD, hz, Bool.not_false, cond_true, cond_false, Bool.true_and, Bool.false_and, Bool.and_assoc, Nat.add_assoc, Nat.max_assoc, Nat.zero_max, Nat.zero_add]
          congr 1
          simp only [repX]
          congr 1
          all_goals first
            | (congr 1; congr 1; ac_rfl)
            | (congr 1; congr 1)
            | skip
  rw [syntax_report_decls]
  exact main l 0 o rfl hr

structure OkP (p : ApiProgram) : Prop where
  decls : OkD p.Decls
  body : OkS p.Body
def nodesP (p : ApiProgram) : Nat := ApiDecl.ndss p.Decls + ApiStmt.ndss p.Body
def depthP (p : ApiProgram) : Nat := max (ApiDecl.dpss p.Decls) (ApiStmt.dpss p.Body 1)
def checkP (p : ApiProgram) : Int :=
  repCode (nodesP p) (depthP p) (!(ApiDecl.alls dform p.Decls && ApiStmt.alls sform p.Body)) (!(ApiDecl.alls dname p.Decls && ApiStmt.alls sname p.Body)) (!(ApiDecl.alls dnumb p.Decls && ApiStmt.alls snumb p.Body))
theorem program_eq (p : ApiProgram) (h : OkP p) : syntax_program p = some (repX ⟨0, 0, false, false, false⟩ (nodesP p) (depthP p) (ApiDecl.alls dform p.Decls && ApiStmt.alls sform p.Body) (ApiDecl.alls dname p.Decls && ApiStmt.alls sname p.Body) (ApiDecl.alls dnumb p.Decls && ApiStmt.alls snumb p.Body)) := by
  have h1 := ApiDecl.ndss_bulk p.Decls
  have h2 := ApiStmt.ndss_bulk p.Body
  have h3 : ApiDecl.bulks p.Decls ≤ BB := h.decls
  have h4 : ApiStmt.bulks p.Body ≤ BB := h.body
  have hr : Room ⟨0, 0, false, false, false⟩ (ApiDecl.ndss p.Decls + ApiStmt.ndss p.Body) := ⟨Int.le_refl _, Int.le_refl _, by simp only; omega⟩
  unfold syntax_program
  rw [sdecls_eq p.Decls h.decls _ (hr.less (by omega)), ob, show (1 : Int) = ((1 : Nat) : Int) from rfl, sstmts_eq p.Body h.body 1 _ (by unfold BB at *; omega) (Room.x hr), ob, repX_trans]
  rfl
theorem repX_code (n m : Nat) (f a u : Bool) : syntax_report_code (repX ⟨0, 0, false, false, false⟩ n m f a u) = some (repCode n m (!f) (!a) (!u)) := by
  rw [rep_code]
  simp only [repX, Bool.false_or]
  rw [show (0 : Int) + (n : Int) = n by omega, show max (0 : Int) (m : Int) = m by omega]
theorem Check_eq (p : ApiProgram) (h : OkP p) : syntax_Check p = some (checkP p) := by
  unfold syntax_Check
  rw [program_eq p h, ob, repX_code, ob]
  rfl
def sizeP (p : ApiProgram) : Int × Int := bif checkP p != 0 then (0, checkP p) else ((nodesP p : Int), 0)
theorem Size_eq (p : ApiProgram) (h : OkP p) : syntax_Size p = some (sizeP p) := by
  unfold syntax_Size
  rw [program_eq p h, ob, repX_code, ob]
  unfold sizeP
  show (if (checkP p != 0) = true then some (0, checkP p) else some ((repX _ _ _ _ _ _).nodes, 0)) = _
  rw [repX_nodes, show (0 : Int) + ((nodesP p : Nat) : Int) = (nodesP p : Int) by omega]
  cases checkP p != 0 <;> rfl
end Go.Proofs.YtmilgoloagbmpaaGreatDoor

set_option linter.unusedSimpArgs false
set_option linter.unusedVariables false
set_option maxHeartbeats 1000000
namespace Go.Proofs.YtmilgoloagbmpaaGreatDoor
open Go.Am

theorem ifs {b c : Bool} {X : Option Bool} {y : Bool} (h : b = !c) (hx : X = some y) : (if b = true then some false else X) = some (c && y) := by
  subst h
  rw [hx]
  cases c <;> rfl
theorem ifd (c a : Bool) : (if c = true then some a else some default) = some (bif c then a else default) := by cases c <;> rfl

theorem rUP (v : Int) : ref10_usesPlace v = some (uPl v) := rfl
theorem rUV (v : Int) : ref10_usesValue v = some (uVa v) := rfl
theorem rUN (v : Int) : ref10_usesName v = some (uNm v) := rfl
theorem rUNn (v : Int) : ref10_usesN v = some (uNn v) := rfl
theorem rUT (v : Int) : ref10_usesThen v = some (uTh v) := rfl
theorem rDT (k : Int) : ref10_declType k = some (isK k) := rfl
theorem rDV (k : Int) : ref10_declValue k = some (uV2 k) := rfl

/-! ### sizes -/
def szX (s : Keyholeref10Size) (n m : Nat) : Keyholeref10Size := ⟨s.nodes + n, max s.depth m⟩
theorem szX_trans (s : Keyholeref10Size) (n m n' m' : Nat) : szX (szX s n m) n' m' = szX s (n + n') (max m m') := by
  simp only [szX]
  rw [show s.nodes + (n : Int) + (n' : Int) = s.nodes + ((n + n' : Nat) : Int) by omega, show max (max s.depth (m : Int)) (m' : Int) = max s.depth ((max m m' : Nat) : Int) by omega]
structure SRoom (s : Keyholeref10Size) (n : Nat) : Prop where
  dep : 0 ≤ s.depth
  low : 0 ≤ s.nodes
  high : s.nodes + n ≤ 3 * BB
theorem SRoom.x {s : Keyholeref10Size} {n k m : Nat} (h : SRoom s (k + n)) : SRoom (szX s k m) n := by
  obtain ⟨h1, h2, h3⟩ := h
  refine ⟨?_, ?_, ?_⟩ <;> simp only [szX] <;> omega
theorem SRoom.less {s : Keyholeref10Size} {n k : Nat} (h : SRoom s n) (hk : k ≤ n) : SRoom s k := ⟨h.dep, h.low, by have := h.high; omega⟩
theorem szX_zero (s : Keyholeref10Size) (h : 0 ≤ s.depth) : szX s 0 0 = s := by
  simp only [szX]
  rw [show s.nodes + ((0 : Nat) : Int) = s.nodes by omega, show max s.depth ((0 : Nat) : Int) = s.depth by omega]
theorem radd_opt (s : Keyholeref10Size) (e : ApiExpr) (u : Bool) (h : OkE e) (hr : SRoom s (oN e u)) : ref10_addExpr s e u = some (szX s (oN e u) (oD e u)) := by
  have hn := h.nodes
  have hh := hr.high
  have hl := hr.low
  unfold ref10_addExpr
  rw [rzeroE_eq e h, ifd, ob, reNodes_eq e h, reDepth_eq e h]
  unfold oN oD at *
  cases u with
  | true =>
    simp only [Bool.not_true, cond_false] at *
    unfold BB at hh hn
    rw [if_neg (by simp), ob, ob, deeper_eq, ob, wr (n := s.nodes + (e.nodes : Int)) (by omega) (by omega)]
    rfl
  | false =>
    simp only [Bool.not_false, cond_true] at *
    cases hz : zeroE e with
    | true => rw [if_pos rfl]; exact congrArg some (szX_zero s hr.dep).symm
    | false =>
      rw [hz] at hh
      simp only [cond_false] at hh
      unfold BB at hh hn
      rw [if_neg (by simp), ob, ob, deeper_eq, ob, wr (n := s.nodes + (e.nodes : Int)) (by omega) (by omega)]
      rfl
theorem radd_typ (s : Keyholeref10Size) (t : ApiType) (u : Bool) (h : Ok t) (hr : SRoom s (tN t u)) : ref10_addType s t u = some (szX s (tN t u) (tD t u)) := by
  have hn := h.nodes
  have hh := hr.high
  have hl := hr.low
  unfold ref10_addType
  rw [rzeroT_eq t h, ifd, ob, rNodes_eq t h, rDepth_eq t h]
  unfold tN tD at *
  cases u with
  | true =>
    simp only [Bool.not_true, cond_false] at *
    unfold BB at hh hn
    rw [if_neg (by simp), ob, ob, deeper_eq, ob, wr (n := s.nodes + (t.nodes : Int)) (by omega) (by omega)]
    rfl
  | false =>
    simp only [Bool.not_false, cond_true] at *
    cases hz : zeroT t with
    | true => rw [if_pos rfl]; exact congrArg some (szX_zero s hr.dep).symm
    | false =>
      rw [hz] at hh
      simp only [cond_false] at hh
      unfold BB at hh hn
      rw [if_neg (by simp), ob, ob, deeper_eq, ob, wr (n := s.nodes + (t.nodes : Int)) (by omega) (by omega)]
      rfl
theorem rdeep1 (s : Keyholeref10Size) (hr : SRoom s 1) (d : Nat) : ref10_size_deeper ⟨IntKind.i64.wrap (s.nodes + 1), s.depth⟩ (d : Int) = some (szX s 1 d) := by
  have hh := hr.high
  have hl := hr.low
  unfold BB at hh
  rw [deeper_eq, wr (n := s.nodes + 1) (by omega) (by omega)]
  rfl
theorem oN_used (e : ApiExpr) : oN e true = e.nodes ∧ oD e true = e.depth := ⟨rfl, rfl⟩
theorem radd_args (s : ApiStmt) (hs : OkS1 s) (K : Keyholeref10Size → Option Keyholeref10Size) (F : Keyholeref10Size → Int → Option Keyholeref10Size)
    (hF : ∀ (o : Keyholeref10Size) (k : Int), F o k = if decide (k < (s.Args.length : Int)) = true then idx s.Args k >>= fun x => ref10_addExpr o x true >>= fun y => F y (IntKind.i64.wrap (k + 1)) else K o) :
    ∀ (r : List ApiExpr) (k : Nat) (o : Keyholeref10Size), s.Args.drop k = r → SRoom o (ApiExpr.nodess r) → F o (k : Int) = K (szX o (ApiExpr.nodess r) (ApiExpr.depths r))
  | [], k, o, h, hr => by
    rw [hF, (lp_out h).1, if_neg (by simp)]
    simp only [ApiExpr.nodess, ApiExpr.depths]
    rw [szX_zero o hr.dep]
  | x :: r, k, o, h, hr => by
    obtain ⟨e1, e2, e3, e4, e5⟩ := lp_in h
    have := hs.args
    simp only [ApiExpr.nodess] at hr
    rw [hF, e1, if_pos rfl, e2, ob, radd_opt o x true (hs.arg x e5) (hr.less (by rw [(oN_used x).1]; omega)), ob, (oN_used x).1, (oN_used x).2, w1 (by omega), radd_args s hs K F hF r (k + 1) _ e3 hr.x, szX_trans]
    rfl
theorem raddStmts_eq (l : List ApiStmt) : OkS l → ∀ (d : Nat) (o : Keyholeref10Size), d + ApiStmt.bulks l ≤ 3 * BB → SRoom o (ApiStmt.ndss l) → ref10_addStmts o l d = some (szX o (ApiStmt.ndss l) (ApiStmt.dpss l d)) := by
  induction l using ApiStmt.inds with
  | h l ih =>
  intro hl d o hd hr
  have main : ∀ (r : List ApiStmt) (k : Nat) (o : Keyholeref10Size), l.drop k = r → SRoom o (ApiStmt.ndss r) → ref10_addStmts_l1 l d o k = some (szX o (ApiStmt.ndss r) (ApiStmt.dpss r d)) := by
    intro r
    induction r with
    | nil =>
      intro k o h hr
      rw [ref10_addStmts_l1, (lp_out h).1, if_neg (by simp)]
      exact congrArg some (szX_zero o hr.dep).symm
    | cons s r ihr =>
      intro k o h hr
      obtain ⟨e1, e2, e3, e4, e5⟩ := lp_in h
      have hs := hl.mem e5
      have hlen := hl.len
      obtain ⟨i1, i2⟩ := ih s e5
      have hbm := ApiStmt.bulk_mem e5
      have hbe := ApiStmt.bulk_eq s
      simp only [ApiStmt.ndss, ApiStmt.nds_eq] at hr
      unfold BB at hd
      have hwd : IntKind.i64.wrap ((d : Int) + 1) = ((d + 1 : Nat) : Int) := by rw [wr (by omega) (by omega)]; rfl
      have args := radd_args s hs _ (fun o k' => ref10_addStmts_l2 l d o s k k') (fun o k' => ref10_addStmts_l2.eq_1 l d o s k k') s.Args 0
      rw [show ((0 : Nat) : Int) = 0 from rfl] at args
      have q1 : SRoom (szX o 1 d) (oN s.Place (uPl s.Verb) + (oN s.Value (uVa s.Verb) + (ApiExpr.nodess s.Args + (ApiStmt.ndss s.Then + (ApiStmt.ndss s.Else + ApiStmt.ndss r))))) := SRoom.x (hr.less (by omega))
      have q2 := SRoom.x (m := oD s.Place (uPl s.Verb)) q1
      have q3 := SRoom.x (m := oD s.Value (uVa s.Verb)) q2
      have q4 := SRoom.x (m := ApiExpr.depths s.Args) q3
      have q5 := SRoom.x (m := ApiStmt.dpss s.Then (d + 1)) q4
      have q6 := SRoom.x (m := ApiStmt.dpss s.Else (d + 1)) q5
      rw [ref10_addStmts_l1, e1, if_pos rfl, e2, ob, rdeep1 o (hr.less (by omega)) d, ob, rUP, ob, radd_opt _ s.Place _ hs.place (q1.less (by omega)), ob, rUV, ob, radd_opt _ s.Value _ hs.value (q2.less (by omega)), ob,
        args _ rfl (q3.less (by omega)), hwd, i1 hs.thens (d + 1) _ (by unfold BB; omega) (q4.less (by omega)), ob, i2 hs.elses (d + 1) _ (by unfold BB; omega) (q5.less (by omega)), ob, w1 (by omega), ihr (k + 1) _ e3 q6]
      simp only [szX_trans, ApiStmt.ndss, ApiStmt.dpss, ApiStmt.nds_eq, ApiStmt.dps_eq, Nat.add_assoc, Nat.max_assoc]
  rw [ref10_addStmts]
  exact main l 0 o rfl hr
theorem raddDecls_eq (l : List ApiDecl) : OkD l → ∀ (o : Keyholeref10Size), SRoom o (ApiDecl.ndss l) → ref10_addDecls o l = some (szX o (ApiDecl.ndss l) (ApiDecl.dpss l)) := by
  induction l using ApiDecl.inds with
  | h l ih =>
  intro hl o hr
  have main : ∀ (r : List ApiDecl) (k : Nat) (o : Keyholeref10Size), l.drop k = r → SRoom o (ApiDecl.ndss r) → ref10_addDecls_l1 l o k = some (szX o (ApiDecl.ndss r) (ApiDecl.dpss r)) := by
    intro r
    induction r with
    | nil =>
      intro k o h hr
      rw [ref10_addDecls_l1, (lp_out h).1, if_neg (by simp)]
      exact congrArg some (szX_zero o hr.dep).symm
    | cons s r ihr =>
      intro k o h hr
      obtain ⟨e1, e2, e3, e4, e5⟩ := lp_in h
      have hs := hl.mem e5
      have hlen := hl.len
      obtain ⟨i1, i2⟩ := ih s e5
      have hbB : ApiStmt.bulks s.Body ≤ BB := hs.body
      simp only [ApiDecl.ndss, ApiDecl.nds_eq] at hr
      have hh := hr.high
      have hlo := hr.low
      have hw : (Keyholeref10Size.mk (IntKind.i64.wrap (o.nodes + 1)) o.depth) = szX o 1 0 := by
        unfold BB at hh
        rw [wr (by omega) (by omega)]
        have := hr.dep
        simp only [szX]
        rw [show max o.depth ((0 : Nat) : Int) = o.depth by omega]
        rfl
      have q1 : SRoom (szX o 1 0) (tN s.TypeV (isK s.Kind) + (oN s.Value (uV2 s.Kind) + (ApiDecl.ndss s.Params + (ApiDecl.ndss s.Vars + (ApiStmt.ndss s.Body + ApiDecl.ndss r))))) := SRoom.x (hr.less (by omega))
      have q2 := SRoom.x (m := tD s.TypeV (isK s.Kind)) q1
      have q3 := SRoom.x (m := oD s.Value (uV2 s.Kind)) q2
      have q4 := SRoom.x (m := ApiDecl.dpss s.Params) q3
      have q5 := SRoom.x (m := ApiDecl.dpss s.Vars) q4
      have q6 := SRoom.x (m := ApiStmt.dpss s.Body 1) q5
      rw [ref10_addDecls_l1, e1, if_pos rfl, e2, ob, rDT, ob, hw, radd_typ _ s.TypeV _ hs.type (q1.less (by omega)), ob, rDV, ob, radd_opt _ s.Value _ hs.value (q2.less (by omega)), ob, i1 hs.params _ (q3.less (by omega)), ob, i2 hs.vars _ (q4.less (by omega)), ob,
        show (1 : Int) = ((1 : Nat) : Int) from rfl, raddStmts_eq s.Body hs.body 1 _ (by unfold BB at *; omega) (q5.less (by omega)), ob, show ((k : Int) + ((1 : Nat) : Int)) = (k : Int) + 1 from rfl, w1 (by omega), ihr (k + 1) _ e3 q6]
      simp only [szX_trans, ApiDecl.ndss, ApiDecl.dpss, ApiDecl.nds_eq, ApiDecl.dps_eq, Nat.add_assoc, Nat.max_assoc, Nat.zero_max]
  rw [ref10_addDecls]
  exact main l 0 o rfl hr

/-! ### form -/
theorem rargs (s : ApiStmt) (hs : OkS1 s) (p : ApiExpr → Bool) (g : ApiExpr → Option Bool) (hg : ∀ x ∈ s.Args, g x = some (x.all p)) (K : Option Bool) (F : Int → Option Bool) (y : Bool) (hK : K = some y)
    (hF : ∀ k : Int, F k = if decide (k < (s.Args.length : Int)) = true then idx s.Args k >>= fun x => g x >>= fun b => if (!b) = true then some false else F (IntKind.i64.wrap (k + 1)) else K) :
    ∀ (r : List ApiExpr) (k : Nat), s.Args.drop k = r → F (k : Int) = some (ApiExpr.alls p r && y)
  | [], k, h => by rw [hF, (lp_out h).1, if_neg (by simp), hK]; rfl
  | x :: r, k, h => by
    obtain ⟨e1, e2, e3, e4, e5⟩ := lp_in h
    have := hs.args
    rw [hF, e1, if_pos rfl, e2, ob, hg x e5, ob, w1 (by omega), rargs s hs p g hg K F y hK hF r (k + 1) e3, ApiExpr.alls]
    cases x.all p <;> simp
theorem rstmtsForm_eq (l : List ApiStmt) : OkS l → ref10_stmtsForm l = some (ApiStmt.alls sform l) := by
  induction l using ApiStmt.inds with
  | h l ih =>
  intro hl
  have main : ∀ (r : List ApiStmt) (k : Nat), l.drop k = r → ref10_stmtsForm_l1 l k = some (ApiStmt.alls sform r) := by
    intro r
    induction r with
    | nil => intro k h; rw [ref10_stmtsForm_l1, (lp_out h).1, if_neg (by simp)]; rfl
    | cons s r ihr =>
      intro k h
      obtain ⟨e1, e2, e3, e4, e5⟩ := lp_in h
      have hs := hl.mem e5
      have hlen := hl.len
      obtain ⟨i1, i2⟩ := ih s e5
      have l2 := rargs s hs eform ref10_exprForm (fun x hx => reForm_eq x (hs.arg x hx)) _ (fun k' => ref10_stmtsForm_l2 l s k k') (ApiStmt.alls sform s.Then && ApiStmt.alls sform s.Else && ApiStmt.alls sform r)
        (by
          rw [i1 hs.thens, ob, i2 hs.elses, ifd, ob, w1 (by omega), ihr (k + 1) e3]
          cases ApiStmt.alls sform s.Then <;> cases ApiStmt.alls sform s.Else <;> simp)
        (fun k' => ref10_stmtsForm_l2.eq_1 l s k k') s.Args 0 rfl
      rw [show ((0 : Nat) : Int) = 0 from rfl] at l2
      rw [ref10_stmtsForm_l1, e1, if_pos rfl, e2, ob]
      simp only [rUP, rUV, rUN, rUNn, rUT, rplace_eq, reForm_eq _ hs.place, reForm_eq _ hs.value, rzeroE_eq _ hs.place, rzeroE_eq _ hs.value, ifd, ob]
      have := ifs (b := bif decide (s.Verb < 0) then true else decide (s.Verb > 8)) (c := okV s.Verb) (by unfold okV; rw [Bool.not_not])
        (ifs (c := oF s.Place (uPl s.Verb) && (bif uPl s.Verb then s.Place.place else true)) (b := bif (bif uPl s.Verb then (bif (!(bif uPl s.Verb then s.Place.place else default)) then true else (!(bif (uPl s.Verb && (!(!(bif uPl s.Verb then s.Place.place else default)))) then s.Place.all eform else default))) else false) then true else (bif (!(bif (!(bif uPl s.Verb then (bif (!(bif uPl s.Verb then s.Place.place else default)) then true else (!(bif (uPl s.Verb && (!(!(bif uPl s.Verb then s.Place.place else default)))) then s.Place.all eform else default))) else false)) then uPl s.Verb else default)) then (!(bif ((!(bif uPl s.Verb then (bif (!(bif uPl s.Verb then s.Place.place else default)) then true else (!(bif (uPl s.Verb && (!(!(bif uPl s.Verb then s.Place.place else default)))) then s.Place.all eform else default))) else false)) && (!(bif (!(bif uPl s.Verb then (bif (!(bif uPl s.Verb then s.Place.place else default)) then true else (!(bif (uPl s.Verb && (!(!(bif uPl s.Verb then s.Place.place else default)))) then s.Place.all eform else default))) else false)) then uPl s.Verb else default))) then zeroE s.Place else default)) else false))
          (by unfold oF; cases uPl s.Verb <;> cases s.Place.place <;> cases s.Place.all eform <;> cases zeroE s.Place <;> rfl)
        (ifs (c := oF s.Value (uVa s.Verb)) (b := bif (bif uVa s.Verb then (!(bif uVa s.Verb then s.Value.all eform else default)) else false) then true else (bif (!(bif (!(bif uVa s.Verb then (!(bif uVa s.Verb then s.Value.all eform else default)) else false)) then uVa s.Verb else default)) then (!(bif ((!(bif uVa s.Verb then (!(bif uVa s.Verb then s.Value.all eform else default)) else false)) && (!(bif (!(bif uVa s.Verb then (!(bif uVa s.Verb then s.Value.all eform else default)) else false)) then uVa s.Verb else default))) then zeroE s.Value else default)) else false))
          (by unfold oF; cases uVa s.Verb <;> cases s.Value.all eform <;> cases zeroE s.Value <;> rfl)
        (ifs (c := (bif uNm s.Verb then true else s.Name == []) && (bif s.Verb == 1 then true else ((s.Args.length : Int) == 0)) && (bif uNn s.Verb then true else s.NV == 0) && (bif s.Verb == 7 then true else (bif s.Low == 0 then s.High == 0 else false)) && (bif s.Verb == 8 then true else ((s.Numbers.length : Int) == 0)))
          (b := bif (bif (bif (bif (bif (!(uNm s.Verb)) then (!(s.Name == [])) else false) then true else (bif (s.Verb != 1) then (((s.Args).length : Int) != 0) else false)) then true else (bif (!(bif (!(bif (bif (!(uNm s.Verb)) then (!(s.Name == [])) else false) then true else (bif (s.Verb != 1) then (((s.Args).length : Int) != 0) else false))) then uNn s.Verb else default)) then (s.NV != 0) else false)) then true else (bif (s.Verb != 7) then (bif (s.Low != 0) then true else (s.High != 0)) else false)) then true else (bif (s.Verb != 8) then (((s.Numbers).length : Int) != 0) else false))
          (by
            unfold bne
            generalize (s.Verb == 1) = a1; generalize (s.Verb == 7) = a2; generalize (s.Verb == 8) = a3; generalize (s.Name == []) = a4; generalize ((s.Args.length : Int) == 0) = a5; generalize (s.NV == 0) = a6; generalize (s.Low == 0) = a7; generalize (s.High == 0) = a8
            generalize ((s.Numbers.length : Int) == 0) = a9; generalize uNm s.Verb = b1; generalize uNn s.Verb = b2
            cases b1 <;> cases a4 <;> cases a1 <;> cases a5 <;> cases b2 <;> cases a6 <;> first | rfl | (cases a2 <;> cases a7 <;> cases a8 <;> cases a3 <;> cases a9 <;> rfl))
        (ifs (c := (bif uTh s.Verb then true else ((s.Then.length : Int) == 0)) && (bif s.Verb == 5 then true else ((s.Else.length : Int) == 0))) (b := bif (bif (!(uTh s.Verb)) then (((s.Then).length : Int) != 0) else false) then true else (bif (s.Verb != 5) then (((s.Else).length : Int) != 0) else false))
          (by
            unfold bne
            generalize (s.Verb == 5) = a1; generalize ((s.Then.length : Int) == 0) = a2; generalize ((s.Else.length : Int) == 0) = a3
            generalize uTh s.Verb = a0
            cases a0 <;> cases a1 <;> cases a2 <;> cases a3 <;> rfl) l2))))
      refine this.trans ?_
      simp only [ApiStmt.alls, ApiStmt.all_eq, sform, Bool.and_assoc]
      congr 1
      generalize ApiExpr.alls eform s.Args = x
      generalize (bif s.Verb == 1 then true else ((s.Args.length : Int) == 0)) = y
      ac_rfl
  rw [ref10_stmtsForm]
  exact main l 0 rfl
end Go.Proofs.YtmilgoloagbmpaaGreatDoor

set_option linter.unusedSimpArgs false
set_option linter.unusedVariables false
set_option maxHeartbeats 1000000
namespace Go.Proofs.YtmilgoloagbmpaaGreatDoor
open Go.Am

/-! ### form of declarations -/
theorem rflags (c : List ApiDecl) (hc : c.length ≤ BB) (q : ApiDecl → Bool) (K : Option Bool) (F : Int → Option Bool) (y : Bool) (hK : K = some y)
    (hF : ∀ (r : List ApiDecl) (k : Nat) (x : ApiDecl), c.drop k = x :: r → F (k : Int) = if q x = true then F (IntKind.i64.wrap ((k : Int) + 1)) else some false) (hE : ∀ k : Nat, c.drop k = [] → F (k : Int) = K) :
    ∀ (r : List ApiDecl) (k : Nat), c.drop k = r → F (k : Int) = some (r.all q && y)
  | [], k, h => by rw [hE k h, hK]; rfl
  | x :: r, k, h => by
    obtain ⟨e1, e2, e3, e4, e5⟩ := lp_in h
    rw [hF r k x h, w1 (by omega), rflags c hc q K F y hK hF hE r (k + 1) e3, List.all_cons]
    cases q x <;> simp
theorem rdeclsForm_eq (l : List ApiDecl) : OkD l → ref10_declsForm l = some (ApiDecl.alls dform l) := by
  induction l using ApiDecl.inds with
  | h l ih =>
  intro hl
  have main : ∀ (r : List ApiDecl) (k : Nat), l.drop k = r → ref10_declsForm_l1 l k = some (ApiDecl.alls dform r) := by
    intro r
    induction r with
    | nil => intro k h; rw [ref10_declsForm_l1, (lp_out h).1, if_neg (by simp)]; rfl
    | cons d r ihr =>
      intro k h
      obtain ⟨e1, e2, e3, e4, e5⟩ := lp_in h
      have hs := hl.mem e5
      have hlen := hl.len
      obtain ⟨i1, i2⟩ := ih d e5
      have l3 := rflags d.Vars hs.vars.len vOk _ (fun k' => ref10_declsForm_l3 l d k k') (ApiDecl.alls dform d.Params && ApiDecl.alls dform d.Vars && ApiStmt.alls sform d.Body && ApiDecl.alls dform r) rfl
        (fun r' k' x hx => by
          obtain ⟨f1, f2, f3, f4, f5⟩ := lp_in hx
          show ref10_declsForm_l3 l d k k' = _
          rw [ref10_declsForm_l3, f1, if_pos rfl, f2, ob]
          unfold vOk bne
          cases (x.Kind == 4) <;> rfl)
        (fun k' hx => by
          show ref10_declsForm_l3 l d k k' = _
          rw [ref10_declsForm_l3, (lp_out hx).1, if_neg (by simp), i1 hs.params, ob, i2 hs.vars, ifd, ob, rstmtsForm_eq d.Body hs.body, ifd, ob, w1 (by omega), ihr (k + 1) e3]
          cases ApiDecl.alls dform d.Params <;> cases ApiDecl.alls dform d.Vars <;> cases ApiStmt.alls sform d.Body <;> simp) d.Vars 0 rfl
      have l2 := rflags d.Params hs.params.len pOk _ (fun k' => ref10_declsForm_l2 l d k k') (d.Vars.all vOk && (ApiDecl.alls dform d.Params && ApiDecl.alls dform d.Vars && ApiStmt.alls sform d.Body && ApiDecl.alls dform r)) rfl
        (fun r' k' x hx => by
          obtain ⟨f1, f2, f3, f4, f5⟩ := lp_in hx
          show ref10_declsForm_l2 l d k k' = _
          rw [ref10_declsForm_l2, f1, if_pos rfl, f2, ob]
          unfold pOk bne
          cases (x.Kind == 4)
          · rfl
          · simp only [Bool.not_true, Bool.not_false, if_true, ob, cond_true, cond_false]
            cases (x.Init == 0) <;> rfl)
        (fun k' hx => by
          show ref10_declsForm_l2 l d k k' = _
          rw [ref10_declsForm_l2, (lp_out hx).1, if_neg (by simp)]
          exact l3) d.Params 0 rfl
      rw [show ((0 : Nat) : Int) = 0 from rfl] at l2
      rw [ref10_declsForm_l1, e1, if_pos rfl, e2, ob]
      simp only [rDT, rDV, rForm_eq _ hs.type, reForm_eq _ hs.value, rzeroE_eq _ hs.value, ifd, ob]
      have := ifs (b := bif (!(isK d.Kind)) then true else (!(bif (!(!(isK d.Kind))) then d.TypeV.all formN else default))) (c := isK d.Kind && d.TypeV.all formN) (by cases isK d.Kind <;> cases d.TypeV.all formN <;> rfl)
        (ifs (c := oF d.Value (uV2 d.Kind) && (bif d.Kind == 4 then true else d.Init == 0)) (b := bif (bif (bif uV2 d.Kind then (!(bif uV2 d.Kind then d.Value.all eform else default)) else false) then true else (bif (!(bif (!(bif uV2 d.Kind then (!(bif uV2 d.Kind then d.Value.all eform else default)) else false)) then uV2 d.Kind else default)) then (!(bif ((!(bif uV2 d.Kind then (!(bif uV2 d.Kind then d.Value.all eform else default)) else false)) && (!(bif (!(bif uV2 d.Kind then (!(bif uV2 d.Kind then d.Value.all eform else default)) else false)) then uV2 d.Kind else default))) then zeroE d.Value else default)) else false)) then true else (bif (d.Kind != 4) then (d.Init != 0) else false))
          (by
            unfold oF bne
            generalize (d.Kind == 4) = a1
            generalize (d.Init == 0) = a2
            generalize uV2 d.Kind = a3
            cases a3 <;> cases d.Value.all eform <;> cases zeroE d.Value <;> cases a1 <;> cases a2 <;> rfl)
        (ifs (c := bif d.Kind == 6 then true else noParts d) (b := bif (d.Kind != 6) then (bif (bif (((d.Params).length : Int) != 0) then true else (((d.Vars).length : Int) != 0)) then true else (((d.Body).length : Int) != 0)) else false)
          (by
            unfold noParts bne
            cases (d.Kind == 6) <;> cases ((d.Params.length : Int) == 0) <;> cases ((d.Vars.length : Int) == 0) <;> cases ((d.Body.length : Int) == 0) <;> rfl) l2))
      refine this.trans ?_
      simp only [ApiDecl.alls, ApiDecl.all_eq, dform, Bool.and_assoc]
      congr 1
      ac_rfl
  rw [ref10_declsForm]
  exact main l 0 rfl

/-! ### names -/
theorem rargs2 (s : ApiStmt) (hs : OkS1 s) (p : ApiExpr → Bool) (g : ApiExpr → Option Bool) (hg : ∀ x ∈ s.Args, g x = some (x.all p)) (K : Option Bool) (F : Int → Option Bool) (y : Bool) (hK : K = some y)
    (hF : ∀ k : Int, F k = if decide (k < (s.Args.length : Int)) = true then idx s.Args k >>= fun x => g x >>= fun b => if (!b) = true then some false else F (IntKind.i64.wrap (k + 1)) else K) : F 0 = some (ApiExpr.alls p s.Args && y) :=
  rargs s hs p g hg K F y hK hF s.Args 0 rfl
theorem rstmtsNames_eq (l : List ApiStmt) : OkS l → ref10_stmtsNames l = some (ApiStmt.alls sname l) := by
  induction l using ApiStmt.inds with
  | h l ih =>
  intro hl
  have main : ∀ (r : List ApiStmt) (k : Nat), l.drop k = r → ref10_stmtsNames_l1 l k = some (ApiStmt.alls sname r) := by
    intro r
    induction r with
    | nil => intro k h; rw [ref10_stmtsNames_l1, (lp_out h).1, if_neg (by simp)]; rfl
    | cons s r ihr =>
      intro k h
      obtain ⟨e1, e2, e3, e4, e5⟩ := lp_in h
      have hs := hl.mem e5
      have hlen := hl.len
      obtain ⟨i1, i2⟩ := ih s e5
      have l2 := rargs2 s hs ename ref10_exprNames (fun x hx => reNames_eq x (hs.arg x hx)) _ (fun k' => ref10_stmtsNames_l2 l s k k') (ApiStmt.alls sname r) (by rw [w1 (by omega), ihr (k + 1) e3]) (fun k' => ref10_stmtsNames_l2.eq_1 l s k k')
      rw [ref10_stmtsNames_l1, e1, if_pos rfl, e2, ob]
      simp only [rUN, refIsName_eq _ hs.name, reNames_eq _ hs.place, reNames_eq _ hs.value, i1 hs.thens, i2 hs.elses, ifd, ob, l2]
      simp only [ApiStmt.alls, ApiStmt.all_eq, sname]
      generalize uNm s.Verb = a1
      generalize isName s.Name = a2
      generalize s.Place.all ename = a3
      generalize s.Value.all ename = a4
      generalize ApiStmt.alls sname s.Then = a5
      generalize ApiStmt.alls sname s.Else = a6
      cases a1 <;> cases a2 <;> cases a3 <;> cases a4 <;> cases a5 <;> cases a6 <;> simp
  rw [ref10_stmtsNames]
  exact main l 0 rfl
theorem rdeclsNames_eq (l : List ApiDecl) : OkD l → ref10_declsNames l = some (ApiDecl.alls dname l) := by
  induction l using ApiDecl.inds with
  | h l ih =>
  intro hl
  have main : ∀ (r : List ApiDecl) (k : Nat), l.drop k = r → ref10_declsNames_l1 l k = some (ApiDecl.alls dname r) := by
    intro r
    induction r with
    | nil => intro k h; rw [ref10_declsNames_l1, (lp_out h).1, if_neg (by simp)]; rfl
    | cons d r ihr =>
      intro k h
      obtain ⟨e1, e2, e3, e4, e5⟩ := lp_in h
      have hs := hl.mem e5
      have hlen := hl.len
      obtain ⟨i1, i2⟩ := ih d e5
      rw [ref10_declsNames_l1, e1, if_pos rfl, e2, ob]
      simp only [refIsName_eq _ hs.name, rNames_eq _ hs.type, reNames_eq _ hs.value, i1 hs.params, i2 hs.vars, rstmtsNames_eq _ hs.body, ifd, ob, w1 (show k ≤ BB by omega), ihr (k + 1) e3]
      simp only [ApiDecl.alls, ApiDecl.all_eq, dname]
      generalize isName d.Name = a2
      generalize d.TypeV.all nameN = a3
      generalize d.Value.all ename = a4
      generalize ApiDecl.alls dname d.Params = a5
      generalize ApiDecl.alls dname d.Vars = a6
      generalize ApiStmt.alls sname d.Body = a1
      cases a1 <;> cases a2 <;> cases a3 <;> cases a4 <;> cases a5 <;> cases a6 <;> simp
  rw [ref10_declsNames]
  exact main l 0 rfl

/-! ### numbers -/
theorem inside_neg (x : Int) : inside x 0 1048576 = (bif decide (x < 0) then false else !decide (x > 1048576)) := by
  unfold inside
  rw [lt_ge, gt_le]
  cases decide (x ≥ 0) <;> cases decide (x ≤ 1048576) <;> rfl
theorem rrises (s : ApiStmt) (hs : OkS1 s) : ∀ (r : List Int) (k : Nat) (last : Int), s.Numbers.drop k = r → (k = 0 ∧ last = -1 ∨ 0 < k ∧ idx s.Numbers ((k - 1 : Nat) : Int) = some last) → ref10_stmtNumbers_l1 s k = some (rises last r)
  | [], k, last, h, h0 => by rw [ref10_stmtNumbers_l1, (lp_out h).1, if_neg (by simp)]; rfl
  | x :: r, k, last, h, h0 => by
    obtain ⟨e1, e2, e3, e4, e5⟩ := lp_in h
    have hnl := hs.nums
    have ih := rrises s hs r (k + 1) x e3 (.inr ⟨by omega, e2⟩)
    unfold BB at hnl
    rw [show rises last (x :: r) = ((bif inside x 0 1048576 then decide (x > last) else false) && rises x r) from rfl, inside_neg, ref10_stmtNumbers_l1, e1, if_pos rfl, e2, ob, w1 (by unfold BB; omega), ih]
    by_cases hx : x < 0
    · rw [decide_eq_true hx]; rfl
    · rw [decide_eq_false hx, if_pos (show (!false) = true from rfl), ob]
      cases hB : decide (x > 1048576) with
      | true => rfl
      | false =>
        rcases h0 with ⟨rfl, rfl⟩ | ⟨hk, hl⟩
        · have hk : decide (((0 : Nat) : Int) > 0) = false := by decide
          rw [hk, decide_eq_true (show x > -1 by omega)]
          cases rises x r <;> rfl
        · have hk' : decide ((k : Int) > 0) = true := decide_eq_true (by omega)
          have hw : IntKind.i64.wrap ((k : Int) - 1) = ((k - 1 : Nat) : Int) := by rw [wr (by omega) (by omega)]; omega
          have hd : decide (x ≤ last) = !decide (x > last) := by rw [← decide_not]; exact decide_eq_decide.2 (by omega)
          rw [hk', hw, hl]
          show (if decide (x ≤ last) = true then some false else some (rises x r)) = some (decide (x > last) && rises x r)
          rw [hd]
          cases decide (x > last) <;> cases rises x r <;> rfl
theorem rnums_eq (s : ApiStmt) (hs : OkS1 s) : ref10_stmtNumbers s = some (numsOk s) := by
  unfold ref10_stmtNumbers numsOk
  cases s.Verb == 4 with
  | true => rw [if_pos rfl]; rfl
  | false =>
    rw [if_neg (by simp)]
    cases s.Verb == 6 with
    | true => rw [if_pos rfl]; rfl
    | false =>
      rw [if_neg (by simp)]
      cases s.Verb == 7 with
      | true =>
        rw [if_pos rfl, within_eq, ob, within_eq, ifd, ob]
        show some _ = some (bif (bif inside s.Low (-1048576) 1048576 then inside s.High s.Low 1048576 else false) then decide (s.High - s.Low < 4096) else false)
        congr 1
        by_cases hb : (-1048576 ≤ s.Low ∧ s.Low ≤ 1048576) ∧ (-1048576 ≤ s.High ∧ s.High ≤ 1048576)
        · obtain ⟨⟨b1, b2⟩, b3, b4⟩ := hb
          rw [wr (n := s.High - s.Low) (by omega) (by omega), wr (n := s.High - s.Low + 1) (by omega) (by omega)]
          unfold within inside
          rw [decide_eq_true (show s.Low ≥ -1048576 from b1), decide_eq_true b2, decide_eq_true (show s.High ≥ -1048576 from b3), decide_eq_true b4]
          simp only [cond_true]
          have e : decide (s.High - s.Low + 1 ≤ 4096) = decide (s.High - s.Low < 4096) := decide_eq_decide.2 (by omega)
          rw [e]
          show (bif decide (s.Low ≤ s.High) then decide (s.High - s.Low < 4096) else false) = (bif (bif decide (s.Low ≤ s.High) then true else false) then decide (s.High - s.Low < 4096) else false)
          cases decide (s.Low ≤ s.High) <;> rfl
        · unfold within inside
          by_cases h1 : -1048576 ≤ s.Low ∧ s.Low ≤ 1048576
          · obtain ⟨b1, b2⟩ := h1
            rw [decide_eq_true (show s.Low ≥ -1048576 from b1), decide_eq_true b2]
            simp only [cond_true]
            by_cases h2 : s.High ≤ 1048576
            · have h3 : ¬ s.High ≥ -1048576 := fun h => hb ⟨⟨b1, b2⟩, h, h2⟩
              rw [decide_eq_false h3, decide_eq_false (show ¬ s.High ≥ s.Low by omega)]
              rfl
            · rw [decide_eq_false h2]
              cases decide (s.High ≥ -1048576) <;> cases decide (s.High ≥ s.Low) <;> rfl
          · have : (bif decide (s.Low ≥ -1048576) then decide (s.Low ≤ 1048576) else false) = false := by
              by_cases h2 : -1048576 ≤ s.Low
              · rw [decide_eq_true (show s.Low ≥ -1048576 from h2), decide_eq_false (fun h => h1 ⟨h2, h⟩)]; rfl
              · rw [decide_eq_false (show ¬ s.Low ≥ -1048576 from h2)]; rfl
            rw [this]
            rfl
      | false =>
        rw [if_neg (by simp)]
        cases s.Verb == 8 with
        | true =>
          have := rrises s hs s.Numbers 0 (-1) rfl (.inl ⟨rfl, rfl⟩)
          rw [show ((0 : Nat) : Int) = 0 from rfl] at this
          rw [if_pos rfl, this, lt_ge, gt_le]
          show _ = some (inside (s.Numbers.length : Int) 1 32 && rises (-1) s.Numbers)
          unfold inside
          cases decide ((s.Numbers.length : Int) ≥ 1) <;> cases decide ((s.Numbers.length : Int) ≤ 32) <;> simp
        | false => rfl
theorem rstmtsNumbers_eq (l : List ApiStmt) : OkS l → ref10_stmtsNumbers l = some (ApiStmt.alls snumb l) := by
  induction l using ApiStmt.inds with
  | h l ih =>
  intro hl
  have main : ∀ (r : List ApiStmt) (k : Nat), l.drop k = r → ref10_stmtsNumbers_l1 l k = some (ApiStmt.alls snumb r) := by
    intro r
    induction r with
    | nil => intro k h; rw [ref10_stmtsNumbers_l1, (lp_out h).1, if_neg (by simp)]; rfl
    | cons s r ihr =>
      intro k h
      obtain ⟨e1, e2, e3, e4, e5⟩ := lp_in h
      have hs := hl.mem e5
      have hlen := hl.len
      obtain ⟨i1, i2⟩ := ih s e5
      have l2 := rargs2 s hs enumb ref10_exprNumbers (fun x hx => reNumbers_eq x (hs.arg x hx)) _ (fun k' => ref10_stmtsNumbers_l2 l s k k') (ApiStmt.alls snumb r) (by rw [w1 (by omega), ihr (k + 1) e3]) (fun k' => ref10_stmtsNumbers_l2.eq_1 l s k k')
      rw [ref10_stmtsNumbers_l1, e1, if_pos rfl, e2, ob]
      simp only [rnums_eq s hs, reNumbers_eq _ hs.place, reNumbers_eq _ hs.value, i1 hs.thens, i2 hs.elses, ifd, ob, l2]
      simp only [ApiStmt.alls, ApiStmt.all_eq, snumb]
      generalize numsOk s = a2
      generalize s.Place.all enumb = a3
      generalize s.Value.all enumb = a4
      generalize ApiStmt.alls snumb s.Then = a5
      generalize ApiStmt.alls snumb s.Else = a6
      cases a2 <;> cases a3 <;> cases a4 <;> cases a5 <;> cases a6 <;> simp
  rw [ref10_stmtsNumbers]
  exact main l 0 rfl
/-- what the reference asks of a declaration's numbers -/
def dnumR (d : ApiDecl) : Bool := (d.TypeV.all fun t => !nbad t) && d.Value.all enumb && initOk d && ApiStmt.alls snumb d.Body
theorem rdeclsNumbers_eq (l : List ApiDecl) : OkD l → ref10_declsNumbers l = some (ApiDecl.alls dnumR l) := by
  induction l using ApiDecl.inds with
  | h l ih =>
  intro hl
  have main : ∀ (r : List ApiDecl) (k : Nat), l.drop k = r → ref10_declsNumbers_l1 l k = some (ApiDecl.alls dnumR r) := by
    intro r
    induction r with
    | nil => intro k h; rw [ref10_declsNumbers_l1, (lp_out h).1, if_neg (by simp)]; rfl
    | cons d r ihr =>
      intro k h
      obtain ⟨e1, e2, e3, e4, e5⟩ := lp_in h
      have hs := hl.mem e5
      have hlen := hl.len
      obtain ⟨i1, i2⟩ := ih d e5
      rw [ref10_declsNumbers_l1, e1, if_pos rfl, e2, ob, within_eq, ob]
      simp only [rNumbers_eq _ hs.type, reNumbers_eq _ hs.value, i1 hs.params, i2 hs.vars, rstmtsNumbers_eq _ hs.body, ifd, ob, w1 (show k ≤ BB by omega), ihr (k + 1) e3]
      have hi : (bif (!(within d.Init)) then true else (bif (d.TypeV.Kind == 0) then (bif (decide (d.Init < 0)) then true else (decide (d.Init > 1))) else false)) = !(initOk d) := by
        unfold initOk within inside bne
        rw [lt_ge, gt_le d.Init 1]
        cases decide (d.Init ≥ -1048576) <;> cases decide (d.Init ≤ 1048576) <;> cases (d.TypeV.Kind == 0) <;> cases decide (d.Init ≥ 0) <;> cases decide (d.Init ≤ 1) <;> rfl
      rw [hi]
      simp only [ApiDecl.alls, ApiDecl.all_eq, dnumR]
      generalize initOk d = a2
      generalize (d.TypeV.all fun t => !nbad t) = a3
      generalize d.Value.all enumb = a4
      generalize ApiDecl.alls dnumR d.Params = a5
      generalize ApiDecl.alls dnumR d.Vars = a6
      generalize ApiStmt.alls snumb d.Body = a1
      cases a1 <;> cases a2 <;> cases a3 <;> cases a4 <;> cases a5 <;> cases a6 <;> simp
  rw [ref10_declsNumbers]
  exact main l 0 rfl
/-- where the form is right, both ask the same of the numbers -/
theorem dnum_form (l : List ApiDecl) : ApiDecl.alls dform l = true → ApiDecl.alls dnumR l = ApiDecl.alls dnumb l := by
  induction l using ApiDecl.inds with
  | h l ih =>
  induction l with
  | nil => intro _; rfl
  | cons d r ihr =>
    intro h
    simp only [ApiDecl.alls, ApiDecl.all_eq, Bool.and_eq_true] at h
    obtain ⟨⟨h1, h2, h3⟩, h4⟩ := h
    obtain ⟨i1, i2⟩ := ih d List.mem_cons_self
    have h5 : d.TypeV.all formN = true := by
      unfold dform at h1
      simp only [Bool.and_eq_true] at h1
      exact h1.1.1.1.1.1.1.2
    simp only [ApiDecl.alls, ApiDecl.all_eq, dnumR, dnumb, ← numbers_all d.TypeV h5, i1 h2, i2 h3, ihr (fun x hx => ih x (List.mem_cons_of_mem _ hx)) h4]

/-! ### the whole -/
theorem whole_eq (p : ApiProgram) (h : OkP p) : ref10_whole p = some ⟨nodesP p, depthP p⟩ := by
  have h1 := ApiDecl.ndss_bulk p.Decls
  have h2 := ApiStmt.ndss_bulk p.Body
  have h3 : ApiDecl.bulks p.Decls ≤ BB := h.decls
  have h4 : ApiStmt.bulks p.Body ≤ BB := h.body
  have hr : SRoom ⟨0, 0⟩ (ApiDecl.ndss p.Decls + ApiStmt.ndss p.Body) := ⟨Int.le_refl _, Int.le_refl _, by simp only; omega⟩
  unfold ref10_whole
  rw [raddDecls_eq p.Decls h.decls _ (hr.less (by omega)), ob, show (1 : Int) = ((1 : Nat) : Int) from rfl, raddStmts_eq p.Body h.body 1 _ (by unfold BB at *; omega) (SRoom.x hr), ob, szX_trans]
  unfold szX nodesP depthP
  simp only
  rw [show (0 : Int) + ((ApiDecl.ndss p.Decls + ApiStmt.ndss p.Body : Nat) : Int) = ((ApiDecl.ndss p.Decls + ApiStmt.ndss p.Body : Nat) : Int) by omega, show max (0 : Int) ((max (ApiDecl.dpss p.Decls) (ApiStmt.dpss p.Body 1) : Nat) : Int) = ((max (ApiDecl.dpss p.Decls) (ApiStmt.dpss p.Body 1) : Nat) : Int) by omega]
theorem band2 (a b : Bool) : (bif a then (bif a then b else default) else false) = (a && b) := by cases a <;> rfl
theorem rCheck_eq (p : ApiProgram) (h : OkP p) : ref10_Check p = some (checkP p) := by
  unfold ref10_Check
  simp only [whole_eq p h, rdeclsForm_eq _ h.decls, rstmtsForm_eq _ h.body, rdeclsNames_eq _ h.decls, rstmtsNames_eq _ h.body, rdeclsNumbers_eq _ h.decls, rstmtsNumbers_eq _ h.body, ifd, ob, rVerdict_eq, band2]
  unfold checkP
  cases hf : ApiDecl.alls dform p.Decls with
  | false => unfold repCode; rfl
  | true => rw [dnum_form p.Decls hf]
theorem rSize_eq (p : ApiProgram) (h : OkP p) : ref10_Size p = some (sizeP p) := by
  unfold ref10_Size sizeP
  rw [rCheck_eq p h, ob, whole_eq p h, ob]
  cases checkP p != 0 <;> rfl

/-! ### few -/
theorem stleft_some (l : List ApiStmt) : OkS l → ∀ n, ∃ m, ref10_stmtsLeft l n = some m := by
  induction l using ApiStmt.inds with
  | h l ih =>
  intro hl n
  have main : ∀ (r : List ApiStmt) (k : Nat) (n : Int), l.drop k = r → ∃ m, ref10_stmtsLeft_l1 l n k = some m := by
    intro r
    induction r with
    | nil => intro k n h; rw [ref10_stmtsLeft_l1, (lp_out h).1]; exact ⟨_, rfl⟩
    | cons s r ihr =>
      intro k n h
      obtain ⟨e1, e2, e3, e4, e5⟩ := lp_in h
      have hs := hl.mem e5
      have hlen := hl.len
      obtain ⟨i1, i2⟩ := ih s e5
      have tail : ∀ n : Int, ∃ m, (if decide ((s.Numbers.length : Int) > 100) = true then some (-1) else ref10_stmtsLeft s.Then n >>= fun x6 => ref10_stmtsLeft s.Else x6 >>= fun x7 => ref10_stmtsLeft_l1 l x7 (IntKind.i64.wrap ((k : Int) + 1))) = some m := fun n => by
        cases decide ((s.Numbers.length : Int) > 100) with
        | true => exact ⟨_, rfl⟩
        | false =>
          obtain ⟨a, ha⟩ := i1 hs.thens n
          obtain ⟨b, hb⟩ := i2 hs.elses a
          rw [if_neg (by simp), ha, ob, hb, ob, w1 (by omega)]
          exact ihr (k + 1) b e3
      have l2 : ∀ (q : List ApiExpr) (j : Nat) (n : Int), s.Args.drop j = q → ∃ m, ref10_stmtsLeft_l2 l s n k j = some m := by
        intro q
        induction q with
        | nil => intro j n hj; rw [ref10_stmtsLeft_l2, (lp_out hj).1, cond_false, if_neg (by simp)]; exact tail n
        | cons a q ihq =>
          intro j n hj
          obtain ⟨f1, f2, f3, f4, f5⟩ := lp_in hj
          have := hs.args
          rw [ref10_stmtsLeft_l2, f1, cond_true, f2]
          cases decide (n ≥ 0) with
          | false => rw [if_neg (by simp)]; exact tail n
          | true =>
            obtain ⟨m, hm⟩ := eleft_some a (hs.arg a f5) n
            rw [if_pos rfl, ob, hm, ob, w1 (by omega)]
            exact ihq (j + 1) m f3
      rw [ref10_stmtsLeft_l1, e1, cond_true, e2]
      cases decide (n ≥ 0) with
      | false => exact ⟨_, rfl⟩
      | true =>
        rw [if_pos rfl, ob]
        obtain ⟨a, ha⟩ := eleft_some s.Place hs.place (IntKind.i64.wrap ((IntKind.i64.wrap (n - 1)) - (IntKind.i64.wrap (Int.tdiv ((s.Name).length : Int) 16))))
        obtain ⟨b, hb⟩ := eleft_some s.Value hs.value a
        rw [ha, ob, hb, ob]
        exact l2 s.Args 0 b rfl
  rw [ref10_stmtsLeft]
  exact main l 0 n rfl
theorem dleft_some (l : List ApiDecl) : OkD l → ∀ n, ∃ m, ref10_declsLeft l n = some m := by
  induction l using ApiDecl.inds with
  | h l ih =>
  intro hl n
  have main : ∀ (r : List ApiDecl) (k : Nat) (n : Int), l.drop k = r → ∃ m, ref10_declsLeft_l1 l n k = some m := by
    intro r
    induction r with
    | nil => intro k n h; rw [ref10_declsLeft_l1, (lp_out h).1]; exact ⟨_, rfl⟩
    | cons d r ihr =>
      intro k n h
      obtain ⟨e1, e2, e3, e4, e5⟩ := lp_in h
      have hs := hl.mem e5
      have hlen := hl.len
      obtain ⟨i1, i2⟩ := ih d e5
      rw [ref10_declsLeft_l1, e1, cond_true, e2]
      cases decide (n ≥ 0) with
      | false => exact ⟨_, rfl⟩
      | true =>
        rw [if_pos rfl, ob]
        obtain ⟨a, ha⟩ := tleft_some d.TypeV hs.type (IntKind.i64.wrap ((IntKind.i64.wrap (n - 1)) - (IntKind.i64.wrap (Int.tdiv ((d.Name).length : Int) 16))))
        obtain ⟨b, hb⟩ := eleft_some d.Value hs.value a
        obtain ⟨c, hc⟩ := i1 hs.params b
        obtain ⟨e, he⟩ := i2 hs.vars c
        obtain ⟨f, hf⟩ := stleft_some d.Body hs.body e
        rw [ha, ob, hb, ob, hc, ob, he, ob, hf, ob, w1 (by omega)]
        exact ihr (k + 1) f e3
  rw [ref10_declsLeft]
  exact main l 0 n rfl
theorem fewP_some (p : ApiProgram) (h : OkP p) (n : Int) : ∃ b, ref10_Few p n = some b := by
  obtain ⟨a, ha⟩ := dleft_some p.Decls h.decls n
  obtain ⟨b, hb⟩ := stleft_some p.Body h.body a
  unfold ref10_Few
  rw [ha, ob, hb]
  exact ⟨_, rfl⟩
theorem okP_of {p : ApiProgram} (h : p.bulk ≤ 1048576) : OkP p := by
  cases p
  simp only [ApiProgram.bulk] at h
  exact ⟨by unfold OkD BB; simp only; omega, by unfold OkS BB; simp only; omega⟩
theorem sizeP_snd (p : ApiProgram) : (sizeP p).2 = checkP p := by
  unfold sizeP
  cases h : checkP p != 0 with
  | true => rfl
  | false => have : checkP p = 0 := by simpa using h
             rw [this]; rfl
/-- P10.1 -/
theorem SyntaxCheck_true (p : ApiProgram) (h : OkP p) (hk : law10_known = some true) : law10_SyntaxCheck p = some true := by
  unfold law10_SyntaxCheck
  obtain ⟨f, hf⟩ := fewP_some p h 2000
  rw [hk, ob, if_neg (by simp), hf, ob]
  cases f with
  | false => rfl
  | true =>
    rw [if_neg (by simp), Size_eq p h, ob, rSize_eq p h, ob, Check_eq p h, ob, sizeP_snd]
    simp
end Go.Proofs.YtmilgoloagbmpaaGreatDoor

namespace Go.Proofs.YtmilgoloagbmpaaGreatDoor
open Go.Am
set_option maxRecDepth 100000
set_option maxHeartbeats 4000000
theorem law10_known_true : law10_known = some true := law10_known_le 200 _ (by kernel_rfl)
end Go.Proofs.YtmilgoloagbmpaaGreatDoor

