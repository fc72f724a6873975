/- A part of the proof of SyntaxType. -/
import Derived.Test.YtmilgoloagbmpaaGreatDoorDgC
import Derived.ProofKit
namespace Go.Proofs.YtmilgoloagbmpaaGreatDoor
open Go.Am

/-! ### loops -/
theorem ob {α β : Type} (a : α) (f : α → Option β) : (some a >>= f) = f a := rfl
theorem lp_in {α : Type} {l : List α} {k : Nat} {x : α} {r : List α} (h : l.drop k = x :: r) : decide ((k : Int) < (l.length : Int)) = true ∧ idx l (k : Int) = some x ∧ l.drop (k + 1) = r ∧ k < l.length ∧ x ∈ l := by
  have hk : k < l.length := by
    rcases Nat.lt_or_ge k l.length with h1 | h1
    · exact h1
    · rw [List.drop_eq_nil_of_le h1] at h; cases h
  have hx := List.drop_eq_getElem_cons hk
  rw [h] at hx
  obtain ⟨e1, e2⟩ := List.cons.inj hx
  refine ⟨decide_eq_true (by omega), ?_, e2.symm, hk, ?_⟩
  · unfold idx
    rw [if_pos (by omega), e1]
    simp [hk]
  · rw [e1]; exact List.getElem_mem hk
theorem lp_out {α : Type} {l : List α} {k : Nat} (h : l.drop k = []) : decide ((k : Int) < (l.length : Int)) = false ∧ l.length ≤ k := by
  have := List.drop_eq_nil_iff.1 h
  exact ⟨decide_eq_false (by omega), this⟩
/-- sizes that no sum or product here can pass -/
def BB : Nat := 68719476736
theorem wr {n : Int} (h : -4611686018427387904 ≤ n) (h' : n ≤ 4611686018427387904) : IntKind.i64.wrap n = n := wrap_i64 (by omega) (by omega)
theorem w1 {k : Nat} (h : k ≤ BB) : IntKind.i64.wrap ((k : Int) + 1) = ((k + 1 : Nat) : Int) := by
  unfold BB at h
  rw [wr (by omega) (by omega)]; rfl

/-! ### names -/
def lowI (n : Int) : Bool := bif decide (n ≥ 97) then decide (n ≤ 122) else false
def digI (n : Int) : Bool := bif decide (n ≥ 48) then decide (n ≤ 57) else false

/-- the letter or digit at a place of a name -/
def okAt (i : Nat) (c : UInt8) : Bool := lowI c.toNat || (i != 0 && digI c.toNat)
def wordFrom : Nat → List UInt8 → Bool
  | _, [] => true
  | i, c :: r => okAt i c && wordFrom (i + 1) r
def word (s : List UInt8) : Bool := wordFrom 0 s && !(s == [])

/-- the reserved words, a blank around each -/
def kw : List UInt8 := [32, 116, 121, 112, 101, 32, 115, 101, 99, 114, 101, 116, 32, 112, 117, 98, 108, 105, 99, 32, 114, 97, 110, 100, 111, 109, 32, 118, 97, 114, 32, 104, 97, 116, 99, 104, 32, 102, 117, 110, 99, 32, 114, 101, 116, 117, 114, 110, 32, 98, 101, 103, 105, 110, 32, 101, 110, 100, 32, 98, 111, 111, 108, 32, 105, 110, 116, 32, 97, 114, 114, 97, 121, 32, 111, 102, 32, 114, 101, 99, 111, 114, 100, 32, 116, 114, 117, 101, 32, 102, 97, 108, 115, 101, 32, 99, 97, 108, 108, 32, 114, 101, 108, 101, 97, 115, 101, 32, 111, 117, 116, 112, 117, 116, 32, 119, 97, 105, 116, 32, 105, 102, 32, 101, 108, 115, 101, 32, 119, 104, 105, 108, 101, 32, 108, 105, 109, 105, 116, 32, 102, 111, 114, 32, 116, 111, 32, 115, 101, 116, 116, 108, 101, 32, 109, 105, 110, 32, 109, 97, 120, 32]

def resv (s : List UInt8) : Bool := bif (bif !(s == []) then !Lib.contains s [32] else false) then Lib.contains kw ([32] ++ s ++ [32]) else false
def isName (s : List UInt8) : Bool := bif (bif decide ((s.length : Int) ≤ 12) then word s else false) then !resv s else false

theorem getD_some {s : List UInt8} {k : Nat} (h : k < s.length) : s[k]? = some (s.getD k 0) := by simp [List.getD, h]

def ld (c : UInt8) : Bool := bif lowI c.toNat then true else digI c.toNat
/-- how many letters and digits a text begins with -/
def lead : List UInt8 → Nat
  | [] => 0
  | c :: r => bif ld c then lead r + 1 else 0
theorem lead_le : ∀ s : List UInt8, lead s ≤ s.length
  | [] => Nat.le_refl _
  | c :: r => by
    simp only [lead, List.length_cons]
    have := lead_le r
    cases ld c <;> simp <;> omega
def rres (s : List UInt8) : Bool := bif ((s.length : Nat) : Int) == 0 then false else bif s.all (fun c => lowI c.toNat) then Lib.contains kw ([32] ++ s ++ [32]) else false

set_option maxRecDepth 100000 in
theorem kw_len : kw.length = 162 := rfl

theorem contains_hit {s sub : List UInt8} {i : Nat} (hi : i + sub.length ≤ s.length) (h : ((s.take (i + sub.length)).drop i == sub) = true) : Lib.contains s sub = true := by
  have ho : Lib.occAt s sub i = true := by
    rw [Lib.occAt_iff_take s sub i hi]
    rw [List.drop_take] at h
    simpa using h
  rcases Lib.index_spec s sub with ⟨_, h2⟩ | ⟨j, h1, _⟩
  · rw [h2 i (by omega)] at ho; cases ho
  · unfold Lib.contains
    rw [h1]
    exact decide_eq_true (by omega)
theorem contains_miss {s sub : List UInt8} (h : ∀ i, i + sub.length ≤ s.length → ((s.take (i + sub.length)).drop i == sub) = false) (hne : sub ≠ []) : Lib.contains s sub = false := by
  rcases Lib.index_spec s sub with ⟨h1, _⟩ | ⟨j, h1, h2, h3, _⟩
  · unfold Lib.contains
    rw [h1]; rfl
  · rcases Lib.occAt_room h3 with hr | hr
    · have := h j hr
      rw [Lib.occAt_iff_take s sub j hr] at h3
      rw [List.drop_take] at this
      have e : j + sub.length - j = sub.length := by omega
      rw [e, h3] at this
      cases this
    · exact absurd hr hne

def refNm (s : List UInt8) : Bool :=
  bif (bif (bif (bif decide (((s.length : Nat) : Int) < 1) then true else decide (((s.length : Nat) : Int) > 12)) then true else !lowI (s.getD 0 0).toNat) then true else rres s) then false else ((lead s : Nat) : Int) == ((s.length : Nat) : Int)

theorem wordFrom_ld : ∀ (r : List UInt8) (i : Nat), 1 ≤ i → wordFrom i r = r.all ld
  | [], _, _ => rfl
  | c :: r, i, h => by
    have hi : (i != 0) = true := by simp; omega
    simp only [wordFrom, List.all_cons, wordFrom_ld r (i + 1) (by omega), okAt, hi, Bool.true_and, ld]
    cases lowI c.toNat <;> rfl
theorem lead_ld : ∀ s : List UInt8, (((lead s : Nat) : Int) == ((s.length : Nat) : Int)) = s.all ld
  | [] => rfl
  | c :: r => by
    have h := lead_ld r
    have hle := lead_le r
    simp only [lead, List.length_cons, List.all_cons, ← h]
    cases ld c with
    | false =>
      simp only [cond_false, Bool.false_and]
      apply beq_eq_false_iff_ne.2
      omega
    | true =>
      simp only [cond_true, Bool.true_and]
      rw [Bool.eq_iff_iff, beq_iff_eq, beq_iff_eq]
      omega

set_option maxRecDepth 100000 in
theorem kw_chars : kw.all (fun c => lowI c.toNat || c == 32) = true := by decide

theorem contains_mem {s sub : List UInt8} (h : Lib.contains s sub = true) (hne : sub ≠ []) : ∀ c ∈ sub, c ∈ s := by
  rcases Lib.index_spec s sub with ⟨h1, _⟩ | ⟨j, h1, h2, h3, _⟩
  · unfold Lib.contains at h
    rw [h1] at h
    cases h
  · rcases Lib.occAt_room h3 with hr | hr
    · rw [Lib.occAt_iff_take s sub j hr] at h3
      have e : (s.drop j).take sub.length = sub := by simpa using h3
      intro c hc
      rw [← e] at hc
      exact List.mem_of_mem_drop (List.mem_of_mem_take hc)
    · exact absurd hr hne

theorem ld_space : ld 32 = false := by decide

theorem no_space {s : List UInt8} (h : s.all ld = true) : Lib.contains s [32] = false := by
  cases hc : Lib.contains s [32] with
  | false => rfl
  | true =>
    have := contains_mem hc (by simp) 32 (by simp)
    have := List.all_eq_true.1 h 32 this
    rw [ld_space] at this
    cases this

theorem all_low {s : List UInt8} (h : s.all ld = true) (hc : Lib.contains kw ([32] ++ s ++ [32]) = true) : s.all (fun c => lowI c.toNat) = true := by
  rw [List.all_eq_true]
  intro c hcs
  have h1 := contains_mem hc (by simp) c (by simp [hcs])
  have h2 := List.all_eq_true.1 kw_chars c h1
  have h3 := List.all_eq_true.1 h c hcs
  cases hl : lowI c.toNat with
  | true => rfl
  | false =>
    rw [hl, Bool.false_or, beq_iff_eq] at h2
    subst h2
    rw [ld_space] at h3
    cases h3

theorem name_eq (s : List UInt8) : refNm s = isName s := by
  unfold refNm isName
  rw [lead_ld]
  cases s with
  | nil => rfl
  | cons c r =>
    have h1 : decide ((((c :: r).length : Nat) : Int) < 1) = false := decide_eq_false (by simp only [List.length_cons]; omega)
    have h12 : decide ((((c :: r).length : Nat) : Int) > 12) = !decide ((((c :: r).length : Nat) : Int) ≤ 12) := by
      rw [← decide_not]; exact decide_eq_decide.2 Int.not_le.symm
    have hw : word (c :: r) = (lowI c.toNat && r.all ld) := by
      unfold word
      simp only [wordFrom, okAt, wordFrom_ld r 1 (Nat.le_refl _)]
      simp
    rw [h1, h12, hw, cond_false, List.all_cons]
    show (bif (bif (bif !decide ((((c :: r).length : Nat) : Int) ≤ 12) then true else !lowI c.toNat) then true else rres (c :: r)) then false else (ld c && r.all ld)) = _
    cases h12' : decide ((((c :: r).length : Nat) : Int) ≤ 12) with
    | false => rfl
    | true =>
      cases hl : lowI c.toNat with
      | false => rfl
      | true =>
        have hlc : ld c = true := by unfold ld; rw [hl]; rfl
        rw [hlc]
        cases ha : r.all ld with
        | false => cases rres (c :: r) <;> rfl
        | true =>
          have hall : (c :: r).all ld = true := by rw [List.all_cons, hlc, ha]; rfl
          have hns := no_space hall
          have e : rres (c :: r) = resv (c :: r) := by
            unfold rres resv
            rw [hns]
            have hz : ((((c :: r).length : Nat) : Int) == 0) = false := beq_eq_false_iff_ne.2 (by simp only [List.length_cons]; omega)
            rw [hz]
            cases hk : Lib.contains kw ([32] ++ (c :: r) ++ [32]) with
            | false => simp
            | true =>
              rw [all_low hall hk]
              rfl
          rw [e]
          cases resv (c :: r) <;> rfl

/-! ### the program's -/
theorem isLetter_eq (n : Int) : lexer_isLetter n = some (lowI n) := rfl
theorem isDigit_eq (n : Int) : lexer_isDigit n = some (digI n) := rfl
theorem isWord_run (s : Str) (hs : s.length ≤ BB) : ∀ (r : Str) (k : Nat), s.drop k = r → lexer_isWord_l1 s k = some (wordFrom k r && !(s == []))
  | [], k, h => by rw [lexer_isWord_l1, (lp_out h).1]; simp [wordFrom]
  | c :: r, k, h => by
    obtain ⟨h1, h2, h3, h4, _⟩ := lp_in h
    have ih := isWord_run s hs r (k + 1) h3
    rw [lexer_isWord_l1, h1, if_pos rfl, h2, ob, isLetter_eq, ob, w1 (by omega), ih]
    have e : ((k : Int) == 0) = (k == 0) := by cases k <;> rfl
    simp only [e, wordFrom, okAt, bne]
    cases hl : lowI c.toNat <;> cases hk : k == 0 <;> cases hd : digI c.toNat <;> simp [isDigit_eq, hd]
theorem isWord_eq (s : Str) (hs : s.length ≤ BB) : lexer_isWord s = some (word s) := isWord_run s hs s 0 rfl
theorem X_Contains_eq (s t : Str) (hs : s.length ≤ 4000000000) : X_Contains s t = some (Lib.contains s t) := by
  unfold X_Contains
  rw [if_pos (decide_eq_true (by omega))]
theorem Reserved_eq (s : Str) (hs : s.length ≤ 4000000000) : lexer_Reserved s = some (resv s) := by
  unfold lexer_Reserved
  have h1 : decide (1 + s.length ≤ maxLen) = true := decide_eq_true (by unfold maxLen; omega)
  have h2 : decide (([32] ++ s).length + 1 ≤ maxLen) = true := decide_eq_true (by unfold maxLen; simp; omega)
  rw [X_Contains_eq s _ hs]
  have h3 := X_Contains_eq kw (([32] ++ s) ++ [32]) (by rw [kw_len]; omega)
  unfold kw at h3
  unfold resv kw
  rw [h1, h2, h3]
  cases s == [] <;> cases Lib.contains s [32] <;> simp
theorem IsName_eq (s : Str) (hs : s.length ≤ BB) : syntax_IsName s = some (isName s) := by
  unfold syntax_IsName lexer_IsName isName
  rw [isWord_eq s hs]
  cases h : decide ((s.length : Int) ≤ 12) with
  | false => simp
  | true =>
    have h' : s.length ≤ 12 := by have := of_decide_eq_true h; omega
    rw [Reserved_eq s (by omega)]
    cases word s <;> simp

/-! ### the reference's -/
theorem refLetter_eq (n : Int) : ref09_letter n = some (lowI n) := rfl
theorem refDigit_eq (n : Int) : ref09_digit n = some (digI n) := rfl
theorem run_run (s : Str) (hs : s.length ≤ BB) : ∀ (r : Str) (k : Nat), s.drop k = r → ref09_run_l1 s k = some ((k + lead r : Nat) : Int)
  | [], k, h => by rw [ref09_run_l1, (lp_out h).1]; simp [lead, ob]
  | c :: r, k, h => by
    obtain ⟨h1, h2, h3, h4, _⟩ := lp_in h
    have ih := run_run s hs r (k + 1) h3
    rw [ref09_run_l1, h1, if_pos rfl, h2, ob, if_pos rfl, refLetter_eq, ob, w1 (by omega), ih]
    simp only [lead, ld]
    cases hl : lowI c.toNat <;> cases hd : digI c.toNat <;> simp [refDigit_eq, hd, ob] <;> omega
theorem run_eq (s : Str) (hs : s.length ≤ BB) : ref09_run s 0 = some ((lead s : Nat) : Int) := by
  have := run_run s hs s 0 rfl
  unfold ref09_run
  rw [Nat.zero_add] at this
  exact this
theorem res2_run (s : Str) (hs : s.length ≤ 4000000000) : ∀ (n k : Nat), n + k = 163 → (∀ i, i < k → i + ([32] ++ s ++ [32]).length ≤ kw.length → ((kw.take (i + ([32] ++ s ++ [32]).length)).drop i == [32] ++ s ++ [32]) = false) →
    ref09_Reserved_l2 s k = some (Lib.contains kw ([32] ++ s ++ [32])) := by
  have hl : ([32] ++ s ++ [32]).length = s.length + 2 := by simp
  intro n
  induction n with
  | zero =>
    intro k hk hi
    rw [ref09_Reserved_l2, wr (n := (k : Int) + _) (by omega) (by omega), wr (by omega) (by omega), if_neg (by simp; omega), contains_miss (fun i h => hi i (by rw [kw_len] at h; omega) h) (by simp)]
  | succ n ih =>
    intro k hk hi
    rw [ref09_Reserved_l2, wr (n := (k : Int) + _) (by omega) (by omega), wr (by omega) (by omega)]
    by_cases hr : k + ([32] ++ s ++ [32]).length ≤ kw.length
    · have hr' := hr
      rw [kw_len, hl] at hr'
      rw [if_pos (decide_eq_true (by omega))]
      have hs2 : slc kw (k : Int) ((k : Int) + (s.length : Int) + 2) = some ((kw.take (k + ([32] ++ s ++ [32]).length)).drop k) := by
        unfold slc
        rw [if_pos ⟨by omega, by omega, by rw [kw_len]; omega⟩, hl]
        rw [show ((k : Int) + (s.length : Int) + 2).toNat = k + (s.length + 2) by omega]
        rfl
      unfold kw at hs2
      rw [hs2, ob, if_pos (decide_eq_true (by unfold maxLen; omega)), if_pos (decide_eq_true (by unfold maxLen; simp; omega))]
      cases he : ((kw.take (k + ([32] ++ s ++ [32]).length)).drop k == [32] ++ s ++ [32]) with
      | true =>
        have := contains_hit hr he
        rw [this]
        unfold kw at he
        rw [he, if_pos rfl]
      | false =>
        have he' := he
        unfold kw at he'
        rw [he', if_neg (by simp), w1 (by unfold BB; omega)]
        refine ih (k + 1) (by omega) fun i hik => ?_
        rcases Nat.lt_or_eq_of_le (Nat.le_of_lt_succ hik) with h | h
        · exact hi i h
        · subst h; exact fun _ => he
    · have hr' := hr
      rw [kw_len, hl] at hr'
      rw [if_neg (by simp; omega), contains_miss (fun i h => hi i (by omega) h) (by simp)]
theorem res1_run (s : Str) (hs : s.length ≤ 4000000000) : ∀ (r : Str) (k : Nat), s.drop k = r → ref09_Reserved_l1 s k = some (bif r.all (fun c => lowI c.toNat) then Lib.contains kw ([32] ++ s ++ [32]) else false)
  | [], k, h => by rw [ref09_Reserved_l1, (lp_out h).1, if_neg (by simp)]; exact res2_run s hs 163 0 rfl (fun i h => by omega)
  | c :: r, k, h => by
    obtain ⟨h1, h2, h3, h4, _⟩ := lp_in h
    have ih := res1_run s hs r (k + 1) h3
    rw [ref09_Reserved_l1, h1, if_pos rfl, h2, ob, refLetter_eq, ob, w1 (by unfold BB; omega), ih, List.all_cons]
    cases lowI c.toNat <;> simp
theorem refReserved_eq (s : Str) (hs : s.length ≤ 4000000000) : ref09_Reserved s = some (rres s) := by
  unfold ref09_Reserved rres
  have := res1_run s hs s 0 rfl
  rw [show (0 : Int) = ((0 : Nat) : Int) from rfl, this]
  cases ((s.length : Int) == ((0 : Nat) : Int)) <;> simp
theorem refIsName_eq (s : Str) (hs : s.length ≤ BB) : ref10_IsName s = some (isName s) := by
  rw [← name_eq]
  unfold ref10_IsName ref09_IsName refNm
  cases h : (bif decide ((s.length : Int) < 1) then true else decide ((s.length : Int) > 12)) with
  | true => simp [ob]
  | false =>
    have h' : 1 ≤ s.length ∧ s.length ≤ 12 := by
      cases h1 : decide ((s.length : Int) < 1) with
      | true => rw [h1] at h; cases h
      | false =>
        rw [h1] at h
        have := of_decide_eq_false h1
        have := of_decide_eq_false (show decide ((s.length : Int) > 12) = false from h)
        omega
    have h0 : idx s 0 = some (s.getD 0 0) := getD_some (by omega)
    rw [h0, refReserved_eq s (by omega), run_eq s hs]
    simp only [Bool.not_false, if_true, ob, refLetter_eq, cond_false]
    cases lowI (s.getD 0 0).toNat <;> cases rres s <;> simp [ob]
end Go.Proofs.YtmilgoloagbmpaaGreatDoor

set_option linter.unusedSimpArgs false
namespace Go.Proofs.YtmilgoloagbmpaaGreatDoor
open Go.Am

theorem ApiType.ind {P : ApiType → Prop} (h : ∀ t : ApiType, (∀ x ∈ t.Of, P x) → P t) : ∀ t, P t := by
  intro t
  refine ApiType.rec (motive_1 := P) (motive_2 := fun l => ∀ x ∈ l, P x) ?_ ?_ ?_ t
  · intro k l h' s n ns of ih
    exact h _ ih
  · intro x hx; cases hx
  · intro x r hx hr y hy
    cases hy with
    | head => exact hx
    | tail _ hy => exact hr y hy

mutual
def ApiType.depth : ApiType → Nat
  | .mk _ _ _ _ _ _ of => ApiType.depths of + 1
def ApiType.depths : List ApiType → Nat
  | [] => 0
  | t :: r => max (ApiType.depth t) (ApiType.depths r)
end
theorem ApiType.depth_eq (t : ApiType) : t.depth = ApiType.depths t.Of + 1 := by cases t; simp [ApiType.depth, ApiType.Of]
def inside (a b c : Int) : Bool := bif decide (a ≥ b) then decide (a ≤ c) else false
mutual
/-- every node meets p -/
def ApiType.all (p : ApiType → Bool) : ApiType → Bool
  | .mk k l h s n ns of => p (.mk k l h s n ns of) && ApiType.alls p of
def ApiType.alls (p : ApiType → Bool) : List ApiType → Bool
  | [] => true
  | t :: r => ApiType.all p t && ApiType.alls p r
end
theorem ApiType.all_eq (p : ApiType → Bool) (t : ApiType) : t.all p = (p t && ApiType.alls p t.Of) := by cases t; rfl
mutual
def ApiType.nodes : ApiType → Nat
  | .mk _ _ _ _ _ _ of => ApiType.nodess of + 1
def ApiType.nodess : List ApiType → Nat
  | [] => 0
  | t :: r => ApiType.nodes t + ApiType.nodess r
end
theorem ApiType.nodes_eq (t : ApiType) : t.nodes = ApiType.nodess t.Of + 1 := by cases t; rfl
mutual
theorem ApiType.depth_nodes : ∀ t : ApiType, t.depth ≤ t.nodes
  | .mk _ _ _ _ _ _ of => by simp only [ApiType.depth, ApiType.nodes]; have := ApiType.depths_nodess of; omega
theorem ApiType.depths_nodess : ∀ l : List ApiType, ApiType.depths l ≤ ApiType.nodess l
  | [] => Nat.le_refl _
  | t :: r => by simp only [ApiType.depths, ApiType.nodess]; have := ApiType.depth_nodes t; have := ApiType.depths_nodess r; omega
end

/-! ### what one node is asked -/

def fm1 (t : ApiType) : Bool := bif decide (t.Kind ≥ 0) then decide (t.Kind ≤ 4) else false
def fm2 (t : ApiType) : Bool := bif t.Kind == 1 then true else bif t.Low == 0 then t.High == 0 else false
def fm3 (t : ApiType) : Bool := bif t.Kind == 2 then true else t.Size == 0
def fm4 (t : ApiType) : Bool := bif t.Kind == 4 then true else t.Name == []
def fm5 (t : ApiType) : Bool := bif t.Kind == 3 then true else ((t.Names).length : Int) == 0
def fm6 (t : ApiType) : Bool := bif t.Kind == 2 then ((t.Of).length : Int) == 1 else bif t.Kind == 3 then (bif decide (((t.Of).length : Int) ≥ 1) then ((t.Of).length : Int) == ((t.Names).length : Int) else false) else ((t.Of).length : Int) == 0
def nm1 (t : ApiType) : Bool := bif t.Kind == 2 then inside t.Size 1 32 else bif t.Kind == 3 then decide (((t.Of).length : Int) ≤ 32) else true
def nm2 (t : ApiType) : Bool := bif t.Kind == 1 then (bif inside t.Low (-1048576) 1048576 then inside t.High t.Low 1048576 else false) else true
def na1 (t : ApiType) : Bool := bif t.Kind == 4 then isName t.Name else true
def formN (t : ApiType) : Bool := fm1 t && fm2 t && fm3 t && fm4 t && fm5 t && fm6 t
def numN (t : ApiType) : Bool := nm1 t && nm2 t
def nameN (t : ApiType) : Bool := na1 t && t.Names.all isName

theorem or_not (a b c : Bool) : (a || !b || !c) = (a || !(b && c)) := by cases a <;> cases b <;> cases c <;> rfl

def repCode (n d : Int) (f m u : Bool) : Int :=
  bif (bif decide (n > 1024) then true else decide (d > 12)) then 4 else bif f then 1 else bif m then 7 else bif u then 3 else 0

theorem lt_ge (a b : Int) : decide (a < b) = !decide (a ≥ b) := by
  rw [← decide_not]; exact decide_eq_decide.2 Int.not_le.symm
theorem gt_le (a b : Int) : decide (a > b) = !decide (a ≤ b) := by
  rw [← decide_not]; exact decide_eq_decide.2 Int.not_le.symm

def bad0 (t : ApiType) : Bool := bif decide (t.Kind < 0) then true else decide (t.Kind > 4)
def bad1 (t : ApiType) : Bool :=
  bif (bif (bif (bif t.Kind != 1 then (bif t.Low != 0 then true else t.High != 0) else false) then true else (bif t.Kind != 2 then t.Size != 0 else false)) then true else (bif t.Kind != 4 then !(t.Name == []) else false)) then true else
    (bif t.Kind != 3 then ((t.Names).length : Int) != 0 else false)
def bad2 (t : ApiType) : Bool :=
  bif (bif (bif t.Kind == 2 then ((t.Of).length : Int) != 1 else false) then true else
    (bif t.Kind == 3 then (bif decide (((t.Of).length : Int) < 1) then true else ((t.Of).length : Int) != ((t.Names).length : Int)) else false)) then true else
    (bif (bif t.Kind != 2 then t.Kind != 3 else false) then ((t.Of).length : Int) != 0 else false)

theorem bad0_eq (t : ApiType) : fm1 t = !bad0 t := by
  unfold fm1 bad0
  rw [lt_ge, gt_le]
  cases decide (t.Kind ≥ 0) <;> cases decide (t.Kind ≤ 4) <;> rfl
theorem bad1_eq (t : ApiType) : (fm2 t && fm3 t && fm4 t && fm5 t) = !bad1 t := by
  unfold fm2 fm3 fm4 fm5 bad1
  simp only [bne]
  generalize (t.Kind == 1) = a
  generalize (t.Kind == 2) = b
  generalize (t.Kind == 3) = c
  generalize (t.Kind == 4) = d
  generalize (t.Low == 0) = e
  generalize (t.High == 0) = f
  generalize (t.Size == 0) = g
  generalize (t.Name == []) = h
  generalize (((t.Names).length : Int) == 0) = i
  cases a <;> cases b <;> cases c <;> cases d <;> cases e <;> cases f <;> cases g <;> cases h <;> cases i <;> rfl
theorem bad2_eq (t : ApiType) : fm6 t = !bad2 t := by
  have hx : (t.Kind == 2) = true → (t.Kind == 3) = false := fun h => by
    have : t.Kind = 2 := by simpa using h
    rw [this]; rfl
  unfold fm6 bad2
  rw [lt_ge]
  simp only [bne]
  revert hx
  generalize (t.Kind == 2) = b
  generalize (t.Kind == 3) = c
  generalize (((t.Of).length : Int) == 1) = d
  generalize (((t.Of).length : Int) == 0) = e
  generalize (((t.Of).length : Int) == ((t.Names).length : Int)) = f
  generalize (decide (((t.Of).length : Int) ≥ 1)) = g
  intro hx
  cases b <;> cases c <;> first | (exact absurd (hx rfl) (by decide)) | (cases d <;> cases e <;> cases f <;> cases g <;> rfl)
theorem formN_eq (t : ApiType) : formN t = (!bad0 t && !bad1 t && !bad2 t) := by
  rw [← bad0_eq, ← bad1_eq, ← bad2_eq]
  unfold formN
  simp only [Bool.and_assoc]

def within (n : Int) : Bool := bif decide (n ≥ -1048576) then decide (n ≤ 1048576) else false
def nbad (t : ApiType) : Bool :=
  bif (bif (bif t.Kind == 1 then (bif (bif !within t.Low then true else !within t.High) then true else decide (t.Low > t.High)) else false) then true else
    (bif t.Kind == 2 then (bif decide (t.Size < 1) then true else decide (t.Size > 32)) else false)) then true else decide (((t.Of).length : Int) > 32)

theorem numbers_node (t : ApiType) (hf : formN t = true) : numN t = !nbad t := by
  have hk1 : (t.Kind == 1) = true → (t.Kind == 2) = false ∧ (t.Kind == 3) = false := fun h => by
    have : t.Kind = 1 := by simpa using h
    rw [this]; exact ⟨rfl, rfl⟩
  have hk2 : (t.Kind == 2) = true → (t.Kind == 3) = false := fun h => by
    have : t.Kind = 2 := by simpa using h
    rw [this]; rfl
  have h6 : fm6 t = true := by
    unfold formN at hf
    simp only [Bool.and_eq_true] at hf
    exact hf.2
  have hin : (bif inside t.Low (-1048576) 1048576 then inside t.High t.Low 1048576 else false) = !(bif (bif !within t.Low then true else !within t.High) then true else decide (t.Low > t.High)) := by
    unfold inside within
    by_cases a1 : t.Low ≥ -1048576 <;> by_cases a2 : t.Low ≤ 1048576 <;> by_cases a3 : t.High ≥ -1048576 <;> by_cases a4 : t.High ≤ 1048576 <;> by_cases a5 : t.High ≥ t.Low <;>
      simp [a1, a2, a3, a4, a5] <;> omega
  have hsz : inside t.Size 1 32 = !(bif decide (t.Size < 1) then true else decide (t.Size > 32)) := by
    unfold inside
    rw [lt_ge, gt_le]
    cases decide (t.Size ≥ 1) <;> cases decide (t.Size ≤ 32) <;> rfl
  unfold numN nbad nm1 nm2
  rw [hin, hsz, gt_le (((t.Of).length : Int))]
  have hl : (t.Kind == 3) = false → decide (((t.Of).length : Int) ≤ 32) = true := fun h3 => by
    unfold fm6 at h6
    rw [h3] at h6
    cases h2 : t.Kind == 2 with
    | true =>
      rw [h2] at h6
      have : ((t.Of).length : Int) = 1 := by simpa using h6
      exact decide_eq_true (by omega)
    | false =>
      rw [h2] at h6
      have : ((t.Of).length : Int) = 0 := by simpa using h6
      exact decide_eq_true (by omega)
  revert hk1 hk2 hl
  generalize (bif (bif !within t.Low then true else !within t.High) then true else decide (t.Low > t.High)) = X
  generalize (bif decide (t.Size < 1) then true else decide (t.Size > 32)) = Y
  generalize decide (((t.Of).length : Int) ≤ 32) = Z
  generalize (t.Kind == 1) = a
  generalize (t.Kind == 2) = b
  generalize (t.Kind == 3) = c
  intro hk1 hk2 hl
  cases a <;> cases b <;> cases c <;> first | exact absurd (hk1 rfl).1 (by decide) | exact absurd (hk1 rfl).2 (by decide) | exact absurd (hk2 rfl) (by decide) | (cases X <;> cases Y <;> cases Z <;> first | rfl | exact absurd (hl rfl) (by decide))

theorem numbers_all (t : ApiType) : t.all formN = true → t.all numN = t.all fun t => !nbad t := by
  induction t using ApiType.ind with
  | h t ih =>
  intro hf
  rw [ApiType.all_eq, Bool.and_eq_true] at hf
  rw [ApiType.all_eq, ApiType.all_eq, numbers_node t hf.1]
  congr 1
  have : ∀ l : List ApiType, (∀ x ∈ l, x.all formN = true → x.all numN = x.all fun t => !nbad t) → ApiType.alls formN l = true → ApiType.alls numN l = ApiType.alls (fun t => !nbad t) l := by
    intro l
    induction l with
    | nil => intros; rfl
    | cons x r ihr =>
      intro h1 h2
      simp only [ApiType.alls, Bool.and_eq_true] at h2
      simp only [ApiType.alls]
      rw [h1 x List.mem_cons_self h2.1, ihr (fun y hy => h1 y (List.mem_cons_of_mem _ hy)) h2.2]
  exact this t.Of ih hf.2

def checkT (t : ApiType) : Int := repCode t.nodes t.depth (!t.all formN) (!t.all nameN) (!t.all numN)

theorem ApiType.alls_mem {p : ApiType → Bool} : ∀ {l : List ApiType} {t : ApiType}, ApiType.alls p l = true → t ∈ l → t.all p = true
  | x :: r, t, h, hm => by
    simp only [ApiType.alls, Bool.and_eq_true] at h
    cases hm with
    | head => exact h.1
    | tail _ hm => exact ApiType.alls_mem h.2 hm

/-- what a type that CheckType lets pass is like -/
structure Fine (t : ApiType) : Prop where
  form : t.all formN = true
  num : t.all numN = true
theorem Fine.kid {t x : ApiType} (h : Fine t) (hx : x ∈ t.Of) : Fine x := by
  have h1 := h.form
  have h2 := h.num
  rw [ApiType.all_eq, Bool.and_eq_true] at h1 h2
  exact ⟨ApiType.alls_mem h1.2 hx, ApiType.alls_mem h2.2 hx⟩
mutual
/-- some node meets p -/
def ApiType.some (p : ApiType → Bool) : ApiType → Bool
  | .mk k l h s n ns of => p (.mk k l h s n ns of) || ApiType.somes p of
def ApiType.somes (p : ApiType → Bool) : List ApiType → Bool
  | [] => false
  | t :: r => ApiType.some p t || ApiType.somes p r
end

end Go.Proofs.YtmilgoloagbmpaaGreatDoor

set_option linter.unusedSimpArgs false
namespace Go.Proofs.YtmilgoloagbmpaaGreatDoor
open Go.Am

mutual
def ApiType.bulk : ApiType → Nat
  | .mk _ _ _ _ n ns of => 1 + (1 + (1 + (1 + ((n.length + 1) + (((ns.map fun s => s.length + 1).sum + 1) + ((ApiType.bulks of + 1) + 0)))))) + 1
def ApiType.bulks : List ApiType → Nat
  | [] => 0
  | x :: r => ApiType.bulk x + ApiType.bulks r
end
theorem ApiType.bulk_eq (t : ApiType) : t.bulk = t.Name.length + (t.Names.map fun s => s.length + 1).sum + ApiType.bulks t.Of + 8 := by cases t; simp only [ApiType.bulk]; omega
theorem ApiType.bulk_kid {t : ApiType} : ∀ {l : List ApiType}, t ∈ l → t.bulk ≤ ApiType.bulks l
  | x :: r, h => by
    simp only [ApiType.bulks]
    cases h with
    | head => omega
    | tail _ h => have := ApiType.bulk_kid h; omega
theorem ApiType.bulk_len : ∀ l : List ApiType, l.length ≤ ApiType.bulks l
  | [] => Nat.le_refl _
  | x :: r => by
    simp only [ApiType.bulks, List.length_cons]
    have := ApiType.bulk_len r
    have := ApiType.bulk_eq x
    omega
theorem strs_kid {s : Str} : ∀ {l : List Str}, s ∈ l → s.length + 1 ≤ (l.map fun s => s.length + 1).sum
  | x :: r, h => by
    simp only [List.map_cons, List.sum_cons]
    cases h with
    | head => omega
    | tail _ h => have := strs_kid h; omega
theorem strs_sum : ∀ l : List Str, l.length ≤ (l.map fun s => s.length + 1).sum
  | [] => Nat.le_refl _
  | x :: r => by simp only [List.map_cons, List.sum_cons, List.length_cons]; have := strs_sum r; omega
mutual
theorem ApiType.nodes_bulk : ∀ t : ApiType, t.nodes ≤ t.bulk
  | .mk _ _ _ _ _ _ of => by simp only [ApiType.nodes, ApiType.bulk]; have := ApiType.nodess_bulk of; omega
theorem ApiType.nodess_bulk : ∀ l : List ApiType, ApiType.nodess l ≤ ApiType.bulks l
  | [] => Nat.le_refl _
  | x :: r => by simp only [ApiType.nodess, ApiType.bulks]; have := ApiType.nodes_bulk x; have := ApiType.nodess_bulk r; omega
end
/-- a type of bounded size -/
def Ok (t : ApiType) : Prop := t.bulk ≤ BB
theorem Ok.kid {t x : ApiType} (h : Ok t) (hx : x ∈ t.Of) : Ok x := by
  unfold Ok at *
  have := ApiType.bulk_kid hx
  have := ApiType.bulk_eq t
  omega
theorem Ok.ofs {t : ApiType} (h : Ok t) : t.Of.length ≤ BB := by
  unfold Ok at *
  have := ApiType.bulk_len t.Of
  have := ApiType.bulk_eq t
  omega
theorem Ok.names {t : ApiType} (h : Ok t) : t.Names.length ≤ BB := by
  unfold Ok at *
  have := strs_sum t.Names
  have := ApiType.bulk_eq t
  omega
theorem Ok.name1 {t : ApiType} (h : Ok t) {s : Str} (hs : s ∈ t.Names) : s.length ≤ BB := by
  unfold Ok at *
  have := strs_kid hs
  have := ApiType.bulk_eq t
  omega
theorem Ok.name {t : ApiType} (h : Ok t) : t.Name.length ≤ BB := by
  unfold Ok at *
  have := ApiType.bulk_eq t
  omega
theorem Ok.nodes {t : ApiType} (h : Ok t) : t.nodes ≤ BB := Nat.le_trans (ApiType.nodes_bulk t) h

/-! ### the program's CheckType -/
theorem bor (a b : Bool) : (bif a then true else b) = (a || b) := by cases a <;> rfl
theorem rep_deep (d : Int) (o : SyntaxReport) : syntax_report_deep d o = some ⟨o.nodes, max o.depth d, o.badForm, o.badName, o.badNumber⟩ := rfl
theorem rep_form (b : Bool) (o : SyntaxReport) : syntax_report_form b o = some ⟨o.nodes, o.depth, o.badForm || !b, o.badName, o.badNumber⟩ := by unfold syntax_report_form; rw [bor]
theorem rep_number (b : Bool) (o : SyntaxReport) : syntax_report_number b o = some ⟨o.nodes, o.depth, o.badForm, o.badName, o.badNumber || !b⟩ := by unfold syntax_report_number; rw [bor]
theorem rep_inside (a b c : Int) : syntax_inside a b c = some (inside a b c) := rfl
theorem rep_name (s : Str) (hs : s.length ≤ BB) (o : SyntaxReport) : syntax_report_name s o = some ⟨o.nodes, o.depth, o.badForm, o.badName || !isName s, o.badNumber⟩ := by
  unfold syntax_report_name
  rw [IsName_eq s hs]
  cases h : o.badName <;> simp
theorem rep_code (o : SyntaxReport) : syntax_report_code o = some (repCode o.nodes o.depth o.badForm o.badName o.badNumber) := by
  unfold syntax_report_code repCode
  cases (bif decide (o.nodes > 1024) then true else decide (o.depth > 12)) <;> cases o.badForm <;> cases o.badName <;> cases o.badNumber <;> rfl

def repT (o : SyntaxReport) (d : Int) (n m : Nat) (f a u : Bool) : SyntaxReport := ⟨o.nodes + n, max o.depth (d + m), o.badForm || !f, o.badName || !a, o.badNumber || !u⟩

theorem typ_l5 (t : ApiType) (d : Int) (hd : 0 ≤ d) (ht : Ok t)
    (ih : ∀ x ∈ t.Of, ∀ (d : Int) (o : SyntaxReport), 0 ≤ d → d + x.nodes ≤ 4 * BB → 0 ≤ o.nodes → o.nodes + x.nodes ≤ 4 * BB → syntax_report_typ x d o = some (repT o d x.nodes (x.depth - 1) (x.all formN) (x.all nameN) (x.all numN))) :
    ∀ (r : List ApiType) (k : Nat) (o : SyntaxReport), t.Of.drop k = r → (∀ x ∈ r, x ∈ t.Of) → d + 1 + ApiType.nodess r ≤ 4 * BB → 0 ≤ o.nodes → o.nodes + ApiType.nodess r ≤ 4 * BB → d ≤ o.depth →
      syntax_report_typ_l5 t d o k = some (repT o d (ApiType.nodess r) (ApiType.depths r) (ApiType.alls formN r) (ApiType.alls nameN r) (ApiType.alls numN r))
  | [], k, o, h, _, _, _, _, h5 => by
    rw [syntax_report_typ_l5, (lp_out h).1]
    simp only [repT, ApiType.nodess, ApiType.depths, ApiType.alls, Bool.not_true, Bool.or_false]
    rw [if_neg (by simp), show o.nodes + ((0 : Nat) : Int) = o.nodes by omega, show max o.depth (d + ((0 : Nat) : Int)) = o.depth by omega]
  | x :: r, k, o, h, hm, hb, h3, h4, h5 => by
    obtain ⟨e1, e2, e3, e4, e5⟩ := lp_in h
    simp only [ApiType.nodess] at hb h4
    have hdp : 1 ≤ x.depth := by rw [ApiType.depth_eq]; omega
    have hof := ht.ofs
    unfold BB at hb h4 hof
    rw [syntax_report_typ_l5, e1, if_pos rfl, e2, ob, wr (n := d + 1) (by omega) (by omega), ih x e5 (d + 1) o (by omega) (by unfold BB; omega) h3 (by unfold BB; omega), ob, w1 (by unfold BB; omega),
      typ_l5 t d hd ht ih r (k + 1) _ e3 (fun y hy => hm y (List.mem_cons_of_mem _ hy)) (by unfold BB; omega) (by simp only [repT]; omega) (by simp only [repT]; unfold BB; omega) (by simp only [repT]; omega)]
    simp only [repT, ApiType.nodess, ApiType.depths, ApiType.alls, or_not]
    rw [show o.nodes + (x.nodes : Int) + (ApiType.nodess r : Nat) = o.nodes + ((x.nodes + ApiType.nodess r : Nat) : Int) by omega,
      show max (max o.depth (d + 1 + ((x.depth - 1 : Nat) : Int))) (d + (ApiType.depths r : Nat)) = max o.depth (d + ((max x.depth (ApiType.depths r) : Nat) : Int)) by omega]

theorem typ_l4 (t : ApiType) (d : Int) (ht : Ok t) (R : SyntaxReport → Option SyntaxReport) (hR : ∀ o, syntax_report_typ_l5 t d o 0 = R o) :
    ∀ (r : List Str) (k : Nat) (o : SyntaxReport), t.Names.drop k = r → syntax_report_typ_l4 t d o k = R ⟨o.nodes, o.depth, o.badForm, o.badName || !r.all isName, o.badNumber⟩
  | [], k, o, h => by
    rw [syntax_report_typ_l4, (lp_out h).1, if_neg (by simp), hR]
    simp
  | x :: r, k, o, h => by
    obtain ⟨e1, e2, e3, e4, e5⟩ := lp_in h
    have := ht.names
    rw [syntax_report_typ_l4, e1, if_pos rfl, e2, ob, rep_name x (ht.name1 e5), ob, w1 (by omega), typ_l4 t d ht R hR r (k + 1) _ e3]
    simp only [List.all_cons, or_not]

theorem typ_j2 (t : ApiType) (d : Int) (ht : Ok t) (o : SyntaxReport) : syntax_report_typ_j2 t d o = syntax_report_typ_l4 t d ⟨o.nodes, o.depth, o.badForm, o.badName || !na1 t, o.badNumber⟩ 0 := by
  rw [syntax_report_typ_j2, rep_name _ ht.name, ob, syntax_report_typ_j3, syntax_report_typ_j3]
  unfold na1
  cases h : t.Kind == 4 <;> simp
theorem typ_j1 (t : ApiType) (d : Int) (o : SyntaxReport) : syntax_report_typ_j1 t d o = syntax_report_typ_j2 t d ⟨o.nodes, o.depth, o.badForm, o.badName, o.badNumber || !nm2 t⟩ := by
  rw [syntax_report_typ_j1]
  unfold nm2
  simp only [rep_inside, rep_number, ob]
  cases h : t.Kind == 1 <;> cases inside t.Low (-1048576) 1048576 <;> simp [ob]

theorem typ_eq (t : ApiType) : Ok t → ∀ (d : Int) (o : SyntaxReport), 0 ≤ d → d + t.nodes ≤ 4 * BB → 0 ≤ o.nodes → o.nodes + t.nodes ≤ 4 * BB →
    syntax_report_typ t d o = some (repT o d t.nodes (t.depth - 1) (t.all formN) (t.all nameN) (t.all numN)) := by
  induction t using ApiType.ind with
  | h t ih =>
  intro ht d o hd hb h3 h4
  have h5 := fun o h3 h4 hd' => typ_l5 t d hd ht (fun x hx => ih x hx (ht.kid hx)) t.Of 0 o rfl (fun _ h => h) (by rw [ApiType.nodes_eq] at hb; omega) h3 h4 hd'
  have l4 := typ_l4 t d ht _ (fun o => rfl) t.Names 0
  rw [ApiType.nodes_eq] at hb h4
  unfold BB at hb h4
  rw [syntax_report_typ]
  simp only [rep_deep, rep_form, rep_inside, rep_number, ob, typ_j1, typ_j2 t d ht]
  rw [wr (n := o.nodes + 1) (by omega) (by omega)]
  have fin : ∀ b6 u1, fm6 t = b6 → nm1 t = u1 →
      syntax_report_typ_l4 t d ⟨o.nodes + 1, max o.depth d, (((((o.badForm || !fm1 t) || !fm2 t) || !fm3 t) || !fm4 t) || !fm5 t) || !b6, o.badName || !na1 t, (o.badNumber || !u1) || !nm2 t⟩ 0
        = some (repT o d t.nodes (t.depth - 1) (t.all formN) (t.all nameN) (t.all numN)) := by
    rintro _ _ rfl rfl
    have := l4 ⟨o.nodes + 1, max o.depth d, (((((o.badForm || !fm1 t) || !fm2 t) || !fm3 t) || !fm4 t) || !fm5 t) || !fm6 t, o.badName || !na1 t, (o.badNumber || !nm1 t) || !nm2 t⟩ rfl
    rw [show ((0 : Nat) : Int) = 0 from rfl] at this h5
    rw [this, h5 _ (by simp only; omega) (by simp only; unfold BB; omega) (by simp only; omega)]
    simp only [repT, ApiType.all_eq, ApiType.nodes_eq, ApiType.depth_eq, formN, nameN, numN, or_not, Bool.or_assoc, ← Bool.not_and]
    simp only [or_not, Bool.and_assoc]
    rw [show o.nodes + 1 + (ApiType.nodess t.Of : Int) = o.nodes + ((ApiType.nodess t.Of + 1 : Nat) : Int) by omega, show max (max o.depth d) (d + (ApiType.depths t.Of : Int)) = max o.depth (d + ((ApiType.depths t.Of + 1 - 1 : Nat) : Int)) by omega]
  have h2 : (t.Kind == 2) = true ∨ (t.Kind == 2) = false := by cases t.Kind == 2 <;> simp
  have h3 : (t.Kind == 3) = true ∨ (t.Kind == 3) = false := by cases t.Kind == 3 <;> simp
  rcases h2 with h2 | h2
  · rw [if_pos h2]
    exact fin ((t.Of.length : Int) == 1) (inside t.Size 1 32) (by unfold fm6; rw [h2, cond_true]) (by unfold nm1; rw [h2, cond_true])
  · rw [if_neg (by rw [h2]; simp)]
    rcases h3 with h3 | h3
    · rw [if_pos h3]
      exact fin (bif decide ((t.Of.length : Int) ≥ 1) then (t.Of.length : Int) == (t.Names.length : Int) else false) (decide ((t.Of.length : Int) ≤ 32)) (by unfold fm6; rw [h2, h3, cond_false, cond_true]) (by unfold nm1; rw [h2, h3, cond_false, cond_true])
    · rw [if_neg (by rw [h3]; simp)]
      have := fin ((t.Of.length : Int) == 0) true (by unfold fm6; rw [h2, h3, cond_false, cond_false]) (by unfold nm1; rw [h2, h3, cond_false, cond_false])
      rw [Bool.not_true, Bool.or_false] at this
      exact this

theorem CheckType_eq (t : ApiType) (ht : Ok t) : syntax_CheckType t = some (checkT t) := by
  have hn := ht.nodes
  unfold BB at hn
  have hp : 1 ≤ t.depth := by rw [ApiType.depth_eq]; omega
  unfold syntax_CheckType
  rw [typ_eq t ht 1 _ (by omega) (by unfold BB; omega) (by simp) (by simp only; unfold BB; omega), ob, rep_code, ob]
  unfold repT checkT
  simp only [Bool.false_or]
  rw [show (0 : Int) + (t.nodes : Int) = t.nodes by omega, show max 0 ((1 : Int) + ((t.depth - 1 : Nat) : Int)) = t.depth by omega]
end Go.Proofs.YtmilgoloagbmpaaGreatDoor

set_option linter.unusedSimpArgs false
namespace Go.Proofs.YtmilgoloagbmpaaGreatDoor
open Go.Am

/-! ### the reference's CheckType -/
theorem rNodes_l (t : ApiType) (ht : Ok t) (ih : ∀ x ∈ t.Of, ref10_typeNodes x = some (x.nodes : Int)) :
    ∀ (r : List ApiType) (k : Nat) (n : Nat), t.Of.drop k = r → n + ApiType.nodess r ≤ BB → ref10_typeNodes_l1 t (n : Int) k = some ((n + ApiType.nodess r : Nat) : Int)
  | [], k, n, h, hb => by rw [ref10_typeNodes_l1, (lp_out h).1, if_neg (by simp)]; simp [ApiType.nodess]
  | x :: r, k, n, h, hb => by
    obtain ⟨e1, e2, e3, e4, e5⟩ := lp_in h
    have := ht.ofs
    simp only [ApiType.nodess] at hb
    have hb' := hb
    unfold BB at hb'
    rw [ref10_typeNodes_l1, e1, if_pos rfl, e2, ob, ih x e5, ob, wr (n := (n : Int) + _) (by omega) (by omega), w1 (by omega), show (n : Int) + (x.nodes : Int) = ((n + x.nodes : Nat) : Int) by omega, rNodes_l t ht ih r (k + 1) _ e3 (by omega)]
    simp only [ApiType.nodess, Nat.add_assoc]
theorem rNodes_eq (t : ApiType) : Ok t → ref10_typeNodes t = some (t.nodes : Int) := by
  induction t using ApiType.ind with
  | h t ih =>
  intro ht
  have hn := ht.nodes
  rw [ApiType.nodes_eq] at hn
  rw [ref10_typeNodes]
  have := rNodes_l t ht (fun x hx => ih x hx (ht.kid hx)) t.Of 0 1 rfl (by omega)
  rw [ApiType.nodes_eq, Nat.add_comm]
  exact this
theorem rDepth_l (t : ApiType) (ht : Ok t) (ih : ∀ x ∈ t.Of, ref10_typeDepth x = some (x.depth : Int)) (B : Nat) (hB : B ≤ BB) :
    ∀ (r : List ApiType) (k : Nat) (n : Nat), t.Of.drop k = r → n ≤ B → ApiType.depths r ≤ B → ref10_typeDepth_l1 t (n : Int) k = some ((max n (ApiType.depths r) + 1 : Nat) : Int)
  | [], k, n, h, hb, _ => by
    rw [ref10_typeDepth_l1, (lp_out h).1, if_neg (by simp), w1 (by omega)]
    simp [ApiType.depths]
  | x :: r, k, n, h, hb, hd => by
    obtain ⟨e1, e2, e3, e4, e5⟩ := lp_in h
    have := ht.ofs
    simp only [ApiType.depths] at hd
    rw [ref10_typeDepth_l1, e1, if_pos rfl, e2, ob, ih x e5, ob, w1 (by omega), rDepth_l t ht ih B hB r (k + 1) _ e3 (by omega) (by omega), rDepth_l t ht ih B hB r (k + 1) _ e3 (by omega) (by omega)]
    simp only [ApiType.depths]
    by_cases hx : (x.depth : Int) > (n : Int)
    · rw [if_pos (decide_eq_true hx), show max n (max x.depth (ApiType.depths r)) = max x.depth (ApiType.depths r) by omega]
    · rw [if_neg (by simpa using hx), show max n (max x.depth (ApiType.depths r)) = max n (ApiType.depths r) by omega]
theorem rDepth_eq (t : ApiType) : Ok t → ref10_typeDepth t = some (t.depth : Int) := by
  induction t using ApiType.ind with
  | h t ih =>
  intro ht
  have hn := ht.nodes
  have hd := ApiType.depth_nodes t
  rw [ref10_typeDepth]
  rw [ApiType.depth_eq] at hd
  have := rDepth_l t ht (fun x hx => ih x hx (ht.kid hx)) BB (Nat.le_refl _) t.Of 0 0 rfl (by omega) (by omega)
  rw [ApiType.depth_eq]
  rw [show max 0 (ApiType.depths t.Of) = ApiType.depths t.Of by omega] at this
  exact this
theorem rAdd_eq (t : ApiType) (ht : Ok t) : ref10_addType ⟨0, 0⟩ t true = some ⟨t.nodes, t.depth⟩ := by
  have hn := ht.nodes
  unfold BB at hn
  have hp : 1 ≤ t.depth := by rw [ApiType.depth_eq]; omega
  unfold ref10_addType
  rw [rNodes_eq t ht, rDepth_eq t ht]
  simp only [Bool.not_true, cond_false, ob, ref10_size_deeper]
  rw [if_neg (by simp), ob, if_neg (by simp), wr (n := (0 : Int) + (t.nodes : Int)) (by omega) (by omega), if_pos (decide_eq_true (by omega)), ob]
  rw [show (0 : Int) + (t.nodes : Int) = t.nodes by omega]

theorem rForm_l (t : ApiType) (ht : Ok t) (ih : ∀ x ∈ t.Of, ref10_typeForm x = some (x.all formN)) : ∀ (r : List ApiType) (k : Nat), t.Of.drop k = r → ref10_typeForm_l1 t k = some (ApiType.alls formN r)
  | [], k, h => by rw [ref10_typeForm_l1, (lp_out h).1, if_neg (by simp)]; rfl
  | x :: r, k, h => by
    obtain ⟨e1, e2, e3, e4, e5⟩ := lp_in h
    have := ht.ofs
    rw [ref10_typeForm_l1, e1, if_pos rfl, e2, ob, ih x e5, ob, w1 (by omega), rForm_l t ht ih r (k + 1) e3, ApiType.alls]
    cases x.all formN <;> simp
theorem rForm_eq (t : ApiType) : Ok t → ref10_typeForm t = some (t.all formN) := by
  induction t using ApiType.ind with
  | h t ih =>
  intro ht
  have h1 := rForm_l t ht (fun x hx => ih x hx (ht.kid hx)) t.Of 0 rfl
  rw [show ((0 : Nat) : Int) = 0 from rfl] at h1
  rw [ref10_typeForm, h1, ApiType.all_eq, formN_eq]
  show (if bad0 t = true then some false else if bad1 t = true then some false else if bad2 t = true then some false else some (ApiType.alls formN t.Of)) = _
  cases bad0 t <;> cases bad1 t <;> cases bad2 t <;> simp

theorem rNames_l2 (t : ApiType) (ht : Ok t) (ih : ∀ x ∈ t.Of, ref10_typeNames x = some (x.all nameN)) : ∀ (r : List ApiType) (k : Nat), t.Of.drop k = r → ref10_typeNames_l2 t k = some (ApiType.alls nameN r)
  | [], k, h => by rw [ref10_typeNames_l2, (lp_out h).1, if_neg (by simp)]; rfl
  | x :: r, k, h => by
    obtain ⟨e1, e2, e3, e4, e5⟩ := lp_in h
    have := ht.ofs
    rw [ref10_typeNames_l2, e1, if_pos rfl, e2, ob, ih x e5, ob, w1 (by omega), rNames_l2 t ht ih r (k + 1) e3, ApiType.alls]
    cases x.all nameN <;> simp
theorem rNames_l1 (t : ApiType) (ht : Ok t) (b : Bool) (hb : ref10_typeNames_l2 t 0 = some b) : ∀ (r : List Str) (k : Nat), t.Names.drop k = r → ref10_typeNames_l1 t k = some (r.all isName && b)
  | [], k, h => by rw [ref10_typeNames_l1, (lp_out h).1, if_neg (by simp), hb]; rfl
  | x :: r, k, h => by
    obtain ⟨e1, e2, e3, e4, e5⟩ := lp_in h
    have := ht.names
    rw [ref10_typeNames_l1, e1, if_pos rfl, e2, ob, refIsName_eq x (ht.name1 e5), ob, w1 (by omega), rNames_l1 t ht b hb r (k + 1) e3, List.all_cons]
    cases isName x <;> simp
theorem rNames_eq (t : ApiType) : Ok t → ref10_typeNames t = some (t.all nameN) := by
  induction t using ApiType.ind with
  | h t ih =>
  intro ht
  have h2 := rNames_l2 t ht (fun x hx => ih x hx (ht.kid hx)) t.Of 0 rfl
  have h1 := rNames_l1 t ht _ h2 t.Names 0 rfl
  rw [show ((0 : Nat) : Int) = 0 from rfl] at h1
  rw [ref10_typeNames, h1, ApiType.all_eq, refIsName_eq t.Name ht.name]
  unfold nameN na1
  cases t.Kind == 4 <;> cases isName t.Name <;> simp

theorem rNumbers_l (t : ApiType) (ht : Ok t) (ih : ∀ x ∈ t.Of, ref10_typeNumbers x = some (x.all fun t => !nbad t)) : ∀ (r : List ApiType) (k : Nat), t.Of.drop k = r → ref10_typeNumbers_l1 t k = some (ApiType.alls (fun t => !nbad t) r)
  | [], k, h => by rw [ref10_typeNumbers_l1, (lp_out h).1, if_neg (by simp)]; rfl
  | x :: r, k, h => by
    obtain ⟨e1, e2, e3, e4, e5⟩ := lp_in h
    have := ht.ofs
    rw [ref10_typeNumbers_l1, e1, if_pos rfl, e2, ob, ih x e5, ob, w1 (by omega), rNumbers_l t ht ih r (k + 1) e3, ApiType.alls]
    cases x.all (fun t => !nbad t) <;> simp
theorem within_eq (n : Int) : ref10_within n = some (within n) := rfl
theorem rNumbers_eq (t : ApiType) : Ok t → ref10_typeNumbers t = some (t.all fun t => !nbad t) := by
  induction t using ApiType.ind with
  | h t ih =>
  intro ht
  have h1 := rNumbers_l t ht (fun x hx => ih x hx (ht.kid hx)) t.Of 0 rfl
  rw [show ((0 : Nat) : Int) = 0 from rfl] at h1
  rw [ref10_typeNumbers, h1, ApiType.all_eq]
  simp only [within_eq]
  generalize ApiType.alls (fun t => !nbad t) t.Of = A
  unfold nbad
  generalize decide ((t.Of.length : Int) > 32) = b1
  generalize (bif t.Kind == 2 then (bif decide (t.Size < 1) then true else decide (t.Size > 32)) else false) = b2
  generalize decide (t.Low > t.High) = b3
  cases t.Kind == 1 <;> cases within t.Low <;> cases within t.High <;> cases b1 <;> cases b2 <;> cases b3 <;> rfl
theorem rVerdict_eq (s : Keyholeref10Size) (f m u : Bool) : ref10_verdict s f m u = some (repCode s.nodes s.depth (!f) (!m) (!u)) := by
  unfold ref10_verdict repCode
  cases (bif decide (s.nodes > 1024) then true else decide (s.depth > 12)) <;> cases f <;> cases m <;> cases u <;> rfl
theorem rCheckType_eq (t : ApiType) (ht : Ok t) : ref10_CheckType t = some (checkT t) := by
  unfold ref10_CheckType checkT
  rw [rAdd_eq t ht, rForm_eq t ht, rNames_eq t ht, rNumbers_eq t ht]
  simp only [ob, rVerdict_eq]
  cases hf : t.all formN with
  | true => rw [numbers_all t hf]
  | false => unfold repCode; rfl
end Go.Proofs.YtmilgoloagbmpaaGreatDoor

set_option linter.unusedSimpArgs false
set_option linter.unusedVariables false
namespace Go.Proofs.YtmilgoloagbmpaaGreatDoor
open Go.Am

theorem ApiExpr.ind {P : ApiExpr → Prop} (h : ∀ t : ApiExpr, (∀ x ∈ t.Kids, P x) → P t) : ∀ t, P t := by
  intro t
  refine ApiExpr.rec (motive_1 := P) (motive_2 := fun l => ∀ x ∈ l, P x) ?_ ?_ ?_ t
  · intro k l n of ih
    exact h _ ih
  · intro x hx; cases hx
  · intro x r hx hr y hy
    cases hy with
    | head => exact hx
    | tail _ hy => exact hr y hy

mutual
def ApiExpr.depth : ApiExpr → Nat
  | .mk _ _ _ of => ApiExpr.depths of + 1
def ApiExpr.depths : List ApiExpr → Nat
  | [] => 0
  | t :: r => max (ApiExpr.depth t) (ApiExpr.depths r)
end
theorem ApiExpr.depth_eq (t : ApiExpr) : t.depth = ApiExpr.depths t.Kids + 1 := by cases t; simp [ApiExpr.depth, ApiExpr.Kids]
mutual
/-- every node meets p -/
def ApiExpr.all (p : ApiExpr → Bool) : ApiExpr → Bool
  | .mk k l n of => p (.mk k l n of) && ApiExpr.alls p of
def ApiExpr.alls (p : ApiExpr → Bool) : List ApiExpr → Bool
  | [] => true
  | t :: r => ApiExpr.all p t && ApiExpr.alls p r
end
theorem ApiExpr.all_eq (p : ApiExpr → Bool) (t : ApiExpr) : t.all p = (p t && ApiExpr.alls p t.Kids) := by cases t; rfl
mutual
def ApiExpr.nodes : ApiExpr → Nat
  | .mk _ _ _ of => ApiExpr.nodess of + 1
def ApiExpr.nodess : List ApiExpr → Nat
  | [] => 0
  | t :: r => ApiExpr.nodes t + ApiExpr.nodess r
end
theorem ApiExpr.nodes_eq (t : ApiExpr) : t.nodes = ApiExpr.nodess t.Kids + 1 := by cases t; rfl
mutual
theorem ApiExpr.depth_nodes : ∀ t : ApiExpr, t.depth ≤ t.nodes
  | .mk _ _ _ of => by simp only [ApiExpr.depth, ApiExpr.nodes]; have := ApiExpr.depths_nodess of; omega
theorem ApiExpr.depths_nodess : ∀ l : List ApiExpr, ApiExpr.depths l ≤ ApiExpr.nodess l
  | [] => Nat.le_refl _
  | t :: r => by simp only [ApiExpr.depths, ApiExpr.nodess]; have := ApiExpr.depth_nodes t; have := ApiExpr.depths_nodess r; omega
end

mutual
def ApiExpr.bulk : ApiExpr → Nat
  | .mk _ _ n ks => 1 + (1 + ((n.length + 1) + ((ApiExpr.bulks ks + 1) + 0))) + 1
def ApiExpr.bulks : List ApiExpr → Nat
  | [] => 0
  | x :: r => ApiExpr.bulk x + ApiExpr.bulks r
end
theorem ApiExpr.bulk_eq (t : ApiExpr) : t.bulk = t.Name.length + ApiExpr.bulks t.Kids + 5 := by cases t; simp only [ApiExpr.bulk]; omega
theorem ApiExpr.bulk_kid {t : ApiExpr} : ∀ {l : List ApiExpr}, t ∈ l → t.bulk ≤ ApiExpr.bulks l
  | x :: r, h => by
    simp only [ApiExpr.bulks]
    cases h with
    | head => omega
    | tail _ h => have := ApiExpr.bulk_kid h; omega
theorem ApiExpr.bulk_len : ∀ l : List ApiExpr, l.length ≤ ApiExpr.bulks l
  | [] => Nat.le_refl _
  | x :: r => by
    simp only [ApiExpr.bulks, List.length_cons]
    have := ApiExpr.bulk_len r
    have := ApiExpr.bulk_eq x
    omega
mutual
theorem ApiExpr.nodes_bulk : ∀ t : ApiExpr, t.nodes ≤ t.bulk
  | .mk _ _ _ of => by simp only [ApiExpr.nodes, ApiExpr.bulk]; have := ApiExpr.nodess_bulk of; omega
theorem ApiExpr.nodess_bulk : ∀ l : List ApiExpr, ApiExpr.nodess l ≤ ApiExpr.bulks l
  | [] => Nat.le_refl _
  | x :: r => by simp only [ApiExpr.nodess, ApiExpr.bulks]; have := ApiExpr.nodes_bulk x; have := ApiExpr.nodess_bulk r; omega
end
/-- an expression of bounded size -/
def OkE (t : ApiExpr) : Prop := t.bulk ≤ BB
theorem OkE.kid {t x : ApiExpr} (h : OkE t) (hx : x ∈ t.Kids) : OkE x := by
  unfold OkE at *
  have := ApiExpr.bulk_kid hx
  have := ApiExpr.bulk_eq t
  omega
theorem OkE.name {t : ApiExpr} (h : OkE t) : t.Name.length ≤ BB := by
  unfold OkE at *
  have := ApiExpr.bulk_eq t
  omega
theorem OkE.nodes {t : ApiExpr} (h : OkE t) : t.nodes ≤ BB := Nat.le_trans (ApiExpr.nodes_bulk t) h
theorem ApiExpr.alls_mem {p : ApiExpr → Bool} : ∀ {l : List ApiExpr} {t : ApiExpr}, ApiExpr.alls p l = true → t ∈ l → t.all p = true
  | x :: r, t, h, hm => by
    simp only [ApiExpr.alls, Bool.and_eq_true] at h
    cases hm with
    | head => exact h.1
    | tail _ hm => exact ApiExpr.alls_mem h.2 hm

/-! ### what one node is asked -/
def ar (o : Int) : Int :=
  bif (bif (bif (bif (o == 0) then true else (o == 1)) then true else (o == 2)) then true else (o == 3)) then 0
  else bif (bif (bif (o == 4) then true else (o == 6)) then true else (o == 7)) then 1
  else bif (bif (o == 5) then true else (bif (decide (o ≥ 8)) then (decide (o ≤ 22)) else false)) then 2
  else bif (o == 23) then 3 else -1
mutual
def ApiExpr.place : ApiExpr → Bool
  | .mk op _ _ ks => bif op == 3 then true else bif (bif op == 4 then true else op == 5) then ApiExpr.place1 ks else false
def ApiExpr.place1 : List ApiExpr → Bool
  | [] => false
  | x :: _ => ApiExpr.place x
end
theorem b3 {o : Int} (h : (bif o == 4 then true else o == 5) = true) : (o == 3) = false := by
  apply beq_eq_false_iff_ne.2
  rintro rfl
  cases h
def ef1 (e : ApiExpr) : Bool := ar e.Op == (e.Kids.length : Int)
def ef2 (e : ApiExpr) : Bool := bif e.NV == 0 then true else e.Op == 0
def ef3 (e : ApiExpr) : Bool := bif e.Name == [] then true else bif e.Op == 3 then true else e.Op == 4
def ef4 (e : ApiExpr) : Bool := bif (bif e.Op == 4 then true else e.Op == 5) then e.place else true
def eform (e : ApiExpr) : Bool := ef1 e && ef2 e && ef3 e && ef4 e
def enumb (e : ApiExpr) : Bool := bif e.Op == 0 then inside e.NV 0 1048576 else true
/-! ### the program's -/
end Go.Proofs.YtmilgoloagbmpaaGreatDoor

set_option linter.unusedSimpArgs false
set_option linter.unusedVariables false
namespace Go.Proofs.YtmilgoloagbmpaaGreatDoor
open Go.Am

/-! ### few -/
theorem tleft_l2 (t : ApiType) (ht : Ok t) (ih : ∀ x ∈ t.Of, ∀ n, ∃ m, ref10_typeLeft x n = some m) : ∀ (r : List ApiType) (k : Nat) (n : Int), t.Of.drop k = r → ∃ m, ref10_typeLeft_l2 t n k = some m
  | [], k, n, h => by rw [ref10_typeLeft_l2, (lp_out h).1]; exact ⟨_, rfl⟩
  | x :: r, k, n, h => by
    obtain ⟨e1, e2, e3, e4, e5⟩ := lp_in h
    have := ht.ofs
    rw [ref10_typeLeft_l2, e1, e2]
    cases decide (n ≥ 0) with
    | false => exact ⟨_, rfl⟩
    | true =>
      obtain ⟨m, hm⟩ := ih x e5 n
      rw [cond_true, if_pos rfl, ob, hm, ob, w1 (by omega)]
      exact tleft_l2 t ht ih r (k + 1) m e3
theorem tleft_l1 (t : ApiType) (ht : Ok t) (ih : ∀ x ∈ t.Of, ∀ n, ∃ m, ref10_typeLeft x n = some m) : ∀ (r : List Str) (k : Nat) (n : Int), t.Names.drop k = r → ∃ m, ref10_typeLeft_l1 t n k = some m
  | [], k, n, h => by rw [ref10_typeLeft_l1, (lp_out h).1]; exact tleft_l2 t ht ih t.Of 0 n rfl
  | x :: r, k, n, h => by
    obtain ⟨e1, e2, e3, e4, e5⟩ := lp_in h
    have := ht.names
    rw [ref10_typeLeft_l1, e1, e2]
    cases decide (n ≥ 0) with
    | false => exact tleft_l2 t ht ih t.Of 0 n rfl
    | true =>
      rw [cond_true, if_pos rfl, ob, w1 (by omega)]
      exact tleft_l1 t ht ih r (k + 1) _ e3
theorem tleft_some (t : ApiType) : Ok t → ∀ n, ∃ m, ref10_typeLeft t n = some m := by
  induction t using ApiType.ind with
  | h t ih =>
  intro ht n
  rw [ref10_typeLeft]
  exact tleft_l1 t ht (fun x hx => ih x hx (ht.kid hx)) t.Names 0 _ rfl
theorem fewT_some (t : ApiType) (ht : Ok t) (n : Int) : ∃ b, ref10_FewType t n = some b := by
  obtain ⟨m, hm⟩ := tleft_some t ht n
  unfold ref10_FewType
  rw [hm]
  exact ⟨_, rfl⟩
end Go.Proofs.YtmilgoloagbmpaaGreatDoor

set_option linter.unusedSimpArgs false
set_option linter.unusedVariables false
namespace Go.Proofs.YtmilgoloagbmpaaGreatDoor
open Go.Am

/-! ### numbers -/
def SmallI (n : Int) : Prop := -1099511627776 ≤ n ∧ n ≤ 1099511627776
theorem num_len {n : Int} (h : SmallI n) : (Lib.itoa n).length ≤ 19 := itoa_len (by unfold SmallI at h; omega)
theorem itoa_eq {n : Int} (h : SmallI n) : X_Itoa n = some (Lib.itoa n) := by
  unfold X_Itoa
  rw [if_pos (decide_eq_true (by unfold SmallI at h; omega))]
theorem digit_eq (k : Nat) (h : k < 1099511627777) : byteStr [IntKind.u8.wrap (IntKind.i64.wrap (48 + Int.tmod (k : Int) 10))] = [UInt8.ofNat (48 + k % 10)] := by
  have e : Int.tmod (k : Int) 10 = ((k % 10 : Nat) : Int) := by rw [Int.tmod_eq_emod_of_nonneg (by omega)]; omega
  have : k % 10 < 10 := Nat.mod_lt _ (by decide)
  rw [e, wr (by omega) (by omega), wrap_u8 (by omega) (by omega)]
  unfold byteStr
  rw [List.map_cons, List.map_nil, show ((48 : Int) + ((k % 10 : Nat) : Int)).toNat = 48 + k % 10 by omega]
theorem number_nat (k : Nat) : k < 1099511627777 → ref10_Number (k : Int) = some (Lib.decDigits k) := by
  induction k using Nat.strongRecOn with
  | ind k ih =>
  intro h
  rw [ref10_Number, if_neg (by simp), digit_eq k h, Lib.decDigits]
  by_cases h10 : k < 10
  · rw [if_pos (decide_eq_true (by omega)), dif_pos h10, Nat.mod_eq_of_lt h10]
  · have e : IntKind.i64.wrap (Int.tdiv (k : Int) 10) = ((k / 10 : Nat) : Int) := by
      rw [Int.tdiv_eq_ediv_of_nonneg (by omega), wr (by omega) (by omega)]; rfl
    have hl : (Lib.decDigits (k / 10)).length ≤ 18 := decDigits_len 17 _ (by omega)
    rw [if_neg (by simp; omega), dif_neg h10, e, ih (k / 10) (by omega) (by omega), ob, if_pos (decide_eq_true (by unfold maxLen; simp; omega))]
theorem number_eq {n : Int} (h : SmallI n) : ref10_Number n = some (Lib.itoa n) := by
  unfold SmallI at h
  unfold Lib.itoa
  by_cases h0 : n < 0
  · have e : IntKind.i64.wrap (0 - n) = (n.natAbs : Int) := by rw [wr (by omega) (by omega)]; omega
    have hl : (Lib.decDigits n.natAbs).length ≤ 18 := decDigits_len 17 _ (by omega)
    rw [ref10_Number, if_pos (decide_eq_true h0), e, number_nat _ (by omega), ob, if_pos h0, if_pos (decide_eq_true (by unfold maxLen; omega))]
    rfl
  · rw [if_neg h0]
    have := number_nat n.toNat (by omega)
    rw [show ((n.toNat : Nat) : Int) = n by omega] at this
    exact this

/-! ### what is written -/
def LL : Nat := 70368744177664
theorem ws {s b : Str} (h : b.length + s.length ≤ LL) : X_WriteString_SyntaxPrinter s b = some ((s.length : Int), b ++ s) := by
  unfold X_WriteString_SyntaxPrinter
  rw [if_pos (decide_eq_true (by unfold LL at h; omega))]
theorem fit {n : Nat} {α : Type} {x : Option α} (h : n ≤ LL) : (if decide (n ≤ maxLen) = true then x else none) = x := by
  rw [if_pos (decide_eq_true (by unfold LL at h; unfold maxLen; omega))]

/-! ### operators -/
def lv (o : Int) : Int :=
  bif o == 23 then 0 else bif o == 20 then 1 else bif o == 19 then 2 else bif (bif decide (o ≥ 13) then decide (o ≤ 18) else false) then 3
  else bif (bif o == 8 then true else o == 9) then 4 else bif (bif (bif o == 10 then true else o == 11) then true else o == 12) then 5 else bif (bif o == 6 then true else o == 7) then 6 else 7
theorem op_cases (o : Int) : (o < 0 ∨ 23 < o) ∨ o = 0 ∨ o = 1 ∨ o = 2 ∨ o = 3 ∨ o = 4 ∨ o = 5 ∨ o = 6 ∨ o = 7 ∨ o = 8 ∨ o = 9 ∨ o = 10 ∨ o = 11 ∨ o = 12 ∨ o = 13 ∨ o = 14 ∨ o = 15 ∨ o = 16 ∨ o = 17 ∨ o = 18 ∨ o = 19 ∨ o = 20 ∨ o = 21 ∨ o = 22 ∨ o = 23 := by omega
theorem far {o k : Int} (h : o < 0 ∨ 23 < o) (hk : 0 ≤ k ∧ k ≤ 23) : (o == k) = false := beq_eq_false_iff_ne.2 (by omega)
def sign (o : Int) : Str := tab_signs.getD (o - 8).toNat []
theorem bin_cases {o : Int} (h : 8 ≤ o) (h' : o ≤ 20) : o = 8 ∨ o = 9 ∨ o = 10 ∨ o = 11 ∨ o = 12 ∨ o = 13 ∨ o = 14 ∨ o = 15 ∨ o = 16 ∨ o = 17 ∨ o = 18 ∨ o = 19 ∨ o = 20 := by omega
/-! ### texts -/
def par (req : Int) (p : Int × Str) : Str := bif decide (lv p.1 ≥ req) then p.2 else [40] ++ p.2 ++ [41]
def etx (op n : Int) (nm : Str) (ks : List (Int × Str)) : Str :=
  let k := fun i => ks.getD i (0, [])
  bif op == 0 then Lib.itoa n else bif op == 1 then [116, 114, 117, 101] else bif op == 2 then [102, 97, 108, 115, 101] else bif op == 3 then nm
  else bif op == 4 then (k 0).2 ++ ([46] ++ nm) else bif op == 5 then (k 0).2 ++ [91] ++ (k 1).2 ++ [93] else bif op == 6 then [45] ++ par 6 (k 0) else bif op == 7 then [33] ++ par 6 (k 0)
  else bif op == 21 then [109, 105, 110, 40] ++ (k 0).2 ++ [44, 32] ++ (k 1).2 ++ [41] else bif op == 22 then [109, 97, 120, 40] ++ (k 0).2 ++ [44, 32] ++ (k 1).2 ++ [41]
  else bif op == 23 then par 1 (k 0) ++ [32, 63, 32] ++ (k 1).2 ++ [32, 58, 32] ++ (k 2).2
  else par (bif lv op == 3 then 4 else lv op) (k 0) ++ ([32] ++ sign op ++ [32]) ++ par (lv op + 1) (k 1)
mutual
def ApiExpr.text : ApiExpr → Str
  | .mk op n nm ks => etx op n nm (ApiExpr.texts ks)
def ApiExpr.texts : List ApiExpr → List (Int × Str)
  | [] => []
  | x :: r => (x.Op, ApiExpr.text x) :: ApiExpr.texts r
end

theorem len2 {α : Type} {l : List α} (h : l.length = 2) : ∃ a b, l = [a, b] := by
  match l, h with
  | [a, b], _ => exact ⟨a, b, rfl⟩
theorem len3 {α : Type} {l : List α} (h : l.length = 3) : ∃ a b c, l = [a, b, c] := by
  match l, h with
  | [a, b, c], _ => exact ⟨a, b, c, rfl⟩

/-- the shapes of well-formed expressions -/
inductive Shape : ApiExpr → Prop
  | lit (n) : Shape (.mk 0 n [] [])
  | tt : Shape (.mk 1 0 [] [])
  | ff : Shape (.mk 2 0 [] [])
  | name (nm) : Shape (.mk 3 0 nm [])
  | field (nm k) : Shape (.mk 4 0 nm [k])
  | index (a b) : Shape (.mk 5 0 [] [a, b])
  | neg (k) : Shape (.mk 6 0 [] [k])
  | not (k) : Shape (.mk 7 0 [] [k])
  | bin (o a b) (h : 8 ≤ o) (h' : o ≤ 20) : Shape (.mk o 0 [] [a, b])
  | min (a b) : Shape (.mk 21 0 [] [a, b])
  | max (a b) : Shape (.mk 22 0 [] [a, b])
  | cond (a b c) : Shape (.mk 23 0 [] [a, b, c])

theorem shape_of (e : ApiExpr) (h : eform e = true) : Shape e := by
  obtain ⟨op, n, nm, ks⟩ := e
  unfold eform at h
  simp only [Bool.and_eq_true] at h
  obtain ⟨⟨⟨h1, h2⟩, h3⟩, _⟩ := h
  have e1 : ar op = (ks.length : Int) := by simpa [ef1] using h1
  have e2 : op ≠ 0 → n = 0 := fun hne => by
    have := beq_eq_false_iff_ne.2 hne
    simp only [ef2, this] at h2
    cases hn : n == 0 with
    | true => simpa using hn
    | false => rw [hn] at h2; cases h2
  have e3 : op ≠ 3 → op ≠ 4 → nm = [] := fun hne hne' => by
    have := beq_eq_false_iff_ne.2 hne
    have h4 := beq_eq_false_iff_ne.2 hne'
    simp only [ef3, this, h4] at h3
    cases hn : nm == [] with
    | true => simpa using hn
    | false => rw [hn] at h3; cases h3
  rcases op_cases op with h | h
  · have : ar op = -1 := by
      have f := fun k hk => far (k := k) h hk
      have hr : (bif decide (op ≥ 8) then decide (op ≤ 22) else false) = false := by
        rcases h with h | h
        · rw [decide_eq_false (by omega)]; rfl
        · rw [decide_eq_false (show ¬ op ≤ 22 by omega)]; cases decide (op ≥ 8) <;> rfl
      unfold ar
      rw [hr, f 0 (by decide), f 1 (by decide), f 2 (by decide), f 3 (by decide), f 4 (by decide), f 6 (by decide), f 7 (by decide), f 5 (by decide), f 23 (by decide)]
      rfl
    omega
  by_cases hb : 8 ≤ op ∧ op ≤ 20
  · have e4 : ar op = 2 := by rcases bin_cases hb.1 hb.2 with rfl | rfl | rfl | rfl | rfl | rfl | rfl | rfl | rfl | rfl | rfl | rfl | rfl <;> rfl
    obtain ⟨a, b, rfl⟩ := len2 (l := ks) (by omega)
    obtain rfl := e2 (by omega)
    obtain rfl := e3 (by omega) (by omega)
    exact .bin _ _ _ hb.1 hb.2
  have hc : op = 0 ∨ op = 1 ∨ op = 2 ∨ op = 3 ∨ op = 4 ∨ op = 5 ∨ op = 6 ∨ op = 7 ∨ op = 21 ∨ op = 22 ∨ op = 23 := by omega
  rcases hc with rfl | rfl | rfl | rfl | rfl | rfl | rfl | rfl | rfl | rfl | rfl
  · obtain rfl := List.eq_nil_of_length_eq_zero (l := ks) (by have : ar 0 = 0 := rfl; omega)
    obtain rfl := e3 (by decide) (by decide)
    exact .lit n
  · obtain rfl := List.eq_nil_of_length_eq_zero (l := ks) (by have : ar 1 = 0 := rfl; omega)
    obtain rfl := e3 (by decide) (by decide)
    obtain rfl := e2 (by decide)
    exact .tt
  · obtain rfl := List.eq_nil_of_length_eq_zero (l := ks) (by have : ar 2 = 0 := rfl; omega)
    obtain rfl := e3 (by decide) (by decide)
    obtain rfl := e2 (by decide)
    exact .ff
  · obtain rfl := List.eq_nil_of_length_eq_zero (l := ks) (by have : ar 3 = 0 := rfl; omega)
    obtain rfl := e2 (by decide)
    exact .name nm
  · obtain ⟨k, rfl⟩ := List.length_eq_one_iff.1 (show ks.length = 1 by have : ar 4 = 1 := rfl; omega)
    obtain rfl := e2 (by decide)
    exact .field nm k
  · obtain ⟨a, b, rfl⟩ := len2 (l := ks) (by have : ar 5 = 2 := rfl; omega)
    obtain rfl := e3 (by decide) (by decide)
    obtain rfl := e2 (by decide)
    exact .index a b
  · obtain ⟨k, rfl⟩ := List.length_eq_one_iff.1 (show ks.length = 1 by have : ar 6 = 1 := rfl; omega)
    obtain rfl := e3 (by decide) (by decide)
    obtain rfl := e2 (by decide)
    exact .neg k
  · obtain ⟨k, rfl⟩ := List.length_eq_one_iff.1 (show ks.length = 1 by have : ar 7 = 1 := rfl; omega)
    obtain rfl := e3 (by decide) (by decide)
    obtain rfl := e2 (by decide)
    exact .not k
  · obtain ⟨a, b, rfl⟩ := len2 (l := ks) (by have : ar 21 = 2 := rfl; omega)
    obtain rfl := e3 (by decide) (by decide)
    obtain rfl := e2 (by decide)
    exact .min a b
  · obtain ⟨a, b, rfl⟩ := len2 (l := ks) (by have : ar 22 = 2 := rfl; omega)
    obtain rfl := e3 (by decide) (by decide)
    obtain rfl := e2 (by decide)
    exact .max a b
  · obtain ⟨a, b, c, rfl⟩ := len3 (l := ks) (by have : ar 23 = 3 := rfl; omega)
    obtain rfl := e3 (by decide) (by decide)
    obtain rfl := e2 (by decide)
    exact .cond a b c

/-- what is asked of expressions that are written -/
structure FineE (e : ApiExpr) : Prop where
  form : e.all eform = true
  numb : e.all enumb = true
  ok : OkE e
theorem FineE.kid {e k : ApiExpr} (h : FineE e) (hk : k ∈ e.Kids) : FineE k := by
  have h1 := h.form
  have h2 := h.numb
  rw [ApiExpr.all_eq, Bool.and_eq_true] at h1 h2
  exact ⟨ApiExpr.alls_mem h1.2 hk, ApiExpr.alls_mem h2.2 hk, h.ok.kid hk⟩
theorem FineE.shape {e : ApiExpr} (h : FineE e) : Shape e := by
  have h1 := h.form
  rw [ApiExpr.all_eq, Bool.and_eq_true] at h1
  exact shape_of e h1.1
end Go.Proofs.YtmilgoloagbmpaaGreatDoor

set_option linter.unusedSimpArgs false
set_option linter.unusedVariables false
namespace Go.Proofs.YtmilgoloagbmpaaGreatDoor
open Go.Am

/-! ### the printed text, or the code -/
def shortP (s : Str) : Str × Int := bif decide ((s.length : Int) > 8192) then ([], 5) else (s, 0)
theorem stext_eq (b : Str) : syntax_printer_text b = some (shortP b) := by
  unfold syntax_printer_text X_BLen_SyntaxPrinter X_BString_SyntaxPrinter shortP
  rw [ob]
  cases decide ((b.length : Int) > 8192) <;> rfl
theorem rshort_eq (b : Str) : ref10_short b = some (shortP b) := by
  unfold ref10_short shortP
  cases decide ((b.length : Int) > 8192) <;> rfl
end Go.Proofs.YtmilgoloagbmpaaGreatDoor

set_option linter.unusedSimpArgs false
set_option linter.unusedVariables false
set_option maxHeartbeats 800000
namespace Go.Proofs.YtmilgoloagbmpaaGreatDoor
open Go.Am

/-- the components of a record -/
def flds : Bool → List Str → List Str → Str
  | f, n :: ns, t :: ts => (bif f then [] else [44, 32]) ++ (n ++ [58, 32] ++ t) ++ flds false ns ts
  | _, _, _ => []
def ttx (k lo hi sz : Int) (nm : Str) (ns : List Str) (ks : List Str) : Str :=
  bif k == 0 then [98, 111, 111, 108] else bif k == 1 then [105, 110, 116, 91] ++ Lib.itoa lo ++ [46, 46] ++ Lib.itoa hi ++ [93]
  else bif k == 2 then [97, 114, 114, 97, 121, 32] ++ Lib.itoa sz ++ [32, 111, 102, 32] ++ ks.getD 0 []
  else bif k == 3 then [114, 101, 99, 111, 114, 100, 32, 123] ++ flds true ns ks ++ [125] else nm
mutual
def ApiType.text : ApiType → Str
  | .mk k lo hi sz nm ns ks => ttx k lo hi sz nm ns (ApiType.texts ks)
def ApiType.texts : List ApiType → List Str
  | [] => []
  | x :: r => ApiType.text x :: ApiType.texts r
end
/-- the shapes of well-formed types -/
inductive ShapeT : ApiType → Prop
  | bool : ShapeT (.mk 0 0 0 0 [] [] [])
  | int (lo hi) (h : SmallI lo) (h' : SmallI hi) : ShapeT (.mk 1 lo hi 0 [] [] [])
  | array (sz k) (h : SmallI sz) : ShapeT (.mk 2 0 0 sz [] [] [k])
  | record (ns ks) (h : ns.length = ks.length) (h' : 1 ≤ ks.length) : ShapeT (.mk 3 0 0 0 [] ns ks)
  | name (nm) : ShapeT (.mk 4 0 0 0 nm [] [])

theorem shapeT_of (t : ApiType) (h : formN t = true) (hn : numN t = true) : ShapeT t := by
  obtain ⟨k, lo, hi, sz, nm, ns, ks⟩ := t
  unfold formN at h
  unfold numN at hn
  simp only [Bool.and_eq_true] at h hn
  obtain ⟨⟨⟨⟨⟨h1, h2⟩, h3⟩, h4⟩, h5⟩, h6⟩ := h
  obtain ⟨u1, u2⟩ := hn
  have hk : k = 0 ∨ k = 1 ∨ k = 2 ∨ k = 3 ∨ k = 4 := by
    unfold fm1 at h1
    simp at h1
    omega
  rcases hk with rfl | rfl | rfl | rfl | rfl
  · simp [fm2, fm3, fm4, fm5, fm6] at h2 h3 h4 h5 h6
    obtain ⟨rfl, rfl⟩ := h2
    subst h3 h4 h5 h6
    exact .bool
  · simp [fm2, fm3, fm4, fm5, fm6] at h3 h4 h5 h6
    simp [nm2, inside] at u2
    subst h3 h4 h5 h6
    exact .int _ _ (by unfold SmallI; omega) (by unfold SmallI; omega)
  · simp [fm2, fm3, fm4, fm5, fm6] at h2 h4 h5 h6
    simp [nm1, inside] at u1
    obtain ⟨rfl, rfl⟩ := h2
    obtain ⟨k, rfl⟩ := List.length_eq_one_iff.1 (show ks.length = 1 by omega)
    subst h4 h5
    exact .array _ _ (by unfold SmallI; omega)
  · simp [fm2, fm3, fm4, fm5, fm6] at h2 h3 h4 h6
    obtain ⟨rfl, rfl⟩ := h2
    subst h3 h4
    exact .record _ _ (by omega) (by omega)
  · simp [fm2, fm3, fm4, fm5, fm6] at h2 h3 h5 h6
    obtain ⟨rfl, rfl⟩ := h2
    subst h3 h5 h6
    exact .name _

structure FineT (t : ApiType) : Prop where
  form : t.all formN = true
  numb : t.all numN = true
  ok : Ok t
theorem FineT.kid {t k : ApiType} (h : FineT t) (hk : k ∈ t.Of) : FineT k := by
  have h1 := h.form
  have h2 := h.numb
  rw [ApiType.all_eq, Bool.and_eq_true] at h1 h2
  exact ⟨ApiType.alls_mem h1.2 hk, ApiType.alls_mem h2.2 hk, h.ok.kid hk⟩
theorem FineT.shape {t : ApiType} (h : FineT t) : ShapeT t := by
  have h1 := h.form
  have h2 := h.numb
  rw [ApiType.all_eq, Bool.and_eq_true] at h1 h2
  exact shapeT_of t h1.1 h2.1
theorem fineT_of {t : ApiType} (ht : Ok t) (h : checkT t = 0) : FineT t := by
  unfold checkT repCode at h
  cases hb : (bif decide ((t.nodes : Int) > 1024) then true else decide ((t.depth : Int) > 12)) <;> rw [hb] at h
  · cases hf : t.all formN <;> rw [hf] at h
    · cases h
    · cases hn : t.all nameN <;> rw [hn] at h
      · cases h
      · cases hu : t.all numN <;> rw [hu] at h
        · cases h
        · exact ⟨hf, hu, ht⟩
  · cases h

theorem flds_len : ∀ (f : Bool) (ns : List Str) (ks : List ApiType), (∀ k ∈ ks, k.text.length ≤ 64 * k.bulk) → (flds f ns (ApiType.texts ks)).length ≤ 64 * ((ns.map fun s => s.length + 1).sum + ApiType.bulks ks)
  | f, [], ks, _ => by cases ks <;> simp [flds]
  | f, n :: ns, [], _ => by simp [flds, ApiType.texts]
  | f, n :: ns, k :: ks, h => by
    have := flds_len false ns ks (fun x hx => h x (List.mem_cons_of_mem _ hx))
    have := h k List.mem_cons_self
    simp only [flds, ApiType.texts, ApiType.bulks, List.map_cons, List.sum_cons, List.length_append, List.length_cons, List.length_nil] at *
    cases f <;> simp <;> omega
theorem ttext_len (t : ApiType) : FineT t → t.text.length ≤ 64 * t.bulk := by
  induction t using ApiType.ind with
  | h t ih =>
  intro hf
  have ih' := fun k hk => ih k hk (hf.kid hk)
  cases hf.shape with
  | bool => decide
  | int lo hi h h' =>
    have := num_len h; have := num_len h'
    show ([105, 110, 116, 91] ++ Lib.itoa lo ++ [46, 46] ++ Lib.itoa hi ++ [93]).length ≤ _
    simp only [ApiType.bulk, ApiType.bulks, List.map_nil, List.sum_nil, List.length_append, List.length_cons, List.length_nil]; omega
  | array sz k h =>
    have := num_len h; have := ih' k (by simp)
    show ([97, 114, 114, 97, 121, 32] ++ Lib.itoa sz ++ [32, 111, 102, 32] ++ k.text).length ≤ _
    simp only [ApiType.bulk, ApiType.bulks, List.map_nil, List.sum_nil, List.length_append, List.length_cons, List.length_nil]; omega
  | record ns ks h h' =>
    have := flds_len true ns ks ih'
    show ([114, 101, 99, 111, 114, 100, 32, 123] ++ flds true ns (ApiType.texts ks) ++ [125]).length ≤ _
    simp only [ApiType.bulk, List.length_append, List.length_cons, List.length_nil]; omega
  | name nm => show nm.length ≤ _; simp only [ApiType.bulk, ApiType.bulks]; omega

theorem flds_cons (f : Bool) (n : Str) (ns : List Str) (k : ApiType) (ks : List ApiType) : flds f (n :: ns) (ApiType.texts (k :: ks)) = (bif f then [] else [44, 32]) ++ (n ++ [58, 32] ++ k.text) ++ flds false ns (ApiType.texts ks) := rfl

/-- two lists of one length, gone through together -/
theorem names_at {t : ApiType} (h : t.Names.length = t.Of.length) {k : Nat} {x : ApiType} {r : List ApiType} (hr : t.Of.drop k = x :: r) : ∃ n ns, t.Names.drop k = n :: ns ∧ idx t.Names (k : Int) = some n := by
  have hk := (lp_in hr).2.2.2.1
  cases hn : t.Names.drop k with
  | nil => have := (lp_out hn).2; omega
  | cons n ns => exact ⟨n, ns, rfl, (lp_in hn).2.1⟩

theorem stypes_l (t : ApiType) (ht : FineT t) (hlen : t.Names.length = t.Of.length) (ih : ∀ k ∈ t.Of, ∀ b : Str, b.length + 64 * k.bulk ≤ LL → syntax_printer_typ k b = some (b ++ k.text)) :
    ∀ (r : List ApiType) (k : Nat) (ns : List Str) (b : Str), t.Of.drop k = r → t.Names.drop k = ns → b.length + 64 * ((ns.map fun s => s.length + 1).sum + ApiType.bulks r) + 1 ≤ LL →
      syntax_printer_typ_l1 t b k = some (b ++ flds (k == 0) ns (ApiType.texts r) ++ [125])
  | [], k, ns, b, h, hn, hb => by
    rw [syntax_printer_typ_l1, (lp_out h).1, if_neg (by simp), ws (by simp; omega), ob]
    have : flds (k == 0) ns (ApiType.texts []) = [] := by cases ns <;> rfl
    rw [this]
    simp
  | x :: r, k, ns, b, h, hn, hb => by
    obtain ⟨e1, e2, e3, e4, e5⟩ := lp_in h
    obtain ⟨n, ms, hm, hi⟩ := names_at hlen h
    rw [hm] at hn
    subst hn
    have hms := (lp_in hm).2.2.1
    have hof := ht.ok.ofs
    have hxl := ttext_len x (ht.kid e5)
    simp only [List.map_cons, List.sum_cons, ApiType.bulks] at hb
    have step : ∀ c : Str, c.length ≤ b.length + 2 → syntax_printer_typ_j2 t c x k k = some (c ++ (n ++ [58, 32] ++ x.text) ++ flds false ms (ApiType.texts r) ++ [125]) := fun c hc => by
      rw [syntax_printer_typ_j2, hi, ob, fit (by unfold LL at *; omega), ws (by simp; omega), ob, ih x e5 _ (by simp; omega), ob, w1 (by omega), stypes_l t ht hlen ih r (k + 1) ms _ e3 hms (by simp; omega)]
      simp
    rw [syntax_printer_typ_l1, e1, if_pos rfl, e2, ob]
    cases k with
    | zero =>
      rw [if_neg (by simp), step b (by omega)]
      simp [flds_cons]
    | succ k =>
      rw [if_pos (decide_eq_true (by omega)), ws (by simp; omega), ob, step (b ++ [44, 32]) (by simp)]
      simp [flds_cons]

theorem stype_eq (t : ApiType) : FineT t → ∀ b : Str, b.length + 64 * t.bulk ≤ LL → syntax_printer_typ t b = some (b ++ t.text) := by
  induction t using ApiType.ind with
  | h t ih =>
  intro hf b hb
  have ih' := fun k hk => ih k hk (hf.kid hk)
  cases hf.shape with
  | bool =>
    simp only [ApiType.bulk, ApiType.bulks, List.map_nil, List.sum_nil, List.length_nil] at hb
    rw [syntax_printer_typ, if_pos (by simp), ws (by simp; omega), ob]
    rfl
  | int lo hi h h' =>
    have := num_len h; have := num_len h'
    simp only [ApiType.bulk, ApiType.bulks, List.map_nil, List.sum_nil, List.length_nil] at hb
    rw [syntax_printer_typ, if_neg (by simp), if_pos (by simp), itoa_eq h, ob, fit (by unfold LL; omega), fit (by unfold LL; simp; omega), itoa_eq h', ob, fit (by unfold LL; simp; omega), fit (by unfold LL; simp; omega), ws (by simp; omega), ob]
    rfl
  | array sz k h =>
    have := num_len h
    have i1 := ih' k (by simp)
    simp only [ApiType.bulk, ApiType.bulks, List.map_nil, List.sum_nil, List.length_nil] at hb
    rw [syntax_printer_typ, if_neg (by simp), if_neg (by simp), if_pos (by simp), itoa_eq h, ob, fit (by unfold LL; omega), fit (by unfold LL; simp; omega), ws (by simp; omega), ob, show idx (ApiType.mk 2 0 0 sz [] [] [k]).Of 0 = some k from rfl, ob,
      i1 _ (by simp; omega), ob]
    show some _ = some (b ++ ([97, 114, 114, 97, 121, 32] ++ Lib.itoa sz ++ [32, 111, 102, 32] ++ k.text))
    simp
  | record ns ks h h' =>
    simp only [ApiType.bulk] at hb
    have := stypes_l (.mk 3 0 0 0 [] ns ks) hf h ih' ks 0 ns (b ++ [114, 101, 99, 111, 114, 100, 32, 123]) rfl rfl (by simp; omega)
    rw [show ((0 : Nat) : Int) = 0 from rfl] at this
    rw [syntax_printer_typ, if_neg (by simp), if_neg (by simp), if_neg (by simp), if_pos (by simp), ws (by simp; omega), ob, this]
    show some _ = some (b ++ ([114, 101, 99, 111, 114, 100, 32, 123] ++ flds true ns (ApiType.texts ks) ++ [125]))
    simp
  | name nm =>
    simp only [ApiType.bulk, ApiType.bulks, List.map_nil, List.sum_nil, List.length_nil] at hb
    rw [syntax_printer_typ, if_neg (by simp), if_neg (by simp), if_neg (by simp), if_neg (by simp), if_pos (by simp), ws (by simp only; omega), ob]
    rfl

theorem rtypes_l (t : ApiType) (ht : FineT t) (hlen : t.Names.length = t.Of.length) (ih : ∀ k ∈ t.Of, ref10_TypeText k = some k.text) :
    ∀ (r : List ApiType) (k : Nat) (ns : List Str) (b : Str), t.Of.drop k = r → t.Names.drop k = ns → b.length + 64 * ((ns.map fun s => s.length + 1).sum + ApiType.bulks r) + 1 ≤ LL →
      ref10_TypeText_l1 t b k = some (b ++ flds (k == 0) ns (ApiType.texts r) ++ [125])
  | [], k, ns, b, h, hn, hb => by
    rw [ref10_TypeText_l1, (lp_out h).1, if_neg (by simp), fit (by omega)]
    have : flds (k == 0) ns (ApiType.texts []) = [] := by cases ns <;> rfl
    rw [this]
    simp
  | x :: r, k, ns, b, h, hn, hb => by
    obtain ⟨e1, e2, e3, e4, e5⟩ := lp_in h
    obtain ⟨n, ms, hm, hi⟩ := names_at hlen h
    rw [hm] at hn
    subst hn
    have hms := (lp_in hm).2.2.1
    have hof := ht.ok.ofs
    have hxl := ttext_len x (ht.kid e5)
    simp only [List.map_cons, List.sum_cons, ApiType.bulks] at hb
    have step : ∀ c : Str, c.length ≤ b.length + 2 → ref10_TypeText_j2 t c k = some (c ++ (n ++ [58, 32] ++ x.text) ++ flds false ms (ApiType.texts r) ++ [125]) := fun c hc => by
      rw [ref10_TypeText_j2, hi, ob, fit (by omega), fit (by simp; omega), e2, ob, ih x e5, ob, fit (by simp; omega), w1 (by omega), rtypes_l t ht hlen ih r (k + 1) ms _ e3 hms (by simp; omega)]
      simp
    rw [ref10_TypeText_l1, e1, if_pos rfl]
    cases k with
    | zero =>
      rw [if_neg (by simp), step b (by omega)]
      simp [flds_cons]
    | succ k =>
      rw [if_pos (decide_eq_true (by omega)), fit (by omega), step (b ++ [44, 32]) (by simp)]
      simp [flds_cons]
theorem rttext_eq (t : ApiType) : FineT t → ref10_TypeText t = some t.text := by
  induction t using ApiType.ind with
  | h t ih =>
  intro hf
  have ih' := fun k hk => ih k hk (hf.kid hk)
  have hb := hf.ok
  unfold Ok BB at hb
  cases hf.shape with
  | bool => rw [ref10_TypeText, if_neg (by simp), if_neg (by simp), if_neg (by simp), if_neg (by simp)]; rfl
  | int lo hi h h' =>
    have := num_len h; have := num_len h'
    rw [ref10_TypeText, if_pos (by simp), number_eq h, ob, fit (by unfold LL; omega), fit (by unfold LL; simp; omega), number_eq h', ob, fit (by unfold LL; simp; omega), fit (by unfold LL; simp; omega)]
    rfl
  | array sz k h =>
    have := num_len h
    have i1 := ih' k (by simp)
    have l1 := ttext_len k (hf.kid (by simp))
    simp only [ApiType.bulk, ApiType.bulks, List.map_nil, List.sum_nil, List.length_nil] at hb
    rw [ref10_TypeText, if_neg (by simp), if_pos (by simp), number_eq h, ob, fit (by unfold LL; omega), fit (by unfold LL; simp; omega), show idx (ApiType.mk 2 0 0 sz [] [] [k]).Of 0 = some k from rfl, ob, i1, ob, fit (by unfold LL; simp; omega)]
    rfl
  | record ns ks h h' =>
    simp only [ApiType.bulk] at hb
    have := rtypes_l (.mk 3 0 0 0 [] ns ks) hf h ih' ks 0 ns [114, 101, 99, 111, 114, 100, 32, 123] rfl rfl (by unfold LL; simp; omega)
    rw [show ((0 : Nat) : Int) = 0 from rfl] at this
    rw [ref10_TypeText, if_neg (by simp), if_neg (by simp), if_neg (by simp), if_pos (by simp), this]
    rfl
  | name nm => rw [ref10_TypeText, if_neg (by simp), if_neg (by simp), if_pos (by simp)]; rfl

def printT (t : ApiType) : Str × Int := bif checkT t != 0 then ([], checkT t) else shortP t.text
theorem PrintType_eq (t : ApiType) (ht : Ok t) : syntax_PrintType t = some (printT t) := by
  unfold syntax_PrintType printT
  rw [CheckType_eq t ht, ob]
  cases h : checkT t != 0 with
  | true => rfl
  | false =>
    have hf := fineT_of ht (by simpa using h)
    have hb := ht
    unfold Ok BB at hb
    rw [if_neg (by simp), stype_eq t hf [] (by unfold LL; simp; omega), ob, stext_eq, ob]
    rfl
theorem rPrintType_eq (t : ApiType) (ht : Ok t) : ref10_PrintType t = some (printT t) := by
  unfold ref10_PrintType printT
  rw [rCheckType_eq t ht, ob]
  cases h : checkT t != 0 with
  | true => rfl
  | false =>
    have hf := fineT_of ht (by simpa using h)
    rw [if_neg (by simp), rttext_eq t hf, ob, rshort_eq, ob]
    rfl
theorem SyntaxType_true (t : ApiType) (ht : Ok t) (hk : law10_known = some true) : law10_SyntaxType t = some true := by
  unfold law10_SyntaxType
  obtain ⟨f, hf⟩ := fewT_some t ht 1200
  rw [hk, ob, if_neg (by simp), hf, ob]
  cases f with
  | false => rfl
  | true =>
    rw [if_neg (by simp), PrintType_eq t ht, ob, rPrintType_eq t ht, ob, CheckType_eq t ht, ob, rCheckType_eq t ht, ob]
    simp
end Go.Proofs.YtmilgoloagbmpaaGreatDoor

namespace Go.Proofs.YtmilgoloagbmpaaGreatDoor
open Go.Am
set_option maxRecDepth 100000
set_option maxHeartbeats 4000000
theorem law10_known_true : law10_known = some true := law10_known_le 200 _ (by kernel_rfl)
end Go.Proofs.YtmilgoloagbmpaaGreatDoor

namespace Go.Proofs.YtmilgoloagbmpaaGreatDoor
open Go.Am

mutual
def ApiStmt.bulk : ApiStmt → Nat
  | .mk y0 y1 y2 y3 y4 y5 y6 y7 y8 y9 y10 => 1 + (ApiExpr.bulk y1 + (ApiExpr.bulk y2 + ((y3.length + 1) + ((ApiExpr.bulks y4 + 1) + (1 + (1 + (1 + (((y8.map fun _ => 1).sum + 1) + ((ApiStmt.bulks y9 + 1) + ((ApiStmt.bulks y10 + 1) + (0))))))))))) + 1
def ApiStmt.bulks : List ApiStmt → Nat
  | [] => 0
  | x :: r => ApiStmt.bulk x + ApiStmt.bulks r
end
mutual
def ApiDecl.bulk : ApiDecl → Nat
  | .mk y0 y1 y2 y3 y4 y5 y6 y7 => 1 + ((y1.length + 1) + (ApiType.bulk y2 + (1 + (ApiExpr.bulk y4 + ((ApiDecl.bulks y5 + 1) + ((ApiDecl.bulks y6 + 1) + ((ApiStmt.bulks y7 + 1) + (0)))))))) + 1
def ApiDecl.bulks : List ApiDecl → Nat
  | [] => 0
  | x :: r => ApiDecl.bulk x + ApiDecl.bulks r
end
mutual
def ApiProgram.bulk : ApiProgram → Nat
  | .mk y0 y1 => (ApiDecl.bulks y0 + 1) + ((ApiStmt.bulks y1 + 1) + (0)) + 1
def ApiProgram.bulks : List ApiProgram → Nat
  | [] => 0
  | x :: r => ApiProgram.bulk x + ApiProgram.bulks r
end
end Go.Proofs.YtmilgoloagbmpaaGreatDoor

