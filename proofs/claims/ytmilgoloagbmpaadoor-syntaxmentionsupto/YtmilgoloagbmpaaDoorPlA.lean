/- A part of the proof of SyntaxMentions. -/
import Derived.Test.YtmilgoloagbmpaaDoorDgC
import Derived.ProofKit
namespace Go.Proofs.YtmilgoloagbmpaaDoor
open Go.Am

/-! ### loops -/
theorem ob {α β : Type} (a : α) (f : α → Option β) : (some a >>= f) = f a := rfl
theorem lp_in {α : Type} {l : List α} {k : Nat} {x : α} {r : List α} (h : l.drop k = x :: r) : decide ((k : Int) < (l.length : Int)) = true ∧ idx l (k : Int) = some x ∧ l.drop (k + 1) = r ∧ k < l.length ∧ x ∈ l := by
  have hk : k < l.length := by
    rcases Nat.lt_or_ge k l.length with h1 | h1
    · exact h1
    · rw [List.drop_eq_nil_of_le h1] at h; cases h
  have hx := List.drop_eq_getElem_cons hk
  rw [h] at hx
  obtain ⟨e1, e2⟩ := List.cons.inj hx
  refine ⟨decide_eq_true (by omega), ?_, e2.symm, hk, ?_⟩
  · unfold idx
    rw [if_pos (by omega), e1]
    simp [hk]
  · rw [e1]; exact List.getElem_mem hk
theorem lp_out {α : Type} {l : List α} {k : Nat} (h : l.drop k = []) : decide ((k : Int) < (l.length : Int)) = false ∧ l.length ≤ k := by
  have := List.drop_eq_nil_iff.1 h
  exact ⟨decide_eq_false (by omega), this⟩
/-- sizes that no sum or product here can pass -/
def BB : Nat := 68719476736
theorem wr {n : Int} (h : -4611686018427387904 ≤ n) (h' : n ≤ 4611686018427387904) : IntKind.i64.wrap n = n := wrap_i64 (by omega) (by omega)
theorem w1 {k : Nat} (h : k ≤ BB) : IntKind.i64.wrap ((k : Int) + 1) = ((k + 1 : Nat) : Int) := by
  unfold BB at h
  rw [wr (by omega) (by omega)]; rfl

/-! ### names -/
def lowI (n : Int) : Bool := bif decide (n ≥ 97) then decide (n ≤ 122) else false
def digI (n : Int) : Bool := bif decide (n ≥ 48) then decide (n ≤ 57) else false

/-- the letter or digit at a place of a name -/
def okAt (i : Nat) (c : UInt8) : Bool := lowI c.toNat || (i != 0 && digI c.toNat)
def wordFrom : Nat → List UInt8 → Bool
  | _, [] => true
  | i, c :: r => okAt i c && wordFrom (i + 1) r
def word (s : List UInt8) : Bool := wordFrom 0 s && !(s == [])

/-- the reserved words, a blank around each -/
def kw : List UInt8 := [32, 116, 121, 112, 101, 32, 115, 101, 99, 114, 101, 116, 32, 112, 117, 98, 108, 105, 99, 32, 114, 97, 110, 100, 111, 109, 32, 118, 97, 114, 32, 104, 97, 116, 99, 104, 32, 102, 117, 110, 99, 32, 114, 101, 116, 117, 114, 110, 32, 98, 101, 103, 105, 110, 32, 101, 110, 100, 32, 98, 111, 111, 108, 32, 105, 110, 116, 32, 97, 114, 114, 97, 121, 32, 111, 102, 32, 114, 101, 99, 111, 114, 100, 32, 116, 114, 117, 101, 32, 102, 97, 108, 115, 101, 32, 99, 97, 108, 108, 32, 114, 101, 108, 101, 97, 115, 101, 32, 111, 117, 116, 112, 117, 116, 32, 119, 97, 105, 116, 32, 105, 102, 32, 101, 108, 115, 101, 32, 119, 104, 105, 108, 101, 32, 108, 105, 109, 105, 116, 32, 102, 111, 114, 32, 116, 111, 32, 115, 101, 116, 116, 108, 101, 32, 109, 105, 110, 32, 109, 97, 120, 32]

def resv (s : List UInt8) : Bool := bif (bif !(s == []) then !Lib.contains s [32] else false) then Lib.contains kw ([32] ++ s ++ [32]) else false
def isName (s : List UInt8) : Bool := bif (bif decide ((s.length : Int) ≤ 12) then word s else false) then !resv s else false

theorem getD_some {s : List UInt8} {k : Nat} (h : k < s.length) : s[k]? = some (s.getD k 0) := by simp [List.getD, h]

def ld (c : UInt8) : Bool := bif lowI c.toNat then true else digI c.toNat
/-- how many letters and digits a text begins with -/
def lead : List UInt8 → Nat
  | [] => 0
  | c :: r => bif ld c then lead r + 1 else 0
theorem lead_le : ∀ s : List UInt8, lead s ≤ s.length
  | [] => Nat.le_refl _
  | c :: r => by
    simp only [lead, List.length_cons]
    have := lead_le r
    cases ld c <;> simp <;> omega
def rres (s : List UInt8) : Bool := bif ((s.length : Nat) : Int) == 0 then false else bif s.all (fun c => lowI c.toNat) then Lib.contains kw ([32] ++ s ++ [32]) else false

set_option maxRecDepth 100000 in
theorem kw_len : kw.length = 162 := rfl

theorem contains_hit {s sub : List UInt8} {i : Nat} (hi : i + sub.length ≤ s.length) (h : ((s.take (i + sub.length)).drop i == sub) = true) : Lib.contains s sub = true := by
  have ho : Lib.occAt s sub i = true := by
    rw [Lib.occAt_iff_take s sub i hi]
    rw [List.drop_take] at h
    simpa using h
  rcases Lib.index_spec s sub with ⟨_, h2⟩ | ⟨j, h1, _⟩
  · rw [h2 i (by omega)] at ho; cases ho
  · unfold Lib.contains
    rw [h1]
    exact decide_eq_true (by omega)
theorem contains_miss {s sub : List UInt8} (h : ∀ i, i + sub.length ≤ s.length → ((s.take (i + sub.length)).drop i == sub) = false) (hne : sub ≠ []) : Lib.contains s sub = false := by
  rcases Lib.index_spec s sub with ⟨h1, _⟩ | ⟨j, h1, h2, h3, _⟩
  · unfold Lib.contains
    rw [h1]; rfl
  · rcases Lib.occAt_room h3 with hr | hr
    · have := h j hr
      rw [Lib.occAt_iff_take s sub j hr] at h3
      rw [List.drop_take] at this
      have e : j + sub.length - j = sub.length := by omega
      rw [e, h3] at this
      cases this
    · exact absurd hr hne

def refNm (s : List UInt8) : Bool :=
  bif (bif (bif (bif decide (((s.length : Nat) : Int) < 1) then true else decide (((s.length : Nat) : Int) > 12)) then true else !lowI (s.getD 0 0).toNat) then true else rres s) then false else ((lead s : Nat) : Int) == ((s.length : Nat) : Int)

theorem wordFrom_ld : ∀ (r : List UInt8) (i : Nat), 1 ≤ i → wordFrom i r = r.all ld
  | [], _, _ => rfl
  | c :: r, i, h => by
    have hi : (i != 0) = true := by simp; omega
    simp only [wordFrom, List.all_cons, wordFrom_ld r (i + 1) (by omega), okAt, hi, Bool.true_and, ld]
    cases lowI c.toNat <;> rfl
theorem lead_ld : ∀ s : List UInt8, (((lead s : Nat) : Int) == ((s.length : Nat) : Int)) = s.all ld
  | [] => rfl
  | c :: r => by
    have h := lead_ld r
    have hle := lead_le r
    simp only [lead, List.length_cons, List.all_cons, ← h]
    cases ld c with
    | false =>
      simp only [cond_false, Bool.false_and]
      apply beq_eq_false_iff_ne.2
      omega
    | true =>
      simp only [cond_true, Bool.true_and]
      rw [Bool.eq_iff_iff, beq_iff_eq, beq_iff_eq]
      omega

set_option maxRecDepth 100000 in
theorem kw_chars : kw.all (fun c => lowI c.toNat || c == 32) = true := by decide

theorem contains_mem {s sub : List UInt8} (h : Lib.contains s sub = true) (hne : sub ≠ []) : ∀ c ∈ sub, c ∈ s := by
  rcases Lib.index_spec s sub with ⟨h1, _⟩ | ⟨j, h1, h2, h3, _⟩
  · unfold Lib.contains at h
    rw [h1] at h
    cases h
  · rcases Lib.occAt_room h3 with hr | hr
    · rw [Lib.occAt_iff_take s sub j hr] at h3
      have e : (s.drop j).take sub.length = sub := by simpa using h3
      intro c hc
      rw [← e] at hc
      exact List.mem_of_mem_drop (List.mem_of_mem_take hc)
    · exact absurd hr hne

theorem ld_space : ld 32 = false := by decide

theorem no_space {s : List UInt8} (h : s.all ld = true) : Lib.contains s [32] = false := by
  cases hc : Lib.contains s [32] with
  | false => rfl
  | true =>
    have := contains_mem hc (by simp) 32 (by simp)
    have := List.all_eq_true.1 h 32 this
    rw [ld_space] at this
    cases this

theorem all_low {s : List UInt8} (h : s.all ld = true) (hc : Lib.contains kw ([32] ++ s ++ [32]) = true) : s.all (fun c => lowI c.toNat) = true := by
  rw [List.all_eq_true]
  intro c hcs
  have h1 := contains_mem hc (by simp) c (by simp [hcs])
  have h2 := List.all_eq_true.1 kw_chars c h1
  have h3 := List.all_eq_true.1 h c hcs
  cases hl : lowI c.toNat with
  | true => rfl
  | false =>
    rw [hl, Bool.false_or, beq_iff_eq] at h2
    subst h2
    rw [ld_space] at h3
    cases h3

theorem name_eq (s : List UInt8) : refNm s = isName s := by
  unfold refNm isName
  rw [lead_ld]
  cases s with
  | nil => rfl
  | cons c r =>
    have h1 : decide ((((c :: r).length : Nat) : Int) < 1) = false := decide_eq_false (by simp only [List.length_cons]; omega)
    have h12 : decide ((((c :: r).length : Nat) : Int) > 12) = !decide ((((c :: r).length : Nat) : Int) ≤ 12) := by
      rw [← decide_not]; exact decide_eq_decide.2 Int.not_le.symm
    have hw : word (c :: r) = (lowI c.toNat && r.all ld) := by
      unfold word
      simp only [wordFrom, okAt, wordFrom_ld r 1 (Nat.le_refl _)]
      simp
    rw [h1, h12, hw, cond_false, List.all_cons]
    show (bif (bif (bif !decide ((((c :: r).length : Nat) : Int) ≤ 12) then true else !lowI c.toNat) then true else rres (c :: r)) then false else (ld c && r.all ld)) = _
    cases h12' : decide ((((c :: r).length : Nat) : Int) ≤ 12) with
    | false => rfl
    | true =>
      cases hl : lowI c.toNat with
      | false => rfl
      | true =>
        have hlc : ld c = true := by unfold ld; rw [hl]; rfl
        rw [hlc]
        cases ha : r.all ld with
        | false => cases rres (c :: r) <;> rfl
        | true =>
          have hall : (c :: r).all ld = true := by rw [List.all_cons, hlc, ha]; rfl
          have hns := no_space hall
          have e : rres (c :: r) = resv (c :: r) := by
            unfold rres resv
            rw [hns]
            have hz : ((((c :: r).length : Nat) : Int) == 0) = false := beq_eq_false_iff_ne.2 (by simp only [List.length_cons]; omega)
            rw [hz]
            cases hk : Lib.contains kw ([32] ++ (c :: r) ++ [32]) with
            | false => simp
            | true =>
              rw [all_low hall hk]
              rfl
          rw [e]
          cases resv (c :: r) <;> rfl

/-! ### the program's -/
theorem isLetter_eq (n : Int) : lexer_isLetter n = some (lowI n) := rfl
theorem isDigit_eq (n : Int) : lexer_isDigit n = some (digI n) := rfl
theorem isWord_run (s : Str) (hs : s.length ≤ BB) : ∀ (r : Str) (k : Nat), s.drop k = r → lexer_isWord_l1 s k = some (wordFrom k r && !(s == []))
  | [], k, h => by rw [lexer_isWord_l1, (lp_out h).1]; simp [wordFrom]
  | c :: r, k, h => by
    obtain ⟨h1, h2, h3, h4, _⟩ := lp_in h
    have ih := isWord_run s hs r (k + 1) h3
    rw [lexer_isWord_l1, h1, if_pos rfl, h2, ob, isLetter_eq, ob, w1 (by omega), ih]
    have e : ((k : Int) == 0) = (k == 0) := by cases k <;> rfl
    simp only [e, wordFrom, okAt, bne]
    cases hl : lowI c.toNat <;> cases hk : k == 0 <;> cases hd : digI c.toNat <;> simp [isDigit_eq, hd]
theorem isWord_eq (s : Str) (hs : s.length ≤ BB) : lexer_isWord s = some (word s) := isWord_run s hs s 0 rfl
theorem X_Contains_eq (s t : Str) (hs : s.length ≤ 4000000000) : X_Contains s t = some (Lib.contains s t) := by
  unfold X_Contains
  rw [if_pos (decide_eq_true (by omega))]
theorem Reserved_eq (s : Str) (hs : s.length ≤ 4000000000) : lexer_Reserved s = some (resv s) := by
  unfold lexer_Reserved
  have h1 : decide (1 + s.length ≤ maxLen) = true := decide_eq_true (by unfold maxLen; omega)
  have h2 : decide (([32] ++ s).length + 1 ≤ maxLen) = true := decide_eq_true (by unfold maxLen; simp; omega)
  rw [X_Contains_eq s _ hs]
  have h3 := X_Contains_eq kw (([32] ++ s) ++ [32]) (by rw [kw_len]; omega)
  unfold kw at h3
  unfold resv kw
  rw [h1, h2, h3]
  cases s == [] <;> cases Lib.contains s [32] <;> simp
theorem IsName_eq (s : Str) (hs : s.length ≤ BB) : syntax_IsName s = some (isName s) := by
  unfold syntax_IsName lexer_IsName isName
  rw [isWord_eq s hs]
  cases h : decide ((s.length : Int) ≤ 12) with
  | false => simp
  | true =>
    have h' : s.length ≤ 12 := by have := of_decide_eq_true h; omega
    rw [Reserved_eq s (by omega)]
    cases word s <;> simp

/-! ### the reference's -/
theorem refLetter_eq (n : Int) : ref09_letter n = some (lowI n) := rfl
theorem refDigit_eq (n : Int) : ref09_digit n = some (digI n) := rfl
theorem run_run (s : Str) (hs : s.length ≤ BB) : ∀ (r : Str) (k : Nat), s.drop k = r → ref09_run_l1 s k = some ((k + lead r : Nat) : Int)
  | [], k, h => by rw [ref09_run_l1, (lp_out h).1]; simp [lead, ob]
  | c :: r, k, h => by
    obtain ⟨h1, h2, h3, h4, _⟩ := lp_in h
    have ih := run_run s hs r (k + 1) h3
    rw [ref09_run_l1, h1, if_pos rfl, h2, ob, if_pos rfl, refLetter_eq, ob, w1 (by omega), ih]
    simp only [lead, ld]
    cases hl : lowI c.toNat <;> cases hd : digI c.toNat <;> simp [refDigit_eq, hd, ob] <;> omega
theorem run_eq (s : Str) (hs : s.length ≤ BB) : ref09_run s 0 = some ((lead s : Nat) : Int) := by
  have := run_run s hs s 0 rfl
  unfold ref09_run
  rw [Nat.zero_add] at this
  exact this
theorem res2_run (s : Str) (hs : s.length ≤ 4000000000) : ∀ (n k : Nat), n + k = 163 → (∀ i, i < k → i + ([32] ++ s ++ [32]).length ≤ kw.length → ((kw.take (i + ([32] ++ s ++ [32]).length)).drop i == [32] ++ s ++ [32]) = false) →
    ref09_Reserved_l2 s k = some (Lib.contains kw ([32] ++ s ++ [32])) := by
  have hl : ([32] ++ s ++ [32]).length = s.length + 2 := by simp
  intro n
  induction n with
  | zero =>
    intro k hk hi
    rw [ref09_Reserved_l2, wr (n := (k : Int) + _) (by omega) (by omega), wr (by omega) (by omega), if_neg (by simp; omega), contains_miss (fun i h => hi i (by rw [kw_len] at h; omega) h) (by simp)]
  | succ n ih =>
    intro k hk hi
    rw [ref09_Reserved_l2, wr (n := (k : Int) + _) (by omega) (by omega), wr (by omega) (by omega)]
    by_cases hr : k + ([32] ++ s ++ [32]).length ≤ kw.length
    · have hr' := hr
      rw [kw_len, hl] at hr'
      rw [if_pos (decide_eq_true (by omega))]
      have hs2 : slc kw (k : Int) ((k : Int) + (s.length : Int) + 2) = some ((kw.take (k + ([32] ++ s ++ [32]).length)).drop k) := by
        unfold slc
        rw [if_pos ⟨by omega, by omega, by rw [kw_len]; omega⟩, hl]
        rw [show ((k : Int) + (s.length : Int) + 2).toNat = k + (s.length + 2) by omega]
        rfl
      unfold kw at hs2
      rw [hs2, ob, if_pos (decide_eq_true (by unfold maxLen; omega)), if_pos (decide_eq_true (by unfold maxLen; simp; omega))]
      cases he : ((kw.take (k + ([32] ++ s ++ [32]).length)).drop k == [32] ++ s ++ [32]) with
      | true =>
        have := contains_hit hr he
        rw [this]
        unfold kw at he
        rw [he, if_pos rfl]
      | false =>
        have he' := he
        unfold kw at he'
        rw [he', if_neg (by simp), w1 (by unfold BB; omega)]
        refine ih (k + 1) (by omega) fun i hik => ?_
        rcases Nat.lt_or_eq_of_le (Nat.le_of_lt_succ hik) with h | h
        · exact hi i h
        · subst h; exact fun _ => he
    · have hr' := hr
      rw [kw_len, hl] at hr'
      rw [if_neg (by simp; omega), contains_miss (fun i h => hi i (by omega) h) (by simp)]
theorem res1_run (s : Str) (hs : s.length ≤ 4000000000) : ∀ (r : Str) (k : Nat), s.drop k = r → ref09_Reserved_l1 s k = some (bif r.all (fun c => lowI c.toNat) then Lib.contains kw ([32] ++ s ++ [32]) else false)
  | [], k, h => by rw [ref09_Reserved_l1, (lp_out h).1, if_neg (by simp)]; exact res2_run s hs 163 0 rfl (fun i h => by omega)
  | c :: r, k, h => by
    obtain ⟨h1, h2, h3, h4, _⟩ := lp_in h
    have ih := res1_run s hs r (k + 1) h3
    rw [ref09_Reserved_l1, h1, if_pos rfl, h2, ob, refLetter_eq, ob, w1 (by unfold BB; omega), ih, List.all_cons]
    cases lowI c.toNat <;> simp
theorem refReserved_eq (s : Str) (hs : s.length ≤ 4000000000) : ref09_Reserved s = some (rres s) := by
  unfold ref09_Reserved rres
  have := res1_run s hs s 0 rfl
  rw [show (0 : Int) = ((0 : Nat) : Int) from rfl, this]
  cases ((s.length : Int) == ((0 : Nat) : Int)) <;> simp
theorem refIsName_eq (s : Str) (hs : s.length ≤ BB) : ref10_IsName s = some (isName s) := by
  rw [← name_eq]
  unfold ref10_IsName ref09_IsName refNm
  cases h : (bif decide ((s.length : Int) < 1) then true else decide ((s.length : Int) > 12)) with
  | true => simp [ob]
  | false =>
    have h' : 1 ≤ s.length ∧ s.length ≤ 12 := by
      cases h1 : decide ((s.length : Int) < 1) with
      | true => rw [h1] at h; cases h
      | false =>
        rw [h1] at h
        have := of_decide_eq_false h1
        have := of_decide_eq_false (show decide ((s.length : Int) > 12) = false from h)
        omega
    have h0 : idx s 0 = some (s.getD 0 0) := getD_some (by omega)
    rw [h0, refReserved_eq s (by omega), run_eq s hs]
    simp only [Bool.not_false, if_true, ob, refLetter_eq, cond_false]
    cases lowI (s.getD 0 0).toNat <;> cases rres s <;> simp [ob]
end Go.Proofs.YtmilgoloagbmpaaDoor

set_option linter.unusedSimpArgs false
namespace Go.Proofs.YtmilgoloagbmpaaDoor
open Go.Am

theorem ApiType.ind {P : ApiType → Prop} (h : ∀ t : ApiType, (∀ x ∈ t.Of, P x) → P t) : ∀ t, P t := by
  intro t
  refine ApiType.rec (motive_1 := P) (motive_2 := fun l => ∀ x ∈ l, P x) ?_ ?_ ?_ t
  · intro k l h' s n ns of ih
    exact h _ ih
  · intro x hx; cases hx
  · intro x r hx hr y hy
    cases hy with
    | head => exact hx
    | tail _ hy => exact hr y hy

def inside (a b c : Int) : Bool := bif decide (a ≥ b) then decide (a ≤ c) else false
mutual
/-- every node meets p -/
def ApiType.all (p : ApiType → Bool) : ApiType → Bool
  | .mk k l h s n ns of => p (.mk k l h s n ns of) && ApiType.alls p of
def ApiType.alls (p : ApiType → Bool) : List ApiType → Bool
  | [] => true
  | t :: r => ApiType.all p t && ApiType.alls p r
end
theorem ApiType.all_eq (p : ApiType → Bool) (t : ApiType) : t.all p = (p t && ApiType.alls p t.Of) := by cases t; rfl

/-! ### what one node is asked -/

def fm1 (t : ApiType) : Bool := bif decide (t.Kind ≥ 0) then decide (t.Kind ≤ 4) else false
def fm2 (t : ApiType) : Bool := bif t.Kind == 1 then true else bif t.Low == 0 then t.High == 0 else false
def fm3 (t : ApiType) : Bool := bif t.Kind == 2 then true else t.Size == 0
def fm4 (t : ApiType) : Bool := bif t.Kind == 4 then true else t.Name == []
def fm5 (t : ApiType) : Bool := bif t.Kind == 3 then true else ((t.Names).length : Int) == 0
def fm6 (t : ApiType) : Bool := bif t.Kind == 2 then ((t.Of).length : Int) == 1 else bif t.Kind == 3 then (bif decide (((t.Of).length : Int) ≥ 1) then ((t.Of).length : Int) == ((t.Names).length : Int) else false) else ((t.Of).length : Int) == 0
def nm1 (t : ApiType) : Bool := bif t.Kind == 2 then inside t.Size 1 32 else bif t.Kind == 3 then decide (((t.Of).length : Int) ≤ 32) else true
def nm2 (t : ApiType) : Bool := bif t.Kind == 1 then (bif inside t.Low (-1048576) 1048576 then inside t.High t.Low 1048576 else false) else true
def formN (t : ApiType) : Bool := fm1 t && fm2 t && fm3 t && fm4 t && fm5 t && fm6 t
def numN (t : ApiType) : Bool := nm1 t && nm2 t
theorem ApiType.alls_mem {p : ApiType → Bool} : ∀ {l : List ApiType} {t : ApiType}, ApiType.alls p l = true → t ∈ l → t.all p = true
  | x :: r, t, h, hm => by
    simp only [ApiType.alls, Bool.and_eq_true] at h
    cases hm with
    | head => exact h.1
    | tail _ hm => exact ApiType.alls_mem h.2 hm

/-- what a type that CheckType lets pass is like -/
structure Fine (t : ApiType) : Prop where
  form : t.all formN = true
  num : t.all numN = true
theorem Fine.kid {t x : ApiType} (h : Fine t) (hx : x ∈ t.Of) : Fine x := by
  have h1 := h.form
  have h2 := h.num
  rw [ApiType.all_eq, Bool.and_eq_true] at h1 h2
  exact ⟨ApiType.alls_mem h1.2 hx, ApiType.alls_mem h2.2 hx⟩
mutual
/-- some node meets p -/
def ApiType.some (p : ApiType → Bool) : ApiType → Bool
  | .mk k l h s n ns of => p (.mk k l h s n ns of) || ApiType.somes p of
def ApiType.somes (p : ApiType → Bool) : List ApiType → Bool
  | [] => false
  | t :: r => ApiType.some p t || ApiType.somes p r
end

end Go.Proofs.YtmilgoloagbmpaaDoor

set_option linter.unusedSimpArgs false
namespace Go.Proofs.YtmilgoloagbmpaaDoor
open Go.Am

mutual
def ApiType.bulk : ApiType → Nat
  | .mk _ _ _ _ n ns of => 1 + (1 + (1 + (1 + ((n.length + 1) + (((ns.map fun s => s.length + 1).sum + 1) + ((ApiType.bulks of + 1) + 0)))))) + 1
def ApiType.bulks : List ApiType → Nat
  | [] => 0
  | x :: r => ApiType.bulk x + ApiType.bulks r
end
theorem ApiType.bulk_eq (t : ApiType) : t.bulk = t.Name.length + (t.Names.map fun s => s.length + 1).sum + ApiType.bulks t.Of + 8 := by cases t; simp only [ApiType.bulk]; omega
theorem ApiType.bulk_kid {t : ApiType} : ∀ {l : List ApiType}, t ∈ l → t.bulk ≤ ApiType.bulks l
  | x :: r, h => by
    simp only [ApiType.bulks]
    cases h with
    | head => omega
    | tail _ h => have := ApiType.bulk_kid h; omega
theorem ApiType.bulk_len : ∀ l : List ApiType, l.length ≤ ApiType.bulks l
  | [] => Nat.le_refl _
  | x :: r => by
    simp only [ApiType.bulks, List.length_cons]
    have := ApiType.bulk_len r
    have := ApiType.bulk_eq x
    omega
/-- a type of bounded size -/
def Ok (t : ApiType) : Prop := t.bulk ≤ BB
theorem Ok.kid {t x : ApiType} (h : Ok t) (hx : x ∈ t.Of) : Ok x := by
  unfold Ok at *
  have := ApiType.bulk_kid hx
  have := ApiType.bulk_eq t
  omega
theorem Ok.name {t : ApiType} (h : Ok t) : t.Name.length ≤ BB := by
  unfold Ok at *
  have := ApiType.bulk_eq t
  omega
/-! ### the program's CheckType -/
end Go.Proofs.YtmilgoloagbmpaaDoor

set_option linter.unusedSimpArgs false
namespace Go.Proofs.YtmilgoloagbmpaaDoor
open Go.Am

/-! ### the reference's CheckType -/
end Go.Proofs.YtmilgoloagbmpaaDoor

set_option linter.unusedSimpArgs false
set_option linter.unusedVariables false
namespace Go.Proofs.YtmilgoloagbmpaaDoor
open Go.Am

theorem ApiExpr.ind {P : ApiExpr → Prop} (h : ∀ t : ApiExpr, (∀ x ∈ t.Kids, P x) → P t) : ∀ t, P t := by
  intro t
  refine ApiExpr.rec (motive_1 := P) (motive_2 := fun l => ∀ x ∈ l, P x) ?_ ?_ ?_ t
  · intro k l n of ih
    exact h _ ih
  · intro x hx; cases hx
  · intro x r hx hr y hy
    cases hy with
    | head => exact hx
    | tail _ hy => exact hr y hy

mutual
/-- every node meets p -/
def ApiExpr.all (p : ApiExpr → Bool) : ApiExpr → Bool
  | .mk k l n of => p (.mk k l n of) && ApiExpr.alls p of
def ApiExpr.alls (p : ApiExpr → Bool) : List ApiExpr → Bool
  | [] => true
  | t :: r => ApiExpr.all p t && ApiExpr.alls p r
end
theorem ApiExpr.all_eq (p : ApiExpr → Bool) (t : ApiExpr) : t.all p = (p t && ApiExpr.alls p t.Kids) := by cases t; rfl

mutual
def ApiExpr.bulk : ApiExpr → Nat
  | .mk _ _ n ks => 1 + (1 + ((n.length + 1) + ((ApiExpr.bulks ks + 1) + 0))) + 1
def ApiExpr.bulks : List ApiExpr → Nat
  | [] => 0
  | x :: r => ApiExpr.bulk x + ApiExpr.bulks r
end
theorem ApiExpr.bulk_eq (t : ApiExpr) : t.bulk = t.Name.length + ApiExpr.bulks t.Kids + 5 := by cases t; simp only [ApiExpr.bulk]; omega
theorem ApiExpr.bulk_kid {t : ApiExpr} : ∀ {l : List ApiExpr}, t ∈ l → t.bulk ≤ ApiExpr.bulks l
  | x :: r, h => by
    simp only [ApiExpr.bulks]
    cases h with
    | head => omega
    | tail _ h => have := ApiExpr.bulk_kid h; omega
theorem ApiExpr.bulk_len : ∀ l : List ApiExpr, l.length ≤ ApiExpr.bulks l
  | [] => Nat.le_refl _
  | x :: r => by
    simp only [ApiExpr.bulks, List.length_cons]
    have := ApiExpr.bulk_len r
    have := ApiExpr.bulk_eq x
    omega
/-- an expression of bounded size -/
def OkE (t : ApiExpr) : Prop := t.bulk ≤ BB
theorem OkE.kid {t x : ApiExpr} (h : OkE t) (hx : x ∈ t.Kids) : OkE x := by
  unfold OkE at *
  have := ApiExpr.bulk_kid hx
  have := ApiExpr.bulk_eq t
  omega
theorem OkE.kids {t : ApiExpr} (h : OkE t) : t.Kids.length ≤ BB := by
  unfold OkE at *
  have := ApiExpr.bulk_len t.Kids
  have := ApiExpr.bulk_eq t
  omega
theorem OkE.name {t : ApiExpr} (h : OkE t) : t.Name.length ≤ BB := by
  unfold OkE at *
  have := ApiExpr.bulk_eq t
  omega
theorem ApiExpr.alls_mem {p : ApiExpr → Bool} : ∀ {l : List ApiExpr} {t : ApiExpr}, ApiExpr.alls p l = true → t ∈ l → t.all p = true
  | x :: r, t, h, hm => by
    simp only [ApiExpr.alls, Bool.and_eq_true] at h
    cases hm with
    | head => exact h.1
    | tail _ hm => exact ApiExpr.alls_mem h.2 hm

/-! ### what one node is asked -/
/-! ### the program's -/
end Go.Proofs.YtmilgoloagbmpaaDoor

set_option linter.unusedSimpArgs false
set_option linter.unusedVariables false
namespace Go.Proofs.YtmilgoloagbmpaaDoor
open Go.Am

/-! ### few -/
theorem eleft_l (e : ApiExpr) (ht : OkE e) (ih : ∀ x ∈ e.Kids, ∀ n, ∃ m, ref10_exprLeft x n = some m) : ∀ (r : List ApiExpr) (k : Nat) (n : Int), e.Kids.drop k = r → ∃ m, ref10_exprLeft_l1 e n k = some m
  | [], k, n, h => by rw [ref10_exprLeft_l1, (lp_out h).1]; exact ⟨_, rfl⟩
  | x :: r, k, n, h => by
    obtain ⟨e1, e2, e3, e4, e5⟩ := lp_in h
    have := ht.kids
    rw [ref10_exprLeft_l1, e1, e2]
    cases decide (n ≥ 0) with
    | false => exact ⟨_, rfl⟩
    | true =>
      obtain ⟨m, hm⟩ := ih x e5 n
      rw [cond_true, if_pos rfl, ob, hm, ob, w1 (by omega)]
      exact eleft_l e ht ih r (k + 1) m e3
theorem eleft_some (e : ApiExpr) : OkE e → ∀ n, ∃ m, ref10_exprLeft e n = some m := by
  induction e using ApiExpr.ind with
  | h e ih =>
  intro ht n
  rw [ref10_exprLeft]
  exact eleft_l e ht (fun x hx => ih x hx (ht.kid hx)) e.Kids 0 _ rfl
theorem fewE_some (e : ApiExpr) (ht : OkE e) (n : Int) : ∃ b, ref10_FewExpr e n = some b := by
  obtain ⟨m, hm⟩ := eleft_some e ht n
  unfold ref10_FewExpr
  rw [hm]
  exact ⟨_, rfl⟩
end Go.Proofs.YtmilgoloagbmpaaDoor

namespace Go.Proofs.YtmilgoloagbmpaaDoor
open Go.Am
set_option maxRecDepth 100000
set_option maxHeartbeats 4000000
theorem law10_known_true : law10_known = some true := law10_known_le 200 _ (by kernel_rfl)
end Go.Proofs.YtmilgoloagbmpaaDoor

set_option linter.unusedSimpArgs false
set_option linter.unusedVariables false
namespace Go.Proofs.YtmilgoloagbmpaaDoor
open Go.Am

mutual
def ApiExpr.ment (s : Str) : ApiExpr → Bool
  | .mk o _ nm ks => (o == 3 && nm == s) || ApiExpr.ments s ks
def ApiExpr.ments (s : Str) : List ApiExpr → Bool
  | [] => false
  | x :: r => ApiExpr.ment s x || ApiExpr.ments s r
end
theorem ApiExpr.ment_eq (s : Str) (e : ApiExpr) : e.ment s = ((e.Op == 3 && e.Name == s) || ApiExpr.ments s e.Kids) := by cases e; simp only [ApiExpr.ment]
theorem b3n (a b : Bool) : (bif a then b else false) = (a && b) := by cases a <;> rfl
theorem sMent_eq (s : Str) (e : ApiExpr) : OkE e → syntax_Mentions e s = some (e.ment s) := by
  induction e using ApiExpr.ind with
  | h e ih =>
  intro ht
  have hl := ht.kids
  have main : ∀ (r : List ApiExpr) (k : Nat), e.Kids.drop k = r → ∃ n, slices_IndexFunc_api_Expr_api_Expr_l1 e.Kids s k = some n ∧ decide (n ≥ 0) = ApiExpr.ments s r := by
    intro r
    induction r with
    | nil => intro k h; rw [slices_IndexFunc_api_Expr_api_Expr_l1, (lp_out h).1, if_neg (by simp)]; exact ⟨_, rfl, rfl⟩
    | cons x r ihr =>
      intro k h
      obtain ⟨e1, e2, e3, e4, e5⟩ := lp_in h
      rw [slices_IndexFunc_api_Expr_api_Expr_l1, e1, if_pos rfl, e2, ob, syntax_Mentions_1, ih x e5 (ht.kid e5), ob, ob, ApiExpr.ments]
      cases x.ment s with
      | true => exact ⟨_, by rw [if_pos rfl], by simp⟩
      | false =>
        rw [if_neg (by simp), w1 (by omega)]
        exact ihr (k + 1) e3
  rw [syntax_Mentions, ApiExpr.ment_eq, b3n]
  cases e.Op == 3 && e.Name == s with
  | true => rw [if_pos rfl]; rfl
  | false =>
    obtain ⟨n, h1, h2⟩ := main e.Kids 0 rfl
    rw [if_neg (by simp), slices_ContainsFunc_api_Expr_api_Expr, slices_IndexFunc_api_Expr_api_Expr, show (0 : Int) = ((0 : Nat) : Int) from rfl, h1, ob, ob]
    exact congrArg some h2
theorem rMent_eq (s : Str) (e : ApiExpr) : OkE e → ref10_Mentions e s = some (e.ment s) := by
  induction e using ApiExpr.ind with
  | h e ih =>
  intro ht
  have hl := ht.kids
  have main : ∀ (r : List ApiExpr) (k : Nat), e.Kids.drop k = r → ref10_Mentions_l1 e s k = some (ApiExpr.ments s r) := by
    intro r
    induction r with
    | nil => intro k h; rw [ref10_Mentions_l1, (lp_out h).1, if_neg (by simp)]; rfl
    | cons x r ihr =>
      intro k h
      obtain ⟨e1, e2, e3, e4, e5⟩ := lp_in h
      rw [ref10_Mentions_l1, e1, if_pos rfl, e2, ob, ih x e5 (ht.kid e5), ob, ApiExpr.ments]
      cases x.ment s with
      | true => rw [if_pos rfl]; rfl
      | false =>
        rw [if_neg (by simp), w1 (by omega)]
        exact ihr (k + 1) e3
  rw [ref10_Mentions, ApiExpr.ment_eq, b3n]
  cases e.Op == 3 && e.Name == s with
  | true => rw [if_pos rfl]; rfl
  | false => rw [if_neg (by simp), show (0 : Int) = ((0 : Nat) : Int) from rfl]; exact main e.Kids 0 rfl
/-- P10.7 -/
theorem SyntaxMentions_true (e : ApiExpr) (s : Str) (h : OkE e) (hs : s.length ≤ BB) (hk : law10_known = some true) : law10_SyntaxMentions e s = some true := by
  unfold law10_SyntaxMentions
  obtain ⟨b, hb⟩ := fewE_some e h 400
  rw [hk, ob, if_neg (by simp), hb, ob]
  cases (bif !b then true else decide ((s.length : Int) > 100)) with
  | true => rw [if_pos rfl]
  | false => rw [if_neg (by simp), sMent_eq s e h, ob, rMent_eq s e h, ob, beq_self_eq_true, if_pos rfl, if_pos rfl, IsName_eq s hs, refIsName_eq s hs]; simp
end Go.Proofs.YtmilgoloagbmpaaDoor

namespace Go.Proofs.YtmilgoloagbmpaaDoor
open Go.Am

mutual
def ApiStmt.bulk : ApiStmt → Nat
  | .mk y0 y1 y2 y3 y4 y5 y6 y7 y8 y9 y10 => 1 + (ApiExpr.bulk y1 + (ApiExpr.bulk y2 + ((y3.length + 1) + ((ApiExpr.bulks y4 + 1) + (1 + (1 + (1 + (((y8.map fun _ => 1).sum + 1) + ((ApiStmt.bulks y9 + 1) + ((ApiStmt.bulks y10 + 1) + (0))))))))))) + 1
def ApiStmt.bulks : List ApiStmt → Nat
  | [] => 0
  | x :: r => ApiStmt.bulk x + ApiStmt.bulks r
end
mutual
def ApiDecl.bulk : ApiDecl → Nat
  | .mk y0 y1 y2 y3 y4 y5 y6 y7 => 1 + ((y1.length + 1) + (ApiType.bulk y2 + (1 + (ApiExpr.bulk y4 + ((ApiDecl.bulks y5 + 1) + ((ApiDecl.bulks y6 + 1) + ((ApiStmt.bulks y7 + 1) + (0)))))))) + 1
def ApiDecl.bulks : List ApiDecl → Nat
  | [] => 0
  | x :: r => ApiDecl.bulk x + ApiDecl.bulks r
end
mutual
def ApiProgram.bulk : ApiProgram → Nat
  | .mk y0 y1 => (ApiDecl.bulks y0 + 1) + ((ApiStmt.bulks y1 + 1) + (0)) + 1
def ApiProgram.bulks : List ApiProgram → Nat
  | [] => 0
  | x :: r => ApiProgram.bulk x + ApiProgram.bulks r
end
end Go.Proofs.YtmilgoloagbmpaaDoor

