/- A part of the proof of SyntaxApart. -/
import Derived.Test.YtmilgoloagbmpaaGreatDoorDgC
import Derived.ProofKit
namespace Go.Proofs.YtmilgoloagbmpaaGreatDoor
open Go.Am

/-! ### loops -/
theorem ob {α β : Type} (a : α) (f : α → Option β) : (some a >>= f) = f a := rfl
theorem lp_in {α : Type} {l : List α} {k : Nat} {x : α} {r : List α} (h : l.drop k = x :: r) : decide ((k : Int) < (l.length : Int)) = true ∧ idx l (k : Int) = some x ∧ l.drop (k + 1) = r ∧ k < l.length ∧ x ∈ l := by
  have hk : k < l.length := by
    rcases Nat.lt_or_ge k l.length with h1 | h1
    · exact h1
    · rw [List.drop_eq_nil_of_le h1] at h; cases h
  have hx := List.drop_eq_getElem_cons hk
  rw [h] at hx
  obtain ⟨e1, e2⟩ := List.cons.inj hx
  refine ⟨decide_eq_true (by omega), ?_, e2.symm, hk, ?_⟩
  · unfold idx
    rw [if_pos (by omega), e1]
    simp [hk]
  · rw [e1]; exact List.getElem_mem hk
theorem lp_out {α : Type} {l : List α} {k : Nat} (h : l.drop k = []) : decide ((k : Int) < (l.length : Int)) = false ∧ l.length ≤ k := by
  have := List.drop_eq_nil_iff.1 h
  exact ⟨decide_eq_false (by omega), this⟩
/-- sizes that no sum or product here can pass -/
def BB : Nat := 68719476736
theorem wr {n : Int} (h : -4611686018427387904 ≤ n) (h' : n ≤ 4611686018427387904) : IntKind.i64.wrap n = n := wrap_i64 (by omega) (by omega)
theorem w1 {k : Nat} (h : k ≤ BB) : IntKind.i64.wrap ((k : Int) + 1) = ((k + 1 : Nat) : Int) := by
  unfold BB at h
  rw [wr (by omega) (by omega)]; rfl

/-! ### names -/
def lowI (n : Int) : Bool := bif decide (n ≥ 97) then decide (n ≤ 122) else false
def digI (n : Int) : Bool := bif decide (n ≥ 48) then decide (n ≤ 57) else false

/-- the letter or digit at a place of a name -/
def okAt (i : Nat) (c : UInt8) : Bool := lowI c.toNat || (i != 0 && digI c.toNat)
def wordFrom : Nat → List UInt8 → Bool
  | _, [] => true
  | i, c :: r => okAt i c && wordFrom (i + 1) r
def word (s : List UInt8) : Bool := wordFrom 0 s && !(s == [])

/-- the reserved words, a blank around each -/
def kw : List UInt8 := [32, 116, 121, 112, 101, 32, 115, 101, 99, 114, 101, 116, 32, 112, 117, 98, 108, 105, 99, 32, 114, 97, 110, 100, 111, 109, 32, 118, 97, 114, 32, 104, 97, 116, 99, 104, 32, 102, 117, 110, 99, 32, 114, 101, 116, 117, 114, 110, 32, 98, 101, 103, 105, 110, 32, 101, 110, 100, 32, 98, 111, 111, 108, 32, 105, 110, 116, 32, 97, 114, 114, 97, 121, 32, 111, 102, 32, 114, 101, 99, 111, 114, 100, 32, 116, 114, 117, 101, 32, 102, 97, 108, 115, 101, 32, 99, 97, 108, 108, 32, 114, 101, 108, 101, 97, 115, 101, 32, 111, 117, 116, 112, 117, 116, 32, 119, 97, 105, 116, 32, 105, 102, 32, 101, 108, 115, 101, 32, 119, 104, 105, 108, 101, 32, 108, 105, 109, 105, 116, 32, 102, 111, 114, 32, 116, 111, 32, 115, 101, 116, 116, 108, 101, 32, 109, 105, 110, 32, 109, 97, 120, 32]

def resv (s : List UInt8) : Bool := bif (bif !(s == []) then !Lib.contains s [32] else false) then Lib.contains kw ([32] ++ s ++ [32]) else false
def isName (s : List UInt8) : Bool := bif (bif decide ((s.length : Int) ≤ 12) then word s else false) then !resv s else false

theorem getD_some {s : List UInt8} {k : Nat} (h : k < s.length) : s[k]? = some (s.getD k 0) := by simp [List.getD, h]

def ld (c : UInt8) : Bool := bif lowI c.toNat then true else digI c.toNat
/-- how many letters and digits a text begins with -/
def lead : List UInt8 → Nat
  | [] => 0
  | c :: r => bif ld c then lead r + 1 else 0
theorem lead_le : ∀ s : List UInt8, lead s ≤ s.length
  | [] => Nat.le_refl _
  | c :: r => by
    simp only [lead, List.length_cons]
    have := lead_le r
    cases ld c <;> simp <;> omega
def rres (s : List UInt8) : Bool := bif ((s.length : Nat) : Int) == 0 then false else bif s.all (fun c => lowI c.toNat) then Lib.contains kw ([32] ++ s ++ [32]) else false

set_option maxRecDepth 100000 in
theorem kw_len : kw.length = 162 := rfl

theorem contains_hit {s sub : List UInt8} {i : Nat} (hi : i + sub.length ≤ s.length) (h : ((s.take (i + sub.length)).drop i == sub) = true) : Lib.contains s sub = true := by
  have ho : Lib.occAt s sub i = true := by
    rw [Lib.occAt_iff_take s sub i hi]
    rw [List.drop_take] at h
    simpa using h
  rcases Lib.index_spec s sub with ⟨_, h2⟩ | ⟨j, h1, _⟩
  · rw [h2 i (by omega)] at ho; cases ho
  · unfold Lib.contains
    rw [h1]
    exact decide_eq_true (by omega)
theorem contains_miss {s sub : List UInt8} (h : ∀ i, i + sub.length ≤ s.length → ((s.take (i + sub.length)).drop i == sub) = false) (hne : sub ≠ []) : Lib.contains s sub = false := by
  rcases Lib.index_spec s sub with ⟨h1, _⟩ | ⟨j, h1, h2, h3, _⟩
  · unfold Lib.contains
    rw [h1]; rfl
  · rcases Lib.occAt_room h3 with hr | hr
    · have := h j hr
      rw [Lib.occAt_iff_take s sub j hr] at h3
      rw [List.drop_take] at this
      have e : j + sub.length - j = sub.length := by omega
      rw [e, h3] at this
      cases this
    · exact absurd hr hne

def refNm (s : List UInt8) : Bool :=
  bif (bif (bif (bif decide (((s.length : Nat) : Int) < 1) then true else decide (((s.length : Nat) : Int) > 12)) then true else !lowI (s.getD 0 0).toNat) then true else rres s) then false else ((lead s : Nat) : Int) == ((s.length : Nat) : Int)

theorem wordFrom_ld : ∀ (r : List UInt8) (i : Nat), 1 ≤ i → wordFrom i r = r.all ld
  | [], _, _ => rfl
  | c :: r, i, h => by
    have hi : (i != 0) = true := by simp; omega
    simp only [wordFrom, List.all_cons, wordFrom_ld r (i + 1) (by omega), okAt, hi, Bool.true_and, ld]
    cases lowI c.toNat <;> rfl
theorem lead_ld : ∀ s : List UInt8, (((lead s : Nat) : Int) == ((s.length : Nat) : Int)) = s.all ld
  | [] => rfl
  | c :: r => by
    have h := lead_ld r
    have hle := lead_le r
    simp only [lead, List.length_cons, List.all_cons, ← h]
    cases ld c with
    | false =>
      simp only [cond_false, Bool.false_and]
      apply beq_eq_false_iff_ne.2
      omega
    | true =>
      simp only [cond_true, Bool.true_and]
      rw [Bool.eq_iff_iff, beq_iff_eq, beq_iff_eq]
      omega

set_option maxRecDepth 100000 in
theorem kw_chars : kw.all (fun c => lowI c.toNat || c == 32) = true := by decide

theorem contains_mem {s sub : List UInt8} (h : Lib.contains s sub = true) (hne : sub ≠ []) : ∀ c ∈ sub, c ∈ s := by
  rcases Lib.index_spec s sub with ⟨h1, _⟩ | ⟨j, h1, h2, h3, _⟩
  · unfold Lib.contains at h
    rw [h1] at h
    cases h
  · rcases Lib.occAt_room h3 with hr | hr
    · rw [Lib.occAt_iff_take s sub j hr] at h3
      have e : (s.drop j).take sub.length = sub := by simpa using h3
      intro c hc
      rw [← e] at hc
      exact List.mem_of_mem_drop (List.mem_of_mem_take hc)
    · exact absurd hr hne

theorem ld_space : ld 32 = false := by decide

theorem no_space {s : List UInt8} (h : s.all ld = true) : Lib.contains s [32] = false := by
  cases hc : Lib.contains s [32] with
  | false => rfl
  | true =>
    have := contains_mem hc (by simp) 32 (by simp)
    have := List.all_eq_true.1 h 32 this
    rw [ld_space] at this
    cases this

theorem all_low {s : List UInt8} (h : s.all ld = true) (hc : Lib.contains kw ([32] ++ s ++ [32]) = true) : s.all (fun c => lowI c.toNat) = true := by
  rw [List.all_eq_true]
  intro c hcs
  have h1 := contains_mem hc (by simp) c (by simp [hcs])
  have h2 := List.all_eq_true.1 kw_chars c h1
  have h3 := List.all_eq_true.1 h c hcs
  cases hl : lowI c.toNat with
  | true => rfl
  | false =>
    rw [hl, Bool.false_or, beq_iff_eq] at h2
    subst h2
    rw [ld_space] at h3
    cases h3

theorem name_eq (s : List UInt8) : refNm s = isName s := by
  unfold refNm isName
  rw [lead_ld]
  cases s with
  | nil => rfl
  | cons c r =>
    have h1 : decide ((((c :: r).length : Nat) : Int) < 1) = false := decide_eq_false (by simp only [List.length_cons]; omega)
    have h12 : decide ((((c :: r).length : Nat) : Int) > 12) = !decide ((((c :: r).length : Nat) : Int) ≤ 12) := by
      rw [← decide_not]; exact decide_eq_decide.2 Int.not_le.symm
    have hw : word (c :: r) = (lowI c.toNat && r.all ld) := by
      unfold word
      simp only [wordFrom, okAt, wordFrom_ld r 1 (Nat.le_refl _)]
      simp
    rw [h1, h12, hw, cond_false, List.all_cons]
    show (bif (bif (bif !decide ((((c :: r).length : Nat) : Int) ≤ 12) then true else !lowI c.toNat) then true else rres (c :: r)) then false else (ld c && r.all ld)) = _
    cases h12' : decide ((((c :: r).length : Nat) : Int) ≤ 12) with
    | false => rfl
    | true =>
      cases hl : lowI c.toNat with
      | false => rfl
      | true =>
        have hlc : ld c = true := by unfold ld; rw [hl]; rfl
        rw [hlc]
        cases ha : r.all ld with
        | false => cases rres (c :: r) <;> rfl
        | true =>
          have hall : (c :: r).all ld = true := by rw [List.all_cons, hlc, ha]; rfl
          have hns := no_space hall
          have e : rres (c :: r) = resv (c :: r) := by
            unfold rres resv
            rw [hns]
            have hz : ((((c :: r).length : Nat) : Int) == 0) = false := beq_eq_false_iff_ne.2 (by simp only [List.length_cons]; omega)
            rw [hz]
            cases hk : Lib.contains kw ([32] ++ (c :: r) ++ [32]) with
            | false => simp
            | true =>
              rw [all_low hall hk]
              rfl
          rw [e]
          cases resv (c :: r) <;> rfl

/-! ### the program's -/
theorem isLetter_eq (n : Int) : lexer_isLetter n = some (lowI n) := rfl
theorem isDigit_eq (n : Int) : lexer_isDigit n = some (digI n) := rfl
theorem isWord_run (s : Str) (hs : s.length ≤ BB) : ∀ (r : Str) (k : Nat), s.drop k = r → lexer_isWord_l1 s k = some (wordFrom k r && !(s == []))
  | [], k, h => by rw [lexer_isWord_l1, (lp_out h).1]; simp [wordFrom]
  | c :: r, k, h => by
    obtain ⟨h1, h2, h3, h4, _⟩ := lp_in h
    have ih := isWord_run s hs r (k + 1) h3
    rw [lexer_isWord_l1, h1, if_pos rfl, h2, ob, isLetter_eq, ob, w1 (by omega), ih]
    have e : ((k : Int) == 0) = (k == 0) := by cases k <;> rfl
    simp only [e, wordFrom, okAt, bne]
    cases hl : lowI c.toNat <;> cases hk : k == 0 <;> cases hd : digI c.toNat <;> simp [isDigit_eq, hd]
theorem isWord_eq (s : Str) (hs : s.length ≤ BB) : lexer_isWord s = some (word s) := isWord_run s hs s 0 rfl
theorem X_Contains_eq (s t : Str) (hs : s.length ≤ 4000000000) : X_Contains s t = some (Lib.contains s t) := by
  unfold X_Contains
  rw [if_pos (decide_eq_true (by omega))]
theorem Reserved_eq (s : Str) (hs : s.length ≤ 4000000000) : lexer_Reserved s = some (resv s) := by
  unfold lexer_Reserved
  have h1 : decide (1 + s.length ≤ maxLen) = true := decide_eq_true (by unfold maxLen; omega)
  have h2 : decide (([32] ++ s).length + 1 ≤ maxLen) = true := decide_eq_true (by unfold maxLen; simp; omega)
  rw [X_Contains_eq s _ hs]
  have h3 := X_Contains_eq kw (([32] ++ s) ++ [32]) (by rw [kw_len]; omega)
  unfold kw at h3
  unfold resv kw
  rw [h1, h2, h3]
  cases s == [] <;> cases Lib.contains s [32] <;> simp
theorem IsName_eq (s : Str) (hs : s.length ≤ BB) : syntax_IsName s = some (isName s) := by
  unfold syntax_IsName lexer_IsName isName
  rw [isWord_eq s hs]
  cases h : decide ((s.length : Int) ≤ 12) with
  | false => simp
  | true =>
    have h' : s.length ≤ 12 := by have := of_decide_eq_true h; omega
    rw [Reserved_eq s (by omega)]
    cases word s <;> simp

/-! ### the reference's -/
theorem refLetter_eq (n : Int) : ref09_letter n = some (lowI n) := rfl
theorem refDigit_eq (n : Int) : ref09_digit n = some (digI n) := rfl
theorem run_run (s : Str) (hs : s.length ≤ BB) : ∀ (r : Str) (k : Nat), s.drop k = r → ref09_run_l1 s k = some ((k + lead r : Nat) : Int)
  | [], k, h => by rw [ref09_run_l1, (lp_out h).1]; simp [lead, ob]
  | c :: r, k, h => by
    obtain ⟨h1, h2, h3, h4, _⟩ := lp_in h
    have ih := run_run s hs r (k + 1) h3
    rw [ref09_run_l1, h1, if_pos rfl, h2, ob, if_pos rfl, refLetter_eq, ob, w1 (by omega), ih]
    simp only [lead, ld]
    cases hl : lowI c.toNat <;> cases hd : digI c.toNat <;> simp [refDigit_eq, hd, ob] <;> omega
theorem run_eq (s : Str) (hs : s.length ≤ BB) : ref09_run s 0 = some ((lead s : Nat) : Int) := by
  have := run_run s hs s 0 rfl
  unfold ref09_run
  rw [Nat.zero_add] at this
  exact this
theorem res2_run (s : Str) (hs : s.length ≤ 4000000000) : ∀ (n k : Nat), n + k = 163 → (∀ i, i < k → i + ([32] ++ s ++ [32]).length ≤ kw.length → ((kw.take (i + ([32] ++ s ++ [32]).length)).drop i == [32] ++ s ++ [32]) = false) →
    ref09_Reserved_l2 s k = some (Lib.contains kw ([32] ++ s ++ [32])) := by
  have hl : ([32] ++ s ++ [32]).length = s.length + 2 := by simp
  intro n
  induction n with
  | zero =>
    intro k hk hi
    rw [ref09_Reserved_l2, wr (n := (k : Int) + _) (by omega) (by omega), wr (by omega) (by omega), if_neg (by simp; omega), contains_miss (fun i h => hi i (by rw [kw_len] at h; omega) h) (by simp)]
  | succ n ih =>
    intro k hk hi
    rw [ref09_Reserved_l2, wr (n := (k : Int) + _) (by omega) (by omega), wr (by omega) (by omega)]
    by_cases hr : k + ([32] ++ s ++ [32]).length ≤ kw.length
    · have hr' := hr
      rw [kw_len, hl] at hr'
      rw [if_pos (decide_eq_true (by omega))]
      have hs2 : slc kw (k : Int) ((k : Int) + (s.length : Int) + 2) = some ((kw.take (k + ([32] ++ s ++ [32]).length)).drop k) := by
        unfold slc
        rw [if_pos ⟨by omega, by omega, by rw [kw_len]; omega⟩, hl]
        rw [show ((k : Int) + (s.length : Int) + 2).toNat = k + (s.length + 2) by omega]
        rfl
      unfold kw at hs2
      rw [hs2, ob, if_pos (decide_eq_true (by unfold maxLen; omega)), if_pos (decide_eq_true (by unfold maxLen; simp; omega))]
      cases he : ((kw.take (k + ([32] ++ s ++ [32]).length)).drop k == [32] ++ s ++ [32]) with
      | true =>
        have := contains_hit hr he
        rw [this]
        unfold kw at he
        rw [he, if_pos rfl]
      | false =>
        have he' := he
        unfold kw at he'
        rw [he', if_neg (by simp), w1 (by unfold BB; omega)]
        refine ih (k + 1) (by omega) fun i hik => ?_
        rcases Nat.lt_or_eq_of_le (Nat.le_of_lt_succ hik) with h | h
        · exact hi i h
        · subst h; exact fun _ => he
    · have hr' := hr
      rw [kw_len, hl] at hr'
      rw [if_neg (by simp; omega), contains_miss (fun i h => hi i (by omega) h) (by simp)]
theorem res1_run (s : Str) (hs : s.length ≤ 4000000000) : ∀ (r : Str) (k : Nat), s.drop k = r → ref09_Reserved_l1 s k = some (bif r.all (fun c => lowI c.toNat) then Lib.contains kw ([32] ++ s ++ [32]) else false)
  | [], k, h => by rw [ref09_Reserved_l1, (lp_out h).1, if_neg (by simp)]; exact res2_run s hs 163 0 rfl (fun i h => by omega)
  | c :: r, k, h => by
    obtain ⟨h1, h2, h3, h4, _⟩ := lp_in h
    have ih := res1_run s hs r (k + 1) h3
    rw [ref09_Reserved_l1, h1, if_pos rfl, h2, ob, refLetter_eq, ob, w1 (by unfold BB; omega), ih, List.all_cons]
    cases lowI c.toNat <;> simp
theorem refReserved_eq (s : Str) (hs : s.length ≤ 4000000000) : ref09_Reserved s = some (rres s) := by
  unfold ref09_Reserved rres
  have := res1_run s hs s 0 rfl
  rw [show (0 : Int) = ((0 : Nat) : Int) from rfl, this]
  cases ((s.length : Int) == ((0 : Nat) : Int)) <;> simp
theorem refIsName_eq (s : Str) (hs : s.length ≤ BB) : ref10_IsName s = some (isName s) := by
  rw [← name_eq]
  unfold ref10_IsName ref09_IsName refNm
  cases h : (bif decide ((s.length : Int) < 1) then true else decide ((s.length : Int) > 12)) with
  | true => simp [ob]
  | false =>
    have h' : 1 ≤ s.length ∧ s.length ≤ 12 := by
      cases h1 : decide ((s.length : Int) < 1) with
      | true => rw [h1] at h; cases h
      | false =>
        rw [h1] at h
        have := of_decide_eq_false h1
        have := of_decide_eq_false (show decide ((s.length : Int) > 12) = false from h)
        omega
    have h0 : idx s 0 = some (s.getD 0 0) := getD_some (by omega)
    rw [h0, refReserved_eq s (by omega), run_eq s hs]
    simp only [Bool.not_false, if_true, ob, refLetter_eq, cond_false]
    cases lowI (s.getD 0 0).toNat <;> cases rres s <;> simp [ob]
end Go.Proofs.YtmilgoloagbmpaaGreatDoor

set_option linter.unusedSimpArgs false
namespace Go.Proofs.YtmilgoloagbmpaaGreatDoor
open Go.Am

theorem ApiType.ind {P : ApiType → Prop} (h : ∀ t : ApiType, (∀ x ∈ t.Of, P x) → P t) : ∀ t, P t := by
  intro t
  refine ApiType.rec (motive_1 := P) (motive_2 := fun l => ∀ x ∈ l, P x) ?_ ?_ ?_ t
  · intro k l h' s n ns of ih
    exact h _ ih
  · intro x hx; cases hx
  · intro x r hx hr y hy
    cases hy with
    | head => exact hx
    | tail _ hy => exact hr y hy

mutual
def ApiType.depth : ApiType → Nat
  | .mk _ _ _ _ _ _ of => ApiType.depths of + 1
def ApiType.depths : List ApiType → Nat
  | [] => 0
  | t :: r => max (ApiType.depth t) (ApiType.depths r)
end
theorem ApiType.depth_eq (t : ApiType) : t.depth = ApiType.depths t.Of + 1 := by cases t; simp [ApiType.depth, ApiType.Of]
def inside (a b c : Int) : Bool := bif decide (a ≥ b) then decide (a ≤ c) else false
mutual
/-- every node meets p -/
def ApiType.all (p : ApiType → Bool) : ApiType → Bool
  | .mk k l h s n ns of => p (.mk k l h s n ns of) && ApiType.alls p of
def ApiType.alls (p : ApiType → Bool) : List ApiType → Bool
  | [] => true
  | t :: r => ApiType.all p t && ApiType.alls p r
end
theorem ApiType.all_eq (p : ApiType → Bool) (t : ApiType) : t.all p = (p t && ApiType.alls p t.Of) := by cases t; rfl
mutual
def ApiType.nodes : ApiType → Nat
  | .mk _ _ _ _ _ _ of => ApiType.nodess of + 1
def ApiType.nodess : List ApiType → Nat
  | [] => 0
  | t :: r => ApiType.nodes t + ApiType.nodess r
end
theorem ApiType.nodes_eq (t : ApiType) : t.nodes = ApiType.nodess t.Of + 1 := by cases t; rfl
mutual
theorem ApiType.depth_nodes : ∀ t : ApiType, t.depth ≤ t.nodes
  | .mk _ _ _ _ _ _ of => by simp only [ApiType.depth, ApiType.nodes]; have := ApiType.depths_nodess of; omega
theorem ApiType.depths_nodess : ∀ l : List ApiType, ApiType.depths l ≤ ApiType.nodess l
  | [] => Nat.le_refl _
  | t :: r => by simp only [ApiType.depths, ApiType.nodess]; have := ApiType.depth_nodes t; have := ApiType.depths_nodess r; omega
end

/-! ### what one node is asked -/

theorem or_not (a b c : Bool) : (a || !b || !c) = (a || !(b && c)) := by cases a <;> cases b <;> cases c <;> rfl

def repCode (n d : Int) (f m u : Bool) : Int :=
  bif (bif decide (n > 1024) then true else decide (d > 12)) then 4 else bif f then 1 else bif m then 7 else bif u then 3 else 0

theorem lt_ge (a b : Int) : decide (a < b) = !decide (a ≥ b) := by
  rw [← decide_not]; exact decide_eq_decide.2 Int.not_le.symm
theorem gt_le (a b : Int) : decide (a > b) = !decide (a ≤ b) := by
  rw [← decide_not]; exact decide_eq_decide.2 Int.not_le.symm

theorem ApiType.alls_mem {p : ApiType → Bool} : ∀ {l : List ApiType} {t : ApiType}, ApiType.alls p l = true → t ∈ l → t.all p = true
  | x :: r, t, h, hm => by
    simp only [ApiType.alls, Bool.and_eq_true] at h
    cases hm with
    | head => exact h.1
    | tail _ hm => exact ApiType.alls_mem h.2 hm

mutual
/-- some node meets p -/
def ApiType.some (p : ApiType → Bool) : ApiType → Bool
  | .mk k l h s n ns of => p (.mk k l h s n ns of) || ApiType.somes p of
def ApiType.somes (p : ApiType → Bool) : List ApiType → Bool
  | [] => false
  | t :: r => ApiType.some p t || ApiType.somes p r
end
/-- two lists, place by place -/
def eqL {α : Type} (p : α → α → Bool) : List α → List α → Bool
  | [], [] => true
  | x :: r, y :: s => p x y && eqL p r s
  | _, _ => false
theorem eqL_len {α : Type} (p : α → α → Bool) : ∀ {l m : List α}, l.length ≠ m.length → eqL p l m = false
  | [], [], h => absurd rfl h
  | [], _ :: _, _ => rfl
  | _ :: _, [], _ => rfl
  | x :: r, y :: s, h => by rw [eqL, eqL_len p (l := r) (m := s) (by simpa using h), Bool.and_false]

mutual
/-- all fields are the same -/
def ApiType.same : ApiType → ApiType → Bool
  | .mk k l h s n ns of, t => k == t.Kind && l == t.Low && h == t.High && s == t.Size && n == t.Name && eqL (fun x y => x == y) ns t.Names && ApiType.sames of t.Of
def ApiType.sames : List ApiType → List ApiType → Bool
  | [], [] => true
  | x :: r, y :: s => ApiType.same x y && ApiType.sames r s
  | [], _ :: _ => false
  | _ :: _, [] => false
end
theorem ApiType.sames_eq : ∀ l m : List ApiType, ApiType.sames l m = eqL ApiType.same l m
  | [], [] => rfl
  | x :: r, y :: s => by simp only [ApiType.sames, eqL, ApiType.sames_eq r s]
  | [], _ :: _ => rfl
  | _ :: _, [] => rfl
theorem ApiType.same_eq (t u : ApiType) : t.same u = (t.Kind == u.Kind && t.Low == u.Low && t.High == u.High && t.Size == u.Size && t.Name == u.Name && eqL (fun x y => x == y) t.Names u.Names && eqL ApiType.same t.Of u.Of) := by
  rw [← ApiType.sames_eq]
  cases t
  rfl

mutual
/-- what is left of n behind the nodes of a type -/
def ApiType.left : ApiType → Int → Int
  | .mk _ _ _ _ _ ns of, n => ApiType.lefts of (n - (1 + min (ns.length : Int) (n + 1)))
def ApiType.lefts : List ApiType → Int → Int
  | [], n => n
  | t :: r, n => bif decide (n ≥ 0) then ApiType.lefts r (ApiType.left t n) else n
end

end Go.Proofs.YtmilgoloagbmpaaGreatDoor

set_option linter.unusedSimpArgs false
namespace Go.Proofs.YtmilgoloagbmpaaGreatDoor
open Go.Am

mutual
def ApiType.bulk : ApiType → Nat
  | .mk _ _ _ _ n ns of => 1 + (1 + (1 + (1 + ((n.length + 1) + (((ns.map fun s => s.length + 1).sum + 1) + ((ApiType.bulks of + 1) + 0)))))) + 1
def ApiType.bulks : List ApiType → Nat
  | [] => 0
  | x :: r => ApiType.bulk x + ApiType.bulks r
end
theorem ApiType.bulk_eq (t : ApiType) : t.bulk = t.Name.length + (t.Names.map fun s => s.length + 1).sum + ApiType.bulks t.Of + 8 := by cases t; simp only [ApiType.bulk]; omega
theorem ApiType.bulk_kid {t : ApiType} : ∀ {l : List ApiType}, t ∈ l → t.bulk ≤ ApiType.bulks l
  | x :: r, h => by
    simp only [ApiType.bulks]
    cases h with
    | head => omega
    | tail _ h => have := ApiType.bulk_kid h; omega
theorem ApiType.bulk_len : ∀ l : List ApiType, l.length ≤ ApiType.bulks l
  | [] => Nat.le_refl _
  | x :: r => by
    simp only [ApiType.bulks, List.length_cons]
    have := ApiType.bulk_len r
    have := ApiType.bulk_eq x
    omega
mutual
theorem ApiType.nodes_bulk : ∀ t : ApiType, t.nodes ≤ t.bulk
  | .mk _ _ _ _ _ _ of => by simp only [ApiType.nodes, ApiType.bulk]; have := ApiType.nodess_bulk of; omega
theorem ApiType.nodess_bulk : ∀ l : List ApiType, ApiType.nodess l ≤ ApiType.bulks l
  | [] => Nat.le_refl _
  | x :: r => by simp only [ApiType.nodess, ApiType.bulks]; have := ApiType.nodes_bulk x; have := ApiType.nodess_bulk r; omega
end
/-! ### the program's CheckType -/
theorem bor (a b : Bool) : (bif a then true else b) = (a || b) := by cases a <;> rfl
theorem rep_deep (d : Int) (o : SyntaxReport) : syntax_report_deep d o = some ⟨o.nodes, max o.depth d, o.badForm, o.badName, o.badNumber⟩ := rfl
theorem rep_form (b : Bool) (o : SyntaxReport) : syntax_report_form b o = some ⟨o.nodes, o.depth, o.badForm || !b, o.badName, o.badNumber⟩ := by unfold syntax_report_form; rw [bor]
theorem rep_number (b : Bool) (o : SyntaxReport) : syntax_report_number b o = some ⟨o.nodes, o.depth, o.badForm, o.badName, o.badNumber || !b⟩ := by unfold syntax_report_number; rw [bor]
theorem rep_inside (a b c : Int) : syntax_inside a b c = some (inside a b c) := rfl
theorem rep_name (s : Str) (hs : s.length ≤ BB) (o : SyntaxReport) : syntax_report_name s o = some ⟨o.nodes, o.depth, o.badForm, o.badName || !isName s, o.badNumber⟩ := by
  unfold syntax_report_name
  rw [IsName_eq s hs]
  cases h : o.badName <;> simp
theorem rep_code (o : SyntaxReport) : syntax_report_code o = some (repCode o.nodes o.depth o.badForm o.badName o.badNumber) := by
  unfold syntax_report_code repCode
  cases (bif decide (o.nodes > 1024) then true else decide (o.depth > 12)) <;> cases o.badForm <;> cases o.badName <;> cases o.badNumber <;> rfl

def repT (o : SyntaxReport) (d : Int) (n m : Nat) (f a u : Bool) : SyntaxReport := ⟨o.nodes + n, max o.depth (d + m), o.badForm || !f, o.badName || !a, o.badNumber || !u⟩

end Go.Proofs.YtmilgoloagbmpaaGreatDoor

set_option linter.unusedSimpArgs false
namespace Go.Proofs.YtmilgoloagbmpaaGreatDoor
open Go.Am

/-! ### the reference's CheckType -/
theorem rVerdict_eq (s : Keyholeref10Size) (f m u : Bool) : ref10_verdict s f m u = some (repCode s.nodes s.depth (!f) (!m) (!u)) := by
  unfold ref10_verdict repCode
  cases (bif decide (s.nodes > 1024) then true else decide (s.depth > 12)) <;> cases f <;> cases m <;> cases u <;> rfl
end Go.Proofs.YtmilgoloagbmpaaGreatDoor

set_option linter.unusedSimpArgs false
set_option linter.unusedVariables false
namespace Go.Proofs.YtmilgoloagbmpaaGreatDoor
open Go.Am

theorem ApiExpr.ind {P : ApiExpr → Prop} (h : ∀ t : ApiExpr, (∀ x ∈ t.Kids, P x) → P t) : ∀ t, P t := by
  intro t
  refine ApiExpr.rec (motive_1 := P) (motive_2 := fun l => ∀ x ∈ l, P x) ?_ ?_ ?_ t
  · intro k l n of ih
    exact h _ ih
  · intro x hx; cases hx
  · intro x r hx hr y hy
    cases hy with
    | head => exact hx
    | tail _ hy => exact hr y hy

mutual
def ApiExpr.depth : ApiExpr → Nat
  | .mk _ _ _ of => ApiExpr.depths of + 1
def ApiExpr.depths : List ApiExpr → Nat
  | [] => 0
  | t :: r => max (ApiExpr.depth t) (ApiExpr.depths r)
end
theorem ApiExpr.depth_eq (t : ApiExpr) : t.depth = ApiExpr.depths t.Kids + 1 := by cases t; simp [ApiExpr.depth, ApiExpr.Kids]
mutual
/-- every node meets p -/
def ApiExpr.all (p : ApiExpr → Bool) : ApiExpr → Bool
  | .mk k l n of => p (.mk k l n of) && ApiExpr.alls p of
def ApiExpr.alls (p : ApiExpr → Bool) : List ApiExpr → Bool
  | [] => true
  | t :: r => ApiExpr.all p t && ApiExpr.alls p r
end
theorem ApiExpr.all_eq (p : ApiExpr → Bool) (t : ApiExpr) : t.all p = (p t && ApiExpr.alls p t.Kids) := by cases t; rfl
mutual
def ApiExpr.nodes : ApiExpr → Nat
  | .mk _ _ _ of => ApiExpr.nodess of + 1
def ApiExpr.nodess : List ApiExpr → Nat
  | [] => 0
  | t :: r => ApiExpr.nodes t + ApiExpr.nodess r
end
theorem ApiExpr.nodes_eq (t : ApiExpr) : t.nodes = ApiExpr.nodess t.Kids + 1 := by cases t; rfl
mutual
theorem ApiExpr.depth_nodes : ∀ t : ApiExpr, t.depth ≤ t.nodes
  | .mk _ _ _ of => by simp only [ApiExpr.depth, ApiExpr.nodes]; have := ApiExpr.depths_nodess of; omega
theorem ApiExpr.depths_nodess : ∀ l : List ApiExpr, ApiExpr.depths l ≤ ApiExpr.nodess l
  | [] => Nat.le_refl _
  | t :: r => by simp only [ApiExpr.depths, ApiExpr.nodess]; have := ApiExpr.depth_nodes t; have := ApiExpr.depths_nodess r; omega
end

mutual
def ApiExpr.bulk : ApiExpr → Nat
  | .mk _ _ n ks => 1 + (1 + ((n.length + 1) + ((ApiExpr.bulks ks + 1) + 0))) + 1
def ApiExpr.bulks : List ApiExpr → Nat
  | [] => 0
  | x :: r => ApiExpr.bulk x + ApiExpr.bulks r
end
theorem ApiExpr.bulk_eq (t : ApiExpr) : t.bulk = t.Name.length + ApiExpr.bulks t.Kids + 5 := by cases t; simp only [ApiExpr.bulk]; omega
theorem ApiExpr.bulk_kid {t : ApiExpr} : ∀ {l : List ApiExpr}, t ∈ l → t.bulk ≤ ApiExpr.bulks l
  | x :: r, h => by
    simp only [ApiExpr.bulks]
    cases h with
    | head => omega
    | tail _ h => have := ApiExpr.bulk_kid h; omega
theorem ApiExpr.bulk_len : ∀ l : List ApiExpr, l.length ≤ ApiExpr.bulks l
  | [] => Nat.le_refl _
  | x :: r => by
    simp only [ApiExpr.bulks, List.length_cons]
    have := ApiExpr.bulk_len r
    have := ApiExpr.bulk_eq x
    omega
mutual
theorem ApiExpr.nodes_bulk : ∀ t : ApiExpr, t.nodes ≤ t.bulk
  | .mk _ _ _ of => by simp only [ApiExpr.nodes, ApiExpr.bulk]; have := ApiExpr.nodess_bulk of; omega
theorem ApiExpr.nodess_bulk : ∀ l : List ApiExpr, ApiExpr.nodess l ≤ ApiExpr.bulks l
  | [] => Nat.le_refl _
  | x :: r => by simp only [ApiExpr.nodess, ApiExpr.bulks]; have := ApiExpr.nodes_bulk x; have := ApiExpr.nodess_bulk r; omega
end
/-- an expression of bounded size -/
def OkE (t : ApiExpr) : Prop := t.bulk ≤ BB
theorem OkE.kid {t x : ApiExpr} (h : OkE t) (hx : x ∈ t.Kids) : OkE x := by
  unfold OkE at *
  have := ApiExpr.bulk_kid hx
  have := ApiExpr.bulk_eq t
  omega
theorem OkE.kids {t : ApiExpr} (h : OkE t) : t.Kids.length ≤ BB := by
  unfold OkE at *
  have := ApiExpr.bulk_len t.Kids
  have := ApiExpr.bulk_eq t
  omega
theorem OkE.name {t : ApiExpr} (h : OkE t) : t.Name.length ≤ BB := by
  unfold OkE at *
  have := ApiExpr.bulk_eq t
  omega
theorem OkE.nodes {t : ApiExpr} (h : OkE t) : t.nodes ≤ BB := Nat.le_trans (ApiExpr.nodes_bulk t) h
theorem ApiExpr.alls_mem {p : ApiExpr → Bool} : ∀ {l : List ApiExpr} {t : ApiExpr}, ApiExpr.alls p l = true → t ∈ l → t.all p = true
  | x :: r, t, h, hm => by
    simp only [ApiExpr.alls, Bool.and_eq_true] at h
    cases hm with
    | head => exact h.1
    | tail _ hm => exact ApiExpr.alls_mem h.2 hm

/-! ### what one node is asked -/
def ar (o : Int) : Int :=
  bif (bif (bif (bif (o == 0) then true else (o == 1)) then true else (o == 2)) then true else (o == 3)) then 0
  else bif (bif (bif (o == 4) then true else (o == 6)) then true else (o == 7)) then 1
  else bif (bif (o == 5) then true else (bif (decide (o ≥ 8)) then (decide (o ≤ 22)) else false)) then 2
  else bif (o == 23) then 3 else -1
theorem kids_eq (o : Int) : ref10_kids o = some (ar o) := by
  unfold ref10_kids ar
  cases (bif (bif (bif (o == 0) then true else (o == 1)) then true else (o == 2)) then true else (o == 3)) <;> cases (bif (bif (o == 4) then true else (o == 6)) then true else (o == 7)) <;>
    cases (bif (o == 5) then true else (bif (decide (o ≥ 8)) then (decide (o ≤ 22)) else false)) <;> cases o == 23 <;> rfl
theorem arity_eq (o : Int) : syntax_arity o = some (ar o) := by
  by_cases h : o = 23
  · subst h; rfl
  have h' : (o == 23) = false := beq_eq_false_iff_ne.2 h
  simp only [syntax_arity, syntax_arity_j1, syntax_arity_j2, ar, h']
  cases o == 0 <;> cases o == 1 <;> cases o == 2 <;> cases o == 3 <;> first | rfl | skip
  cases o == 4 <;> cases o == 6 <;> cases o == 7 <;> first | rfl | skip
  cases o == 5 <;> cases (bif decide (o ≥ 8) then decide (o ≤ 22) else false) <;> rfl

mutual
def ApiExpr.place : ApiExpr → Bool
  | .mk op _ _ ks => bif op == 3 then true else bif (bif op == 4 then true else op == 5) then ApiExpr.place1 ks else false
def ApiExpr.place1 : List ApiExpr → Bool
  | [] => false
  | x :: _ => ApiExpr.place x
end
theorem ApiExpr.place_eq (e : ApiExpr) : e.place = (bif e.Op == 3 then true else bif (bif e.Op == 4 then true else e.Op == 5) then ApiExpr.place1 e.Kids else false) := by cases e; simp only [ApiExpr.place]
theorem b3 {o : Int} (h : (bif o == 4 then true else o == 5) = true) : (o == 3) = false := by
  apply beq_eq_false_iff_ne.2
  rintro rfl
  cases h
theorem splace_eq (e : ApiExpr) : syntax_place e = some e.place := by
  unfold syntax_place
  induction e using ApiExpr.ind with
  | h e ih =>
  rw [syntax_place_l1, ApiExpr.place_eq]
  cases hb : (bif e.Op == 4 then true else e.Op == 5) with
  | false => cases e.Op == 3 <;> simp
  | true =>
    rw [b3 hb]
    cases hk : e.Kids with
    | nil => rfl
    | cons k r =>
      have := ih k (by rw [hk]; simp)
      have h0 : idx (k :: r) 0 = some k := rfl
      have h1 : (((k :: r).length : Int) == 0) = false := beq_eq_false_iff_ne.2 (by simp only [List.length_cons]; omega)
      simp only [h1, h0, ob, this, cond_true, cond_false, ApiExpr.place1]
      simp
theorem rplace_eq (e : ApiExpr) : ref10_isPlace e = some e.place := by
  induction e using ApiExpr.ind with
  | h e ih =>
  rw [ref10_isPlace, ApiExpr.place_eq]
  cases h3 : e.Op == 3 with
  | true => simp
  | false =>
    cases hb : (bif e.Op == 4 then true else e.Op == 5) with
    | false => simp [ob]
    | true =>
      cases hk : e.Kids with
      | nil => simp [ob, ApiExpr.place1]
      | cons k r =>
        have := ih k (by rw [hk]; simp)
        have h0 : idx (k :: r) 0 = some k := rfl
        have h1 : decide (((k :: r).length : Int) > 0) = true := decide_eq_true (by simp only [List.length_cons]; omega)
        simp only [h1, h0, ob, cond_true, cond_false, ApiExpr.place1]
        simp [ob, this]

def ef1 (e : ApiExpr) : Bool := ar e.Op == (e.Kids.length : Int)
def ef2 (e : ApiExpr) : Bool := bif e.NV == 0 then true else e.Op == 0
def ef3 (e : ApiExpr) : Bool := bif e.Name == [] then true else bif e.Op == 3 then true else e.Op == 4
def ef4 (e : ApiExpr) : Bool := bif (bif e.Op == 4 then true else e.Op == 5) then e.place else true
def eform (e : ApiExpr) : Bool := ef1 e && ef2 e && ef3 e && ef4 e
def ename (e : ApiExpr) : Bool := bif (bif e.Op == 3 then true else e.Op == 4) then isName e.Name else true
def enumb (e : ApiExpr) : Bool := bif e.Op == 0 then inside e.NV 0 1048576 else true
def checkE (e : ApiExpr) : Int := repCode e.nodes e.depth (!e.all eform) (!e.all ename) (!e.all enumb)

/-! ### the program's -/
theorem rexpr_l (e : ApiExpr) (d : Int) (hd : 0 ≤ d) (ht : OkE e)
    (ih : ∀ x ∈ e.Kids, ∀ (d : Int) (o : SyntaxReport), 0 ≤ d → d + x.nodes ≤ 4 * BB → 0 ≤ o.nodes → o.nodes + x.nodes ≤ 4 * BB → syntax_report_expr x d o = some (repT o d x.nodes (x.depth - 1) (x.all eform) (x.all ename) (x.all enumb))) :
    ∀ (r : List ApiExpr) (k : Nat) (o : SyntaxReport), e.Kids.drop k = r → d + 1 + ApiExpr.nodess r ≤ 4 * BB → 0 ≤ o.nodes → o.nodes + ApiExpr.nodess r ≤ 4 * BB → d ≤ o.depth →
      syntax_report_expr_l4 e d o k = some (repT o d (ApiExpr.nodess r) (ApiExpr.depths r) (ApiExpr.alls eform r) (ApiExpr.alls ename r) (ApiExpr.alls enumb r))
  | [], k, o, h, _, _, _, h5 => by
    rw [syntax_report_expr_l4, (lp_out h).1]
    simp only [repT, ApiExpr.nodess, ApiExpr.depths, ApiExpr.alls, Bool.not_true, Bool.or_false]
    rw [if_neg (by simp), show o.nodes + ((0 : Nat) : Int) = o.nodes by omega, show max o.depth (d + ((0 : Nat) : Int)) = o.depth by omega]
  | x :: r, k, o, h, hb, h3, h4, h5 => by
    obtain ⟨e1, e2, e3, e4, e5⟩ := lp_in h
    simp only [ApiExpr.nodess] at hb h4
    have hdp : 1 ≤ x.depth := by rw [ApiExpr.depth_eq]; omega
    have hof := ht.kids
    unfold BB at hb h4 hof
    rw [syntax_report_expr_l4, e1, if_pos rfl, e2, ob, wr (n := d + 1) (by omega) (by omega), ih x e5 (d + 1) o (by omega) (by unfold BB; omega) h3 (by unfold BB; omega), ob, w1 (by unfold BB; omega),
      rexpr_l e d hd ht ih r (k + 1) _ e3 (by unfold BB; omega) (by simp only [repT]; omega) (by simp only [repT]; unfold BB; omega) (by simp only [repT]; omega)]
    simp only [repT, ApiExpr.nodess, ApiExpr.depths, ApiExpr.alls, or_not]
    rw [show o.nodes + (x.nodes : Int) + (ApiExpr.nodess r : Nat) = o.nodes + ((x.nodes + ApiExpr.nodess r : Nat) : Int) by omega,
      show max (max o.depth (d + 1 + ((x.depth - 1 : Nat) : Int))) (d + (ApiExpr.depths r : Nat)) = max o.depth (d + ((max x.depth (ApiExpr.depths r) : Nat) : Int)) by omega]
theorem rexpr_j1 (e : ApiExpr) (ht : OkE e) (d : Int) (o : SyntaxReport) : syntax_report_expr_j1 e d o = syntax_report_expr_l4 e d ⟨o.nodes, o.depth, o.badForm, o.badName || !ename e, o.badNumber || !enumb e⟩ 0 := by
  rw [syntax_report_expr_j1, rep_name _ ht.name, ob]
  simp only [syntax_report_expr_j2, syntax_report_expr_j3, rep_inside, rep_number, ob]
  unfold ename enumb
  cases (bif e.Op == 3 then true else e.Op == 4) <;> cases e.Op == 0 <;> simp

theorem rexpr_eq (e : ApiExpr) : OkE e → ∀ (d : Int) (o : SyntaxReport), 0 ≤ d → d + e.nodes ≤ 4 * BB → 0 ≤ o.nodes → o.nodes + e.nodes ≤ 4 * BB →
    syntax_report_expr e d o = some (repT o d e.nodes (e.depth - 1) (e.all eform) (e.all ename) (e.all enumb)) := by
  induction e using ApiExpr.ind with
  | h e ih =>
  intro ht d o hd hb h3 h4
  have h5 := fun o h3 h4 hd' => rexpr_l e d hd ht (fun x hx => ih x hx (ht.kid hx)) e.Kids 0 o rfl (by rw [ApiExpr.nodes_eq] at hb; omega) h3 h4 hd'
  rw [ApiExpr.nodes_eq] at hb h4
  unfold BB at hb h4
  rw [syntax_report_expr]
  simp only [rep_deep, rep_form, arity_eq, splace_eq, ob, rexpr_j1 e ht]
  rw [wr (n := o.nodes + 1) (by omega) (by omega)]
  rw [show ((0 : Nat) : Int) = 0 from rfl] at h5
  have fin : ∀ f : Bool, ef4 e = f → syntax_report_expr_l4 e d ⟨o.nodes + 1, max o.depth d, (((o.badForm || !ef1 e) || !ef2 e) || !ef3 e) || !f, o.badName || !ename e, o.badNumber || !enumb e⟩ 0 = some (repT o d e.nodes (e.depth - 1) (e.all eform) (e.all ename) (e.all enumb)) := by
    rintro _ rfl
    rw [h5 _ (by simp only; omega) (by simp only; unfold BB; omega) (by simp only; omega)]
    simp only [repT, ApiExpr.all_eq, ApiExpr.nodes_eq, ApiExpr.depth_eq, eform, or_not, Bool.or_assoc, ← Bool.not_and]
    simp only [or_not, Bool.and_assoc]
    rw [show o.nodes + 1 + (ApiExpr.nodess e.Kids : Int) = o.nodes + ((ApiExpr.nodess e.Kids + 1 : Nat) : Int) by omega, show max (max o.depth d) (d + (ApiExpr.depths e.Kids : Int)) = max o.depth (d + ((ApiExpr.depths e.Kids + 1 - 1 : Nat) : Int)) by omega]
  cases hb : (bif e.Op == 4 then true else e.Op == 5) with
  | true =>
    rw [if_pos rfl]
    exact fin e.place (by unfold ef4; rw [hb]; rfl)
  | false =>
    rw [if_neg (by simp)]
    have := fin true (by unfold ef4; rw [hb]; rfl)
    rw [Bool.not_true, Bool.or_false] at this
    exact this
theorem CheckExpr_eq (e : ApiExpr) (ht : OkE e) : syntax_CheckExpr e = some (checkE e) := by
  have hn := ht.nodes
  unfold BB at hn
  have hp : 1 ≤ e.depth := by rw [ApiExpr.depth_eq]; omega
  unfold syntax_CheckExpr
  rw [rexpr_eq e ht 1 _ (by omega) (by unfold BB; omega) (by simp) (by simp only; unfold BB; omega), ob, rep_code, ob]
  unfold repT checkE
  simp only [Bool.false_or]
  rw [show (0 : Int) + (e.nodes : Int) = e.nodes by omega, show max 0 ((1 : Int) + ((e.depth - 1 : Nat) : Int)) = e.depth by omega]
end Go.Proofs.YtmilgoloagbmpaaGreatDoor

set_option linter.unusedSimpArgs false
set_option linter.unusedVariables false
namespace Go.Proofs.YtmilgoloagbmpaaGreatDoor
open Go.Am

theorem reNodes_l (t : ApiExpr) (ht : OkE t) (ih : ∀ x ∈ t.Kids, ref10_exprNodes x = some (x.nodes : Int)) :
    ∀ (r : List ApiExpr) (k : Nat) (n : Nat), t.Kids.drop k = r → n + ApiExpr.nodess r ≤ BB → ref10_exprNodes_l1 t (n : Int) k = some ((n + ApiExpr.nodess r : Nat) : Int)
  | [], k, n, h, hb => by rw [ref10_exprNodes_l1, (lp_out h).1, if_neg (by simp)]; simp [ApiExpr.nodess]
  | x :: r, k, n, h, hb => by
    obtain ⟨e1, e2, e3, e4, e5⟩ := lp_in h
    have := ht.kids
    simp only [ApiExpr.nodess] at hb
    have hb' := hb
    unfold BB at hb'
    rw [ref10_exprNodes_l1, e1, if_pos rfl, e2, ob, ih x e5, ob, wr (n := (n : Int) + _) (by omega) (by omega), w1 (by omega), show (n : Int) + (x.nodes : Int) = ((n + x.nodes : Nat) : Int) by omega, reNodes_l t ht ih r (k + 1) _ e3 (by omega)]
    simp only [ApiExpr.nodess, Nat.add_assoc]
theorem reNodes_eq (t : ApiExpr) : OkE t → ref10_exprNodes t = some (t.nodes : Int) := by
  induction t using ApiExpr.ind with
  | h t ih =>
  intro ht
  have hn := ht.nodes
  rw [ApiExpr.nodes_eq] at hn
  rw [ref10_exprNodes]
  have := reNodes_l t ht (fun x hx => ih x hx (ht.kid hx)) t.Kids 0 1 rfl (by omega)
  rw [ApiExpr.nodes_eq, Nat.add_comm]
  exact this
theorem reDepth_l (t : ApiExpr) (ht : OkE t) (ih : ∀ x ∈ t.Kids, ref10_exprDepth x = some (x.depth : Int)) (B : Nat) (hB : B ≤ BB) :
    ∀ (r : List ApiExpr) (k : Nat) (n : Nat), t.Kids.drop k = r → n ≤ B → ApiExpr.depths r ≤ B → ref10_exprDepth_l1 t (n : Int) k = some ((max n (ApiExpr.depths r) + 1 : Nat) : Int)
  | [], k, n, h, hb, _ => by
    rw [ref10_exprDepth_l1, (lp_out h).1, if_neg (by simp), w1 (by omega)]
    simp [ApiExpr.depths]
  | x :: r, k, n, h, hb, hd => by
    obtain ⟨e1, e2, e3, e4, e5⟩ := lp_in h
    have := ht.kids
    simp only [ApiExpr.depths] at hd
    rw [ref10_exprDepth_l1, e1, if_pos rfl, e2, ob, ih x e5, ob, w1 (by omega), reDepth_l t ht ih B hB r (k + 1) _ e3 (by omega) (by omega), reDepth_l t ht ih B hB r (k + 1) _ e3 (by omega) (by omega)]
    simp only [ApiExpr.depths]
    by_cases hx : (x.depth : Int) > (n : Int)
    · rw [if_pos (decide_eq_true hx), show max n (max x.depth (ApiExpr.depths r)) = max x.depth (ApiExpr.depths r) by omega]
    · rw [if_neg (by simpa using hx), show max n (max x.depth (ApiExpr.depths r)) = max n (ApiExpr.depths r) by omega]
theorem reDepth_eq (t : ApiExpr) : OkE t → ref10_exprDepth t = some (t.depth : Int) := by
  induction t using ApiExpr.ind with
  | h t ih =>
  intro ht
  have hn := ht.nodes
  have hd := ApiExpr.depth_nodes t
  rw [ref10_exprDepth]
  rw [ApiExpr.depth_eq] at hd
  have := reDepth_l t ht (fun x hx => ih x hx (ht.kid hx)) BB (Nat.le_refl _) t.Kids 0 0 rfl (by omega) (by omega)
  rw [ApiExpr.depth_eq]
  rw [show max 0 (ApiExpr.depths t.Kids) = ApiExpr.depths t.Kids by omega] at this
  exact this

theorem deeper_eq (n : Int) (d : Int) (m : Int) : ref10_size_deeper ⟨n, d⟩ m = some ⟨n, max d m⟩ := by
  unfold ref10_size_deeper
  by_cases h : m > d
  · rw [if_pos (decide_eq_true h), show max d m = m by omega]
  · rw [if_neg (by simpa using h), show max d m = d by omega]

theorem reForm_l (e : ApiExpr) (ht : OkE e) (ih : ∀ x ∈ e.Kids, ref10_exprForm x = some (x.all eform)) : ∀ (r : List ApiExpr) (k : Nat), e.Kids.drop k = r → ref10_exprForm_l1 e k = some (ApiExpr.alls eform r)
  | [], k, h => by rw [ref10_exprForm_l1, (lp_out h).1, if_neg (by simp)]; rfl
  | x :: r, k, h => by
    obtain ⟨e1, e2, e3, e4, e5⟩ := lp_in h
    have := ht.kids
    rw [ref10_exprForm_l1, e1, if_pos rfl, e2, ob, ih x e5, ob, w1 (by omega), reForm_l e ht ih r (k + 1) e3, ApiExpr.alls]
    cases x.all eform <;> simp
theorem reForm_eq (e : ApiExpr) : OkE e → ref10_exprForm e = some (e.all eform) := by
  induction e using ApiExpr.ind with
  | h e ih =>
  intro ht
  have h1 := reForm_l e ht (fun x hx => ih x hx (ht.kid hx)) e.Kids 0 rfl
  rw [show ((0 : Nat) : Int) = 0 from rfl] at h1
  rw [ref10_exprForm, h1, ApiExpr.all_eq, rplace_eq, kids_eq, ob]
  generalize ApiExpr.alls eform e.Kids = A
  have hb : (bif (bif (ar e.Op != (e.Kids.length : Int)) then true else (bif (e.Op != 0) then (e.NV != 0) else false)) then true else (bif (bif (e.Op != 3) then (e.Op != 4) else false) then (!(e.Name == [])) else false)) = !(ef1 e && ef2 e && ef3 e) := by
    unfold ef1 ef2 ef3
    simp only [bne]
    cases ar e.Op == (e.Kids.length : Int) <;> cases e.NV == 0 <;> cases e.Op == 0 <;> cases e.Name == [] <;> cases e.Op == 3 <;> cases e.Op == 4 <;> rfl
  rw [hb]
  unfold eform ef4
  cases (ef1 e && ef2 e && ef3 e) <;> cases (bif e.Op == 4 then true else e.Op == 5) <;> cases e.place <;> simp [ob]
theorem reNames_l (e : ApiExpr) (ht : OkE e) (ih : ∀ x ∈ e.Kids, ref10_exprNames x = some (x.all ename)) : ∀ (r : List ApiExpr) (k : Nat), e.Kids.drop k = r → ref10_exprNames_l1 e k = some (ApiExpr.alls ename r)
  | [], k, h => by rw [ref10_exprNames_l1, (lp_out h).1, if_neg (by simp)]; rfl
  | x :: r, k, h => by
    obtain ⟨e1, e2, e3, e4, e5⟩ := lp_in h
    have := ht.kids
    rw [ref10_exprNames_l1, e1, if_pos rfl, e2, ob, ih x e5, ob, w1 (by omega), reNames_l e ht ih r (k + 1) e3, ApiExpr.alls]
    cases x.all ename <;> simp
theorem reNames_eq (e : ApiExpr) : OkE e → ref10_exprNames e = some (e.all ename) := by
  induction e using ApiExpr.ind with
  | h e ih =>
  intro ht
  have h1 := reNames_l e ht (fun x hx => ih x hx (ht.kid hx)) e.Kids 0 rfl
  rw [show ((0 : Nat) : Int) = 0 from rfl] at h1
  rw [ref10_exprNames, h1, ApiExpr.all_eq, refIsName_eq e.Name ht.name]
  generalize ApiExpr.alls ename e.Kids = A
  unfold ename
  cases (bif e.Op == 3 then true else e.Op == 4) <;> cases isName e.Name <;> simp [ob]
theorem reNumbers_l (e : ApiExpr) (ht : OkE e) (ih : ∀ x ∈ e.Kids, ref10_exprNumbers x = some (x.all enumb)) : ∀ (r : List ApiExpr) (k : Nat), e.Kids.drop k = r → ref10_exprNumbers_l1 e k = some (ApiExpr.alls enumb r)
  | [], k, h => by rw [ref10_exprNumbers_l1, (lp_out h).1, if_neg (by simp)]; rfl
  | x :: r, k, h => by
    obtain ⟨e1, e2, e3, e4, e5⟩ := lp_in h
    have := ht.kids
    rw [ref10_exprNumbers_l1, e1, if_pos rfl, e2, ob, ih x e5, ob, w1 (by omega), reNumbers_l e ht ih r (k + 1) e3, ApiExpr.alls]
    cases x.all enumb <;> simp
theorem reNumbers_eq (e : ApiExpr) : OkE e → ref10_exprNumbers e = some (e.all enumb) := by
  induction e using ApiExpr.ind with
  | h e ih =>
  intro ht
  have h1 := reNumbers_l e ht (fun x hx => ih x hx (ht.kid hx)) e.Kids 0 rfl
  rw [show ((0 : Nat) : Int) = 0 from rfl] at h1
  rw [ref10_exprNumbers, h1, ApiExpr.all_eq]
  have : enumb e = !(bif (e.Op == 0) then (bif (decide (e.NV < 0)) then true else (decide (e.NV > 1048576))) else false) := by
    unfold enumb inside
    rw [lt_ge, gt_le]
    cases e.Op == 0 <;> cases decide (e.NV ≥ 0) <;> cases decide (e.NV ≤ 1048576) <;> rfl
  rw [this]
  cases (bif (e.Op == 0) then (bif (decide (e.NV < 0)) then true else (decide (e.NV > 1048576))) else false) <;> simp
theorem reAdd_used (s : Keyholeref10Size) (e : ApiExpr) (ht : OkE e) (h : -4 * (BB : Int) ≤ s.nodes ∧ s.nodes ≤ 4 * BB) : ref10_addExpr s e true = some ⟨s.nodes + e.nodes, max s.depth e.depth⟩ := by
  have hn := ht.nodes
  unfold BB at hn h
  unfold ref10_addExpr
  rw [reNodes_eq e ht, reDepth_eq e ht]
  simp only [Bool.not_true, cond_false, ob, deeper_eq]
  rw [if_neg (by simp), ob, if_neg (by simp), wr (n := s.nodes + (e.nodes : Int)) (by omega) (by omega)]
theorem rCheckExpr_eq (e : ApiExpr) (ht : OkE e) : ref10_CheckExpr e = some (checkE e) := by
  have hp : 1 ≤ e.depth := by rw [ApiExpr.depth_eq]; omega
  unfold ref10_CheckExpr checkE
  rw [reAdd_used _ e ht (by simp only; unfold BB; omega), reForm_eq e ht, reNames_eq e ht, reNumbers_eq e ht]
  simp only [ob, rVerdict_eq]
  rw [show (0 : Int) + (e.nodes : Int) = e.nodes by omega, show max (0 : Int) (e.depth : Int) = e.depth by omega]

/-! ### few -/
theorem eleft_l (e : ApiExpr) (ht : OkE e) (ih : ∀ x ∈ e.Kids, ∀ n, ∃ m, ref10_exprLeft x n = some m) : ∀ (r : List ApiExpr) (k : Nat) (n : Int), e.Kids.drop k = r → ∃ m, ref10_exprLeft_l1 e n k = some m
  | [], k, n, h => by rw [ref10_exprLeft_l1, (lp_out h).1]; exact ⟨_, rfl⟩
  | x :: r, k, n, h => by
    obtain ⟨e1, e2, e3, e4, e5⟩ := lp_in h
    have := ht.kids
    rw [ref10_exprLeft_l1, e1, e2]
    cases decide (n ≥ 0) with
    | false => exact ⟨_, rfl⟩
    | true =>
      obtain ⟨m, hm⟩ := ih x e5 n
      rw [cond_true, if_pos rfl, ob, hm, ob, w1 (by omega)]
      exact eleft_l e ht ih r (k + 1) m e3
theorem eleft_some (e : ApiExpr) : OkE e → ∀ n, ∃ m, ref10_exprLeft e n = some m := by
  induction e using ApiExpr.ind with
  | h e ih =>
  intro ht n
  rw [ref10_exprLeft]
  exact eleft_l e ht (fun x hx => ih x hx (ht.kid hx)) e.Kids 0 _ rfl
theorem fewE_some (e : ApiExpr) (ht : OkE e) (n : Int) : ∃ b, ref10_FewExpr e n = some b := by
  obtain ⟨m, hm⟩ := eleft_some e ht n
  unfold ref10_FewExpr
  rw [hm]
  exact ⟨_, rfl⟩
end Go.Proofs.YtmilgoloagbmpaaGreatDoor

set_option linter.unusedSimpArgs false
set_option linter.unusedVariables false
namespace Go.Proofs.YtmilgoloagbmpaaGreatDoor
open Go.Am

/-! ### numbers -/
def SmallI (n : Int) : Prop := -1099511627776 ≤ n ∧ n ≤ 1099511627776
theorem num_len {n : Int} (h : SmallI n) : (Lib.itoa n).length ≤ 19 := itoa_len (by unfold SmallI at h; omega)
theorem itoa_eq {n : Int} (h : SmallI n) : X_Itoa n = some (Lib.itoa n) := by
  unfold X_Itoa
  rw [if_pos (decide_eq_true (by unfold SmallI at h; omega))]
/-! ### what is written -/
def LL : Nat := 70368744177664
theorem ws {s b : Str} (h : b.length + s.length ≤ LL) : X_WriteString_SyntaxPrinter s b = some ((s.length : Int), b ++ s) := by
  unfold X_WriteString_SyntaxPrinter
  rw [if_pos (decide_eq_true (by unfold LL at h; omega))]
theorem fit {n : Nat} {α : Type} {x : Option α} (h : n ≤ LL) : (if decide (n ≤ maxLen) = true then x else none) = x := by
  rw [if_pos (decide_eq_true (by unfold LL at h; unfold maxLen; omega))]

/-! ### operators -/
def lv (o : Int) : Int :=
  bif o == 23 then 0 else bif o == 20 then 1 else bif o == 19 then 2 else bif (bif decide (o ≥ 13) then decide (o ≤ 18) else false) then 3
  else bif (bif o == 8 then true else o == 9) then 4 else bif (bif (bif o == 10 then true else o == 11) then true else o == 12) then 5 else bif (bif o == 6 then true else o == 7) then 6 else 7
theorem op_cases (o : Int) : (o < 0 ∨ 23 < o) ∨ o = 0 ∨ o = 1 ∨ o = 2 ∨ o = 3 ∨ o = 4 ∨ o = 5 ∨ o = 6 ∨ o = 7 ∨ o = 8 ∨ o = 9 ∨ o = 10 ∨ o = 11 ∨ o = 12 ∨ o = 13 ∨ o = 14 ∨ o = 15 ∨ o = 16 ∨ o = 17 ∨ o = 18 ∨ o = 19 ∨ o = 20 ∨ o = 21 ∨ o = 22 ∨ o = 23 := by omega
theorem far {o k : Int} (h : o < 0 ∨ 23 < o) (hk : 0 ≤ k ∧ k ≤ 23) : (o == k) = false := beq_eq_false_iff_ne.2 (by omega)
theorem slevel_eq (o : Int) : syntax_level o = some (lv o) := by
  rcases op_cases o with h | rfl | rfl | rfl | rfl | rfl | rfl | rfl | rfl | rfl | rfl | rfl | rfl | rfl | rfl | rfl | rfl | rfl | rfl | rfl | rfl | rfl | rfl | rfl | rfl
  · have hr : (bif decide (o ≥ 13) then decide (o ≤ 18) else false) = false := by
      rcases h with h | h
      · rw [decide_eq_false (by omega)]; rfl
      · rw [decide_eq_false (show ¬ o ≤ 18 by omega)]; cases decide (o ≥ 13) <;> rfl
    have f := fun k hk => far (k := k) h hk
    simp only [syntax_level, syntax_level_j1, syntax_level_j2, syntax_level_j3, lv, hr, f 23 (by decide), f 20 (by decide), f 19 (by decide), f 13 (by decide), f 14 (by decide), f 15 (by decide), f 16 (by decide), f 17 (by decide), f 18 (by decide),
      f 8 (by decide), f 9 (by decide), f 10 (by decide), f 11 (by decide), f 12 (by decide), f 6 (by decide), f 7 (by decide)]
    rfl
  all_goals rfl
def sign (o : Int) : Str := tab_signs.getD (o - 8).toNat []
theorem bin_cases {o : Int} (h : 8 ≤ o) (h' : o ≤ 20) : o = 8 ∨ o = 9 ∨ o = 10 ∨ o = 11 ∨ o = 12 ∨ o = 13 ∨ o = 14 ∨ o = 15 ∨ o = 16 ∨ o = 17 ∨ o = 18 ∨ o = 19 ∨ o = 20 := by omega
theorem sign_eq {o : Int} (h : 8 ≤ o) (h' : o ≤ 20) : idx tab_signs (IntKind.i64.wrap (o - 8)) = some (sign o) ∧ ref10_sign o = some (sign o) ∧ (sign o).length ≤ 2 := by
  rcases bin_cases h h' with rfl | rfl | rfl | rfl | rfl | rfl | rfl | rfl | rfl | rfl | rfl | rfl | rfl
  all_goals exact ⟨rfl, rfl, by decide⟩

/-! ### texts -/
def par (req : Int) (p : Int × Str) : Str := bif decide (lv p.1 ≥ req) then p.2 else [40] ++ p.2 ++ [41]
def etx (op n : Int) (nm : Str) (ks : List (Int × Str)) : Str :=
  let k := fun i => ks.getD i (0, [])
  bif op == 0 then Lib.itoa n else bif op == 1 then [116, 114, 117, 101] else bif op == 2 then [102, 97, 108, 115, 101] else bif op == 3 then nm
  else bif op == 4 then (k 0).2 ++ ([46] ++ nm) else bif op == 5 then (k 0).2 ++ [91] ++ (k 1).2 ++ [93] else bif op == 6 then [45] ++ par 6 (k 0) else bif op == 7 then [33] ++ par 6 (k 0)
  else bif op == 21 then [109, 105, 110, 40] ++ (k 0).2 ++ [44, 32] ++ (k 1).2 ++ [41] else bif op == 22 then [109, 97, 120, 40] ++ (k 0).2 ++ [44, 32] ++ (k 1).2 ++ [41]
  else bif op == 23 then par 1 (k 0) ++ [32, 63, 32] ++ (k 1).2 ++ [32, 58, 32] ++ (k 2).2
  else par (bif lv op == 3 then 4 else lv op) (k 0) ++ ([32] ++ sign op ++ [32]) ++ par (lv op + 1) (k 1)
mutual
def ApiExpr.text : ApiExpr → Str
  | .mk op n nm ks => etx op n nm (ApiExpr.texts ks)
def ApiExpr.texts : List ApiExpr → List (Int × Str)
  | [] => []
  | x :: r => (x.Op, ApiExpr.text x) :: ApiExpr.texts r
end

theorem len2 {α : Type} {l : List α} (h : l.length = 2) : ∃ a b, l = [a, b] := by
  match l, h with
  | [a, b], _ => exact ⟨a, b, rfl⟩
theorem len3 {α : Type} {l : List α} (h : l.length = 3) : ∃ a b c, l = [a, b, c] := by
  match l, h with
  | [a, b, c], _ => exact ⟨a, b, c, rfl⟩

/-- the shapes of well-formed expressions -/
inductive Shape : ApiExpr → Prop
  | lit (n) : Shape (.mk 0 n [] [])
  | tt : Shape (.mk 1 0 [] [])
  | ff : Shape (.mk 2 0 [] [])
  | name (nm) : Shape (.mk 3 0 nm [])
  | field (nm k) : Shape (.mk 4 0 nm [k])
  | index (a b) : Shape (.mk 5 0 [] [a, b])
  | neg (k) : Shape (.mk 6 0 [] [k])
  | not (k) : Shape (.mk 7 0 [] [k])
  | bin (o a b) (h : 8 ≤ o) (h' : o ≤ 20) : Shape (.mk o 0 [] [a, b])
  | min (a b) : Shape (.mk 21 0 [] [a, b])
  | max (a b) : Shape (.mk 22 0 [] [a, b])
  | cond (a b c) : Shape (.mk 23 0 [] [a, b, c])

theorem shape_of (e : ApiExpr) (h : eform e = true) : Shape e := by
  obtain ⟨op, n, nm, ks⟩ := e
  unfold eform at h
  simp only [Bool.and_eq_true] at h
  obtain ⟨⟨⟨h1, h2⟩, h3⟩, _⟩ := h
  have e1 : ar op = (ks.length : Int) := by simpa [ef1] using h1
  have e2 : op ≠ 0 → n = 0 := fun hne => by
    have := beq_eq_false_iff_ne.2 hne
    simp only [ef2, this] at h2
    cases hn : n == 0 with
    | true => simpa using hn
    | false => rw [hn] at h2; cases h2
  have e3 : op ≠ 3 → op ≠ 4 → nm = [] := fun hne hne' => by
    have := beq_eq_false_iff_ne.2 hne
    have h4 := beq_eq_false_iff_ne.2 hne'
    simp only [ef3, this, h4] at h3
    cases hn : nm == [] with
    | true => simpa using hn
    | false => rw [hn] at h3; cases h3
  rcases op_cases op with h | h
  · have : ar op = -1 := by
      have f := fun k hk => far (k := k) h hk
      have hr : (bif decide (op ≥ 8) then decide (op ≤ 22) else false) = false := by
        rcases h with h | h
        · rw [decide_eq_false (by omega)]; rfl
        · rw [decide_eq_false (show ¬ op ≤ 22 by omega)]; cases decide (op ≥ 8) <;> rfl
      unfold ar
      rw [hr, f 0 (by decide), f 1 (by decide), f 2 (by decide), f 3 (by decide), f 4 (by decide), f 6 (by decide), f 7 (by decide), f 5 (by decide), f 23 (by decide)]
      rfl
    omega
  by_cases hb : 8 ≤ op ∧ op ≤ 20
  · have e4 : ar op = 2 := by rcases bin_cases hb.1 hb.2 with rfl | rfl | rfl | rfl | rfl | rfl | rfl | rfl | rfl | rfl | rfl | rfl | rfl <;> rfl
    obtain ⟨a, b, rfl⟩ := len2 (l := ks) (by omega)
    obtain rfl := e2 (by omega)
    obtain rfl := e3 (by omega) (by omega)
    exact .bin _ _ _ hb.1 hb.2
  have hc : op = 0 ∨ op = 1 ∨ op = 2 ∨ op = 3 ∨ op = 4 ∨ op = 5 ∨ op = 6 ∨ op = 7 ∨ op = 21 ∨ op = 22 ∨ op = 23 := by omega
  rcases hc with rfl | rfl | rfl | rfl | rfl | rfl | rfl | rfl | rfl | rfl | rfl
  · obtain rfl := List.eq_nil_of_length_eq_zero (l := ks) (by have : ar 0 = 0 := rfl; omega)
    obtain rfl := e3 (by decide) (by decide)
    exact .lit n
  · obtain rfl := List.eq_nil_of_length_eq_zero (l := ks) (by have : ar 1 = 0 := rfl; omega)
    obtain rfl := e3 (by decide) (by decide)
    obtain rfl := e2 (by decide)
    exact .tt
  · obtain rfl := List.eq_nil_of_length_eq_zero (l := ks) (by have : ar 2 = 0 := rfl; omega)
    obtain rfl := e3 (by decide) (by decide)
    obtain rfl := e2 (by decide)
    exact .ff
  · obtain rfl := List.eq_nil_of_length_eq_zero (l := ks) (by have : ar 3 = 0 := rfl; omega)
    obtain rfl := e2 (by decide)
    exact .name nm
  · obtain ⟨k, rfl⟩ := List.length_eq_one_iff.1 (show ks.length = 1 by have : ar 4 = 1 := rfl; omega)
    obtain rfl := e2 (by decide)
    exact .field nm k
  · obtain ⟨a, b, rfl⟩ := len2 (l := ks) (by have : ar 5 = 2 := rfl; omega)
    obtain rfl := e3 (by decide) (by decide)
    obtain rfl := e2 (by decide)
    exact .index a b
  · obtain ⟨k, rfl⟩ := List.length_eq_one_iff.1 (show ks.length = 1 by have : ar 6 = 1 := rfl; omega)
    obtain rfl := e3 (by decide) (by decide)
    obtain rfl := e2 (by decide)
    exact .neg k
  · obtain ⟨k, rfl⟩ := List.length_eq_one_iff.1 (show ks.length = 1 by have : ar 7 = 1 := rfl; omega)
    obtain rfl := e3 (by decide) (by decide)
    obtain rfl := e2 (by decide)
    exact .not k
  · obtain ⟨a, b, rfl⟩ := len2 (l := ks) (by have : ar 21 = 2 := rfl; omega)
    obtain rfl := e3 (by decide) (by decide)
    obtain rfl := e2 (by decide)
    exact .min a b
  · obtain ⟨a, b, rfl⟩ := len2 (l := ks) (by have : ar 22 = 2 := rfl; omega)
    obtain rfl := e3 (by decide) (by decide)
    obtain rfl := e2 (by decide)
    exact .max a b
  · obtain ⟨a, b, c, rfl⟩ := len3 (l := ks) (by have : ar 23 = 3 := rfl; omega)
    obtain rfl := e3 (by decide) (by decide)
    obtain rfl := e2 (by decide)
    exact .cond a b c

/-- what is asked of expressions that are written -/
structure FineE (e : ApiExpr) : Prop where
  form : e.all eform = true
  numb : e.all enumb = true
  ok : OkE e
theorem FineE.kid {e k : ApiExpr} (h : FineE e) (hk : k ∈ e.Kids) : FineE k := by
  have h1 := h.form
  have h2 := h.numb
  rw [ApiExpr.all_eq, Bool.and_eq_true] at h1 h2
  exact ⟨ApiExpr.alls_mem h1.2 hk, ApiExpr.alls_mem h2.2 hk, h.ok.kid hk⟩
theorem FineE.shape {e : ApiExpr} (h : FineE e) : Shape e := by
  have h1 := h.form
  rw [ApiExpr.all_eq, Bool.and_eq_true] at h1
  exact shape_of e h1.1
theorem FineE.small {n : Int} (h : FineE (.mk 0 n [] [])) : SmallI n := by
  have h2 := h.numb
  rw [ApiExpr.all_eq, Bool.and_eq_true] at h2
  have h3 := h2.1
  unfold enumb inside at h3
  simp at h3
  unfold SmallI
  omega
theorem fineE_of {e : ApiExpr} (ht : OkE e) (h : checkE e = 0) : FineE e := by
  unfold checkE repCode at h
  cases hb : (bif decide ((e.nodes : Int) > 1024) then true else decide ((e.depth : Int) > 12)) <;> rw [hb] at h
  · cases hf : e.all eform <;> rw [hf] at h
    · cases h
    · cases hn : e.all ename <;> rw [hn] at h
      · cases h
      · cases hu : e.all enumb <;> rw [hu] at h
        · cases h
        · exact ⟨hf, hu, ht⟩
  · cases h

theorem par_len (r : Int) (p : Int × Str) : (par r p).length ≤ p.2.length + 2 := by
  unfold par
  cases decide (lv p.1 ≥ r) <;> simp <;> omega
theorem bin_text {o : Int} (a b : ApiExpr) (h : 8 ≤ o) (h' : o ≤ 20) : (ApiExpr.mk o 0 [] [a, b]).text = par (bif lv o == 3 then 4 else lv o) (a.Op, a.text) ++ ([32] ++ sign o ++ [32]) ++ par (lv o + 1) (b.Op, b.text) := by
  rcases bin_cases h h' with rfl | rfl | rfl | rfl | rfl | rfl | rfl | rfl | rfl | rfl | rfl | rfl | rfl
  all_goals rfl
theorem text_len (e : ApiExpr) : FineE e → e.text.length ≤ 40 * e.bulk := by
  induction e using ApiExpr.ind with
  | h e ih =>
  intro hf
  have ih' := fun k hk => ih k hk (hf.kid hk)
  cases hf.shape with
  | lit n =>
    have := num_len hf.small
    show (Lib.itoa n).length ≤ _
    simp only [ApiExpr.bulk, ApiExpr.bulks]; omega
  | tt => decide
  | ff => decide
  | name nm => show nm.length ≤ _; simp only [ApiExpr.bulk, ApiExpr.bulks]; omega
  | field nm k =>
    have := ih' k (by simp)
    show (k.text ++ ([46] ++ nm)).length ≤ _
    simp only [ApiExpr.bulk, ApiExpr.bulks, List.length_append, List.length_cons, List.length_nil]; omega
  | index a b =>
    have := ih' a (by simp); have := ih' b (by simp)
    show (a.text ++ [91] ++ b.text ++ [93]).length ≤ _
    simp only [ApiExpr.bulk, ApiExpr.bulks, List.length_append, List.length_cons, List.length_nil]; omega
  | neg k =>
    have := ih' k (by simp); have := par_len 6 (k.Op, k.text)
    show ([45] ++ par 6 (k.Op, k.text)).length ≤ _
    simp only [ApiExpr.bulk, ApiExpr.bulks, List.length_append, List.length_cons, List.length_nil] at *; omega
  | not k =>
    have := ih' k (by simp); have := par_len 6 (k.Op, k.text)
    show ([33] ++ par 6 (k.Op, k.text)).length ≤ _
    simp only [ApiExpr.bulk, ApiExpr.bulks, List.length_append, List.length_cons, List.length_nil] at *; omega
  | bin o a b h h' =>
    have := ih' a (by simp); have := ih' b (by simp)
    have := par_len (bif lv o == 3 then 4 else lv o) (a.Op, a.text); have := par_len (lv o + 1) (b.Op, b.text)
    have := (sign_eq h h').2.2
    rw [bin_text a b h h']
    simp only [ApiExpr.bulk, ApiExpr.bulks, List.length_append, List.length_cons, List.length_nil] at *; omega
  | min a b =>
    have := ih' a (by simp); have := ih' b (by simp)
    show ([109, 105, 110, 40] ++ a.text ++ [44, 32] ++ b.text ++ [41]).length ≤ _
    simp only [ApiExpr.bulk, ApiExpr.bulks, List.length_append, List.length_cons, List.length_nil]; omega
  | max a b =>
    have := ih' a (by simp); have := ih' b (by simp)
    show ([109, 97, 120, 40] ++ a.text ++ [44, 32] ++ b.text ++ [41]).length ≤ _
    simp only [ApiExpr.bulk, ApiExpr.bulks, List.length_append, List.length_cons, List.length_nil]; omega
  | cond a b c =>
    have := ih' a (by simp); have := ih' b (by simp); have := ih' c (by simp)
    have := par_len 1 (a.Op, a.text)
    show (par 1 (a.Op, a.text) ++ [32, 63, 32] ++ b.text ++ [32, 58, 32] ++ c.text).length ≤ _
    simp only [ApiExpr.bulk, ApiExpr.bulks, List.length_append, List.length_cons, List.length_nil] at *; omega
end Go.Proofs.YtmilgoloagbmpaaGreatDoor

set_option linter.unusedSimpArgs false
set_option linter.unusedVariables false
namespace Go.Proofs.YtmilgoloagbmpaaGreatDoor
open Go.Am

theorem skid_eq {k : ApiExpr} (hk : ∀ b : Str, b.length + 40 * k.bulk ≤ LL → syntax_printer_expr k b = some (b ++ k.text)) (hl : k.text.length ≤ 40 * k.bulk) (req : Int) (b : Str) (hb : b.length + 2 + 40 * k.bulk ≤ LL) :
    syntax_printer_kid k req b = some (b ++ par req (k.Op, k.text)) := by
  rw [syntax_printer_kid, slevel_eq, ob]
  unfold par
  cases h : decide (lv k.Op ≥ req) with
  | true => rw [if_pos (by simp), hk b (by omega), ob]; rfl
  | false =>
    rw [if_neg (by simp), ws (by simp; omega), ob, hk (b ++ [40]) (by simp; omega), ob, ws (by simp; omega), ob]
    simp

theorem sprint_eq (e : ApiExpr) : FineE e → ∀ b : Str, b.length + 40 * e.bulk ≤ LL → syntax_printer_expr e b = some (b ++ e.text) := by
  induction e using ApiExpr.ind with
  | h e ih =>
  intro hf b hb
  have ih' := fun k hk => ih k hk (hf.kid hk)
  have hl := fun k hk => text_len k (hf.kid hk)
  cases hf.shape with
  | lit n =>
    have := num_len hf.small
    simp only [ApiExpr.bulk, ApiExpr.bulks] at hb
    rw [syntax_printer_expr, if_pos (by simp), itoa_eq hf.small, ob, ws (by omega), ob]
    rfl
  | tt =>
    simp only [ApiExpr.bulk, ApiExpr.bulks] at hb
    rw [syntax_printer_expr, if_neg (by simp), if_pos (by simp), ws (by simp; omega), ob]
    rfl
  | ff =>
    simp only [ApiExpr.bulk, ApiExpr.bulks] at hb
    rw [syntax_printer_expr, if_neg (by simp), if_neg (by simp), if_pos (by simp), ws (by simp; omega), ob]
    rfl
  | name nm =>
    simp only [ApiExpr.bulk, ApiExpr.bulks] at hb
    rw [syntax_printer_expr, if_neg (by simp), if_neg (by simp), if_neg (by simp), if_pos (by simp), ws (by simp only; omega), ob]
    rfl
  | field nm k =>
    have i1 := ih' k (by simp)
    have l1 := hl k (by simp)
    simp only [ApiExpr.bulk, ApiExpr.bulks] at hb
    rw [syntax_printer_expr, if_neg (by simp), if_neg (by simp), if_neg (by simp), if_neg (by simp), if_pos (by simp), show idx (ApiExpr.mk 4 0 nm [k]).Kids 0 = some k from rfl, ob, i1 b (by omega), ob,
      fit (by unfold LL at *; simp only; omega), ws (by simp; omega), ob]
    show some ((b ++ k.text) ++ ([46] ++ nm)) = some (b ++ (k.text ++ ([46] ++ nm)))
    rw [List.append_assoc]
  | index x y =>
    have i1 := ih' x (by simp); have i2 := ih' y (by simp)
    have l1 := hl x (by simp); have l2 := hl y (by simp)
    simp only [ApiExpr.bulk, ApiExpr.bulks] at hb
    rw [syntax_printer_expr, if_neg (by simp), if_neg (by simp), if_neg (by simp), if_neg (by simp), if_neg (by simp), if_pos (by simp), show idx (ApiExpr.mk 5 0 [] [x, y]).Kids 0 = some x from rfl, ob, i1 b (by omega), ob,
      ws (by simp; omega), ob, show idx (ApiExpr.mk 5 0 [] [x, y]).Kids 1 = some y from rfl, ob, i2 _ (by simp; omega), ob, ws (by simp; omega), ob]
    show some _ = some (b ++ (x.text ++ [91] ++ y.text ++ [93]))
    simp
  | neg k =>
    have i1 := ih' k (by simp)
    have l1 := hl k (by simp)
    simp only [ApiExpr.bulk, ApiExpr.bulks] at hb
    rw [syntax_printer_expr, if_neg (by simp), if_neg (by simp), if_neg (by simp), if_neg (by simp), if_neg (by simp), if_neg (by simp), if_pos (by simp), syntax_printer_expr_j1, if_pos (by simp), if_neg (by simp), syntax_printer_expr_j2,
      ws (by simp; omega), ob, show idx (ApiExpr.mk 6 0 [] [k]).Kids 0 = some k from rfl, ob, skid_eq i1 l1 6 _ (by simp; omega), ob]
    show some _ = some (b ++ ([45] ++ par 6 (k.Op, k.text)))
    simp
  | not k =>
    have i1 := ih' k (by simp)
    have l1 := hl k (by simp)
    simp only [ApiExpr.bulk, ApiExpr.bulks] at hb
    rw [syntax_printer_expr, if_neg (by simp), if_neg (by simp), if_neg (by simp), if_neg (by simp), if_neg (by simp), if_neg (by simp), if_neg (by simp), syntax_printer_expr_j1, if_pos (by simp), if_pos (by simp), syntax_printer_expr_j2,
      ws (by simp; omega), ob, show idx (ApiExpr.mk 7 0 [] [k]).Kids 0 = some k from rfl, ob, skid_eq i1 l1 6 _ (by simp; omega), ob]
    show some _ = some (b ++ ([33] ++ par 6 (k.Op, k.text)))
    simp
  | bin o x y h h' =>
    have i1 := ih' x (by simp); have i2 := ih' y (by simp)
    have l1 := hl x (by simp); have l2 := hl y (by simp)
    obtain ⟨g1, _, g2⟩ := sign_eq h h'
    have p1 := par_len (bif lv o == 3 then 4 else lv o) (x.Op, x.text)
    simp only [ApiExpr.bulk, ApiExpr.bulks] at hb p1
    have hw : IntKind.i64.wrap (lv o + 1) = lv o + 1 := by rcases bin_cases h h' with rfl | rfl | rfl | rfl | rfl | rfl | rfl | rfl | rfl | rfl | rfl | rfl | rfl <;> rfl
    have e1 : ∀ left, left = (bif lv o == 3 then 4 else lv o) → syntax_printer_binary_j1 (ApiExpr.mk o 0 [] [x, y]) b (lv o) left = some (b ++ (ApiExpr.mk o 0 [] [x, y]).text) := by
      rintro _ rfl
      rw [syntax_printer_binary_j1, show idx (ApiExpr.mk o 0 [] [x, y]).Kids 0 = some x from rfl, ob, skid_eq i1 l1 _ b (by omega), ob, g1, ob, fit (by unfold LL at *; omega), fit (by unfold LL at *; simp; omega),
        ws (by simp; omega), ob, show idx (ApiExpr.mk o 0 [] [x, y]).Kids 1 = some y from rfl, ob, hw, skid_eq i2 l2 _ _ (by simp; omega), ob, bin_text x y h h']
      simp
    have e2 : syntax_printer_binary (ApiExpr.mk o 0 [] [x, y]) b = some (b ++ (ApiExpr.mk o 0 [] [x, y]).text) := by
      rw [syntax_printer_binary, slevel_eq, ob]
      cases h3 : lv o == 3 with
      | true => rw [if_pos (by simp)]; exact e1 4 (by rw [h3]; rfl)
      | false => rw [if_neg (by simp)]; exact e1 (lv o) (by rw [h3]; rfl)
    have e3 : syntax_printer_expr (ApiExpr.mk o 0 [] [x, y]) b = (syntax_printer_binary (ApiExpr.mk o 0 [] [x, y]) b >>= fun x29 => some x29) := by
      have n : ∀ k : Int, k < 8 ∨ 20 < k → (o == k) = false := fun k hk => beq_eq_false_iff_ne.2 (by omega)
      rw [syntax_printer_expr]
      simp only [n 0 (by decide), n 1 (by decide), n 2 (by decide), n 3 (by decide), n 4 (by decide), n 5 (by decide), n 6 (by decide), n 7 (by decide)]
      rw [if_neg (by simp), if_neg (by simp), if_neg (by simp), if_neg (by simp), if_neg (by simp), if_neg (by simp), if_neg (by simp), syntax_printer_expr_j1, if_neg (by simp)]
      simp only [n 21 (by decide), n 22 (by decide), n 23 (by decide)]
      rw [if_neg (by simp), syntax_printer_expr_j3, if_neg (by simp)]
      simp only [n 23 (by decide)]
      rw [if_neg (by simp)]
    rw [e3, e2, ob]
  | min x y =>
    have i1 := ih' x (by simp); have i2 := ih' y (by simp)
    have l1 := hl x (by simp); have l2 := hl y (by simp)
    simp only [ApiExpr.bulk, ApiExpr.bulks] at hb
    rw [syntax_printer_expr, if_neg (by simp), if_neg (by simp), if_neg (by simp), if_neg (by simp), if_neg (by simp), if_neg (by simp), if_neg (by simp), syntax_printer_expr_j1, if_neg (by simp), if_pos (by simp), syntax_printer_expr_j3, if_pos (by simp), if_neg (by simp), syntax_printer_expr_j4,
      ws (by simp; omega), ob, syntax_printer_list, syntax_printer_list_l1, if_pos (by simp), show idx (ApiExpr.mk 21 0 [] [x, y]).Kids 0 = some x from rfl, ob, if_neg (by simp), i1 _ (by simp; omega), ob,
      show IntKind.i64.wrap (0 + 1) = 1 from rfl, syntax_printer_list_l1, if_pos (by simp), show idx (ApiExpr.mk 21 0 [] [x, y]).Kids 1 = some y from rfl, ob, if_pos (by simp), ws (by simp; omega), ob, i2 _ (by simp; omega), ob,
      show IntKind.i64.wrap (1 + 1) = 2 from rfl, syntax_printer_list_l1, if_neg (by simp), ob, ws (by simp; omega), ob]
    show some _ = some (b ++ ([109, 105, 110, 40] ++ x.text ++ [44, 32] ++ y.text ++ [41]))
    simp
  | max x y =>
    have i1 := ih' x (by simp); have i2 := ih' y (by simp)
    have l1 := hl x (by simp); have l2 := hl y (by simp)
    simp only [ApiExpr.bulk, ApiExpr.bulks] at hb
    rw [syntax_printer_expr, if_neg (by simp), if_neg (by simp), if_neg (by simp), if_neg (by simp), if_neg (by simp), if_neg (by simp), if_neg (by simp), syntax_printer_expr_j1, if_neg (by simp), if_neg (by simp), syntax_printer_expr_j3, if_pos (by simp), if_pos (by simp), syntax_printer_expr_j4,
      ws (by simp; omega), ob, syntax_printer_list, syntax_printer_list_l1, if_pos (by simp), show idx (ApiExpr.mk 22 0 [] [x, y]).Kids 0 = some x from rfl, ob, if_neg (by simp), i1 _ (by simp; omega), ob,
      show IntKind.i64.wrap (0 + 1) = 1 from rfl, syntax_printer_list_l1, if_pos (by simp), show idx (ApiExpr.mk 22 0 [] [x, y]).Kids 1 = some y from rfl, ob, if_pos (by simp), ws (by simp; omega), ob, i2 _ (by simp; omega), ob,
      show IntKind.i64.wrap (1 + 1) = 2 from rfl, syntax_printer_list_l1, if_neg (by simp), ob, ws (by simp; omega), ob]
    show some _ = some (b ++ ([109, 97, 120, 40] ++ x.text ++ [44, 32] ++ y.text ++ [41]))
    simp
  | cond x y z =>
    have i1 := ih' x (by simp); have i2 := ih' y (by simp); have i3 := ih' z (by simp)
    have l1 := hl x (by simp); have l2 := hl y (by simp); have l3 := hl z (by simp)
    have p1 := par_len 1 (x.Op, x.text)
    simp only [ApiExpr.bulk, ApiExpr.bulks] at hb p1
    rw [syntax_printer_expr, if_neg (by simp), if_neg (by simp), if_neg (by simp), if_neg (by simp), if_neg (by simp), if_neg (by simp), if_neg (by simp), syntax_printer_expr_j1, if_neg (by simp), if_neg (by simp), syntax_printer_expr_j3, if_neg (by simp), if_pos (by simp),
      show idx (ApiExpr.mk 23 0 [] [x, y, z]).Kids 0 = some x from rfl, ob, skid_eq i1 l1 1 b (by omega), ob, ws (by simp; omega), ob, show idx (ApiExpr.mk 23 0 [] [x, y, z]).Kids 1 = some y from rfl, ob, i2 _ (by simp; omega), ob,
      ws (by simp; omega), ob, show idx (ApiExpr.mk 23 0 [] [x, y, z]).Kids 2 = some z from rfl, ob, i3 _ (by simp; omega), ob]
    show some _ = some (b ++ (par 1 (x.Op, x.text) ++ [32, 63, 32] ++ y.text ++ [32, 58, 32] ++ z.text))
    simp

/-! ### the printed text, or the code -/
def shortP (s : Str) : Str × Int := bif decide ((s.length : Int) > 8192) then ([], 5) else (s, 0)
theorem stext_eq (b : Str) : syntax_printer_text b = some (shortP b) := by
  unfold syntax_printer_text X_BLen_SyntaxPrinter X_BString_SyntaxPrinter shortP
  rw [ob]
  cases decide ((b.length : Int) > 8192) <;> rfl
def printE (e : ApiExpr) : Str × Int := bif checkE e != 0 then ([], checkE e) else shortP e.text
theorem PrintExpr_eq (e : ApiExpr) (ht : OkE e) : syntax_PrintExpr e = some (printE e) := by
  unfold syntax_PrintExpr printE
  rw [CheckExpr_eq e ht, ob]
  cases h : checkE e != 0 with
  | true => rfl
  | false =>
    have hf := fineE_of ht (by simpa using h)
    have hb := ht
    unfold OkE BB at hb
    rw [if_neg (by simp), sprint_eq e hf [] (by unfold LL; simp; omega), ob, stext_eq, ob]
    rfl
end Go.Proofs.YtmilgoloagbmpaaGreatDoor

set_option linter.unusedSimpArgs false
set_option linter.unusedVariables false
namespace Go.Proofs.YtmilgoloagbmpaaGreatDoor
open Go.Am

theorem lp_at {α : Type} {l : List α} {k : Nat} (h : k < l.length) : ∃ y, idx l (k : Int) = some y ∧ l.drop k = y :: l.drop (k + 1) ∧ y ∈ l := by
  refine ⟨l[k], ?_, List.drop_eq_getElem_cons h, List.getElem_mem h⟩
  unfold idx
  rw [if_pos (by omega)]
  simp [h]
theorem z0 : (0 : Int) = ((0 : Nat) : Int) := rfl

theorem eqL_refl {α : Type} {p : α → α → Bool} : ∀ l : List α, (∀ x ∈ l, p x x = true) → eqL p l l = true
  | [], _ => rfl
  | x :: r, h => by rw [eqL, h x List.mem_cons_self, eqL_refl r fun y hy => h y (List.mem_cons_of_mem _ hy)]; rfl
/-! ### expressions -/
mutual
def ApiExpr.same : ApiExpr → ApiExpr → Bool
  | .mk o n nm ks, t => o == t.Op && n == t.NV && nm == t.Name && ApiExpr.sames ks t.Kids
def ApiExpr.sames : List ApiExpr → List ApiExpr → Bool
  | [], [] => true
  | x :: r, y :: s => ApiExpr.same x y && ApiExpr.sames r s
  | [], _ :: _ => false
  | _ :: _, [] => false
end
theorem ApiExpr.sames_eq : ∀ l m : List ApiExpr, ApiExpr.sames l m = eqL ApiExpr.same l m
  | [], [] => rfl
  | x :: r, y :: s => by simp only [ApiExpr.sames, eqL, ApiExpr.sames_eq r s]
  | [], _ :: _ => rfl
  | _ :: _, [] => rfl
theorem ApiExpr.same_eq (t u : ApiExpr) : t.same u = (t.Op == u.Op && t.NV == u.NV && t.Name == u.Name && eqL ApiExpr.same t.Kids u.Kids) := by
  rw [← ApiExpr.sames_eq]
  cases t
  rfl
theorem rEqE_l (t u : ApiExpr) (ht : OkE t) (hl : t.Kids.length = u.Kids.length) (ih : ∀ x ∈ t.Kids, ∀ y, ref10_EqualExpr x y = some (x.same y)) :
    ∀ (r : List ApiExpr) (k : Nat), t.Kids.drop k = r → ref10_EqualExpr_l1 t u k = some (eqL ApiExpr.same r (u.Kids.drop k))
  | [], k, h => by
    rw [ref10_EqualExpr_l1, (lp_out h).1, if_neg (by simp), List.drop_eq_nil_of_le (by have := (lp_out h).2; omega)]; rfl
  | x :: r, k, h => by
    obtain ⟨e1, e2, e3, e4, e5⟩ := lp_in h
    obtain ⟨y, f1, f2, f3⟩ := lp_at (l := u.Kids) (k := k) (by omega)
    have := ht.kids
    rw [ref10_EqualExpr_l1, e1, if_pos rfl, e2, ob, f1, ob, ih x e5 y, ob, w1 (by omega), rEqE_l t u ht hl ih r (k + 1) e3, f2, eqL]
    cases x.same y <;> simp
theorem rEqualE_eq (t : ApiExpr) : OkE t → ∀ u, ref10_EqualExpr t u = some (t.same u) := by
  induction t using ApiExpr.ind with
  | h t ih =>
  intro ht u
  have ih' := fun x hx => ih x hx (ht.kid hx)
  rw [ref10_EqualExpr, ApiExpr.same_eq]
  by_cases hl : t.Kids.length = u.Kids.length
  · have h4 := rEqE_l t u ht hl ih' t.Kids 0 rfl
    have hb : (bif (bif (bif (t.Op != u.Op) then true else (t.NV != u.NV)) then true else (!(t.Name == u.Name))) then true else ((t.Kids.length : Int) != (u.Kids.length : Int))) = !(t.Op == u.Op && t.NV == u.NV && t.Name == u.Name) := by
      have : ((t.Kids.length : Int) != (u.Kids.length : Int)) = false := by simp; omega
      rw [this]
      unfold bne
      cases t.Op == u.Op <;> cases t.NV == u.NV <;> cases t.Name == u.Name <;> rfl
    rw [hb, z0, h4]
    cases (t.Op == u.Op && t.NV == u.NV && t.Name == u.Name) <;> simp
  · have : ((t.Kids.length : Int) != (u.Kids.length : Int)) = true := by simp; omega
    rw [this, eqL_len _ hl, Bool.and_false]
    generalize (bif (bif (t.Op != u.Op) then true else (t.NV != u.NV)) then true else (!(t.Name == u.Name))) = b
    cases b <;> rfl
theorem sameE_refl (t : ApiExpr) : t.same t = true := by
  induction t using ApiExpr.ind with
  | h t ih =>
  rw [ApiExpr.same_eq, eqL_refl t.Kids ih]
  simp
end Go.Proofs.YtmilgoloagbmpaaGreatDoor

namespace Go.Proofs.YtmilgoloagbmpaaGreatDoor
open Go.Am

mutual
def ApiStmt.bulk : ApiStmt → Nat
  | .mk y0 y1 y2 y3 y4 y5 y6 y7 y8 y9 y10 => 1 + (ApiExpr.bulk y1 + (ApiExpr.bulk y2 + ((y3.length + 1) + ((ApiExpr.bulks y4 + 1) + (1 + (1 + (1 + (((y8.map fun _ => 1).sum + 1) + ((ApiStmt.bulks y9 + 1) + ((ApiStmt.bulks y10 + 1) + (0))))))))))) + 1
def ApiStmt.bulks : List ApiStmt → Nat
  | [] => 0
  | x :: r => ApiStmt.bulk x + ApiStmt.bulks r
end
mutual
def ApiDecl.bulk : ApiDecl → Nat
  | .mk y0 y1 y2 y3 y4 y5 y6 y7 => 1 + ((y1.length + 1) + (ApiType.bulk y2 + (1 + (ApiExpr.bulk y4 + ((ApiDecl.bulks y5 + 1) + ((ApiDecl.bulks y6 + 1) + ((ApiStmt.bulks y7 + 1) + (0)))))))) + 1
def ApiDecl.bulks : List ApiDecl → Nat
  | [] => 0
  | x :: r => ApiDecl.bulk x + ApiDecl.bulks r
end
mutual
def ApiProgram.bulk : ApiProgram → Nat
  | .mk y0 y1 => (ApiDecl.bulks y0 + 1) + ((ApiStmt.bulks y1 + 1) + (0)) + 1
def ApiProgram.bulks : List ApiProgram → Nat
  | [] => 0
  | x :: r => ApiProgram.bulk x + ApiProgram.bulks r
end
end Go.Proofs.YtmilgoloagbmpaaGreatDoor

namespace Go.Proofs.YtmilgoloagbmpaaGreatDoor
open Go.Am
set_option maxRecDepth 100000
set_option maxHeartbeats 4000000
theorem law10_known_true : law10_known = some true := law10_known_le 200 _ (by kernel_rfl)
end Go.Proofs.YtmilgoloagbmpaaGreatDoor

set_option linter.unusedSimpArgs false
set_option linter.unusedVariables false
namespace Go.Proofs.YtmilgoloagbmpaaGreatDoor
open Go.Am

def cutp : Str → Str → Option Str
  | [], s => some s
  | a :: p, b :: s => bif a == b then cutp p s else none
  | _ :: _, [] => none
theorem cut_app : ∀ p s : Str, cutp p (p ++ s) = some s
  | [], s => rfl
  | a :: p, s => by simp only [List.cons_append, cutp, beq_self_eq_true, cond_true, cut_app p s]
theorem cut_no {a c : UInt8} (h : (a == c) = false) (p t : Str) : cutp (a :: p) (c :: t) = none := by simp only [cutp, h, cond_false]
def opsAt (s : Str) : List Int → Option (Int × Str)
  | [] => none
  | o :: l => match cutp (32 :: (sign o ++ [32])) s with
    | some t => some (o, t)
    | none => opsAt s l
def opAt (s : Str) : Option (Int × Str) := opsAt s [8, 9, 10, 11, 12, 13, 14, 15, 16, 17, 18, 19, 20]
theorem opAt_sign {o : Int} (h : 8 ≤ o) (h' : o ≤ 20) (t : Str) : opAt ([32] ++ sign o ++ [32] ++ t) = some (o, t) := by
  rcases bin_cases h h' with rfl | rfl | rfl | rfl | rfl | rfl | rfl | rfl | rfl | rfl | rfl | rfl | rfl
  all_goals rfl
theorem opAt_cons {c : UInt8} (h : ((32 : UInt8) == c) = false) (t : Str) : opAt (c :: t) = none := by
  simp only [opAt, opsAt, cut_no h]
theorem opAt_nil : opAt [] = none := rfl

def spn (p : UInt8 → Bool) : Str → Str × Str
  | [] => ([], [])
  | c :: r => bif p c then (c :: (spn p r).1, (spn p r).2) else ([], c :: r)
def NN (p : UInt8 → Bool) : Str → Prop
  | [] => True
  | c :: _ => p c = false
theorem spn_app (p : UInt8 → Bool) : ∀ w r : Str, (∀ c ∈ w, p c = true) → NN p r → spn p (w ++ r) = (w, r)
  | [], [], _, _ => rfl
  | [], c :: r, _, h => by simp only [List.nil_append, spn, show p c = false from h, cond_false]
  | a :: w, r, h, hr => by
    simp only [List.cons_append, spn, h a List.mem_cons_self, cond_true, spn_app p w r (fun c hc => h c (List.mem_cons_of_mem _ hc)) hr]

def dg (c : UInt8) : Bool := digI c.toNat
def decv (s : Str) : Nat := s.foldl (fun a c => 10 * a + (c.toNat - 48)) 0
theorem byte_dg (m : Nat) (h : m < 10) : (UInt8.ofNat (48 + m)).toNat = 48 + m := by simp; omega
theorem decv_digits (k : Nat) : decv (Lib.decDigits k) = k ∧ (∀ c ∈ Lib.decDigits k, dg c = true) ∧ Lib.decDigits k ≠ [] := by
  induction k using Nat.strongRecOn with
  | ind k ih =>
  have one : ∀ m, m < 10 → dg (UInt8.ofNat (48 + m)) = true := fun m hm => by
    unfold dg digI
    rw [byte_dg m hm, decide_eq_true (by omega), decide_eq_true (by omega)]; rfl
  rw [Lib.decDigits]
  by_cases h : k < 10
  · rw [dif_pos h]
    refine ⟨?_, ?_, by simp⟩
    · simp only [decv, List.foldl_cons, List.foldl_nil, byte_dg k h]; omega
    · intro c hc
      simp only [List.mem_singleton] at hc
      rw [hc]; exact one k h
  · rw [dif_neg h]
    obtain ⟨i1, i2, i3⟩ := ih (k / 10) (by omega)
    refine ⟨?_, ?_, by simp⟩
    · unfold decv at i1 ⊢
      rw [List.foldl_append, i1, List.foldl_cons, List.foldl_nil, byte_dg _ (by omega)]; omega
    · intro c hc
      rw [List.mem_append] at hc
      rcases hc with hc | hc
      · exact i2 c hc
      · simp only [List.mem_singleton] at hc
        rw [hc]; exact one _ (by omega)

/-! ### the reader -/
mutual
def pCond (s : Str) : Option (ApiExpr × Str) :=
  pBin 1 s >>= fun x =>
  match cutp [32, 63, 32] x.2 with
  | some t => pCond t >>= fun a => cutp [32, 58, 32] a.2 >>= fun u => pCond u >>= fun b => some (⟨23, 0, [], [x.1, a.1, b.1]⟩, b.2)
  | none => some x
  partial_fixpoint
def pBin (n : Nat) (s : Str) : Option (ApiExpr × Str) :=
  (if n ≥ 5 then pPre s else pBin (n + 1) s) >>= fun x => pLoop n x.1 x.2
  partial_fixpoint
def pLoop (n : Nat) (e : ApiExpr) (s : Str) : Option (ApiExpr × Str) :=
  match opAt s with
  | some x => if lv x.1 = (n : Int) then (if n ≥ 5 then pPre x.2 else pBin (n + 1) x.2) >>= fun y => pLoop n ⟨x.1, 0, [], [e, y.1]⟩ y.2 else some (e, s)
  | none => some (e, s)
  partial_fixpoint
def pPre (s : Str) : Option (ApiExpr × Str) :=
  match s with
  | [] => none
  | c :: t => if c = 45 then pPre t >>= fun x => some (⟨6, 0, [], [x.1]⟩, x.2) else if c = 33 then pPre t >>= fun x => some (⟨7, 0, [], [x.1]⟩, x.2) else pPrim (c :: t)
  partial_fixpoint
def pPrim (s : Str) : Option (ApiExpr × Str) :=
  match s with
  | [] => none
  | c :: t =>
    if c = 40 then pCond t >>= fun x => cutp [41] x.2 >>= fun u => some (x.1, u)
    else if dg c = true then some (⟨0, (decv (spn dg (c :: t)).1 : Nat), [], []⟩, (spn dg (c :: t)).2)
    else if (spn ld (c :: t)).1 = [116, 114, 117, 101] then some (⟨1, 0, [], []⟩, (spn ld (c :: t)).2)
    else if (spn ld (c :: t)).1 = [102, 97, 108, 115, 101] then some (⟨2, 0, [], []⟩, (spn ld (c :: t)).2)
    else if (spn ld (c :: t)).1 = [109, 105, 110] then pPair 21 (spn ld (c :: t)).2
    else if (spn ld (c :: t)).1 = [109, 97, 120] then pPair 22 (spn ld (c :: t)).2
    else pPost ⟨3, 0, (spn ld (c :: t)).1, []⟩ (spn ld (c :: t)).2
  partial_fixpoint
def pPair (o : Int) (s : Str) : Option (ApiExpr × Str) :=
  cutp [40] s >>= fun t => pCond t >>= fun a => cutp [44, 32] a.2 >>= fun u => pCond u >>= fun b => cutp [41] b.2 >>= fun v => some (⟨o, 0, [], [a.1, b.1]⟩, v)
  partial_fixpoint
def pPost (e : ApiExpr) (s : Str) : Option (ApiExpr × Str) :=
  match s with
  | [] => some (e, [])
  | c :: t =>
    if c = 46 then pPost ⟨4, 0, (spn ld t).1, [e]⟩ (spn ld t).2
    else if c = 91 then pCond t >>= fun x => cutp [93] x.2 >>= fun u => pPost ⟨5, 0, [], [e, x.1]⟩ u
    else some (e, c :: t)
  partial_fixpoint
end

def pst (c : UInt8) : Bool := c == 46 || c == 91
structure Rz (r : Str) : Prop where
  l : NN ld r
  p : NN pst r
structure Stp (n : Nat) (r : Str) : Prop where
  z : Rz r
  o : ∀ x, opAt r = some x → lv x.1 < (n : Int)
structure StpC (r : Str) : Prop where
  s : Stp 1 r
  c : cutp [32, 63, 32] r = none
theorem Stp.mono {n m : Nat} {r : Str} (h : Stp n r) (hm : n ≤ m) : Stp m r := ⟨h.z, fun x hx => by have := h.o x hx; omega⟩
/-- what stands behind an expression in parentheses and the like -/
theorem stopC_cons {c : UInt8} (h : (ld c || pst c || c == 32) = false) (t : Str) : StpC (c :: t) := by
  simp only [Bool.or_eq_false_iff] at h
  obtain ⟨⟨h1, h2⟩, h3⟩ := h
  have h4 : ((32 : UInt8) == c) = false := by rw [beq_eq_false_iff_ne] at h3 ⊢; exact fun e => h3 e.symm
  exact ⟨⟨⟨h1, h2⟩, fun x hx => by rw [opAt_cons h4] at hx; cases hx⟩, cut_no h4 _ _⟩
theorem stopC_nil : StpC [] := ⟨⟨⟨trivial, trivial⟩, fun x hx => by rw [opAt_nil] at hx; cases hx⟩, rfl⟩
theorem r0_blank (t : Str) : Rz (32 :: t) := ⟨rfl, rfl⟩
theorem stop_op {o : Int} (h : 8 ≤ o) (h' : o ≤ 20) {n : Nat} (hn : lv o < n) (t : Str) : Stp n ([32] ++ sign o ++ [32] ++ t) :=
  ⟨r0_blank _, fun x hx => by rw [opAt_sign h h'] at hx; cases hx; exact hn⟩
theorem stop_quest (t : Str) : Stp 1 ([32, 63, 32] ++ t) := ⟨r0_blank _, fun x hx => by have : opAt ([32, 63, 32] ++ t) = none := rfl; rw [this] at hx; cases hx⟩
theorem stopC_colon (t : Str) : StpC ([32, 58, 32] ++ t) := ⟨⟨r0_blank _, fun x hx => by have : opAt ([32, 58, 32] ++ t) = none := rfl; rw [this] at hx; cases hx⟩, rfl⟩

theorem loop_stop {n : Nat} {e : ApiExpr} {r : Str} (h : Stp n r) : pLoop n e r = some (e, r) := by
  rw [pLoop]
  cases ho : opAt r with
  | none => rfl
  | some x =>
    have := h.o x ho
    dsimp only
    rw [if_neg (by omega)]
theorem up {s r : Str} {e : ApiExpr} (h : pPre s = some (e, r)) : ∀ d n : Nat, n + d = 5 → Stp (n + 1) r → pBin n s = pLoop n e r
  | 0, n, hn, _ => by rw [pBin, if_pos (by omega), h, ob]
  | d + 1, n, hn, hs => by rw [pBin, if_neg (by omega), up h d (n + 1) (by omega) (hs.mono (by omega)), loop_stop hs, ob]
theorem upm {s r : Str} {e : ApiExpr} {m : Nat} (hm : m ≤ 5) (h : pBin m s = pLoop m e r) : ∀ d n : Nat, n + d = m → Stp (n + 1) r → pBin n s = pLoop n e r
  | 0, n, hn, _ => by obtain rfl : n = m := by omega
                      exact h
  | d + 1, n, hn, hs => by rw [pBin, if_neg (by omega), upm hm h d (n + 1) (by omega) (hs.mono (by omega)), loop_stop hs, ob]
theorem toC {s r : Str} {e : ApiExpr} (h : pBin 1 s = pLoop 1 e r) (hs : StpC r) : pCond s = some (e, r) := by
  rw [pCond, h, loop_stop hs.s, ob]
  simp only [hs.c]

/-- what the reader makes of the text of an expression -/
structure Rdr (e : ApiExpr) : Prop where
  c : ∀ r, StpC r → pCond (e.text ++ r) = some (e, r)
  b : ∀ n : Nat, 1 ≤ n → n ≤ 5 → (n : Int) ≤ lv e.Op → ∀ r, Stp (n + 1) r → pBin n (e.text ++ r) = pLoop n e r
  p : 6 ≤ lv e.Op → ∀ r, Rz r → pPre (e.text ++ r) = some (e, r)
  q : e.place = true → ∀ r, NN ld r → pPrim (e.text ++ r) = pPost e r
  h : e.place = true → ∃ c t, e.text = c :: t ∧ lowI c.toNat = true
/-- from the tightest level -/
theorem Rdr.of {e : ApiExpr} (h : ∀ r, Rz r → pPre (e.text ++ r) = some (e, r)) (q : e.place = true → ∀ r, NN ld r → pPrim (e.text ++ r) = pPost e r) (hh : e.place = true → ∃ c t, e.text = c :: t ∧ lowI c.toNat = true) : Rdr e :=
  have hb : ∀ n : Nat, 1 ≤ n → n ≤ 5 → ∀ r, Stp (n + 1) r → pBin n (e.text ++ r) = pLoop n e r := fun n h1 h5 r hr => up (h r hr.z) (5 - n) n (by omega) hr
  ⟨fun r hr => toC (hb 1 (by omega) (by omega) r (hr.s.mono (by omega))) hr, fun n h1 h5 _ r hr => hb n h1 h5 r hr, fun _ r hr => h r hr, q, hh⟩
theorem Rdr.paren {k : ApiExpr} (h : Rdr k) (r : Str) : pPre ([40] ++ k.text ++ [41] ++ r) = some (k, r) := by
  have e1 : [40] ++ k.text ++ [41] ++ r = 40 :: (k.text ++ (41 :: r)) := by simp
  rw [e1, pPre]
  rw [if_neg (by decide), if_neg (by decide), pPrim]
  rw [if_pos rfl, h.c _ (stopC_cons (by decide) r), ob]
  show cutp [41] ([41] ++ r) >>= _ = _
  rw [cut_app, ob]
theorem Rdr.par {k : ApiExpr} (h : Rdr k) {n : Nat} {N : Int} (hN : N = n) (h1 : 1 ≤ n) (h5 : n ≤ 5) {r : Str} (hr : Stp (n + 1) r) : pBin n (par N (k.Op, k.text) ++ r) = pLoop n k r := by
  unfold YtmilgoloagbmpaaGreatDoor.par
  cases hd : decide (lv k.Op ≥ N) with
  | true => exact h.b n h1 h5 (by have := of_decide_eq_true hd; omega) r hr
  | false => exact up (h.paren r) (5 - n) n (by omega) hr
theorem Rdr.par6 {k : ApiExpr} (h : Rdr k) {N : Int} (hN : N = 6) {r : Str} (hr : Rz r) : pPre (YtmilgoloagbmpaaGreatDoor.par N (k.Op, k.text) ++ r) = some (k, r) := by
  unfold YtmilgoloagbmpaaGreatDoor.par
  cases hd : decide (lv k.Op ≥ N) with
  | true => exact h.p (by have := of_decide_eq_true hd; omega) r hr
  | false => exact h.paren r
/-- the operand on the right of an operator of level l -/
theorem Rdr.right {k : ApiExpr} (h : Rdr k) {l : Nat} {N : Int} (hN : N = l + 1) (h1 : 1 ≤ l) (h5 : l ≤ 5) {r : Str} (hr : Stp (l + 1) r) :
    (if l ≥ 5 then pPre (YtmilgoloagbmpaaGreatDoor.par N (k.Op, k.text) ++ r) else pBin (l + 1) (YtmilgoloagbmpaaGreatDoor.par N (k.Op, k.text) ++ r)) = some (k, r) := by
  by_cases h6 : l = 5
  · subst h6
    rw [if_pos (by omega)]
    exact h.par6 (by omega) hr.z
  · rw [if_neg (by omega), h.par (by omega) (by omega) (by omega) (hr.mono (by omega)), loop_stop hr]
theorem op_lv {o : Int} (h : 8 ≤ o) (h' : o ≤ 20) : ∃ l m : Nat, lv o = l ∧ (bif lv o == 3 then 4 else lv o) = (m : Int) ∧ 1 ≤ l ∧ l ≤ m ∧ m ≤ 5 := by
  rcases bin_cases h h' with rfl | rfl | rfl | rfl | rfl | rfl | rfl | rfl | rfl | rfl | rfl | rfl | rfl
  all_goals first | exact ⟨4, 4, rfl, rfl, by omega, by omega, by omega⟩ | exact ⟨5, 5, rfl, rfl, by omega, by omega, by omega⟩ | exact ⟨3, 4, rfl, rfl, by omega, by omega, by omega⟩ | exact ⟨2, 2, rfl, rfl, by omega, by omega, by omega⟩ | exact ⟨1, 1, rfl, rfl, by omega, by omega, by omega⟩
theorem noplace {o : Int} (h : 8 ≤ o) (n : Int) (nm : Str) (ks : List ApiExpr) : (ApiExpr.mk o n nm ks).place = true → False := by
  intro hp
  rw [ApiExpr.place_eq] at hp
  simp only [beq_eq_false_iff_ne.mpr (show o ≠ 3 by omega), beq_eq_false_iff_ne.mpr (show o ≠ 4 by omega), beq_eq_false_iff_ne.mpr (show o ≠ 5 by omega), cond_false] at hp
  cases hp
theorem Rdr.bin {o : Int} {a b : ApiExpr} (h : 8 ≤ o) (h' : o ≤ 20) (ha : Rdr a) (hb : Rdr b) : Rdr (.mk o 0 [] [a, b]) := by
  obtain ⟨l, m, e1, e2, h1, hlm, h5⟩ := op_lv h h'
  have key : ∀ r, Stp (l + 1) r → pBin l ((ApiExpr.mk o 0 [] [a, b]).text ++ r) = pLoop l (.mk o 0 [] [a, b]) r := by
    intro r hr
    rw [bin_text a b h h']
    have ea : YtmilgoloagbmpaaGreatDoor.par (bif lv o == 3 then 4 else lv o) (a.Op, a.text) ++ ([32] ++ sign o ++ [32]) ++ YtmilgoloagbmpaaGreatDoor.par (lv o + 1) (b.Op, b.text) ++ r
        = YtmilgoloagbmpaaGreatDoor.par (bif lv o == 3 then 4 else lv o) (a.Op, a.text) ++ ([32] ++ sign o ++ [32] ++ (YtmilgoloagbmpaaGreatDoor.par (lv o + 1) (b.Op, b.text) ++ r)) := by simp only [List.append_assoc]
    have hst : ∀ k : Nat, l < k → Stp k ([32] ++ sign o ++ [32] ++ (YtmilgoloagbmpaaGreatDoor.par (lv o + 1) (b.Op, b.text) ++ r)) := fun k hk => stop_op h h' (by omega) _
    rw [ea, upm (m := m) h5 (ha.par e2 (by omega) h5 (hst _ (by omega))) (m - l) l (by omega) (hst _ (by omega)), pLoop, opAt_sign h h']
    dsimp only
    rw [if_pos e1, hb.right (by omega) h1 (by omega) hr, ob]
  have hb' : ∀ n : Nat, 1 ≤ n → n ≤ l → ∀ r, Stp (n + 1) r → pBin n ((ApiExpr.mk o 0 [] [a, b]).text ++ r) = pLoop n (.mk o 0 [] [a, b]) r := fun n _ hn r hr =>
    upm (by omega) (key r (hr.mono (by omega))) (l - n) n (by omega) hr
  refine ⟨fun r hr => toC (hb' 1 (by omega) (by omega) r (hr.s.mono (by omega))) hr, fun n h1 _ hn r hr => hb' n h1 ?_ r hr, fun h6 => ?_, fun hp => absurd hp (fun hp => noplace h _ _ _ hp), fun hp => absurd hp (fun hp => noplace h _ _ _ hp)⟩
  · have hn' : (n : Int) ≤ lv o := hn
    omega
  · have h6' : 6 ≤ lv o := h6
    omega
theorem Rdr.pre {k : ApiExpr} (h : Rdr k) {o : Int} {c : UInt8} (ho : o = 6 ∧ c = 45 ∨ o = 7 ∧ c = 33) (ht : (ApiExpr.mk o 0 [] [k]).text = c :: YtmilgoloagbmpaaGreatDoor.par 6 (k.Op, k.text)) : Rdr (.mk o 0 [] [k]) := by
  refine Rdr.of (fun r hr => ?_) (fun hp => ?_) (fun hp => ?_)
  · rw [ht, List.cons_append, pPre]
    rcases ho with ⟨rfl, rfl⟩ | ⟨rfl, rfl⟩
    · rw [if_pos rfl, h.par6 rfl hr, ob]
    · rw [if_neg (by decide), if_pos rfl, h.par6 rfl hr, ob]
  · rcases ho with ⟨rfl, rfl⟩ | ⟨rfl, rfl⟩ <;> cases hp
  · rcases ho with ⟨rfl, rfl⟩ | ⟨rfl, rfl⟩ <;> cases hp

/-! ### names -/
theorem low_ld {c : UInt8} (h : lowI c.toNat = true) : ld c = true ∧ dg c = false ∧ c ≠ 40 ∧ c ≠ 45 ∧ c ≠ 33 := by
  have h0 := h
  unfold lowI at h
  cases h1 : decide ((c.toNat : Int) ≥ 97) with
  | false => rw [h1] at h; cases h
  | true =>
    have h2 := of_decide_eq_true h1
    have ne : ∀ d : UInt8, d.toNat < 97 → c ≠ d := fun d hd e => by subst e; omega
    refine ⟨by unfold ld; rw [h0]; rfl, ?_, ne _ (by decide), ne _ (by decide), ne _ (by decide)⟩
    unfold dg digI
    rw [decide_eq_false (show ¬ (c.toNat : Int) ≤ 57 by omega)]
    cases decide ((c.toNat : Int) ≥ 48) <;> rfl
theorem wordFrom_lds : ∀ (i : Nat) (s : Str), wordFrom i s = true → ∀ c ∈ s, ld c = true
  | _, [], _, c, hc => by cases hc
  | i, a :: s, h, c, hc => by
    simp only [wordFrom, Bool.and_eq_true] at h
    cases hc with
    | head =>
      have h1 := h.1
      unfold okAt at h1
      unfold ld
      cases h2 : lowI a.toNat with
      | true => rfl
      | false => rw [h2] at h1; simp only [Bool.false_or, Bool.and_eq_true] at h1; exact h1.2
    | tail _ hc => exact wordFrom_lds (i + 1) s h.2 c hc
theorem name_ok {s : Str} (h : isName s = true) : (∀ c ∈ s, ld c = true) ∧ (∃ c t, s = c :: t ∧ lowI c.toNat = true) ∧ resv s = false := by
  unfold isName at h
  cases h1 : (bif decide ((s.length : Int) ≤ 12) then word s else false) with
  | false => rw [h1] at h; cases h
  | true =>
    rw [h1] at h
    have h2 : word s = true := by
      cases hl : decide ((s.length : Int) ≤ 12) with
      | false => rw [hl] at h1; cases h1
      | true => rw [hl] at h1; exact h1
    unfold word at h2
    rw [Bool.and_eq_true] at h2
    refine ⟨wordFrom_lds 0 s h2.1, ?_, by simpa using h⟩
    match s, h2 with
    | [], h2 => exact absurd h2.2 (by decide)
    | c :: t, h2 =>
      refine ⟨c, t, rfl, ?_⟩
      have h3 := h2.1
      simp only [wordFrom, Bool.and_eq_true, okAt] at h3
      simpa using h3.1
theorem resv4 : resv [116, 114, 117, 101] = true ∧ resv [102, 97, 108, 115, 101] = true ∧ resv [109, 105, 110] = true ∧ resv [109, 97, 120] = true := by
  refine ⟨?_, ?_, ?_, ?_⟩ <;> decide +kernel
theorem Rdr.name {nm : Str} (h : isName nm = true) : Rdr (.mk 3 0 nm []) := by
  obtain ⟨h1, ⟨c, t, hc, hl⟩, h3⟩ := name_ok h
  obtain ⟨l1, l2, l3, l4, l5⟩ := low_ld hl
  have ne : ∀ w, resv w = true → nm ≠ w := fun w hw e => by rw [e, hw] at h3; cases h3
  have q : ∀ r, NN ld r → pPrim ((ApiExpr.mk 3 0 nm []).text ++ r) = pPost (.mk 3 0 nm []) r := by
    intro r hr
    show pPrim (nm ++ r) = _
    have hs := spn_app ld nm r h1 hr
    rw [hc, List.cons_append] at hs ⊢
    rw [pPrim]
    rw [if_neg l3, if_neg (by rw [l2]; simp), hs, ← hc, if_neg (ne _ resv4.1), if_neg (ne _ resv4.2.1), if_neg (ne _ resv4.2.2.1), if_neg (ne _ resv4.2.2.2)]
  refine Rdr.of (fun r hr => ?_) (fun _ => q) (fun _ => ⟨c, t, hc, hl⟩)
  have hq := q r hr.l
  have ht : (ApiExpr.mk 3 0 nm []).text ++ r = c :: (t ++ r) := by show nm ++ r = _; rw [hc]; rfl
  rw [ht] at hq ⊢
  rw [pPre]
  rw [if_neg l4, if_neg l5, hq]
  cases r with
  | nil => rw [pPost]
  | cons a r =>
    have := hr.p
    simp only [NN, pst, Bool.or_eq_false_iff] at this
    rw [pPost, if_neg (by simpa using this.1), if_neg (by simpa using this.2)]
/-- a place from its reading -/
theorem Rdr.place {e : ApiExpr} (q : ∀ r, NN ld r → pPrim (e.text ++ r) = pPost e r) (h : ∃ c t, e.text = c :: t ∧ lowI c.toNat = true) : Rdr e := by
  obtain ⟨c, t, hc, hl⟩ := h
  obtain ⟨l1, l2, l3, l4, l5⟩ := low_ld hl
  refine Rdr.of (fun r hr => ?_) (fun _ => q) (fun _ => ⟨c, t, hc, hl⟩)
  have hq := q r hr.l
  have ht : e.text ++ r = c :: (t ++ r) := by rw [hc]; rfl
  rw [ht] at hq ⊢
  rw [pPre]
  rw [if_neg l4, if_neg l5, hq]
  cases r with
  | nil => rw [pPost]
  | cons a r =>
    have := hr.p
    simp only [NN, pst, Bool.or_eq_false_iff] at this
    rw [pPost, if_neg (by simpa using this.1), if_neg (by simpa using this.2)]
theorem Rdr.word {e : ApiExpr} {w : Str} (ht : e.text = w) (hw : ∀ c ∈ w, ld c = true) (hh : ∃ c t, w = c :: t ∧ lowI c.toNat = true) (hp : e.place = true → False)
    (h : ∀ r, NN ld r → ∀ t, w ++ r = t → spn ld t = (w, r) → pPrim t = some (e, r)) : Rdr e := by
  obtain ⟨c, t, hc, hl⟩ := hh
  obtain ⟨l1, l2, l3, l4, l5⟩ := low_ld hl
  refine Rdr.of (fun r hr => ?_) (fun h => absurd h (fun h => hp h)) (fun h => absurd h (fun h => hp h))
  have hq := h r hr.l _ rfl (spn_app ld w r hw hr.l)
  rw [ht]
  rw [hc, List.cons_append] at hq ⊢
  rw [pPre]
  rw [if_neg l4, if_neg l5, hq]

/-- what is asked of an expression that is read back -/
structure FineN (e : ApiExpr) : Prop where
  f : FineE e
  n : e.all ename = true
theorem FineN.kid {e k : ApiExpr} (h : FineN e) (hk : k ∈ e.Kids) : FineN k := by
  have h1 := h.n
  rw [ApiExpr.all_eq, Bool.and_eq_true] at h1
  exact ⟨h.f.kid hk, ApiExpr.alls_mem h1.2 hk⟩
theorem fineN_of {e : ApiExpr} (ht : OkE e) (h : checkE e = 0) : FineN e := by
  refine ⟨fineE_of ht h, ?_⟩
  cases hn : e.all ename with
  | true => rfl
  | false =>
    unfold checkE repCode at h
    rw [hn] at h
    cases hb : (bif decide ((e.nodes : Int) > 1024) then true else decide ((e.depth : Int) > 12)) <;> rw [hb] at h
    · cases hf : e.all eform <;> rw [hf] at h <;> cases h
    · cases h
theorem pair_rd {a b : ApiExpr} (ha : Rdr a) (hb : Rdr b) (o : Int) (r : Str) : pPair o (40 :: (a.text ++ [44, 32] ++ b.text ++ [41] ++ r)) = some (⟨o, 0, [], [a, b]⟩, r) := by
  rw [pPair]
  show cutp [40] ([40] ++ (a.text ++ [44, 32] ++ b.text ++ [41] ++ r)) >>= _ = _
  rw [cut_app, ob]
  have e1 : a.text ++ [44, 32] ++ b.text ++ [41] ++ r = a.text ++ (44 :: (32 :: (b.text ++ (41 :: r)))) := by simp
  rw [e1, ha.c _ (stopC_cons (by decide) _), ob]
  show cutp [44, 32] ([44, 32] ++ (b.text ++ (41 :: r))) >>= _ = _
  rw [cut_app, ob, hb.c _ (stopC_cons (by decide) _), ob]
  show cutp [41] ([41] ++ r) >>= _ = _
  rw [cut_app, ob]
theorem rd_of (e : ApiExpr) : FineN e → Rdr e := by
  induction e using ApiExpr.ind with
  | h e ih =>
  intro hf
  have ih' := fun k hk => ih k hk (hf.kid hk)
  have hnm := hf.n
  rw [ApiExpr.all_eq, Bool.and_eq_true] at hnm
  have hfo := hf.f.form
  rw [ApiExpr.all_eq, Bool.and_eq_true] at hfo
  cases hf.f.shape with
  | lit n =>
    have h0 : 0 ≤ n := by
      have h2 := hf.f.numb
      rw [ApiExpr.all_eq, Bool.and_eq_true] at h2
      have h3 := h2.1
      unfold enumb inside at h3
      simp at h3
      omega
    obtain ⟨k, rfl⟩ : ∃ k : Nat, n = k := ⟨n.toNat, by omega⟩
    obtain ⟨d1, d2, d3⟩ := decv_digits k
    have ht : (ApiExpr.mk 0 (k : Int) [] []).text = Lib.decDigits k := Lib.itoa_nonneg k
    refine Rdr.of (fun r hr => ?_) (fun hp => by cases hp) (fun hp => by cases hp)
    rw [ht]
    have hs := spn_app dg (Lib.decDigits k) r d2 (by cases r with
      | nil => trivial
      | cons a r =>
        have := hr.l
        simp only [NN, ld] at this ⊢
        unfold dg
        cases hl : lowI a.toNat with
        | true => rw [hl] at this; cases this
        | false => rw [hl] at this; exact this)
    match hd : Lib.decDigits k, d3 with
    | c :: t, _ =>
      rw [hd] at hs d1 d2
      rw [List.cons_append] at hs ⊢
      have hc := d2 c List.mem_cons_self
      have hv : 48 ≤ c.toNat := by
        unfold dg digI at hc
        cases h1 : decide ((c.toNat : Int) ≥ 48) with
        | false => rw [h1] at hc; cases hc
        | true => have := of_decide_eq_true h1; omega
      have ne : ∀ d : UInt8, d.toNat < 48 → c ≠ d := fun d hd e => by subst e; omega
      rw [pPre]
      rw [if_neg (ne _ (by decide)), if_neg (ne _ (by decide)), pPrim]
      rw [if_neg (ne _ (by decide)), if_pos hc, hs, d1]
  | tt =>
    refine Rdr.word (w := [116, 114, 117, 101]) rfl (by decide) ⟨_, _, rfl, rfl⟩ (fun hp => by cases hp) (fun r hr t ht hs => ?_)
    rw [← ht] at hs ⊢
    rw [List.cons_append] at hs ⊢
    rw [pPrim]
    rw [if_neg (by decide), if_neg (by decide), hs, if_pos rfl]
  | ff =>
    refine Rdr.word (w := [102, 97, 108, 115, 101]) rfl (by decide) ⟨_, _, rfl, rfl⟩ (fun hp => by cases hp) (fun r hr t ht hs => ?_)
    rw [← ht] at hs ⊢
    rw [List.cons_append] at hs ⊢
    rw [pPrim]
    rw [if_neg (by decide), if_neg (by decide), hs, if_neg (by simp), if_pos rfl]
  | name nm => exact Rdr.name hnm.1
  | field nm k =>
    have hk := ih' k (by simp)
    have hpk : k.place = true := by
      have h4 := hfo.1
      simp only [eform, ef4, Bool.and_eq_true] at h4
      have h5 := h4.2
      rw [ApiExpr.place_eq] at h5
      exact h5
    have hn : isName nm = true := hnm.1
    obtain ⟨n1, _, _⟩ := name_ok hn
    have ht : (ApiExpr.mk 4 0 nm [k]).text = k.text ++ ([46] ++ nm) := rfl
    refine Rdr.place (fun r hr => ?_) ?_
    · rw [ht, List.append_assoc, List.append_assoc, hk.q hpk _ (by rfl), List.singleton_append, pPost]
      rw [if_pos rfl, spn_app ld nm r n1 hr]
    · obtain ⟨c, t, hc, hl⟩ := hk.h hpk
      exact ⟨c, _, by rw [ht, hc]; rfl, hl⟩
  | index a b =>
    have ha := ih' a (by simp)
    have hb := ih' b (by simp)
    have hpk : a.place = true := by
      have h4 := hfo.1
      simp only [eform, ef4, Bool.and_eq_true] at h4
      have h5 := h4.2
      rw [ApiExpr.place_eq] at h5
      exact h5
    have ht : (ApiExpr.mk 5 0 [] [a, b]).text = a.text ++ [91] ++ b.text ++ [93] := rfl
    refine Rdr.place (fun r hr => ?_) ?_
    · have e1 : a.text ++ [91] ++ b.text ++ [93] ++ r = a.text ++ (91 :: (b.text ++ (93 :: r))) := by simp
      rw [ht, e1, ha.q hpk _ (by rfl), pPost]
      rw [if_neg (by decide), if_pos rfl, hb.c _ (stopC_cons (by decide) _), ob]
      show cutp [93] ([93] ++ r) >>= _ = _
      rw [cut_app, ob]
    · obtain ⟨c, t, hc, hl⟩ := ha.h hpk
      exact ⟨c, _, by rw [ht, hc]; rfl, hl⟩
  | neg k => exact (ih' k (by simp)).pre (.inl ⟨rfl, rfl⟩) rfl
  | not k => exact (ih' k (by simp)).pre (.inr ⟨rfl, rfl⟩) rfl
  | bin o a b h h' => exact Rdr.bin h h' (ih' a (by simp)) (ih' b (by simp))
  | min a b =>
    have ha := ih' a (by simp)
    have hb := ih' b (by simp)
    refine Rdr.of (fun r hr => ?_) (fun hp => by cases hp) (fun hp => by cases hp)
    have ht : (ApiExpr.mk 21 0 [] [a, b]).text ++ r = [109, 105, 110] ++ (40 :: (a.text ++ [44, 32] ++ b.text ++ [41] ++ r)) := by
      show ([109, 105, 110, 40] ++ a.text ++ [44, 32] ++ b.text ++ [41]) ++ r = _
      simp
    have hs := spn_app ld [109, 105, 110] (40 :: (a.text ++ [44, 32] ++ b.text ++ [41] ++ r)) (by decide) rfl
    rw [ht, List.cons_append, pPre]
    rw [List.cons_append] at hs
    rw [if_neg (by decide), if_neg (by decide), pPrim]
    rw [if_neg (by decide), if_neg (by decide), hs, if_neg (by simp), if_neg (by simp), if_pos rfl, pair_rd ha hb]
  | max a b =>
    have ha := ih' a (by simp)
    have hb := ih' b (by simp)
    refine Rdr.of (fun r hr => ?_) (fun hp => by cases hp) (fun hp => by cases hp)
    have ht : (ApiExpr.mk 22 0 [] [a, b]).text ++ r = [109, 97, 120] ++ (40 :: (a.text ++ [44, 32] ++ b.text ++ [41] ++ r)) := by
      show ([109, 97, 120, 40] ++ a.text ++ [44, 32] ++ b.text ++ [41]) ++ r = _
      simp
    have hs := spn_app ld [109, 97, 120] (40 :: (a.text ++ [44, 32] ++ b.text ++ [41] ++ r)) (by decide) rfl
    rw [ht, List.cons_append, pPre]
    rw [List.cons_append] at hs
    rw [if_neg (by decide), if_neg (by decide), pPrim]
    rw [if_neg (by decide), if_neg (by decide), hs, if_neg (by simp), if_neg (by simp), if_neg (by simp), if_pos rfl, pair_rd ha hb]
  | cond a b c =>
    have ha := ih' a (by simp)
    have hb := ih' b (by simp)
    have hc := ih' c (by simp)
    refine ⟨fun r hr => ?_, fun n h1 _ hn => ?_, fun h6 => ?_, fun hp => (by cases hp), fun hp => (by cases hp)⟩
    · have ht : (ApiExpr.mk 23 0 [] [a, b, c]).text ++ r = YtmilgoloagbmpaaGreatDoor.par 1 (a.Op, a.text) ++ ([32, 63, 32] ++ (b.text ++ ([32, 58, 32] ++ (c.text ++ r)))) := by
        show YtmilgoloagbmpaaGreatDoor.par 1 (a.Op, a.text) ++ [32, 63, 32] ++ b.text ++ [32, 58, 32] ++ c.text ++ r = _
        simp only [List.append_assoc]
      rw [ht, pCond, ha.par (n := 1) (N := 1) rfl (by omega) (by omega) ((stop_quest _).mono (by omega)), loop_stop (stop_quest _), ob]
      simp only [cut_app]
      rw [hb.c _ (stopC_colon _), ob]
      simp only [cut_app]
      rw [ob, hc.c r hr, ob]
    · have h0 : lv 23 = 0 := rfl
      have hn' : (n : Int) ≤ lv 23 := hn
      omega
    · have h0 : lv 23 = 0 := rfl
      have h6' : 6 ≤ lv 23 := h6
      omega
/-- the text tells the expression -/
theorem text_inj {a b : ApiExpr} (ha : FineN a) (hb : FineN b) (h : a.text = b.text) : a = b := by
  have h1 := (rd_of a ha).c [] stopC_nil
  have h2 := (rd_of b hb).c [] stopC_nil
  rw [h, h2] at h1
  exact (congrArg Prod.fst (Option.some.inj h1)).symm
theorem eqL_of {α : Type} {p : α → α → Bool} : ∀ l m : List α, (∀ x ∈ l, ∀ y, p x y = true → x = y) → eqL p l m = true → l = m
  | [], [], _, _ => rfl
  | x :: r, y :: s, hp, h => by
    simp only [eqL, Bool.and_eq_true] at h
    rw [hp x List.mem_cons_self y h.1, eqL_of r s (fun z hz => hp z (List.mem_cons_of_mem _ hz)) h.2]
  | [], _ :: _, _, h => by cases h
  | _ :: _, [], _, h => by cases h
theorem same_of (a : ApiExpr) : ∀ b, a.same b = true → a = b := by
  induction a using ApiExpr.ind with
  | h a ih =>
  intro b h
  rw [ApiExpr.same_eq] at h
  simp only [Bool.and_eq_true, beq_iff_eq] at h
  obtain ⟨⟨⟨h1, h2⟩, h3⟩, h4⟩ := h
  have h5 := eqL_of _ _ ih h4
  cases a; cases b
  simp only at h1 h2 h3 h5
  rw [h1, h2, h3, h5]
theorem text_same {a b : ApiExpr} (ha : FineN a) (hb : FineN b) : (a.text == b.text) = a.same b := by
  cases h : a.same b with
  | true => rw [same_of a b h]; simp
  | false =>
    rw [beq_eq_false_iff_ne]
    intro e
    rw [text_inj ha hb e, sameE_refl] at h
    cases h
/-- P10.3 -/
theorem SyntaxApart_true (a b : ApiExpr) (ha : OkE a) (hb : OkE b) (hk : law10_known = some true) : law10_SyntaxApart a b = some true := by
  have ifd3 : ∀ {α : Type} [Inhabited α] (c : Bool) (x : α), (if c = true then some x else some default) = some (bif c then x else default) := fun c x => by cases c <;> rfl
  unfold law10_SyntaxApart
  obtain ⟨f, hf⟩ := fewE_some a ha 200
  obtain ⟨g, hg⟩ := fewE_some b hb 200
  rw [hk, ob, if_neg (by simp), hf, ob]
  simp only [hg, ifd3, ob]
  split
  · rfl
  · simp only [PrintExpr_eq a ha, PrintExpr_eq b hb, rCheckExpr_eq a ha, rCheckExpr_eq b hb, rEqualE_eq a ha, ifd3, ob]
    have key : ∀ e : ApiExpr, (checkE e ≠ 0 ∧ printE e = ([], checkE e)) ∨ (checkE e = 0 ∧ printE e = ([], 5)) ∨ (checkE e = 0 ∧ printE e = (e.text, 0)) := fun e => by
      unfold printE shortP
      by_cases h : checkE e = 0
      · rw [h]
        cases decide ((e.text.length : Int) > 8192)
        · exact .inr (.inr ⟨rfl, rfl⟩)
        · exact .inr (.inl ⟨rfl, rfl⟩)
      · rw [show (checkE e != 0) = true by simpa using h]
        exact .inl ⟨h, rfl⟩
    rcases key a with ⟨a1, a2⟩ | ⟨a1, a2⟩ | ⟨a1, a2⟩ <;> rcases key b with ⟨b1, b2⟩ | ⟨b1, b2⟩ | ⟨b1, b2⟩ <;> rw [a2, b2]
    all_goals first | (simp [a1, b1]; done) | (simp [a1, b1]; exact text_same (fineN_of ha a1) (fineN_of hb b1))
end Go.Proofs.YtmilgoloagbmpaaGreatDoor

