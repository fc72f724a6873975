/-
  Names: the program's and the reference's.
-/
import Derived.Test.YtonilfkaecbjnaaDoorDgE
namespace Go.Proofs.YtonilfkaecbjnaaDoor
open Go.Am

/-! ### loops -/
theorem ob {α β : Type} (a : α) (f : α → Option β) : (some a >>= f) = f a := rfl
theorem lp_in {α : Type} {l : List α} {k : Nat} {x : α} {r : List α} (h : l.drop k = x :: r) : decide ((k : Int) < (l.length : Int)) = true ∧ idx l (k : Int) = some x ∧ l.drop (k + 1) = r ∧ k < l.length ∧ x ∈ l := by
  have hk : k < l.length := by
    rcases Nat.lt_or_ge k l.length with h1 | h1
    · exact h1
    · rw [List.drop_eq_nil_of_le h1] at h; cases h
  have hx := List.drop_eq_getElem_cons hk
  rw [h] at hx
  obtain ⟨e1, e2⟩ := List.cons.inj hx
  refine ⟨decide_eq_true (by omega), ?_, e2.symm, hk, ?_⟩
  · unfold idx
    rw [if_pos (by omega), e1]
    simp [hk]
  · rw [e1]; exact List.getElem_mem hk
theorem lp_out {α : Type} {l : List α} {k : Nat} (h : l.drop k = []) : decide ((k : Int) < (l.length : Int)) = false ∧ l.length ≤ k := by
  have := List.drop_eq_nil_iff.1 h
  exact ⟨decide_eq_false (by omega), this⟩
/-- sizes that no sum or product here can pass -/
def BB : Nat := 68719476736
theorem wr {n : Int} (h : -4611686018427387904 ≤ n) (h' : n ≤ 4611686018427387904) : IntKind.i64.wrap n = n := wrap_i64 (by omega) (by omega)
theorem w1 {k : Nat} (h : k ≤ BB) : IntKind.i64.wrap ((k : Int) + 1) = ((k + 1 : Nat) : Int) := by
  unfold BB at h
  rw [wr (by omega) (by omega)]; rfl

/-! ### names -/
def lowI (n : Int) : Bool := bif decide (n ≥ 97) then decide (n ≤ 122) else false
def digI (n : Int) : Bool := bif decide (n ≥ 48) then decide (n ≤ 57) else false

/-- the letter or digit at a place of a name -/
def okAt (i : Nat) (c : UInt8) : Bool := lowI c.toNat || (i != 0 && digI c.toNat)
def wordFrom : Nat → List UInt8 → Bool
  | _, [] => true
  | i, c :: r => okAt i c && wordFrom (i + 1) r
def word (s : List UInt8) : Bool := wordFrom 0 s && !(s == [])

/-- the reserved words, a blank around each -/
def kw : List UInt8 := [32, 116, 121, 112, 101, 32, 115, 101, 99, 114, 101, 116, 32, 112, 117, 98, 108, 105, 99, 32, 114, 97, 110, 100, 111, 109, 32, 118, 97, 114, 32, 104, 97, 116, 99, 104, 32, 102, 117, 110, 99, 32, 114, 101, 116, 117, 114, 110, 32, 98, 101, 103, 105, 110, 32, 101, 110, 100, 32, 98, 111, 111, 108, 32, 105, 110, 116, 32, 97, 114, 114, 97, 121, 32, 111, 102, 32, 114, 101, 99, 111, 114, 100, 32, 116, 114, 117, 101, 32, 102, 97, 108, 115, 101, 32, 99, 97, 108, 108, 32, 114, 101, 108, 101, 97, 115, 101, 32, 111, 117, 116, 112, 117, 116, 32, 119, 97, 105, 116, 32, 105, 102, 32, 101, 108, 115, 101, 32, 119, 104, 105, 108, 101, 32, 108, 105, 109, 105, 116, 32, 102, 111, 114, 32, 116, 111, 32, 115, 101, 116, 116, 108, 101, 32, 109, 105, 110, 32, 109, 97, 120, 32]

def resv (s : List UInt8) : Bool := bif (bif !(s == []) then !Lib.contains s [32] else false) then Lib.contains kw ([32] ++ s ++ [32]) else false
def isName (s : List UInt8) : Bool := bif (bif decide ((s.length : Int) ≤ 12) then word s else false) then !resv s else false

def ld (c : UInt8) : Bool := bif lowI c.toNat then true else digI c.toNat
set_option maxRecDepth 100000 in
theorem kw_len : kw.length = 162 := rfl

/-! ### the program's -/
theorem isLetter_eq (n : Int) : lexer_isLetter n = some (lowI n) := rfl
theorem isDigit_eq (n : Int) : lexer_isDigit n = some (digI n) := rfl
theorem isWord_run (s : Str) (hs : s.length ≤ BB) : ∀ (r : Str) (k : Nat), s.drop k = r → lexer_isWord_l1 s k = some (wordFrom k r && !(s == []))
  | [], k, h => by rw [lexer_isWord_l1, (lp_out h).1]; simp [wordFrom]
  | c :: r, k, h => by
    obtain ⟨h1, h2, h3, h4, _⟩ := lp_in h
    have ih := isWord_run s hs r (k + 1) h3
    rw [lexer_isWord_l1, h1, if_pos rfl, h2, ob, isLetter_eq, ob, w1 (by omega), ih]
    have e : ((k : Int) == 0) = (k == 0) := by cases k <;> rfl
    simp only [e, wordFrom, okAt, bne]
    cases hl : lowI c.toNat <;> cases hk : k == 0 <;> cases hd : digI c.toNat <;> simp [isDigit_eq, hd]
theorem isWord_eq (s : Str) (hs : s.length ≤ BB) : lexer_isWord s = some (word s) := isWord_run s hs s 0 rfl
theorem X_Contains_eq (s t : Str) (hs : s.length ≤ 4000000000) : X_Contains s t = some (Lib.contains s t) := by
  unfold X_Contains
  rw [if_pos (decide_eq_true (by omega))]
theorem Reserved_eq (s : Str) (hs : s.length ≤ 4000000000) : lexer_Reserved s = some (resv s) := by
  unfold lexer_Reserved
  have h1 : decide (1 + s.length ≤ maxLen) = true := decide_eq_true (by unfold maxLen; omega)
  have h2 : decide (([32] ++ s).length + 1 ≤ maxLen) = true := decide_eq_true (by unfold maxLen; simp; omega)
  rw [X_Contains_eq s _ hs]
  have h3 := X_Contains_eq kw (([32] ++ s) ++ [32]) (by rw [kw_len]; omega)
  unfold kw at h3
  unfold resv kw
  rw [h1, h2, h3]
  cases s == [] <;> cases Lib.contains s [32] <;> simp
theorem IsName_eq (s : Str) (hs : s.length ≤ BB) : syntax_IsName s = some (isName s) := by
  unfold syntax_IsName lexer_IsName isName
  rw [isWord_eq s hs]
  cases h : decide ((s.length : Int) ≤ 12) with
  | false => simp
  | true =>
    have h' : s.length ≤ 12 := by have := of_decide_eq_true h; omega
    rw [Reserved_eq s (by omega)]
    cases word s <;> simp

/-! ### the reference's -/
end Go.Proofs.YtonilfkaecbjnaaDoor

