/-
  What the printed functions of types compute.
-/
import Derived.Test.YtmilgoloagbmpaaGreatDoorPdB
set_option linter.unusedSimpArgs false
namespace Go.Proofs.YtmilgoloagbmpaaGreatDoor
open Go.Am

mutual
def ApiType.bulk : ApiType → Nat
  | .mk _ _ _ _ n ns of => 1 + (1 + (1 + (1 + ((n.length + 1) + (((ns.map fun s => s.length + 1).sum + 1) + ((ApiType.bulks of + 1) + 0)))))) + 1
def ApiType.bulks : List ApiType → Nat
  | [] => 0
  | x :: r => ApiType.bulk x + ApiType.bulks r
end
theorem ApiType.bulk_eq (t : ApiType) : t.bulk = t.Name.length + (t.Names.map fun s => s.length + 1).sum + ApiType.bulks t.Of + 8 := by cases t; simp only [ApiType.bulk]; omega
theorem ApiType.bulk_kid {t : ApiType} : ∀ {l : List ApiType}, t ∈ l → t.bulk ≤ ApiType.bulks l
  | x :: r, h => by
    simp only [ApiType.bulks]
    cases h with
    | head => omega
    | tail _ h => have := ApiType.bulk_kid h; omega
theorem ApiType.bulk_len : ∀ l : List ApiType, l.length ≤ ApiType.bulks l
  | [] => Nat.le_refl _
  | x :: r => by
    simp only [ApiType.bulks, List.length_cons]
    have := ApiType.bulk_len r
    have := ApiType.bulk_eq x
    omega
mutual
theorem ApiType.nodes_bulk : ∀ t : ApiType, t.nodes ≤ t.bulk
  | .mk _ _ _ _ _ _ of => by simp only [ApiType.nodes, ApiType.bulk]; have := ApiType.nodess_bulk of; omega
theorem ApiType.nodess_bulk : ∀ l : List ApiType, ApiType.nodess l ≤ ApiType.bulks l
  | [] => Nat.le_refl _
  | x :: r => by simp only [ApiType.nodess, ApiType.bulks]; have := ApiType.nodes_bulk x; have := ApiType.nodess_bulk r; omega
end
/-- a type of bounded size -/
def Ok (t : ApiType) : Prop := t.bulk ≤ BB
theorem Ok.kid {t x : ApiType} (h : Ok t) (hx : x ∈ t.Of) : Ok x := by
  unfold Ok at *
  have := ApiType.bulk_kid hx
  have := ApiType.bulk_eq t
  omega
theorem Ok.name {t : ApiType} (h : Ok t) : t.Name.length ≤ BB := by
  unfold Ok at *
  have := ApiType.bulk_eq t
  omega
theorem Ok.nodes {t : ApiType} (h : Ok t) : t.nodes ≤ BB := Nat.le_trans (ApiType.nodes_bulk t) h

/-! ### the program's CheckType -/
theorem bor (a b : Bool) : (bif a then true else b) = (a || b) := by cases a <;> rfl
theorem rep_deep (d : Int) (o : SyntaxReport) : syntax_report_deep d o = some ⟨o.nodes, max o.depth d, o.badForm, o.badName, o.badNumber⟩ := rfl
theorem rep_form (b : Bool) (o : SyntaxReport) : syntax_report_form b o = some ⟨o.nodes, o.depth, o.badForm || !b, o.badName, o.badNumber⟩ := by unfold syntax_report_form; rw [bor]
theorem rep_number (b : Bool) (o : SyntaxReport) : syntax_report_number b o = some ⟨o.nodes, o.depth, o.badForm, o.badName, o.badNumber || !b⟩ := by unfold syntax_report_number; rw [bor]
theorem rep_inside (a b c : Int) : syntax_inside a b c = some (inside a b c) := rfl
theorem rep_name (s : Str) (hs : s.length ≤ BB) (o : SyntaxReport) : syntax_report_name s o = some ⟨o.nodes, o.depth, o.badForm, o.badName || !isName s, o.badNumber⟩ := by
  unfold syntax_report_name
  rw [IsName_eq s hs]
  cases h : o.badName <;> simp
theorem rep_code (o : SyntaxReport) : syntax_report_code o = some (repCode o.nodes o.depth o.badForm o.badName o.badNumber) := by
  unfold syntax_report_code repCode
  cases (bif decide (o.nodes > 1024) then true else decide (o.depth > 12)) <;> cases o.badForm <;> cases o.badName <;> cases o.badNumber <;> rfl

def repT (o : SyntaxReport) (d : Int) (n m : Nat) (f a u : Bool) : SyntaxReport := ⟨o.nodes + n, max o.depth (d + m), o.badForm || !f, o.badName || !a, o.badNumber || !u⟩

end Go.Proofs.YtmilgoloagbmpaaGreatDoor

