/-
  Expressions: their texts on both sides.
-/
import Derived.Test.YtmilgoloagbmpaaGreatDoorQeB
set_option linter.unusedSimpArgs false
set_option linter.unusedVariables false
namespace Go.Proofs.YtmilgoloagbmpaaGreatDoor
open Go.Am

/-! ### numbers -/
def SmallI (n : Int) : Prop := -1099511627776 ≤ n ∧ n ≤ 1099511627776
theorem num_len {n : Int} (h : SmallI n) : (Lib.itoa n).length ≤ 19 := itoa_len (by unfold SmallI at h; omega)
theorem itoa_eq {n : Int} (h : SmallI n) : X_Itoa n = some (Lib.itoa n) := by
  unfold X_Itoa
  rw [if_pos (decide_eq_true (by unfold SmallI at h; omega))]
theorem digit_eq (k : Nat) (h : k < 1099511627777) : byteStr [IntKind.u8.wrap (IntKind.i64.wrap (48 + Int.tmod (k : Int) 10))] = [UInt8.ofNat (48 + k % 10)] := by
  have e : Int.tmod (k : Int) 10 = ((k % 10 : Nat) : Int) := by rw [Int.tmod_eq_emod_of_nonneg (by omega)]; omega
  have : k % 10 < 10 := Nat.mod_lt _ (by decide)
  rw [e, wr (by omega) (by omega), wrap_u8 (by omega) (by omega)]
  unfold byteStr
  rw [List.map_cons, List.map_nil, show ((48 : Int) + ((k % 10 : Nat) : Int)).toNat = 48 + k % 10 by omega]
theorem number_nat (k : Nat) : k < 1099511627777 → ref10_Number (k : Int) = some (Lib.decDigits k) := by
  induction k using Nat.strongRecOn with
  | ind k ih =>
  intro h
  rw [ref10_Number, if_neg (by simp), digit_eq k h, Lib.decDigits]
  by_cases h10 : k < 10
  · rw [if_pos (decide_eq_true (by omega)), dif_pos h10, Nat.mod_eq_of_lt h10]
  · have e : IntKind.i64.wrap (Int.tdiv (k : Int) 10) = ((k / 10 : Nat) : Int) := by
      rw [Int.tdiv_eq_ediv_of_nonneg (by omega), wr (by omega) (by omega)]; rfl
    have hl : (Lib.decDigits (k / 10)).length ≤ 18 := decDigits_len 17 _ (by omega)
    rw [if_neg (by simp; omega), dif_neg h10, e, ih (k / 10) (by omega) (by omega), ob, if_pos (decide_eq_true (by unfold maxLen; simp; omega))]
theorem number_eq {n : Int} (h : SmallI n) : ref10_Number n = some (Lib.itoa n) := by
  unfold SmallI at h
  unfold Lib.itoa
  by_cases h0 : n < 0
  · have e : IntKind.i64.wrap (0 - n) = (n.natAbs : Int) := by rw [wr (by omega) (by omega)]; omega
    have hl : (Lib.decDigits n.natAbs).length ≤ 18 := decDigits_len 17 _ (by omega)
    rw [ref10_Number, if_pos (decide_eq_true h0), e, number_nat _ (by omega), ob, if_pos h0, if_pos (decide_eq_true (by unfold maxLen; omega))]
    rfl
  · rw [if_neg h0]
    have := number_nat n.toNat (by omega)
    rw [show ((n.toNat : Nat) : Int) = n by omega] at this
    exact this

/-! ### what is written -/
def LL : Nat := 70368744177664
theorem ws {s b : Str} (h : b.length + s.length ≤ LL) : X_WriteString_SyntaxPrinter s b = some ((s.length : Int), b ++ s) := by
  unfold X_WriteString_SyntaxPrinter
  rw [if_pos (decide_eq_true (by unfold LL at h; omega))]
theorem fit {n : Nat} {α : Type} {x : Option α} (h : n ≤ LL) : (if decide (n ≤ maxLen) = true then x else none) = x := by
  rw [if_pos (decide_eq_true (by unfold LL at h; unfold maxLen; omega))]

/-! ### operators -/
def lv (o : Int) : Int :=
  bif o == 23 then 0 else bif o == 20 then 1 else bif o == 19 then 2 else bif (bif decide (o ≥ 13) then decide (o ≤ 18) else false) then 3
  else bif (bif o == 8 then true else o == 9) then 4 else bif (bif (bif o == 10 then true else o == 11) then true else o == 12) then 5 else bif (bif o == 6 then true else o == 7) then 6 else 7
theorem rlevel_eq (o : Int) : ref10_level o = some (lv o) := by
  unfold ref10_level lv
  cases o == 23 <;> cases o == 20 <;> cases o == 19 <;> cases (bif decide (o ≥ 13) then decide (o ≤ 18) else false) <;> cases (bif o == 8 then true else o == 9) <;>
    cases (bif (bif o == 10 then true else o == 11) then true else o == 12) <;> cases (bif o == 6 then true else o == 7) <;> rfl
theorem op_cases (o : Int) : (o < 0 ∨ 23 < o) ∨ o = 0 ∨ o = 1 ∨ o = 2 ∨ o = 3 ∨ o = 4 ∨ o = 5 ∨ o = 6 ∨ o = 7 ∨ o = 8 ∨ o = 9 ∨ o = 10 ∨ o = 11 ∨ o = 12 ∨ o = 13 ∨ o = 14 ∨ o = 15 ∨ o = 16 ∨ o = 17 ∨ o = 18 ∨ o = 19 ∨ o = 20 ∨ o = 21 ∨ o = 22 ∨ o = 23 := by omega
theorem far {o k : Int} (h : o < 0 ∨ 23 < o) (hk : 0 ≤ k ∧ k ≤ 23) : (o == k) = false := beq_eq_false_iff_ne.2 (by omega)
theorem slevel_eq (o : Int) : syntax_level o = some (lv o) := by
  rcases op_cases o with h | rfl | rfl | rfl | rfl | rfl | rfl | rfl | rfl | rfl | rfl | rfl | rfl | rfl | rfl | rfl | rfl | rfl | rfl | rfl | rfl | rfl | rfl | rfl | rfl
  · have hr : (bif decide (o ≥ 13) then decide (o ≤ 18) else false) = false := by
      rcases h with h | h
      · rw [decide_eq_false (by omega)]; rfl
      · rw [decide_eq_false (show ¬ o ≤ 18 by omega)]; cases decide (o ≥ 13) <;> rfl
    have f := fun k hk => far (k := k) h hk
    simp only [syntax_level, syntax_level_j1, syntax_level_j2, syntax_level_j3, lv, hr, f 23 (by decide), f 20 (by decide), f 19 (by decide), f 13 (by decide), f 14 (by decide), f 15 (by decide), f 16 (by decide), f 17 (by decide), f 18 (by decide),
      f 8 (by decide), f 9 (by decide), f 10 (by decide), f 11 (by decide), f 12 (by decide), f 6 (by decide), f 7 (by decide)]
    rfl
  all_goals rfl
def sign (o : Int) : Str := tab_signs.getD (o - 8).toNat []
theorem bin_cases {o : Int} (h : 8 ≤ o) (h' : o ≤ 20) : o = 8 ∨ o = 9 ∨ o = 10 ∨ o = 11 ∨ o = 12 ∨ o = 13 ∨ o = 14 ∨ o = 15 ∨ o = 16 ∨ o = 17 ∨ o = 18 ∨ o = 19 ∨ o = 20 := by omega
theorem sign_eq {o : Int} (h : 8 ≤ o) (h' : o ≤ 20) : idx tab_signs (IntKind.i64.wrap (o - 8)) = some (sign o) ∧ ref10_sign o = some (sign o) ∧ (sign o).length ≤ 2 := by
  rcases bin_cases h h' with rfl | rfl | rfl | rfl | rfl | rfl | rfl | rfl | rfl | rfl | rfl | rfl | rfl
  all_goals exact ⟨rfl, rfl, by decide⟩

/-! ### texts -/
def par (req : Int) (p : Int × Str) : Str := bif decide (lv p.1 ≥ req) then p.2 else [40] ++ p.2 ++ [41]
def etx (op n : Int) (nm : Str) (ks : List (Int × Str)) : Str :=
  let k := fun i => ks.getD i (0, [])
  bif op == 0 then Lib.itoa n else bif op == 1 then [116, 114, 117, 101] else bif op == 2 then [102, 97, 108, 115, 101] else bif op == 3 then nm
  else bif op == 4 then (k 0).2 ++ ([46] ++ nm) else bif op == 5 then (k 0).2 ++ [91] ++ (k 1).2 ++ [93] else bif op == 6 then [45] ++ par 6 (k 0) else bif op == 7 then [33] ++ par 6 (k 0)
  else bif op == 21 then [109, 105, 110, 40] ++ (k 0).2 ++ [44, 32] ++ (k 1).2 ++ [41] else bif op == 22 then [109, 97, 120, 40] ++ (k 0).2 ++ [44, 32] ++ (k 1).2 ++ [41]
  else bif op == 23 then par 1 (k 0) ++ [32, 63, 32] ++ (k 1).2 ++ [32, 58, 32] ++ (k 2).2
  else par (bif lv op == 3 then 4 else lv op) (k 0) ++ ([32] ++ sign op ++ [32]) ++ par (lv op + 1) (k 1)
mutual
def ApiExpr.text : ApiExpr → Str
  | .mk op n nm ks => etx op n nm (ApiExpr.texts ks)
def ApiExpr.texts : List ApiExpr → List (Int × Str)
  | [] => []
  | x :: r => (x.Op, ApiExpr.text x) :: ApiExpr.texts r
end

theorem len2 {α : Type} {l : List α} (h : l.length = 2) : ∃ a b, l = [a, b] := by
  match l, h with
  | [a, b], _ => exact ⟨a, b, rfl⟩
theorem len3 {α : Type} {l : List α} (h : l.length = 3) : ∃ a b c, l = [a, b, c] := by
  match l, h with
  | [a, b, c], _ => exact ⟨a, b, c, rfl⟩

/-- the shapes of well-formed expressions -/
inductive Shape : ApiExpr → Prop
  | lit (n) : Shape (.mk 0 n [] [])
  | tt : Shape (.mk 1 0 [] [])
  | ff : Shape (.mk 2 0 [] [])
  | name (nm) : Shape (.mk 3 0 nm [])
  | field (nm k) : Shape (.mk 4 0 nm [k])
  | index (a b) : Shape (.mk 5 0 [] [a, b])
  | neg (k) : Shape (.mk 6 0 [] [k])
  | not (k) : Shape (.mk 7 0 [] [k])
  | bin (o a b) (h : 8 ≤ o) (h' : o ≤ 20) : Shape (.mk o 0 [] [a, b])
  | min (a b) : Shape (.mk 21 0 [] [a, b])
  | max (a b) : Shape (.mk 22 0 [] [a, b])
  | cond (a b c) : Shape (.mk 23 0 [] [a, b, c])

theorem shape_of (e : ApiExpr) (h : eform e = true) : Shape e := by
  obtain ⟨op, n, nm, ks⟩ := e
  unfold eform at h
  simp only [Bool.and_eq_true] at h
  obtain ⟨⟨⟨h1, h2⟩, h3⟩, _⟩ := h
  have e1 : ar op = (ks.length : Int) := by simpa [ef1] using h1
  have e2 : op ≠ 0 → n = 0 := fun hne => by
    have := beq_eq_false_iff_ne.2 hne
    simp only [ef2, this] at h2
    cases hn : n == 0 with
    | true => simpa using hn
    | false => rw [hn] at h2; cases h2
  have e3 : op ≠ 3 → op ≠ 4 → nm = [] := fun hne hne' => by
    have := beq_eq_false_iff_ne.2 hne
    have h4 := beq_eq_false_iff_ne.2 hne'
    simp only [ef3, this, h4] at h3
    cases hn : nm == [] with
    | true => simpa using hn
    | false => rw [hn] at h3; cases h3
  rcases op_cases op with h | h
  · have : ar op = -1 := by
      have f := fun k hk => far (k := k) h hk
      have hr : (bif decide (op ≥ 8) then decide (op ≤ 22) else false) = false := by
        rcases h with h | h
        · rw [decide_eq_false (by omega)]; rfl
        · rw [decide_eq_false (show ¬ op ≤ 22 by omega)]; cases decide (op ≥ 8) <;> rfl
      unfold ar
      rw [hr, f 0 (by decide), f 1 (by decide), f 2 (by decide), f 3 (by decide), f 4 (by decide), f 6 (by decide), f 7 (by decide), f 5 (by decide), f 23 (by decide)]
      rfl
    omega
  by_cases hb : 8 ≤ op ∧ op ≤ 20
  · have e4 : ar op = 2 := by rcases bin_cases hb.1 hb.2 with rfl | rfl | rfl | rfl | rfl | rfl | rfl | rfl | rfl | rfl | rfl | rfl | rfl <;> rfl
    obtain ⟨a, b, rfl⟩ := len2 (l := ks) (by omega)
    obtain rfl := e2 (by omega)
    obtain rfl := e3 (by omega) (by omega)
    exact .bin _ _ _ hb.1 hb.2
  have hc : op = 0 ∨ op = 1 ∨ op = 2 ∨ op = 3 ∨ op = 4 ∨ op = 5 ∨ op = 6 ∨ op = 7 ∨ op = 21 ∨ op = 22 ∨ op = 23 := by omega
  rcases hc with rfl | rfl | rfl | rfl | rfl | rfl | rfl | rfl | rfl | rfl | rfl
  · obtain rfl := List.eq_nil_of_length_eq_zero (l := ks) (by have : ar 0 = 0 := rfl; omega)
    obtain rfl := e3 (by decide) (by decide)
    exact .lit n
  · obtain rfl := List.eq_nil_of_length_eq_zero (l := ks) (by have : ar 1 = 0 := rfl; omega)
    obtain rfl := e3 (by decide) (by decide)
    obtain rfl := e2 (by decide)
    exact .tt
  · obtain rfl := List.eq_nil_of_length_eq_zero (l := ks) (by have : ar 2 = 0 := rfl; omega)
    obtain rfl := e3 (by decide) (by decide)
    obtain rfl := e2 (by decide)
    exact .ff
  · obtain rfl := List.eq_nil_of_length_eq_zero (l := ks) (by have : ar 3 = 0 := rfl; omega)
    obtain rfl := e2 (by decide)
    exact .name nm
  · obtain ⟨k, rfl⟩ := List.length_eq_one_iff.1 (show ks.length = 1 by have : ar 4 = 1 := rfl; omega)
    obtain rfl := e2 (by decide)
    exact .field nm k
  · obtain ⟨a, b, rfl⟩ := len2 (l := ks) (by have : ar 5 = 2 := rfl; omega)
    obtain rfl := e3 (by decide) (by decide)
    obtain rfl := e2 (by decide)
    exact .index a b
  · obtain ⟨k, rfl⟩ := List.length_eq_one_iff.1 (show ks.length = 1 by have : ar 6 = 1 := rfl; omega)
    obtain rfl := e3 (by decide) (by decide)
    obtain rfl := e2 (by decide)
    exact .neg k
  · obtain ⟨k, rfl⟩ := List.length_eq_one_iff.1 (show ks.length = 1 by have : ar 7 = 1 := rfl; omega)
    obtain rfl := e3 (by decide) (by decide)
    obtain rfl := e2 (by decide)
    exact .not k
  · obtain ⟨a, b, rfl⟩ := len2 (l := ks) (by have : ar 21 = 2 := rfl; omega)
    obtain rfl := e3 (by decide) (by decide)
    obtain rfl := e2 (by decide)
    exact .min a b
  · obtain ⟨a, b, rfl⟩ := len2 (l := ks) (by have : ar 22 = 2 := rfl; omega)
    obtain rfl := e3 (by decide) (by decide)
    obtain rfl := e2 (by decide)
    exact .max a b
  · obtain ⟨a, b, c, rfl⟩ := len3 (l := ks) (by have : ar 23 = 3 := rfl; omega)
    obtain rfl := e3 (by decide) (by decide)
    obtain rfl := e2 (by decide)
    exact .cond a b c

/-- what is asked of expressions that are written -/
structure FineE (e : ApiExpr) : Prop where
  form : e.all eform = true
  numb : e.all enumb = true
  ok : OkE e
theorem FineE.kid {e k : ApiExpr} (h : FineE e) (hk : k ∈ e.Kids) : FineE k := by
  have h1 := h.form
  have h2 := h.numb
  rw [ApiExpr.all_eq, Bool.and_eq_true] at h1 h2
  exact ⟨ApiExpr.alls_mem h1.2 hk, ApiExpr.alls_mem h2.2 hk, h.ok.kid hk⟩
theorem FineE.shape {e : ApiExpr} (h : FineE e) : Shape e := by
  have h1 := h.form
  rw [ApiExpr.all_eq, Bool.and_eq_true] at h1
  exact shape_of e h1.1
theorem FineE.small {n : Int} (h : FineE (.mk 0 n [] [])) : SmallI n := by
  have h2 := h.numb
  rw [ApiExpr.all_eq, Bool.and_eq_true] at h2
  have h3 := h2.1
  unfold enumb inside at h3
  simp at h3
  unfold SmallI
  omega
theorem fineE_of {e : ApiExpr} (ht : OkE e) (h : checkE e = 0) : FineE e := by
  unfold checkE repCode at h
  cases hb : (bif decide ((e.nodes : Int) > 1024) then true else decide ((e.depth : Int) > 12)) <;> rw [hb] at h
  · cases hf : e.all eform <;> rw [hf] at h
    · cases h
    · cases hn : e.all ename <;> rw [hn] at h
      · cases h
      · cases hu : e.all enumb <;> rw [hu] at h
        · cases h
        · exact ⟨hf, hu, ht⟩
  · cases h

theorem par_len (r : Int) (p : Int × Str) : (par r p).length ≤ p.2.length + 2 := by
  unfold par
  cases decide (lv p.1 ≥ r) <;> simp <;> omega
theorem bin_text {o : Int} (a b : ApiExpr) (h : 8 ≤ o) (h' : o ≤ 20) : (ApiExpr.mk o 0 [] [a, b]).text = par (bif lv o == 3 then 4 else lv o) (a.Op, a.text) ++ ([32] ++ sign o ++ [32]) ++ par (lv o + 1) (b.Op, b.text) := by
  rcases bin_cases h h' with rfl | rfl | rfl | rfl | rfl | rfl | rfl | rfl | rfl | rfl | rfl | rfl | rfl
  all_goals rfl
theorem text_len (e : ApiExpr) : FineE e → e.text.length ≤ 40 * e.bulk := by
  induction e using ApiExpr.ind with
  | h e ih =>
  intro hf
  have ih' := fun k hk => ih k hk (hf.kid hk)
  cases hf.shape with
  | lit n =>
    have := num_len hf.small
    show (Lib.itoa n).length ≤ _
    simp only [ApiExpr.bulk, ApiExpr.bulks]; omega
  | tt => decide
  | ff => decide
  | name nm => show nm.length ≤ _; simp only [ApiExpr.bulk, ApiExpr.bulks]; omega
  | field nm k =>
    have := ih' k (by simp)
    show (k.text ++ ([46] ++ nm)).length ≤ _
    simp only [ApiExpr.bulk, ApiExpr.bulks, List.length_append, List.length_cons, List.length_nil]; omega
  | index a b =>
    have := ih' a (by simp); have := ih' b (by simp)
    show (a.text ++ [91] ++ b.text ++ [93]).length ≤ _
    simp only [ApiExpr.bulk, ApiExpr.bulks, List.length_append, List.length_cons, List.length_nil]; omega
  | neg k =>
    have := ih' k (by simp); have := par_len 6 (k.Op, k.text)
    show ([45] ++ par 6 (k.Op, k.text)).length ≤ _
    simp only [ApiExpr.bulk, ApiExpr.bulks, List.length_append, List.length_cons, List.length_nil] at *; omega
  | not k =>
    have := ih' k (by simp); have := par_len 6 (k.Op, k.text)
    show ([33] ++ par 6 (k.Op, k.text)).length ≤ _
    simp only [ApiExpr.bulk, ApiExpr.bulks, List.length_append, List.length_cons, List.length_nil] at *; omega
  | bin o a b h h' =>
    have := ih' a (by simp); have := ih' b (by simp)
    have := par_len (bif lv o == 3 then 4 else lv o) (a.Op, a.text); have := par_len (lv o + 1) (b.Op, b.text)
    have := (sign_eq h h').2.2
    rw [bin_text a b h h']
    simp only [ApiExpr.bulk, ApiExpr.bulks, List.length_append, List.length_cons, List.length_nil] at *; omega
  | min a b =>
    have := ih' a (by simp); have := ih' b (by simp)
    show ([109, 105, 110, 40] ++ a.text ++ [44, 32] ++ b.text ++ [41]).length ≤ _
    simp only [ApiExpr.bulk, ApiExpr.bulks, List.length_append, List.length_cons, List.length_nil]; omega
  | max a b =>
    have := ih' a (by simp); have := ih' b (by simp)
    show ([109, 97, 120, 40] ++ a.text ++ [44, 32] ++ b.text ++ [41]).length ≤ _
    simp only [ApiExpr.bulk, ApiExpr.bulks, List.length_append, List.length_cons, List.length_nil]; omega
  | cond a b c =>
    have := ih' a (by simp); have := ih' b (by simp); have := ih' c (by simp)
    have := par_len 1 (a.Op, a.text)
    show (par 1 (a.Op, a.text) ++ [32, 63, 32] ++ b.text ++ [32, 58, 32] ++ c.text).length ≤ _
    simp only [ApiExpr.bulk, ApiExpr.bulks, List.length_append, List.length_cons, List.length_nil] at *; omega
end Go.Proofs.YtmilgoloagbmpaaGreatDoor

