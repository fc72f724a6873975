/-
  Expressions: both sides write the same text.
-/
import Derived.Test.YtmilgoloagbmpaaGreatDoorQeC
set_option linter.unusedSimpArgs false
set_option linter.unusedVariables false
namespace Go.Proofs.YtmilgoloagbmpaaGreatDoor
open Go.Am

theorem skid_eq {k : ApiExpr} (hk : ∀ b : Str, b.length + 40 * k.bulk ≤ LL → syntax_printer_expr k b = some (b ++ k.text)) (hl : k.text.length ≤ 40 * k.bulk) (req : Int) (b : Str) (hb : b.length + 2 + 40 * k.bulk ≤ LL) :
    syntax_printer_kid k req b = some (b ++ par req (k.Op, k.text)) := by
  rw [syntax_printer_kid, slevel_eq, ob]
  unfold par
  cases h : decide (lv k.Op ≥ req) with
  | true => rw [if_pos (by simp), hk b (by omega), ob]; rfl
  | false =>
    rw [if_neg (by simp), ws (by simp; omega), ob, hk (b ++ [40]) (by simp; omega), ob, ws (by simp; omega), ob]
    simp

theorem sprint_eq (e : ApiExpr) : FineE e → ∀ b : Str, b.length + 40 * e.bulk ≤ LL → syntax_printer_expr e b = some (b ++ e.text) := by
  induction e using ApiExpr.ind with
  | h e ih =>
  intro hf b hb
  have ih' := fun k hk => ih k hk (hf.kid hk)
  have hl := fun k hk => text_len k (hf.kid hk)
  cases hf.shape with
  | lit n =>
    have := num_len hf.small
    simp only [ApiExpr.bulk, ApiExpr.bulks] at hb
    rw [syntax_printer_expr, if_pos (by simp), itoa_eq hf.small, ob, ws (by omega), ob]
    rfl
  | tt =>
    simp only [ApiExpr.bulk, ApiExpr.bulks] at hb
    rw [syntax_printer_expr, if_neg (by simp), if_pos (by simp), ws (by simp; omega), ob]
    rfl
  | ff =>
    simp only [ApiExpr.bulk, ApiExpr.bulks] at hb
    rw [syntax_printer_expr, if_neg (by simp), if_neg (by simp), if_pos (by simp), ws (by simp; omega), ob]
    rfl
  | name nm =>
    simp only [ApiExpr.bulk, ApiExpr.bulks] at hb
    rw [syntax_printer_expr, if_neg (by simp), if_neg (by simp), if_neg (by simp), if_pos (by simp), ws (by simp only; omega), ob]
    rfl
  | field nm k =>
    have i1 := ih' k (by simp)
    have l1 := hl k (by simp)
    simp only [ApiExpr.bulk, ApiExpr.bulks] at hb
    rw [syntax_printer_expr, if_neg (by simp), if_neg (by simp), if_neg (by simp), if_neg (by simp), if_pos (by simp), show idx (ApiExpr.mk 4 0 nm [k]).Kids 0 = some k from rfl, ob, i1 b (by omega), ob,
      fit (by unfold LL at *; simp only; omega), ws (by simp; omega), ob]
    show some ((b ++ k.text) ++ ([46] ++ nm)) = some (b ++ (k.text ++ ([46] ++ nm)))
    rw [List.append_assoc]
  | index x y =>
    have i1 := ih' x (by simp); have i2 := ih' y (by simp)
    have l1 := hl x (by simp); have l2 := hl y (by simp)
    simp only [ApiExpr.bulk, ApiExpr.bulks] at hb
    rw [syntax_printer_expr, if_neg (by simp), if_neg (by simp), if_neg (by simp), if_neg (by simp), if_neg (by simp), if_pos (by simp), show idx (ApiExpr.mk 5 0 [] [x, y]).Kids 0 = some x from rfl, ob, i1 b (by omega), ob,
      ws (by simp; omega), ob, show idx (ApiExpr.mk 5 0 [] [x, y]).Kids 1 = some y from rfl, ob, i2 _ (by simp; omega), ob, ws (by simp; omega), ob]
    show some _ = some (b ++ (x.text ++ [91] ++ y.text ++ [93]))
    simp
  | neg k =>
    have i1 := ih' k (by simp)
    have l1 := hl k (by simp)
    simp only [ApiExpr.bulk, ApiExpr.bulks] at hb
    rw [syntax_printer_expr, if_neg (by simp), if_neg (by simp), if_neg (by simp), if_neg (by simp), if_neg (by simp), if_neg (by simp), if_pos (by simp), syntax_printer_expr_j1, if_pos (by simp), if_neg (by simp), syntax_printer_expr_j2,
      ws (by simp; omega), ob, show idx (ApiExpr.mk 6 0 [] [k]).Kids 0 = some k from rfl, ob, skid_eq i1 l1 6 _ (by simp; omega), ob]
    show some _ = some (b ++ ([45] ++ par 6 (k.Op, k.text)))
    simp
  | not k =>
    have i1 := ih' k (by simp)
    have l1 := hl k (by simp)
    simp only [ApiExpr.bulk, ApiExpr.bulks] at hb
    rw [syntax_printer_expr, if_neg (by simp), if_neg (by simp), if_neg (by simp), if_neg (by simp), if_neg (by simp), if_neg (by simp), if_neg (by simp), syntax_printer_expr_j1, if_pos (by simp), if_pos (by simp), syntax_printer_expr_j2,
      ws (by simp; omega), ob, show idx (ApiExpr.mk 7 0 [] [k]).Kids 0 = some k from rfl, ob, skid_eq i1 l1 6 _ (by simp; omega), ob]
    show some _ = some (b ++ ([33] ++ par 6 (k.Op, k.text)))
    simp
  | bin o x y h h' =>
    have i1 := ih' x (by simp); have i2 := ih' y (by simp)
    have l1 := hl x (by simp); have l2 := hl y (by simp)
    obtain ⟨g1, _, g2⟩ := sign_eq h h'
    have p1 := par_len (bif lv o == 3 then 4 else lv o) (x.Op, x.text)
    simp only [ApiExpr.bulk, ApiExpr.bulks] at hb p1
    have hw : IntKind.i64.wrap (lv o + 1) = lv o + 1 := by rcases bin_cases h h' with rfl | rfl | rfl | rfl | rfl | rfl | rfl | rfl | rfl | rfl | rfl | rfl | rfl <;> rfl
    have e1 : ∀ left, left = (bif lv o == 3 then 4 else lv o) → syntax_printer_binary_j1 (ApiExpr.mk o 0 [] [x, y]) b (lv o) left = some (b ++ (ApiExpr.mk o 0 [] [x, y]).text) := by
      rintro _ rfl
      rw [syntax_printer_binary_j1, show idx (ApiExpr.mk o 0 [] [x, y]).Kids 0 = some x from rfl, ob, skid_eq i1 l1 _ b (by omega), ob, g1, ob, fit (by unfold LL at *; omega), fit (by unfold LL at *; simp; omega),
        ws (by simp; omega), ob, show idx (ApiExpr.mk o 0 [] [x, y]).Kids 1 = some y from rfl, ob, hw, skid_eq i2 l2 _ _ (by simp; omega), ob, bin_text x y h h']
      simp
    have e2 : syntax_printer_binary (ApiExpr.mk o 0 [] [x, y]) b = some (b ++ (ApiExpr.mk o 0 [] [x, y]).text) := by
      rw [syntax_printer_binary, slevel_eq, ob]
      cases h3 : lv o == 3 with
      | true => rw [if_pos (by simp)]; exact e1 4 (by rw [h3]; rfl)
      | false => rw [if_neg (by simp)]; exact e1 (lv o) (by rw [h3]; rfl)
    have e3 : syntax_printer_expr (ApiExpr.mk o 0 [] [x, y]) b = (syntax_printer_binary (ApiExpr.mk o 0 [] [x, y]) b >>= fun x29 => some x29) := by
      have n : ∀ k : Int, k < 8 ∨ 20 < k → (o == k) = false := fun k hk => beq_eq_false_iff_ne.2 (by omega)
      rw [syntax_printer_expr]
      simp only [n 0 (by decide), n 1 (by decide), n 2 (by decide), n 3 (by decide), n 4 (by decide), n 5 (by decide), n 6 (by decide), n 7 (by decide)]
      rw [if_neg (by simp), if_neg (by simp), if_neg (by simp), if_neg (by simp), if_neg (by simp), if_neg (by simp), if_neg (by simp), syntax_printer_expr_j1, if_neg (by simp)]
      simp only [n 21 (by decide), n 22 (by decide), n 23 (by decide)]
      rw [if_neg (by simp), syntax_printer_expr_j3, if_neg (by simp)]
      simp only [n 23 (by decide)]
      rw [if_neg (by simp)]
    rw [e3, e2, ob]
  | min x y =>
    have i1 := ih' x (by simp); have i2 := ih' y (by simp)
    have l1 := hl x (by simp); have l2 := hl y (by simp)
    simp only [ApiExpr.bulk, ApiExpr.bulks] at hb
    rw [syntax_printer_expr, if_neg (by simp), if_neg (by simp), if_neg (by simp), if_neg (by simp), if_neg (by simp), if_neg (by simp), if_neg (by simp), syntax_printer_expr_j1, if_neg (by simp), if_pos (by simp), syntax_printer_expr_j3, if_pos (by simp), if_neg (by simp), syntax_printer_expr_j4,
      ws (by simp; omega), ob, syntax_printer_list, syntax_printer_list_l1, if_pos (by simp), show idx (ApiExpr.mk 21 0 [] [x, y]).Kids 0 = some x from rfl, ob, if_neg (by simp), i1 _ (by simp; omega), ob,
      show IntKind.i64.wrap (0 + 1) = 1 from rfl, syntax_printer_list_l1, if_pos (by simp), show idx (ApiExpr.mk 21 0 [] [x, y]).Kids 1 = some y from rfl, ob, if_pos (by simp), ws (by simp; omega), ob, i2 _ (by simp; omega), ob,
      show IntKind.i64.wrap (1 + 1) = 2 from rfl, syntax_printer_list_l1, if_neg (by simp), ob, ws (by simp; omega), ob]
    show some _ = some (b ++ ([109, 105, 110, 40] ++ x.text ++ [44, 32] ++ y.text ++ [41]))
    simp
  | max x y =>
    have i1 := ih' x (by simp); have i2 := ih' y (by simp)
    have l1 := hl x (by simp); have l2 := hl y (by simp)
    simp only [ApiExpr.bulk, ApiExpr.bulks] at hb
    rw [syntax_printer_expr, if_neg (by simp), if_neg (by simp), if_neg (by simp), if_neg (by simp), if_neg (by simp), if_neg (by simp), if_neg (by simp), syntax_printer_expr_j1, if_neg (by simp), if_neg (by simp), syntax_printer_expr_j3, if_pos (by simp), if_pos (by simp), syntax_printer_expr_j4,
      ws (by simp; omega), ob, syntax_printer_list, syntax_printer_list_l1, if_pos (by simp), show idx (ApiExpr.mk 22 0 [] [x, y]).Kids 0 = some x from rfl, ob, if_neg (by simp), i1 _ (by simp; omega), ob,
      show IntKind.i64.wrap (0 + 1) = 1 from rfl, syntax_printer_list_l1, if_pos (by simp), show idx (ApiExpr.mk 22 0 [] [x, y]).Kids 1 = some y from rfl, ob, if_pos (by simp), ws (by simp; omega), ob, i2 _ (by simp; omega), ob,
      show IntKind.i64.wrap (1 + 1) = 2 from rfl, syntax_printer_list_l1, if_neg (by simp), ob, ws (by simp; omega), ob]
    show some _ = some (b ++ ([109, 97, 120, 40] ++ x.text ++ [44, 32] ++ y.text ++ [41]))
    simp
  | cond x y z =>
    have i1 := ih' x (by simp); have i2 := ih' y (by simp); have i3 := ih' z (by simp)
    have l1 := hl x (by simp); have l2 := hl y (by simp); have l3 := hl z (by simp)
    have p1 := par_len 1 (x.Op, x.text)
    simp only [ApiExpr.bulk, ApiExpr.bulks] at hb p1
    rw [syntax_printer_expr, if_neg (by simp), if_neg (by simp), if_neg (by simp), if_neg (by simp), if_neg (by simp), if_neg (by simp), if_neg (by simp), syntax_printer_expr_j1, if_neg (by simp), if_neg (by simp), syntax_printer_expr_j3, if_neg (by simp), if_pos (by simp),
      show idx (ApiExpr.mk 23 0 [] [x, y, z]).Kids 0 = some x from rfl, ob, skid_eq i1 l1 1 b (by omega), ob, ws (by simp; omega), ob, show idx (ApiExpr.mk 23 0 [] [x, y, z]).Kids 1 = some y from rfl, ob, i2 _ (by simp; omega), ob,
      ws (by simp; omega), ob, show idx (ApiExpr.mk 23 0 [] [x, y, z]).Kids 2 = some z from rfl, ob, i3 _ (by simp; omega), ob]
    show some _ = some (b ++ (par 1 (x.Op, x.text) ++ [32, 63, 32] ++ y.text ++ [32, 58, 32] ++ z.text))
    simp

theorem rkid_eq {k : ApiExpr} (hk : ref10_ExprText k = some k.text) (hl : k.text.length ≤ 40 * k.bulk) (ho : k.bulk ≤ BB) (req : Int) : ref10_kid k req = some (par req (k.Op, k.text)) := by
  rw [ref10_kid, rlevel_eq, ob, hk, lt_ge]
  unfold par
  cases h : decide (lv k.Op ≥ req) with
  | true => rfl
  | false =>
    unfold BB at ho
    rw [Bool.not_false, if_pos (by simp), ob, fit (by unfold LL; omega), fit (by unfold LL; simp; omega)]
    rfl

theorem rtext_eq (e : ApiExpr) : FineE e → ref10_ExprText e = some e.text := by
  induction e using ApiExpr.ind with
  | h e ih =>
  intro hf
  have ih' := fun k hk => ih k hk (hf.kid hk)
  have hl := fun k hk => text_len k (hf.kid hk)
  have hko := fun k hk => (hf.kid (k := k) hk).ok
  have hb := hf.ok
  unfold OkE BB at hb
  cases hf.shape with
  | lit n => rw [ref10_ExprText, if_pos (by simp), number_eq hf.small, ob]; rfl
  | tt => rw [ref10_ExprText, if_neg (by simp), if_pos (by simp)]; rfl
  | ff => rw [ref10_ExprText, if_neg (by simp), if_neg (by simp), if_pos (by simp)]; rfl
  | name nm => rw [ref10_ExprText, if_neg (by simp), if_neg (by simp), if_neg (by simp), if_pos (by simp)]; rfl
  | field nm k =>
    have i1 := ih' k (by simp)
    have l1 := hl k (by simp)
    simp only [ApiExpr.bulk, ApiExpr.bulks] at hb
    rw [ref10_ExprText, if_neg (by simp), if_neg (by simp), if_neg (by simp), if_neg (by simp), if_pos (by simp), show idx (ApiExpr.mk 4 0 nm [k]).Kids 0 = some k from rfl, ob, i1, ob, fit (by unfold LL; omega), fit (by unfold LL; simp; omega)]
    show some ((k.text ++ [46]) ++ nm) = some (k.text ++ ([46] ++ nm))
    rw [List.append_assoc]
  | index x y =>
    have i1 := ih' x (by simp); have i2 := ih' y (by simp)
    have l1 := hl x (by simp); have l2 := hl y (by simp)
    simp only [ApiExpr.bulk, ApiExpr.bulks] at hb
    rw [ref10_ExprText, if_neg (by simp), if_neg (by simp), if_neg (by simp), if_neg (by simp), if_neg (by simp), if_pos (by simp), show idx (ApiExpr.mk 5 0 [] [x, y]).Kids 0 = some x from rfl, ob, i1, ob, fit (by unfold LL; omega),
      show idx (ApiExpr.mk 5 0 [] [x, y]).Kids 1 = some y from rfl, ob, i2, ob, fit (by unfold LL; simp; omega), fit (by unfold LL; simp; omega)]
    rfl
  | neg k =>
    have i1 := ih' k (by simp)
    have l1 := hl k (by simp)
    have p1 := par_len 6 (k.Op, k.text)
    simp only [ApiExpr.bulk, ApiExpr.bulks] at hb p1
    rw [ref10_ExprText, if_neg (by simp), if_neg (by simp), if_neg (by simp), if_neg (by simp), if_neg (by simp), if_neg (by simp), if_pos (by simp), show idx (ApiExpr.mk 6 0 [] [k]).Kids 0 = some k from rfl, ob, rkid_eq i1 l1 (hko k (by simp)), ob, fit (by unfold LL; omega)]
    rfl
  | not k =>
    have i1 := ih' k (by simp)
    have l1 := hl k (by simp)
    have p1 := par_len 6 (k.Op, k.text)
    simp only [ApiExpr.bulk, ApiExpr.bulks] at hb p1
    rw [ref10_ExprText, if_neg (by simp), if_neg (by simp), if_neg (by simp), if_neg (by simp), if_neg (by simp), if_neg (by simp), if_neg (by simp), if_pos (by simp), show idx (ApiExpr.mk 7 0 [] [k]).Kids 0 = some k from rfl, ob, rkid_eq i1 l1 (hko k (by simp)), ob, fit (by unfold LL; omega)]
    rfl
  | bin o x y h h' =>
    have i1 := ih' x (by simp); have i2 := ih' y (by simp)
    have l1 := hl x (by simp); have l2 := hl y (by simp)
    obtain ⟨_, g1, g2⟩ := sign_eq h h'
    have p1 := par_len (bif lv o == 3 then 4 else lv o) (x.Op, x.text)
    have p2 := par_len (lv o + 1) (y.Op, y.text)
    simp only [ApiExpr.bulk, ApiExpr.bulks] at hb p1 p2
    have hw : IntKind.i64.wrap (lv o + 1) = lv o + 1 := by rcases bin_cases h h' with rfl | rfl | rfl | rfl | rfl | rfl | rfl | rfl | rfl | rfl | rfl | rfl | rfl <;> rfl
    have e1 : ∀ left, left = (bif lv o == 3 then 4 else lv o) → ref10_ExprText_j1 (ApiExpr.mk o 0 [] [x, y]) (lv o) left = some (ApiExpr.mk o 0 [] [x, y]).text := by
      rintro _ rfl
      rw [ref10_ExprText_j1, show idx (ApiExpr.mk o 0 [] [x, y]).Kids 0 = some x from rfl, ob, rkid_eq i1 l1 (hko x (by simp)), ob, fit (by unfold LL; omega), g1, ob, fit (by unfold LL; simp; omega), fit (by unfold LL; simp; omega),
        show idx (ApiExpr.mk o 0 [] [x, y]).Kids 1 = some y from rfl, ob, hw, rkid_eq i2 l2 (hko y (by simp)), ob, fit (by unfold LL; simp; omega), bin_text x y h h']
      simp
    have n : ∀ k : Int, k < 8 ∨ 20 < k → (o == k) = false := fun k hk => beq_eq_false_iff_ne.2 (by omega)
    rw [ref10_ExprText]
    simp only [n 0 (by decide), n 1 (by decide), n 2 (by decide), n 3 (by decide), n 4 (by decide), n 5 (by decide), n 6 (by decide), n 7 (by decide), n 21 (by decide), n 22 (by decide), n 23 (by decide)]
    rw [if_neg (by simp), if_neg (by simp), if_neg (by simp), if_neg (by simp), if_neg (by simp), if_neg (by simp), if_neg (by simp), if_neg (by simp), if_neg (by simp), if_neg (by simp), if_neg (by simp), rlevel_eq, ob]
    cases h3 : lv o == 3 with
    | true => rw [if_pos (by simp)]; exact e1 4 (by rw [h3]; rfl)
    | false => rw [if_neg (by simp)]; exact e1 (lv o) (by rw [h3]; rfl)
  | min x y =>
    have i1 := ih' x (by simp); have i2 := ih' y (by simp)
    have l1 := hl x (by simp); have l2 := hl y (by simp)
    simp only [ApiExpr.bulk, ApiExpr.bulks] at hb
    rw [ref10_ExprText, if_neg (by simp), if_neg (by simp), if_neg (by simp), if_neg (by simp), if_neg (by simp), if_neg (by simp), if_neg (by simp), if_neg (by simp), if_pos (by simp), show idx (ApiExpr.mk 21 0 [] [x, y]).Kids 0 = some x from rfl, ob, i1, ob,
      fit (by unfold LL; omega), fit (by unfold LL; simp; omega), show idx (ApiExpr.mk 21 0 [] [x, y]).Kids 1 = some y from rfl, ob, i2, ob, fit (by unfold LL; simp; omega), fit (by unfold LL; simp; omega)]
    rfl
  | max x y =>
    have i1 := ih' x (by simp); have i2 := ih' y (by simp)
    have l1 := hl x (by simp); have l2 := hl y (by simp)
    simp only [ApiExpr.bulk, ApiExpr.bulks] at hb
    rw [ref10_ExprText, if_neg (by simp), if_neg (by simp), if_neg (by simp), if_neg (by simp), if_neg (by simp), if_neg (by simp), if_neg (by simp), if_neg (by simp), if_neg (by simp), if_pos (by simp), show idx (ApiExpr.mk 22 0 [] [x, y]).Kids 0 = some x from rfl, ob, i1, ob,
      fit (by unfold LL; omega), fit (by unfold LL; simp; omega), show idx (ApiExpr.mk 22 0 [] [x, y]).Kids 1 = some y from rfl, ob, i2, ob, fit (by unfold LL; simp; omega), fit (by unfold LL; simp; omega)]
    rfl
  | cond x y z =>
    have i1 := ih' x (by simp); have i2 := ih' y (by simp); have i3 := ih' z (by simp)
    have l1 := hl x (by simp); have l2 := hl y (by simp); have l3 := hl z (by simp)
    have p1 := par_len 1 (x.Op, x.text)
    simp only [ApiExpr.bulk, ApiExpr.bulks] at hb p1
    rw [ref10_ExprText, if_neg (by simp), if_neg (by simp), if_neg (by simp), if_neg (by simp), if_neg (by simp), if_neg (by simp), if_neg (by simp), if_neg (by simp), if_neg (by simp), if_neg (by simp), if_pos (by simp),
      show idx (ApiExpr.mk 23 0 [] [x, y, z]).Kids 0 = some x from rfl, ob, rkid_eq i1 l1 (hko x (by simp)), ob, fit (by unfold LL; omega), show idx (ApiExpr.mk 23 0 [] [x, y, z]).Kids 1 = some y from rfl, ob, i2, ob,
      fit (by unfold LL; simp; omega), fit (by unfold LL; simp; omega), show idx (ApiExpr.mk 23 0 [] [x, y, z]).Kids 2 = some z from rfl, ob, i3, ob, fit (by unfold LL; simp; omega)]
    rfl

/-! ### the printed text, or the code -/
def shortP (s : Str) : Str × Int := bif decide ((s.length : Int) > 8192) then ([], 5) else (s, 0)
theorem stext_eq (b : Str) : syntax_printer_text b = some (shortP b) := by
  unfold syntax_printer_text X_BLen_SyntaxPrinter X_BString_SyntaxPrinter shortP
  rw [ob]
  cases decide ((b.length : Int) > 8192) <;> rfl
theorem rshort_eq (b : Str) : ref10_short b = some (shortP b) := by
  unfold ref10_short shortP
  cases decide ((b.length : Int) > 8192) <;> rfl
def printE (e : ApiExpr) : Str × Int := bif checkE e != 0 then ([], checkE e) else shortP e.text
theorem PrintExpr_eq (e : ApiExpr) (ht : OkE e) : syntax_PrintExpr e = some (printE e) := by
  unfold syntax_PrintExpr printE
  rw [CheckExpr_eq e ht, ob]
  cases h : checkE e != 0 with
  | true => rfl
  | false =>
    have hf := fineE_of ht (by simpa using h)
    have hb := ht
    unfold OkE BB at hb
    rw [if_neg (by simp), sprint_eq e hf [] (by unfold LL; simp; omega), ob, stext_eq, ob]
    rfl
theorem rPrintExpr_eq (e : ApiExpr) (ht : OkE e) : ref10_PrintExpr e = some (printE e) := by
  unfold ref10_PrintExpr printE
  rw [rCheckExpr_eq e ht, ob]
  cases h : checkE e != 0 with
  | true => rfl
  | false =>
    have hf := fineE_of ht (by simpa using h)
    rw [if_neg (by simp), rtext_eq e hf, ob, rshort_eq, ob]
    rfl
theorem SyntaxExpr_true (e : ApiExpr) (ht : OkE e) (hk : law10_known = some true) : law10_SyntaxExpr e = some true := by
  unfold law10_SyntaxExpr
  obtain ⟨f, hf⟩ := fewE_some e ht 1200
  rw [hk, ob, if_neg (by simp), hf, ob]
  cases f with
  | false => rfl
  | true =>
    rw [if_neg (by simp), PrintExpr_eq e ht, ob, rPrintExpr_eq e ht, ob, CheckExpr_eq e ht, ob, rCheckExpr_eq e ht, ob]
    simp
end Go.Proofs.YtmilgoloagbmpaaGreatDoor

