/- A part of the proof of SyntaxApart. -/
import Derived.Test.YtmilgoloagbmpaaGreatDoorDgB
import Derived.Test.YtmilgoloagbmpaaGreatDoorAmB
set_option maxRecDepth 100000
set_option maxHeartbeats 4000000
set_option linter.unusedVariables false
namespace Go.Proofs.YtmilgoloagbmpaaGreatDoor
open Go.Am
def law10_lit_F (fu : Nat) (n : Int) : Option ApiExpr :=
  some (ApiExpr.mk 0 n [] [])
theorem law10_lit_le (fu : Nat) (n : Int) : Le (law10_lit_F fu n) (law10_lit n) := by
  unfold law10_lit_F law10_lit
  repeat (first | exact Le.rfl | exact X_Itoa_le _ | refine Le.bind ?_ (fun _ => ?_) | refine Le.ite ?_ ?_)
def law10_node_F (fu : Nat) (o : Int) (kids : List ApiExpr) : Option ApiExpr :=
  some (ApiExpr.mk o 0 [] kids)
theorem law10_node_le (fu : Nat) (o : Int) (kids : List ApiExpr) : Le (law10_node_F fu o kids) (law10_node o kids) := by
  unfold law10_node_F law10_node
  repeat (first | exact Le.rfl | exact X_Itoa_le _ | refine Le.bind ?_ (fun _ => ?_) | refine Le.ite ?_ ?_)
def law10_name_F (fu : Nat) (s : Str) : Option ApiExpr :=
  some (ApiExpr.mk 3 0 s [])
theorem law10_name_le (fu : Nat) (s : Str) : Le (law10_name_F fu s) (law10_name s) := by
  unfold law10_name_F law10_name
  repeat (first | exact Le.rfl | exact X_Itoa_le _ | refine Le.bind ?_ (fun _ => ?_) | refine Le.ite ?_ ?_)
def syntax_report_deep_F (fu : Nat) (d : Int) (syntaxReport : SyntaxReport) : Option SyntaxReport :=
  some (SyntaxReport.mk syntaxReport.nodes (max syntaxReport.depth d) syntaxReport.badForm syntaxReport.badName syntaxReport.badNumber)
theorem syntax_report_deep_le (fu : Nat) (d : Int) (syntaxReport : SyntaxReport) : Le (syntax_report_deep_F fu d syntaxReport) (syntax_report_deep d syntaxReport) := by
  unfold syntax_report_deep_F syntax_report_deep
  repeat (first | exact Le.rfl | exact X_Itoa_le _ | refine Le.bind ?_ (fun _ => ?_) | refine Le.ite ?_ ?_)
def syntax_arity_j2_F (fu : Nat) (op : Int) (v9 : Bool) : Option Int :=
  if v9 = true then
    some 1
  else
    if (op == 5) = true then
      some 2
    else
      if (op == 23) = true then
        some 3
      else
        if (bif (decide (op ≥ 8)) then (decide (op ≤ 22)) else false) = true then
          some 2
        else
          some (-1)
theorem syntax_arity_j2_le (fu : Nat) (op : Int) (v9 : Bool) : Le (syntax_arity_j2_F fu op v9) (syntax_arity_j2 op v9) := by
  unfold syntax_arity_j2_F syntax_arity_j2
  repeat (first | exact Le.rfl | exact X_Itoa_le _ | refine Le.bind ?_ (fun _ => ?_) | refine Le.ite ?_ ?_)
def syntax_arity_j1_F (fu : Nat) (op : Int) (v4 : Bool) : Option Int :=
  if v4 = true then
    some 0
  else
    if (op == 4) = true then
      syntax_arity_j2_F fu op (op == 4)
    else
      if (op == 6) = true then
        syntax_arity_j2_F fu op (op == 6)
      else
        syntax_arity_j2_F fu op (op == 7)
theorem syntax_arity_j1_le (fu : Nat) (op : Int) (v4 : Bool) : Le (syntax_arity_j1_F fu op v4) (syntax_arity_j1 op v4) := by
  unfold syntax_arity_j1_F syntax_arity_j1
  repeat (first | exact Le.rfl | exact syntax_arity_j2_le fu _ _ | exact X_Itoa_le _ | refine Le.bind ?_ (fun _ => ?_) | refine Le.ite ?_ ?_)
def syntax_arity_F (fu : Nat) (op : Int) : Option Int :=
  if (op == 0) = true then
    syntax_arity_j1_F fu op (op == 0)
  else
    if (op == 1) = true then
      syntax_arity_j1_F fu op (op == 1)
    else
      if (op == 2) = true then
        syntax_arity_j1_F fu op (op == 2)
      else
        syntax_arity_j1_F fu op (op == 3)
theorem syntax_arity_le (fu : Nat) (op : Int) : Le (syntax_arity_F fu op) (syntax_arity op) := by
  unfold syntax_arity_F syntax_arity
  repeat (first | exact Le.rfl | exact syntax_arity_j1_le fu _ _ | exact X_Itoa_le _ | refine Le.bind ?_ (fun _ => ?_) | refine Le.ite ?_ ?_)
def syntax_report_form_F (fu : Nat) (ok : Bool) (syntaxReport : SyntaxReport) : Option SyntaxReport :=
  some (SyntaxReport.mk syntaxReport.nodes syntaxReport.depth (bif syntaxReport.badForm then true else (!ok)) syntaxReport.badName syntaxReport.badNumber)
theorem syntax_report_form_le (fu : Nat) (ok : Bool) (syntaxReport : SyntaxReport) : Le (syntax_report_form_F fu ok syntaxReport) (syntax_report_form ok syntaxReport) := by
  unfold syntax_report_form_F syntax_report_form
  repeat (first | exact Le.rfl | exact X_Itoa_le _ | refine Le.bind ?_ (fun _ => ?_) | refine Le.ite ?_ ?_)
def syntax_place_l1_F : Nat → ApiExpr → Option Bool
  | 0, _ => none
  | fu + 1, o0 =>
    if (bif (o0.Op == 4) then true else (o0.Op == 5)) = true then
      if (((o0.Kids).length : Int) == 0) = true then
        some false
      else
        idx o0.Kids 0 >>= fun x1 =>
        syntax_place_l1_F fu x1
    else
      some (o0.Op == 3)
theorem syntax_place_l1_leg (fu : Nat) : (∀ (o0 : ApiExpr), Le (syntax_place_l1_F fu o0) (syntax_place_l1 o0)) := by
  induction fu with
  | zero => exact fun _ => Le.none
  | succ fu ih =>
    have ih0 := ih
    refine fun o0 => ?_
    · rw [syntax_place_l1_F, syntax_place_l1]
      repeat (first | exact Le.rfl | exact ih0 _ | exact X_Itoa_le _ | refine Le.bind ?_ (fun _ => ?_) | refine Le.ite ?_ ?_)
theorem syntax_place_l1_le (fu : Nat) (o0 : ApiExpr) : Le (syntax_place_l1_F fu o0) (syntax_place_l1 o0) := (syntax_place_l1_leg fu) o0
def syntax_place_F (fu : Nat) (e : ApiExpr) : Option Bool :=
  syntax_place_l1_F fu e
theorem syntax_place_le (fu : Nat) (e : ApiExpr) : Le (syntax_place_F fu e) (syntax_place e) := by
  unfold syntax_place_F syntax_place
  repeat (first | exact Le.rfl | exact syntax_place_l1_le fu _ | exact X_Itoa_le _ | refine Le.bind ?_ (fun _ => ?_) | refine Le.ite ?_ ?_)
def lexer_isLetter_F (fu : Nat) (c : Int) : Option Bool :=
  some (bif (decide (c ≥ 97)) then (decide (c ≤ 122)) else false)
theorem lexer_isLetter_le (fu : Nat) (c : Int) : Le (lexer_isLetter_F fu c) (lexer_isLetter c) := by
  unfold lexer_isLetter_F lexer_isLetter
  repeat (first | exact Le.rfl | exact X_Itoa_le _ | refine Le.bind ?_ (fun _ => ?_) | refine Le.ite ?_ ?_)
def lexer_isDigit_F (fu : Nat) (c : Int) : Option Bool :=
  some (bif (decide (c ≥ 48)) then (decide (c ≤ 57)) else false)
theorem lexer_isDigit_le (fu : Nat) (c : Int) : Le (lexer_isDigit_F fu c) (lexer_isDigit c) := by
  unfold lexer_isDigit_F lexer_isDigit
  repeat (first | exact Le.rfl | exact X_Itoa_le _ | refine Le.bind ?_ (fun _ => ?_) | refine Le.ite ?_ ?_)
def lexer_isWord_l1_F : Nat → Str → Int → Option Bool
  | 0, _, _ => none
  | fu + 1, s, v6 =>
    if (decide (v6 < ((s).length : Int))) = true then
      idx s v6 >>= fun x1 =>
      lexer_isLetter_F fu (x1.toNat : Int) >>= fun x2 =>
      (if ((!x2) && (!(v6 == 0))) = true then idx s v6 else some default) >>= fun x3 =>
      (if ((!x2) && (!(v6 == 0))) = true then lexer_isDigit_F fu (x3.toNat : Int) else some default) >>= fun x4 =>
      if (bif (!x2) then (bif (v6 == 0) then true else (!x4)) else false) = true then
        some false
      else
        lexer_isWord_l1_F fu s (IntKind.i64.wrap (v6 + 1))
    else
      some (!(s == []))
theorem lexer_isWord_l1_leg (fu : Nat) : (∀ (s : Str) (v6 : Int), Le (lexer_isWord_l1_F fu s v6) (lexer_isWord_l1 s v6)) := by
  induction fu with
  | zero => exact fun _ _ => Le.none
  | succ fu ih =>
    have ih0 := ih
    refine fun s v6 => ?_
    · rw [lexer_isWord_l1_F, lexer_isWord_l1]
      repeat (first | exact Le.rfl | exact ih0 _ _ | exact lexer_isLetter_le fu _ | exact lexer_isDigit_le fu _ | exact X_Itoa_le _ | refine Le.bind ?_ (fun _ => ?_) | refine Le.ite ?_ ?_)
theorem lexer_isWord_l1_le (fu : Nat) (s : Str) (v6 : Int) : Le (lexer_isWord_l1_F fu s v6) (lexer_isWord_l1 s v6) := (lexer_isWord_l1_leg fu) s v6
def lexer_isWord_F (fu : Nat) (s : Str) : Option Bool :=
  lexer_isWord_l1_F fu s 0
theorem lexer_isWord_le (fu : Nat) (s : Str) : Le (lexer_isWord_F fu s) (lexer_isWord s) := by
  unfold lexer_isWord_F lexer_isWord
  repeat (first | exact Le.rfl | exact lexer_isWord_l1_le fu _ _ | exact X_Itoa_le _ | refine Le.bind ?_ (fun _ => ?_) | refine Le.ite ?_ ?_)
def lexer_Reserved_F (fu : Nat) (word : Str) : Option Bool :=
  (if (!(word == [])) = true then X_Contains word [32] else some default) >>= fun x1 =>
  if (!(bif (!(word == [])) then (!x1) else false) || (decide (1 + word.length ≤ maxLen))) = true then
    if (!(bif (!(word == [])) then (!x1) else false) || (decide (([32] ++ word).length + 1 ≤ maxLen))) = true then
      (if (bif (!(word == [])) then (!x1) else false) = true then X_Contains [32, 116, 121, 112, 101, 32, 115, 101, 99, 114, 101, 116, 32, 112, 117, 98, 108, 105, 99, 32, 114, 97, 110, 100, 111, 109, 32, 118, 97, 114, 32, 104, 97, 116, 99, 104, 32, 102, 117, 110, 99, 32, 114, 101, 116, 117, 114, 110, 32, 98, 101, 103, 105, 110, 32, 101, 110, 100, 32, 98, 111, 111, 108, 32, 105, 110, 116, 32, 97, 114, 114, 97, 121, 32, 111, 102, 32, 114, 101, 99, 111, 114, 100, 32, 116, 114, 117, 101, 32, 102, 97, 108, 115, 101, 32, 99, 97, 108, 108, 32, 114, 101, 108, 101, 97, 115, 101, 32, 111, 117, 116, 112, 117, 116, 32, 119, 97, 105, 116, 32, 105, 102, 32, 101, 108, 115, 101, 32, 119, 104, 105, 108, 101, 32, 108, 105, 109, 105, 116, 32, 102, 111, 114, 32, 116, 111, 32, 115, 101, 116, 116, 108, 101, 32, 109, 105, 110, 32, 109, 97, 120, 32] (([32] ++ word) ++ [32]) else some default) >>= fun x2 =>
      some (bif (bif (!(word == [])) then (!x1) else false) then x2 else false)
    else none
  else none
theorem lexer_Reserved_le (fu : Nat) (word : Str) : Le (lexer_Reserved_F fu word) (lexer_Reserved word) := by
  unfold lexer_Reserved_F lexer_Reserved
  repeat (first | exact Le.rfl | exact X_Itoa_le _ | refine Le.bind ?_ (fun _ => ?_) | refine Le.ite ?_ ?_)
def lexer_IsName_F (fu : Nat) (s : Str) : Option Bool :=
  (if (decide (((s).length : Int) ≤ 12)) = true then lexer_isWord_F fu s else some default) >>= fun x1 =>
  (if (bif (decide (((s).length : Int) ≤ 12)) then x1 else false) = true then lexer_Reserved_F fu s else some default) >>= fun x2 =>
  some (bif (bif (decide (((s).length : Int) ≤ 12)) then x1 else false) then (!x2) else false)
theorem lexer_IsName_le (fu : Nat) (s : Str) : Le (lexer_IsName_F fu s) (lexer_IsName s) := by
  unfold lexer_IsName_F lexer_IsName
  repeat (first | exact Le.rfl | exact lexer_isWord_le fu _ | exact lexer_Reserved_le fu _ | exact X_Itoa_le _ | refine Le.bind ?_ (fun _ => ?_) | refine Le.ite ?_ ?_)
def syntax_IsName_F (fu : Nat) (s : Str) : Option Bool :=
  lexer_IsName_F fu s >>= fun x1 =>
  some x1
theorem syntax_IsName_le (fu : Nat) (s : Str) : Le (syntax_IsName_F fu s) (syntax_IsName s) := by
  unfold syntax_IsName_F syntax_IsName
  repeat (first | exact Le.rfl | exact lexer_IsName_le fu _ | exact X_Itoa_le _ | refine Le.bind ?_ (fun _ => ?_) | refine Le.ite ?_ ?_)
def syntax_report_name_F (fu : Nat) (s : Str) (syntaxReport : SyntaxReport) : Option SyntaxReport :=
  (if (!syntaxReport.badName) = true then syntax_IsName_F fu s else some default) >>= fun x1 =>
  some (SyntaxReport.mk syntaxReport.nodes syntaxReport.depth syntaxReport.badForm (bif syntaxReport.badName then true else (!x1)) syntaxReport.badNumber)
theorem syntax_report_name_le (fu : Nat) (s : Str) (syntaxReport : SyntaxReport) : Le (syntax_report_name_F fu s syntaxReport) (syntax_report_name s syntaxReport) := by
  unfold syntax_report_name_F syntax_report_name
  repeat (first | exact Le.rfl | exact syntax_IsName_le fu _ | exact X_Itoa_le _ | refine Le.bind ?_ (fun _ => ?_) | refine Le.ite ?_ ?_)
def syntax_inside_F (fu : Nat) (n : Int) (low : Int) (high : Int) : Option Bool :=
  some (bif (decide (n ≥ low)) then (decide (n ≤ high)) else false)
theorem syntax_inside_le (fu : Nat) (n : Int) (low : Int) (high : Int) : Le (syntax_inside_F fu n low high) (syntax_inside n low high) := by
  unfold syntax_inside_F syntax_inside
  repeat (first | exact Le.rfl | exact X_Itoa_le _ | refine Le.bind ?_ (fun _ => ?_) | refine Le.ite ?_ ?_)
def syntax_report_number_F (fu : Nat) (ok : Bool) (syntaxReport : SyntaxReport) : Option SyntaxReport :=
  some (SyntaxReport.mk syntaxReport.nodes syntaxReport.depth syntaxReport.badForm syntaxReport.badName (bif syntaxReport.badNumber then true else (!ok)))
theorem syntax_report_number_le (fu : Nat) (ok : Bool) (syntaxReport : SyntaxReport) : Le (syntax_report_number_F fu ok syntaxReport) (syntax_report_number ok syntaxReport) := by
  unfold syntax_report_number_F syntax_report_number
  repeat (first | exact Le.rfl | exact X_Itoa_le _ | refine Le.bind ?_ (fun _ => ?_) | refine Le.ite ?_ ?_)
mutual
def syntax_report_expr_F : Nat → ApiExpr → Int → SyntaxReport → Option SyntaxReport
  | 0, _, _, _ => none
  | fu + 1, e, depth, syntaxReport =>
    syntax_report_deep_F fu depth (SyntaxReport.mk (IntKind.i64.wrap (syntaxReport.nodes + 1)) syntaxReport.depth syntaxReport.badForm syntaxReport.badName syntaxReport.badNumber) >>= fun x1 =>
    syntax_arity_F fu e.Op >>= fun x2 =>
    syntax_report_form_F fu (x2 == ((e.Kids).length : Int)) x1 >>= fun x3 =>
    syntax_report_form_F fu (bif (e.NV == 0) then true else (e.Op == 0)) x3 >>= fun x4 =>
    syntax_report_form_F fu (bif (e.Name == []) then true else (bif (e.Op == 3) then true else (e.Op == 4))) x4 >>= fun x5 =>
    if (bif (e.Op == 4) then true else (e.Op == 5)) = true then
      syntax_place_F fu e >>= fun x6 =>
      syntax_report_form_F fu x6 x5 >>= fun x7 =>
      syntax_report_expr_j1_F fu e depth x7
    else
      syntax_report_expr_j1_F fu e depth x5
def syntax_report_expr_j1_F : Nat → ApiExpr → Int → SyntaxReport → Option SyntaxReport
  | 0, _, _, _ => none
  | fu + 1, e, depth, o0 =>
    if (bif (e.Op == 3) then true else (e.Op == 4)) = true then
      syntax_report_name_F fu e.Name o0 >>= fun x8 =>
      syntax_report_expr_j2_F fu e depth x8
    else
      syntax_report_expr_j2_F fu e depth o0
def syntax_report_expr_j2_F : Nat → ApiExpr → Int → SyntaxReport → Option SyntaxReport
  | 0, _, _, _ => none
  | fu + 1, e, depth, o01 =>
    if (e.Op == 0) = true then
      syntax_inside_F fu e.NV 0 1048576 >>= fun x9 =>
      syntax_report_number_F fu x9 o01 >>= fun x10 =>
      syntax_report_expr_j3_F fu e depth x10
    else
      syntax_report_expr_j3_F fu e depth o01
def syntax_report_expr_j3_F : Nat → ApiExpr → Int → SyntaxReport → Option SyntaxReport
  | 0, _, _, _ => none
  | fu + 1, e, depth, o02 =>
    syntax_report_expr_l4_F fu e depth o02 0
def syntax_report_expr_l4_F : Nat → ApiExpr → Int → SyntaxReport → Int → Option SyntaxReport
  | 0, _, _, _, _ => none
  | fu + 1, e, depth, o03, v82 =>
    if (decide (v82 < ((e.Kids).length : Int))) = true then
      idx e.Kids v82 >>= fun x11 =>
      syntax_report_expr_F fu x11 (IntKind.i64.wrap (depth + 1)) o03 >>= fun x12 =>
      syntax_report_expr_l4_F fu e depth x12 (IntKind.i64.wrap (v82 + 1))
    else
      some o03
end
theorem syntax_report_expr_leg (fu : Nat) : (∀ (e : ApiExpr) (depth : Int) (syntaxReport : SyntaxReport), Le (syntax_report_expr_F fu e depth syntaxReport) (syntax_report_expr e depth syntaxReport)) ∧ (∀ (e : ApiExpr) (depth : Int) (o0 : SyntaxReport), Le (syntax_report_expr_j1_F fu e depth o0) (syntax_report_expr_j1 e depth o0)) ∧ (∀ (e : ApiExpr) (depth : Int) (o01 : SyntaxReport), Le (syntax_report_expr_j2_F fu e depth o01) (syntax_report_expr_j2 e depth o01)) ∧ (∀ (e : ApiExpr) (depth : Int) (o02 : SyntaxReport), Le (syntax_report_expr_j3_F fu e depth o02) (syntax_report_expr_j3 e depth o02)) ∧ (∀ (e : ApiExpr) (depth : Int) (o03 : SyntaxReport) (v82 : Int), Le (syntax_report_expr_l4_F fu e depth o03 v82) (syntax_report_expr_l4 e depth o03 v82)) := by
  induction fu with
  | zero => exact ⟨fun _ _ _ => Le.none, fun _ _ _ => Le.none, fun _ _ _ => Le.none, fun _ _ _ => Le.none, fun _ _ _ _ => Le.none⟩
  | succ fu ih =>
    obtain ⟨ih0, ih1, ih2, ih3, ih4⟩ := ih
    refine ⟨fun e depth syntaxReport => ?_, fun e depth o0 => ?_, fun e depth o01 => ?_, fun e depth o02 => ?_, fun e depth o03 v82 => ?_⟩
    · rw [syntax_report_expr_F, syntax_report_expr]
      repeat (first | exact Le.rfl | exact ih0 _ _ _ | exact ih1 _ _ _ | exact ih2 _ _ _ | exact ih3 _ _ _ | exact ih4 _ _ _ _ | exact syntax_report_deep_le fu _ _ | exact syntax_arity_le fu _ | exact syntax_report_form_le fu _ _ | exact syntax_place_le fu _ | exact syntax_report_name_le fu _ _ | exact syntax_inside_le fu _ _ _ | exact syntax_report_number_le fu _ _ | exact X_Itoa_le _ | refine Le.bind ?_ (fun _ => ?_) | refine Le.ite ?_ ?_)
    · rw [syntax_report_expr_j1_F, syntax_report_expr_j1]
      repeat (first | exact Le.rfl | exact ih0 _ _ _ | exact ih1 _ _ _ | exact ih2 _ _ _ | exact ih3 _ _ _ | exact ih4 _ _ _ _ | exact syntax_report_deep_le fu _ _ | exact syntax_arity_le fu _ | exact syntax_report_form_le fu _ _ | exact syntax_place_le fu _ | exact syntax_report_name_le fu _ _ | exact syntax_inside_le fu _ _ _ | exact syntax_report_number_le fu _ _ | exact X_Itoa_le _ | refine Le.bind ?_ (fun _ => ?_) | refine Le.ite ?_ ?_)
    · rw [syntax_report_expr_j2_F, syntax_report_expr_j2]
      repeat (first | exact Le.rfl | exact ih0 _ _ _ | exact ih1 _ _ _ | exact ih2 _ _ _ | exact ih3 _ _ _ | exact ih4 _ _ _ _ | exact syntax_report_deep_le fu _ _ | exact syntax_arity_le fu _ | exact syntax_report_form_le fu _ _ | exact syntax_place_le fu _ | exact syntax_report_name_le fu _ _ | exact syntax_inside_le fu _ _ _ | exact syntax_report_number_le fu _ _ | exact X_Itoa_le _ | refine Le.bind ?_ (fun _ => ?_) | refine Le.ite ?_ ?_)
    · rw [syntax_report_expr_j3_F, syntax_report_expr_j3]
      repeat (first | exact Le.rfl | exact ih0 _ _ _ | exact ih1 _ _ _ | exact ih2 _ _ _ | exact ih3 _ _ _ | exact ih4 _ _ _ _ | exact syntax_report_deep_le fu _ _ | exact syntax_arity_le fu _ | exact syntax_report_form_le fu _ _ | exact syntax_place_le fu _ | exact syntax_report_name_le fu _ _ | exact syntax_inside_le fu _ _ _ | exact syntax_report_number_le fu _ _ | exact X_Itoa_le _ | refine Le.bind ?_ (fun _ => ?_) | refine Le.ite ?_ ?_)
    · rw [syntax_report_expr_l4_F, syntax_report_expr_l4]
      repeat (first | exact Le.rfl | exact ih0 _ _ _ | exact ih1 _ _ _ | exact ih2 _ _ _ | exact ih3 _ _ _ | exact ih4 _ _ _ _ | exact syntax_report_deep_le fu _ _ | exact syntax_arity_le fu _ | exact syntax_report_form_le fu _ _ | exact syntax_place_le fu _ | exact syntax_report_name_le fu _ _ | exact syntax_inside_le fu _ _ _ | exact syntax_report_number_le fu _ _ | exact X_Itoa_le _ | refine Le.bind ?_ (fun _ => ?_) | refine Le.ite ?_ ?_)
theorem syntax_report_expr_le (fu : Nat) (e : ApiExpr) (depth : Int) (syntaxReport : SyntaxReport) : Le (syntax_report_expr_F fu e depth syntaxReport) (syntax_report_expr e depth syntaxReport) := (syntax_report_expr_leg fu).1 e depth syntaxReport
theorem syntax_report_expr_j1_le (fu : Nat) (e : ApiExpr) (depth : Int) (o0 : SyntaxReport) : Le (syntax_report_expr_j1_F fu e depth o0) (syntax_report_expr_j1 e depth o0) := (syntax_report_expr_leg fu).2.1 e depth o0
theorem syntax_report_expr_j2_le (fu : Nat) (e : ApiExpr) (depth : Int) (o01 : SyntaxReport) : Le (syntax_report_expr_j2_F fu e depth o01) (syntax_report_expr_j2 e depth o01) := (syntax_report_expr_leg fu).2.2.1 e depth o01
theorem syntax_report_expr_j3_le (fu : Nat) (e : ApiExpr) (depth : Int) (o02 : SyntaxReport) : Le (syntax_report_expr_j3_F fu e depth o02) (syntax_report_expr_j3 e depth o02) := (syntax_report_expr_leg fu).2.2.2.1 e depth o02
theorem syntax_report_expr_l4_le (fu : Nat) (e : ApiExpr) (depth : Int) (o03 : SyntaxReport) (v82 : Int) : Le (syntax_report_expr_l4_F fu e depth o03 v82) (syntax_report_expr_l4 e depth o03 v82) := (syntax_report_expr_leg fu).2.2.2.2 e depth o03 v82
def syntax_report_code_F (fu : Nat) (syntaxReport : SyntaxReport) : Option Int :=
  if (bif (decide (syntaxReport.nodes > 1024)) then true else (decide (syntaxReport.depth > 12))) = true then
    some 4
  else
    if syntaxReport.badForm = true then
      some 1
    else
      if syntaxReport.badName = true then
        some 7
      else
        if syntaxReport.badNumber = true then
          some 3
        else
          some 0
theorem syntax_report_code_le (fu : Nat) (syntaxReport : SyntaxReport) : Le (syntax_report_code_F fu syntaxReport) (syntax_report_code syntaxReport) := by
  unfold syntax_report_code_F syntax_report_code
  repeat (first | exact Le.rfl | exact X_Itoa_le _ | refine Le.bind ?_ (fun _ => ?_) | refine Le.ite ?_ ?_)
def syntax_CheckExpr_F (fu : Nat) (e : ApiExpr) : Option Int :=
  syntax_report_expr_F fu e 1 (SyntaxReport.mk 0 0 false false false) >>= fun x1 =>
  syntax_report_code_F fu x1 >>= fun x2 =>
  some x2
theorem syntax_CheckExpr_le (fu : Nat) (e : ApiExpr) : Le (syntax_CheckExpr_F fu e) (syntax_CheckExpr e) := by
  unfold syntax_CheckExpr_F syntax_CheckExpr
  repeat (first | exact Le.rfl | exact syntax_report_expr_le fu _ _ _ | exact syntax_report_code_le fu _ | exact X_Itoa_le _ | refine Le.bind ?_ (fun _ => ?_) | refine Le.ite ?_ ?_)
def syntax_level_j3_F (fu : Nat) (op : Int) (v20 : Bool) : Option Int :=
  if v20 = true then
    some 5
  else
    if (op == 6) = true then
      if (op == 6) = true then
        some 6
      else
        some 7
    else
      if (op == 7) = true then
        some 6
      else
        some 7
theorem syntax_level_j3_le (fu : Nat) (op : Int) (v20 : Bool) : Le (syntax_level_j3_F fu op v20) (syntax_level_j3 op v20) := by
  unfold syntax_level_j3_F syntax_level_j3
  repeat (first | exact Le.rfl | exact X_Itoa_le _ | refine Le.bind ?_ (fun _ => ?_) | refine Le.ite ?_ ?_)
def syntax_level_j2_F (fu : Nat) (op : Int) (v17 : Bool) : Option Int :=
  if v17 = true then
    some 4
  else
    if (op == 10) = true then
      syntax_level_j3_F fu op (op == 10)
    else
      if (op == 11) = true then
        syntax_level_j3_F fu op (op == 11)
      else
        syntax_level_j3_F fu op (op == 12)
theorem syntax_level_j2_le (fu : Nat) (op : Int) (v17 : Bool) : Le (syntax_level_j2_F fu op v17) (syntax_level_j2 op v17) := by
  unfold syntax_level_j2_F syntax_level_j2
  repeat (first | exact Le.rfl | exact syntax_level_j3_le fu _ _ | exact X_Itoa_le _ | refine Le.bind ?_ (fun _ => ?_) | refine Le.ite ?_ ?_)
def syntax_level_j1_F (fu : Nat) (op : Int) (v10 : Bool) : Option Int :=
  if v10 = true then
    some 3
  else
    if (op == 8) = true then
      syntax_level_j2_F fu op (op == 8)
    else
      syntax_level_j2_F fu op (op == 9)
theorem syntax_level_j1_le (fu : Nat) (op : Int) (v10 : Bool) : Le (syntax_level_j1_F fu op v10) (syntax_level_j1 op v10) := by
  unfold syntax_level_j1_F syntax_level_j1
  repeat (first | exact Le.rfl | exact syntax_level_j2_le fu _ _ | exact X_Itoa_le _ | refine Le.bind ?_ (fun _ => ?_) | refine Le.ite ?_ ?_)
def syntax_level_F (fu : Nat) (op : Int) : Option Int :=
  if (op == 23) = true then
    some 0
  else
    if (op == 20) = true then
      some 1
    else
      if (op == 19) = true then
        some 2
      else
        if (op == 13) = true then
          syntax_level_j1_F fu op (op == 13)
        else
          if (op == 14) = true then
            syntax_level_j1_F fu op (op == 14)
          else
            if (op == 15) = true then
              syntax_level_j1_F fu op (op == 15)
            else
              if (op == 16) = true then
                syntax_level_j1_F fu op (op == 16)
              else
                if (op == 17) = true then
                  syntax_level_j1_F fu op (op == 17)
                else
                  syntax_level_j1_F fu op (op == 18)
theorem syntax_level_le (fu : Nat) (op : Int) : Le (syntax_level_F fu op) (syntax_level op) := by
  unfold syntax_level_F syntax_level
  repeat (first | exact Le.rfl | exact syntax_level_j1_le fu _ _ | exact X_Itoa_le _ | refine Le.bind ?_ (fun _ => ?_) | refine Le.ite ?_ ?_)
mutual
def syntax_printer_expr_F : Nat → ApiExpr → Str → Option Str
  | 0, _, _ => none
  | fu + 1, e, b =>
    if (e.Op == 0) = true then
      X_Itoa_F e.NV >>= fun x1 =>
      X_WriteString_SyntaxPrinter x1 b >>= fun x2 =>
      some x2.2
    else
      if (e.Op == 1) = true then
        X_WriteString_SyntaxPrinter [116, 114, 117, 101] b >>= fun x3 =>
        some x3.2
      else
        if (e.Op == 2) = true then
          X_WriteString_SyntaxPrinter [102, 97, 108, 115, 101] b >>= fun x4 =>
          some x4.2
        else
          if (e.Op == 3) = true then
            X_WriteString_SyntaxPrinter e.Name b >>= fun x5 =>
            some x5.2
          else
            if (e.Op == 4) = true then
              idx e.Kids 0 >>= fun x6 =>
              syntax_printer_expr_F fu x6 b >>= fun x14 =>
              if (decide (1 + e.Name.length ≤ maxLen)) = true then
                X_WriteString_SyntaxPrinter ([46] ++ e.Name) x14 >>= fun x15 =>
                some x15.2
              else none
            else
              if (e.Op == 5) = true then
                idx e.Kids 0 >>= fun x7 =>
                syntax_printer_expr_F fu x7 b >>= fun x16 =>
                X_WriteString_SyntaxPrinter [91] x16 >>= fun x17 =>
                idx e.Kids 1 >>= fun x18 =>
                syntax_printer_expr_F fu x18 x17.2 >>= fun x19 =>
                X_WriteString_SyntaxPrinter [93] x19 >>= fun x20 =>
                some x20.2
              else
                if (e.Op == 6) = true then
                  syntax_printer_expr_j1_F fu e b (e.Op == 6)
                else
                  syntax_printer_expr_j1_F fu e b (e.Op == 7)
def syntax_printer_expr_j1_F : Nat → ApiExpr → Str → Bool → Option Str
  | 0, _, _, _ => none
  | fu + 1, e, b, v77 =>
    if v77 = true then
      if (e.Op == 7) = true then
        syntax_printer_expr_j2_F fu e b [33]
      else
        syntax_printer_expr_j2_F fu e b [45]
    else
      if (e.Op == 21) = true then
        syntax_printer_expr_j3_F fu e b (e.Op == 21)
      else
        syntax_printer_expr_j3_F fu e b (e.Op == 22)
def syntax_printer_expr_j2_F : Nat → ApiExpr → Str → Str → Option Str
  | 0, _, _, _ => none
  | fu + 1, e, b, sign =>
    X_WriteString_SyntaxPrinter sign b >>= fun x8 =>
    idx e.Kids 0 >>= fun x9 =>
    syntax_printer_kid_F fu x9 6 x8.2 >>= fun x21 =>
    some x21
def syntax_printer_kid_F : Nat → ApiExpr → Int → Str → Option Str
  | 0, _, _, _ => none
  | fu + 1, e, required, b =>
    syntax_level_F fu e.Op >>= fun x1 =>
    if (decide (x1 ≥ required)) = true then
      syntax_printer_expr_F fu e b >>= fun x3 =>
      some x3
    else
      X_WriteString_SyntaxPrinter [40] b >>= fun x2 =>
      syntax_printer_expr_F fu e x2.2 >>= fun x4 =>
      X_WriteString_SyntaxPrinter [41] x4 >>= fun x5 =>
      some x5.2
def syntax_printer_expr_j3_F : Nat → ApiExpr → Str → Bool → Option Str
  | 0, _, _, _ => none
  | fu + 1, e, b, v94 =>
    if v94 = true then
      if (e.Op == 22) = true then
        syntax_printer_expr_j4_F fu e b [109, 97, 120, 40]
      else
        syntax_printer_expr_j4_F fu e b [109, 105, 110, 40]
    else
      if (e.Op == 23) = true then
        idx e.Kids 0 >>= fun x13 =>
        syntax_printer_kid_F fu x13 1 b >>= fun x22 =>
        X_WriteString_SyntaxPrinter [32, 63, 32] x22 >>= fun x23 =>
        idx e.Kids 1 >>= fun x24 =>
        syntax_printer_expr_F fu x24 x23.2 >>= fun x25 =>
        X_WriteString_SyntaxPrinter [32, 58, 32] x25 >>= fun x26 =>
        idx e.Kids 2 >>= fun x27 =>
        syntax_printer_expr_F fu x27 x26.2 >>= fun x28 =>
        some x28
      else
        syntax_printer_binary_F fu e b >>= fun x29 =>
        some x29
def syntax_printer_expr_j4_F : Nat → ApiExpr → Str → Str → Option Str
  | 0, _, _, _ => none
  | fu + 1, e, b, word =>
    X_WriteString_SyntaxPrinter word b >>= fun x10 =>
    syntax_printer_list_F fu e.Kids x10.2 >>= fun x11 =>
    X_WriteString_SyntaxPrinter [41] x11 >>= fun x12 =>
    some x12.2
def syntax_printer_list_F : Nat → (List ApiExpr) → Str → Option Str
  | 0, _, _ => none
  | fu + 1, l, b =>
    syntax_printer_list_l1_F fu l b 0
def syntax_printer_list_l1_F : Nat → (List ApiExpr) → Str → Int → Option Str
  | 0, _, _, _ => none
  | fu + 1, l, b1, v8 =>
    if (decide (v8 < ((l).length : Int))) = true then
      idx l v8 >>= fun x1 =>
      if (decide (v8 > 0)) = true then
        X_WriteString_SyntaxPrinter [44, 32] b1 >>= fun x3 =>
        syntax_printer_expr_F fu x1 x3.2 >>= fun x2 =>
        syntax_printer_list_l1_F fu l x2 (IntKind.i64.wrap (v8 + 1))
      else
        syntax_printer_expr_F fu x1 b1 >>= fun x2 =>
        syntax_printer_list_l1_F fu l x2 (IntKind.i64.wrap (v8 + 1))
    else
      some b1
def syntax_printer_binary_F : Nat → ApiExpr → Str → Option Str
  | 0, _, _ => none
  | fu + 1, e, b =>
    syntax_level_F fu e.Op >>= fun x1 =>
    if (x1 == 3) = true then
      syntax_printer_binary_j1_F fu e b x1 4
    else
      syntax_printer_binary_j1_F fu e b x1 x1
def syntax_printer_binary_j1_F : Nat → ApiExpr → Str → Int → Int → Option Str
  | 0, _, _, _, _ => none
  | fu + 1, e, b, x1, left =>
    idx e.Kids 0 >>= fun x2 =>
    syntax_printer_kid_F fu x2 left b >>= fun x3 =>
    idx tab_signs (IntKind.i64.wrap (e.Op - 8)) >>= fun x4 =>
    if (decide (1 + x4.length ≤ maxLen)) = true then
      if (decide (([32] ++ x4).length + 1 ≤ maxLen)) = true then
        X_WriteString_SyntaxPrinter (([32] ++ x4) ++ [32]) x3 >>= fun x5 =>
        idx e.Kids 1 >>= fun x6 =>
        syntax_printer_kid_F fu x6 (IntKind.i64.wrap (x1 + 1)) x5.2 >>= fun x7 =>
        some x7
      else none
    else none
end
theorem syntax_printer_expr_leg (fu : Nat) : (∀ (e : ApiExpr) (b : Str), Le (syntax_printer_expr_F fu e b) (syntax_printer_expr e b)) ∧ (∀ (e : ApiExpr) (b : Str) (v77 : Bool), Le (syntax_printer_expr_j1_F fu e b v77) (syntax_printer_expr_j1 e b v77)) ∧ (∀ (e : ApiExpr) (b : Str) (sign : Str), Le (syntax_printer_expr_j2_F fu e b sign) (syntax_printer_expr_j2 e b sign)) ∧ (∀ (e : ApiExpr) (required : Int) (b : Str), Le (syntax_printer_kid_F fu e required b) (syntax_printer_kid e required b)) ∧ (∀ (e : ApiExpr) (b : Str) (v94 : Bool), Le (syntax_printer_expr_j3_F fu e b v94) (syntax_printer_expr_j3 e b v94)) ∧ (∀ (e : ApiExpr) (b : Str) (word : Str), Le (syntax_printer_expr_j4_F fu e b word) (syntax_printer_expr_j4 e b word)) ∧ (∀ (l : List ApiExpr) (b : Str), Le (syntax_printer_list_F fu l b) (syntax_printer_list l b)) ∧ (∀ (l : List ApiExpr) (b1 : Str) (v8 : Int), Le (syntax_printer_list_l1_F fu l b1 v8) (syntax_printer_list_l1 l b1 v8)) ∧ (∀ (e : ApiExpr) (b : Str), Le (syntax_printer_binary_F fu e b) (syntax_printer_binary e b)) ∧ (∀ (e : ApiExpr) (b : Str) (x1 : Int) (left : Int), Le (syntax_printer_binary_j1_F fu e b x1 left) (syntax_printer_binary_j1 e b x1 left)) := by
  induction fu with
  | zero => exact ⟨fun _ _ => Le.none, fun _ _ _ => Le.none, fun _ _ _ => Le.none, fun _ _ _ => Le.none, fun _ _ _ => Le.none, fun _ _ _ => Le.none, fun _ _ => Le.none, fun _ _ _ => Le.none, fun _ _ => Le.none, fun _ _ _ _ => Le.none⟩
  | succ fu ih =>
    obtain ⟨ih0, ih1, ih2, ih3, ih4, ih5, ih6, ih7, ih8, ih9⟩ := ih
    refine ⟨fun e b => ?_, fun e b v77 => ?_, fun e b sign => ?_, fun e required b => ?_, fun e b v94 => ?_, fun e b word => ?_, fun l b => ?_, fun l b1 v8 => ?_, fun e b => ?_, fun e b x1 left => ?_⟩
    · rw [syntax_printer_expr_F, syntax_printer_expr]
      repeat (first | exact Le.rfl | exact ih0 _ _ | exact ih1 _ _ _ | exact ih2 _ _ _ | exact ih3 _ _ _ | exact ih4 _ _ _ | exact ih5 _ _ _ | exact ih6 _ _ | exact ih7 _ _ _ | exact ih8 _ _ | exact ih9 _ _ _ _ | exact syntax_level_le fu _ | exact X_Itoa_le _ | refine Le.bind ?_ (fun _ => ?_) | refine Le.ite ?_ ?_)
    · rw [syntax_printer_expr_j1_F, syntax_printer_expr_j1]
      repeat (first | exact Le.rfl | exact ih0 _ _ | exact ih1 _ _ _ | exact ih2 _ _ _ | exact ih3 _ _ _ | exact ih4 _ _ _ | exact ih5 _ _ _ | exact ih6 _ _ | exact ih7 _ _ _ | exact ih8 _ _ | exact ih9 _ _ _ _ | exact syntax_level_le fu _ | exact X_Itoa_le _ | refine Le.bind ?_ (fun _ => ?_) | refine Le.ite ?_ ?_)
    · rw [syntax_printer_expr_j2_F, syntax_printer_expr_j2]
      repeat (first | exact Le.rfl | exact ih0 _ _ | exact ih1 _ _ _ | exact ih2 _ _ _ | exact ih3 _ _ _ | exact ih4 _ _ _ | exact ih5 _ _ _ | exact ih6 _ _ | exact ih7 _ _ _ | exact ih8 _ _ | exact ih9 _ _ _ _ | exact syntax_level_le fu _ | exact X_Itoa_le _ | refine Le.bind ?_ (fun _ => ?_) | refine Le.ite ?_ ?_)
    · rw [syntax_printer_kid_F, syntax_printer_kid]
      repeat (first | exact Le.rfl | exact ih0 _ _ | exact ih1 _ _ _ | exact ih2 _ _ _ | exact ih3 _ _ _ | exact ih4 _ _ _ | exact ih5 _ _ _ | exact ih6 _ _ | exact ih7 _ _ _ | exact ih8 _ _ | exact ih9 _ _ _ _ | exact syntax_level_le fu _ | exact X_Itoa_le _ | refine Le.bind ?_ (fun _ => ?_) | refine Le.ite ?_ ?_)
    · rw [syntax_printer_expr_j3_F, syntax_printer_expr_j3]
      repeat (first | exact Le.rfl | exact ih0 _ _ | exact ih1 _ _ _ | exact ih2 _ _ _ | exact ih3 _ _ _ | exact ih4 _ _ _ | exact ih5 _ _ _ | exact ih6 _ _ | exact ih7 _ _ _ | exact ih8 _ _ | exact ih9 _ _ _ _ | exact syntax_level_le fu _ | exact X_Itoa_le _ | refine Le.bind ?_ (fun _ => ?_) | refine Le.ite ?_ ?_)
    · rw [syntax_printer_expr_j4_F, syntax_printer_expr_j4]
      repeat (first | exact Le.rfl | exact ih0 _ _ | exact ih1 _ _ _ | exact ih2 _ _ _ | exact ih3 _ _ _ | exact ih4 _ _ _ | exact ih5 _ _ _ | exact ih6 _ _ | exact ih7 _ _ _ | exact ih8 _ _ | exact ih9 _ _ _ _ | exact syntax_level_le fu _ | exact X_Itoa_le _ | refine Le.bind ?_ (fun _ => ?_) | refine Le.ite ?_ ?_)
    · rw [syntax_printer_list_F, syntax_printer_list]
      repeat (first | exact Le.rfl | exact ih0 _ _ | exact ih1 _ _ _ | exact ih2 _ _ _ | exact ih3 _ _ _ | exact ih4 _ _ _ | exact ih5 _ _ _ | exact ih6 _ _ | exact ih7 _ _ _ | exact ih8 _ _ | exact ih9 _ _ _ _ | exact syntax_level_le fu _ | exact X_Itoa_le _ | refine Le.bind ?_ (fun _ => ?_) | refine Le.ite ?_ ?_)
    · rw [syntax_printer_list_l1_F, syntax_printer_list_l1]
      repeat (first | exact Le.rfl | exact ih0 _ _ | exact ih1 _ _ _ | exact ih2 _ _ _ | exact ih3 _ _ _ | exact ih4 _ _ _ | exact ih5 _ _ _ | exact ih6 _ _ | exact ih7 _ _ _ | exact ih8 _ _ | exact ih9 _ _ _ _ | exact syntax_level_le fu _ | exact X_Itoa_le _ | refine Le.bind ?_ (fun _ => ?_) | refine Le.ite ?_ ?_)
    · rw [syntax_printer_binary_F, syntax_printer_binary]
      repeat (first | exact Le.rfl | exact ih0 _ _ | exact ih1 _ _ _ | exact ih2 _ _ _ | exact ih3 _ _ _ | exact ih4 _ _ _ | exact ih5 _ _ _ | exact ih6 _ _ | exact ih7 _ _ _ | exact ih8 _ _ | exact ih9 _ _ _ _ | exact syntax_level_le fu _ | exact X_Itoa_le _ | refine Le.bind ?_ (fun _ => ?_) | refine Le.ite ?_ ?_)
    · rw [syntax_printer_binary_j1_F, syntax_printer_binary_j1]
      repeat (first | exact Le.rfl | exact ih0 _ _ | exact ih1 _ _ _ | exact ih2 _ _ _ | exact ih3 _ _ _ | exact ih4 _ _ _ | exact ih5 _ _ _ | exact ih6 _ _ | exact ih7 _ _ _ | exact ih8 _ _ | exact ih9 _ _ _ _ | exact syntax_level_le fu _ | exact X_Itoa_le _ | refine Le.bind ?_ (fun _ => ?_) | refine Le.ite ?_ ?_)
theorem syntax_printer_expr_le (fu : Nat) (e : ApiExpr) (b : Str) : Le (syntax_printer_expr_F fu e b) (syntax_printer_expr e b) := (syntax_printer_expr_leg fu).1 e b
theorem syntax_printer_expr_j1_le (fu : Nat) (e : ApiExpr) (b : Str) (v77 : Bool) : Le (syntax_printer_expr_j1_F fu e b v77) (syntax_printer_expr_j1 e b v77) := (syntax_printer_expr_leg fu).2.1 e b v77
theorem syntax_printer_expr_j2_le (fu : Nat) (e : ApiExpr) (b : Str) (sign : Str) : Le (syntax_printer_expr_j2_F fu e b sign) (syntax_printer_expr_j2 e b sign) := (syntax_printer_expr_leg fu).2.2.1 e b sign
theorem syntax_printer_kid_le (fu : Nat) (e : ApiExpr) (required : Int) (b : Str) : Le (syntax_printer_kid_F fu e required b) (syntax_printer_kid e required b) := (syntax_printer_expr_leg fu).2.2.2.1 e required b
theorem syntax_printer_expr_j3_le (fu : Nat) (e : ApiExpr) (b : Str) (v94 : Bool) : Le (syntax_printer_expr_j3_F fu e b v94) (syntax_printer_expr_j3 e b v94) := (syntax_printer_expr_leg fu).2.2.2.2.1 e b v94
theorem syntax_printer_expr_j4_le (fu : Nat) (e : ApiExpr) (b : Str) (word : Str) : Le (syntax_printer_expr_j4_F fu e b word) (syntax_printer_expr_j4 e b word) := (syntax_printer_expr_leg fu).2.2.2.2.2.1 e b word
theorem syntax_printer_list_le (fu : Nat) (l : List ApiExpr) (b : Str) : Le (syntax_printer_list_F fu l b) (syntax_printer_list l b) := (syntax_printer_expr_leg fu).2.2.2.2.2.2.1 l b
theorem syntax_printer_list_l1_le (fu : Nat) (l : List ApiExpr) (b1 : Str) (v8 : Int) : Le (syntax_printer_list_l1_F fu l b1 v8) (syntax_printer_list_l1 l b1 v8) := (syntax_printer_expr_leg fu).2.2.2.2.2.2.2.1 l b1 v8
theorem syntax_printer_binary_le (fu : Nat) (e : ApiExpr) (b : Str) : Le (syntax_printer_binary_F fu e b) (syntax_printer_binary e b) := (syntax_printer_expr_leg fu).2.2.2.2.2.2.2.2.1 e b
theorem syntax_printer_binary_j1_le (fu : Nat) (e : ApiExpr) (b : Str) (x1 : Int) (left : Int) : Le (syntax_printer_binary_j1_F fu e b x1 left) (syntax_printer_binary_j1 e b x1 left) := (syntax_printer_expr_leg fu).2.2.2.2.2.2.2.2.2 e b x1 left
def syntax_printer_text_F (fu : Nat) (b : Str) : Option (Str × Int) :=
  X_BLen_SyntaxPrinter b >>= fun x1 =>
  if (decide (x1 > 8192)) = true then
    some ([], 5)
  else
    X_BString_SyntaxPrinter b >>= fun x2 =>
    some (x2, 0)
theorem syntax_printer_text_le (fu : Nat) (b : Str) : Le (syntax_printer_text_F fu b) (syntax_printer_text b) := by
  unfold syntax_printer_text_F syntax_printer_text
  repeat (first | exact Le.rfl | exact X_Itoa_le _ | refine Le.bind ?_ (fun _ => ?_) | refine Le.ite ?_ ?_)
def syntax_PrintExpr_F (fu : Nat) (e : ApiExpr) : Option (Str × Int) :=
  syntax_CheckExpr_F fu e >>= fun x1 =>
  if (x1 != 0) = true then
    some ([], x1)
  else
    syntax_printer_expr_F fu e [] >>= fun x2 =>
    syntax_printer_text_F fu x2 >>= fun x3 =>
    some (x3.1, x3.2)
theorem syntax_PrintExpr_le (fu : Nat) (e : ApiExpr) : Le (syntax_PrintExpr_F fu e) (syntax_PrintExpr e) := by
  unfold syntax_PrintExpr_F syntax_PrintExpr
  repeat (first | exact Le.rfl | exact syntax_CheckExpr_le fu _ | exact syntax_printer_expr_le fu _ _ | exact syntax_printer_text_le fu _ | exact X_Itoa_le _ | refine Le.bind ?_ (fun _ => ?_) | refine Le.ite ?_ ?_)
def syntax_declared_F (fu : Nat) (k : Int) : Option (Bool × Bool) :=
  some ((bif (decide (k ≥ 0)) then (decide (k ≤ 6)) else false), (bif (k == 5) then true else (k == 6)))
theorem syntax_declared_le (fu : Nat) (k : Int) : Le (syntax_declared_F fu k) (syntax_declared k) := by
  unfold syntax_declared_F syntax_declared
  repeat (first | exact Le.rfl | exact X_Itoa_le _ | refine Le.bind ?_ (fun _ => ?_) | refine Le.ite ?_ ?_)
def slices_Equal_string_string_l1_F : Nat → (List Str) → (List Str) → Int → Option Bool
  | 0, _, _, _ => none
  | fu + 1, s1, s2, v13 =>
    if (decide (v13 < ((s1).length : Int))) = true then
      idx s1 v13 >>= fun x1 =>
      idx s2 v13 >>= fun x2 =>
      if (!(x1 == x2)) = true then
        some false
      else
        slices_Equal_string_string_l1_F fu s1 s2 (IntKind.i64.wrap (v13 + 1))
    else
      some true
theorem slices_Equal_string_string_l1_leg (fu : Nat) : (∀ (s1 : List Str) (s2 : List Str) (v13 : Int), Le (slices_Equal_string_string_l1_F fu s1 s2 v13) (slices_Equal_string_string_l1 s1 s2 v13)) := by
  induction fu with
  | zero => exact fun _ _ _ => Le.none
  | succ fu ih =>
    have ih0 := ih
    refine fun s1 s2 v13 => ?_
    · rw [slices_Equal_string_string_l1_F, slices_Equal_string_string_l1]
      repeat (first | exact Le.rfl | exact ih0 _ _ _ | exact X_Itoa_le _ | refine Le.bind ?_ (fun _ => ?_) | refine Le.ite ?_ ?_)
theorem slices_Equal_string_string_l1_le (fu : Nat) (s1 : List Str) (s2 : List Str) (v13 : Int) : Le (slices_Equal_string_string_l1_F fu s1 s2 v13) (slices_Equal_string_string_l1 s1 s2 v13) := (slices_Equal_string_string_l1_leg fu) s1 s2 v13
def slices_Equal_string_string_F (fu : Nat) (s1 : List Str) (s2 : List Str) : Option Bool :=
  if (((s1).length : Int) != ((s2).length : Int)) = true then
    some false
  else
    slices_Equal_string_string_l1_F fu s1 s2 0
theorem slices_Equal_string_string_le (fu : Nat) (s1 : List Str) (s2 : List Str) : Le (slices_Equal_string_string_F fu s1 s2) (slices_Equal_string_string s1 s2) := by
  unfold slices_Equal_string_string_F slices_Equal_string_string
  repeat (first | exact Le.rfl | exact slices_Equal_string_string_l1_le fu _ _ _ | exact X_Itoa_le _ | refine Le.bind ?_ (fun _ => ?_) | refine Le.ite ?_ ?_)
mutual
def syntax_equalType_F : Nat → ApiType → ApiType → Option Bool
  | 0, _, _ => none
  | fu + 1, a, b =>
    (if (bif (bif (bif (bif (a.Kind == b.Kind) then (a.Low == b.Low) else false) then (a.High == b.High) else false) then (a.Size == b.Size) else false) then (a.Name == b.Name) else false) = true then slices_Equal_string_string_F fu a.Names b.Names else some default) >>= fun x1 =>
    (if (bif (bif (bif (bif (bif (a.Kind == b.Kind) then (a.Low == b.Low) else false) then (a.High == b.High) else false) then (a.Size == b.Size) else false) then (a.Name == b.Name) else false) then x1 else false) = true then slices_EqualFunc_api_Type_api_Type_api_Type_api_Type_F fu a.Of b.Of else some default) >>= fun x2 =>
    some (bif (bif (bif (bif (bif (bif (a.Kind == b.Kind) then (a.Low == b.Low) else false) then (a.High == b.High) else false) then (a.Size == b.Size) else false) then (a.Name == b.Name) else false) then x1 else false) then x2 else false)
def slices_EqualFunc_api_Type_api_Type_api_Type_api_Type_F : Nat → (List ApiType) → (List ApiType) → Option Bool
  | 0, _, _ => none
  | fu + 1, s1, s2 =>
    if (((s1).length : Int) != ((s2).length : Int)) = true then
      some false
    else
      slices_EqualFunc_api_Type_api_Type_api_Type_api_Type_l1_F fu s1 s2 0
def slices_EqualFunc_api_Type_api_Type_api_Type_api_Type_l1_F : Nat → (List ApiType) → (List ApiType) → Int → Option Bool
  | 0, _, _, _ => none
  | fu + 1, s1, s2, v17 =>
    if (decide (v17 < ((s1).length : Int))) = true then
      idx s1 v17 >>= fun x1 =>
      idx s2 v17 >>= fun x2 =>
      syntax_equalType_F fu x1 x2 >>= fun x3 =>
      if (!x3) = true then
        some false
      else
        slices_EqualFunc_api_Type_api_Type_api_Type_api_Type_l1_F fu s1 s2 (IntKind.i64.wrap (v17 + 1))
    else
      some true
end
theorem syntax_equalType_leg (fu : Nat) : (∀ (a : ApiType) (b : ApiType), Le (syntax_equalType_F fu a b) (syntax_equalType a b)) ∧ (∀ (s1 : List ApiType) (s2 : List ApiType), Le (slices_EqualFunc_api_Type_api_Type_api_Type_api_Type_F fu s1 s2) (slices_EqualFunc_api_Type_api_Type_api_Type_api_Type s1 s2)) ∧ (∀ (s1 : List ApiType) (s2 : List ApiType) (v17 : Int), Le (slices_EqualFunc_api_Type_api_Type_api_Type_api_Type_l1_F fu s1 s2 v17) (slices_EqualFunc_api_Type_api_Type_api_Type_api_Type_l1 s1 s2 v17)) := by
  induction fu with
  | zero => exact ⟨fun _ _ => Le.none, fun _ _ => Le.none, fun _ _ _ => Le.none⟩
  | succ fu ih =>
    obtain ⟨ih0, ih1, ih2⟩ := ih
    refine ⟨fun a b => ?_, fun s1 s2 => ?_, fun s1 s2 v17 => ?_⟩
    · rw [syntax_equalType_F, syntax_equalType]
      repeat (first | exact Le.rfl | exact ih0 _ _ | exact ih1 _ _ | exact ih2 _ _ _ | exact slices_Equal_string_string_le fu _ _ | exact X_Itoa_le _ | refine Le.bind ?_ (fun _ => ?_) | refine Le.ite ?_ ?_)
    · rw [slices_EqualFunc_api_Type_api_Type_api_Type_api_Type_F, slices_EqualFunc_api_Type_api_Type_api_Type_api_Type]
      repeat (first | exact Le.rfl | exact ih0 _ _ | exact ih1 _ _ | exact ih2 _ _ _ | exact slices_Equal_string_string_le fu _ _ | exact X_Itoa_le _ | refine Le.bind ?_ (fun _ => ?_) | refine Le.ite ?_ ?_)
    · rw [slices_EqualFunc_api_Type_api_Type_api_Type_api_Type_l1_F, slices_EqualFunc_api_Type_api_Type_api_Type_api_Type_l1]
      repeat (first | exact Le.rfl | exact ih0 _ _ | exact ih1 _ _ | exact ih2 _ _ _ | exact slices_Equal_string_string_le fu _ _ | exact X_Itoa_le _ | refine Le.bind ?_ (fun _ => ?_) | refine Le.ite ?_ ?_)
theorem syntax_equalType_le (fu : Nat) (a : ApiType) (b : ApiType) : Le (syntax_equalType_F fu a b) (syntax_equalType a b) := (syntax_equalType_leg fu).1 a b
theorem slices_EqualFunc_api_Type_api_Type_api_Type_api_Type_le (fu : Nat) (s1 : List ApiType) (s2 : List ApiType) : Le (slices_EqualFunc_api_Type_api_Type_api_Type_api_Type_F fu s1 s2) (slices_EqualFunc_api_Type_api_Type_api_Type_api_Type s1 s2) := (syntax_equalType_leg fu).2.1 s1 s2
theorem slices_EqualFunc_api_Type_api_Type_api_Type_api_Type_l1_le (fu : Nat) (s1 : List ApiType) (s2 : List ApiType) (v17 : Int) : Le (slices_EqualFunc_api_Type_api_Type_api_Type_api_Type_l1_F fu s1 s2 v17) (slices_EqualFunc_api_Type_api_Type_api_Type_api_Type_l1 s1 s2 v17) := (syntax_equalType_leg fu).2.2 s1 s2 v17
mutual
def syntax_report_typ_F : Nat → ApiType → Int → SyntaxReport → Option SyntaxReport
  | 0, _, _, _ => none
  | fu + 1, t, depth, syntaxReport =>
    syntax_report_deep_F fu depth (SyntaxReport.mk (IntKind.i64.wrap (syntaxReport.nodes + 1)) syntaxReport.depth syntaxReport.badForm syntaxReport.badName syntaxReport.badNumber) >>= fun x1 =>
    syntax_report_form_F fu (bif (decide (t.Kind ≥ 0)) then (decide (t.Kind ≤ 4)) else false) x1 >>= fun x2 =>
    syntax_report_form_F fu (bif (t.Kind == 1) then true else (bif (t.Low == 0) then (t.High == 0) else false)) x2 >>= fun x3 =>
    syntax_report_form_F fu (bif (t.Kind == 2) then true else (t.Size == 0)) x3 >>= fun x4 =>
    syntax_report_form_F fu (bif (t.Kind == 4) then true else (t.Name == [])) x4 >>= fun x5 =>
    syntax_report_form_F fu (bif (t.Kind == 3) then true else (((t.Names).length : Int) == 0)) x5 >>= fun x6 =>
    if (t.Kind == 2) = true then
      syntax_report_form_F fu (((t.Of).length : Int) == 1) x6 >>= fun x7 =>
      syntax_inside_F fu t.Size 1 32 >>= fun x8 =>
      syntax_report_number_F fu x8 x7 >>= fun x9 =>
      syntax_report_typ_j1_F fu t depth x9
    else
      if (t.Kind == 3) = true then
        syntax_report_form_F fu (bif (decide (((t.Of).length : Int) ≥ 1)) then (((t.Of).length : Int) == ((t.Names).length : Int)) else false) x6 >>= fun x14 =>
        syntax_report_number_F fu (decide (((t.Of).length : Int) ≤ 32)) x14 >>= fun x15 =>
        syntax_report_typ_j1_F fu t depth x15
      else
        syntax_report_form_F fu (((t.Of).length : Int) == 0) x6 >>= fun x16 =>
        syntax_report_typ_j1_F fu t depth x16
def syntax_report_typ_j1_F : Nat → ApiType → Int → SyntaxReport → Option SyntaxReport
  | 0, _, _, _ => none
  | fu + 1, t, depth, o0 =>
    if (t.Kind == 1) = true then
      syntax_inside_F fu t.Low (-1048576) 1048576 >>= fun x10 =>
      (if x10 = true then syntax_inside_F fu t.High t.Low 1048576 else some default) >>= fun x11 =>
      syntax_report_number_F fu (bif x10 then x11 else false) o0 >>= fun x12 =>
      syntax_report_typ_j2_F fu t depth x12
    else
      syntax_report_typ_j2_F fu t depth o0
def syntax_report_typ_j2_F : Nat → ApiType → Int → SyntaxReport → Option SyntaxReport
  | 0, _, _, _ => none
  | fu + 1, t, depth, o01 =>
    if (t.Kind == 4) = true then
      syntax_report_name_F fu t.Name o01 >>= fun x13 =>
      syntax_report_typ_j3_F fu t depth x13
    else
      syntax_report_typ_j3_F fu t depth o01
def syntax_report_typ_j3_F : Nat → ApiType → Int → SyntaxReport → Option SyntaxReport
  | 0, _, _, _ => none
  | fu + 1, t, depth, o02 =>
    syntax_report_typ_l4_F fu t depth o02 0
def syntax_report_typ_l4_F : Nat → ApiType → Int → SyntaxReport → Int → Option SyntaxReport
  | 0, _, _, _, _ => none
  | fu + 1, t, depth, o03, v147 =>
    if (decide (v147 < ((t.Names).length : Int))) = true then
      idx t.Names v147 >>= fun x17 =>
      syntax_report_name_F fu x17 o03 >>= fun x18 =>
      syntax_report_typ_l4_F fu t depth x18 (IntKind.i64.wrap (v147 + 1))
    else
      syntax_report_typ_l5_F fu t depth o03 0
def syntax_report_typ_l5_F : Nat → ApiType → Int → SyntaxReport → Int → Option SyntaxReport
  | 0, _, _, _, _ => none
  | fu + 1, t, depth, o04, v158 =>
    if (decide (v158 < ((t.Of).length : Int))) = true then
      idx t.Of v158 >>= fun x19 =>
      syntax_report_typ_F fu x19 (IntKind.i64.wrap (depth + 1)) o04 >>= fun x20 =>
      syntax_report_typ_l5_F fu t depth x20 (IntKind.i64.wrap (v158 + 1))
    else
      some o04
end
theorem syntax_report_typ_leg (fu : Nat) : (∀ (t : ApiType) (depth : Int) (syntaxReport : SyntaxReport), Le (syntax_report_typ_F fu t depth syntaxReport) (syntax_report_typ t depth syntaxReport)) ∧ (∀ (t : ApiType) (depth : Int) (o0 : SyntaxReport), Le (syntax_report_typ_j1_F fu t depth o0) (syntax_report_typ_j1 t depth o0)) ∧ (∀ (t : ApiType) (depth : Int) (o01 : SyntaxReport), Le (syntax_report_typ_j2_F fu t depth o01) (syntax_report_typ_j2 t depth o01)) ∧ (∀ (t : ApiType) (depth : Int) (o02 : SyntaxReport), Le (syntax_report_typ_j3_F fu t depth o02) (syntax_report_typ_j3 t depth o02)) ∧ (∀ (t : ApiType) (depth : Int) (o03 : SyntaxReport) (v147 : Int), Le (syntax_report_typ_l4_F fu t depth o03 v147) (syntax_report_typ_l4 t depth o03 v147)) ∧ (∀ (t : ApiType) (depth : Int) (o04 : SyntaxReport) (v158 : Int), Le (syntax_report_typ_l5_F fu t depth o04 v158) (syntax_report_typ_l5 t depth o04 v158)) := by
  induction fu with
  | zero => exact ⟨fun _ _ _ => Le.none, fun _ _ _ => Le.none, fun _ _ _ => Le.none, fun _ _ _ => Le.none, fun _ _ _ _ => Le.none, fun _ _ _ _ => Le.none⟩
  | succ fu ih =>
    obtain ⟨ih0, ih1, ih2, ih3, ih4, ih5⟩ := ih
    refine ⟨fun t depth syntaxReport => ?_, fun t depth o0 => ?_, fun t depth o01 => ?_, fun t depth o02 => ?_, fun t depth o03 v147 => ?_, fun t depth o04 v158 => ?_⟩
    · rw [syntax_report_typ_F, syntax_report_typ]
      repeat (first | exact Le.rfl | exact ih0 _ _ _ | exact ih1 _ _ _ | exact ih2 _ _ _ | exact ih3 _ _ _ | exact ih4 _ _ _ _ | exact ih5 _ _ _ _ | exact syntax_report_deep_le fu _ _ | exact syntax_report_form_le fu _ _ | exact syntax_inside_le fu _ _ _ | exact syntax_report_number_le fu _ _ | exact syntax_report_name_le fu _ _ | exact X_Itoa_le _ | refine Le.bind ?_ (fun _ => ?_) | refine Le.ite ?_ ?_)
    · rw [syntax_report_typ_j1_F, syntax_report_typ_j1]
      repeat (first | exact Le.rfl | exact ih0 _ _ _ | exact ih1 _ _ _ | exact ih2 _ _ _ | exact ih3 _ _ _ | exact ih4 _ _ _ _ | exact ih5 _ _ _ _ | exact syntax_report_deep_le fu _ _ | exact syntax_report_form_le fu _ _ | exact syntax_inside_le fu _ _ _ | exact syntax_report_number_le fu _ _ | exact syntax_report_name_le fu _ _ | exact X_Itoa_le _ | refine Le.bind ?_ (fun _ => ?_) | refine Le.ite ?_ ?_)
    · rw [syntax_report_typ_j2_F, syntax_report_typ_j2]
      repeat (first | exact Le.rfl | exact ih0 _ _ _ | exact ih1 _ _ _ | exact ih2 _ _ _ | exact ih3 _ _ _ | exact ih4 _ _ _ _ | exact ih5 _ _ _ _ | exact syntax_report_deep_le fu _ _ | exact syntax_report_form_le fu _ _ | exact syntax_inside_le fu _ _ _ | exact syntax_report_number_le fu _ _ | exact syntax_report_name_le fu _ _ | exact X_Itoa_le _ | refine Le.bind ?_ (fun _ => ?_) | refine Le.ite ?_ ?_)
    · rw [syntax_report_typ_j3_F, syntax_report_typ_j3]
      repeat (first | exact Le.rfl | exact ih0 _ _ _ | exact ih1 _ _ _ | exact ih2 _ _ _ | exact ih3 _ _ _ | exact ih4 _ _ _ _ | exact ih5 _ _ _ _ | exact syntax_report_deep_le fu _ _ | exact syntax_report_form_le fu _ _ | exact syntax_inside_le fu _ _ _ | exact syntax_report_number_le fu _ _ | exact syntax_report_name_le fu _ _ | exact X_Itoa_le _ | refine Le.bind ?_ (fun _ => ?_) | refine Le.ite ?_ ?_)
    · rw [syntax_report_typ_l4_F, syntax_report_typ_l4]
      repeat (first | exact Le.rfl | exact ih0 _ _ _ | exact ih1 _ _ _ | exact ih2 _ _ _ | exact ih3 _ _ _ | exact ih4 _ _ _ _ | exact ih5 _ _ _ _ | exact syntax_report_deep_le fu _ _ | exact syntax_report_form_le fu _ _ | exact syntax_inside_le fu _ _ _ | exact syntax_report_number_le fu _ _ | exact syntax_report_name_le fu _ _ | exact X_Itoa_le _ | refine Le.bind ?_ (fun _ => ?_) | refine Le.ite ?_ ?_)
    · rw [syntax_report_typ_l5_F, syntax_report_typ_l5]
      repeat (first | exact Le.rfl | exact ih0 _ _ _ | exact ih1 _ _ _ | exact ih2 _ _ _ | exact ih3 _ _ _ | exact ih4 _ _ _ _ | exact ih5 _ _ _ _ | exact syntax_report_deep_le fu _ _ | exact syntax_report_form_le fu _ _ | exact syntax_inside_le fu _ _ _ | exact syntax_report_number_le fu _ _ | exact syntax_report_name_le fu _ _ | exact X_Itoa_le _ | refine Le.bind ?_ (fun _ => ?_) | refine Le.ite ?_ ?_)
theorem syntax_report_typ_le (fu : Nat) (t : ApiType) (depth : Int) (syntaxReport : SyntaxReport) : Le (syntax_report_typ_F fu t depth syntaxReport) (syntax_report_typ t depth syntaxReport) := (syntax_report_typ_leg fu).1 t depth syntaxReport
theorem syntax_report_typ_j1_le (fu : Nat) (t : ApiType) (depth : Int) (o0 : SyntaxReport) : Le (syntax_report_typ_j1_F fu t depth o0) (syntax_report_typ_j1 t depth o0) := (syntax_report_typ_leg fu).2.1 t depth o0
theorem syntax_report_typ_j2_le (fu : Nat) (t : ApiType) (depth : Int) (o01 : SyntaxReport) : Le (syntax_report_typ_j2_F fu t depth o01) (syntax_report_typ_j2 t depth o01) := (syntax_report_typ_leg fu).2.2.1 t depth o01
theorem syntax_report_typ_j3_le (fu : Nat) (t : ApiType) (depth : Int) (o02 : SyntaxReport) : Le (syntax_report_typ_j3_F fu t depth o02) (syntax_report_typ_j3 t depth o02) := (syntax_report_typ_leg fu).2.2.2.1 t depth o02
theorem syntax_report_typ_l4_le (fu : Nat) (t : ApiType) (depth : Int) (o03 : SyntaxReport) (v147 : Int) : Le (syntax_report_typ_l4_F fu t depth o03 v147) (syntax_report_typ_l4 t depth o03 v147) := (syntax_report_typ_leg fu).2.2.2.2.1 t depth o03 v147
theorem syntax_report_typ_l5_le (fu : Nat) (t : ApiType) (depth : Int) (o04 : SyntaxReport) (v158 : Int) : Le (syntax_report_typ_l5_F fu t depth o04 v158) (syntax_report_typ_l5 t depth o04 v158) := (syntax_report_typ_leg fu).2.2.2.2.2 t depth o04 v158
mutual
def syntax_EqualExpr_F : Nat → ApiExpr → ApiExpr → Option Bool
  | 0, _, _ => none
  | fu + 1, a, b =>
    (if (bif (bif (a.Op == b.Op) then (a.NV == b.NV) else false) then (a.Name == b.Name) else false) = true then slices_EqualFunc_api_Expr_api_Expr_api_Expr_api_Expr_F fu a.Kids b.Kids else some default) >>= fun x1 =>
    some (bif (bif (bif (a.Op == b.Op) then (a.NV == b.NV) else false) then (a.Name == b.Name) else false) then x1 else false)
def slices_EqualFunc_api_Expr_api_Expr_api_Expr_api_Expr_F : Nat → (List ApiExpr) → (List ApiExpr) → Option Bool
  | 0, _, _ => none
  | fu + 1, s1, s2 =>
    if (((s1).length : Int) != ((s2).length : Int)) = true then
      some false
    else
      slices_EqualFunc_api_Expr_api_Expr_api_Expr_api_Expr_l1_F fu s1 s2 0
def slices_EqualFunc_api_Expr_api_Expr_api_Expr_api_Expr_l1_F : Nat → (List ApiExpr) → (List ApiExpr) → Int → Option Bool
  | 0, _, _, _ => none
  | fu + 1, s1, s2, v17 =>
    if (decide (v17 < ((s1).length : Int))) = true then
      idx s1 v17 >>= fun x1 =>
      idx s2 v17 >>= fun x2 =>
      syntax_EqualExpr_F fu x1 x2 >>= fun x3 =>
      if (!x3) = true then
        some false
      else
        slices_EqualFunc_api_Expr_api_Expr_api_Expr_api_Expr_l1_F fu s1 s2 (IntKind.i64.wrap (v17 + 1))
    else
      some true
end
theorem syntax_EqualExpr_leg (fu : Nat) : (∀ (a : ApiExpr) (b : ApiExpr), Le (syntax_EqualExpr_F fu a b) (syntax_EqualExpr a b)) ∧ (∀ (s1 : List ApiExpr) (s2 : List ApiExpr), Le (slices_EqualFunc_api_Expr_api_Expr_api_Expr_api_Expr_F fu s1 s2) (slices_EqualFunc_api_Expr_api_Expr_api_Expr_api_Expr s1 s2)) ∧ (∀ (s1 : List ApiExpr) (s2 : List ApiExpr) (v17 : Int), Le (slices_EqualFunc_api_Expr_api_Expr_api_Expr_api_Expr_l1_F fu s1 s2 v17) (slices_EqualFunc_api_Expr_api_Expr_api_Expr_api_Expr_l1 s1 s2 v17)) := by
  induction fu with
  | zero => exact ⟨fun _ _ => Le.none, fun _ _ => Le.none, fun _ _ _ => Le.none⟩
  | succ fu ih =>
    obtain ⟨ih0, ih1, ih2⟩ := ih
    refine ⟨fun a b => ?_, fun s1 s2 => ?_, fun s1 s2 v17 => ?_⟩
    · rw [syntax_EqualExpr_F, syntax_EqualExpr]
      repeat (first | exact Le.rfl | exact ih0 _ _ | exact ih1 _ _ | exact ih2 _ _ _ | exact X_Itoa_le _ | refine Le.bind ?_ (fun _ => ?_) | refine Le.ite ?_ ?_)
    · rw [slices_EqualFunc_api_Expr_api_Expr_api_Expr_api_Expr_F, slices_EqualFunc_api_Expr_api_Expr_api_Expr_api_Expr]
      repeat (first | exact Le.rfl | exact ih0 _ _ | exact ih1 _ _ | exact ih2 _ _ _ | exact X_Itoa_le _ | refine Le.bind ?_ (fun _ => ?_) | refine Le.ite ?_ ?_)
    · rw [slices_EqualFunc_api_Expr_api_Expr_api_Expr_api_Expr_l1_F, slices_EqualFunc_api_Expr_api_Expr_api_Expr_api_Expr_l1]
      repeat (first | exact Le.rfl | exact ih0 _ _ | exact ih1 _ _ | exact ih2 _ _ _ | exact X_Itoa_le _ | refine Le.bind ?_ (fun _ => ?_) | refine Le.ite ?_ ?_)
theorem syntax_EqualExpr_le (fu : Nat) (a : ApiExpr) (b : ApiExpr) : Le (syntax_EqualExpr_F fu a b) (syntax_EqualExpr a b) := (syntax_EqualExpr_leg fu).1 a b
theorem slices_EqualFunc_api_Expr_api_Expr_api_Expr_api_Expr_le (fu : Nat) (s1 : List ApiExpr) (s2 : List ApiExpr) : Le (slices_EqualFunc_api_Expr_api_Expr_api_Expr_api_Expr_F fu s1 s2) (slices_EqualFunc_api_Expr_api_Expr_api_Expr_api_Expr s1 s2) := (syntax_EqualExpr_leg fu).2.1 s1 s2
theorem slices_EqualFunc_api_Expr_api_Expr_api_Expr_api_Expr_l1_le (fu : Nat) (s1 : List ApiExpr) (s2 : List ApiExpr) (v17 : Int) : Le (slices_EqualFunc_api_Expr_api_Expr_api_Expr_api_Expr_l1_F fu s1 s2 v17) (slices_EqualFunc_api_Expr_api_Expr_api_Expr_api_Expr_l1 s1 s2 v17) := (syntax_EqualExpr_leg fu).2.2 s1 s2 v17
def syntax_report_optional_F (fu : Nat) (e : ApiExpr) (used : Bool) (syntaxReport : SyntaxReport) : Option SyntaxReport :=
  (if (!used) = true then syntax_EqualExpr_F fu e (ApiExpr.mk 0 0 [] []) else some default) >>= fun x1 =>
  if (bif (!used) then x1 else false) = true then
    some syntaxReport
  else
    syntax_report_form_F fu used syntaxReport >>= fun x2 =>
    syntax_report_expr_F fu e 1 x2 >>= fun x3 =>
    some x3
theorem syntax_report_optional_le (fu : Nat) (e : ApiExpr) (used : Bool) (syntaxReport : SyntaxReport) : Le (syntax_report_optional_F fu e used syntaxReport) (syntax_report_optional e used syntaxReport) := by
  unfold syntax_report_optional_F syntax_report_optional
  repeat (first | exact Le.rfl | exact syntax_EqualExpr_le fu _ _ | exact syntax_report_form_le fu _ _ | exact syntax_report_expr_le fu _ _ _ | exact X_Itoa_le _ | refine Le.bind ?_ (fun _ => ?_) | refine Le.ite ?_ ?_)
def syntax_statement_F (fu : Nat) (v : Int) : Option (SyntaxUses × Bool) :=
  if (v == 0) = true then
    some ((SyntaxUses.mk true true false false false false false false false), true)
  else
    if (v == 1) = true then
      some ((SyntaxUses.mk true false true true false false false false false), true)
    else
      if (v == 2) = true then
        some ((SyntaxUses.mk true false true false false false false false false), true)
      else
        if (v == 3) = true then
          some ((SyntaxUses.mk false true false false false false false false false), true)
        else
          if (v == 4) = true then
            some ((SyntaxUses.mk false false false false true false false false false), true)
          else
            if (v == 5) = true then
              some ((SyntaxUses.mk false true false false false false false true true), true)
            else
              if (v == 6) = true then
                some ((SyntaxUses.mk false true false false true false false true false), true)
              else
                if (v == 7) = true then
                  some ((SyntaxUses.mk false false true false false true false true false), true)
                else
                  if (v == 8) = true then
                    some ((SyntaxUses.mk false false false false false false true false false), true)
                  else
                    some ((SyntaxUses.mk false false false false false false false false false), false)
theorem syntax_statement_le (fu : Nat) (v : Int) : Le (syntax_statement_F fu v) (syntax_statement v) := by
  unfold syntax_statement_F syntax_statement
  repeat (first | exact Le.rfl | exact X_Itoa_le _ | refine Le.bind ?_ (fun _ => ?_) | refine Le.ite ?_ ?_)
def syntax_report_numbers_l1_F : Nat → ApiStmt → SyntaxReport → Int → Int → Option SyntaxReport
  | 0, _, _, _, _ => none
  | fu + 1, s, o0, last, v58 =>
    if (decide (v58 < ((s.Numbers).length : Int))) = true then
      idx s.Numbers v58 >>= fun x10 =>
      syntax_inside_F fu x10 0 1048576 >>= fun x11 =>
      syntax_report_number_F fu (bif x11 then (decide (x10 > last)) else false) o0 >>= fun x12 =>
      syntax_report_numbers_l1_F fu s x12 x10 (IntKind.i64.wrap (v58 + 1))
    else
      some o0
theorem syntax_report_numbers_l1_leg (fu : Nat) : (∀ (s : ApiStmt) (o0 : SyntaxReport) (last : Int) (v58 : Int), Le (syntax_report_numbers_l1_F fu s o0 last v58) (syntax_report_numbers_l1 s o0 last v58)) := by
  induction fu with
  | zero => exact fun _ _ _ _ => Le.none
  | succ fu ih =>
    have ih0 := ih
    refine fun s o0 last v58 => ?_
    · rw [syntax_report_numbers_l1_F, syntax_report_numbers_l1]
      repeat (first | exact Le.rfl | exact ih0 _ _ _ _ | exact syntax_inside_le fu _ _ _ | exact syntax_report_number_le fu _ _ | exact X_Itoa_le _ | refine Le.bind ?_ (fun _ => ?_) | refine Le.ite ?_ ?_)
theorem syntax_report_numbers_l1_le (fu : Nat) (s : ApiStmt) (o0 : SyntaxReport) (last : Int) (v58 : Int) : Le (syntax_report_numbers_l1_F fu s o0 last v58) (syntax_report_numbers_l1 s o0 last v58) := (syntax_report_numbers_l1_leg fu) s o0 last v58
def syntax_report_numbers_F (fu : Nat) (s : ApiStmt) (syntaxReport : SyntaxReport) : Option SyntaxReport :=
  if (s.Verb == 4) = true then
    syntax_inside_F fu s.NV 0 1048576 >>= fun x1 =>
    syntax_report_number_F fu x1 syntaxReport >>= fun x2 =>
    some x2
  else
    if (s.Verb == 6) = true then
      syntax_inside_F fu s.NV 0 4096 >>= fun x3 =>
      syntax_report_number_F fu x3 syntaxReport >>= fun x4 =>
      some x4
    else
      if (s.Verb == 7) = true then
        syntax_inside_F fu s.Low (-1048576) 1048576 >>= fun x5 =>
        (if x5 = true then syntax_inside_F fu s.High s.Low 1048576 else some default) >>= fun x6 =>
        syntax_report_number_F fu (bif (bif x5 then x6 else false) then (decide ((IntKind.i64.wrap (s.High - s.Low)) < 4096)) else false) syntaxReport >>= fun x7 =>
        some x7
      else
        if (s.Verb == 8) = true then
          syntax_inside_F fu ((s.Numbers).length : Int) 1 32 >>= fun x8 =>
          syntax_report_number_F fu x8 syntaxReport >>= fun x9 =>
          syntax_report_numbers_l1_F fu s x9 (-1) 0
        else
          some syntaxReport
theorem syntax_report_numbers_le (fu : Nat) (s : ApiStmt) (syntaxReport : SyntaxReport) : Le (syntax_report_numbers_F fu s syntaxReport) (syntax_report_numbers s syntaxReport) := by
  unfold syntax_report_numbers_F syntax_report_numbers
  repeat (first | exact Le.rfl | exact syntax_inside_le fu _ _ _ | exact syntax_report_number_le fu _ _ | exact syntax_report_numbers_l1_le fu _ _ _ _ | exact X_Itoa_le _ | refine Le.bind ?_ (fun _ => ?_) | refine Le.ite ?_ ?_)
mutual
def syntax_report_stmts_F : Nat → (List ApiStmt) → Int → SyntaxReport → Option SyntaxReport
  | 0, _, _, _ => none
  | fu + 1, l, nesting, syntaxReport =>
    syntax_report_stmts_l1_F fu l nesting syntaxReport 0
def syntax_report_stmts_l1_F : Nat → (List ApiStmt) → Int → SyntaxReport → Int → Option SyntaxReport
  | 0, _, _, _, _ => none
  | fu + 1, l, nesting, o03, v14 =>
    if (decide (v14 < ((l).length : Int))) = true then
      idx l v14 >>= fun x1 =>
      syntax_report_deep_F fu nesting (SyntaxReport.mk (IntKind.i64.wrap (o03.nodes + 1)) o03.depth o03.badForm o03.badName o03.badNumber) >>= fun x2 =>
      syntax_statement_F fu x1.Verb >>= fun x3 =>
      syntax_report_form_F fu x3.2 x2 >>= fun x4 =>
      syntax_report_optional_F fu x1.Place x3.1.place x4 >>= fun x5 =>
      if x3.1.place = true then
        syntax_place_F fu x1.Place >>= fun x6 =>
        syntax_report_form_F fu x6 x5 >>= fun x7 =>
        syntax_report_stmts_j2_F fu l nesting x7 x1 x3 v14
      else
        syntax_report_stmts_j2_F fu l nesting x5 x1 x3 v14
    else
      some o03
def syntax_report_stmts_j2_F : Nat → (List ApiStmt) → Int → SyntaxReport → ApiStmt → (SyntaxUses × Bool) → Int → Option SyntaxReport
  | 0, _, _, _, _, _, _ => none
  | fu + 1, l, nesting, o0, x1, x3, v141 =>
    syntax_report_optional_F fu x1.Value x3.1.value o0 >>= fun x8 =>
    syntax_report_form_F fu (bif x3.1.name then true else (x1.Name == [])) x8 >>= fun x9 =>
    if x3.1.name = true then
      syntax_report_name_F fu x1.Name x9 >>= fun x10 =>
      syntax_report_stmts_j3_F fu l nesting x10 x1 x3 v141
    else
      syntax_report_stmts_j3_F fu l nesting x9 x1 x3 v141
def syntax_report_stmts_j3_F : Nat → (List ApiStmt) → Int → SyntaxReport → ApiStmt → (SyntaxUses × Bool) → Int → Option SyntaxReport
  | 0, _, _, _, _, _, _ => none
  | fu + 1, l, nesting, o01, x1, x3, v142 =>
    syntax_report_form_F fu (bif x3.1.args then true else (((x1.Args).length : Int) == 0)) o01 >>= fun x11 =>
    syntax_report_stmts_l4_F fu l nesting x11 x1 x3 v142 0
def syntax_report_stmts_l4_F : Nat → (List ApiStmt) → Int → SyntaxReport → ApiStmt → (SyntaxUses × Bool) → Int → Int → Option SyntaxReport
  | 0, _, _, _, _, _, _, _ => none
  | fu + 1, l, nesting, o02, x1, x3, v143, v84 =>
    if (decide (v84 < ((x1.Args).length : Int))) = true then
      idx x1.Args v84 >>= fun x12 =>
      syntax_report_expr_F fu x12 1 o02 >>= fun x13 =>
      syntax_report_stmts_l4_F fu l nesting x13 x1 x3 v143 (IntKind.i64.wrap (v84 + 1))
    else
      syntax_report_form_F fu (bif x3.1.n then true else (x1.NV == 0)) o02 >>= fun x14 =>
      syntax_report_form_F fu (bif x3.1.bounds then true else (bif (x1.Low == 0) then (x1.High == 0) else false)) x14 >>= fun x15 =>
      syntax_report_form_F fu (bif x3.1.numbers then true else (((x1.Numbers).length : Int) == 0)) x15 >>= fun x16 =>
      syntax_report_form_F fu (bif x3.1.thenV then true else (((x1.Then).length : Int) == 0)) x16 >>= fun x17 =>
      syntax_report_form_F fu (bif x3.1.other then true else (((x1.Else).length : Int) == 0)) x17 >>= fun x18 =>
      syntax_report_numbers_F fu x1 x18 >>= fun x19 =>
      syntax_report_stmts_F fu x1.Then (IntKind.i64.wrap (nesting + 1)) x19 >>= fun x20 =>
      syntax_report_stmts_F fu x1.Else (IntKind.i64.wrap (nesting + 1)) x20 >>= fun x21 =>
      syntax_report_stmts_l1_F fu l nesting x21 (IntKind.i64.wrap (v143 + 1))
end
theorem syntax_report_stmts_leg (fu : Nat) : (∀ (l : List ApiStmt) (nesting : Int) (syntaxReport : SyntaxReport), Le (syntax_report_stmts_F fu l nesting syntaxReport) (syntax_report_stmts l nesting syntaxReport)) ∧ (∀ (l : List ApiStmt) (nesting : Int) (o03 : SyntaxReport) (v14 : Int), Le (syntax_report_stmts_l1_F fu l nesting o03 v14) (syntax_report_stmts_l1 l nesting o03 v14)) ∧ (∀ (l : List ApiStmt) (nesting : Int) (o0 : SyntaxReport) (x1 : ApiStmt) (x3 : SyntaxUses × Bool) (v141 : Int), Le (syntax_report_stmts_j2_F fu l nesting o0 x1 x3 v141) (syntax_report_stmts_j2 l nesting o0 x1 x3 v141)) ∧ (∀ (l : List ApiStmt) (nesting : Int) (o01 : SyntaxReport) (x1 : ApiStmt) (x3 : SyntaxUses × Bool) (v142 : Int), Le (syntax_report_stmts_j3_F fu l nesting o01 x1 x3 v142) (syntax_report_stmts_j3 l nesting o01 x1 x3 v142)) ∧ (∀ (l : List ApiStmt) (nesting : Int) (o02 : SyntaxReport) (x1 : ApiStmt) (x3 : SyntaxUses × Bool) (v143 : Int) (v84 : Int), Le (syntax_report_stmts_l4_F fu l nesting o02 x1 x3 v143 v84) (syntax_report_stmts_l4 l nesting o02 x1 x3 v143 v84)) := by
  induction fu with
  | zero => exact ⟨fun _ _ _ => Le.none, fun _ _ _ _ => Le.none, fun _ _ _ _ _ _ => Le.none, fun _ _ _ _ _ _ => Le.none, fun _ _ _ _ _ _ _ => Le.none⟩
  | succ fu ih =>
    obtain ⟨ih0, ih1, ih2, ih3, ih4⟩ := ih
    refine ⟨fun l nesting syntaxReport => ?_, fun l nesting o03 v14 => ?_, fun l nesting o0 x1 x3 v141 => ?_, fun l nesting o01 x1 x3 v142 => ?_, fun l nesting o02 x1 x3 v143 v84 => ?_⟩
    · rw [syntax_report_stmts_F, syntax_report_stmts]
      repeat (first | exact Le.rfl | exact ih0 _ _ _ | exact ih1 _ _ _ _ | exact ih2 _ _ _ _ _ _ | exact ih3 _ _ _ _ _ _ | exact ih4 _ _ _ _ _ _ _ | exact syntax_report_deep_le fu _ _ | exact syntax_statement_le fu _ | exact syntax_report_form_le fu _ _ | exact syntax_report_optional_le fu _ _ _ | exact syntax_place_le fu _ | exact syntax_report_name_le fu _ _ | exact syntax_report_expr_le fu _ _ _ | exact syntax_report_numbers_le fu _ _ | exact X_Itoa_le _ | refine Le.bind ?_ (fun _ => ?_) | refine Le.ite ?_ ?_)
    · rw [syntax_report_stmts_l1_F, syntax_report_stmts_l1]
      repeat (first | exact Le.rfl | exact ih0 _ _ _ | exact ih1 _ _ _ _ | exact ih2 _ _ _ _ _ _ | exact ih3 _ _ _ _ _ _ | exact ih4 _ _ _ _ _ _ _ | exact syntax_report_deep_le fu _ _ | exact syntax_statement_le fu _ | exact syntax_report_form_le fu _ _ | exact syntax_report_optional_le fu _ _ _ | exact syntax_place_le fu _ | exact syntax_report_name_le fu _ _ | exact syntax_report_expr_le fu _ _ _ | exact syntax_report_numbers_le fu _ _ | exact X_Itoa_le _ | refine Le.bind ?_ (fun _ => ?_) | refine Le.ite ?_ ?_)
    · rw [syntax_report_stmts_j2_F, syntax_report_stmts_j2]
      repeat (first | exact Le.rfl | exact ih0 _ _ _ | exact ih1 _ _ _ _ | exact ih2 _ _ _ _ _ _ | exact ih3 _ _ _ _ _ _ | exact ih4 _ _ _ _ _ _ _ | exact syntax_report_deep_le fu _ _ | exact syntax_statement_le fu _ | exact syntax_report_form_le fu _ _ | exact syntax_report_optional_le fu _ _ _ | exact syntax_place_le fu _ | exact syntax_report_name_le fu _ _ | exact syntax_report_expr_le fu _ _ _ | exact syntax_report_numbers_le fu _ _ | exact X_Itoa_le _ | refine Le.bind ?_ (fun _ => ?_) | refine Le.ite ?_ ?_)
    · rw [syntax_report_stmts_j3_F, syntax_report_stmts_j3]
      repeat (first | exact Le.rfl | exact ih0 _ _ _ | exact ih1 _ _ _ _ | exact ih2 _ _ _ _ _ _ | exact ih3 _ _ _ _ _ _ | exact ih4 _ _ _ _ _ _ _ | exact syntax_report_deep_le fu _ _ | exact syntax_statement_le fu _ | exact syntax_report_form_le fu _ _ | exact syntax_report_optional_le fu _ _ _ | exact syntax_place_le fu _ | exact syntax_report_name_le fu _ _ | exact syntax_report_expr_le fu _ _ _ | exact syntax_report_numbers_le fu _ _ | exact X_Itoa_le _ | refine Le.bind ?_ (fun _ => ?_) | refine Le.ite ?_ ?_)
    · rw [syntax_report_stmts_l4_F, syntax_report_stmts_l4]
      repeat (first | exact Le.rfl | exact ih0 _ _ _ | exact ih1 _ _ _ _ | exact ih2 _ _ _ _ _ _ | exact ih3 _ _ _ _ _ _ | exact ih4 _ _ _ _ _ _ _ | exact syntax_report_deep_le fu _ _ | exact syntax_statement_le fu _ | exact syntax_report_form_le fu _ _ | exact syntax_report_optional_le fu _ _ _ | exact syntax_place_le fu _ | exact syntax_report_name_le fu _ _ | exact syntax_report_expr_le fu _ _ _ | exact syntax_report_numbers_le fu _ _ | exact X_Itoa_le _ | refine Le.bind ?_ (fun _ => ?_) | refine Le.ite ?_ ?_)
theorem syntax_report_stmts_le (fu : Nat) (l : List ApiStmt) (nesting : Int) (syntaxReport : SyntaxReport) : Le (syntax_report_stmts_F fu l nesting syntaxReport) (syntax_report_stmts l nesting syntaxReport) := (syntax_report_stmts_leg fu).1 l nesting syntaxReport
theorem syntax_report_stmts_l1_le (fu : Nat) (l : List ApiStmt) (nesting : Int) (o03 : SyntaxReport) (v14 : Int) : Le (syntax_report_stmts_l1_F fu l nesting o03 v14) (syntax_report_stmts_l1 l nesting o03 v14) := (syntax_report_stmts_leg fu).2.1 l nesting o03 v14
theorem syntax_report_stmts_j2_le (fu : Nat) (l : List ApiStmt) (nesting : Int) (o0 : SyntaxReport) (x1 : ApiStmt) (x3 : SyntaxUses × Bool) (v141 : Int) : Le (syntax_report_stmts_j2_F fu l nesting o0 x1 x3 v141) (syntax_report_stmts_j2 l nesting o0 x1 x3 v141) := (syntax_report_stmts_leg fu).2.2.1 l nesting o0 x1 x3 v141
theorem syntax_report_stmts_j3_le (fu : Nat) (l : List ApiStmt) (nesting : Int) (o01 : SyntaxReport) (x1 : ApiStmt) (x3 : SyntaxUses × Bool) (v142 : Int) : Le (syntax_report_stmts_j3_F fu l nesting o01 x1 x3 v142) (syntax_report_stmts_j3 l nesting o01 x1 x3 v142) := (syntax_report_stmts_leg fu).2.2.2.1 l nesting o01 x1 x3 v142
theorem syntax_report_stmts_l4_le (fu : Nat) (l : List ApiStmt) (nesting : Int) (o02 : SyntaxReport) (x1 : ApiStmt) (x3 : SyntaxUses × Bool) (v143 : Int) (v84 : Int) : Le (syntax_report_stmts_l4_F fu l nesting o02 x1 x3 v143 v84) (syntax_report_stmts_l4 l nesting o02 x1 x3 v143 v84) := (syntax_report_stmts_leg fu).2.2.2.2 l nesting o02 x1 x3 v143 v84
mutual
def syntax_report_decls_F : Nat → (List ApiDecl) → SyntaxReport → Option SyntaxReport
  | 0, _, _ => none
  | fu + 1, l, syntaxReport =>
    syntax_report_decls_l1_F fu l syntaxReport 0
def syntax_report_decls_l1_F : Nat → (List ApiDecl) → SyntaxReport → Int → Option SyntaxReport
  | 0, _, _, _ => none
  | fu + 1, l, o03, v15 =>
    if (decide (v15 < ((l).length : Int))) = true then
      idx l v15 >>= fun x1 =>
      syntax_declared_F fu x1.Kind >>= fun x2 =>
      syntax_report_form_F fu x2.1 (SyntaxReport.mk (IntKind.i64.wrap (o03.nodes + 1)) o03.depth o03.badForm o03.badName o03.badNumber) >>= fun x3 =>
      (if (!x2.1) = true then syntax_equalType_F fu x1.TypeV (ApiType.mk 0 0 0 0 [] [] []) else some default) >>= fun x4 =>
      if (bif x2.1 then true else (!x4)) = true then
        syntax_report_typ_F fu x1.TypeV 1 x3 >>= fun x5 =>
        syntax_report_decls_j2_F fu l x5 x1 x2 v15
      else
        syntax_report_decls_j2_F fu l x3 x1 x2 v15
    else
      some o03
def syntax_report_decls_j2_F : Nat → (List ApiDecl) → SyntaxReport → ApiDecl → (Bool × Bool) → Int → Option SyntaxReport
  | 0, _, _, _, _, _ => none
  | fu + 1, l, o0, x1, x2, v151 =>
    syntax_report_name_F fu x1.Name o0 >>= fun x6 =>
    syntax_report_optional_F fu x1.Value x2.2 x6 >>= fun x7 =>
    syntax_report_form_F fu (bif (x1.Kind == 4) then true else (x1.Init == 0)) x7 >>= fun x8 =>
    syntax_inside_F fu x1.Init (-1048576) 1048576 >>= fun x9 =>
    (if (x9 && (!(x1.TypeV.Kind != 0))) = true then syntax_inside_F fu x1.Init 0 1 else some default) >>= fun x10 =>
    syntax_report_number_F fu (bif x9 then (bif (x1.TypeV.Kind != 0) then true else x10) else false) x8 >>= fun x11 =>
    syntax_report_form_F fu (bif (x1.Kind == 6) then true else (bif (bif (((x1.Params).length : Int) == 0) then (((x1.Vars).length : Int) == 0) else false) then (((x1.Body).length : Int) == 0) else false)) x11 >>= fun x12 =>
    syntax_report_decls_l3_F fu l x12 x1 v151 0
def syntax_report_decls_l3_F : Nat → (List ApiDecl) → SyntaxReport → ApiDecl → Int → Int → Option SyntaxReport
  | 0, _, _, _, _, _ => none
  | fu + 1, l, o01, x1, v152, v109 =>
    if (decide (v109 < ((x1.Params).length : Int))) = true then
      idx x1.Params v109 >>= fun x13 =>
      syntax_report_form_F fu (bif (x13.Kind == 4) then (x13.Init == 0) else false) o01 >>= fun x14 =>
      syntax_report_decls_l3_F fu l x14 x1 v152 (IntKind.i64.wrap (v109 + 1))
    else
      syntax_report_decls_l4_F fu l o01 x1 v152 0
def syntax_report_decls_l4_F : Nat → (List ApiDecl) → SyntaxReport → ApiDecl → Int → Int → Option SyntaxReport
  | 0, _, _, _, _, _ => none
  | fu + 1, l, o02, x1, v153, v127 =>
    if (decide (v127 < ((x1.Vars).length : Int))) = true then
      idx x1.Vars v127 >>= fun x15 =>
      syntax_report_form_F fu (x15.Kind == 4) o02 >>= fun x16 =>
      syntax_report_decls_l4_F fu l x16 x1 v153 (IntKind.i64.wrap (v127 + 1))
    else
      syntax_report_decls_F fu x1.Params o02 >>= fun x17 =>
      syntax_report_decls_F fu x1.Vars x17 >>= fun x18 =>
      syntax_report_stmts_F fu x1.Body 1 x18 >>= fun x19 =>
      syntax_report_decls_l1_F fu l x19 (IntKind.i64.wrap (v153 + 1))
end
theorem syntax_report_decls_leg (fu : Nat) : (∀ (l : List ApiDecl) (syntaxReport : SyntaxReport), Le (syntax_report_decls_F fu l syntaxReport) (syntax_report_decls l syntaxReport)) ∧ (∀ (l : List ApiDecl) (o03 : SyntaxReport) (v15 : Int), Le (syntax_report_decls_l1_F fu l o03 v15) (syntax_report_decls_l1 l o03 v15)) ∧ (∀ (l : List ApiDecl) (o0 : SyntaxReport) (x1 : ApiDecl) (x2 : Bool × Bool) (v151 : Int), Le (syntax_report_decls_j2_F fu l o0 x1 x2 v151) (syntax_report_decls_j2 l o0 x1 x2 v151)) ∧ (∀ (l : List ApiDecl) (o01 : SyntaxReport) (x1 : ApiDecl) (v152 : Int) (v109 : Int), Le (syntax_report_decls_l3_F fu l o01 x1 v152 v109) (syntax_report_decls_l3 l o01 x1 v152 v109)) ∧ (∀ (l : List ApiDecl) (o02 : SyntaxReport) (x1 : ApiDecl) (v153 : Int) (v127 : Int), Le (syntax_report_decls_l4_F fu l o02 x1 v153 v127) (syntax_report_decls_l4 l o02 x1 v153 v127)) := by
  induction fu with
  | zero => exact ⟨fun _ _ => Le.none, fun _ _ _ => Le.none, fun _ _ _ _ _ => Le.none, fun _ _ _ _ _ => Le.none, fun _ _ _ _ _ => Le.none⟩
  | succ fu ih =>
    obtain ⟨ih0, ih1, ih2, ih3, ih4⟩ := ih
    refine ⟨fun l syntaxReport => ?_, fun l o03 v15 => ?_, fun l o0 x1 x2 v151 => ?_, fun l o01 x1 v152 v109 => ?_, fun l o02 x1 v153 v127 => ?_⟩
    · rw [syntax_report_decls_F, syntax_report_decls]
      repeat (first | exact Le.rfl | exact ih0 _ _ | exact ih1 _ _ _ | exact ih2 _ _ _ _ _ | exact ih3 _ _ _ _ _ | exact ih4 _ _ _ _ _ | exact syntax_declared_le fu _ | exact syntax_report_form_le fu _ _ | exact syntax_equalType_le fu _ _ | exact syntax_report_typ_le fu _ _ _ | exact syntax_report_name_le fu _ _ | exact syntax_report_optional_le fu _ _ _ | exact syntax_inside_le fu _ _ _ | exact syntax_report_number_le fu _ _ | exact syntax_report_stmts_le fu _ _ _ | exact X_Itoa_le _ | refine Le.bind ?_ (fun _ => ?_) | refine Le.ite ?_ ?_)
    · rw [syntax_report_decls_l1_F, syntax_report_decls_l1]
      repeat (first | exact Le.rfl | exact ih0 _ _ | exact ih1 _ _ _ | exact ih2 _ _ _ _ _ | exact ih3 _ _ _ _ _ | exact ih4 _ _ _ _ _ | exact syntax_declared_le fu _ | exact syntax_report_form_le fu _ _ | exact syntax_equalType_le fu _ _ | exact syntax_report_typ_le fu _ _ _ | exact syntax_report_name_le fu _ _ | exact syntax_report_optional_le fu _ _ _ | exact syntax_inside_le fu _ _ _ | exact syntax_report_number_le fu _ _ | exact syntax_report_stmts_le fu _ _ _ | exact X_Itoa_le _ | refine Le.bind ?_ (fun _ => ?_) | refine Le.ite ?_ ?_)
    · rw [syntax_report_decls_j2_F, syntax_report_decls_j2]
      repeat (first | exact Le.rfl | exact ih0 _ _ | exact ih1 _ _ _ | exact ih2 _ _ _ _ _ | exact ih3 _ _ _ _ _ | exact ih4 _ _ _ _ _ | exact syntax_declared_le fu _ | exact syntax_report_form_le fu _ _ | exact syntax_equalType_le fu _ _ | exact syntax_report_typ_le fu _ _ _ | exact syntax_report_name_le fu _ _ | exact syntax_report_optional_le fu _ _ _ | exact syntax_inside_le fu _ _ _ | exact syntax_report_number_le fu _ _ | exact syntax_report_stmts_le fu _ _ _ | exact X_Itoa_le _ | refine Le.bind ?_ (fun _ => ?_) | refine Le.ite ?_ ?_)
    · rw [syntax_report_decls_l3_F, syntax_report_decls_l3]
      repeat (first | exact Le.rfl | exact ih0 _ _ | exact ih1 _ _ _ | exact ih2 _ _ _ _ _ | exact ih3 _ _ _ _ _ | exact ih4 _ _ _ _ _ | exact syntax_declared_le fu _ | exact syntax_report_form_le fu _ _ | exact syntax_equalType_le fu _ _ | exact syntax_report_typ_le fu _ _ _ | exact syntax_report_name_le fu _ _ | exact syntax_report_optional_le fu _ _ _ | exact syntax_inside_le fu _ _ _ | exact syntax_report_number_le fu _ _ | exact syntax_report_stmts_le fu _ _ _ | exact X_Itoa_le _ | refine Le.bind ?_ (fun _ => ?_) | refine Le.ite ?_ ?_)
    · rw [syntax_report_decls_l4_F, syntax_report_decls_l4]
      repeat (first | exact Le.rfl | exact ih0 _ _ | exact ih1 _ _ _ | exact ih2 _ _ _ _ _ | exact ih3 _ _ _ _ _ | exact ih4 _ _ _ _ _ | exact syntax_declared_le fu _ | exact syntax_report_form_le fu _ _ | exact syntax_equalType_le fu _ _ | exact syntax_report_typ_le fu _ _ _ | exact syntax_report_name_le fu _ _ | exact syntax_report_optional_le fu _ _ _ | exact syntax_inside_le fu _ _ _ | exact syntax_report_number_le fu _ _ | exact syntax_report_stmts_le fu _ _ _ | exact X_Itoa_le _ | refine Le.bind ?_ (fun _ => ?_) | refine Le.ite ?_ ?_)
theorem syntax_report_decls_le (fu : Nat) (l : List ApiDecl) (syntaxReport : SyntaxReport) : Le (syntax_report_decls_F fu l syntaxReport) (syntax_report_decls l syntaxReport) := (syntax_report_decls_leg fu).1 l syntaxReport
theorem syntax_report_decls_l1_le (fu : Nat) (l : List ApiDecl) (o03 : SyntaxReport) (v15 : Int) : Le (syntax_report_decls_l1_F fu l o03 v15) (syntax_report_decls_l1 l o03 v15) := (syntax_report_decls_leg fu).2.1 l o03 v15
theorem syntax_report_decls_j2_le (fu : Nat) (l : List ApiDecl) (o0 : SyntaxReport) (x1 : ApiDecl) (x2 : Bool × Bool) (v151 : Int) : Le (syntax_report_decls_j2_F fu l o0 x1 x2 v151) (syntax_report_decls_j2 l o0 x1 x2 v151) := (syntax_report_decls_leg fu).2.2.1 l o0 x1 x2 v151
theorem syntax_report_decls_l3_le (fu : Nat) (l : List ApiDecl) (o01 : SyntaxReport) (x1 : ApiDecl) (v152 : Int) (v109 : Int) : Le (syntax_report_decls_l3_F fu l o01 x1 v152 v109) (syntax_report_decls_l3 l o01 x1 v152 v109) := (syntax_report_decls_leg fu).2.2.2.1 l o01 x1 v152 v109
theorem syntax_report_decls_l4_le (fu : Nat) (l : List ApiDecl) (o02 : SyntaxReport) (x1 : ApiDecl) (v153 : Int) (v127 : Int) : Le (syntax_report_decls_l4_F fu l o02 x1 v153 v127) (syntax_report_decls_l4 l o02 x1 v153 v127) := (syntax_report_decls_leg fu).2.2.2.2 l o02 x1 v153 v127
def syntax_program_F (fu : Nat) (p : ApiProgram) : Option SyntaxReport :=
  syntax_report_decls_F fu p.Decls (SyntaxReport.mk 0 0 false false false) >>= fun x1 =>
  syntax_report_stmts_F fu p.Body 1 x1 >>= fun x2 =>
  some x2
theorem syntax_program_le (fu : Nat) (p : ApiProgram) : Le (syntax_program_F fu p) (syntax_program p) := by
  unfold syntax_program_F syntax_program
  repeat (first | exact Le.rfl | exact syntax_report_decls_le fu _ _ | exact syntax_report_stmts_le fu _ _ _ | exact X_Itoa_le _ | refine Le.bind ?_ (fun _ => ?_) | refine Le.ite ?_ ?_)
def syntax_Check_F (fu : Nat) (p : ApiProgram) : Option Int :=
  syntax_program_F fu p >>= fun x1 =>
  syntax_report_code_F fu x1 >>= fun x2 =>
  some x2
theorem syntax_Check_le (fu : Nat) (p : ApiProgram) : Le (syntax_Check_F fu p) (syntax_Check p) := by
  unfold syntax_Check_F syntax_Check
  repeat (first | exact Le.rfl | exact syntax_program_le fu _ | exact syntax_report_code_le fu _ | exact X_Itoa_le _ | refine Le.bind ?_ (fun _ => ?_) | refine Le.ite ?_ ?_)
mutual
def syntax_printer_typ_F : Nat → ApiType → Str → Option Str
  | 0, _, _ => none
  | fu + 1, t, b =>
    if (t.Kind == 0) = true then
      X_WriteString_SyntaxPrinter [98, 111, 111, 108] b >>= fun x1 =>
      some x1.2
    else
      if (t.Kind == 1) = true then
        X_Itoa_F t.Low >>= fun x2 =>
        if (decide (4 + x2.length ≤ maxLen)) = true then
          if (decide (([105, 110, 116, 91] ++ x2).length + 2 ≤ maxLen)) = true then
            X_Itoa_F t.High >>= fun x3 =>
            if (decide ((([105, 110, 116, 91] ++ x2) ++ [46, 46]).length + x3.length ≤ maxLen)) = true then
              if (decide (((([105, 110, 116, 91] ++ x2) ++ [46, 46]) ++ x3).length + 1 ≤ maxLen)) = true then
                X_WriteString_SyntaxPrinter (((([105, 110, 116, 91] ++ x2) ++ [46, 46]) ++ x3) ++ [93]) b >>= fun x4 =>
                some x4.2
              else none
            else none
          else none
        else none
      else
        if (t.Kind == 2) = true then
          X_Itoa_F t.Size >>= fun x5 =>
          if (decide (6 + x5.length ≤ maxLen)) = true then
            if (decide (([97, 114, 114, 97, 121, 32] ++ x5).length + 4 ≤ maxLen)) = true then
              X_WriteString_SyntaxPrinter (([97, 114, 114, 97, 121, 32] ++ x5) ++ [32, 111, 102, 32]) b >>= fun x6 =>
              idx t.Of 0 >>= fun x7 =>
              syntax_printer_typ_F fu x7 x6.2 >>= fun x14 =>
              some x14
            else none
          else none
        else
          if (t.Kind == 3) = true then
            X_WriteString_SyntaxPrinter [114, 101, 99, 111, 114, 100, 32, 123] b >>= fun x8 =>
            syntax_printer_typ_l1_F fu t x8.2 0
          else
            if (t.Kind == 4) = true then
              X_WriteString_SyntaxPrinter t.Name b >>= fun x9 =>
              some x9.2
            else
              some b
def syntax_printer_typ_l1_F : Nat → ApiType → Str → Int → Option Str
  | 0, _, _, _ => none
  | fu + 1, t, b1, v56 =>
    if (decide (v56 < ((t.Of).length : Int))) = true then
      idx t.Of v56 >>= fun x10 =>
      if (decide (v56 > 0)) = true then
        X_WriteString_SyntaxPrinter [44, 32] b1 >>= fun x16 =>
        syntax_printer_typ_j2_F fu t x16.2 x10 v56 v56
      else
        syntax_printer_typ_j2_F fu t b1 x10 v56 v56
    else
      X_WriteString_SyntaxPrinter [125] b1 >>= fun x13 =>
      some x13.2
def syntax_printer_typ_j2_F : Nat → ApiType → Str → ApiType → Int → Int → Option Str
  | 0, _, _, _, _, _ => none
  | fu + 1, t, b11, x10, i, v561 =>
    idx t.Names i >>= fun x11 =>
    if (decide (x11.length + 2 ≤ maxLen)) = true then
      X_WriteString_SyntaxPrinter (x11 ++ [58, 32]) b11 >>= fun x12 =>
      syntax_printer_typ_F fu x10 x12.2 >>= fun x15 =>
      syntax_printer_typ_l1_F fu t x15 (IntKind.i64.wrap (v561 + 1))
    else none
end
theorem syntax_printer_typ_leg (fu : Nat) : (∀ (t : ApiType) (b : Str), Le (syntax_printer_typ_F fu t b) (syntax_printer_typ t b)) ∧ (∀ (t : ApiType) (b1 : Str) (v56 : Int), Le (syntax_printer_typ_l1_F fu t b1 v56) (syntax_printer_typ_l1 t b1 v56)) ∧ (∀ (t : ApiType) (b11 : Str) (x10 : ApiType) (i : Int) (v561 : Int), Le (syntax_printer_typ_j2_F fu t b11 x10 i v561) (syntax_printer_typ_j2 t b11 x10 i v561)) := by
  induction fu with
  | zero => exact ⟨fun _ _ => Le.none, fun _ _ _ => Le.none, fun _ _ _ _ _ => Le.none⟩
  | succ fu ih =>
    obtain ⟨ih0, ih1, ih2⟩ := ih
    refine ⟨fun t b => ?_, fun t b1 v56 => ?_, fun t b11 x10 i v561 => ?_⟩
    · rw [syntax_printer_typ_F, syntax_printer_typ]
      repeat (first | exact Le.rfl | exact ih0 _ _ | exact ih1 _ _ _ | exact ih2 _ _ _ _ _ | exact X_Itoa_le _ | refine Le.bind ?_ (fun _ => ?_) | refine Le.ite ?_ ?_)
    · rw [syntax_printer_typ_l1_F, syntax_printer_typ_l1]
      repeat (first | exact Le.rfl | exact ih0 _ _ | exact ih1 _ _ _ | exact ih2 _ _ _ _ _ | exact X_Itoa_le _ | refine Le.bind ?_ (fun _ => ?_) | refine Le.ite ?_ ?_)
    · rw [syntax_printer_typ_j2_F, syntax_printer_typ_j2]
      repeat (first | exact Le.rfl | exact ih0 _ _ | exact ih1 _ _ _ | exact ih2 _ _ _ _ _ | exact X_Itoa_le _ | refine Le.bind ?_ (fun _ => ?_) | refine Le.ite ?_ ?_)
theorem syntax_printer_typ_le (fu : Nat) (t : ApiType) (b : Str) : Le (syntax_printer_typ_F fu t b) (syntax_printer_typ t b) := (syntax_printer_typ_leg fu).1 t b
theorem syntax_printer_typ_l1_le (fu : Nat) (t : ApiType) (b1 : Str) (v56 : Int) : Le (syntax_printer_typ_l1_F fu t b1 v56) (syntax_printer_typ_l1 t b1 v56) := (syntax_printer_typ_leg fu).2.1 t b1 v56
theorem syntax_printer_typ_j2_le (fu : Nat) (t : ApiType) (b11 : Str) (x10 : ApiType) (i : Int) (v561 : Int) : Le (syntax_printer_typ_j2_F fu t b11 x10 i v561) (syntax_printer_typ_j2 t b11 x10 i v561) := (syntax_printer_typ_leg fu).2.2 t b11 x10 i v561
def syntax_printer_named_F (fu : Nat) (name : Str) (t : ApiType) (b : Str) : Option Str :=
  if (decide (name.length + 2 ≤ maxLen)) = true then
    X_WriteString_SyntaxPrinter (name ++ [58, 32]) b >>= fun x1 =>
    syntax_printer_typ_F fu t x1.2 >>= fun x2 =>
    some x2
  else none
theorem syntax_printer_named_le (fu : Nat) (name : Str) (t : ApiType) (b : Str) : Le (syntax_printer_named_F fu name t b) (syntax_printer_named name t b) := by
  unfold syntax_printer_named_F syntax_printer_named
  repeat (first | exact Le.rfl | exact syntax_printer_typ_le fu _ _ | exact X_Itoa_le _ | refine Le.bind ?_ (fun _ => ?_) | refine Le.ite ?_ ?_)
def syntax_printer_variable_j1_F (fu : Nat) (x2 : Str) (value : Str) : Option Str :=
  if (decide (3 + value.length ≤ maxLen)) = true then
    X_WriteString_SyntaxPrinter ([32, 61, 32] ++ value) x2 >>= fun x4 =>
    X_WriteString_SyntaxPrinter [59, 10] x4.2 >>= fun x5 =>
    some x5.2
  else none
theorem syntax_printer_variable_j1_le (fu : Nat) (x2 : Str) (value : Str) : Le (syntax_printer_variable_j1_F fu x2 value) (syntax_printer_variable_j1 x2 value) := by
  unfold syntax_printer_variable_j1_F syntax_printer_variable_j1
  repeat (first | exact Le.rfl | exact X_Itoa_le _ | refine Le.bind ?_ (fun _ => ?_) | refine Le.ite ?_ ?_)
def syntax_printer_variable_F (fu : Nat) (d : ApiDecl) (b : Str) : Option Str :=
  X_WriteString_SyntaxPrinter [118, 97, 114, 32] b >>= fun x1 =>
  syntax_printer_named_F fu d.Name d.TypeV x1.2 >>= fun x2 =>
  if (d.Init != 0) = true then
    X_Itoa_F d.Init >>= fun x3 =>
    if (d.TypeV.Kind == 0) = true then
      syntax_printer_variable_j1_F fu x2 [116, 114, 117, 101]
    else
      syntax_printer_variable_j1_F fu x2 x3
  else
    X_WriteString_SyntaxPrinter [59, 10] x2 >>= fun x5 =>
    some x5.2
theorem syntax_printer_variable_le (fu : Nat) (d : ApiDecl) (b : Str) : Le (syntax_printer_variable_F fu d b) (syntax_printer_variable d b) := by
  unfold syntax_printer_variable_F syntax_printer_variable
  repeat (first | exact Le.rfl | exact syntax_printer_named_le fu _ _ _ | exact syntax_printer_variable_j1_le fu _ _ | exact X_Itoa_le _ | refine Le.bind ?_ (fun _ => ?_) | refine Le.ite ?_ ?_)
mutual
def syntax_printer_stmt_l1_F : Nat → ApiStmt → Str → Int → Option Str
  | 0, _, _, _ => none
  | fu + 1, s, b1, v163 =>
    if (decide (v163 < ((s.Numbers).length : Int))) = true then
      idx s.Numbers v163 >>= fun x25 =>
      if (decide (v163 > 0)) = true then
        X_WriteString_SyntaxPrinter [44, 32] b1 >>= fun x28 =>
        syntax_printer_stmt_j2_F fu s x28.2 x25 v163
      else
        syntax_printer_stmt_j2_F fu s b1 x25 v163
    else
      X_WriteString_SyntaxPrinter [59] b1 >>= fun x13 =>
      some x13.2
def syntax_printer_stmt_j2_F : Nat → ApiStmt → Str → Int → Int → Option Str
  | 0, _, _, _, _ => none
  | fu + 1, s, b11, x25, v1631 =>
    X_Itoa_F x25 >>= fun x26 =>
    X_WriteString_SyntaxPrinter x26 b11 >>= fun x27 =>
    syntax_printer_stmt_l1_F fu s x27.2 (IntKind.i64.wrap (v1631 + 1))
end
theorem syntax_printer_stmt_l1_leg (fu : Nat) : (∀ (s : ApiStmt) (b1 : Str) (v163 : Int), Le (syntax_printer_stmt_l1_F fu s b1 v163) (syntax_printer_stmt_l1 s b1 v163)) ∧ (∀ (s : ApiStmt) (b11 : Str) (x25 : Int) (v1631 : Int), Le (syntax_printer_stmt_j2_F fu s b11 x25 v1631) (syntax_printer_stmt_j2 s b11 x25 v1631)) := by
  induction fu with
  | zero => exact ⟨fun _ _ _ => Le.none, fun _ _ _ _ => Le.none⟩
  | succ fu ih =>
    obtain ⟨ih0, ih1⟩ := ih
    refine ⟨fun s b1 v163 => ?_, fun s b11 x25 v1631 => ?_⟩
    · rw [syntax_printer_stmt_l1_F, syntax_printer_stmt_l1]
      repeat (first | exact Le.rfl | exact ih0 _ _ _ | exact ih1 _ _ _ _ | exact X_Itoa_le _ | refine Le.bind ?_ (fun _ => ?_) | refine Le.ite ?_ ?_)
    · rw [syntax_printer_stmt_j2_F, syntax_printer_stmt_j2]
      repeat (first | exact Le.rfl | exact ih0 _ _ _ | exact ih1 _ _ _ _ | exact X_Itoa_le _ | refine Le.bind ?_ (fun _ => ?_) | refine Le.ite ?_ ?_)
theorem syntax_printer_stmt_l1_le (fu : Nat) (s : ApiStmt) (b1 : Str) (v163 : Int) : Le (syntax_printer_stmt_l1_F fu s b1 v163) (syntax_printer_stmt_l1 s b1 v163) := (syntax_printer_stmt_l1_leg fu).1 s b1 v163
theorem syntax_printer_stmt_j2_le (fu : Nat) (s : ApiStmt) (b11 : Str) (x25 : Int) (v1631 : Int) : Le (syntax_printer_stmt_j2_F fu s b11 x25 v1631) (syntax_printer_stmt_j2 s b11 x25 v1631) := (syntax_printer_stmt_l1_leg fu).2 s b11 x25 v1631
mutual
def syntax_printer_stmts_F : Nat → (List ApiStmt) → Str → Str → Option Str
  | 0, _, _, _ => none
  | fu + 1, l, margin, b =>
    syntax_printer_stmts_l1_F fu l margin b 0
def syntax_printer_stmts_l1_F : Nat → (List ApiStmt) → Str → Str → Int → Option Str
  | 0, _, _, _, _ => none
  | fu + 1, l, margin, b1, v10 =>
    if (decide (v10 < ((l).length : Int))) = true then
      idx l v10 >>= fun x1 =>
      X_WriteString_SyntaxPrinter margin b1 >>= fun x2 =>
      syntax_printer_stmt_F fu x1 margin x2.2 >>= fun x3 =>
      X_WriteString_SyntaxPrinter [10] x3 >>= fun x4 =>
      syntax_printer_stmts_l1_F fu l margin x4.2 (IntKind.i64.wrap (v10 + 1))
    else
      some b1
def syntax_printer_stmt_F : Nat → ApiStmt → Str → Str → Option Str
  | 0, _, _, _ => none
  | fu + 1, s, margin, b =>
    if (s.Verb == 5) = true then
      X_WriteString_SyntaxPrinter [105, 102, 32] b >>= fun x1 =>
      syntax_printer_expr_F fu s.Value x1.2 >>= fun x2 =>
      syntax_printer_block_F fu s.Then margin x2 >>= fun x29 =>
      if (decide (((s.Else).length : Int) > 0)) = true then
        X_WriteString_SyntaxPrinter [32, 101, 108, 115, 101] x29 >>= fun x30 =>
        syntax_printer_block_F fu s.Else margin x30.2 >>= fun x31 =>
        some x31
      else
        some x29
    else
      if (s.Verb == 6) = true then
        X_WriteString_SyntaxPrinter [119, 104, 105, 108, 101, 32] b >>= fun x3 =>
        syntax_printer_expr_F fu s.Value x3.2 >>= fun x4 =>
        X_Itoa_F s.NV >>= fun x5 =>
        if (decide (7 + x5.length ≤ maxLen)) = true then
          X_WriteString_SyntaxPrinter ([32, 108, 105, 109, 105, 116, 32] ++ x5) x4 >>= fun x6 =>
          syntax_printer_block_F fu s.Then margin x6.2 >>= fun x32 =>
          some x32
        else none
      else
        if (s.Verb == 7) = true then
          if (decide (4 + s.Name.length ≤ maxLen)) = true then
            if (decide (([102, 111, 114, 32] ++ s.Name).length + 3 ≤ maxLen)) = true then
              X_Itoa_F s.Low >>= fun x7 =>
              if (decide ((([102, 111, 114, 32] ++ s.Name) ++ [32, 61, 32]).length + x7.length ≤ maxLen)) = true then
                if (decide (((([102, 111, 114, 32] ++ s.Name) ++ [32, 61, 32]) ++ x7).length + 4 ≤ maxLen)) = true then
                  X_Itoa_F s.High >>= fun x8 =>
                  if (decide ((((([102, 111, 114, 32] ++ s.Name) ++ [32, 61, 32]) ++ x7) ++ [32, 116, 111, 32]).length + x8.length ≤ maxLen)) = true then
                    X_WriteString_SyntaxPrinter ((((([102, 111, 114, 32] ++ s.Name) ++ [32, 61, 32]) ++ x7) ++ [32, 116, 111, 32]) ++ x8) b >>= fun x9 =>
                    syntax_printer_block_F fu s.Then margin x9.2 >>= fun x33 =>
                    some x33
                  else none
                else none
              else none
            else none
          else none
        else
          if (s.Verb == 0) = true then
            syntax_printer_expr_F fu s.Place b >>= fun x10 =>
            X_WriteString_SyntaxPrinter [32, 61, 32] x10 >>= fun x11 =>
            syntax_printer_expr_F fu s.Value x11.2 >>= fun x12 =>
            X_WriteString_SyntaxPrinter [59] x12 >>= fun x13 =>
            some x13.2
          else
            if (s.Verb == 1) = true then
              syntax_printer_expr_F fu s.Place b >>= fun x14 =>
              if (decide (8 + s.Name.length ≤ maxLen)) = true then
                if (decide (([32, 61, 32, 99, 97, 108, 108, 32] ++ s.Name).length + 1 ≤ maxLen)) = true then
                  X_WriteString_SyntaxPrinter (([32, 61, 32, 99, 97, 108, 108, 32] ++ s.Name) ++ [40]) x14 >>= fun x15 =>
                  syntax_printer_list_F fu s.Args x15.2 >>= fun x16 =>
                  X_WriteString_SyntaxPrinter [41] x16 >>= fun x17 =>
                  X_WriteString_SyntaxPrinter [59] x17.2 >>= fun x13 =>
                  some x13.2
                else none
              else none
            else
              if (s.Verb == 2) = true then
                syntax_printer_expr_F fu s.Place b >>= fun x18 =>
                if (decide (11 + s.Name.length ≤ maxLen)) = true then
                  X_WriteString_SyntaxPrinter ([32, 61, 32, 114, 101, 108, 101, 97, 115, 101, 32] ++ s.Name) x18 >>= fun x19 =>
                  X_WriteString_SyntaxPrinter [59] x19.2 >>= fun x13 =>
                  some x13.2
                else none
              else
                if (s.Verb == 3) = true then
                  X_WriteString_SyntaxPrinter [111, 117, 116, 112, 117, 116, 32] b >>= fun x20 =>
                  syntax_printer_expr_F fu s.Value x20.2 >>= fun x21 =>
                  X_WriteString_SyntaxPrinter [59] x21 >>= fun x13 =>
                  some x13.2
                else
                  if (s.Verb == 4) = true then
                    X_Itoa_F s.NV >>= fun x22 =>
                    if (decide (5 + x22.length ≤ maxLen)) = true then
                      X_WriteString_SyntaxPrinter ([119, 97, 105, 116, 32] ++ x22) b >>= fun x23 =>
                      X_WriteString_SyntaxPrinter [59] x23.2 >>= fun x13 =>
                      some x13.2
                    else none
                  else
                    if (s.Verb == 8) = true then
                      X_WriteString_SyntaxPrinter [115, 101, 116, 116, 108, 101, 32] b >>= fun x24 =>
                      syntax_printer_stmt_l1_F fu s x24.2 0
                    else
                      X_WriteString_SyntaxPrinter [59] b >>= fun x13 =>
                      some x13.2
def syntax_printer_block_F : Nat → (List ApiStmt) → Str → Str → Option Str
  | 0, _, _, _ => none
  | fu + 1, l, margin, b =>
    X_WriteString_SyntaxPrinter [32, 123, 10] b >>= fun x1 =>
    if (decide (margin.length + 1 ≤ maxLen)) = true then
      syntax_printer_stmts_F fu l (margin ++ [9]) x1.2 >>= fun x2 =>
      if (decide (margin.length + 1 ≤ maxLen)) = true then
        X_WriteString_SyntaxPrinter (margin ++ [125]) x2 >>= fun x3 =>
        some x3.2
      else none
    else none
end
theorem syntax_printer_stmts_leg (fu : Nat) : (∀ (l : List ApiStmt) (margin : Str) (b : Str), Le (syntax_printer_stmts_F fu l margin b) (syntax_printer_stmts l margin b)) ∧ (∀ (l : List ApiStmt) (margin : Str) (b1 : Str) (v10 : Int), Le (syntax_printer_stmts_l1_F fu l margin b1 v10) (syntax_printer_stmts_l1 l margin b1 v10)) ∧ (∀ (s : ApiStmt) (margin : Str) (b : Str), Le (syntax_printer_stmt_F fu s margin b) (syntax_printer_stmt s margin b)) ∧ (∀ (l : List ApiStmt) (margin : Str) (b : Str), Le (syntax_printer_block_F fu l margin b) (syntax_printer_block l margin b)) := by
  induction fu with
  | zero => exact ⟨fun _ _ _ => Le.none, fun _ _ _ _ => Le.none, fun _ _ _ => Le.none, fun _ _ _ => Le.none⟩
  | succ fu ih =>
    obtain ⟨ih0, ih1, ih2, ih3⟩ := ih
    refine ⟨fun l margin b => ?_, fun l margin b1 v10 => ?_, fun s margin b => ?_, fun l margin b => ?_⟩
    · rw [syntax_printer_stmts_F, syntax_printer_stmts]
      repeat (first | exact Le.rfl | exact ih0 _ _ _ | exact ih1 _ _ _ _ | exact ih2 _ _ _ | exact ih3 _ _ _ | exact syntax_printer_expr_le fu _ _ | exact syntax_printer_list_le fu _ _ | exact syntax_printer_stmt_l1_le fu _ _ _ | exact X_Itoa_le _ | refine Le.bind ?_ (fun _ => ?_) | refine Le.ite ?_ ?_)
    · rw [syntax_printer_stmts_l1_F, syntax_printer_stmts_l1]
      repeat (first | exact Le.rfl | exact ih0 _ _ _ | exact ih1 _ _ _ _ | exact ih2 _ _ _ | exact ih3 _ _ _ | exact syntax_printer_expr_le fu _ _ | exact syntax_printer_list_le fu _ _ | exact syntax_printer_stmt_l1_le fu _ _ _ | exact X_Itoa_le _ | refine Le.bind ?_ (fun _ => ?_) | refine Le.ite ?_ ?_)
    · rw [syntax_printer_stmt_F, syntax_printer_stmt]
      repeat (first | exact Le.rfl | exact ih0 _ _ _ | exact ih1 _ _ _ _ | exact ih2 _ _ _ | exact ih3 _ _ _ | exact syntax_printer_expr_le fu _ _ | exact syntax_printer_list_le fu _ _ | exact syntax_printer_stmt_l1_le fu _ _ _ | exact X_Itoa_le _ | refine Le.bind ?_ (fun _ => ?_) | refine Le.ite ?_ ?_)
    · rw [syntax_printer_block_F, syntax_printer_block]
      repeat (first | exact Le.rfl | exact ih0 _ _ _ | exact ih1 _ _ _ _ | exact ih2 _ _ _ | exact ih3 _ _ _ | exact syntax_printer_expr_le fu _ _ | exact syntax_printer_list_le fu _ _ | exact syntax_printer_stmt_l1_le fu _ _ _ | exact X_Itoa_le _ | refine Le.bind ?_ (fun _ => ?_) | refine Le.ite ?_ ?_)
theorem syntax_printer_stmts_le (fu : Nat) (l : List ApiStmt) (margin : Str) (b : Str) : Le (syntax_printer_stmts_F fu l margin b) (syntax_printer_stmts l margin b) := (syntax_printer_stmts_leg fu).1 l margin b
theorem syntax_printer_stmts_l1_le (fu : Nat) (l : List ApiStmt) (margin : Str) (b1 : Str) (v10 : Int) : Le (syntax_printer_stmts_l1_F fu l margin b1 v10) (syntax_printer_stmts_l1 l margin b1 v10) := (syntax_printer_stmts_leg fu).2.1 l margin b1 v10
theorem syntax_printer_stmt_le (fu : Nat) (s : ApiStmt) (margin : Str) (b : Str) : Le (syntax_printer_stmt_F fu s margin b) (syntax_printer_stmt s margin b) := (syntax_printer_stmts_leg fu).2.2.1 s margin b
theorem syntax_printer_block_le (fu : Nat) (l : List ApiStmt) (margin : Str) (b : Str) : Le (syntax_printer_block_F fu l margin b) (syntax_printer_block l margin b) := (syntax_printer_stmts_leg fu).2.2.2 l margin b
def syntax_printer_function_l3_F : Nat → ApiDecl → Str → Int → Option Str
  | 0, _, _, _ => none
  | fu + 1, d, b12, v52 =>
    if (decide (v52 < ((d.Vars).length : Int))) = true then
      idx d.Vars v52 >>= fun x8 =>
      X_WriteString_SyntaxPrinter [9] b12 >>= fun x9 =>
      syntax_printer_variable_F fu x8 x9.2 >>= fun x10 =>
      syntax_printer_function_l3_F fu d x10 (IntKind.i64.wrap (v52 + 1))
    else
      syntax_printer_stmts_F fu d.Body [9] b12 >>= fun x11 =>
      X_WriteString_SyntaxPrinter [9, 114, 101, 116, 117, 114, 110, 32] x11 >>= fun x12 =>
      syntax_printer_expr_F fu d.Value x12.2 >>= fun x13 =>
      X_WriteString_SyntaxPrinter [59, 10, 125, 10] x13 >>= fun x14 =>
      some x14.2
theorem syntax_printer_function_l3_leg (fu : Nat) : (∀ (d : ApiDecl) (b12 : Str) (v52 : Int), Le (syntax_printer_function_l3_F fu d b12 v52) (syntax_printer_function_l3 d b12 v52)) := by
  induction fu with
  | zero => exact fun _ _ _ => Le.none
  | succ fu ih =>
    have ih0 := ih
    refine fun d b12 v52 => ?_
    · rw [syntax_printer_function_l3_F, syntax_printer_function_l3]
      repeat (first | exact Le.rfl | exact ih0 _ _ _ | exact syntax_printer_variable_le fu _ _ | exact syntax_printer_stmts_le fu _ _ _ | exact syntax_printer_expr_le fu _ _ | exact X_Itoa_le _ | refine Le.bind ?_ (fun _ => ?_) | refine Le.ite ?_ ?_)
theorem syntax_printer_function_l3_le (fu : Nat) (d : ApiDecl) (b12 : Str) (v52 : Int) : Le (syntax_printer_function_l3_F fu d b12 v52) (syntax_printer_function_l3 d b12 v52) := (syntax_printer_function_l3_leg fu) d b12 v52
mutual
def syntax_printer_function_l1_F : Nat → ApiDecl → Str → Int → Option Str
  | 0, _, _, _ => none
  | fu + 1, d, b1, v19 =>
    if (decide (v19 < ((d.Params).length : Int))) = true then
      idx d.Params v19 >>= fun x2 =>
      if (decide (v19 > 0)) = true then
        X_WriteString_SyntaxPrinter [44, 32] b1 >>= fun x4 =>
        syntax_printer_function_j2_F fu d x4.2 x2 v19
      else
        syntax_printer_function_j2_F fu d b1 x2 v19
    else
      X_WriteString_SyntaxPrinter [41, 58, 32] b1 >>= fun x5 =>
      syntax_printer_typ_F fu d.TypeV x5.2 >>= fun x6 =>
      X_WriteString_SyntaxPrinter [32, 123, 10] x6 >>= fun x7 =>
      syntax_printer_function_l3_F fu d x7.2 0
def syntax_printer_function_j2_F : Nat → ApiDecl → Str → ApiDecl → Int → Option Str
  | 0, _, _, _, _ => none
  | fu + 1, d, b11, x2, v191 =>
    syntax_printer_named_F fu x2.Name x2.TypeV b11 >>= fun x3 =>
    syntax_printer_function_l1_F fu d x3 (IntKind.i64.wrap (v191 + 1))
end
theorem syntax_printer_function_l1_leg (fu : Nat) : (∀ (d : ApiDecl) (b1 : Str) (v19 : Int), Le (syntax_printer_function_l1_F fu d b1 v19) (syntax_printer_function_l1 d b1 v19)) ∧ (∀ (d : ApiDecl) (b11 : Str) (x2 : ApiDecl) (v191 : Int), Le (syntax_printer_function_j2_F fu d b11 x2 v191) (syntax_printer_function_j2 d b11 x2 v191)) := by
  induction fu with
  | zero => exact ⟨fun _ _ _ => Le.none, fun _ _ _ _ => Le.none⟩
  | succ fu ih =>
    obtain ⟨ih0, ih1⟩ := ih
    refine ⟨fun d b1 v19 => ?_, fun d b11 x2 v191 => ?_⟩
    · rw [syntax_printer_function_l1_F, syntax_printer_function_l1]
      repeat (first | exact Le.rfl | exact ih0 _ _ _ | exact ih1 _ _ _ _ | exact syntax_printer_typ_le fu _ _ | exact syntax_printer_function_l3_le fu _ _ _ | exact syntax_printer_named_le fu _ _ _ | exact X_Itoa_le _ | refine Le.bind ?_ (fun _ => ?_) | refine Le.ite ?_ ?_)
    · rw [syntax_printer_function_j2_F, syntax_printer_function_j2]
      repeat (first | exact Le.rfl | exact ih0 _ _ _ | exact ih1 _ _ _ _ | exact syntax_printer_typ_le fu _ _ | exact syntax_printer_function_l3_le fu _ _ _ | exact syntax_printer_named_le fu _ _ _ | exact X_Itoa_le _ | refine Le.bind ?_ (fun _ => ?_) | refine Le.ite ?_ ?_)
theorem syntax_printer_function_l1_le (fu : Nat) (d : ApiDecl) (b1 : Str) (v19 : Int) : Le (syntax_printer_function_l1_F fu d b1 v19) (syntax_printer_function_l1 d b1 v19) := (syntax_printer_function_l1_leg fu).1 d b1 v19
theorem syntax_printer_function_j2_le (fu : Nat) (d : ApiDecl) (b11 : Str) (x2 : ApiDecl) (v191 : Int) : Le (syntax_printer_function_j2_F fu d b11 x2 v191) (syntax_printer_function_j2 d b11 x2 v191) := (syntax_printer_function_l1_leg fu).2 d b11 x2 v191
def syntax_printer_function_F (fu : Nat) (d : ApiDecl) (b : Str) : Option Str :=
  if (decide (5 + d.Name.length ≤ maxLen)) = true then
    if (decide (([102, 117, 110, 99, 32] ++ d.Name).length + 1 ≤ maxLen)) = true then
      X_WriteString_SyntaxPrinter (([102, 117, 110, 99, 32] ++ d.Name) ++ [40]) b >>= fun x1 =>
      syntax_printer_function_l1_F fu d x1.2 0
    else none
  else none
theorem syntax_printer_function_le (fu : Nat) (d : ApiDecl) (b : Str) : Le (syntax_printer_function_F fu d b) (syntax_printer_function d b) := by
  unfold syntax_printer_function_F syntax_printer_function
  repeat (first | exact Le.rfl | exact syntax_printer_function_l1_le fu _ _ _ | exact X_Itoa_le _ | refine Le.bind ?_ (fun _ => ?_) | refine Le.ite ?_ ?_)
def syntax_printer_decl_F (fu : Nat) (d : ApiDecl) (b : Str) : Option Str :=
  if (d.Kind == 4) = true then
    syntax_printer_variable_F fu d b >>= fun x1 =>
    some x1
  else
    if (d.Kind == 6) = true then
      syntax_printer_function_F fu d b >>= fun x2 =>
      some x2
    else
      if (d.Kind == 0) = true then
        if (decide (5 + d.Name.length ≤ maxLen)) = true then
          if (decide (([116, 121, 112, 101, 32] ++ d.Name).length + 3 ≤ maxLen)) = true then
            X_WriteString_SyntaxPrinter (([116, 121, 112, 101, 32] ++ d.Name) ++ [32, 61, 32]) b >>= fun x3 =>
            syntax_printer_typ_F fu d.TypeV x3.2 >>= fun x4 =>
            X_WriteString_SyntaxPrinter [59, 10] x4 >>= fun x5 =>
            some x5.2
          else none
        else none
      else
        if (d.Kind == 1) = true then
          X_WriteString_SyntaxPrinter [115, 101, 99, 114, 101, 116, 32] b >>= fun x6 =>
          syntax_printer_named_F fu d.Name d.TypeV x6.2 >>= fun x7 =>
          X_WriteString_SyntaxPrinter [59, 10] x7 >>= fun x5 =>
          some x5.2
        else
          if (d.Kind == 2) = true then
            X_WriteString_SyntaxPrinter [112, 117, 98, 108, 105, 99, 32] b >>= fun x8 =>
            syntax_printer_named_F fu d.Name d.TypeV x8.2 >>= fun x9 =>
            X_WriteString_SyntaxPrinter [59, 10] x9 >>= fun x5 =>
            some x5.2
          else
            if (d.Kind == 3) = true then
              X_WriteString_SyntaxPrinter [114, 97, 110, 100, 111, 109, 32] b >>= fun x10 =>
              syntax_printer_named_F fu d.Name d.TypeV x10.2 >>= fun x11 =>
              X_WriteString_SyntaxPrinter [59, 10] x11 >>= fun x5 =>
              some x5.2
            else
              if (d.Kind == 5) = true then
                X_WriteString_SyntaxPrinter [104, 97, 116, 99, 104, 32] b >>= fun x12 =>
                syntax_printer_named_F fu d.Name d.TypeV x12.2 >>= fun x13 =>
                X_WriteString_SyntaxPrinter [32, 61, 32] x13 >>= fun x14 =>
                syntax_printer_expr_F fu d.Value x14.2 >>= fun x15 =>
                X_WriteString_SyntaxPrinter [59, 10] x15 >>= fun x5 =>
                some x5.2
              else
                X_WriteString_SyntaxPrinter [59, 10] b >>= fun x5 =>
                some x5.2
theorem syntax_printer_decl_le (fu : Nat) (d : ApiDecl) (b : Str) : Le (syntax_printer_decl_F fu d b) (syntax_printer_decl d b) := by
  unfold syntax_printer_decl_F syntax_printer_decl
  repeat (first | exact Le.rfl | exact syntax_printer_variable_le fu _ _ | exact syntax_printer_function_le fu _ _ | exact syntax_printer_typ_le fu _ _ | exact syntax_printer_named_le fu _ _ _ | exact syntax_printer_expr_le fu _ _ | exact X_Itoa_le _ | refine Le.bind ?_ (fun _ => ?_) | refine Le.ite ?_ ?_)
def syntax_Print_l1_F : Nat → ApiProgram → Str → Int → Option (Str × Int)
  | 0, _, _, _ => none
  | fu + 1, p, b2, v18 =>
    if (decide (v18 < ((p.Decls).length : Int))) = true then
      idx p.Decls v18 >>= fun x2 =>
      syntax_printer_decl_F fu x2 b2 >>= fun x3 =>
      syntax_Print_l1_F fu p x3 (IntKind.i64.wrap (v18 + 1))
    else
      X_WriteString_SyntaxPrinter [98, 101, 103, 105, 110, 10] b2 >>= fun x4 =>
      syntax_printer_stmts_F fu p.Body [9] x4.2 >>= fun x5 =>
      X_WriteString_SyntaxPrinter [101, 110, 100, 10] x5 >>= fun x6 =>
      syntax_printer_text_F fu x6.2 >>= fun x7 =>
      some (x7.1, x7.2)
theorem syntax_Print_l1_leg (fu : Nat) : (∀ (p : ApiProgram) (b2 : Str) (v18 : Int), Le (syntax_Print_l1_F fu p b2 v18) (syntax_Print_l1 p b2 v18)) := by
  induction fu with
  | zero => exact fun _ _ _ => Le.none
  | succ fu ih =>
    have ih0 := ih
    refine fun p b2 v18 => ?_
    · rw [syntax_Print_l1_F, syntax_Print_l1]
      repeat (first | exact Le.rfl | exact ih0 _ _ _ | exact syntax_printer_decl_le fu _ _ | exact syntax_printer_stmts_le fu _ _ _ | exact syntax_printer_text_le fu _ | exact X_Itoa_le _ | refine Le.bind ?_ (fun _ => ?_) | refine Le.ite ?_ ?_)
theorem syntax_Print_l1_le (fu : Nat) (p : ApiProgram) (b2 : Str) (v18 : Int) : Le (syntax_Print_l1_F fu p b2 v18) (syntax_Print_l1 p b2 v18) := (syntax_Print_l1_leg fu) p b2 v18
def syntax_Print_F (fu : Nat) (p : ApiProgram) : Option (Str × Int) :=
  syntax_Check_F fu p >>= fun x1 =>
  if (x1 != 0) = true then
    some ([], x1)
  else
    syntax_Print_l1_F fu p [] 0
theorem syntax_Print_le (fu : Nat) (p : ApiProgram) : Le (syntax_Print_F fu p) (syntax_Print p) := by
  unfold syntax_Print_F syntax_Print
  repeat (first | exact Le.rfl | exact syntax_Check_le fu _ | exact syntax_Print_l1_le fu _ _ _ | exact X_Itoa_le _ | refine Le.bind ?_ (fun _ => ?_) | refine Le.ite ?_ ?_)
def syntax_Size_F (fu : Nat) (p : ApiProgram) : Option (Int × Int) :=
  syntax_program_F fu p >>= fun x1 =>
  syntax_report_code_F fu x1 >>= fun x2 =>
  if (x2 != 0) = true then
    some (0, x2)
  else
    some (x1.nodes, 0)
theorem syntax_Size_le (fu : Nat) (p : ApiProgram) : Le (syntax_Size_F fu p) (syntax_Size p) := by
  unfold syntax_Size_F syntax_Size
  repeat (first | exact Le.rfl | exact syntax_program_le fu _ | exact syntax_report_code_le fu _ | exact X_Itoa_le _ | refine Le.bind ?_ (fun _ => ?_) | refine Le.ite ?_ ?_)
def law10_known_F (fu : Nat) : Option Bool :=
  law10_lit_F fu 1 >>= fun x1 =>
  law10_lit_F fu 2 >>= fun x2 =>
  law10_node_F fu 8 [x1, x2] >>= fun x3 =>
  law10_name_F fu [120] >>= fun x4 =>
  law10_node_F fu 6 [x4] >>= fun x5 =>
  law10_node_F fu 10 [x3, x5] >>= fun x6 =>
  syntax_PrintExpr_F fu x6 >>= fun x7 =>
  law10_name_F fu [97] >>= fun x8 =>
  law10_name_F fu [98] >>= fun x9 =>
  law10_name_F fu [99] >>= fun x10 =>
  law10_node_F fu 9 [x9, x10] >>= fun x11 =>
  law10_node_F fu 9 [x8, x11] >>= fun x12 =>
  syntax_PrintExpr_F fu x12 >>= fun x13 =>
  law10_name_F fu [97] >>= fun x14 =>
  law10_name_F fu [98] >>= fun x15 =>
  law10_node_F fu 9 [x14, x15] >>= fun x16 =>
  law10_name_F fu [99] >>= fun x17 =>
  law10_node_F fu 9 [x16, x17] >>= fun x18 =>
  syntax_PrintExpr_F fu x18 >>= fun x19 =>
  law10_name_F fu [112, 105, 110] >>= fun x20 =>
  syntax_Print_F fu (ApiProgram.mk [(ApiDecl.mk 1 [112, 105, 110] (ApiType.mk 1 0 9 0 [] [] []) 0 (ApiExpr.mk 0 0 [] []) [] [] []), (ApiDecl.mk 4 [120] (ApiType.mk 0 0 0 0 [] [] []) 1 (ApiExpr.mk 0 0 [] []) [] [] [])] [(ApiStmt.mk 3 (ApiExpr.mk 0 0 [] []) x20 [] [] 0 0 0 [] [] [])]) >>= fun x21 =>
  syntax_Size_F fu (ApiProgram.mk [(ApiDecl.mk 1 [112, 105, 110] (ApiType.mk 1 0 9 0 [] [] []) 0 (ApiExpr.mk 0 0 [] []) [] [] []), (ApiDecl.mk 4 [120] (ApiType.mk 0 0 0 0 [] [] []) 1 (ApiExpr.mk 0 0 [] []) [] [] [])] [(ApiStmt.mk 3 (ApiExpr.mk 0 0 [] []) x20 [] [] 0 0 0 [] [] [])]) >>= fun x22 =>
  if (bif (bif (bif (bif (bif (x7.2 != 0) then true else (x13.2 != 0)) then true else (x19.2 != 0)) then true else (x21.2 != 0)) then true else (x22.2 != 0)) then true else (x22.1 != 6)) = true then
    some false
  else
    (if (bif (bif (bif (x7.1 == [40, 49, 32, 43, 32, 50, 41, 32, 42, 32, 45, 120]) then (x13.1 == [97, 32, 45, 32, 40, 98, 32, 45, 32, 99, 41]) else false) then (x19.1 == [97, 32, 45, 32, 98, 32, 45, 32, 99]) else false) then (x21.1 == [115, 101, 99, 114, 101, 116, 32, 112, 105, 110, 58, 32, 105, 110, 116, 91, 48, 46, 46, 57, 93, 59, 10, 118, 97, 114, 32, 120, 58, 32, 98, 111, 111, 108, 32, 61, 32, 116, 114, 117, 101, 59, 10, 98, 101, 103, 105, 110, 10, 9, 111, 117, 116, 112, 117, 116, 32, 112, 105, 110, 59, 10, 101, 110, 100, 10]) else false) = true then law10_lit_F fu (-1) else some default) >>= fun x23 =>
    (if (bif (bif (bif (x7.1 == [40, 49, 32, 43, 32, 50, 41, 32, 42, 32, 45, 120]) then (x13.1 == [97, 32, 45, 32, 40, 98, 32, 45, 32, 99, 41]) else false) then (x19.1 == [97, 32, 45, 32, 98, 32, 45, 32, 99]) else false) then (x21.1 == [115, 101, 99, 114, 101, 116, 32, 112, 105, 110, 58, 32, 105, 110, 116, 91, 48, 46, 46, 57, 93, 59, 10, 118, 97, 114, 32, 120, 58, 32, 98, 111, 111, 108, 32, 61, 32, 116, 114, 117, 101, 59, 10, 98, 101, 103, 105, 110, 10, 9, 111, 117, 116, 112, 117, 116, 32, 112, 105, 110, 59, 10, 101, 110, 100, 10]) else false) = true then syntax_CheckExpr_F fu x23 else some default) >>= fun x24 =>
    some (bif (bif (bif (bif (x7.1 == [40, 49, 32, 43, 32, 50, 41, 32, 42, 32, 45, 120]) then (x13.1 == [97, 32, 45, 32, 40, 98, 32, 45, 32, 99, 41]) else false) then (x19.1 == [97, 32, 45, 32, 98, 32, 45, 32, 99]) else false) then (x21.1 == [115, 101, 99, 114, 101, 116, 32, 112, 105, 110, 58, 32, 105, 110, 116, 91, 48, 46, 46, 57, 93, 59, 10, 118, 97, 114, 32, 120, 58, 32, 98, 111, 111, 108, 32, 61, 32, 116, 114, 117, 101, 59, 10, 98, 101, 103, 105, 110, 10, 9, 111, 117, 116, 112, 117, 116, 32, 112, 105, 110, 59, 10, 101, 110, 100, 10]) else false) then (x24 == 3) else false)
theorem law10_known_le (fu : Nat) : Le (law10_known_F fu ) (law10_known ) := by
  unfold law10_known_F law10_known
  repeat (first | exact Le.rfl | exact law10_lit_le fu _ | exact law10_node_le fu _ _ | exact law10_name_le fu _ | exact syntax_PrintExpr_le fu _ | exact syntax_Print_le fu _ | exact syntax_Size_le fu _ | exact syntax_CheckExpr_le fu _ | exact X_Itoa_le _ | refine Le.bind ?_ (fun _ => ?_) | refine Le.ite ?_ ?_)
end Go.Proofs.YtmilgoloagbmpaaGreatDoor

