/- Twins with fuel, printed by gen.py. -/
import Derived.Test.YtonilfkaecbjnaaDoorDg4
import Derived.Test.YtonilfkaecbjnaaDoorAmV
set_option maxRecDepth 100000
set_option maxHeartbeats 4000000
set_option linter.unusedVariables false
namespace Go.Proofs.YtonilfkaecbjnaaDoor
open Go.Am
def lexer_isLetter_F (fu : Nat) (c : Int) : Option Bool :=
  some (bif (decide (c ≥ 97)) then (decide (c ≤ 122)) else false)
theorem lexer_isLetter_le (fu : Nat) (c : Int) : Le (lexer_isLetter_F fu c) (lexer_isLetter c) := by
  unfold lexer_isLetter_F lexer_isLetter
  repeat (first | exact Le.rfl | exact X_Itoa_le _ | refine Le.bind ?_ (fun _ => ?_) | refine Le.ite ?_ ?_)
def lexer_isDigit_F (fu : Nat) (c : Int) : Option Bool :=
  some (bif (decide (c ≥ 48)) then (decide (c ≤ 57)) else false)
theorem lexer_isDigit_le (fu : Nat) (c : Int) : Le (lexer_isDigit_F fu c) (lexer_isDigit c) := by
  unfold lexer_isDigit_F lexer_isDigit
  repeat (first | exact Le.rfl | exact X_Itoa_le _ | refine Le.bind ?_ (fun _ => ?_) | refine Le.ite ?_ ?_)
def lexer_isWord_l1_F : Nat → Str → Int → Option Bool
  | 0, _, _ => none
  | fu + 1, s, v6 =>
    if (decide (v6 < ((s).length : Int))) = true then
      idx s v6 >>= fun x1 =>
      lexer_isLetter_F fu (x1.toNat : Int) >>= fun x2 =>
      (if ((!x2) && (!(v6 == 0))) = true then idx s v6 else some default) >>= fun x3 =>
      (if ((!x2) && (!(v6 == 0))) = true then lexer_isDigit_F fu (x3.toNat : Int) else some default) >>= fun x4 =>
      if (bif (!x2) then (bif (v6 == 0) then true else (!x4)) else false) = true then
        some false
      else
        lexer_isWord_l1_F fu s (IntKind.i64.wrap (v6 + 1))
    else
      some (!(s == []))
theorem lexer_isWord_l1_leg (fu : Nat) : (∀ (s : Str) (v6 : Int), Le (lexer_isWord_l1_F fu s v6) (lexer_isWord_l1 s v6)) := by
  induction fu with
  | zero => exact fun _ _ => Le.none
  | succ fu ih =>
    have ih0 := ih
    refine fun s v6 => ?_
    · rw [lexer_isWord_l1_F, lexer_isWord_l1]
      repeat (first | exact Le.rfl | exact ih0 _ _ | exact lexer_isLetter_le fu _ | exact lexer_isDigit_le fu _ | exact X_Itoa_le _ | refine Le.bind ?_ (fun _ => ?_) | refine Le.ite ?_ ?_)
theorem lexer_isWord_l1_le (fu : Nat) (s : Str) (v6 : Int) : Le (lexer_isWord_l1_F fu s v6) (lexer_isWord_l1 s v6) := (lexer_isWord_l1_leg fu) s v6
def lexer_isWord_F (fu : Nat) (s : Str) : Option Bool :=
  lexer_isWord_l1_F fu s 0
theorem lexer_isWord_le (fu : Nat) (s : Str) : Le (lexer_isWord_F fu s) (lexer_isWord s) := by
  unfold lexer_isWord_F lexer_isWord
  repeat (first | exact Le.rfl | exact lexer_isWord_l1_le fu _ _ | exact X_Itoa_le _ | refine Le.bind ?_ (fun _ => ?_) | refine Le.ite ?_ ?_)
def lexer_Reserved_F (fu : Nat) (word : Str) : Option Bool :=
  (if (!(word == [])) = true then X_Contains word [32] else some default) >>= fun x1 =>
  if (!(bif (!(word == [])) then (!x1) else false) || (decide (1 + word.length ≤ maxLen))) = true then
    if (!(bif (!(word == [])) then (!x1) else false) || (decide (([32] ++ word).length + 1 ≤ maxLen))) = true then
      (if (bif (!(word == [])) then (!x1) else false) = true then X_Contains [32, 116, 121, 112, 101, 32, 115, 101, 99, 114, 101, 116, 32, 112, 117, 98, 108, 105, 99, 32, 114, 97, 110, 100, 111, 109, 32, 118, 97, 114, 32, 104, 97, 116, 99, 104, 32, 102, 117, 110, 99, 32, 114, 101, 116, 117, 114, 110, 32, 98, 101, 103, 105, 110, 32, 101, 110, 100, 32, 98, 111, 111, 108, 32, 105, 110, 116, 32, 97, 114, 114, 97, 121, 32, 111, 102, 32, 114, 101, 99, 111, 114, 100, 32, 116, 114, 117, 101, 32, 102, 97, 108, 115, 101, 32, 99, 97, 108, 108, 32, 114, 101, 108, 101, 97, 115, 101, 32, 111, 117, 116, 112, 117, 116, 32, 119, 97, 105, 116, 32, 105, 102, 32, 101, 108, 115, 101, 32, 119, 104, 105, 108, 101, 32, 108, 105, 109, 105, 116, 32, 102, 111, 114, 32, 116, 111, 32, 115, 101, 116, 116, 108, 101, 32, 109, 105, 110, 32, 109, 97, 120, 32] (([32] ++ word) ++ [32]) else some default) >>= fun x2 =>
      some (bif (bif (!(word == [])) then (!x1) else false) then x2 else false)
    else none
  else none
theorem lexer_Reserved_le (fu : Nat) (word : Str) : Le (lexer_Reserved_F fu word) (lexer_Reserved word) := by
  unfold lexer_Reserved_F lexer_Reserved
  repeat (first | exact Le.rfl | exact X_Itoa_le _ | refine Le.bind ?_ (fun _ => ?_) | refine Le.ite ?_ ?_)
def lexer_IsName_F (fu : Nat) (s : Str) : Option Bool :=
  (if (decide (((s).length : Int) ≤ 12)) = true then lexer_isWord_F fu s else some default) >>= fun x1 =>
  (if (bif (decide (((s).length : Int) ≤ 12)) then x1 else false) = true then lexer_Reserved_F fu s else some default) >>= fun x2 =>
  some (bif (bif (decide (((s).length : Int) ≤ 12)) then x1 else false) then (!x2) else false)
theorem lexer_IsName_le (fu : Nat) (s : Str) : Le (lexer_IsName_F fu s) (lexer_IsName s) := by
  unfold lexer_IsName_F lexer_IsName
  repeat (first | exact Le.rfl | exact lexer_isWord_le fu _ | exact lexer_Reserved_le fu _ | exact X_Itoa_le _ | refine Le.bind ?_ (fun _ => ?_) | refine Le.ite ?_ ?_)
def syntax_IsName_F (fu : Nat) (s : Str) : Option Bool :=
  lexer_IsName_F fu s >>= fun x1 =>
  some x1
theorem syntax_IsName_le (fu : Nat) (s : Str) : Le (syntax_IsName_F fu s) (syntax_IsName s) := by
  unfold syntax_IsName_F syntax_IsName
  repeat (first | exact Le.rfl | exact lexer_IsName_le fu _ | exact X_Itoa_le _ | refine Le.bind ?_ (fun _ => ?_) | refine Le.ite ?_ ?_)
def syntax_report_deep_F (fu : Nat) (d : Int) (syntaxReport : SyntaxReport) : Option SyntaxReport :=
  some (SyntaxReport.mk syntaxReport.nodes (max syntaxReport.depth d) syntaxReport.badForm syntaxReport.badName syntaxReport.badNumber)
theorem syntax_report_deep_le (fu : Nat) (d : Int) (syntaxReport : SyntaxReport) : Le (syntax_report_deep_F fu d syntaxReport) (syntax_report_deep d syntaxReport) := by
  unfold syntax_report_deep_F syntax_report_deep
  repeat (first | exact Le.rfl | exact X_Itoa_le _ | refine Le.bind ?_ (fun _ => ?_) | refine Le.ite ?_ ?_)
def syntax_report_form_F (fu : Nat) (ok : Bool) (syntaxReport : SyntaxReport) : Option SyntaxReport :=
  some (SyntaxReport.mk syntaxReport.nodes syntaxReport.depth (bif syntaxReport.badForm then true else (!ok)) syntaxReport.badName syntaxReport.badNumber)
theorem syntax_report_form_le (fu : Nat) (ok : Bool) (syntaxReport : SyntaxReport) : Le (syntax_report_form_F fu ok syntaxReport) (syntax_report_form ok syntaxReport) := by
  unfold syntax_report_form_F syntax_report_form
  repeat (first | exact Le.rfl | exact X_Itoa_le _ | refine Le.bind ?_ (fun _ => ?_) | refine Le.ite ?_ ?_)
def syntax_inside_F (fu : Nat) (n : Int) (low : Int) (high : Int) : Option Bool :=
  some (bif (decide (n ≥ low)) then (decide (n ≤ high)) else false)
theorem syntax_inside_le (fu : Nat) (n : Int) (low : Int) (high : Int) : Le (syntax_inside_F fu n low high) (syntax_inside n low high) := by
  unfold syntax_inside_F syntax_inside
  repeat (first | exact Le.rfl | exact X_Itoa_le _ | refine Le.bind ?_ (fun _ => ?_) | refine Le.ite ?_ ?_)
def syntax_report_number_F (fu : Nat) (ok : Bool) (syntaxReport : SyntaxReport) : Option SyntaxReport :=
  some (SyntaxReport.mk syntaxReport.nodes syntaxReport.depth syntaxReport.badForm syntaxReport.badName (bif syntaxReport.badNumber then true else (!ok)))
theorem syntax_report_number_le (fu : Nat) (ok : Bool) (syntaxReport : SyntaxReport) : Le (syntax_report_number_F fu ok syntaxReport) (syntax_report_number ok syntaxReport) := by
  unfold syntax_report_number_F syntax_report_number
  repeat (first | exact Le.rfl | exact X_Itoa_le _ | refine Le.bind ?_ (fun _ => ?_) | refine Le.ite ?_ ?_)
def syntax_report_name_F (fu : Nat) (s : Str) (syntaxReport : SyntaxReport) : Option SyntaxReport :=
  (if (!syntaxReport.badName) = true then syntax_IsName_F fu s else some default) >>= fun x1 =>
  some (SyntaxReport.mk syntaxReport.nodes syntaxReport.depth syntaxReport.badForm (bif syntaxReport.badName then true else (!x1)) syntaxReport.badNumber)
theorem syntax_report_name_le (fu : Nat) (s : Str) (syntaxReport : SyntaxReport) : Le (syntax_report_name_F fu s syntaxReport) (syntax_report_name s syntaxReport) := by
  unfold syntax_report_name_F syntax_report_name
  repeat (first | exact Le.rfl | exact syntax_IsName_le fu _ | exact X_Itoa_le _ | refine Le.bind ?_ (fun _ => ?_) | refine Le.ite ?_ ?_)
mutual
def syntax_report_typ_F : Nat → ApiType → Int → SyntaxReport → Option SyntaxReport
  | 0, _, _, _ => none
  | fu + 1, t, depth, syntaxReport =>
    syntax_report_deep_F fu depth (SyntaxReport.mk (IntKind.i64.wrap (syntaxReport.nodes + 1)) syntaxReport.depth syntaxReport.badForm syntaxReport.badName syntaxReport.badNumber) >>= fun x1 =>
    syntax_report_form_F fu (bif (decide (t.Kind ≥ 0)) then (decide (t.Kind ≤ 4)) else false) x1 >>= fun x2 =>
    syntax_report_form_F fu (bif (t.Kind == 1) then true else (bif (t.Low == 0) then (t.High == 0) else false)) x2 >>= fun x3 =>
    syntax_report_form_F fu (bif (t.Kind == 2) then true else (t.Size == 0)) x3 >>= fun x4 =>
    syntax_report_form_F fu (bif (t.Kind == 4) then true else (t.Name == [])) x4 >>= fun x5 =>
    syntax_report_form_F fu (bif (t.Kind == 3) then true else (((t.Names).length : Int) == 0)) x5 >>= fun x6 =>
    if (t.Kind == 2) = true then
      syntax_report_form_F fu (((t.Of).length : Int) == 1) x6 >>= fun x7 =>
      syntax_inside_F fu t.Size 1 32 >>= fun x8 =>
      syntax_report_number_F fu x8 x7 >>= fun x9 =>
      syntax_report_typ_j1_F fu t depth x9
    else
      if (t.Kind == 3) = true then
        syntax_report_form_F fu (bif (decide (((t.Of).length : Int) ≥ 1)) then (((t.Of).length : Int) == ((t.Names).length : Int)) else false) x6 >>= fun x14 =>
        syntax_report_number_F fu (decide (((t.Of).length : Int) ≤ 32)) x14 >>= fun x15 =>
        syntax_report_typ_j1_F fu t depth x15
      else
        syntax_report_form_F fu (((t.Of).length : Int) == 0) x6 >>= fun x16 =>
        syntax_report_typ_j1_F fu t depth x16
def syntax_report_typ_j1_F : Nat → ApiType → Int → SyntaxReport → Option SyntaxReport
  | 0, _, _, _ => none
  | fu + 1, t, depth, o0 =>
    if (t.Kind == 1) = true then
      syntax_inside_F fu t.Low (-1048576) 1048576 >>= fun x10 =>
      (if x10 = true then syntax_inside_F fu t.High t.Low 1048576 else some default) >>= fun x11 =>
      syntax_report_number_F fu (bif x10 then x11 else false) o0 >>= fun x12 =>
      syntax_report_typ_j2_F fu t depth x12
    else
      syntax_report_typ_j2_F fu t depth o0
def syntax_report_typ_j2_F : Nat → ApiType → Int → SyntaxReport → Option SyntaxReport
  | 0, _, _, _ => none
  | fu + 1, t, depth, o01 =>
    if (t.Kind == 4) = true then
      syntax_report_name_F fu t.Name o01 >>= fun x13 =>
      syntax_report_typ_j3_F fu t depth x13
    else
      syntax_report_typ_j3_F fu t depth o01
def syntax_report_typ_j3_F : Nat → ApiType → Int → SyntaxReport → Option SyntaxReport
  | 0, _, _, _ => none
  | fu + 1, t, depth, o02 =>
    syntax_report_typ_l4_F fu t depth o02 0
def syntax_report_typ_l4_F : Nat → ApiType → Int → SyntaxReport → Int → Option SyntaxReport
  | 0, _, _, _, _ => none
  | fu + 1, t, depth, o03, v147 =>
    if (decide (v147 < ((t.Names).length : Int))) = true then
      idx t.Names v147 >>= fun x17 =>
      syntax_report_name_F fu x17 o03 >>= fun x18 =>
      syntax_report_typ_l4_F fu t depth x18 (IntKind.i64.wrap (v147 + 1))
    else
      syntax_report_typ_l5_F fu t depth o03 0
def syntax_report_typ_l5_F : Nat → ApiType → Int → SyntaxReport → Int → Option SyntaxReport
  | 0, _, _, _, _ => none
  | fu + 1, t, depth, o04, v158 =>
    if (decide (v158 < ((t.Of).length : Int))) = true then
      idx t.Of v158 >>= fun x19 =>
      syntax_report_typ_F fu x19 (IntKind.i64.wrap (depth + 1)) o04 >>= fun x20 =>
      syntax_report_typ_l5_F fu t depth x20 (IntKind.i64.wrap (v158 + 1))
    else
      some o04
end
theorem syntax_report_typ_leg (fu : Nat) : (∀ (t : ApiType) (depth : Int) (syntaxReport : SyntaxReport), Le (syntax_report_typ_F fu t depth syntaxReport) (syntax_report_typ t depth syntaxReport)) ∧ (∀ (t : ApiType) (depth : Int) (o0 : SyntaxReport), Le (syntax_report_typ_j1_F fu t depth o0) (syntax_report_typ_j1 t depth o0)) ∧ (∀ (t : ApiType) (depth : Int) (o01 : SyntaxReport), Le (syntax_report_typ_j2_F fu t depth o01) (syntax_report_typ_j2 t depth o01)) ∧ (∀ (t : ApiType) (depth : Int) (o02 : SyntaxReport), Le (syntax_report_typ_j3_F fu t depth o02) (syntax_report_typ_j3 t depth o02)) ∧ (∀ (t : ApiType) (depth : Int) (o03 : SyntaxReport) (v147 : Int), Le (syntax_report_typ_l4_F fu t depth o03 v147) (syntax_report_typ_l4 t depth o03 v147)) ∧ (∀ (t : ApiType) (depth : Int) (o04 : SyntaxReport) (v158 : Int), Le (syntax_report_typ_l5_F fu t depth o04 v158) (syntax_report_typ_l5 t depth o04 v158)) := by
  induction fu with
  | zero => exact ⟨fun _ _ _ => Le.none, fun _ _ _ => Le.none, fun _ _ _ => Le.none, fun _ _ _ => Le.none, fun _ _ _ _ => Le.none, fun _ _ _ _ => Le.none⟩
  | succ fu ih =>
    obtain ⟨ih0, ih1, ih2, ih3, ih4, ih5⟩ := ih
    refine ⟨fun t depth syntaxReport => ?_, fun t depth o0 => ?_, fun t depth o01 => ?_, fun t depth o02 => ?_, fun t depth o03 v147 => ?_, fun t depth o04 v158 => ?_⟩
    · rw [syntax_report_typ_F, syntax_report_typ]
      repeat (first | exact Le.rfl | exact ih0 _ _ _ | exact ih1 _ _ _ | exact ih2 _ _ _ | exact ih3 _ _ _ | exact ih4 _ _ _ _ | exact ih5 _ _ _ _ | exact syntax_report_deep_le fu _ _ | exact syntax_report_form_le fu _ _ | exact syntax_inside_le fu _ _ _ | exact syntax_report_number_le fu _ _ | exact syntax_report_name_le fu _ _ | exact X_Itoa_le _ | refine Le.bind ?_ (fun _ => ?_) | refine Le.ite ?_ ?_)
    · rw [syntax_report_typ_j1_F, syntax_report_typ_j1]
      repeat (first | exact Le.rfl | exact ih0 _ _ _ | exact ih1 _ _ _ | exact ih2 _ _ _ | exact ih3 _ _ _ | exact ih4 _ _ _ _ | exact ih5 _ _ _ _ | exact syntax_report_deep_le fu _ _ | exact syntax_report_form_le fu _ _ | exact syntax_inside_le fu _ _ _ | exact syntax_report_number_le fu _ _ | exact syntax_report_name_le fu _ _ | exact X_Itoa_le _ | refine Le.bind ?_ (fun _ => ?_) | refine Le.ite ?_ ?_)
    · rw [syntax_report_typ_j2_F, syntax_report_typ_j2]
      repeat (first | exact Le.rfl | exact ih0 _ _ _ | exact ih1 _ _ _ | exact ih2 _ _ _ | exact ih3 _ _ _ | exact ih4 _ _ _ _ | exact ih5 _ _ _ _ | exact syntax_report_deep_le fu _ _ | exact syntax_report_form_le fu _ _ | exact syntax_inside_le fu _ _ _ | exact syntax_report_number_le fu _ _ | exact syntax_report_name_le fu _ _ | exact X_Itoa_le _ | refine Le.bind ?_ (fun _ => ?_) | refine Le.ite ?_ ?_)
    · rw [syntax_report_typ_j3_F, syntax_report_typ_j3]
      repeat (first | exact Le.rfl | exact ih0 _ _ _ | exact ih1 _ _ _ | exact ih2 _ _ _ | exact ih3 _ _ _ | exact ih4 _ _ _ _ | exact ih5 _ _ _ _ | exact syntax_report_deep_le fu _ _ | exact syntax_report_form_le fu _ _ | exact syntax_inside_le fu _ _ _ | exact syntax_report_number_le fu _ _ | exact syntax_report_name_le fu _ _ | exact X_Itoa_le _ | refine Le.bind ?_ (fun _ => ?_) | refine Le.ite ?_ ?_)
    · rw [syntax_report_typ_l4_F, syntax_report_typ_l4]
      repeat (first | exact Le.rfl | exact ih0 _ _ _ | exact ih1 _ _ _ | exact ih2 _ _ _ | exact ih3 _ _ _ | exact ih4 _ _ _ _ | exact ih5 _ _ _ _ | exact syntax_report_deep_le fu _ _ | exact syntax_report_form_le fu _ _ | exact syntax_inside_le fu _ _ _ | exact syntax_report_number_le fu _ _ | exact syntax_report_name_le fu _ _ | exact X_Itoa_le _ | refine Le.bind ?_ (fun _ => ?_) | refine Le.ite ?_ ?_)
    · rw [syntax_report_typ_l5_F, syntax_report_typ_l5]
      repeat (first | exact Le.rfl | exact ih0 _ _ _ | exact ih1 _ _ _ | exact ih2 _ _ _ | exact ih3 _ _ _ | exact ih4 _ _ _ _ | exact ih5 _ _ _ _ | exact syntax_report_deep_le fu _ _ | exact syntax_report_form_le fu _ _ | exact syntax_inside_le fu _ _ _ | exact syntax_report_number_le fu _ _ | exact syntax_report_name_le fu _ _ | exact X_Itoa_le _ | refine Le.bind ?_ (fun _ => ?_) | refine Le.ite ?_ ?_)
theorem syntax_report_typ_le (fu : Nat) (t : ApiType) (depth : Int) (syntaxReport : SyntaxReport) : Le (syntax_report_typ_F fu t depth syntaxReport) (syntax_report_typ t depth syntaxReport) := (syntax_report_typ_leg fu).1 t depth syntaxReport
theorem syntax_report_typ_j1_le (fu : Nat) (t : ApiType) (depth : Int) (o0 : SyntaxReport) : Le (syntax_report_typ_j1_F fu t depth o0) (syntax_report_typ_j1 t depth o0) := (syntax_report_typ_leg fu).2.1 t depth o0
theorem syntax_report_typ_j2_le (fu : Nat) (t : ApiType) (depth : Int) (o01 : SyntaxReport) : Le (syntax_report_typ_j2_F fu t depth o01) (syntax_report_typ_j2 t depth o01) := (syntax_report_typ_leg fu).2.2.1 t depth o01
theorem syntax_report_typ_j3_le (fu : Nat) (t : ApiType) (depth : Int) (o02 : SyntaxReport) : Le (syntax_report_typ_j3_F fu t depth o02) (syntax_report_typ_j3 t depth o02) := (syntax_report_typ_leg fu).2.2.2.1 t depth o02
theorem syntax_report_typ_l4_le (fu : Nat) (t : ApiType) (depth : Int) (o03 : SyntaxReport) (v147 : Int) : Le (syntax_report_typ_l4_F fu t depth o03 v147) (syntax_report_typ_l4 t depth o03 v147) := (syntax_report_typ_leg fu).2.2.2.2.1 t depth o03 v147
theorem syntax_report_typ_l5_le (fu : Nat) (t : ApiType) (depth : Int) (o04 : SyntaxReport) (v158 : Int) : Le (syntax_report_typ_l5_F fu t depth o04 v158) (syntax_report_typ_l5 t depth o04 v158) := (syntax_report_typ_leg fu).2.2.2.2.2 t depth o04 v158
def syntax_report_code_F (fu : Nat) (syntaxReport : SyntaxReport) : Option Int :=
  if (bif (decide (syntaxReport.nodes > 1024)) then true else (decide (syntaxReport.depth > 12))) = true then
    some 4
  else
    if syntaxReport.badForm = true then
      some 1
    else
      if syntaxReport.badName = true then
        some 7
      else
        if syntaxReport.badNumber = true then
          some 3
        else
          some 0
theorem syntax_report_code_le (fu : Nat) (syntaxReport : SyntaxReport) : Le (syntax_report_code_F fu syntaxReport) (syntax_report_code syntaxReport) := by
  unfold syntax_report_code_F syntax_report_code
  repeat (first | exact Le.rfl | exact X_Itoa_le _ | refine Le.bind ?_ (fun _ => ?_) | refine Le.ite ?_ ?_)
def syntax_CheckType_F (fu : Nat) (t : ApiType) : Option Int :=
  syntax_report_typ_F fu t 1 (SyntaxReport.mk 0 0 false false false) >>= fun x1 =>
  syntax_report_code_F fu x1 >>= fun x2 =>
  some x2
theorem syntax_CheckType_le (fu : Nat) (t : ApiType) : Le (syntax_CheckType_F fu t) (syntax_CheckType t) := by
  unfold syntax_CheckType_F syntax_CheckType
  repeat (first | exact Le.rfl | exact syntax_report_typ_le fu _ _ _ | exact syntax_report_code_le fu _ | exact X_Itoa_le _ | refine Le.bind ?_ (fun _ => ?_) | refine Le.ite ?_ ?_)
mutual
def types_replaced_F : Nat → ApiType → (List (Str × ApiType)) → Option (ApiType × Bool)
  | 0, _, _ => none
  | fu + 1, t, m =>
    if (t.Kind == 4) = true then
      some (mgt t.Name m) >>= fun x1 =>
      if (!x1.isSome) = true then
        some ((ApiType.mk 0 0 0 0 [] [] []), false)
      else
        types_replaced_j1_F fu m (x1.getD ApiType.zero)
    else
      types_replaced_j1_F fu m t
def types_replaced_j1_F : Nat → (List (Str × ApiType)) → ApiType → Option (ApiType × Bool)
  | 0, _, _ => none
  | fu + 1, m, o1 =>
    slices_Clone_string_string o1.Names >>= fun x2 =>
    types_replaced_l2_F fu m o1 x2 [] 0
def types_replaced_l2_F : Nat → (List (Str × ApiType)) → ApiType → (List Str) → (List ApiType) → Int → Option (ApiType × Bool)
  | 0, _, _, _, _, _ => none
  | fu + 1, m, o1, x2, o3_Of, v36 =>
    if (decide (v36 < ((o1.Of).length : Int))) = true then
      idx o1.Of v36 >>= fun x3 =>
      types_replaced_F fu x3 m >>= fun x4 =>
      if (!x4.2) = true then
        some ((ApiType.mk 0 0 0 0 [] [] []), false)
      else
        if (decide ((o3_Of.length + 1) * 97 ≤ 140737488355328)) = true then
          types_replaced_l2_F fu m o1 x2 (o3_Of ++ [x4.1]) (IntKind.i64.wrap (v36 + 1))
        else none
    else
      some ((ApiType.mk o1.Kind o1.Low o1.High o1.Size o1.Name x2 o3_Of), true)
end
theorem types_replaced_leg (fu : Nat) : (∀ (t : ApiType) (m : List (Str × ApiType)), Le (types_replaced_F fu t m) (types_replaced t m)) ∧ (∀ (m : List (Str × ApiType)) (o1 : ApiType), Le (types_replaced_j1_F fu m o1) (types_replaced_j1 m o1)) ∧ (∀ (m : List (Str × ApiType)) (o1 : ApiType) (x2 : List Str) (o3_Of : List ApiType) (v36 : Int), Le (types_replaced_l2_F fu m o1 x2 o3_Of v36) (types_replaced_l2 m o1 x2 o3_Of v36)) := by
  induction fu with
  | zero => exact ⟨fun _ _ => Le.none, fun _ _ => Le.none, fun _ _ _ _ _ => Le.none⟩
  | succ fu ih =>
    obtain ⟨ih0, ih1, ih2⟩ := ih
    refine ⟨fun t m => ?_, fun m o1 => ?_, fun m o1 x2 o3_Of v36 => ?_⟩
    · rw [types_replaced_F, types_replaced]
      repeat (first | exact Le.rfl | exact ih0 _ _ | exact ih1 _ _ | exact ih2 _ _ _ _ _ | exact X_Itoa_le _ | refine Le.bind ?_ (fun _ => ?_) | refine Le.ite ?_ ?_)
    · rw [types_replaced_j1_F, types_replaced_j1]
      repeat (first | exact Le.rfl | exact ih0 _ _ | exact ih1 _ _ | exact ih2 _ _ _ _ _ | exact X_Itoa_le _ | refine Le.bind ?_ (fun _ => ?_) | refine Le.ite ?_ ?_)
    · rw [types_replaced_l2_F, types_replaced_l2]
      repeat (first | exact Le.rfl | exact ih0 _ _ | exact ih1 _ _ | exact ih2 _ _ _ _ _ | exact X_Itoa_le _ | refine Le.bind ?_ (fun _ => ?_) | refine Le.ite ?_ ?_)
theorem types_replaced_le (fu : Nat) (t : ApiType) (m : List (Str × ApiType)) : Le (types_replaced_F fu t m) (types_replaced t m) := (types_replaced_leg fu).1 t m
theorem types_replaced_j1_le (fu : Nat) (m : List (Str × ApiType)) (o1 : ApiType) : Le (types_replaced_j1_F fu m o1) (types_replaced_j1 m o1) := (types_replaced_leg fu).2.1 m o1
theorem types_replaced_l2_le (fu : Nat) (m : List (Str × ApiType)) (o1 : ApiType) (x2 : List Str) (o3_Of : List ApiType) (v36 : Int) : Le (types_replaced_l2_F fu m o1 x2 o3_Of v36) (types_replaced_l2 m o1 x2 o3_Of v36) := (types_replaced_leg fu).2.2 m o1 x2 o3_Of v36
def slices_Index_string_string_l1_F : Nat → (List Str) → Str → Int → Option Int
  | 0, _, _, _ => none
  | fu + 1, s, v, v8 =>
    if (decide (v8 < ((s).length : Int))) = true then
      idx s v8 >>= fun x1 =>
      if (v == x1) = true then
        some v8
      else
        slices_Index_string_string_l1_F fu s v (IntKind.i64.wrap (v8 + 1))
    else
      some (-1)
theorem slices_Index_string_string_l1_leg (fu : Nat) : (∀ (s : List Str) (v : Str) (v8 : Int), Le (slices_Index_string_string_l1_F fu s v v8) (slices_Index_string_string_l1 s v v8)) := by
  induction fu with
  | zero => exact fun _ _ _ => Le.none
  | succ fu ih =>
    have ih0 := ih
    refine fun s v v8 => ?_
    · rw [slices_Index_string_string_l1_F, slices_Index_string_string_l1]
      repeat (first | exact Le.rfl | exact ih0 _ _ _ | exact X_Itoa_le _ | refine Le.bind ?_ (fun _ => ?_) | refine Le.ite ?_ ?_)
theorem slices_Index_string_string_l1_le (fu : Nat) (s : List Str) (v : Str) (v8 : Int) : Le (slices_Index_string_string_l1_F fu s v v8) (slices_Index_string_string_l1 s v v8) := (slices_Index_string_string_l1_leg fu) s v v8
def slices_Index_string_string_F (fu : Nat) (s : List Str) (v : Str) : Option Int :=
  slices_Index_string_string_l1_F fu s v 0
theorem slices_Index_string_string_le (fu : Nat) (s : List Str) (v : Str) : Le (slices_Index_string_string_F fu s v) (slices_Index_string_string s v) := by
  unfold slices_Index_string_string_F slices_Index_string_string
  repeat (first | exact Le.rfl | exact slices_Index_string_string_l1_le fu _ _ _ | exact X_Itoa_le _ | refine Le.bind ?_ (fun _ => ?_) | refine Le.ite ?_ ?_)
def slices_Contains_string_string_F (fu : Nat) (s : List Str) (v : Str) : Option Bool :=
  slices_Index_string_string_F fu s v >>= fun x1 =>
  some (decide (x1 ≥ 0))
theorem slices_Contains_string_string_le (fu : Nat) (s : List Str) (v : Str) : Le (slices_Contains_string_string_F fu s v) (slices_Contains_string_string s v) := by
  unfold slices_Contains_string_string_F slices_Contains_string_string
  repeat (first | exact Le.rfl | exact slices_Index_string_string_le fu _ _ | exact X_Itoa_le _ | refine Le.bind ?_ (fun _ => ?_) | refine Le.ite ?_ ?_)
mutual
def types_twice_F : Nat → ApiType → Option Bool
  | 0, _ => none
  | fu + 1, t =>
    types_twice_l1_F fu t 0
def types_twice_l1_F : Nat → ApiType → Int → Option Bool
  | 0, _, _ => none
  | fu + 1, t, v8 =>
    if (decide (v8 < ((t.Names).length : Int))) = true then
      idx t.Names v8 >>= fun x1 =>
      slc t.Names 0 v8 >>= fun x2 =>
      slices_Contains_string_string_F fu x2 x1 >>= fun x3 =>
      if x3 = true then
        some true
      else
        types_twice_l1_F fu t (IntKind.i64.wrap (v8 + 1))
    else
      slices_ContainsFunc_api_Type_api_Type_F fu t.Of >>= fun x4 =>
      some x4
def slices_ContainsFunc_api_Type_api_Type_F : Nat → (List ApiType) → Option Bool
  | 0, _ => none
  | fu + 1, s =>
    slices_IndexFunc_api_Type_api_Type_F fu s >>= fun x1 =>
    some (decide (x1 ≥ 0))
def slices_IndexFunc_api_Type_api_Type_F : Nat → (List ApiType) → Option Int
  | 0, _ => none
  | fu + 1, s =>
    slices_IndexFunc_api_Type_api_Type_l1_F fu s 0
def slices_IndexFunc_api_Type_api_Type_l1_F : Nat → (List ApiType) → Int → Option Int
  | 0, _, _ => none
  | fu + 1, s, v8 =>
    if (decide (v8 < ((s).length : Int))) = true then
      idx s v8 >>= fun x1 =>
      types_twice_F fu x1 >>= fun x2 =>
      if x2 = true then
        some v8
      else
        slices_IndexFunc_api_Type_api_Type_l1_F fu s (IntKind.i64.wrap (v8 + 1))
    else
      some (-1)
end
theorem types_twice_leg (fu : Nat) : (∀ (t : ApiType), Le (types_twice_F fu t) (types_twice t)) ∧ (∀ (t : ApiType) (v8 : Int), Le (types_twice_l1_F fu t v8) (types_twice_l1 t v8)) ∧ (∀ (s : List ApiType), Le (slices_ContainsFunc_api_Type_api_Type_F fu s) (slices_ContainsFunc_api_Type_api_Type s)) ∧ (∀ (s : List ApiType), Le (slices_IndexFunc_api_Type_api_Type_F fu s) (slices_IndexFunc_api_Type_api_Type s)) ∧ (∀ (s : List ApiType) (v8 : Int), Le (slices_IndexFunc_api_Type_api_Type_l1_F fu s v8) (slices_IndexFunc_api_Type_api_Type_l1 s v8)) := by
  induction fu with
  | zero => exact ⟨fun _ => Le.none, fun _ _ => Le.none, fun _ => Le.none, fun _ => Le.none, fun _ _ => Le.none⟩
  | succ fu ih =>
    obtain ⟨ih0, ih1, ih2, ih3, ih4⟩ := ih
    refine ⟨fun t => ?_, fun t v8 => ?_, fun s => ?_, fun s => ?_, fun s v8 => ?_⟩
    · rw [types_twice_F, types_twice]
      repeat (first | exact Le.rfl | exact ih0 _ | exact ih1 _ _ | exact ih2 _ | exact ih3 _ | exact ih4 _ _ | exact slices_Contains_string_string_le fu _ _ | exact X_Itoa_le _ | refine Le.bind ?_ (fun _ => ?_) | refine Le.ite ?_ ?_)
    · rw [types_twice_l1_F, types_twice_l1]
      repeat (first | exact Le.rfl | exact ih0 _ | exact ih1 _ _ | exact ih2 _ | exact ih3 _ | exact ih4 _ _ | exact slices_Contains_string_string_le fu _ _ | exact X_Itoa_le _ | refine Le.bind ?_ (fun _ => ?_) | refine Le.ite ?_ ?_)
    · rw [slices_ContainsFunc_api_Type_api_Type_F, slices_ContainsFunc_api_Type_api_Type]
      repeat (first | exact Le.rfl | exact ih0 _ | exact ih1 _ _ | exact ih2 _ | exact ih3 _ | exact ih4 _ _ | exact slices_Contains_string_string_le fu _ _ | exact X_Itoa_le _ | refine Le.bind ?_ (fun _ => ?_) | refine Le.ite ?_ ?_)
    · rw [slices_IndexFunc_api_Type_api_Type_F, slices_IndexFunc_api_Type_api_Type]
      repeat (first | exact Le.rfl | exact ih0 _ | exact ih1 _ _ | exact ih2 _ | exact ih3 _ | exact ih4 _ _ | exact slices_Contains_string_string_le fu _ _ | exact X_Itoa_le _ | refine Le.bind ?_ (fun _ => ?_) | refine Le.ite ?_ ?_)
    · rw [slices_IndexFunc_api_Type_api_Type_l1_F, slices_IndexFunc_api_Type_api_Type_l1]
      repeat (first | exact Le.rfl | exact ih0 _ | exact ih1 _ _ | exact ih2 _ | exact ih3 _ | exact ih4 _ _ | exact slices_Contains_string_string_le fu _ _ | exact X_Itoa_le _ | refine Le.bind ?_ (fun _ => ?_) | refine Le.ite ?_ ?_)
theorem types_twice_le (fu : Nat) (t : ApiType) : Le (types_twice_F fu t) (types_twice t) := (types_twice_leg fu).1 t
theorem types_twice_l1_le (fu : Nat) (t : ApiType) (v8 : Int) : Le (types_twice_l1_F fu t v8) (types_twice_l1 t v8) := (types_twice_leg fu).2.1 t v8
theorem slices_ContainsFunc_api_Type_api_Type_le (fu : Nat) (s : List ApiType) : Le (slices_ContainsFunc_api_Type_api_Type_F fu s) (slices_ContainsFunc_api_Type_api_Type s) := (types_twice_leg fu).2.2.1 s
theorem slices_IndexFunc_api_Type_api_Type_le (fu : Nat) (s : List ApiType) : Le (slices_IndexFunc_api_Type_api_Type_F fu s) (slices_IndexFunc_api_Type_api_Type s) := (types_twice_leg fu).2.2.2.1 s
theorem slices_IndexFunc_api_Type_api_Type_l1_le (fu : Nat) (s : List ApiType) (v8 : Int) : Le (slices_IndexFunc_api_Type_api_Type_l1_F fu s v8) (slices_IndexFunc_api_Type_api_Type_l1 s v8) := (types_twice_leg fu).2.2.2.2 s v8
mutual
def types_depth_F : Nat → ApiType → Option Int
  | 0, _ => none
  | fu + 1, t =>
    types_depth_l1_F fu t 0 0
def types_depth_l1_F : Nat → ApiType → Int → Int → Option Int
  | 0, _, _, _ => none
  | fu + 1, t, d, v9 =>
    if (decide (v9 < ((t.Of).length : Int))) = true then
      idx t.Of v9 >>= fun x1 =>
      types_depth_F fu x1 >>= fun x2 =>
      types_depth_l1_F fu t (max d x2) (IntKind.i64.wrap (v9 + 1))
    else
      some (IntKind.i64.wrap (d + 1))
end
theorem types_depth_leg (fu : Nat) : (∀ (t : ApiType), Le (types_depth_F fu t) (types_depth t)) ∧ (∀ (t : ApiType) (d : Int) (v9 : Int), Le (types_depth_l1_F fu t d v9) (types_depth_l1 t d v9)) := by
  induction fu with
  | zero => exact ⟨fun _ => Le.none, fun _ _ _ => Le.none⟩
  | succ fu ih =>
    obtain ⟨ih0, ih1⟩ := ih
    refine ⟨fun t => ?_, fun t d v9 => ?_⟩
    · rw [types_depth_F, types_depth]
      repeat (first | exact Le.rfl | exact ih0 _ | exact ih1 _ _ _ | exact X_Itoa_le _ | refine Le.bind ?_ (fun _ => ?_) | refine Le.ite ?_ ?_)
    · rw [types_depth_l1_F, types_depth_l1]
      repeat (first | exact Le.rfl | exact ih0 _ | exact ih1 _ _ _ | exact X_Itoa_le _ | refine Le.bind ?_ (fun _ => ?_) | refine Le.ite ?_ ?_)
theorem types_depth_le (fu : Nat) (t : ApiType) : Le (types_depth_F fu t) (types_depth t) := (types_depth_leg fu).1 t
theorem types_depth_l1_le (fu : Nat) (t : ApiType) (d : Int) (v9 : Int) : Le (types_depth_l1_F fu t d v9) (types_depth_l1 t d v9) := (types_depth_leg fu).2 t d v9
mutual
def types_count_F : Nat → ApiType → Option Int
  | 0, _ => none
  | fu + 1, t =>
    if (t.Kind == 2) = true then
      idx t.Of 0 >>= fun x1 =>
      types_count_F fu x1 >>= fun x3 =>
      some (min (IntKind.i64.wrap ((min t.Size 33) * x3)) 33)
    else
      if (t.Kind == 3) = true then
        types_count_l1_F fu t 0 0
      else
        some (min 1 33)
def types_count_l1_F : Nat → ApiType → Int → Int → Option Int
  | 0, _, _, _ => none
  | fu + 1, t, n, v24 =>
    if (decide (v24 < ((t.Of).length : Int))) = true then
      idx t.Of v24 >>= fun x2 =>
      types_count_F fu x2 >>= fun x4 =>
      types_count_l1_F fu t (IntKind.i64.wrap (n + x4)) (IntKind.i64.wrap (v24 + 1))
    else
      some (min n 33)
end
theorem types_count_leg (fu : Nat) : (∀ (t : ApiType), Le (types_count_F fu t) (types_count t)) ∧ (∀ (t : ApiType) (n : Int) (v24 : Int), Le (types_count_l1_F fu t n v24) (types_count_l1 t n v24)) := by
  induction fu with
  | zero => exact ⟨fun _ => Le.none, fun _ _ _ => Le.none⟩
  | succ fu ih =>
    obtain ⟨ih0, ih1⟩ := ih
    refine ⟨fun t => ?_, fun t n v24 => ?_⟩
    · rw [types_count_F, types_count]
      repeat (first | exact Le.rfl | exact ih0 _ | exact ih1 _ _ _ | exact X_Itoa_le _ | refine Le.bind ?_ (fun _ => ?_) | refine Le.ite ?_ ?_)
    · rw [types_count_l1_F, types_count_l1]
      repeat (first | exact Le.rfl | exact ih0 _ | exact ih1 _ _ _ | exact X_Itoa_le _ | refine Le.bind ?_ (fun _ => ?_) | refine Le.ite ?_ ?_)
theorem types_count_le (fu : Nat) (t : ApiType) : Le (types_count_F fu t) (types_count t) := (types_count_leg fu).1 t
theorem types_count_l1_le (fu : Nat) (t : ApiType) (n : Int) (v24 : Int) : Le (types_count_l1_F fu t n v24) (types_count_l1 t n v24) := (types_count_leg fu).2 t n v24
def types_expanded_F (fu : Nat) (t : ApiType) (m : List (Str × ApiType)) : Option (ApiType × Int) :=
  syntax_CheckType_F fu t >>= fun x1 =>
  if (x1 != 0) = true then
    some ((ApiType.mk 0 0 0 0 [] [] []), x1)
  else
    types_replaced_F fu t m >>= fun x2 =>
    if (!x2.2) = true then
      some ((ApiType.mk 0 0 0 0 [] [] []), 7)
    else
      types_twice_F fu x2.1 >>= fun x3 =>
      if x3 = true then
        some ((ApiType.mk 0 0 0 0 [] [] []), 8)
      else
        types_depth_F fu x2.1 >>= fun x4 =>
        (if (!(decide (x4 > 12))) = true then types_count_F fu x2.1 else some default) >>= fun x5 =>
        if (bif (decide (x4 > 12)) then true else (decide (x5 > 32))) = true then
          some ((ApiType.mk 0 0 0 0 [] [] []), 4)
        else
          some (x2.1, 0)
theorem types_expanded_le (fu : Nat) (t : ApiType) (m : List (Str × ApiType)) : Le (types_expanded_F fu t m) (types_expanded t m) := by
  unfold types_expanded_F types_expanded
  repeat (first | exact Le.rfl | exact syntax_CheckType_le fu _ | exact types_replaced_le fu _ _ | exact types_twice_le fu _ | exact types_depth_le fu _ | exact types_count_le fu _ | exact X_Itoa_le _ | refine Le.bind ?_ (fun _ => ?_) | refine Le.ite ?_ ?_)
def types_Expand_l1_F : Nat → (List ApiDecl) → ApiType → (List (Str × ApiType)) → Int → Option (ApiType × Int)
  | 0, _, _, _, _ => none
  | fu + 1, decls, t, m2, v16 =>
    if (decide (v16 < ((decls).length : Int))) = true then
      idx decls v16 >>= fun x1 =>
      if (x1.Kind != 0) = true then
        types_Expand_l1_F fu decls t m2 (IntKind.i64.wrap (v16 + 1))
      else
        syntax_IsName_F fu x1.Name >>= fun x2 =>
        if (!x2) = true then
          some ((ApiType.mk 0 0 0 0 [] [] []), 7)
        else
          some (mgt x1.Name m2) >>= fun x3 =>
          if x3.isSome = true then
            some ((ApiType.mk 0 0 0 0 [] [] []), 8)
          else
            types_expanded_F fu x1.TypeV m2 >>= fun x4 =>
            if (x4.2 != 0) = true then
              some ((ApiType.mk 0 0 0 0 [] [] []), x4.2)
            else
              types_Expand_l1_F fu decls t (mpt x1.Name x4.1 m2) (IntKind.i64.wrap (v16 + 1))
    else
      types_expanded_F fu t m2 >>= fun x5 =>
      some (x5.1, x5.2)
theorem types_Expand_l1_leg (fu : Nat) : (∀ (decls : List ApiDecl) (t : ApiType) (m2 : List (Str × ApiType)) (v16 : Int), Le (types_Expand_l1_F fu decls t m2 v16) (types_Expand_l1 decls t m2 v16)) := by
  induction fu with
  | zero => exact fun _ _ _ _ => Le.none
  | succ fu ih =>
    have ih0 := ih
    refine fun decls t m2 v16 => ?_
    · rw [types_Expand_l1_F, types_Expand_l1]
      repeat (first | exact Le.rfl | exact ih0 _ _ _ _ | exact syntax_IsName_le fu _ | exact types_expanded_le fu _ _ | exact X_Itoa_le _ | refine Le.bind ?_ (fun _ => ?_) | refine Le.ite ?_ ?_)
theorem types_Expand_l1_le (fu : Nat) (decls : List ApiDecl) (t : ApiType) (m2 : List (Str × ApiType)) (v16 : Int) : Le (types_Expand_l1_F fu decls t m2 v16) (types_Expand_l1 decls t m2 v16) := (types_Expand_l1_leg fu) decls t m2 v16
def types_Expand_F (fu : Nat) (decls : List ApiDecl) (t : ApiType) : Option (ApiType × Int) :=
  types_Expand_l1_F fu decls t [] 0
theorem types_Expand_le (fu : Nat) (decls : List ApiDecl) (t : ApiType) : Le (types_Expand_F fu decls t) (types_Expand decls t) := by
  unfold types_Expand_F types_Expand
  repeat (first | exact Le.rfl | exact types_Expand_l1_le fu _ _ _ _ | exact X_Itoa_le _ | refine Le.bind ?_ (fun _ => ?_) | refine Le.ite ?_ ?_)
mutual
def types_named_F : Nat → ApiType → Option Bool
  | 0, _ => none
  | fu + 1, t =>
    (if (!(t.Kind == 4)) = true then slices_ContainsFunc_api_Type_api_Type_v2_F fu t.Of else some default) >>= fun x1 =>
    some (bif (t.Kind == 4) then true else x1)
def slices_ContainsFunc_api_Type_api_Type_v2_F : Nat → (List ApiType) → Option Bool
  | 0, _ => none
  | fu + 1, s =>
    slices_IndexFunc_api_Type_api_Type_v2_F fu s >>= fun x1 =>
    some (decide (x1 ≥ 0))
def slices_IndexFunc_api_Type_api_Type_v2_F : Nat → (List ApiType) → Option Int
  | 0, _ => none
  | fu + 1, s =>
    slices_IndexFunc_api_Type_api_Type_v2_l1_F fu s 0
def slices_IndexFunc_api_Type_api_Type_v2_l1_F : Nat → (List ApiType) → Int → Option Int
  | 0, _, _ => none
  | fu + 1, s, v8 =>
    if (decide (v8 < ((s).length : Int))) = true then
      idx s v8 >>= fun x1 =>
      types_named_F fu x1 >>= fun x2 =>
      if x2 = true then
        some v8
      else
        slices_IndexFunc_api_Type_api_Type_v2_l1_F fu s (IntKind.i64.wrap (v8 + 1))
    else
      some (-1)
end
theorem types_named_leg (fu : Nat) : (∀ (t : ApiType), Le (types_named_F fu t) (types_named t)) ∧ (∀ (s : List ApiType), Le (slices_ContainsFunc_api_Type_api_Type_v2_F fu s) (slices_ContainsFunc_api_Type_api_Type_v2 s)) ∧ (∀ (s : List ApiType), Le (slices_IndexFunc_api_Type_api_Type_v2_F fu s) (slices_IndexFunc_api_Type_api_Type_v2 s)) ∧ (∀ (s : List ApiType) (v8 : Int), Le (slices_IndexFunc_api_Type_api_Type_v2_l1_F fu s v8) (slices_IndexFunc_api_Type_api_Type_v2_l1 s v8)) := by
  induction fu with
  | zero => exact ⟨fun _ => Le.none, fun _ => Le.none, fun _ => Le.none, fun _ _ => Le.none⟩
  | succ fu ih =>
    obtain ⟨ih0, ih1, ih2, ih3⟩ := ih
    refine ⟨fun t => ?_, fun s => ?_, fun s => ?_, fun s v8 => ?_⟩
    · rw [types_named_F, types_named]
      repeat (first | exact Le.rfl | exact ih0 _ | exact ih1 _ | exact ih2 _ | exact ih3 _ _ | exact X_Itoa_le _ | refine Le.bind ?_ (fun _ => ?_) | refine Le.ite ?_ ?_)
    · rw [slices_ContainsFunc_api_Type_api_Type_v2_F, slices_ContainsFunc_api_Type_api_Type_v2]
      repeat (first | exact Le.rfl | exact ih0 _ | exact ih1 _ | exact ih2 _ | exact ih3 _ _ | exact X_Itoa_le _ | refine Le.bind ?_ (fun _ => ?_) | refine Le.ite ?_ ?_)
    · rw [slices_IndexFunc_api_Type_api_Type_v2_F, slices_IndexFunc_api_Type_api_Type_v2]
      repeat (first | exact Le.rfl | exact ih0 _ | exact ih1 _ | exact ih2 _ | exact ih3 _ _ | exact X_Itoa_le _ | refine Le.bind ?_ (fun _ => ?_) | refine Le.ite ?_ ?_)
    · rw [slices_IndexFunc_api_Type_api_Type_v2_l1_F, slices_IndexFunc_api_Type_api_Type_v2_l1]
      repeat (first | exact Le.rfl | exact ih0 _ | exact ih1 _ | exact ih2 _ | exact ih3 _ _ | exact X_Itoa_le _ | refine Le.bind ?_ (fun _ => ?_) | refine Le.ite ?_ ?_)
theorem types_named_le (fu : Nat) (t : ApiType) : Le (types_named_F fu t) (types_named t) := (types_named_leg fu).1 t
theorem slices_ContainsFunc_api_Type_api_Type_v2_le (fu : Nat) (s : List ApiType) : Le (slices_ContainsFunc_api_Type_api_Type_v2_F fu s) (slices_ContainsFunc_api_Type_api_Type_v2 s) := (types_named_leg fu).2.1 s
theorem slices_IndexFunc_api_Type_api_Type_v2_le (fu : Nat) (s : List ApiType) : Le (slices_IndexFunc_api_Type_api_Type_v2_F fu s) (slices_IndexFunc_api_Type_api_Type_v2 s) := (types_named_leg fu).2.2.1 s
theorem slices_IndexFunc_api_Type_api_Type_v2_l1_le (fu : Nat) (s : List ApiType) (v8 : Int) : Le (slices_IndexFunc_api_Type_api_Type_v2_l1_F fu s v8) (slices_IndexFunc_api_Type_api_Type_v2_l1 s v8) := (types_named_leg fu).2.2.2 s v8
def types_plain_F (fu : Nat) (t : ApiType) : Option Int :=
  types_named_F fu t >>= fun x1 =>
  if x1 = true then
    some 7
  else
    types_twice_F fu t >>= fun x2 =>
    if x2 = true then
      some 8
    else
      types_count_F fu t >>= fun x3 =>
      if (decide (x3 > 32)) = true then
        some 4
      else
        some 0
theorem types_plain_le (fu : Nat) (t : ApiType) : Le (types_plain_F fu t) (types_plain t) := by
  unfold types_plain_F types_plain
  repeat (first | exact Le.rfl | exact types_named_le fu _ | exact types_twice_le fu _ | exact types_count_le fu _ | exact X_Itoa_le _ | refine Le.bind ?_ (fun _ => ?_) | refine Le.ite ?_ ?_)
def types_Check_F (fu : Nat) (t : ApiType) : Option Int :=
  syntax_CheckType_F fu t >>= fun x1 =>
  if (x1 != 0) = true then
    some x1
  else
    types_plain_F fu t >>= fun x2 =>
    some x2
theorem types_Check_le (fu : Nat) (t : ApiType) : Le (types_Check_F fu t) (types_Check t) := by
  unfold types_Check_F types_Check
  repeat (first | exact Le.rfl | exact syntax_CheckType_le fu _ | exact types_plain_le fu _ | exact X_Itoa_le _ | refine Le.bind ?_ (fun _ => ?_) | refine Le.ite ?_ ?_)
def strings_Clone_F (fu : Nat) (s : Str) : Option Str :=
  X_Clone s >>= fun x1 =>
  some x1
theorem strings_Clone_le (fu : Nat) (s : Str) : Le (strings_Clone_F fu s) (strings_Clone s) := by
  unfold strings_Clone_F strings_Clone
  repeat (first | exact Le.rfl | exact X_Itoa_le _ | refine Le.bind ?_ (fun _ => ?_) | refine Le.ite ?_ ?_)
def types_Scalars_1_v2_F (fu : Nat) (path : Str) (a1 : Int) (x : ApiType) (s : List ApiScalar) : Option (Bool × List ApiScalar) :=
  if (x.Kind == 0) = true then
    strings_Clone_F fu path >>= fun x1 =>
    if (decide ((s.length + 1) * 41 ≤ 140737488355328)) = true then
      some (true, (s ++ [(ApiScalar.mk x1 true 0 1)]))
    else none
  else
    if (x.Kind == 1) = true then
      strings_Clone_F fu path >>= fun x2 =>
      if (decide ((s.length + 1) * 41 ≤ 140737488355328)) = true then
        some (true, (s ++ [(ApiScalar.mk x2 false x.Low x.High)]))
      else none
    else
      some (true, s)
theorem types_Scalars_1_v2_le (fu : Nat) (path : Str) (a1 : Int) (x : ApiType) (s : List ApiScalar) : Le (types_Scalars_1_v2_F fu path a1 x s) (types_Scalars_1_v2 path a1 x s) := by
  unfold types_Scalars_1_v2_F types_Scalars_1_v2
  repeat (first | exact Le.rfl | exact strings_Clone_le fu _ | exact X_Itoa_le _ | refine Le.bind ?_ (fun _ => ?_) | refine Le.ite ?_ ?_)
mutual
def types_each_1_v2_F : Nat → Str → ApiType → Int → (List ApiScalar) → Option (Bool × Int × List ApiScalar)
  | 0, _, _, _, _ => none
  | fu + 1, path, t, s, s1 =>
    types_Scalars_1_v2_F fu path s t s1 >>= fun x1 =>
    if (!x1.1) = true then
      some (false, s, x1.2)
    else
      if (t.Kind == 2) = true then
        types_each_1_v2_l1_F fu path t s x1.2 0
      else
        if (t.Kind == 3) = true then
          types_each_1_v2_l2_F fu path t s x1.2 0
        else
          some (true, (IntKind.i64.wrap (s + 1)), x1.2)
def types_each_1_v2_l1_F : Nat → Str → ApiType → Int → (List ApiScalar) → Int → Option (Bool × Int × List ApiScalar)
  | 0, _, _, _, _, _ => none
  | fu + 1, path, t, o1, o3, v25 =>
    if (decide (v25 < t.Size)) = true then
      if (decide (path.length + 1 ≤ maxLen)) = true then
        X_Itoa_F v25 >>= fun x2 =>
        if (decide ((path ++ [46]).length + x2.length ≤ maxLen)) = true then
          idx t.Of 0 >>= fun x3 =>
          types_each_1_v2_F fu ((path ++ [46]) ++ x2) x3 o1 o3 >>= fun x6 =>
          if (!x6.1) = true then
            some (false, x6.2.1, x6.2.2)
          else
            types_each_1_v2_l1_F fu path t x6.2.1 x6.2.2 (IntKind.i64.wrap (v25 + 1))
        else none
      else none
    else
      some (true, o1, o3)
def types_each_1_v2_l2_F : Nat → Str → ApiType → Int → (List ApiScalar) → Int → Option (Bool × Int × List ApiScalar)
  | 0, _, _, _, _, _ => none
  | fu + 1, path, t, o11, o31, v46 =>
    if (decide (v46 < ((t.Of).length : Int))) = true then
      idx t.Of v46 >>= fun x4 =>
      if (decide (path.length + 1 ≤ maxLen)) = true then
        idx t.Names v46 >>= fun x5 =>
        if (decide ((path ++ [46]).length + x5.length ≤ maxLen)) = true then
          types_each_1_v2_F fu ((path ++ [46]) ++ x5) x4 o11 o31 >>= fun x7 =>
          if (!x7.1) = true then
            some (false, x7.2.1, x7.2.2)
          else
            types_each_1_v2_l2_F fu path t x7.2.1 x7.2.2 (IntKind.i64.wrap (v46 + 1))
        else none
      else none
    else
      some (true, o11, o31)
end
theorem types_each_1_v2_leg (fu : Nat) : (∀ (path : Str) (t : ApiType) (s : Int) (s1 : List ApiScalar), Le (types_each_1_v2_F fu path t s s1) (types_each_1_v2 path t s s1)) ∧ (∀ (path : Str) (t : ApiType) (o1 : Int) (o3 : List ApiScalar) (v25 : Int), Le (types_each_1_v2_l1_F fu path t o1 o3 v25) (types_each_1_v2_l1 path t o1 o3 v25)) ∧ (∀ (path : Str) (t : ApiType) (o11 : Int) (o31 : List ApiScalar) (v46 : Int), Le (types_each_1_v2_l2_F fu path t o11 o31 v46) (types_each_1_v2_l2 path t o11 o31 v46)) := by
  induction fu with
  | zero => exact ⟨fun _ _ _ _ => Le.none, fun _ _ _ _ _ => Le.none, fun _ _ _ _ _ => Le.none⟩
  | succ fu ih =>
    obtain ⟨ih0, ih1, ih2⟩ := ih
    refine ⟨fun path t s s1 => ?_, fun path t o1 o3 v25 => ?_, fun path t o11 o31 v46 => ?_⟩
    · rw [types_each_1_v2_F, types_each_1_v2]
      repeat (first | exact Le.rfl | exact ih0 _ _ _ _ | exact ih1 _ _ _ _ _ | exact ih2 _ _ _ _ _ | exact types_Scalars_1_v2_le fu _ _ _ _ | exact X_Itoa_le _ | refine Le.bind ?_ (fun _ => ?_) | refine Le.ite ?_ ?_)
    · rw [types_each_1_v2_l1_F, types_each_1_v2_l1]
      repeat (first | exact Le.rfl | exact ih0 _ _ _ _ | exact ih1 _ _ _ _ _ | exact ih2 _ _ _ _ _ | exact types_Scalars_1_v2_le fu _ _ _ _ | exact X_Itoa_le _ | refine Le.bind ?_ (fun _ => ?_) | refine Le.ite ?_ ?_)
    · rw [types_each_1_v2_l2_F, types_each_1_v2_l2]
      repeat (first | exact Le.rfl | exact ih0 _ _ _ _ | exact ih1 _ _ _ _ _ | exact ih2 _ _ _ _ _ | exact types_Scalars_1_v2_le fu _ _ _ _ | exact X_Itoa_le _ | refine Le.bind ?_ (fun _ => ?_) | refine Le.ite ?_ ?_)
theorem types_each_1_v2_le (fu : Nat) (path : Str) (t : ApiType) (s : Int) (s1 : List ApiScalar) : Le (types_each_1_v2_F fu path t s s1) (types_each_1_v2 path t s s1) := (types_each_1_v2_leg fu).1 path t s s1
theorem types_each_1_v2_l1_le (fu : Nat) (path : Str) (t : ApiType) (o1 : Int) (o3 : List ApiScalar) (v25 : Int) : Le (types_each_1_v2_l1_F fu path t o1 o3 v25) (types_each_1_v2_l1 path t o1 o3 v25) := (types_each_1_v2_leg fu).2.1 path t o1 o3 v25
theorem types_each_1_v2_l2_le (fu : Nat) (path : Str) (t : ApiType) (o11 : Int) (o31 : List ApiScalar) (v46 : Int) : Le (types_each_1_v2_l2_F fu path t o11 o31 v46) (types_each_1_v2_l2 path t o11 o31 v46) := (types_each_1_v2_leg fu).2.2 path t o11 o31 v46
def types_each_v2_F (fu : Nat) (t : ApiType) (s : List ApiScalar) : Option (List ApiScalar) :=
  types_each_1_v2_F fu [] t 0 s >>= fun x1 =>
  some x1.2.2
theorem types_each_v2_le (fu : Nat) (t : ApiType) (s : List ApiScalar) : Le (types_each_v2_F fu t s) (types_each_v2 t s) := by
  unfold types_each_v2_F types_each_v2
  repeat (first | exact Le.rfl | exact types_each_1_v2_le fu _ _ _ _ | exact X_Itoa_le _ | refine Le.bind ?_ (fun _ => ?_) | refine Le.ite ?_ ?_)
def types_Scalars_F (fu : Nat) (t : ApiType) : Option (List ApiScalar × Int) :=
  types_Check_F fu t >>= fun x1 =>
  if (x1 != 0) = true then
    some ([], x1)
  else
    types_each_v2_F fu t [] >>= fun x2 =>
    some (x2, 0)
theorem types_Scalars_le (fu : Nat) (t : ApiType) : Le (types_Scalars_F fu t) (types_Scalars t) := by
  unfold types_Scalars_F types_Scalars
  repeat (first | exact Le.rfl | exact types_Check_le fu _ | exact types_each_v2_le fu _ _ | exact X_Itoa_le _ | refine Le.bind ?_ (fun _ => ?_) | refine Le.ite ?_ ?_)
def types_Values_l1_F : Nat → Int → (List ApiScalar × Int) → Int → Option (Int × Int)
  | 0, _, _, _ => none
  | fu + 1, n, x1, v20 =>
    if (decide (v20 < ((x1.1).length : Int))) = true then
      idx x1.1 v20 >>= fun x2 =>
      if (decide ((IntKind.i64.wrap ((IntKind.i64.wrap (x2.High - x2.Low)) + 1)) ≠ 0)) = true then
        if (decide (n > (IntKind.i64.wrap (Int.tdiv 1099511627776 (IntKind.i64.wrap ((IntKind.i64.wrap (x2.High - x2.Low)) + 1)))))) = true then
          some (0, 4)
        else
          types_Values_l1_F fu (IntKind.i64.wrap (n * (IntKind.i64.wrap ((IntKind.i64.wrap (x2.High - x2.Low)) + 1)))) x1 (IntKind.i64.wrap (v20 + 1))
      else none
    else
      some (n, 0)
theorem types_Values_l1_leg (fu : Nat) : (∀ (n : Int) (x1 : List ApiScalar × Int) (v20 : Int), Le (types_Values_l1_F fu n x1 v20) (types_Values_l1 n x1 v20)) := by
  induction fu with
  | zero => exact fun _ _ _ => Le.none
  | succ fu ih =>
    have ih0 := ih
    refine fun n x1 v20 => ?_
    · rw [types_Values_l1_F, types_Values_l1]
      repeat (first | exact Le.rfl | exact ih0 _ _ _ | exact X_Itoa_le _ | refine Le.bind ?_ (fun _ => ?_) | refine Le.ite ?_ ?_)
theorem types_Values_l1_le (fu : Nat) (n : Int) (x1 : List ApiScalar × Int) (v20 : Int) : Le (types_Values_l1_F fu n x1 v20) (types_Values_l1 n x1 v20) := (types_Values_l1_leg fu) n x1 v20
def types_Values_F (fu : Nat) (t : ApiType) : Option (Int × Int) :=
  types_Scalars_F fu t >>= fun x1 =>
  if (x1.2 != 0) = true then
    some (0, x1.2)
  else
    types_Values_l1_F fu 1 x1 0
theorem types_Values_le (fu : Nat) (t : ApiType) : Le (types_Values_F fu t) (types_Values t) := by
  unfold types_Values_F types_Values
  repeat (first | exact Le.rfl | exact types_Scalars_le fu _ | exact types_Values_l1_le fu _ _ _ | exact X_Itoa_le _ | refine Le.bind ?_ (fun _ => ?_) | refine Le.ite ?_ ?_)
def types_Clamp_l1_F : Nat → (List Int) → (List Int) → (List ApiScalar × Int) → Int → Option (List Int × Int)
  | 0, _, _, _, _ => none
  | fu + 1, list, a1, x1, v29 =>
    if (decide (v29 < ((x1.1).length : Int))) = true then
      idx x1.1 v29 >>= fun x2 =>
      idx list v29 >>= fun x3 =>
      if (decide (0 ≤ v29 ∧ v29 < (((list).length : Int).toNat : Int))) = true then
        if (decide (v29.toNat < a1.length)) = true then
          types_Clamp_l1_F fu list (a1.set v29.toNat (min (max x3 x2.Low) x2.High)) x1 (IntKind.i64.wrap (v29 + 1))
        else none
      else none
    else
      if (decide (a1.length = ((list).length : Int).toNat)) = true then
        some (a1, 0)
      else none
theorem types_Clamp_l1_leg (fu : Nat) : (∀ (list : List Int) (a1 : List Int) (x1 : List ApiScalar × Int) (v29 : Int), Le (types_Clamp_l1_F fu list a1 x1 v29) (types_Clamp_l1 list a1 x1 v29)) := by
  induction fu with
  | zero => exact fun _ _ _ _ => Le.none
  | succ fu ih =>
    have ih0 := ih
    refine fun list a1 x1 v29 => ?_
    · rw [types_Clamp_l1_F, types_Clamp_l1]
      repeat (first | exact Le.rfl | exact ih0 _ _ _ _ | exact X_Itoa_le _ | refine Le.bind ?_ (fun _ => ?_) | refine Le.ite ?_ ?_)
theorem types_Clamp_l1_le (fu : Nat) (list : List Int) (a1 : List Int) (x1 : List ApiScalar × Int) (v29 : Int) : Le (types_Clamp_l1_F fu list a1 x1 v29) (types_Clamp_l1 list a1 x1 v29) := (types_Clamp_l1_leg fu) list a1 x1 v29
def types_Clamp_F (fu : Nat) (t : ApiType) (list : List Int) : Option (List Int × Int) :=
  types_Scalars_F fu t >>= fun x1 =>
  if (x1.2 != 0) = true then
    some ([], x1.2)
  else
    if (((x1.1).length : Int) != ((list).length : Int)) = true then
      some ([], 2)
    else
      if (decide (0 ≤ ((list).length : Int) ∧ ((list).length : Int).toNat * 8 ≤ 140737488355328)) = true then
        types_Clamp_l1_F fu list (List.replicate ((list).length : Int).toNat 0) x1 0
      else none
theorem types_Clamp_le (fu : Nat) (t : ApiType) (list : List Int) : Le (types_Clamp_F fu t list) (types_Clamp t list) := by
  unfold types_Clamp_F types_Clamp
  repeat (first | exact Le.rfl | exact types_Scalars_le fu _ | exact types_Clamp_l1_le fu _ _ _ _ | exact X_Itoa_le _ | refine Le.bind ?_ (fun _ => ?_) | refine Le.ite ?_ ?_)
def slices_Equal_int_int_l1_F : Nat → (List Int) → (List Int) → Int → Option Bool
  | 0, _, _, _ => none
  | fu + 1, s1, s2, v13 =>
    if (decide (v13 < ((s1).length : Int))) = true then
      idx s1 v13 >>= fun x1 =>
      idx s2 v13 >>= fun x2 =>
      if (x1 != x2) = true then
        some false
      else
        slices_Equal_int_int_l1_F fu s1 s2 (IntKind.i64.wrap (v13 + 1))
    else
      some true
theorem slices_Equal_int_int_l1_leg (fu : Nat) : (∀ (s1 : List Int) (s2 : List Int) (v13 : Int), Le (slices_Equal_int_int_l1_F fu s1 s2 v13) (slices_Equal_int_int_l1 s1 s2 v13)) := by
  induction fu with
  | zero => exact fun _ _ _ => Le.none
  | succ fu ih =>
    have ih0 := ih
    refine fun s1 s2 v13 => ?_
    · rw [slices_Equal_int_int_l1_F, slices_Equal_int_int_l1]
      repeat (first | exact Le.rfl | exact ih0 _ _ _ | exact X_Itoa_le _ | refine Le.bind ?_ (fun _ => ?_) | refine Le.ite ?_ ?_)
theorem slices_Equal_int_int_l1_le (fu : Nat) (s1 : List Int) (s2 : List Int) (v13 : Int) : Le (slices_Equal_int_int_l1_F fu s1 s2 v13) (slices_Equal_int_int_l1 s1 s2 v13) := (slices_Equal_int_int_l1_leg fu) s1 s2 v13
def slices_Equal_int_int_F (fu : Nat) (s1 : List Int) (s2 : List Int) : Option Bool :=
  if (((s1).length : Int) != ((s2).length : Int)) = true then
    some false
  else
    slices_Equal_int_int_l1_F fu s1 s2 0
theorem slices_Equal_int_int_le (fu : Nat) (s1 : List Int) (s2 : List Int) : Le (slices_Equal_int_int_F fu s1 s2) (slices_Equal_int_int s1 s2) := by
  unfold slices_Equal_int_int_F slices_Equal_int_int
  repeat (first | exact Le.rfl | exact slices_Equal_int_int_l1_le fu _ _ _ | exact X_Itoa_le _ | refine Le.bind ?_ (fun _ => ?_) | refine Le.ite ?_ ?_)
def types_Contains_F (fu : Nat) (t : ApiType) (list : List Int) : Option Bool :=
  types_Clamp_F fu t list >>= fun x1 =>
  (if (x1.2 == 0) = true then slices_Equal_int_int_F fu x1.1 list else some default) >>= fun x2 =>
  some (bif (x1.2 == 0) then x2 else false)
theorem types_Contains_le (fu : Nat) (t : ApiType) (list : List Int) : Le (types_Contains_F fu t list) (types_Contains t list) := by
  unfold types_Contains_F types_Contains
  repeat (first | exact Le.rfl | exact types_Clamp_le fu _ _ | exact slices_Equal_int_int_le fu _ _ | exact X_Itoa_le _ | refine Le.bind ?_ (fun _ => ?_) | refine Le.ite ?_ ?_)
def law12_known_F (fu : Nat) : Option Bool :=
  types_Expand_F fu [(ApiDecl.mk 0 [98, 105, 116] (ApiType.mk 0 0 0 0 [] [] []) 0 (ApiExpr.mk 0 0 [] []) [] [] []), (ApiDecl.mk 0 [112, 97, 105, 114] (ApiType.mk 3 0 0 0 [] [[97], [98]] [(ApiType.mk 4 0 0 0 [98, 105, 116] [] []), (ApiType.mk 1 1 3 0 [] [] [])]) 0 (ApiExpr.mk 0 0 [] []) [] [] [])] (ApiType.mk 2 0 0 2 [] [] [(ApiType.mk 4 0 0 0 [112, 97, 105, 114] [] [])]) >>= fun x1 =>
  types_Scalars_F fu x1.1 >>= fun x2 =>
  types_Values_F fu x1.1 >>= fun x3 =>
  types_Clamp_F fu x1.1 [5, 0, (-1), 2] >>= fun x4 =>
  (if (bif ((IntKind.i64.wrap ((IntKind.i64.wrap ((IntKind.i64.wrap (x1.2 + x2.2)) + x3.2)) + x4.2)) == 0) then (((x2.1).length : Int) == 4) else false) = true then idx x2.1 2 else some default) >>= fun x5 =>
  (if (bif (bif (bif ((IntKind.i64.wrap ((IntKind.i64.wrap ((IntKind.i64.wrap (x1.2 + x2.2)) + x3.2)) + x4.2)) == 0) then (((x2.1).length : Int) == 4) else false) then (bif (x5.Path == [46, 49, 46, 97]) then (bif (x5.Bool == true) then (bif (x5.Low == 0) then (bif (x5.High == 1) then true else false) else false) else false) else false) else false) then (x3.1 == 36) else false) = true then slices_Equal_int_int_F fu x4.1 [1, 1, 0, 2] else some default) >>= fun x6 =>
  (if (bif (bif (bif (bif ((IntKind.i64.wrap ((IntKind.i64.wrap ((IntKind.i64.wrap (x1.2 + x2.2)) + x3.2)) + x4.2)) == 0) then (((x2.1).length : Int) == 4) else false) then (bif (x5.Path == [46, 49, 46, 97]) then (bif (x5.Bool == true) then (bif (x5.Low == 0) then (bif (x5.High == 1) then true else false) else false) else false) else false) else false) then (x3.1 == 36) else false) then x6 else false) = true then types_Contains_F fu x1.1 x4.1 else some default) >>= fun x7 =>
  (if (bif (bif (bif (bif (bif ((IntKind.i64.wrap ((IntKind.i64.wrap ((IntKind.i64.wrap (x1.2 + x2.2)) + x3.2)) + x4.2)) == 0) then (((x2.1).length : Int) == 4) else false) then (bif (x5.Path == [46, 49, 46, 97]) then (bif (x5.Bool == true) then (bif (x5.Low == 0) then (bif (x5.High == 1) then true else false) else false) else false) else false) else false) then (x3.1 == 36) else false) then x6 else false) then x7 else false) = true then types_Check_F fu (ApiType.mk 4 0 0 0 [112, 97, 105, 114] [] []) else some default) >>= fun x8 =>
  some (bif (bif (bif (bif (bif (bif ((IntKind.i64.wrap ((IntKind.i64.wrap ((IntKind.i64.wrap (x1.2 + x2.2)) + x3.2)) + x4.2)) == 0) then (((x2.1).length : Int) == 4) else false) then (bif (x5.Path == [46, 49, 46, 97]) then (bif (x5.Bool == true) then (bif (x5.Low == 0) then (bif (x5.High == 1) then true else false) else false) else false) else false) else false) then (x3.1 == 36) else false) then x6 else false) then x7 else false) then (x8 == 7) else false)
theorem law12_known_le (fu : Nat) : Le (law12_known_F fu ) (law12_known ) := by
  unfold law12_known_F law12_known
  repeat (first | exact Le.rfl | exact types_Expand_le fu _ _ | exact types_Scalars_le fu _ | exact types_Values_le fu _ | exact types_Clamp_le fu _ _ | exact slices_Equal_int_int_le fu _ _ | exact types_Contains_le fu _ _ | exact types_Check_le fu _ | exact X_Itoa_le _ | refine Le.bind ?_ (fun _ => ?_) | refine Le.ite ?_ ?_)
end Go.Proofs.YtonilfkaecbjnaaDoor
