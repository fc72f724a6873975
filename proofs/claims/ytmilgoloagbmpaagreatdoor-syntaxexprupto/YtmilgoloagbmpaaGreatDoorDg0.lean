/- What the functions compute, and that they do: printed by gen.py. -/
import Derived.Test.YtmilgoloagbmpaaGreatDoorDgT
import Derived.Test.YtmilgoloagbmpaaGreatDoorDxX
set_option maxRecDepth 100000
set_option maxHeartbeats 4000000
set_option linter.unusedVariables false
namespace Go.Proofs.YtmilgoloagbmpaaGreatDoor
open Go.Am
def law10_lit (n : Int) : Option ApiExpr :=
  some (ApiExpr.mk 0 n [] [])
abbrev law10_lit_m (n : Int) (res : ApiExpr) : Prop := ACall C 34 [.d (.int .i64 n)] [] (fun x H' => H' = [] ∧ x = .agg (ApiExpr.cells res))
theorem law10_lit_ok {n : Int} {res : ApiExpr} (hh : law10_lit n = some res) : law10_lit_m n res := by
  unfold law10_lit at hh
  refine ACall.intro hC Tryz.func34 rfl rfl rfl ?_
  refine s' rfl rfl (AOps.nf hC rfl (n' (s' rfl rfl (q' rfl (q' rfl (AOps.s hC rfl (n' (re' ?_))))))))
  obtain rfl := oi' hh
  exact ⟨_, _, [], rfl, .rfl, trivial, rfl, rfl, rfl, rfl⟩
def law10_node (o : Int) (kids : List ApiExpr) : Option ApiExpr :=
  some (ApiExpr.mk o 0 [] kids)
abbrev law10_node_m (o : Int) (kids : List ApiExpr) (res : ApiExpr) : Prop := ACall C 33 [.d (.int .i64 o), .d (.sl (ApiExpr.rows kids))] [] (fun x H' => H' = [] ∧ x = .agg (ApiExpr.cells res))
theorem law10_node_ok {o : Int} {kids : List ApiExpr} {res : ApiExpr} (hh : law10_node o kids = some res) : law10_node_m o kids res := by
  unfold law10_node at hh
  refine ACall.intro hC Tryz.func33 rfl rfl rfl ?_
  refine s' rfl rfl (AOps.nf hC rfl (n' (s' rfl rfl (q' rfl (q' rfl (q' rfl (AOps.s hC rfl (n' (re' ?_)))))))))
  obtain rfl := oi' hh
  exact ⟨_, _, [], rfl, .rfl, trivial, rfl, rfl, rfl, rfl⟩
def law10_name (s : Str) : Option ApiExpr :=
  some (ApiExpr.mk 3 0 s [])
abbrev law10_name_m (s : Str) (res : ApiExpr) : Prop := ACall C 35 [.d (.str s)] [] (fun x H' => H' = [] ∧ x = .agg (ApiExpr.cells res))
theorem law10_name_ok {s : Str} {res : ApiExpr} (hh : law10_name s = some res) : law10_name_m s res := by
  unfold law10_name at hh
  refine ACall.intro hC Tryz.func35 rfl rfl rfl ?_
  refine s' rfl rfl (AOps.nf hC rfl (n' (s' rfl rfl (q' rfl (q' rfl (AOps.s hC rfl (n' (re' ?_))))))))
  obtain rfl := oi' hh
  exact ⟨_, _, [], rfl, .rfl, trivial, rfl, rfl, rfl, rfl⟩
def syntax_report_deep (d : Int) (syntaxReport : SyntaxReport) : Option SyntaxReport :=
  some (SyntaxReport.mk syntaxReport.nodes (max syntaxReport.depth d) syntaxReport.badForm syntaxReport.badName syntaxReport.badNumber)
abbrev syntax_report_deep_m (d : Int) (syntaxReport : SyntaxReport) (res : SyntaxReport) : Prop := ACall C 100 [.ref 0 0, .d (.int .i64 d)] [.row (SyntaxReport.cells syntaxReport) 75] (fun x H' => H' = [.row (SyntaxReport.cells res) 75] ∧ x = .tup [])
theorem syntax_report_deep_ok {d : Int} {syntaxReport : SyntaxReport} {res : SyntaxReport} (hh : syntax_report_deep d syntaxReport = some res) : syntax_report_deep_m d syntaxReport res := by
  unfold syntax_report_deep at hh
  refine ACall.intro hC Tryz.func100 rfl rfl rfl ?_
  refine R' rfl rfl (q' rfl (q' rfl (q' rfl (q' rfl (q' rfl (q' rfl (q' rfl (q' rfl (q' rfl (AOps.s hC rfl (n' ?_)))))))))))
  obtain rfl := oi' hh
  exact ⟨_, _, [.row [.d (.int .i64 syntaxReport.nodes), .d (.int .i64 (max syntaxReport.depth d)), .d (.bool syntaxReport.badForm), .d (.bool syntaxReport.badName), .d (.bool syntaxReport.badNumber)] 75], rfl, .rfl, ⟨⟨rfl, .refl _, rfl⟩, trivial⟩, rfl, rfl, rfl, rfl⟩
def syntax_arity_j2 (op : Int) (v9 : Bool) : Option Int :=
  if v9 = true then
    some 1
  else
    if (op == 5) = true then
      some 2
    else
      if (op == 23) = true then
        some 3
      else
        if (bif (decide (op ≥ 8)) then (decide (op ≤ 22)) else false) = true then
          some 2
        else
          some (-1)
abbrev syntax_arity_j2_m (op : Int) (v9 : Bool) (res : Int) : Prop := AEx (Fx.mk C 23 0) (sr (cb (sr (bk (sr (sl (sr (bodyOf Tryz.f102)))))))) (mkEnv [(0, .d (.int .i64 op)), (3, .d (.int .i64 op)), (9, .d (.bool v9))]) [] (Am.InBlock 0 (Am.Then (Fx.mk C 23 0) (sr (sr (bodyOf Tryz.f102))) (Am.Ends (Fx.mk C 23 0) Tryz.f102.results.toList (fun x H' => H' = [] ∧ x = .d (.int .i64 res)))))
theorem syntax_arity_j2_ok {op : Int} {v9 : Bool} {res : Int} (hh : syntax_arity_j2 op v9 = some res) : syntax_arity_j2_m op v9 res := by
  unfold syntax_arity_j2 at hh
  refine ci' rfl hh (fun hh => ?_) (fun hh => ?_)
  · refine s' rfl rfl (q' rfl (n' (re' ?_)))
    obtain rfl := oi' hh
    exact ⟨_, _, [], rfl, .rfl, trivial, rfl, rfl, rfl, rfl⟩
  refine s' rfl rfl (q' rfl (q' rfl (n' ?_)))
  refine ci' rfl hh (fun hh => ?_) (fun hh => ?_)
  · refine s' rfl rfl (q' rfl (n' (re' ?_)))
    obtain rfl := oi' hh
    exact ⟨_, _, [], rfl, .rfl, trivial, rfl, rfl, rfl, rfl⟩
  refine s' rfl rfl (q' rfl (q' rfl (n' ?_)))
  refine ci' rfl hh (fun hh => ?_) (fun hh => ?_)
  · refine s' rfl rfl (q' rfl (n' (re' ?_)))
    obtain rfl := oi' hh
    exact ⟨_, _, [], rfl, .rfl, trivial, rfl, rfl, rfl, rfl⟩
  refine sk' (S' (sg' 6 rfl (a0' rfl (a0' rfl (a0' rfl (a0' rfl (a1' rfl (pa' rfl (an' (n' ?_))))))))))
  refine ci' rfl hh (fun hh => ?_) (fun hh => ?_)
  · refine s' rfl rfl (q' rfl (n' (re' ?_)))
    obtain rfl := oi' hh
    exact ⟨_, _, [], rfl, .rfl, trivial, rfl, rfl, rfl, rfl⟩
  refine sk' (s' rfl rfl (q' rfl (n' (re' ?_))))
  obtain rfl := oi' hh
  exact ⟨_, _, [], rfl, .rfl, trivial, rfl, rfl, rfl, rfl⟩
def syntax_arity_j1 (op : Int) (v4 : Bool) : Option Int :=
  if v4 = true then
    some 0
  else
    if (op == 4) = true then
      syntax_arity_j2 op (op == 4)
    else
      if (op == 6) = true then
        syntax_arity_j2 op (op == 6)
      else
        syntax_arity_j2 op (op == 7)
abbrev syntax_arity_j1_m (op : Int) (v4 : Bool) (res : Int) : Prop := AEx (Fx.mk C 23 0) (sr (bk (sr (sl (sr (bodyOf Tryz.f102)))))) (mkEnv [(0, .d (.int .i64 op)), (3, .d (.int .i64 op)), (4, .d (.bool v4))]) [] (Am.InBlock 0 (Am.Then (Fx.mk C 23 0) (sr (sr (bodyOf Tryz.f102))) (Am.Ends (Fx.mk C 23 0) Tryz.f102.results.toList (fun x H' => H' = [] ∧ x = .d (.int .i64 res)))))
theorem syntax_arity_j1_ok {op : Int} {v4 : Bool} {res : Int} (hh : syntax_arity_j1 op v4 = some res) : syntax_arity_j1_m op v4 res := by
  unfold syntax_arity_j1 at hh
  refine ci' rfl hh (fun hh => ?_) (fun hh => ?_)
  · refine s' rfl rfl (q' rfl (n' (re' ?_)))
    obtain rfl := oi' hh
    exact ⟨_, _, [], rfl, .rfl, trivial, rfl, rfl, rfl, rfl⟩
  refine S' (s' rfl rfl (q' rfl (q' rfl (n' ?_))))
  refine ci' rfl hh (fun hh => ?_) (fun hh => ?_)
  · refine sk' ?_
    refine AEx.wk ?_ (syntax_arity_j2_ok hh)
    exact ⟨⟨⟨.rfl, rfl⟩, ⟨⟨.rfl, rfl⟩, ⟨⟨.rfl, rfl⟩, trivial⟩⟩⟩, trivial, rfl⟩
  refine s' rfl rfl (q' rfl (q' rfl (n' ?_)))
  refine ci' rfl hh (fun hh => ?_) (fun hh => ?_)
  · refine sk' ?_
    refine AEx.wk ?_ (syntax_arity_j2_ok hh)
    exact ⟨⟨⟨.rfl, rfl⟩, ⟨⟨.rfl, rfl⟩, ⟨⟨.rfl, rfl⟩, trivial⟩⟩⟩, trivial, rfl⟩
  refine R' rfl rfl (q' rfl (q' rfl (n' ?_)))
  refine AEx.wk ?_ (syntax_arity_j2_ok hh)
  exact ⟨⟨⟨.rfl, rfl⟩, ⟨⟨.rfl, rfl⟩, ⟨⟨.rfl, rfl⟩, trivial⟩⟩⟩, trivial, rfl⟩
def syntax_arity (op : Int) : Option Int :=
  if (op == 0) = true then
    syntax_arity_j1 op (op == 0)
  else
    if (op == 1) = true then
      syntax_arity_j1 op (op == 1)
    else
      if (op == 2) = true then
        syntax_arity_j1 op (op == 2)
      else
        syntax_arity_j1 op (op == 3)
abbrev syntax_arity_m (op : Int) (res : Int) : Prop := ACall C 102 [.d (.int .i64 op)] [] (fun x H' => H' = [] ∧ x = .d (.int .i64 res))
theorem syntax_arity_ok {op : Int} {res : Int} (hh : syntax_arity op = some res) : syntax_arity_m op res := by
  unfold syntax_arity at hh
  refine ACall.intro hC Tryz.func102 rfl rfl rfl ?_
  refine s' rfl rfl (q' rfl (n' (S' (s' rfl rfl (q' rfl (n' (AEx.block (S' (s' rfl rfl (q' rfl (q' rfl (n' ?_))))))))))))
  refine ci' rfl hh (fun hh => ?_) (fun hh => ?_)
  · refine sk' ?_
    refine AEx.wk ?_ (syntax_arity_j1_ok hh)
    exact ⟨⟨⟨.rfl, rfl⟩, ⟨⟨.rfl, rfl⟩, ⟨⟨.rfl, rfl⟩, trivial⟩⟩⟩, trivial, rfl⟩
  refine s' rfl rfl (q' rfl (q' rfl (n' ?_)))
  refine ci' rfl hh (fun hh => ?_) (fun hh => ?_)
  · refine sk' ?_
    refine AEx.wk ?_ (syntax_arity_j1_ok hh)
    exact ⟨⟨⟨.rfl, rfl⟩, ⟨⟨.rfl, rfl⟩, ⟨⟨.rfl, rfl⟩, trivial⟩⟩⟩, trivial, rfl⟩
  refine s' rfl rfl (q' rfl (q' rfl (n' ?_)))
  refine ci' rfl hh (fun hh => ?_) (fun hh => ?_)
  · refine sk' ?_
    refine AEx.wk ?_ (syntax_arity_j1_ok hh)
    exact ⟨⟨⟨.rfl, rfl⟩, ⟨⟨.rfl, rfl⟩, ⟨⟨.rfl, rfl⟩, trivial⟩⟩⟩, trivial, rfl⟩
  refine R' rfl rfl (q' rfl (q' rfl (n' ?_)))
  refine AEx.wk ?_ (syntax_arity_j1_ok hh)
  exact ⟨⟨⟨.rfl, rfl⟩, ⟨⟨.rfl, rfl⟩, ⟨⟨.rfl, rfl⟩, trivial⟩⟩⟩, trivial, rfl⟩
def syntax_report_form (ok : Bool) (syntaxReport : SyntaxReport) : Option SyntaxReport :=
  some (SyntaxReport.mk syntaxReport.nodes syntaxReport.depth (bif syntaxReport.badForm then true else (!ok)) syntaxReport.badName syntaxReport.badNumber)
abbrev syntax_report_form_m (ok : Bool) (syntaxReport : SyntaxReport) (res : SyntaxReport) : Prop := ACall C 101 [.ref 0 0, .d (.bool ok)] [.row (SyntaxReport.cells syntaxReport) 75] (fun x H' => H' = [.row (SyntaxReport.cells res) 75] ∧ x = .tup [])
theorem syntax_report_form_ok {ok : Bool} {syntaxReport : SyntaxReport} {res : SyntaxReport} (hh : syntax_report_form ok syntaxReport = some res) : syntax_report_form_m ok syntaxReport res := by
  unfold syntax_report_form at hh
  refine ACall.intro hC Tryz.func101 rfl rfl rfl ?_
  refine AEx.regionG 11 rfl (a0' rfl (a0' rfl (a0' rfl (a0' rfl (a0' rfl (a0' rfl (a0' rfl (a1' rfl (po' rfl (a0' rfl (a0' rfl (an' (AOps.s hC rfl ?_)))))))))))))
  refine n' ?_
  obtain rfl := oi' hh
  exact ⟨_, _, [.row [.d (.int .i64 syntaxReport.nodes), .d (.int .i64 syntaxReport.depth), .d (.bool (bif syntaxReport.badForm then true else (!ok))), .d (.bool syntaxReport.badName), .d (.bool syntaxReport.badNumber)] 75], rfl, .rfl, ⟨⟨rfl, .refl _, rfl⟩, trivial⟩, rfl, rfl, rfl, rfl⟩
def syntax_place_l1 (o0 : ApiExpr) : Option Bool :=
  if (bif (o0.Op == 4) then true else (o0.Op == 5)) = true then
    if (((o0.Kids).length : Int) == 0) = true then
      some false
    else
      idx o0.Kids 0 >>= fun x1 =>
      syntax_place_l1 x1
  else
    some (o0.Op == 3)
  partial_fixpoint
abbrev syntax_place_l1_m (o0 : ApiExpr) (res : Bool) : Prop := ALoop (Fx.mk C 22 0) (lo (bk (sl (sr (bodyOf Tryz.f103))))) (mkEnv [(1, .ref 0 0)]) [.row (ApiExpr.cells o0) 36] (Am.InBlock 0 (Am.Then (Fx.mk C 22 0) (sr (sr (bodyOf Tryz.f103))) (Am.Ends (Fx.mk C 22 0) Tryz.f103.results.toList (fun x H' => H' = [] ∧ x = .d (.bool res)))))
theorem syntax_place_l1_grp : (∀ (o0 : ApiExpr) (res : Bool), syntax_place_l1 o0 = some res → syntax_place_l1_m o0 res) := by
  refine syntax_place_l1.partial_correctness (fun o0 res => syntax_place_l1_m o0 res) ?_
  · intro g0 ih0 o0 res hh
    refine ALoop.unroll ?_
    refine S' (sg' 8 rfl (a0' rfl (a0' rfl (a0' rfl (a0' rfl (a0' rfl (a1' rfl (a1' rfl (po' rfl (an' (n' ?_)))))))))))
    refine ci' rfl hh (fun hh => ?_) (fun hh => ?_)
    · refine sk' (AEx.block (S' (s' rfl rfl (q' rfl (q' rfl (qe' rfl trivial (ApiExpr.lenA _) (q' rfl (n' ?_))))))))
      refine ci' rfl hh (fun hh => ?_) (fun hh => ?_)
      · refine s' rfl rfl (q' rfl (n' (re' ?_)))
        obtain rfl := oi' hh
        exact ⟨_, _, [], rfl, .rfl, trivial, rfl, rfl, rfl, rfl⟩
      obtain ⟨x1, hx1, hh⟩ := bs' hh
      refine sk' (R' rfl rfl (q' rfl (q' rfl (i' rfl (idx_nat hx1) (ApiExpr.idx hx1) rfl (q' rfl (AOps.s hC rfl (n' ?_)))))))
      refine ALoop.wk ?_ (ih0 _ _ hh)
      exact ⟨⟨⟨.rfl, rfl⟩, trivial⟩, ⟨⟨rfl, .refl _, rfl⟩, trivial⟩, rfl⟩
    refine ex' (s' rfl rfl (q' rfl (q' rfl (q' rfl (q' rfl (n' (re' ?_)))))))
    obtain rfl := oi' hh
    exact ⟨_, _, [], rfl, .rfl, trivial, rfl, rfl, rfl, rfl⟩
theorem syntax_place_l1_ok {o0 : ApiExpr} {res : Bool} (hh : syntax_place_l1 o0 = some res) : syntax_place_l1_m o0 res := (syntax_place_l1_grp) _ _ hh
def syntax_place (e : ApiExpr) : Option Bool :=
  syntax_place_l1 e
abbrev syntax_place_m (e : ApiExpr) (res : Bool) : Prop := ACall C 103 [.agg (ApiExpr.cells e)] [] (fun x H' => H' = [] ∧ x = .d (.bool res))
theorem syntax_place_ok {e : ApiExpr} {res : Bool} (hh : syntax_place e = some res) : syntax_place_m e res := by
  unfold syntax_place at hh
  refine ACall.intro hC Tryz.func103 rfl rfl rfl ?_
  refine s' rfl rfl (AOps.n hC rfl (q' rfl (n' (S' (AEx.block ?_)))))
  refine AEx.ofLoop ?_
  refine ALoop.wk ?_ (syntax_place_l1_ok hh)
  exact ⟨⟨⟨.rfl, rfl⟩, trivial⟩, ⟨⟨rfl, .refl _, rfl⟩, trivial⟩, rfl⟩
def lexer_isLetter (c : Int) : Option Bool :=
  some (bif (decide (c ≥ 97)) then (decide (c ≤ 122)) else false)
abbrev lexer_isLetter_m (c : Int) (res : Bool) : Prop := ACall C 182 [.d (.int .u8 c)] [] (fun x H' => H' = [] ∧ x = .d (.bool res))
theorem lexer_isLetter_ok {c : Int} {res : Bool} (hh : lexer_isLetter c = some res) : lexer_isLetter_m c res := by
  unfold lexer_isLetter at hh
  refine ACall.intro hC Tryz.func182 rfl rfl rfl ?_
  refine s' rfl rfl (q' rfl (n' (sg' 7 rfl (a0' rfl (a0' rfl (a0' rfl (a0' rfl (a1' rfl (pa' rfl (a0' rfl (an' (n' (re' ?_)))))))))))))
  obtain rfl := oi' hh
  exact ⟨_, _, [], rfl, .rfl, trivial, rfl, rfl, rfl, rfl⟩
def lexer_isDigit (c : Int) : Option Bool :=
  some (bif (decide (c ≥ 48)) then (decide (c ≤ 57)) else false)
abbrev lexer_isDigit_m (c : Int) (res : Bool) : Prop := ACall C 183 [.d (.int .u8 c)] [] (fun x H' => H' = [] ∧ x = .d (.bool res))
theorem lexer_isDigit_ok {c : Int} {res : Bool} (hh : lexer_isDigit c = some res) : lexer_isDigit_m c res := by
  unfold lexer_isDigit at hh
  refine ACall.intro hC Tryz.func183 rfl rfl rfl ?_
  refine s' rfl rfl (q' rfl (n' (sg' 7 rfl (a0' rfl (a0' rfl (a0' rfl (a0' rfl (a1' rfl (pa' rfl (a0' rfl (an' (n' (re' ?_)))))))))))))
  obtain rfl := oi' hh
  exact ⟨_, _, [], rfl, .rfl, trivial, rfl, rfl, rfl, rfl⟩
def lexer_isWord_l1 (s : Str) (v6 : Int) : Option Bool :=
  if (decide (v6 < ((s).length : Int))) = true then
    idx s v6 >>= fun x1 =>
    lexer_isLetter (x1.toNat : Int) >>= fun x2 =>
    (if ((!x2) && (!(v6 == 0))) = true then idx s v6 else some default) >>= fun x3 =>
    (if ((!x2) && (!(v6 == 0))) = true then lexer_isDigit (x3.toNat : Int) else some default) >>= fun x4 =>
    if (bif (!x2) then (bif (v6 == 0) then true else (!x4)) else false) = true then
      some false
    else
      lexer_isWord_l1 s (IntKind.i64.wrap (v6 + 1))
  else
    some (!(s == []))
  partial_fixpoint
abbrev lexer_isWord_l1_m (s : Str) (v6 : Int) (res : Bool) : Prop := ALoop (Fx.mk C 28 0) (lo (bk (sr (sl (sr (bodyOf Tryz.f160)))))) (mkEnv [(0, .d (.str s)), (5, .d (.int .i64 ((s).length : Int))), (6, .d (.int .i64 v6))]) [] (Am.InBlock 0 (Am.Then (Fx.mk C 28 0) (sr (sr (bodyOf Tryz.f160))) (Am.Ends (Fx.mk C 28 0) Tryz.f160.results.toList (fun x H' => H' = [] ∧ x = .d (.bool res)))))
theorem lexer_isWord_l1_grp (s : Str) : (∀ (v6 : Int) (res : Bool), lexer_isWord_l1 s v6 = some res → lexer_isWord_l1_m s v6 res) := by
  refine lexer_isWord_l1.partial_correctness s
    (fun v6 res => lexer_isWord_l1_m s v6 res) ?_
  · intro g0 ih0 v6 res hh
    refine ALoop.unroll ?_
    refine s' rfl rfl (q' rfl (n' (S' ?_)))
    refine ci' rfl hh (fun hh => ?_) (fun hh => ?_)
    · obtain ⟨x1, hx1, hh⟩ := bs' hh
      obtain ⟨x2, hx2, hh⟩ := bs' hh
      obtain ⟨x3, hx3, hh⟩ := bs' hh
      obtain ⟨x4, hx4, hh⟩ := bs' hh
      refine sk' (S' (AEx.block (s' rfl rfl (q' rfl (q' rfl (n' (sg' 16 rfl (a0' rfl (a0' rfl (AG.x hC rfl rfl (fun _ => trivial) (fun hw => ⟨idx_nat hx1, idx_get hx1⟩) (AG.c rfl rfl (fun _ => trivial) (fun _ => lexer_isLetter_ok hx2) (a0' rfl (a0' rfl ?_)))))))))))))
      refine a0' rfl (a1' rfl (a1' rfl (a0' rfl (a0' rfl (AG.x hC rfl rfl (fun hg => ⟨hg, hg, trivial⟩) (fun hw => ⟨idx_nat (if_t hw hx3), idx_get (if_t hw hx3)⟩) (AG.c rfl rfl (fun hg => ⟨hg, trivial⟩) (fun hw => lexer_isDigit_ok (if_t hw hx4)) (a1' rfl (pO' rfl (pa' rfl (an' (n' ?_)))))))))))
      refine ci' rfl hh (fun hh => ?_) (fun hh => ?_)
      · refine s' rfl rfl (q' rfl (n' (re' ?_)))
        obtain rfl := oi' hh
        exact ⟨_, _, [], rfl, .rfl, trivial, rfl, rfl, rfl, rfl⟩
      refine sk' (R' rfl rfl (q' rfl (q' rfl (n' ?_))))
      refine ALoop.wk ?_ (ih0 _ _ hh)
      exact ⟨⟨⟨.rfl, rfl⟩, ⟨⟨.rfl, rfl⟩, ⟨⟨.rfl, rfl⟩, trivial⟩⟩⟩, trivial, rfl⟩
    refine ex' (s' rfl rfl (q' rfl (q' rfl (q' rfl (n' (re' ?_))))))
    obtain rfl := oi' hh
    exact ⟨_, _, [], rfl, .rfl, trivial, rfl, rfl, rfl, rfl⟩
theorem lexer_isWord_l1_ok {s : Str} {v6 : Int} {res : Bool} (hh : lexer_isWord_l1 s v6 = some res) : lexer_isWord_l1_m s v6 res := (lexer_isWord_l1_grp s) _ _ hh
def lexer_isWord (s : Str) : Option Bool :=
  lexer_isWord_l1 s 0
abbrev lexer_isWord_m (s : Str) (res : Bool) : Prop := ACall C 160 [.d (.str s)] [] (fun x H' => H' = [] ∧ x = .d (.bool res))
theorem lexer_isWord_ok {s : Str} {res : Bool} (hh : lexer_isWord s = some res) : lexer_isWord_m s res := by
  unfold lexer_isWord at hh
  refine ACall.intro hC Tryz.func160 rfl rfl rfl ?_
  refine s' rfl rfl (q' rfl (n' (S' (s' rfl rfl (q' rfl (q' rfl (q' rfl (n' (AEx.block ?_)))))))))
  refine AEx.ofLoop ?_
  refine ALoop.wk ?_ (lexer_isWord_l1_ok hh)
  exact ⟨⟨⟨.rfl, rfl⟩, ⟨⟨.rfl, rfl⟩, ⟨⟨.rfl, rfl⟩, trivial⟩⟩⟩, trivial, rfl⟩
def lexer_Reserved (word : Str) : Option Bool :=
  (if (!(word == [])) = true then X_Contains word [32] else some default) >>= fun x1 =>
  if (!(bif (!(word == [])) then (!x1) else false) || (decide (1 + word.length ≤ maxLen))) = true then
    if (!(bif (!(word == [])) then (!x1) else false) || (decide (([32] ++ word).length + 1 ≤ maxLen))) = true then
      (if (bif (!(word == [])) then (!x1) else false) = true then X_Contains [32, 116, 121, 112, 101, 32, 115, 101, 99, 114, 101, 116, 32, 112, 117, 98, 108, 105, 99, 32, 114, 97, 110, 100, 111, 109, 32, 118, 97, 114, 32, 104, 97, 116, 99, 104, 32, 102, 117, 110, 99, 32, 114, 101, 116, 117, 114, 110, 32, 98, 101, 103, 105, 110, 32, 101, 110, 100, 32, 98, 111, 111, 108, 32, 105, 110, 116, 32, 97, 114, 114, 97, 121, 32, 111, 102, 32, 114, 101, 99, 111, 114, 100, 32, 116, 114, 117, 101, 32, 102, 97, 108, 115, 101, 32, 99, 97, 108, 108, 32, 114, 101, 108, 101, 97, 115, 101, 32, 111, 117, 116, 112, 117, 116, 32, 119, 97, 105, 116, 32, 105, 102, 32, 101, 108, 115, 101, 32, 119, 104, 105, 108, 101, 32, 108, 105, 109, 105, 116, 32, 102, 111, 114, 32, 116, 111, 32, 115, 101, 116, 116, 108, 101, 32, 109, 105, 110, 32, 109, 97, 120, 32] (([32] ++ word) ++ [32]) else some default) >>= fun x2 =>
      some (bif (bif (!(word == [])) then (!x1) else false) then x2 else false)
    else none
  else none
abbrev lexer_Reserved_m (word : Str) (res : Bool) : Prop := ACall C 161 [.d (.str word)] [] (fun x H' => H' = [] ∧ x = .d (.bool res))
theorem lexer_Reserved_ok {word : Str} {res : Bool} (hh : lexer_Reserved word = some res) : lexer_Reserved_m word res := by
  unfold lexer_Reserved at hh
  refine ACall.intro hC Tryz.func161 rfl rfl rfl ?_
  obtain ⟨x1, hx1, hh⟩ := bs' hh
  obtain ⟨c7, hh⟩ := asrt_imp hh
  obtain ⟨c8, hh⟩ := asrt_imp hh
  obtain ⟨x2, hx2, hh⟩ := bs' hh
  refine s' rfl rfl (q' rfl (n' (sg' 14 rfl (a0' rfl (a0' rfl (a0' rfl (a0' rfl (AG.c rfl rfl (fun hg => ⟨hg, trivial⟩) (fun hw => X_Contains_ok (if_t hw hx1)) (a1' rfl (pa' rfl (a0' rfl (a0' rfl (ag' rfl (fun hg => ⟨⟨hg, trivial⟩, (c7 hg)⟩) ?_)))))))))))))
  refine ag' rfl (fun hg => ⟨⟨hg, trivial⟩, (c8 hg)⟩) (AG.c rfl rfl (fun hg => ⟨hg, trivial⟩) (fun hw => X_Contains_ok (if_t hw hx2)) (pa' rfl (a0' rfl (an' (n' (re' ?_))))))
  obtain rfl := oi' hh
  exact ⟨_, _, [], rfl, .rfl, trivial, rfl, rfl, rfl, rfl⟩
def lexer_IsName (s : Str) : Option Bool :=
  (if (decide (((s).length : Int) ≤ 12)) = true then lexer_isWord s else some default) >>= fun x1 =>
  (if (bif (decide (((s).length : Int) ≤ 12)) then x1 else false) = true then lexer_Reserved s else some default) >>= fun x2 =>
  some (bif (bif (decide (((s).length : Int) ≤ 12)) then x1 else false) then (!x2) else false)
abbrev lexer_IsName_m (s : Str) (res : Bool) : Prop := ACall C 130 [.d (.str s)] [] (fun x H' => H' = [] ∧ x = .d (.bool res))
theorem lexer_IsName_ok {s : Str} {res : Bool} (hh : lexer_IsName s = some res) : lexer_IsName_m s res := by
  unfold lexer_IsName at hh
  refine ACall.intro hC Tryz.func130 rfl rfl rfl ?_
  obtain ⟨x1, hx1, hh⟩ := bs' hh
  obtain ⟨x2, hx2, hh⟩ := bs' hh
  refine s' rfl rfl (q' rfl (n' (sg' 13 rfl (a0' rfl (a0' rfl (a0' rfl (a0' rfl (a0' rfl (AG.c rfl rfl (fun hg => ⟨hg, trivial⟩) (fun hw => lexer_isWord_ok (if_t hw hx1)) (pa' rfl (a0' rfl (a0' rfl (AG.c rfl rfl (fun hg => ⟨hg, trivial⟩) (fun hw => lexer_Reserved_ok (if_t hw hx2)) ?_)))))))))))))
  refine a1' rfl (pa' rfl (a0' rfl (an' (n' (re' ?_)))))
  obtain rfl := oi' hh
  exact ⟨_, _, [], rfl, .rfl, trivial, rfl, rfl, rfl, rfl⟩
def syntax_IsName (s : Str) : Option Bool :=
  lexer_IsName s >>= fun x1 =>
  some x1
abbrev syntax_IsName_m (s : Str) (res : Bool) : Prop := ACall C 68 [.d (.str s)] [] (fun x H' => H' = [] ∧ x = .d (.bool res))
theorem syntax_IsName_ok {s : Str} {res : Bool} (hh : syntax_IsName s = some res) : syntax_IsName_m s res := by
  unfold syntax_IsName at hh
  refine ACall.intro hC Tryz.func68 rfl rfl rfl ?_
  obtain ⟨x1, hx1, hh⟩ := bs' hh
  refine s' rfl rfl (q' rfl (n' (s' rfl rfl (q' rfl (AOps.c rfl rfl (lexer_IsName_ok hx1) (q' rfl (n' (re' ?_))))))))
  obtain rfl := oi' hh
  exact ⟨_, _, [], rfl, .rfl, trivial, rfl, rfl, rfl, rfl⟩
def syntax_report_name (s : Str) (syntaxReport : SyntaxReport) : Option SyntaxReport :=
  (if (!syntaxReport.badName) = true then syntax_IsName s else some default) >>= fun x1 =>
  some (SyntaxReport.mk syntaxReport.nodes syntaxReport.depth syntaxReport.badForm (bif syntaxReport.badName then true else (!x1)) syntaxReport.badNumber)
abbrev syntax_report_name_m (s : Str) (syntaxReport : SyntaxReport) (res : SyntaxReport) : Prop := ACall C 104 [.ref 0 0, .d (.str s)] [.row (SyntaxReport.cells syntaxReport) 75] (fun x H' => H' = [.row (SyntaxReport.cells res) 75] ∧ x = .tup [])
theorem syntax_report_name_ok {s : Str} {syntaxReport : SyntaxReport} {res : SyntaxReport} (hh : syntax_report_name s syntaxReport = some res) : syntax_report_name_m s syntaxReport res := by
  unfold syntax_report_name at hh
  refine ACall.intro hC Tryz.func104 rfl rfl rfl ?_
  obtain ⟨x1, hx1, hh⟩ := bs' hh
  refine AEx.regionG 12 rfl (a0' rfl (a0' rfl (a0' rfl (a0' rfl (a0' rfl (a0' rfl (a0' rfl (AG.c rfl rfl (fun hg => ⟨hg, trivial⟩) (fun hw => syntax_IsName_ok (if_t hw hx1)) (a1' rfl (po' rfl (a0' rfl (a0' rfl (an' ?_)))))))))))))
  refine AOps.s hC rfl (n' ?_)
  obtain rfl := oi' hh
  exact ⟨_, _, [.row [.d (.int .i64 syntaxReport.nodes), .d (.int .i64 syntaxReport.depth), .d (.bool syntaxReport.badForm), .d (.bool (bif syntaxReport.badName then true else (!x1))), .d (.bool syntaxReport.badNumber)] 75], rfl, .rfl, ⟨⟨rfl, .refl _, rfl⟩, trivial⟩, rfl, rfl, rfl, rfl⟩
def syntax_inside (n : Int) (low : Int) (high : Int) : Option Bool :=
  some (bif (decide (n ≥ low)) then (decide (n ≤ high)) else false)
abbrev syntax_inside_m (n : Int) (low : Int) (high : Int) (res : Bool) : Prop := ACall C 106 [.d (.int .i64 n), .d (.int .i64 low), .d (.int .i64 high)] [] (fun x H' => H' = [] ∧ x = .d (.bool res))
theorem syntax_inside_ok {n : Int} {low : Int} {high : Int} {res : Bool} (hh : syntax_inside n low high = some res) : syntax_inside_m n low high res := by
  unfold syntax_inside at hh
  refine ACall.intro hC Tryz.func106 rfl rfl rfl ?_
  refine s' rfl rfl (q' rfl (n' (sg' 9 rfl (a0' rfl (a0' rfl (a0' rfl (a0' rfl (a0' rfl (a0' rfl (a2' rfl (pa' rfl (a0' rfl (an' ?_)))))))))))))
  refine n' (re' ?_)
  obtain rfl := oi' hh
  exact ⟨_, _, [], rfl, .rfl, trivial, rfl, rfl, rfl, rfl⟩
def syntax_report_number (ok : Bool) (syntaxReport : SyntaxReport) : Option SyntaxReport :=
  some (SyntaxReport.mk syntaxReport.nodes syntaxReport.depth syntaxReport.badForm syntaxReport.badName (bif syntaxReport.badNumber then true else (!ok)))
abbrev syntax_report_number_m (ok : Bool) (syntaxReport : SyntaxReport) (res : SyntaxReport) : Prop := ACall C 105 [.ref 0 0, .d (.bool ok)] [.row (SyntaxReport.cells syntaxReport) 75] (fun x H' => H' = [.row (SyntaxReport.cells res) 75] ∧ x = .tup [])
theorem syntax_report_number_ok {ok : Bool} {syntaxReport : SyntaxReport} {res : SyntaxReport} (hh : syntax_report_number ok syntaxReport = some res) : syntax_report_number_m ok syntaxReport res := by
  unfold syntax_report_number at hh
  refine ACall.intro hC Tryz.func105 rfl rfl rfl ?_
  refine AEx.regionG 11 rfl (a0' rfl (a0' rfl (a0' rfl (a0' rfl (a0' rfl (a0' rfl (a0' rfl (a1' rfl (po' rfl (a0' rfl (a0' rfl (an' (AOps.s hC rfl ?_)))))))))))))
  refine n' ?_
  obtain rfl := oi' hh
  exact ⟨_, _, [.row [.d (.int .i64 syntaxReport.nodes), .d (.int .i64 syntaxReport.depth), .d (.bool syntaxReport.badForm), .d (.bool syntaxReport.badName), .d (.bool (bif syntaxReport.badNumber then true else (!ok)))] 75], rfl, .rfl, ⟨⟨rfl, .refl _, rfl⟩, trivial⟩, rfl, rfl, rfl, rfl⟩
mutual
def syntax_report_expr (e : ApiExpr) (depth : Int) (syntaxReport : SyntaxReport) : Option SyntaxReport :=
  syntax_report_deep depth (SyntaxReport.mk (IntKind.i64.wrap (syntaxReport.nodes + 1)) syntaxReport.depth syntaxReport.badForm syntaxReport.badName syntaxReport.badNumber) >>= fun x1 =>
  syntax_arity e.Op >>= fun x2 =>
  syntax_report_form (x2 == ((e.Kids).length : Int)) x1 >>= fun x3 =>
  syntax_report_form (bif (e.NV == 0) then true else (e.Op == 0)) x3 >>= fun x4 =>
  syntax_report_form (bif (e.Name == []) then true else (bif (e.Op == 3) then true else (e.Op == 4))) x4 >>= fun x5 =>
  if (bif (e.Op == 4) then true else (e.Op == 5)) = true then
    syntax_place e >>= fun x6 =>
    syntax_report_form x6 x5 >>= fun x7 =>
    syntax_report_expr_j1 e depth x7
  else
    syntax_report_expr_j1 e depth x5
  partial_fixpoint
def syntax_report_expr_j1 (e : ApiExpr) (depth : Int) (o0 : SyntaxReport) : Option SyntaxReport :=
  if (bif (e.Op == 3) then true else (e.Op == 4)) = true then
    syntax_report_name e.Name o0 >>= fun x8 =>
    syntax_report_expr_j2 e depth x8
  else
    syntax_report_expr_j2 e depth o0
  partial_fixpoint
def syntax_report_expr_j2 (e : ApiExpr) (depth : Int) (o01 : SyntaxReport) : Option SyntaxReport :=
  if (e.Op == 0) = true then
    syntax_inside e.NV 0 1048576 >>= fun x9 =>
    syntax_report_number x9 o01 >>= fun x10 =>
    syntax_report_expr_j3 e depth x10
  else
    syntax_report_expr_j3 e depth o01
  partial_fixpoint
def syntax_report_expr_j3 (e : ApiExpr) (depth : Int) (o02 : SyntaxReport) : Option SyntaxReport :=
  syntax_report_expr_l4 e depth o02 0
  partial_fixpoint
def syntax_report_expr_l4 (e : ApiExpr) (depth : Int) (o03 : SyntaxReport) (v82 : Int) : Option SyntaxReport :=
  if (decide (v82 < ((e.Kids).length : Int))) = true then
    idx e.Kids v82 >>= fun x11 =>
    syntax_report_expr x11 (IntKind.i64.wrap (depth + 1)) o03 >>= fun x12 =>
    syntax_report_expr_l4 e depth x12 (IntKind.i64.wrap (v82 + 1))
  else
    some o03
  partial_fixpoint
end
abbrev syntax_report_expr_m (e : ApiExpr) (depth : Int) (syntaxReport : SyntaxReport) (res : SyntaxReport) : Prop := ACall C 47 [.ref 0 0, .agg (ApiExpr.cells e), .d (.int .i64 depth)] [.row (SyntaxReport.cells syntaxReport) 75] (fun x H' => H' = [.row (SyntaxReport.cells res) 75] ∧ x = .tup [])
abbrev syntax_report_expr_j1_m (e : ApiExpr) (depth : Int) (o0 : SyntaxReport) (res : SyntaxReport) : Prop := AEx (Fx.mk C 92 1) (sr (sr (sr (sr (sr (sr (sr (sr (bodyOf Tryz.f47))))))))) (mkEnv [(0, .ref 0 0), (2, .d (.int .i64 depth)), (4, .ref 1 0), (6, .d (.bool (bif (e.Op == 3) then true else (e.Op == 4))))]) [.row (SyntaxReport.cells o0) 75, .row (ApiExpr.cells e) 36] (Am.Ends (Fx.mk C 92 1) Tryz.f47.results.toList (fun x H' => H' = [.row (SyntaxReport.cells res) 75] ∧ x = .tup []))
abbrev syntax_report_expr_j2_m (e : ApiExpr) (depth : Int) (o01 : SyntaxReport) (res : SyntaxReport) : Prop := AEx (Fx.mk C 92 1) (sr (sr (sr (sr (sr (sr (sr (sr (sr (bodyOf Tryz.f47)))))))))) (mkEnv [(0, .ref 0 0), (2, .d (.int .i64 depth)), (4, .ref 1 0)]) [.row (SyntaxReport.cells o01) 75, .row (ApiExpr.cells e) 36] (Am.Ends (Fx.mk C 92 1) Tryz.f47.results.toList (fun x H' => H' = [.row (SyntaxReport.cells res) 75] ∧ x = .tup []))
abbrev syntax_report_expr_j3_m (e : ApiExpr) (depth : Int) (o02 : SyntaxReport) (res : SyntaxReport) : Prop := AEx (Fx.mk C 92 1) (sr (sr (sr (sr (sr (sr (sr (sr (sr (sr (bodyOf Tryz.f47))))))))))) (mkEnv [(0, .ref 0 0), (2, .d (.int .i64 depth)), (4, .ref 1 0)]) [.row (SyntaxReport.cells o02) 75, .row (ApiExpr.cells e) 36] (Am.Ends (Fx.mk C 92 1) Tryz.f47.results.toList (fun x H' => H' = [.row (SyntaxReport.cells res) 75] ∧ x = .tup []))
abbrev syntax_report_expr_l4_m (e : ApiExpr) (depth : Int) (o03 : SyntaxReport) (v82 : Int) (res : SyntaxReport) : Prop := ALoop (Fx.mk C 92 1) (lo (bk (sr (sr (sr (sr (sr (sr (sr (sr (sr (sr (sr (bodyOf Tryz.f47)))))))))))))) (mkEnv [(0, .ref 0 0), (2, .d (.int .i64 depth)), (80, .d (.sl (ApiExpr.rows e.Kids))), (81, .d (.int .i64 ((e.Kids).length : Int))), (82, .d (.int .i64 v82))]) [.row (SyntaxReport.cells o03) 75] (Am.InBlock 0 (Am.Ends (Fx.mk C 92 1) Tryz.f47.results.toList (fun x H' => H' = [.row (SyntaxReport.cells res) 75] ∧ x = .tup [])))
theorem syntax_report_expr_grp : (∀ (e : ApiExpr) (depth : Int) (syntaxReport : SyntaxReport) (res : SyntaxReport), syntax_report_expr e depth syntaxReport = some res → syntax_report_expr_m e depth syntaxReport res) ∧
    (∀ (e : ApiExpr) (depth : Int) (o0 : SyntaxReport) (res : SyntaxReport), syntax_report_expr_j1 e depth o0 = some res → syntax_report_expr_j1_m e depth o0 res) ∧
    (∀ (e : ApiExpr) (depth : Int) (o01 : SyntaxReport) (res : SyntaxReport), syntax_report_expr_j2 e depth o01 = some res → syntax_report_expr_j2_m e depth o01 res) ∧
    (∀ (e : ApiExpr) (depth : Int) (o02 : SyntaxReport) (res : SyntaxReport), syntax_report_expr_j3 e depth o02 = some res → syntax_report_expr_j3_m e depth o02 res) ∧
    (∀ (e : ApiExpr) (depth : Int) (o03 : SyntaxReport) (v82 : Int) (res : SyntaxReport), syntax_report_expr_l4 e depth o03 v82 = some res → syntax_report_expr_l4_m e depth o03 v82 res) := by
  refine syntax_report_expr.mutual_partial_correctness (fun e depth syntaxReport res => syntax_report_expr_m e depth syntaxReport res)
    (fun e depth o0 res => syntax_report_expr_j1_m e depth o0 res)
    (fun e depth o01 res => syntax_report_expr_j2_m e depth o01 res)
    (fun e depth o02 res => syntax_report_expr_j3_m e depth o02 res)
    (fun e depth o03 v82 res => syntax_report_expr_l4_m e depth o03 v82 res) ?_ ?_ ?_ ?_ ?_
  · intro g1 ih1 e depth syntaxReport res hh
    refine ACall.intro hC Tryz.func47 rfl rfl rfl ?_
    obtain ⟨x1, hx1, hh⟩ := bs' hh
    obtain ⟨x2, hx2, hh⟩ := bs' hh
    obtain ⟨x3, hx3, hh⟩ := bs' hh
    obtain ⟨x4, hx4, hh⟩ := bs' hh
    obtain ⟨x5, hx5, hh⟩ := bs' hh
    refine s' rfl rfl (AOps.n hC rfl (n' (s' rfl rfl (q' rfl (q' rfl (q' rfl (q' rfl (q' rfl (q' rfl (q' rfl (AOps.s hC rfl (n' (s' rfl rfl ?_)))))))))))))
    refine q' rfl (q' rfl (AOps.g [0] rfl (syntax_report_deep_ok hx1) ⟨.rfl, ⟨.rfl, trivial⟩⟩ rfl ⟨rfl, trivial⟩ rfl rfl (n' (S' (AEx.draw hC 8 rfl rfl rfl (Q' rfl (Q' rfl (Q' rfl (AQ.c rfl rfl (syntax_arity_ok hx2) (Q' rfl (Q' rfl (AQ.qe hC rfl trivial (ApiExpr.lenA _) (Q' rfl ?_)))))))))))))
    refine Qn' (AOps.g [0] rfl (syntax_report_form_ok hx3) ⟨.rfl, ⟨.rfl, trivial⟩⟩ rfl ⟨rfl, trivial⟩ rfl rfl (n' (sg' 9 rfl (a0' rfl (a0' rfl (a0' rfl (a0' rfl (a0' rfl (a0' rfl (a1' rfl (a1' rfl (po' rfl (an' ?_)))))))))))))
    refine AOps.g [0] rfl (syntax_report_form_ok hx4) ⟨.rfl, ⟨.rfl, trivial⟩⟩ rfl ⟨rfl, trivial⟩ rfl rfl (n' (sg' 9 rfl (a0' rfl (a0' rfl (a0' rfl (a0' rfl (a0' rfl (a1' rfl (a1' rfl (po' rfl (a0' rfl (an' (n' ?_)))))))))))))
    refine sg' 7 rfl (a0' rfl (a0' rfl (a0' rfl (a0' rfl (a0' rfl (a0' rfl (po' rfl (an' (AOps.g [0] rfl (syntax_report_form_ok hx5) ⟨.rfl, ⟨.rfl, trivial⟩⟩ rfl ⟨rfl, trivial⟩ rfl rfl (n' (S' (sg' 8 rfl (a0' rfl ?_)))))))))))))
    iterate 4 refine a0' rfl ?_
    refine a1' rfl (a1' rfl (po' rfl (an' (n' ?_))))
    refine ci' rfl hh (fun hh => ?_) (fun hh => ?_)
    · obtain ⟨x6, hx6, hh⟩ := bs' hh
      obtain ⟨x7, hx7, hh⟩ := bs' hh
      refine R' rfl rfl (q' rfl (q' rfl (AOps.c rfl rfl (syntax_place_ok hx6) (AOps.g [0] rfl (syntax_report_form_ok hx7) ⟨.rfl, ⟨.rfl, trivial⟩⟩ rfl ⟨rfl, trivial⟩ rfl rfl (n' ?_)))))
      refine AEx.wk ?_ (ih1 _ _ _ _ hh)
      exact ⟨⟨⟨.rfl, rfl⟩, ⟨⟨.rfl, rfl⟩, ⟨⟨.rfl, rfl⟩, ⟨⟨.rfl, rfl⟩, trivial⟩⟩⟩⟩, ⟨⟨rfl, .refl _, rfl⟩, ⟨⟨rfl, .refl _, rfl⟩, trivial⟩⟩, rfl⟩
    refine sk' ?_
    refine AEx.wk ?_ (ih1 _ _ _ _ hh)
    exact ⟨⟨⟨.rfl, rfl⟩, ⟨⟨.rfl, rfl⟩, ⟨⟨.rfl, rfl⟩, ⟨⟨.rfl, rfl⟩, trivial⟩⟩⟩⟩, ⟨⟨rfl, .refl _, rfl⟩, ⟨⟨rfl, .refl _, rfl⟩, trivial⟩⟩, rfl⟩
  · intro g2 ih2 e depth o0 res hh
    refine S' (s' rfl rfl (q' rfl (n' ?_)))
    refine ci' rfl hh (fun hh => ?_) (fun hh => ?_)
    · obtain ⟨x8, hx8, hh⟩ := bs' hh
      refine R' rfl rfl (q' rfl (q' rfl (q' rfl (AOps.g [0] rfl (syntax_report_name_ok hx8) ⟨.rfl, ⟨.rfl, trivial⟩⟩ rfl ⟨rfl, trivial⟩ rfl rfl (n' ?_)))))
      refine AEx.wk ?_ (ih2 _ _ _ _ hh)
      exact ⟨⟨⟨.rfl, rfl⟩, ⟨⟨.rfl, rfl⟩, ⟨⟨.rfl, rfl⟩, trivial⟩⟩⟩, ⟨⟨rfl, .refl _, rfl⟩, ⟨⟨rfl, .refl _, rfl⟩, trivial⟩⟩, rfl⟩
    refine sk' ?_
    refine AEx.wk ?_ (ih2 _ _ _ _ hh)
    exact ⟨⟨⟨.rfl, rfl⟩, ⟨⟨.rfl, rfl⟩, ⟨⟨.rfl, rfl⟩, trivial⟩⟩⟩, ⟨⟨rfl, .refl _, rfl⟩, ⟨⟨rfl, .refl _, rfl⟩, trivial⟩⟩, rfl⟩
  · intro g3 ih3 e depth o01 res hh
    refine S' (s' rfl rfl (q' rfl (q' rfl (q' rfl (n' ?_)))))
    refine ci' rfl hh (fun hh => ?_) (fun hh => ?_)
    · obtain ⟨x9, hx9, hh⟩ := bs' hh
      obtain ⟨x10, hx10, hh⟩ := bs' hh
      refine R' rfl rfl (q' rfl (q' rfl (q' rfl (AOps.c rfl rfl (syntax_inside_ok hx9) (AOps.g [0] rfl (syntax_report_number_ok hx10) ⟨.rfl, ⟨.rfl, trivial⟩⟩ rfl ⟨rfl, trivial⟩ rfl rfl (n' ?_))))))
      refine AEx.wk ?_ (ih3 _ _ _ _ hh)
      exact ⟨⟨⟨.rfl, rfl⟩, ⟨⟨.rfl, rfl⟩, ⟨⟨.rfl, rfl⟩, trivial⟩⟩⟩, ⟨⟨rfl, .refl _, rfl⟩, ⟨⟨rfl, .refl _, rfl⟩, trivial⟩⟩, rfl⟩
    refine sk' ?_
    refine AEx.wk ?_ (ih3 _ _ _ _ hh)
    exact ⟨⟨⟨.rfl, rfl⟩, ⟨⟨.rfl, rfl⟩, ⟨⟨.rfl, rfl⟩, trivial⟩⟩⟩, ⟨⟨rfl, .refl _, rfl⟩, ⟨⟨rfl, .refl _, rfl⟩, trivial⟩⟩, rfl⟩
  · intro g4 ih4 e depth o02 res hh
    refine s' rfl rfl (q' rfl (q' rfl (qe' rfl trivial (ApiExpr.lenA _) (q' rfl (n' (AEx.block ?_))))))
    refine AEx.ofLoop ?_
    refine ALoop.wk ?_ (ih4 _ _ _ _ _ hh)
    exact ⟨⟨⟨.rfl, rfl⟩, ⟨⟨.rfl, rfl⟩, ⟨⟨.rfl, rfl⟩, ⟨⟨.rfl, rfl⟩, ⟨⟨.rfl, rfl⟩, trivial⟩⟩⟩⟩⟩, ⟨⟨rfl, .refl _, rfl⟩, trivial⟩, rfl⟩
  · intro g0 g4 ih0 ih4 e depth o03 v82 res hh
    refine ALoop.unroll ?_
    refine s' rfl rfl (q' rfl (n' (S' ?_)))
    refine ci' rfl hh (fun hh => ?_) (fun hh => ?_)
    · obtain ⟨x11, hx11, hh⟩ := bs' hh
      obtain ⟨x12, hx12, hh⟩ := bs' hh
      refine sk' (S' (AEx.block (s' rfl rfl (i' rfl (idx_nat hx11) (ApiExpr.idx hx11) rfl (q' rfl (AOps.nf hC rfl (AOps.s hC rfl (n' (R' rfl rfl (q' rfl (q' rfl (q' rfl (q' rfl ?_)))))))))))))
      refine AOps.g [0] rfl (ih0 _ _ _ _ hx12) ⟨.rfl, ⟨.rfl, ⟨.rfl, trivial⟩⟩⟩ rfl ⟨rfl, trivial⟩ rfl rfl (n' (R' rfl rfl (q' rfl (q' rfl (n' ?_)))))
      refine ALoop.wk ?_ (ih4 _ _ _ _ _ hh)
      exact ⟨⟨⟨.rfl, rfl⟩, ⟨⟨.rfl, rfl⟩, ⟨⟨.rfl, rfl⟩, ⟨⟨.rfl, rfl⟩, ⟨⟨.rfl, rfl⟩, trivial⟩⟩⟩⟩⟩, ⟨⟨rfl, .refl _, rfl⟩, trivial⟩, rfl⟩
    refine ex' ?_
    obtain rfl := oi' hh
    exact ⟨_, _, [.row (SyntaxReport.cells o03) 75], rfl, .rfl, ⟨⟨rfl, .refl _, rfl⟩, trivial⟩, rfl, rfl, rfl, rfl⟩
theorem syntax_report_expr_ok {e : ApiExpr} {depth : Int} {syntaxReport : SyntaxReport} {res : SyntaxReport} (hh : syntax_report_expr e depth syntaxReport = some res) : syntax_report_expr_m e depth syntaxReport res := (syntax_report_expr_grp).1 _ _ _ _ hh
theorem syntax_report_expr_j1_ok {e : ApiExpr} {depth : Int} {o0 : SyntaxReport} {res : SyntaxReport} (hh : syntax_report_expr_j1 e depth o0 = some res) : syntax_report_expr_j1_m e depth o0 res := (syntax_report_expr_grp).2.1 _ _ _ _ hh
theorem syntax_report_expr_j2_ok {e : ApiExpr} {depth : Int} {o01 : SyntaxReport} {res : SyntaxReport} (hh : syntax_report_expr_j2 e depth o01 = some res) : syntax_report_expr_j2_m e depth o01 res := (syntax_report_expr_grp).2.2.1 _ _ _ _ hh
theorem syntax_report_expr_j3_ok {e : ApiExpr} {depth : Int} {o02 : SyntaxReport} {res : SyntaxReport} (hh : syntax_report_expr_j3 e depth o02 = some res) : syntax_report_expr_j3_m e depth o02 res := (syntax_report_expr_grp).2.2.2.1 _ _ _ _ hh
theorem syntax_report_expr_l4_ok {e : ApiExpr} {depth : Int} {o03 : SyntaxReport} {v82 : Int} {res : SyntaxReport} (hh : syntax_report_expr_l4 e depth o03 v82 = some res) : syntax_report_expr_l4_m e depth o03 v82 res := (syntax_report_expr_grp).2.2.2.2 _ _ _ _ _ hh
def syntax_report_code (syntaxReport : SyntaxReport) : Option Int :=
  if (bif (decide (syntaxReport.nodes > 1024)) then true else (decide (syntaxReport.depth > 12))) = true then
    some 4
  else
    if syntaxReport.badForm = true then
      some 1
    else
      if syntaxReport.badName = true then
        some 7
      else
        if syntaxReport.badNumber = true then
          some 3
        else
          some 0
abbrev syntax_report_code_m (syntaxReport : SyntaxReport) (res : Int) : Prop := ACall C 39 [.ref 0 0] [.row (SyntaxReport.cells syntaxReport) 75] (fun x H' => H' = [.row (SyntaxReport.cells syntaxReport) 75] ∧ x = .d (.int .i64 res))
theorem syntax_report_code_ok {syntaxReport : SyntaxReport} {res : Int} (hh : syntax_report_code syntaxReport = some res) : syntax_report_code_m syntaxReport res := by
  unfold syntax_report_code at hh
  refine ACall.intro hC Tryz.func39 rfl rfl rfl ?_
  refine s' rfl rfl (q' rfl (n' (S' (AEx.block (sg' 13 rfl (a0' rfl (a0' rfl (a0' rfl (a0' rfl (a0' rfl (a0' rfl (a0' rfl (a1' rfl ?_)))))))))))))
  refine a1' rfl (a1' rfl (a1' rfl (po' rfl (a0' rfl (an' (n' ?_))))))
  refine ci' rfl hh (fun hh => ?_) (fun hh => ?_)
  · refine s' rfl rfl (q' rfl (n' (re' ?_)))
    obtain rfl := oi' hh
    exact ⟨_, _, [.row (SyntaxReport.cells syntaxReport) 75], rfl, .rfl, ⟨⟨rfl, .refl _, rfl⟩, trivial⟩, rfl, rfl, rfl, rfl⟩
  refine s' rfl rfl (q' rfl (q' rfl (q' rfl (q' rfl (q' rfl (n' ?_))))))
  refine ci' rfl hh (fun hh => ?_) (fun hh => ?_)
  · refine s' rfl rfl (q' rfl (n' (re' ?_)))
    obtain rfl := oi' hh
    exact ⟨_, _, [.row (SyntaxReport.cells syntaxReport) 75], rfl, .rfl, ⟨⟨rfl, .refl _, rfl⟩, trivial⟩, rfl, rfl, rfl, rfl⟩
  refine s' rfl rfl (q' rfl (q' rfl (q' rfl (q' rfl (q' rfl (n' ?_))))))
  refine ci' rfl hh (fun hh => ?_) (fun hh => ?_)
  · refine s' rfl rfl (q' rfl (n' (re' ?_)))
    obtain rfl := oi' hh
    exact ⟨_, _, [.row (SyntaxReport.cells syntaxReport) 75], rfl, .rfl, ⟨⟨rfl, .refl _, rfl⟩, trivial⟩, rfl, rfl, rfl, rfl⟩
  refine s' rfl rfl (q' rfl (q' rfl (q' rfl (q' rfl (q' rfl (n' ?_))))))
  refine ci' rfl hh (fun hh => ?_) (fun hh => ?_)
  · refine s' rfl rfl (q' rfl (n' (re' ?_)))
    obtain rfl := oi' hh
    exact ⟨_, _, [.row (SyntaxReport.cells syntaxReport) 75], rfl, .rfl, ⟨⟨rfl, .refl _, rfl⟩, trivial⟩, rfl, rfl, rfl, rfl⟩
  refine sk' (s' rfl rfl (q' rfl (n' (re' ?_))))
  obtain rfl := oi' hh
  exact ⟨_, _, [.row (SyntaxReport.cells syntaxReport) 75], rfl, .rfl, ⟨⟨rfl, .refl _, rfl⟩, trivial⟩, rfl, rfl, rfl, rfl⟩
def syntax_CheckExpr (e : ApiExpr) : Option Int :=
  syntax_report_expr e 1 (SyntaxReport.mk 0 0 false false false) >>= fun x1 =>
  syntax_report_code x1 >>= fun x2 =>
  some x2
abbrev syntax_CheckExpr_m (e : ApiExpr) (res : Int) : Prop := ACall C 18 [.agg (ApiExpr.cells e)] [] (fun x H' => H' = [] ∧ x = .d (.int .i64 res))
theorem syntax_CheckExpr_ok {e : ApiExpr} {res : Int} (hh : syntax_CheckExpr e = some res) : syntax_CheckExpr_m e res := by
  unfold syntax_CheckExpr at hh
  refine ACall.intro hC Tryz.func18 rfl rfl rfl ?_
  obtain ⟨x1, hx1, hh⟩ := bs' hh
  obtain ⟨x2, hx2, hh⟩ := bs' hh
  refine s' rfl rfl (AOps.n hC rfl (q' rfl (n' (s' rfl rfl (q' rfl (AOps.n hC rfl (q' rfl (n' (s' rfl rfl (q' rfl (q' rfl (AOps.g [1] rfl (syntax_report_expr_ok hx1) ⟨.rfl, ⟨.rfl, ⟨.rfl, trivial⟩⟩⟩ rfl ⟨rfl, trivial⟩ rfl rfl (n' ?_)))))))))))))
  refine s' rfl rfl (q' rfl (AOps.g [1] rfl (syntax_report_code_ok hx2) ⟨.rfl, trivial⟩ rfl ⟨rfl, trivial⟩ rfl rfl (q' rfl (n' (re' ?_)))))
  obtain rfl := oi' hh
  exact ⟨_, _, [], rfl, .rfl, trivial, rfl, rfl, rfl, rfl⟩
def syntax_level_j3 (op : Int) (v20 : Bool) : Option Int :=
  if v20 = true then
    some 5
  else
    if (op == 6) = true then
      if (op == 6) = true then
        some 6
      else
        some 7
    else
      if (op == 7) = true then
        some 6
      else
        some 7
abbrev syntax_level_j3_m (op : Int) (v20 : Bool) (res : Int) : Prop := AEx (Fx.mk C 27 0) (sr (cb (sr (cb (sr (cb (sr (cb (sr (cb (sr (bk (sr (sl (sr (bodyOf Tryz.f154)))))))))))))))) (mkEnv [(3, .d (.int .i64 op)), (20, .d (.bool v20))]) [] (Am.InBlock 0 (Am.Then (Fx.mk C 27 0) (sr (sr (bodyOf Tryz.f154))) (Am.Ends (Fx.mk C 27 0) Tryz.f154.results.toList (fun x H' => H' = [] ∧ x = .d (.int .i64 res)))))
theorem syntax_level_j3_ok {op : Int} {v20 : Bool} {res : Int} (hh : syntax_level_j3 op v20 = some res) : syntax_level_j3_m op v20 res := by
  unfold syntax_level_j3 at hh
  refine ci' rfl hh (fun hh => ?_) (fun hh => ?_)
  · refine s' rfl rfl (q' rfl (n' (re' ?_)))
    obtain rfl := oi' hh
    exact ⟨_, _, [], rfl, .rfl, trivial, rfl, rfl, rfl, rfl⟩
  refine S' (s' rfl rfl (q' rfl (q' rfl (n' ?_))))
  refine ci' rfl hh (fun hh => ?_) (fun hh => ?_)
  · refine sk' ?_
    refine ci' rfl hh (fun hh => ?_) (fun hh => ?_)
    · refine s' rfl rfl (q' rfl (n' (re' ?_)))
      obtain rfl := oi' hh
      exact ⟨_, _, [], rfl, .rfl, trivial, rfl, rfl, rfl, rfl⟩
    refine sk' (s' rfl rfl (q' rfl (n' (re' ?_))))
    obtain rfl := oi' hh
    exact ⟨_, _, [], rfl, .rfl, trivial, rfl, rfl, rfl, rfl⟩
  refine R' rfl rfl (q' rfl (q' rfl (n' ?_)))
  refine ci' rfl hh (fun hh => ?_) (fun hh => ?_)
  · refine s' rfl rfl (q' rfl (n' (re' ?_)))
    obtain rfl := oi' hh
    exact ⟨_, _, [], rfl, .rfl, trivial, rfl, rfl, rfl, rfl⟩
  refine sk' (s' rfl rfl (q' rfl (n' (re' ?_))))
  obtain rfl := oi' hh
  exact ⟨_, _, [], rfl, .rfl, trivial, rfl, rfl, rfl, rfl⟩
def syntax_level_j2 (op : Int) (v17 : Bool) : Option Int :=
  if v17 = true then
    some 4
  else
    if (op == 10) = true then
      syntax_level_j3 op (op == 10)
    else
      if (op == 11) = true then
        syntax_level_j3 op (op == 11)
      else
        syntax_level_j3 op (op == 12)
abbrev syntax_level_j2_m (op : Int) (v17 : Bool) (res : Int) : Prop := AEx (Fx.mk C 27 0) (sr (cb (sr (cb (sr (cb (sr (cb (sr (bk (sr (sl (sr (bodyOf Tryz.f154)))))))))))))) (mkEnv [(3, .d (.int .i64 op)), (17, .d (.bool v17))]) [] (Am.InBlock 0 (Am.Then (Fx.mk C 27 0) (sr (sr (bodyOf Tryz.f154))) (Am.Ends (Fx.mk C 27 0) Tryz.f154.results.toList (fun x H' => H' = [] ∧ x = .d (.int .i64 res)))))
theorem syntax_level_j2_ok {op : Int} {v17 : Bool} {res : Int} (hh : syntax_level_j2 op v17 = some res) : syntax_level_j2_m op v17 res := by
  unfold syntax_level_j2 at hh
  refine ci' rfl hh (fun hh => ?_) (fun hh => ?_)
  · refine s' rfl rfl (q' rfl (n' (re' ?_)))
    obtain rfl := oi' hh
    exact ⟨_, _, [], rfl, .rfl, trivial, rfl, rfl, rfl, rfl⟩
  refine S' (s' rfl rfl (q' rfl (q' rfl (n' ?_))))
  refine ci' rfl hh (fun hh => ?_) (fun hh => ?_)
  · refine sk' ?_
    refine AEx.wk ?_ (syntax_level_j3_ok hh)
    exact ⟨⟨⟨.rfl, rfl⟩, ⟨⟨.rfl, rfl⟩, trivial⟩⟩, trivial, rfl⟩
  refine s' rfl rfl (q' rfl (q' rfl (n' ?_)))
  refine ci' rfl hh (fun hh => ?_) (fun hh => ?_)
  · refine sk' ?_
    refine AEx.wk ?_ (syntax_level_j3_ok hh)
    exact ⟨⟨⟨.rfl, rfl⟩, ⟨⟨.rfl, rfl⟩, trivial⟩⟩, trivial, rfl⟩
  refine R' rfl rfl (q' rfl (q' rfl (n' ?_)))
  refine AEx.wk ?_ (syntax_level_j3_ok hh)
  exact ⟨⟨⟨.rfl, rfl⟩, ⟨⟨.rfl, rfl⟩, trivial⟩⟩, trivial, rfl⟩
def syntax_level_j1 (op : Int) (v10 : Bool) : Option Int :=
  if v10 = true then
    some 3
  else
    if (op == 8) = true then
      syntax_level_j2 op (op == 8)
    else
      syntax_level_j2 op (op == 9)
abbrev syntax_level_j1_m (op : Int) (v10 : Bool) (res : Int) : Prop := AEx (Fx.mk C 27 0) (sr (cb (sr (cb (sr (cb (sr (bk (sr (sl (sr (bodyOf Tryz.f154)))))))))))) (mkEnv [(3, .d (.int .i64 op)), (10, .d (.bool v10))]) [] (Am.InBlock 0 (Am.Then (Fx.mk C 27 0) (sr (sr (bodyOf Tryz.f154))) (Am.Ends (Fx.mk C 27 0) Tryz.f154.results.toList (fun x H' => H' = [] ∧ x = .d (.int .i64 res)))))
theorem syntax_level_j1_ok {op : Int} {v10 : Bool} {res : Int} (hh : syntax_level_j1 op v10 = some res) : syntax_level_j1_m op v10 res := by
  unfold syntax_level_j1 at hh
  refine ci' rfl hh (fun hh => ?_) (fun hh => ?_)
  · refine s' rfl rfl (q' rfl (n' (re' ?_)))
    obtain rfl := oi' hh
    exact ⟨_, _, [], rfl, .rfl, trivial, rfl, rfl, rfl, rfl⟩
  refine S' (s' rfl rfl (q' rfl (q' rfl (n' ?_))))
  refine ci' rfl hh (fun hh => ?_) (fun hh => ?_)
  · refine sk' ?_
    refine AEx.wk ?_ (syntax_level_j2_ok hh)
    exact ⟨⟨⟨.rfl, rfl⟩, ⟨⟨.rfl, rfl⟩, trivial⟩⟩, trivial, rfl⟩
  refine R' rfl rfl (q' rfl (q' rfl (n' ?_)))
  refine AEx.wk ?_ (syntax_level_j2_ok hh)
  exact ⟨⟨⟨.rfl, rfl⟩, ⟨⟨.rfl, rfl⟩, trivial⟩⟩, trivial, rfl⟩
def syntax_level (op : Int) : Option Int :=
  if (op == 23) = true then
    some 0
  else
    if (op == 20) = true then
      some 1
    else
      if (op == 19) = true then
        some 2
      else
        if (op == 13) = true then
          syntax_level_j1 op (op == 13)
        else
          if (op == 14) = true then
            syntax_level_j1 op (op == 14)
          else
            if (op == 15) = true then
              syntax_level_j1 op (op == 15)
            else
              if (op == 16) = true then
                syntax_level_j1 op (op == 16)
              else
                if (op == 17) = true then
                  syntax_level_j1 op (op == 17)
                else
                  syntax_level_j1 op (op == 18)
abbrev syntax_level_m (op : Int) (res : Int) : Prop := ACall C 154 [.d (.int .i64 op)] [] (fun x H' => H' = [] ∧ x = .d (.int .i64 res))
theorem syntax_level_ok {op : Int} {res : Int} (hh : syntax_level op = some res) : syntax_level_m op res := by
  unfold syntax_level at hh
  refine ACall.intro hC Tryz.func154 rfl rfl rfl ?_
  refine s' rfl rfl (q' rfl (n' (S' (s' rfl rfl (q' rfl (n' (AEx.block (s' rfl rfl (q' rfl (q' rfl (n' ?_)))))))))))
  refine ci' rfl hh (fun hh => ?_) (fun hh => ?_)
  · refine s' rfl rfl (q' rfl (n' (re' ?_)))
    obtain rfl := oi' hh
    exact ⟨_, _, [], rfl, .rfl, trivial, rfl, rfl, rfl, rfl⟩
  refine s' rfl rfl (q' rfl (q' rfl (n' ?_)))
  refine ci' rfl hh (fun hh => ?_) (fun hh => ?_)
  · refine s' rfl rfl (q' rfl (n' (re' ?_)))
    obtain rfl := oi' hh
    exact ⟨_, _, [], rfl, .rfl, trivial, rfl, rfl, rfl, rfl⟩
  refine s' rfl rfl (q' rfl (q' rfl (n' ?_)))
  refine ci' rfl hh (fun hh => ?_) (fun hh => ?_)
  · refine s' rfl rfl (q' rfl (n' (re' ?_)))
    obtain rfl := oi' hh
    exact ⟨_, _, [], rfl, .rfl, trivial, rfl, rfl, rfl, rfl⟩
  refine S' (s' rfl rfl (q' rfl (q' rfl (n' ?_))))
  refine ci' rfl hh (fun hh => ?_) (fun hh => ?_)
  · refine sk' ?_
    refine AEx.wk ?_ (syntax_level_j1_ok hh)
    exact ⟨⟨⟨.rfl, rfl⟩, ⟨⟨.rfl, rfl⟩, trivial⟩⟩, trivial, rfl⟩
  refine s' rfl rfl (q' rfl (q' rfl (n' ?_)))
  refine ci' rfl hh (fun hh => ?_) (fun hh => ?_)
  · refine sk' ?_
    refine AEx.wk ?_ (syntax_level_j1_ok hh)
    exact ⟨⟨⟨.rfl, rfl⟩, ⟨⟨.rfl, rfl⟩, trivial⟩⟩, trivial, rfl⟩
  refine s' rfl rfl (q' rfl (q' rfl (n' ?_)))
  refine ci' rfl hh (fun hh => ?_) (fun hh => ?_)
  · refine sk' ?_
    refine AEx.wk ?_ (syntax_level_j1_ok hh)
    exact ⟨⟨⟨.rfl, rfl⟩, ⟨⟨.rfl, rfl⟩, trivial⟩⟩, trivial, rfl⟩
  refine s' rfl rfl (q' rfl (q' rfl (n' ?_)))
  refine ci' rfl hh (fun hh => ?_) (fun hh => ?_)
  · refine sk' ?_
    refine AEx.wk ?_ (syntax_level_j1_ok hh)
    exact ⟨⟨⟨.rfl, rfl⟩, ⟨⟨.rfl, rfl⟩, trivial⟩⟩, trivial, rfl⟩
  refine s' rfl rfl (q' rfl (q' rfl (n' ?_)))
  refine ci' rfl hh (fun hh => ?_) (fun hh => ?_)
  · refine sk' ?_
    refine AEx.wk ?_ (syntax_level_j1_ok hh)
    exact ⟨⟨⟨.rfl, rfl⟩, ⟨⟨.rfl, rfl⟩, trivial⟩⟩, trivial, rfl⟩
  refine R' rfl rfl (q' rfl (q' rfl (n' ?_)))
  refine AEx.wk ?_ (syntax_level_j1_ok hh)
  exact ⟨⟨⟨.rfl, rfl⟩, ⟨⟨.rfl, rfl⟩, trivial⟩⟩, trivial, rfl⟩
mutual
def syntax_printer_expr (e : ApiExpr) (b : Str) : Option Str :=
  if (e.Op == 0) = true then
    X_Itoa e.NV >>= fun x1 =>
    X_WriteString_SyntaxPrinter x1 b >>= fun x2 =>
    some x2.2
  else
    if (e.Op == 1) = true then
      X_WriteString_SyntaxPrinter [116, 114, 117, 101] b >>= fun x3 =>
      some x3.2
    else
      if (e.Op == 2) = true then
        X_WriteString_SyntaxPrinter [102, 97, 108, 115, 101] b >>= fun x4 =>
        some x4.2
      else
        if (e.Op == 3) = true then
          X_WriteString_SyntaxPrinter e.Name b >>= fun x5 =>
          some x5.2
        else
          if (e.Op == 4) = true then
            idx e.Kids 0 >>= fun x6 =>
            syntax_printer_expr x6 b >>= fun x14 =>
            if (decide (1 + e.Name.length ≤ maxLen)) = true then
              X_WriteString_SyntaxPrinter ([46] ++ e.Name) x14 >>= fun x15 =>
              some x15.2
            else none
          else
            if (e.Op == 5) = true then
              idx e.Kids 0 >>= fun x7 =>
              syntax_printer_expr x7 b >>= fun x16 =>
              X_WriteString_SyntaxPrinter [91] x16 >>= fun x17 =>
              idx e.Kids 1 >>= fun x18 =>
              syntax_printer_expr x18 x17.2 >>= fun x19 =>
              X_WriteString_SyntaxPrinter [93] x19 >>= fun x20 =>
              some x20.2
            else
              if (e.Op == 6) = true then
                syntax_printer_expr_j1 e b (e.Op == 6)
              else
                syntax_printer_expr_j1 e b (e.Op == 7)
  partial_fixpoint
def syntax_printer_expr_j1 (e : ApiExpr) (b : Str) (v77 : Bool) : Option Str :=
  if v77 = true then
    if (e.Op == 7) = true then
      syntax_printer_expr_j2 e b [33]
    else
      syntax_printer_expr_j2 e b [45]
  else
    if (e.Op == 21) = true then
      syntax_printer_expr_j3 e b (e.Op == 21)
    else
      syntax_printer_expr_j3 e b (e.Op == 22)
  partial_fixpoint
def syntax_printer_expr_j3 (e : ApiExpr) (b : Str) (v94 : Bool) : Option Str :=
  if v94 = true then
    if (e.Op == 22) = true then
      syntax_printer_expr_j4 e b [109, 97, 120, 40]
    else
      syntax_printer_expr_j4 e b [109, 105, 110, 40]
  else
    if (e.Op == 23) = true then
      idx e.Kids 0 >>= fun x13 =>
      syntax_printer_kid x13 1 b >>= fun x22 =>
      X_WriteString_SyntaxPrinter [32, 63, 32] x22 >>= fun x23 =>
      idx e.Kids 1 >>= fun x24 =>
      syntax_printer_expr x24 x23.2 >>= fun x25 =>
      X_WriteString_SyntaxPrinter [32, 58, 32] x25 >>= fun x26 =>
      idx e.Kids 2 >>= fun x27 =>
      syntax_printer_expr x27 x26.2 >>= fun x28 =>
      some x28
    else
      syntax_printer_binary e b >>= fun x29 =>
      some x29
  partial_fixpoint
def syntax_printer_binary (e : ApiExpr) (b : Str) : Option Str :=
  syntax_level e.Op >>= fun x1 =>
  if (x1 == 3) = true then
    syntax_printer_binary_j1 e b x1 4
  else
    syntax_printer_binary_j1 e b x1 x1
  partial_fixpoint
def syntax_printer_binary_j1 (e : ApiExpr) (b : Str) (x1 : Int) (left : Int) : Option Str :=
  idx e.Kids 0 >>= fun x2 =>
  syntax_printer_kid x2 left b >>= fun x3 =>
  idx tab_signs (IntKind.i64.wrap (e.Op - 8)) >>= fun x4 =>
  if (decide (1 + x4.length ≤ maxLen)) = true then
    if (decide (([32] ++ x4).length + 1 ≤ maxLen)) = true then
      X_WriteString_SyntaxPrinter (([32] ++ x4) ++ [32]) x3 >>= fun x5 =>
      idx e.Kids 1 >>= fun x6 =>
      syntax_printer_kid x6 (IntKind.i64.wrap (x1 + 1)) x5.2 >>= fun x7 =>
      some x7
    else none
  else none
  partial_fixpoint
def syntax_printer_kid (e : ApiExpr) (required : Int) (b : Str) : Option Str :=
  syntax_level e.Op >>= fun x1 =>
  if (decide (x1 ≥ required)) = true then
    syntax_printer_expr e b >>= fun x3 =>
    some x3
  else
    X_WriteString_SyntaxPrinter [40] b >>= fun x2 =>
    syntax_printer_expr e x2.2 >>= fun x4 =>
    X_WriteString_SyntaxPrinter [41] x4 >>= fun x5 =>
    some x5.2
  partial_fixpoint
def syntax_printer_expr_j4 (e : ApiExpr) (b : Str) (word : Str) : Option Str :=
  X_WriteString_SyntaxPrinter word b >>= fun x10 =>
  syntax_printer_list e.Kids x10.2 >>= fun x11 =>
  X_WriteString_SyntaxPrinter [41] x11 >>= fun x12 =>
  some x12.2
  partial_fixpoint
def syntax_printer_list (l : List ApiExpr) (b : Str) : Option Str :=
  syntax_printer_list_l1 l b 0
  partial_fixpoint
def syntax_printer_list_l1 (l : List ApiExpr) (b1 : Str) (v8 : Int) : Option Str :=
  if (decide (v8 < ((l).length : Int))) = true then
    idx l v8 >>= fun x1 =>
    if (decide (v8 > 0)) = true then
      X_WriteString_SyntaxPrinter [44, 32] b1 >>= fun x3 =>
      syntax_printer_expr x1 x3.2 >>= fun x2 =>
      syntax_printer_list_l1 l x2 (IntKind.i64.wrap (v8 + 1))
    else
      syntax_printer_expr x1 b1 >>= fun x2 =>
      syntax_printer_list_l1 l x2 (IntKind.i64.wrap (v8 + 1))
  else
    some b1
  partial_fixpoint
def syntax_printer_expr_j2 (e : ApiExpr) (b : Str) (sign : Str) : Option Str :=
  X_WriteString_SyntaxPrinter sign b >>= fun x8 =>
  idx e.Kids 0 >>= fun x9 =>
  syntax_printer_kid x9 6 x8.2 >>= fun x21 =>
  some x21
  partial_fixpoint
end
abbrev syntax_printer_expr_m (e : ApiExpr) (b : Str) (res : Str) : Prop := ACall C 43 [.ref 0 0, .agg (ApiExpr.cells e)] [.bld 1 86, .buf 5 b] (fun x H' => H' = [.bld 1 86, .buf 5 res] ∧ x = .tup [])
abbrev syntax_printer_expr_j1_m (e : ApiExpr) (b : Str) (v77 : Bool) (res : Str) : Prop := AEx (Fx.mk C 141 2) (sr (cb (sr (cb (sr (cb (sr (cb (sr (cb (sr (cb (sr (bk (sr (sr (bodyOf Tryz.f43))))))))))))))))) (mkEnv [(0, .ref 0 0), (3, .ref 2 0), (7, .d (.int .i64 e.Op)), (77, .d (.bool v77))]) [.bld 1 86, .buf 5 b, .row (ApiExpr.cells e) 36] (Am.InBlock 0 (Am.Ends (Fx.mk C 141 2) Tryz.f43.results.toList (fun x H' => H' = [.bld 1 86, .buf 5 res] ∧ x = .tup [])))
abbrev syntax_printer_expr_j3_m (e : ApiExpr) (b : Str) (v94 : Bool) (res : Str) : Prop := AEx (Fx.mk C 141 2) (sr (cb (sr (cb (sr (cb (sr (cb (sr (cb (sr (cb (sr (cb (sr (bk (sr (sr (bodyOf Tryz.f43))))))))))))))))))) (mkEnv [(0, .ref 0 0), (3, .ref 2 0), (7, .d (.int .i64 e.Op)), (94, .d (.bool v94))]) [.bld 1 86, .buf 5 b, .row (ApiExpr.cells e) 36] (Am.InBlock 0 (Am.Ends (Fx.mk C 141 2) Tryz.f43.results.toList (fun x H' => H' = [.bld 1 86, .buf 5 res] ∧ x = .tup [])))
abbrev syntax_printer_binary_m (e : ApiExpr) (b : Str) (res : Str) : Prop := ACall C 93 [.ref 0 0, .agg (ApiExpr.cells e)] [.bld 1 86, .buf 5 b] (fun x H' => H' = [.bld 1 86, .buf 5 res] ∧ x = .tup [])
abbrev syntax_printer_binary_j1_m (e : ApiExpr) (b : Str) (x1 : Int) (left : Int) (res : Str) : Prop := AEx (Fx.mk C 38 2) (sr (sr (sr (sr (bodyOf Tryz.f93))))) (mkEnv [(0, .ref 0 0), (3, .ref 2 0), (4, .d (.int .i64 x1)), (5, .d (.int .i64 left))]) [.bld 1 86, .buf 5 b, .row (ApiExpr.cells e) 36] (Am.Ends (Fx.mk C 38 2) Tryz.f93.results.toList (fun x H' => H' = [.bld 1 86, .buf 5 res] ∧ x = .tup []))
abbrev syntax_printer_kid_m (e : ApiExpr) (required : Int) (b : Str) (res : Str) : Prop := ACall C 91 [.ref 0 0, .agg (ApiExpr.cells e), .d (.int .i64 required)] [.bld 1 86, .buf 5 b] (fun x H' => H' = [.bld 1 86, .buf 5 res] ∧ x = .tup [])
abbrev syntax_printer_expr_j4_m (e : ApiExpr) (b : Str) (word : Str) (res : Str) : Prop := AEx (Fx.mk C 141 2) (sr (sr (ca (sr (cb (sr (cb (sr (cb (sr (cb (sr (cb (sr (cb (sr (cb (sr (bk (sr (sr (bodyOf Tryz.f43)))))))))))))))))))))) (mkEnv [(0, .ref 0 0), (3, .ref 2 0), (5, .d (.str word))]) [.bld 1 86, .buf 5 b, .row (ApiExpr.cells e) 36] (Am.InBlock 0 (Am.Ends (Fx.mk C 141 2) Tryz.f43.results.toList (fun x H' => H' = [.bld 1 86, .buf 5 res] ∧ x = .tup [])))
abbrev syntax_printer_list_m (l : List ApiExpr) (b : Str) (res : Str) : Prop := ACall C 92 [.ref 0 0, .d (.sl (ApiExpr.rows l))] [.bld 1 86, .buf 5 b] (fun x H' => H' = [.bld 1 86, .buf 5 res] ∧ x = .tup [])
abbrev syntax_printer_list_l1_m (l : List ApiExpr) (b1 : Str) (v8 : Int) (res : Str) : Prop := ALoop (Fx.mk C 23 2) (lo (bk (sr (bodyOf Tryz.f92)))) (mkEnv [(0, .ref 0 0), (6, .d (.sl (ApiExpr.rows l))), (7, .d (.int .i64 ((l).length : Int))), (8, .d (.int .i64 v8))]) [.bld 1 86, .buf 5 b1] (Am.InBlock 0 (Am.Ends (Fx.mk C 23 2) Tryz.f92.results.toList (fun x H' => H' = [.bld 1 86, .buf 5 res] ∧ x = .tup [])))
abbrev syntax_printer_expr_j2_m (e : ApiExpr) (b : Str) (sign : Str) (res : Str) : Prop := AEx (Fx.mk C 141 2) (sr (sr (ca (sr (cb (sr (cb (sr (cb (sr (cb (sr (cb (sr (cb (sr (bk (sr (sr (bodyOf Tryz.f43)))))))))))))))))))) (mkEnv [(0, .ref 0 0), (3, .ref 2 0), (4, .d (.str sign))]) [.bld 1 86, .buf 5 b, .row (ApiExpr.cells e) 36] (Am.InBlock 0 (Am.Ends (Fx.mk C 141 2) Tryz.f43.results.toList (fun x H' => H' = [.bld 1 86, .buf 5 res] ∧ x = .tup [])))
theorem syntax_printer_expr_grp : (∀ (e : ApiExpr) (b : Str) (res : Str), syntax_printer_expr e b = some res → syntax_printer_expr_m e b res) ∧
    (∀ (e : ApiExpr) (b : Str) (v77 : Bool) (res : Str), syntax_printer_expr_j1 e b v77 = some res → syntax_printer_expr_j1_m e b v77 res) ∧
    (∀ (e : ApiExpr) (b : Str) (v94 : Bool) (res : Str), syntax_printer_expr_j3 e b v94 = some res → syntax_printer_expr_j3_m e b v94 res) ∧
    (∀ (e : ApiExpr) (b : Str) (res : Str), syntax_printer_binary e b = some res → syntax_printer_binary_m e b res) ∧
    (∀ (e : ApiExpr) (b : Str) (x1 : Int) (left : Int) (res : Str), syntax_printer_binary_j1 e b x1 left = some res → syntax_printer_binary_j1_m e b x1 left res) ∧
    (∀ (e : ApiExpr) (required : Int) (b : Str) (res : Str), syntax_printer_kid e required b = some res → syntax_printer_kid_m e required b res) ∧
    (∀ (e : ApiExpr) (b : Str) (word : Str) (res : Str), syntax_printer_expr_j4 e b word = some res → syntax_printer_expr_j4_m e b word res) ∧
    (∀ (l : List ApiExpr) (b : Str) (res : Str), syntax_printer_list l b = some res → syntax_printer_list_m l b res) ∧
    (∀ (l : List ApiExpr) (b1 : Str) (v8 : Int) (res : Str), syntax_printer_list_l1 l b1 v8 = some res → syntax_printer_list_l1_m l b1 v8 res) ∧
    (∀ (e : ApiExpr) (b : Str) (sign : Str) (res : Str), syntax_printer_expr_j2 e b sign = some res → syntax_printer_expr_j2_m e b sign res) := by
  refine syntax_printer_expr.mutual_partial_correctness (fun e b res => syntax_printer_expr_m e b res)
    (fun e b v77 res => syntax_printer_expr_j1_m e b v77 res)
    (fun e b v94 res => syntax_printer_expr_j3_m e b v94 res)
    (fun e b res => syntax_printer_binary_m e b res)
    (fun e b x1 left res => syntax_printer_binary_j1_m e b x1 left res)
    (fun e required b res => syntax_printer_kid_m e required b res)
    (fun e b word res => syntax_printer_expr_j4_m e b word res)
    (fun l b res => syntax_printer_list_m l b res)
    (fun l b1 v8 res => syntax_printer_list_l1_m l b1 v8 res)
    (fun e b sign res => syntax_printer_expr_j2_m e b sign res) ?_ ?_ ?_ ?_ ?_ ?_ ?_ ?_ ?_ ?_
  · intro g0 g1 ih0 ih1 e b res hh
    refine ACall.intro hC Tryz.func43 rfl rfl rfl ?_
    refine s' rfl rfl (AOps.n hC rfl (n' (s' rfl rfl (q' rfl (q' rfl (n' (AEx.block (s' rfl rfl (q' rfl (q' rfl (n' ?_)))))))))))
    refine ci' rfl hh (fun hh => ?_) (fun hh => ?_)
    · obtain ⟨x1, hx1, hh⟩ := bs' hh
      obtain ⟨x2, hx2, hh⟩ := bs' hh
      refine AEx.draw hC 6 rfl rfl rfl (Q' rfl (Q' rfl (Q' rfl (Q' rfl (Q' rfl (AQ.c rfl rfl (X_Itoa_ok hx1) (Qn' (AOps.g [0, 1] rfl (X_WriteString_SyntaxPrinter_ok hx2) ⟨.rfl, ⟨.rfl, trivial⟩⟩ rfl ⟨rfl, ⟨rfl, trivial⟩⟩ rfl rfl (n' ?_)))))))))
      obtain rfl := oi' hh
      exact ⟨_, _, [.bld 1 86, .buf 5 x2.2], rfl, .rfl, ⟨⟨rfl, Nat.le_of_ble_eq_true rfl⟩, ⟨rfl, trivial⟩⟩, rfl, rfl, rfl, rfl⟩
    refine s' rfl rfl (q' rfl (q' rfl (n' ?_)))
    refine ci' rfl hh (fun hh => ?_) (fun hh => ?_)
    · obtain ⟨x3, hx3, hh⟩ := bs' hh
      refine R' rfl rfl (q' rfl (q' rfl (q' rfl (AOps.g [0, 1] rfl (X_WriteString_SyntaxPrinter_ok hx3) ⟨.rfl, ⟨.rfl, trivial⟩⟩ rfl ⟨rfl, ⟨rfl, trivial⟩⟩ rfl rfl (n' ?_)))))
      obtain rfl := oi' hh
      exact ⟨_, _, [.bld 1 86, .buf 5 x3.2], rfl, .rfl, ⟨⟨rfl, Nat.le_of_ble_eq_true rfl⟩, ⟨rfl, trivial⟩⟩, rfl, rfl, rfl, rfl⟩
    refine s' rfl rfl (q' rfl (q' rfl (n' ?_)))
    refine ci' rfl hh (fun hh => ?_) (fun hh => ?_)
    · obtain ⟨x4, hx4, hh⟩ := bs' hh
      refine R' rfl rfl (q' rfl (q' rfl (q' rfl (AOps.g [0, 1] rfl (X_WriteString_SyntaxPrinter_ok hx4) ⟨.rfl, ⟨.rfl, trivial⟩⟩ rfl ⟨rfl, ⟨rfl, trivial⟩⟩ rfl rfl (n' ?_)))))
      obtain rfl := oi' hh
      exact ⟨_, _, [.bld 1 86, .buf 5 x4.2], rfl, .rfl, ⟨⟨rfl, Nat.le_of_ble_eq_true rfl⟩, ⟨rfl, trivial⟩⟩, rfl, rfl, rfl, rfl⟩
    refine s' rfl rfl (q' rfl (q' rfl (n' ?_)))
    refine ci' rfl hh (fun hh => ?_) (fun hh => ?_)
    · obtain ⟨x5, hx5, hh⟩ := bs' hh
      refine AEx.draw hC 5 rfl rfl rfl (Q' rfl (Q' rfl (Q' rfl (Q' rfl (Q' rfl (Qn' (AOps.g [0, 1] rfl (X_WriteString_SyntaxPrinter_ok hx5) ⟨.rfl, ⟨.rfl, trivial⟩⟩ rfl ⟨rfl, ⟨rfl, trivial⟩⟩ rfl rfl (n' ?_))))))))
      obtain rfl := oi' hh
      exact ⟨_, _, [.bld 1 86, .buf 5 x5.2], rfl, .rfl, ⟨⟨rfl, Nat.le_of_ble_eq_true rfl⟩, ⟨rfl, trivial⟩⟩, rfl, rfl, rfl, rfl⟩
    refine s' rfl rfl (q' rfl (q' rfl (n' ?_)))
    refine ci' rfl hh (fun hh => ?_) (fun hh => ?_)
    · obtain ⟨x6, hx6, hh⟩ := bs' hh
      obtain ⟨x14, hx14, hh⟩ := bs' hh
      obtain ⟨c3, hh⟩ := asrt_some hh
      obtain ⟨x15, hx15, hh⟩ := bs' hh
      refine s' rfl rfl (q' rfl (q' rfl (q' rfl (i' rfl (idx_nat hx6) (ApiExpr.idx hx6) rfl (q' rfl (AOps.g [0, 1] rfl (ih0 _ _ _ hx14) ⟨.rfl, ⟨.rfl, trivial⟩⟩ rfl ⟨rfl, ⟨rfl, trivial⟩⟩ rfl rfl (n' (AEx.draw hC 6 rfl rfl rfl (Q' rfl (Q' rfl (Q' rfl (Q' rfl (Q' rfl ?_)))))))))))))
      refine AQ.q hC rfl c3 (Qn' (AOps.g [0, 1] rfl (X_WriteString_SyntaxPrinter_ok hx15) ⟨.rfl, ⟨.rfl, trivial⟩⟩ rfl ⟨rfl, ⟨rfl, trivial⟩⟩ rfl rfl (n' ?_)))
      obtain rfl := oi' hh
      exact ⟨_, _, [.bld 1 86, .buf 5 x15.2], rfl, .rfl, ⟨⟨rfl, Nat.le_of_ble_eq_true rfl⟩, ⟨rfl, trivial⟩⟩, rfl, rfl, rfl, rfl⟩
    refine s' rfl rfl (q' rfl (q' rfl (n' ?_)))
    refine ci' rfl hh (fun hh => ?_) (fun hh => ?_)
    · obtain ⟨x7, hx7, hh⟩ := bs' hh
      obtain ⟨x16, hx16, hh⟩ := bs' hh
      obtain ⟨x17, hx17, hh⟩ := bs' hh
      obtain ⟨x18, hx18, hh⟩ := bs' hh
      obtain ⟨x19, hx19, hh⟩ := bs' hh
      obtain ⟨x20, hx20, hh⟩ := bs' hh
      refine s' rfl rfl (q' rfl (q' rfl (q' rfl (i' rfl (idx_nat hx7) (ApiExpr.idx hx7) rfl (q' rfl (AOps.g [0, 1] rfl (ih0 _ _ _ hx16) ⟨.rfl, ⟨.rfl, trivial⟩⟩ rfl ⟨rfl, ⟨rfl, trivial⟩⟩ rfl rfl (n' (s' rfl rfl (q' rfl (q' rfl (q' rfl (AOps.g [0, 1] rfl (X_WriteString_SyntaxPrinter_ok hx17) ⟨.rfl, ⟨.rfl, trivial⟩⟩ rfl ⟨rfl, ⟨rfl, trivial⟩⟩ rfl rfl (n' ?_)))))))))))))
      refine s' rfl rfl (q' rfl (q' rfl (q' rfl (i' rfl (idx_nat hx18) (ApiExpr.idx hx18) rfl (q' rfl (AOps.g [0, 1] rfl (ih0 _ _ _ hx19) ⟨.rfl, ⟨.rfl, trivial⟩⟩ rfl ⟨rfl, ⟨rfl, trivial⟩⟩ rfl rfl (n' (R' rfl rfl (q' rfl (q' rfl (q' rfl (AOps.g [0, 1] rfl (X_WriteString_SyntaxPrinter_ok hx20) ⟨.rfl, ⟨.rfl, trivial⟩⟩ rfl ⟨rfl, ⟨rfl, trivial⟩⟩ rfl rfl (n' ?_)))))))))))))
      obtain rfl := oi' hh
      exact ⟨_, _, [.bld 1 86, .buf 5 x20.2], rfl, .rfl, ⟨⟨rfl, Nat.le_of_ble_eq_true rfl⟩, ⟨rfl, trivial⟩⟩, rfl, rfl, rfl, rfl⟩
    refine S' (s' rfl rfl (q' rfl (q' rfl (n' ?_))))
    refine ci' rfl hh (fun hh => ?_) (fun hh => ?_)
    · refine sk' ?_
      refine AEx.wk ?_ (ih1 _ _ _ _ hh)
      exact ⟨⟨⟨.rfl, rfl⟩, ⟨⟨.rfl, rfl⟩, ⟨⟨.rfl, rfl⟩, ⟨⟨.rfl, rfl⟩, trivial⟩⟩⟩⟩, ⟨⟨rfl, Nat.le_of_ble_eq_true rfl⟩, ⟨rfl, ⟨⟨rfl, .refl _, rfl⟩, trivial⟩⟩⟩, rfl⟩
    refine R' rfl rfl (q' rfl (q' rfl (n' ?_)))
    refine AEx.wk ?_ (ih1 _ _ _ _ hh)
    exact ⟨⟨⟨.rfl, rfl⟩, ⟨⟨.rfl, rfl⟩, ⟨⟨.rfl, rfl⟩, ⟨⟨.rfl, rfl⟩, trivial⟩⟩⟩⟩, ⟨⟨rfl, Nat.le_of_ble_eq_true rfl⟩, ⟨rfl, ⟨⟨rfl, .refl _, rfl⟩, trivial⟩⟩⟩, rfl⟩
  · intro g2 g9 ih2 ih9 e b v77 res hh
    refine ci' rfl hh (fun hh => ?_) (fun hh => ?_)
    · refine s' rfl rfl (q' rfl (n' (S' (s' rfl rfl (q' rfl (q' rfl (q' rfl (n' ?_))))))))
      refine ci' rfl hh (fun hh => ?_) (fun hh => ?_)
      · refine R' rfl rfl (q' rfl (n' ?_))
        refine AEx.wk ?_ (ih9 _ _ _ _ hh)
        exact ⟨⟨⟨.rfl, rfl⟩, ⟨⟨.rfl, rfl⟩, ⟨⟨.rfl, rfl⟩, trivial⟩⟩⟩, ⟨⟨rfl, Nat.le_of_ble_eq_true rfl⟩, ⟨rfl, ⟨⟨rfl, .refl _, rfl⟩, trivial⟩⟩⟩, rfl⟩
      refine sk' ?_
      refine AEx.wk ?_ (ih9 _ _ _ _ hh)
      exact ⟨⟨⟨.rfl, rfl⟩, ⟨⟨.rfl, rfl⟩, ⟨⟨.rfl, rfl⟩, trivial⟩⟩⟩, ⟨⟨rfl, Nat.le_of_ble_eq_true rfl⟩, ⟨rfl, ⟨⟨rfl, .refl _, rfl⟩, trivial⟩⟩⟩, rfl⟩
    refine S' (s' rfl rfl (q' rfl (q' rfl (n' ?_))))
    refine ci' rfl hh (fun hh => ?_) (fun hh => ?_)
    · refine sk' ?_
      refine AEx.wk ?_ (ih2 _ _ _ _ hh)
      exact ⟨⟨⟨.rfl, rfl⟩, ⟨⟨.rfl, rfl⟩, ⟨⟨.rfl, rfl⟩, ⟨⟨.rfl, rfl⟩, trivial⟩⟩⟩⟩, ⟨⟨rfl, Nat.le_of_ble_eq_true rfl⟩, ⟨rfl, ⟨⟨rfl, .refl _, rfl⟩, trivial⟩⟩⟩, rfl⟩
    refine R' rfl rfl (q' rfl (q' rfl (n' ?_)))
    refine AEx.wk ?_ (ih2 _ _ _ _ hh)
    exact ⟨⟨⟨.rfl, rfl⟩, ⟨⟨.rfl, rfl⟩, ⟨⟨.rfl, rfl⟩, ⟨⟨.rfl, rfl⟩, trivial⟩⟩⟩⟩, ⟨⟨rfl, Nat.le_of_ble_eq_true rfl⟩, ⟨rfl, ⟨⟨rfl, .refl _, rfl⟩, trivial⟩⟩⟩, rfl⟩
  · intro g0 g3 g5 g6 ih0 ih3 ih5 ih6 e b v94 res hh
    refine ci' rfl hh (fun hh => ?_) (fun hh => ?_)
    · refine s' rfl rfl (q' rfl (n' (S' (s' rfl rfl (q' rfl (q' rfl (q' rfl (n' ?_))))))))
      refine ci' rfl hh (fun hh => ?_) (fun hh => ?_)
      · refine R' rfl rfl (q' rfl (n' ?_))
        refine AEx.wk ?_ (ih6 _ _ _ _ hh)
        exact ⟨⟨⟨.rfl, rfl⟩, ⟨⟨.rfl, rfl⟩, ⟨⟨.rfl, rfl⟩, trivial⟩⟩⟩, ⟨⟨rfl, Nat.le_of_ble_eq_true rfl⟩, ⟨rfl, ⟨⟨rfl, .refl _, rfl⟩, trivial⟩⟩⟩, rfl⟩
      refine sk' ?_
      refine AEx.wk ?_ (ih6 _ _ _ _ hh)
      exact ⟨⟨⟨.rfl, rfl⟩, ⟨⟨.rfl, rfl⟩, ⟨⟨.rfl, rfl⟩, trivial⟩⟩⟩, ⟨⟨rfl, Nat.le_of_ble_eq_true rfl⟩, ⟨rfl, ⟨⟨rfl, .refl _, rfl⟩, trivial⟩⟩⟩, rfl⟩
    refine s' rfl rfl (q' rfl (q' rfl (n' ?_)))
    refine ci' rfl hh (fun hh => ?_) (fun hh => ?_)
    · obtain ⟨x13, hx13, hh⟩ := bs' hh
      obtain ⟨x22, hx22, hh⟩ := bs' hh
      obtain ⟨x23, hx23, hh⟩ := bs' hh
      obtain ⟨x24, hx24, hh⟩ := bs' hh
      obtain ⟨x25, hx25, hh⟩ := bs' hh
      obtain ⟨x26, hx26, hh⟩ := bs' hh
      obtain ⟨x27, hx27, hh⟩ := bs' hh
      obtain ⟨x28, hx28, hh⟩ := bs' hh
      refine s' rfl rfl (q' rfl (q' rfl (q' rfl (i' rfl (idx_nat hx13) (ApiExpr.idx hx13) rfl (q' rfl (AOps.g [0, 1] rfl (ih5 _ _ _ _ hx22) ⟨.rfl, ⟨.rfl, ⟨.rfl, trivial⟩⟩⟩ rfl ⟨rfl, ⟨rfl, trivial⟩⟩ rfl rfl (n' (s' rfl rfl (q' rfl (q' rfl (q' rfl (AOps.g [0, 1] rfl (X_WriteString_SyntaxPrinter_ok hx23) ⟨.rfl, ⟨.rfl, trivial⟩⟩ rfl ⟨rfl, ⟨rfl, trivial⟩⟩ rfl rfl (n' ?_)))))))))))))
      refine s' rfl rfl (q' rfl (q' rfl (q' rfl (i' rfl (idx_nat hx24) (ApiExpr.idx hx24) rfl (q' rfl (AOps.g [0, 1] rfl (ih0 _ _ _ hx25) ⟨.rfl, ⟨.rfl, trivial⟩⟩ rfl ⟨rfl, ⟨rfl, trivial⟩⟩ rfl rfl (n' (s' rfl rfl (q' rfl (q' rfl (q' rfl (AOps.g [0, 1] rfl (X_WriteString_SyntaxPrinter_ok hx26) ⟨.rfl, ⟨.rfl, trivial⟩⟩ rfl ⟨rfl, ⟨rfl, trivial⟩⟩ rfl rfl (n' ?_)))))))))))))
      refine R' rfl rfl (q' rfl (q' rfl (q' rfl (i' rfl (idx_nat hx27) (ApiExpr.idx hx27) rfl (q' rfl (AOps.g [0, 1] rfl (ih0 _ _ _ hx28) ⟨.rfl, ⟨.rfl, trivial⟩⟩ rfl ⟨rfl, ⟨rfl, trivial⟩⟩ rfl rfl (n' ?_)))))))
      obtain rfl := oi' hh
      exact ⟨_, _, [.bld 1 86, .buf 5 x28], rfl, .rfl, ⟨⟨rfl, Nat.le_of_ble_eq_true rfl⟩, ⟨rfl, trivial⟩⟩, rfl, rfl, rfl, rfl⟩
    obtain ⟨x29, hx29, hh⟩ := bs' hh
    refine R' rfl rfl (q' rfl (q' rfl (AOps.g [0, 1] rfl (ih3 _ _ _ hx29) ⟨.rfl, ⟨.rfl, trivial⟩⟩ rfl ⟨rfl, ⟨rfl, trivial⟩⟩ rfl rfl (n' ?_))))
    obtain rfl := oi' hh
    exact ⟨_, _, [.bld 1 86, .buf 5 x29], rfl, .rfl, ⟨⟨rfl, Nat.le_of_ble_eq_true rfl⟩, ⟨rfl, trivial⟩⟩, rfl, rfl, rfl, rfl⟩
  · intro g4 ih4 e b res hh
    refine ACall.intro hC Tryz.func93 rfl rfl rfl ?_
    obtain ⟨x1, hx1, hh⟩ := bs' hh
    refine s' rfl rfl (AOps.n hC rfl (n' (s' rfl rfl (q' rfl (q' rfl (AOps.c rfl rfl (syntax_level_ok hx1) (q' rfl (n' (s' rfl rfl (q' rfl (q' rfl (n' (S' ?_)))))))))))))
    refine s' rfl rfl (q' rfl (q' rfl (n' ?_)))
    refine ci' rfl hh (fun hh => ?_) (fun hh => ?_)
    · refine R' rfl rfl (q' rfl (n' ?_))
      refine AEx.wk ?_ (ih4 _ _ _ _ _ hh)
      exact ⟨⟨⟨.rfl, rfl⟩, ⟨⟨.rfl, rfl⟩, ⟨⟨.rfl, rfl⟩, ⟨⟨.rfl, rfl⟩, trivial⟩⟩⟩⟩, ⟨⟨rfl, Nat.le_of_ble_eq_true rfl⟩, ⟨rfl, ⟨⟨rfl, .refl _, rfl⟩, trivial⟩⟩⟩, rfl⟩
    refine sk' ?_
    refine AEx.wk ?_ (ih4 _ _ _ _ _ hh)
    exact ⟨⟨⟨.rfl, rfl⟩, ⟨⟨.rfl, rfl⟩, ⟨⟨.rfl, rfl⟩, ⟨⟨.rfl, rfl⟩, trivial⟩⟩⟩⟩, ⟨⟨rfl, Nat.le_of_ble_eq_true rfl⟩, ⟨rfl, ⟨⟨rfl, .refl _, rfl⟩, trivial⟩⟩⟩, rfl⟩
  · intro g5 ih5 e b x1 left res hh
    obtain ⟨x2, hx2, hh⟩ := bs' hh
    obtain ⟨x3, hx3, hh⟩ := bs' hh
    obtain ⟨x4, hx4, hh⟩ := bs' hh
    obtain ⟨c5, hh⟩ := asrt_some hh
    obtain ⟨c6, hh⟩ := asrt_some hh
    obtain ⟨x5, hx5, hh⟩ := bs' hh
    obtain ⟨x6, hx6, hh⟩ := bs' hh
    obtain ⟨x7, hx7, hh⟩ := bs' hh
    refine s' rfl rfl (q' rfl (q' rfl (q' rfl (i' rfl (idx_nat hx2) (ApiExpr.idx hx2) rfl (q' rfl (q' rfl (AOps.g [0, 1] rfl (ih5 _ _ _ _ hx3) ⟨.rfl, ⟨.rfl, ⟨.rfl, trivial⟩⟩⟩ rfl ⟨rfl, ⟨rfl, trivial⟩⟩ rfl rfl (n' (S' (AEx.draw hC 10 rfl rfl rfl (Q' rfl (Q' rfl (Q' rfl ?_)))))))))))))
    refine Q' rfl (Q' rfl (Q' rfl (AQ.ig hC rfl (idx_nat hx4) (tab_get (f := D.str) hx4).1 (tab_get (f := D.str) hx4).2 (Q' rfl (AQ.q hC rfl c5 (AQ.q hC rfl c6 (Qn' (AOps.g [0, 1] rfl (X_WriteString_SyntaxPrinter_ok hx5) ⟨.rfl, ⟨.rfl, trivial⟩⟩ rfl ⟨rfl, ⟨rfl, trivial⟩⟩ rfl rfl (n' (R' rfl rfl (q' rfl (q' rfl (q' rfl ?_)))))))))))))
    refine i' rfl (idx_nat hx6) (ApiExpr.idx hx6) rfl (q' rfl (q' rfl (q' rfl (AOps.g [0, 1] rfl (ih5 _ _ _ _ hx7) ⟨.rfl, ⟨.rfl, ⟨.rfl, trivial⟩⟩⟩ rfl ⟨rfl, ⟨rfl, trivial⟩⟩ rfl rfl (n' ?_)))))
    obtain rfl := oi' hh
    exact ⟨_, _, [.bld 1 86, .buf 5 x7], rfl, .rfl, ⟨⟨rfl, Nat.le_of_ble_eq_true rfl⟩, ⟨rfl, trivial⟩⟩, rfl, rfl, rfl, rfl⟩
  · intro g0 ih0 e required b res hh
    refine ACall.intro hC Tryz.func91 rfl rfl rfl ?_
    obtain ⟨x1, hx1, hh⟩ := bs' hh
    refine s' rfl rfl (AOps.n hC rfl (n' (S' (s' rfl rfl (q' rfl (q' rfl (AOps.c rfl rfl (syntax_level_ok hx1) (q' rfl (q' rfl (n' ?_))))))))))
    refine ci' rfl hh (fun hh => ?_) (fun hh => ?_)
    · obtain ⟨x3, hx3, hh⟩ := bs' hh
      refine s' rfl rfl (q' rfl (q' rfl (AOps.g [0, 1] rfl (ih0 _ _ _ hx3) ⟨.rfl, ⟨.rfl, trivial⟩⟩ rfl ⟨rfl, ⟨rfl, trivial⟩⟩ rfl rfl (n' (re' ?_)))))
      obtain rfl := oi' hh
      exact ⟨_, _, [.bld 1 86, .buf 5 x3], rfl, .rfl, ⟨⟨rfl, Nat.le_of_ble_eq_true rfl⟩, ⟨rfl, trivial⟩⟩, rfl, rfl, rfl, rfl⟩
    obtain ⟨x2, hx2, hh⟩ := bs' hh
    obtain ⟨x4, hx4, hh⟩ := bs' hh
    obtain ⟨x5, hx5, hh⟩ := bs' hh
    refine sk' (s' rfl rfl (q' rfl (q' rfl (q' rfl (AOps.g [0, 1] rfl (X_WriteString_SyntaxPrinter_ok hx2) ⟨.rfl, ⟨.rfl, trivial⟩⟩ rfl ⟨rfl, ⟨rfl, trivial⟩⟩ rfl rfl (n' (s' rfl rfl (q' rfl (q' rfl (AOps.g [0, 1] rfl (ih0 _ _ _ hx4) ⟨.rfl, ⟨.rfl, trivial⟩⟩ rfl ⟨rfl, ⟨rfl, trivial⟩⟩ rfl rfl (n' (R' rfl rfl (q' rfl ?_)))))))))))))
    refine q' rfl (q' rfl (AOps.g [0, 1] rfl (X_WriteString_SyntaxPrinter_ok hx5) ⟨.rfl, ⟨.rfl, trivial⟩⟩ rfl ⟨rfl, ⟨rfl, trivial⟩⟩ rfl rfl (n' ?_)))
    obtain rfl := oi' hh
    exact ⟨_, _, [.bld 1 86, .buf 5 x5.2], rfl, .rfl, ⟨⟨rfl, Nat.le_of_ble_eq_true rfl⟩, ⟨rfl, trivial⟩⟩, rfl, rfl, rfl, rfl⟩
  · intro g7 ih7 e b word res hh
    obtain ⟨x10, hx10, hh⟩ := bs' hh
    obtain ⟨x11, hx11, hh⟩ := bs' hh
    obtain ⟨x12, hx12, hh⟩ := bs' hh
    refine s' rfl rfl (q' rfl (q' rfl (q' rfl (q' rfl (AOps.g [0, 1] rfl (X_WriteString_SyntaxPrinter_ok hx10) ⟨.rfl, ⟨.rfl, trivial⟩⟩ rfl ⟨rfl, ⟨rfl, trivial⟩⟩ rfl rfl (n' (s' rfl rfl (q' rfl (q' rfl (q' rfl (AOps.g [0, 1] rfl (ih7 _ _ _ hx11) ⟨.rfl, ⟨.rfl, trivial⟩⟩ rfl ⟨rfl, ⟨rfl, trivial⟩⟩ rfl rfl (n' (R' rfl rfl ?_)))))))))))))
    refine q' rfl (q' rfl (q' rfl (AOps.g [0, 1] rfl (X_WriteString_SyntaxPrinter_ok hx12) ⟨.rfl, ⟨.rfl, trivial⟩⟩ rfl ⟨rfl, ⟨rfl, trivial⟩⟩ rfl rfl (n' ?_))))
    obtain rfl := oi' hh
    exact ⟨_, _, [.bld 1 86, .buf 5 x12.2], rfl, .rfl, ⟨⟨rfl, Nat.le_of_ble_eq_true rfl⟩, ⟨rfl, trivial⟩⟩, rfl, rfl, rfl, rfl⟩
  · intro g8 ih8 l b res hh
    refine ACall.intro hC Tryz.func92 rfl rfl rfl ?_
    refine s' rfl rfl (q' rfl (qe' rfl trivial (ApiExpr.lenA _) (q' rfl (n' (AEx.block ?_)))))
    refine AEx.ofLoop ?_
    refine ALoop.wk ?_ (ih8 _ _ _ _ hh)
    exact ⟨⟨⟨.rfl, rfl⟩, ⟨⟨.rfl, rfl⟩, ⟨⟨.rfl, rfl⟩, ⟨⟨.rfl, rfl⟩, trivial⟩⟩⟩⟩, ⟨⟨rfl, Nat.le_of_ble_eq_true rfl⟩, ⟨rfl, trivial⟩⟩, rfl⟩
  · intro g0 g8 ih0 ih8 l b1 v8 res hh
    refine ALoop.unroll ?_
    refine s' rfl rfl (q' rfl (n' (S' ?_)))
    refine ci' rfl hh (fun hh => ?_) (fun hh => ?_)
    · obtain ⟨x1, hx1, hh⟩ := bs' hh
      refine sk' (S' (AEx.block (s' rfl rfl (q' rfl (i' rfl (idx_nat hx1) (ApiExpr.idx hx1) rfl (q' rfl (AOps.nf hC rfl (q' rfl (AOps.s hC rfl (n' (S' (s' rfl rfl (q' rfl ?_)))))))))))))
      refine q' rfl (n' ?_)
      refine ci' rfl hh (fun hh => ?_) (fun hh => ?_)
      · obtain ⟨x3, hx3, hh⟩ := bs' hh
        obtain ⟨x2, hx2, hh⟩ := bs' hh
        refine R' rfl rfl (q' rfl (q' rfl (q' rfl (AOps.g [0, 1] rfl (X_WriteString_SyntaxPrinter_ok hx3) ⟨.rfl, ⟨.rfl, trivial⟩⟩ rfl ⟨rfl, ⟨rfl, trivial⟩⟩ rfl rfl (n' (R' rfl rfl (q' rfl (q' rfl (AOps.g [0, 1] rfl (ih0 _ _ _ hx2) ⟨.rfl, ⟨.rfl, trivial⟩⟩ rfl ⟨rfl, ⟨rfl, trivial⟩⟩ rfl rfl (n' (R' rfl rfl (q' rfl (q' rfl ?_)))))))))))))
        refine n' ?_
        refine ALoop.wk ?_ (ih8 _ _ _ _ hh)
        exact ⟨⟨⟨.rfl, rfl⟩, ⟨⟨.rfl, rfl⟩, ⟨⟨.rfl, rfl⟩, ⟨⟨.rfl, rfl⟩, trivial⟩⟩⟩⟩, ⟨⟨rfl, Nat.le_of_ble_eq_true rfl⟩, ⟨rfl, trivial⟩⟩, rfl⟩
      obtain ⟨x2, hx2, hh⟩ := bs' hh
      refine sk' (R' rfl rfl (q' rfl (q' rfl (AOps.g [0, 1] rfl (ih0 _ _ _ hx2) ⟨.rfl, ⟨.rfl, trivial⟩⟩ rfl ⟨rfl, ⟨rfl, trivial⟩⟩ rfl rfl (n' (R' rfl rfl (q' rfl (q' rfl (n' ?_)))))))))
      refine ALoop.wk ?_ (ih8 _ _ _ _ hh)
      exact ⟨⟨⟨.rfl, rfl⟩, ⟨⟨.rfl, rfl⟩, ⟨⟨.rfl, rfl⟩, ⟨⟨.rfl, rfl⟩, trivial⟩⟩⟩⟩, ⟨⟨rfl, Nat.le_of_ble_eq_true rfl⟩, ⟨rfl, trivial⟩⟩, rfl⟩
    refine ex' ?_
    obtain rfl := oi' hh
    exact ⟨_, _, [.bld 1 86, .buf 5 b1], rfl, .rfl, ⟨⟨rfl, Nat.le_of_ble_eq_true rfl⟩, ⟨rfl, trivial⟩⟩, rfl, rfl, rfl, rfl⟩
  · intro g5 ih5 e b sign res hh
    obtain ⟨x8, hx8, hh⟩ := bs' hh
    obtain ⟨x9, hx9, hh⟩ := bs' hh
    obtain ⟨x21, hx21, hh⟩ := bs' hh
    refine s' rfl rfl (q' rfl (q' rfl (q' rfl (q' rfl (AOps.g [0, 1] rfl (X_WriteString_SyntaxPrinter_ok hx8) ⟨.rfl, ⟨.rfl, trivial⟩⟩ rfl ⟨rfl, ⟨rfl, trivial⟩⟩ rfl rfl (n' (R' rfl rfl (q' rfl (q' rfl (q' rfl (i' rfl (idx_nat hx9) (ApiExpr.idx hx9) rfl (q' rfl (AOps.g [0, 1] rfl (ih5 _ _ _ _ hx21) ⟨.rfl, ⟨.rfl, ⟨.rfl, trivial⟩⟩⟩ rfl ⟨rfl, ⟨rfl, trivial⟩⟩ rfl rfl ?_)))))))))))))
    refine n' ?_
    obtain rfl := oi' hh
    exact ⟨_, _, [.bld 1 86, .buf 5 x21], rfl, .rfl, ⟨⟨rfl, Nat.le_of_ble_eq_true rfl⟩, ⟨rfl, trivial⟩⟩, rfl, rfl, rfl, rfl⟩
theorem syntax_printer_expr_ok {e : ApiExpr} {b : Str} {res : Str} (hh : syntax_printer_expr e b = some res) : syntax_printer_expr_m e b res := (syntax_printer_expr_grp).1 _ _ _ hh
theorem syntax_printer_expr_j1_ok {e : ApiExpr} {b : Str} {v77 : Bool} {res : Str} (hh : syntax_printer_expr_j1 e b v77 = some res) : syntax_printer_expr_j1_m e b v77 res := (syntax_printer_expr_grp).2.1 _ _ _ _ hh
theorem syntax_printer_expr_j3_ok {e : ApiExpr} {b : Str} {v94 : Bool} {res : Str} (hh : syntax_printer_expr_j3 e b v94 = some res) : syntax_printer_expr_j3_m e b v94 res := (syntax_printer_expr_grp).2.2.1 _ _ _ _ hh
theorem syntax_printer_binary_ok {e : ApiExpr} {b : Str} {res : Str} (hh : syntax_printer_binary e b = some res) : syntax_printer_binary_m e b res := (syntax_printer_expr_grp).2.2.2.1 _ _ _ hh
theorem syntax_printer_binary_j1_ok {e : ApiExpr} {b : Str} {x1 : Int} {left : Int} {res : Str} (hh : syntax_printer_binary_j1 e b x1 left = some res) : syntax_printer_binary_j1_m e b x1 left res := (syntax_printer_expr_grp).2.2.2.2.1 _ _ _ _ _ hh
theorem syntax_printer_kid_ok {e : ApiExpr} {required : Int} {b : Str} {res : Str} (hh : syntax_printer_kid e required b = some res) : syntax_printer_kid_m e required b res := (syntax_printer_expr_grp).2.2.2.2.2.1 _ _ _ _ hh
theorem syntax_printer_expr_j4_ok {e : ApiExpr} {b : Str} {word : Str} {res : Str} (hh : syntax_printer_expr_j4 e b word = some res) : syntax_printer_expr_j4_m e b word res := (syntax_printer_expr_grp).2.2.2.2.2.2.1 _ _ _ _ hh
theorem syntax_printer_list_ok {l : List ApiExpr} {b : Str} {res : Str} (hh : syntax_printer_list l b = some res) : syntax_printer_list_m l b res := (syntax_printer_expr_grp).2.2.2.2.2.2.2.1 _ _ _ hh
theorem syntax_printer_list_l1_ok {l : List ApiExpr} {b1 : Str} {v8 : Int} {res : Str} (hh : syntax_printer_list_l1 l b1 v8 = some res) : syntax_printer_list_l1_m l b1 v8 res := (syntax_printer_expr_grp).2.2.2.2.2.2.2.2.1 _ _ _ _ hh
theorem syntax_printer_expr_j2_ok {e : ApiExpr} {b : Str} {sign : Str} {res : Str} (hh : syntax_printer_expr_j2 e b sign = some res) : syntax_printer_expr_j2_m e b sign res := (syntax_printer_expr_grp).2.2.2.2.2.2.2.2.2 _ _ _ _ hh
end Go.Proofs.YtmilgoloagbmpaaGreatDoor

