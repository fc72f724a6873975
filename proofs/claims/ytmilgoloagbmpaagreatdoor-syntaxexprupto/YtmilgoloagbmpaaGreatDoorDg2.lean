/- What the functions compute, and that they do: printed by gen.py. -/
import Derived.Test.YtmilgoloagbmpaaGreatDoorDg1
set_option maxRecDepth 100000
set_option maxHeartbeats 4000000
set_option linter.unusedVariables false
namespace Go.Proofs.YtmilgoloagbmpaaGreatDoor
open Go.Am
mutual
def syntax_report_decls (l : List ApiDecl) (syntaxReport : SyntaxReport) : Option SyntaxReport :=
  syntax_report_decls_l1 l syntaxReport 0
  partial_fixpoint
def syntax_report_decls_l1 (l : List ApiDecl) (o03 : SyntaxReport) (v15 : Int) : Option SyntaxReport :=
  if (decide (v15 < ((l).length : Int))) = true then
    idx l v15 >>= fun x1 =>
    syntax_declared x1.Kind >>= fun x2 =>
    syntax_report_form x2.1 (SyntaxReport.mk (IntKind.i64.wrap (o03.nodes + 1)) o03.depth o03.badForm o03.badName o03.badNumber) >>= fun x3 =>
    (if (!x2.1) = true then syntax_equalType x1.TypeV (ApiType.mk 0 0 0 0 [] [] []) else some default) >>= fun x4 =>
    if (bif x2.1 then true else (!x4)) = true then
      syntax_report_typ x1.TypeV 1 x3 >>= fun x5 =>
      syntax_report_decls_j2 l x5 x1 x2 v15
    else
      syntax_report_decls_j2 l x3 x1 x2 v15
  else
    some o03
  partial_fixpoint
def syntax_report_decls_j2 (l : List ApiDecl) (o0 : SyntaxReport) (x1 : ApiDecl) (x2 : Bool × Bool) (v151 : Int) : Option SyntaxReport :=
  syntax_report_name x1.Name o0 >>= fun x6 =>
  syntax_report_optional x1.Value x2.2 x6 >>= fun x7 =>
  syntax_report_form (bif (x1.Kind == 4) then true else (x1.Init == 0)) x7 >>= fun x8 =>
  syntax_inside x1.Init (-1048576) 1048576 >>= fun x9 =>
  (if (x9 && (!(x1.TypeV.Kind != 0))) = true then syntax_inside x1.Init 0 1 else some default) >>= fun x10 =>
  syntax_report_number (bif x9 then (bif (x1.TypeV.Kind != 0) then true else x10) else false) x8 >>= fun x11 =>
  syntax_report_form (bif (x1.Kind == 6) then true else (bif (bif (((x1.Params).length : Int) == 0) then (((x1.Vars).length : Int) == 0) else false) then (((x1.Body).length : Int) == 0) else false)) x11 >>= fun x12 =>
  syntax_report_decls_l3 l x12 x1 v151 0
  partial_fixpoint
def syntax_report_decls_l3 (l : List ApiDecl) (o01 : SyntaxReport) (x1 : ApiDecl) (v152 : Int) (v109 : Int) : Option SyntaxReport :=
  if (decide (v109 < ((x1.Params).length : Int))) = true then
    idx x1.Params v109 >>= fun x13 =>
    syntax_report_form (bif (x13.Kind == 4) then (x13.Init == 0) else false) o01 >>= fun x14 =>
    syntax_report_decls_l3 l x14 x1 v152 (IntKind.i64.wrap (v109 + 1))
  else
    syntax_report_decls_l4 l o01 x1 v152 0
  partial_fixpoint
def syntax_report_decls_l4 (l : List ApiDecl) (o02 : SyntaxReport) (x1 : ApiDecl) (v153 : Int) (v127 : Int) : Option SyntaxReport :=
  if (decide (v127 < ((x1.Vars).length : Int))) = true then
    idx x1.Vars v127 >>= fun x15 =>
    syntax_report_form (x15.Kind == 4) o02 >>= fun x16 =>
    syntax_report_decls_l4 l x16 x1 v153 (IntKind.i64.wrap (v127 + 1))
  else
    syntax_report_decls x1.Params o02 >>= fun x17 =>
    syntax_report_decls x1.Vars x17 >>= fun x18 =>
    syntax_report_stmts x1.Body 1 x18 >>= fun x19 =>
    syntax_report_decls_l1 l x19 (IntKind.i64.wrap (v153 + 1))
  partial_fixpoint
end
abbrev syntax_report_decls_m (l : List ApiDecl) (syntaxReport : SyntaxReport) (res : SyntaxReport) : Prop := ACall C 80 [.ref 0 0, .d (.sl (ApiDecl.rows l))] [.row (SyntaxReport.cells syntaxReport) 75] (fun x H' => H' = [.row (SyntaxReport.cells res) 75] ∧ x = .tup [])
abbrev syntax_report_decls_l1_m (l : List ApiDecl) (o03 : SyntaxReport) (v15 : Int) (res : SyntaxReport) : Prop := ALoop (Fx.mk C 150 1) (lo (bk (sr (bodyOf Tryz.f80)))) (mkEnv [(0, .ref 0 0), (13, .d (.sl (ApiDecl.rows l))), (14, .d (.int .i64 ((l).length : Int))), (15, .d (.int .i64 v15))]) [.row (SyntaxReport.cells o03) 75] (Am.InBlock 0 (Am.Ends (Fx.mk C 150 1) Tryz.f80.results.toList (fun x H' => H' = [.row (SyntaxReport.cells res) 75] ∧ x = .tup [])))
abbrev syntax_report_decls_j2_m (l : List ApiDecl) (o0 : SyntaxReport) (x1 : ApiDecl) (x2 : Bool × Bool) (v151 : Int) (res : SyntaxReport) : Prop := AEx (Fx.mk C 150 1) (sr (sr (sr (sr (sr (bk (sl (sr (sr (lo (bk (sr (bodyOf Tryz.f80))))))))))))) (mkEnv [(0, .ref 0 0), (5, .ref 1 0), (7, .d (.bool x2.2)), (13, .d (.sl (ApiDecl.rows l))), (14, .d (.int .i64 ((l).length : Int))), (15, .d (.int .i64 v151))]) [.row (SyntaxReport.cells o0) 75, .row (ApiDecl.cells x1) 64] (Am.InBlock 1 (Am.Then (Fx.mk C 150 1) (sr (sr (sr (lo (bk (sr (bodyOf Tryz.f80))))))) (Am.Again (Fx.mk C 150 1) (lo (bk (sr (bodyOf Tryz.f80)))) (Am.InBlock 0 (Am.Ends (Fx.mk C 150 1) Tryz.f80.results.toList (fun x H' => H' = [.row (SyntaxReport.cells res) 75] ∧ x = .tup []))))))
abbrev syntax_report_decls_l3_m (l : List ApiDecl) (o01 : SyntaxReport) (x1 : ApiDecl) (v152 : Int) (v109 : Int) (res : SyntaxReport) : Prop := ALoop (Fx.mk C 150 1) (lo (bk (sr (sl (sr (sr (sr (sr (sr (sr (sr (sr (sr (sr (sr (bk (sl (sr (sr (lo (bk (sr (bodyOf Tryz.f80))))))))))))))))))))))) (mkEnv [(0, .ref 0 0), (5, .ref 1 0), (13, .d (.sl (ApiDecl.rows l))), (14, .d (.int .i64 ((l).length : Int))), (15, .d (.int .i64 v152)), (107, .d (.sl (ApiDecl.rows x1.Params))), (108, .d (.int .i64 ((x1.Params).length : Int))), (109, .d (.int .i64 v109))]) [.row (SyntaxReport.cells o01) 75, .row (ApiDecl.cells x1) 64] (Am.InBlock 2 (Am.Then (Fx.mk C 150 1) (sr (sr (sr (sr (sr (sr (sr (sr (sr (sr (sr (sr (bk (sl (sr (sr (lo (bk (sr (bodyOf Tryz.f80)))))))))))))))))))) (Am.InBlock 1 (Am.Then (Fx.mk C 150 1) (sr (sr (sr (lo (bk (sr (bodyOf Tryz.f80))))))) (Am.Again (Fx.mk C 150 1) (lo (bk (sr (bodyOf Tryz.f80)))) (Am.InBlock 0 (Am.Ends (Fx.mk C 150 1) Tryz.f80.results.toList (fun x H' => H' = [.row (SyntaxReport.cells res) 75] ∧ x = .tup []))))))))
abbrev syntax_report_decls_l4_m (l : List ApiDecl) (o02 : SyntaxReport) (x1 : ApiDecl) (v153 : Int) (v127 : Int) (res : SyntaxReport) : Prop := ALoop (Fx.mk C 150 1) (lo (bk (sr (sl (sr (sr (sr (sr (sr (sr (sr (sr (sr (sr (sr (sr (bk (sl (sr (sr (lo (bk (sr (bodyOf Tryz.f80)))))))))))))))))))))))) (mkEnv [(0, .ref 0 0), (5, .ref 1 0), (13, .d (.sl (ApiDecl.rows l))), (14, .d (.int .i64 ((l).length : Int))), (15, .d (.int .i64 v153)), (125, .d (.sl (ApiDecl.rows x1.Vars))), (126, .d (.int .i64 ((x1.Vars).length : Int))), (127, .d (.int .i64 v127))]) [.row (SyntaxReport.cells o02) 75, .row (ApiDecl.cells x1) 64] (Am.InBlock 4 (Am.Then (Fx.mk C 150 1) (sr (sr (sr (sr (sr (sr (sr (sr (sr (sr (sr (sr (sr (bk (sl (sr (sr (lo (bk (sr (bodyOf Tryz.f80))))))))))))))))))))) (Am.InBlock 1 (Am.Then (Fx.mk C 150 1) (sr (sr (sr (lo (bk (sr (bodyOf Tryz.f80))))))) (Am.Again (Fx.mk C 150 1) (lo (bk (sr (bodyOf Tryz.f80)))) (Am.InBlock 0 (Am.Ends (Fx.mk C 150 1) Tryz.f80.results.toList (fun x H' => H' = [.row (SyntaxReport.cells res) 75] ∧ x = .tup []))))))))
theorem syntax_report_decls_grp : (∀ (l : List ApiDecl) (syntaxReport : SyntaxReport) (res : SyntaxReport), syntax_report_decls l syntaxReport = some res → syntax_report_decls_m l syntaxReport res) ∧
    (∀ (l : List ApiDecl) (o03 : SyntaxReport) (v15 : Int) (res : SyntaxReport), syntax_report_decls_l1 l o03 v15 = some res → syntax_report_decls_l1_m l o03 v15 res) ∧
    (∀ (l : List ApiDecl) (o0 : SyntaxReport) (x1 : ApiDecl) (x2 : Bool × Bool) (v151 : Int) (res : SyntaxReport), syntax_report_decls_j2 l o0 x1 x2 v151 = some res → syntax_report_decls_j2_m l o0 x1 x2 v151 res) ∧
    (∀ (l : List ApiDecl) (o01 : SyntaxReport) (x1 : ApiDecl) (v152 : Int) (v109 : Int) (res : SyntaxReport), syntax_report_decls_l3 l o01 x1 v152 v109 = some res → syntax_report_decls_l3_m l o01 x1 v152 v109 res) ∧
    (∀ (l : List ApiDecl) (o02 : SyntaxReport) (x1 : ApiDecl) (v153 : Int) (v127 : Int) (res : SyntaxReport), syntax_report_decls_l4 l o02 x1 v153 v127 = some res → syntax_report_decls_l4_m l o02 x1 v153 v127 res) := by
  refine syntax_report_decls.mutual_partial_correctness (fun l syntaxReport res => syntax_report_decls_m l syntaxReport res)
    (fun l o03 v15 res => syntax_report_decls_l1_m l o03 v15 res)
    (fun l o0 x1 x2 v151 res => syntax_report_decls_j2_m l o0 x1 x2 v151 res)
    (fun l o01 x1 v152 v109 res => syntax_report_decls_l3_m l o01 x1 v152 v109 res)
    (fun l o02 x1 v153 v127 res => syntax_report_decls_l4_m l o02 x1 v153 v127 res) ?_ ?_ ?_ ?_ ?_
  · intro g1 ih1 l syntaxReport res hh
    refine ACall.intro hC Tryz.func80 rfl rfl rfl ?_
    refine s' rfl rfl (q' rfl (qe' rfl trivial (ApiDecl.lenA _) (q' rfl (n' (AEx.block ?_)))))
    refine AEx.ofLoop ?_
    refine ALoop.wk ?_ (ih1 _ _ _ _ hh)
    exact ⟨⟨⟨.rfl, rfl⟩, ⟨⟨.rfl, rfl⟩, ⟨⟨.rfl, rfl⟩, ⟨⟨.rfl, rfl⟩, trivial⟩⟩⟩⟩, ⟨⟨rfl, .refl _, rfl⟩, trivial⟩, rfl⟩
  · intro g2 ih2 l o03 v15 res hh
    refine ALoop.unroll ?_
    refine s' rfl rfl (q' rfl (n' (S' ?_)))
    refine ci' rfl hh (fun hh => ?_) (fun hh => ?_)
    · obtain ⟨x1, hx1, hh⟩ := bs' hh
      obtain ⟨x2, hx2, hh⟩ := bs' hh
      obtain ⟨x3, hx3, hh⟩ := bs' hh
      obtain ⟨x4, hx4, hh⟩ := bs' hh
      refine sk' (S' (AEx.block (s' rfl rfl (i' rfl (idx_nat hx1) (ApiDecl.idx hx1) rfl (q' rfl (AOps.nf hC rfl (AOps.s hC rfl (n' (s' rfl rfl (q' rfl (q' rfl (q' rfl (q' rfl ?_)))))))))))))
      refine q' rfl (q' rfl (q' rfl (AOps.s hC rfl (n' (s' rfl rfl (q' rfl (q' rfl (AOps.c rfl rfl (syntax_declared_ok hx2) (q' rfl (q' rfl (q' rfl (q' rfl (q' rfl ?_)))))))))))))
      refine n' (s' rfl rfl (q' rfl (q' rfl (AOps.g [0] rfl (syntax_report_form_ok hx3) ⟨.rfl, ⟨.rfl, trivial⟩⟩ rfl ⟨rfl, trivial⟩ rfl rfl (n' (S' (sg' 8 rfl (a0' rfl (a0' rfl (a0' rfl (a1' rfl (a0' rfl (AG.c rfl rfl (fun hg => ⟨hg, hg, trivial⟩) (fun hw => syntax_equalType_ok (if_t hw hx4)) ?_)))))))))))))
      refine a1' rfl (po' rfl (an' (n' ?_)))
      refine ci' rfl hh (fun hh => ?_) (fun hh => ?_)
      · obtain ⟨x5, hx5, hh⟩ := bs' hh
        refine R' rfl rfl (q' rfl (q' rfl (q' rfl (AOps.g [0] rfl (syntax_report_typ_ok hx5) ⟨.rfl, ⟨.rfl, ⟨.rfl, trivial⟩⟩⟩ rfl ⟨rfl, trivial⟩ rfl rfl (n' ?_)))))
        refine AEx.wk ?_ (ih2 _ _ _ _ _ _ hh)
        exact ⟨⟨⟨.rfl, rfl⟩, ⟨⟨.rfl, rfl⟩, ⟨⟨.rfl, rfl⟩, ⟨⟨.rfl, rfl⟩, ⟨⟨.rfl, rfl⟩, ⟨⟨.rfl, rfl⟩, trivial⟩⟩⟩⟩⟩⟩, ⟨⟨rfl, .refl _, rfl⟩, ⟨⟨rfl, .refl _, rfl⟩, trivial⟩⟩, rfl⟩
      refine sk' ?_
      refine AEx.wk ?_ (ih2 _ _ _ _ _ _ hh)
      exact ⟨⟨⟨.rfl, rfl⟩, ⟨⟨.rfl, rfl⟩, ⟨⟨.rfl, rfl⟩, ⟨⟨.rfl, rfl⟩, ⟨⟨.rfl, rfl⟩, ⟨⟨.rfl, rfl⟩, trivial⟩⟩⟩⟩⟩⟩, ⟨⟨rfl, .refl _, rfl⟩, ⟨⟨rfl, .refl _, rfl⟩, trivial⟩⟩, rfl⟩
    refine ex' ?_
    obtain rfl := oi' hh
    exact ⟨_, _, [.row (SyntaxReport.cells o03) 75], rfl, .rfl, ⟨⟨rfl, .refl _, rfl⟩, trivial⟩, rfl, rfl, rfl, rfl⟩
  · intro g3 ih3 l o0 x1 x2 v151 res hh
    obtain ⟨x6, hx6, hh⟩ := bs' hh
    obtain ⟨x7, hx7, hh⟩ := bs' hh
    obtain ⟨x8, hx8, hh⟩ := bs' hh
    obtain ⟨x9, hx9, hh⟩ := bs' hh
    obtain ⟨x10, hx10, hh⟩ := bs' hh
    obtain ⟨x11, hx11, hh⟩ := bs' hh
    obtain ⟨x12, hx12, hh⟩ := bs' hh
    refine s' rfl rfl (q' rfl (q' rfl (q' rfl (AOps.g [0] rfl (syntax_report_name_ok hx6) ⟨.rfl, ⟨.rfl, trivial⟩⟩ rfl ⟨rfl, trivial⟩ rfl rfl (n' (s' rfl rfl (q' rfl (q' rfl (q' rfl (q' rfl (AOps.g [0] rfl (syntax_report_optional_ok hx7) ⟨.rfl, ⟨.rfl, ⟨.rfl, trivial⟩⟩⟩ rfl ⟨rfl, trivial⟩ rfl rfl (n' (sg' 9 rfl ?_)))))))))))))
    iterate 6 refine a0' rfl ?_
    refine a1' rfl (a1' rfl (po' rfl (an' (AOps.g [0] rfl (syntax_report_form_ok hx8) ⟨.rfl, ⟨.rfl, trivial⟩⟩ rfl ⟨rfl, trivial⟩ rfl rfl (n' (sg' 15 rfl (a0' rfl (a0' rfl (a0' rfl (AG.c rfl rfl (fun _ => trivial) (fun _ => syntax_inside_ok hx9) (a0' rfl (a0' rfl (a1' rfl ?_)))))))))))))
    refine a1' rfl (a1' rfl (a1' rfl (a0' rfl (a1' rfl (AG.c rfl rfl (fun hg => ⟨hg, trivial⟩) (fun hw => syntax_inside_ok (if_t hw hx10)) (pO' rfl (pa' rfl (an' (AOps.g [0] rfl (syntax_report_number_ok hx11) ⟨.rfl, ⟨.rfl, trivial⟩⟩ rfl ⟨rfl, trivial⟩ rfl rfl (n' (s' rfl rfl (q' rfl (q' rfl ?_)))))))))))))
    refine q' rfl (q' rfl (n' (sg' 20 rfl (a0' rfl (a0' rfl (a0' rfl (a0' rfl (a1' rfl (AG.qe hC rfl (fun hg => ⟨⟨hg, trivial⟩, trivial⟩) (ApiDecl.lenA _) (a1' rfl (a1' rfl (a0' rfl (a1' rfl ?_)))))))))))))
    refine AG.qe hC rfl (fun hg => ⟨⟨hg, trivial⟩, trivial⟩) (ApiDecl.lenA _) (a1' rfl (pA' rfl (a1' rfl (a0' rfl (a1' rfl (AG.qe hC rfl (fun hg => ⟨⟨hg, trivial⟩, trivial⟩) (ApiStmt.lenA _) (a1' rfl (pA' rfl (po' rfl (an' (AOps.g [0] rfl (syntax_report_form_ok hx12) ⟨.rfl, ⟨.rfl, trivial⟩⟩ rfl ⟨rfl, trivial⟩ rfl rfl (n' (S' ?_)))))))))))))
    refine s' rfl rfl (q' rfl (q' rfl (qe' rfl trivial (ApiDecl.lenA _) (q' rfl (n' (AEx.block ?_))))))
    refine AEx.ofLoop ?_
    refine ALoop.wk ?_ (ih3 _ _ _ _ _ _ hh)
    exact ⟨⟨⟨.rfl, rfl⟩, ⟨⟨.rfl, rfl⟩, ⟨⟨.rfl, rfl⟩, ⟨⟨.rfl, rfl⟩, ⟨⟨.rfl, rfl⟩, ⟨⟨.rfl, rfl⟩, ⟨⟨.rfl, rfl⟩, ⟨⟨.rfl, rfl⟩, trivial⟩⟩⟩⟩⟩⟩⟩⟩, ⟨⟨rfl, .refl _, rfl⟩, ⟨⟨rfl, .refl _, rfl⟩, trivial⟩⟩, rfl⟩
  · intro g3 g4 ih3 ih4 l o01 x1 v152 v109 res hh
    refine ALoop.unroll ?_
    refine s' rfl rfl (q' rfl (n' (S' ?_)))
    refine ci' rfl hh (fun hh => ?_) (fun hh => ?_)
    · obtain ⟨x13, hx13, hh⟩ := bs' hh
      obtain ⟨x14, hx14, hh⟩ := bs' hh
      refine sk' (S' (AEx.block (s' rfl rfl (i' rfl (idx_nat hx13) (ApiDecl.idx hx13) rfl (q' rfl (AOps.nf hC rfl (AOps.s hC rfl (n' (AEx.regionG 9 rfl (a0' rfl (a0' rfl (a0' rfl (a0' rfl ?_)))))))))))))
      refine a0' rfl (a0' rfl (a1' rfl (a1' rfl (pa' rfl (an' (AOps.g [0] rfl (syntax_report_form_ok hx14) ⟨.rfl, ⟨.rfl, trivial⟩⟩ rfl ⟨rfl, trivial⟩ rfl rfl (n' (R' rfl rfl (q' rfl (q' rfl (n' ?_)))))))))))
      refine ALoop.wk ?_ (ih3 _ _ _ _ _ _ hh)
      exact ⟨⟨⟨.rfl, rfl⟩, ⟨⟨.rfl, rfl⟩, ⟨⟨.rfl, rfl⟩, ⟨⟨.rfl, rfl⟩, ⟨⟨.rfl, rfl⟩, ⟨⟨.rfl, rfl⟩, ⟨⟨.rfl, rfl⟩, ⟨⟨.rfl, rfl⟩, trivial⟩⟩⟩⟩⟩⟩⟩⟩, ⟨⟨rfl, .refl _, rfl⟩, ⟨⟨rfl, .refl _, rfl⟩, trivial⟩⟩, rfl⟩
    refine ex' (S' (s' rfl rfl (q' rfl (q' rfl (qe' rfl trivial (ApiDecl.lenA _) (q' rfl (n' (AEx.block ?_))))))))
    refine AEx.ofLoop ?_
    refine ALoop.wk ?_ (ih4 _ _ _ _ _ _ hh)
    exact ⟨⟨⟨.rfl, rfl⟩, ⟨⟨.rfl, rfl⟩, ⟨⟨.rfl, rfl⟩, ⟨⟨.rfl, rfl⟩, ⟨⟨.rfl, rfl⟩, ⟨⟨.rfl, rfl⟩, ⟨⟨.rfl, rfl⟩, ⟨⟨.rfl, rfl⟩, trivial⟩⟩⟩⟩⟩⟩⟩⟩, ⟨⟨rfl, .refl _, rfl⟩, ⟨⟨rfl, .refl _, rfl⟩, trivial⟩⟩, rfl⟩
  · intro g0 g1 g4 ih0 ih1 ih4 l o02 x1 v153 v127 res hh
    refine ALoop.unroll ?_
    refine s' rfl rfl (q' rfl (n' (S' ?_)))
    refine ci' rfl hh (fun hh => ?_) (fun hh => ?_)
    · obtain ⟨x15, hx15, hh⟩ := bs' hh
      obtain ⟨x16, hx16, hh⟩ := bs' hh
      refine sk' (S' (AEx.block (s' rfl rfl (i' rfl (idx_nat hx15) (ApiDecl.idx hx15) rfl (q' rfl (AOps.nf hC rfl (AOps.s hC rfl (n' (R' rfl rfl (q' rfl (q' rfl (q' rfl (q' rfl ?_)))))))))))))
      refine AOps.g [0] rfl (syntax_report_form_ok hx16) ⟨.rfl, ⟨.rfl, trivial⟩⟩ rfl ⟨rfl, trivial⟩ rfl rfl (n' (R' rfl rfl (q' rfl (q' rfl (n' ?_)))))
      refine ALoop.wk ?_ (ih4 _ _ _ _ _ _ hh)
      exact ⟨⟨⟨.rfl, rfl⟩, ⟨⟨.rfl, rfl⟩, ⟨⟨.rfl, rfl⟩, ⟨⟨.rfl, rfl⟩, ⟨⟨.rfl, rfl⟩, ⟨⟨.rfl, rfl⟩, ⟨⟨.rfl, rfl⟩, ⟨⟨.rfl, rfl⟩, trivial⟩⟩⟩⟩⟩⟩⟩⟩, ⟨⟨rfl, .refl _, rfl⟩, ⟨⟨rfl, .refl _, rfl⟩, trivial⟩⟩, rfl⟩
    obtain ⟨x17, hx17, hh⟩ := bs' hh
    obtain ⟨x18, hx18, hh⟩ := bs' hh
    obtain ⟨x19, hx19, hh⟩ := bs' hh
    refine ex' (s' rfl rfl (q' rfl (q' rfl (q' rfl (AOps.g [0] rfl (ih0 _ _ _ hx17) ⟨.rfl, ⟨.rfl, trivial⟩⟩ rfl ⟨rfl, trivial⟩ rfl rfl (n' (s' rfl rfl (q' rfl (q' rfl (q' rfl (AOps.g [0] rfl (ih0 _ _ _ hx18) ⟨.rfl, ⟨.rfl, trivial⟩⟩ rfl ⟨rfl, trivial⟩ rfl rfl (n' (R' rfl rfl ?_)))))))))))))
    refine q' rfl (q' rfl (q' rfl (AOps.g [0] rfl (syntax_report_stmts_ok hx19) ⟨.rfl, ⟨.rfl, ⟨.rfl, trivial⟩⟩⟩ rfl ⟨rfl, trivial⟩ rfl rfl (n' (R' rfl rfl (q' rfl (q' rfl (n' ?_))))))))
    refine ALoop.wk ?_ (ih1 _ _ _ _ hh)
    exact ⟨⟨⟨.rfl, rfl⟩, ⟨⟨.rfl, rfl⟩, ⟨⟨.rfl, rfl⟩, ⟨⟨.rfl, rfl⟩, trivial⟩⟩⟩⟩, ⟨⟨rfl, .refl _, rfl⟩, trivial⟩, rfl⟩
theorem syntax_report_decls_ok {l : List ApiDecl} {syntaxReport : SyntaxReport} {res : SyntaxReport} (hh : syntax_report_decls l syntaxReport = some res) : syntax_report_decls_m l syntaxReport res := (syntax_report_decls_grp).1 _ _ _ hh
theorem syntax_report_decls_l1_ok {l : List ApiDecl} {o03 : SyntaxReport} {v15 : Int} {res : SyntaxReport} (hh : syntax_report_decls_l1 l o03 v15 = some res) : syntax_report_decls_l1_m l o03 v15 res := (syntax_report_decls_grp).2.1 _ _ _ _ hh
theorem syntax_report_decls_j2_ok {l : List ApiDecl} {o0 : SyntaxReport} {x1 : ApiDecl} {x2 : Bool × Bool} {v151 : Int} {res : SyntaxReport} (hh : syntax_report_decls_j2 l o0 x1 x2 v151 = some res) : syntax_report_decls_j2_m l o0 x1 x2 v151 res := (syntax_report_decls_grp).2.2.1 _ _ _ _ _ _ hh
theorem syntax_report_decls_l3_ok {l : List ApiDecl} {o01 : SyntaxReport} {x1 : ApiDecl} {v152 : Int} {v109 : Int} {res : SyntaxReport} (hh : syntax_report_decls_l3 l o01 x1 v152 v109 = some res) : syntax_report_decls_l3_m l o01 x1 v152 v109 res := (syntax_report_decls_grp).2.2.2.1 _ _ _ _ _ _ hh
theorem syntax_report_decls_l4_ok {l : List ApiDecl} {o02 : SyntaxReport} {x1 : ApiDecl} {v153 : Int} {v127 : Int} {res : SyntaxReport} (hh : syntax_report_decls_l4 l o02 x1 v153 v127 = some res) : syntax_report_decls_l4_m l o02 x1 v153 v127 res := (syntax_report_decls_grp).2.2.2.2 _ _ _ _ _ _ hh
def syntax_program (p : ApiProgram) : Option SyntaxReport :=
  syntax_report_decls p.Decls (SyntaxReport.mk 0 0 false false false) >>= fun x1 =>
  syntax_report_stmts p.Body 1 x1 >>= fun x2 =>
  some x2
abbrev syntax_program_m (p : ApiProgram) (res : SyntaxReport) : Prop := ACall C 38 [.agg (ApiProgram.cells p)] [] (fun x H' => H' = [.dead, .row (SyntaxReport.cells res) 75] ∧ x = .ref 1 0)
theorem syntax_program_ok {p : ApiProgram} {res : SyntaxReport} (hh : syntax_program p = some res) : syntax_program_m p res := by
  unfold syntax_program at hh
  refine ACall.intro hC Tryz.func38 rfl rfl rfl ?_
  obtain ⟨x1, hx1, hh⟩ := bs' hh
  obtain ⟨x2, hx2, hh⟩ := bs' hh
  refine s' rfl rfl (AOps.n hC rfl (q' rfl (n' (s' rfl rfl (q' rfl (AOps.n hC rfl (q' rfl (n' (s' rfl rfl (q' rfl (q' rfl (q' rfl (AOps.g [1] rfl (syntax_report_decls_ok hx1) ⟨.rfl, ⟨.rfl, trivial⟩⟩ rfl ⟨rfl, trivial⟩ rfl rfl ?_)))))))))))))
  refine n' (s' rfl rfl (q' rfl (q' rfl (q' rfl (AOps.g [1] rfl (syntax_report_stmts_ok hx2) ⟨.rfl, ⟨.rfl, ⟨.rfl, trivial⟩⟩⟩ rfl ⟨rfl, trivial⟩ rfl rfl (n' (s' rfl rfl (q' rfl (q' rfl (n' (re' ?_)))))))))))
  obtain rfl := oi' hh
  exact ⟨_, _, [.dead, .row (SyntaxReport.cells x2) 75], rfl, .rfl, ⟨trivial, ⟨⟨rfl, .refl _, rfl⟩, trivial⟩⟩, rfl, rfl, rfl, rfl⟩
def syntax_Check (p : ApiProgram) : Option Int :=
  syntax_program p >>= fun x1 =>
  syntax_report_code x1 >>= fun x2 =>
  some x2
abbrev syntax_Check_m (p : ApiProgram) (res : Int) : Prop := ACall C 14 [.agg (ApiProgram.cells p)] [] (fun x H' => H' = [] ∧ x = .d (.int .i64 res))
theorem syntax_Check_ok {p : ApiProgram} {res : Int} (hh : syntax_Check p = some res) : syntax_Check_m p res := by
  unfold syntax_Check at hh
  refine ACall.intro hC Tryz.func14 rfl rfl rfl ?_
  obtain ⟨x1, hx1, hh⟩ := bs' hh
  obtain ⟨x2, hx2, hh⟩ := bs' hh
  refine s' rfl rfl (AOps.n hC rfl (q' rfl (n' (s' rfl rfl (q' rfl (AOps.g [] rfl (syntax_program_ok hx1) ⟨.rfl, trivial⟩ rfl trivial rfl rfl (AOps.g [2] rfl (syntax_report_code_ok hx2) ⟨.rfl, trivial⟩ rfl ⟨rfl, trivial⟩ rfl rfl (q' rfl (n' (re' ?_))))))))))
  obtain rfl := oi' hh
  exact ⟨_, _, [], rfl, .rfl, trivial, rfl, rfl, rfl, rfl⟩
mutual
def syntax_printer_typ (t : ApiType) (b : Str) : Option Str :=
  if (t.Kind == 0) = true then
    X_WriteString_SyntaxPrinter [98, 111, 111, 108] b >>= fun x1 =>
    some x1.2
  else
    if (t.Kind == 1) = true then
      X_Itoa t.Low >>= fun x2 =>
      if (decide (4 + x2.length ≤ maxLen)) = true then
        if (decide (([105, 110, 116, 91] ++ x2).length + 2 ≤ maxLen)) = true then
          X_Itoa t.High >>= fun x3 =>
          if (decide ((([105, 110, 116, 91] ++ x2) ++ [46, 46]).length + x3.length ≤ maxLen)) = true then
            if (decide (((([105, 110, 116, 91] ++ x2) ++ [46, 46]) ++ x3).length + 1 ≤ maxLen)) = true then
              X_WriteString_SyntaxPrinter (((([105, 110, 116, 91] ++ x2) ++ [46, 46]) ++ x3) ++ [93]) b >>= fun x4 =>
              some x4.2
            else none
          else none
        else none
      else none
    else
      if (t.Kind == 2) = true then
        X_Itoa t.Size >>= fun x5 =>
        if (decide (6 + x5.length ≤ maxLen)) = true then
          if (decide (([97, 114, 114, 97, 121, 32] ++ x5).length + 4 ≤ maxLen)) = true then
            X_WriteString_SyntaxPrinter (([97, 114, 114, 97, 121, 32] ++ x5) ++ [32, 111, 102, 32]) b >>= fun x6 =>
            idx t.Of 0 >>= fun x7 =>
            syntax_printer_typ x7 x6.2 >>= fun x14 =>
            some x14
          else none
        else none
      else
        if (t.Kind == 3) = true then
          X_WriteString_SyntaxPrinter [114, 101, 99, 111, 114, 100, 32, 123] b >>= fun x8 =>
          syntax_printer_typ_l1 t x8.2 0
        else
          if (t.Kind == 4) = true then
            X_WriteString_SyntaxPrinter t.Name b >>= fun x9 =>
            some x9.2
          else
            some b
  partial_fixpoint
def syntax_printer_typ_l1 (t : ApiType) (b1 : Str) (v56 : Int) : Option Str :=
  if (decide (v56 < ((t.Of).length : Int))) = true then
    idx t.Of v56 >>= fun x10 =>
    if (decide (v56 > 0)) = true then
      X_WriteString_SyntaxPrinter [44, 32] b1 >>= fun x16 =>
      syntax_printer_typ_j2 t x16.2 x10 v56 v56
    else
      syntax_printer_typ_j2 t b1 x10 v56 v56
  else
    X_WriteString_SyntaxPrinter [125] b1 >>= fun x13 =>
    some x13.2
  partial_fixpoint
def syntax_printer_typ_j2 (t : ApiType) (b11 : Str) (x10 : ApiType) (i : Int) (v561 : Int) : Option Str :=
  idx t.Names i >>= fun x11 =>
  if (decide (x11.length + 2 ≤ maxLen)) = true then
    X_WriteString_SyntaxPrinter (x11 ++ [58, 32]) b11 >>= fun x12 =>
    syntax_printer_typ x10 x12.2 >>= fun x15 =>
    syntax_printer_typ_l1 t x15 (IntKind.i64.wrap (v561 + 1))
  else none
  partial_fixpoint
end
abbrev syntax_printer_typ_m (t : ApiType) (b : Str) (res : Str) : Prop := ACall C 58 [.ref 0 0, .agg (ApiType.cells t)] [.bld 1 86, .buf 5 b] (fun x H' => H' = [.bld 1 86, .buf 5 res] ∧ x = .tup [])
abbrev syntax_printer_typ_l1_m (t : ApiType) (b1 : Str) (v56 : Int) (res : Str) : Prop := ALoop (Fx.mk C 93 2) (lo (bk (sr (sl (sr (ca (sr (cb (sr (cb (sr (cb (sr (bk (sr (sr (bodyOf Tryz.f58))))))))))))))))) (mkEnv [(0, .ref 0 0), (3, .ref 2 0), (54, .d (.sl (ApiType.rows t.Of))), (55, .d (.int .i64 ((t.Of).length : Int))), (56, .d (.int .i64 v56))]) [.bld 1 86, .buf 5 b1, .row (ApiType.cells t) 48] (Am.InBlock 1 (Am.Then (Fx.mk C 93 2) (sr (sr (ca (sr (cb (sr (cb (sr (cb (sr (bk (sr (sr (bodyOf Tryz.f58)))))))))))))) (Am.InBlock 0 (Am.Ends (Fx.mk C 93 2) Tryz.f58.results.toList (fun x H' => H' = [.bld 1 86, .buf 5 res] ∧ x = .tup [])))))
abbrev syntax_printer_typ_j2_m (t : ApiType) (b11 : Str) (x10 : ApiType) (i : Int) (v561 : Int) (res : Str) : Prop := AEx (Fx.mk C 93 2) (sr (sr (bk (sl (sr (sr (lo (bk (sr (sl (sr (ca (sr (cb (sr (cb (sr (cb (sr (bk (sr (sr (bodyOf Tryz.f58))))))))))))))))))))))) (mkEnv [(0, .ref 0 0), (3, .ref 2 0), (4, .d (.int .i64 i)), (5, .ref 3 0), (54, .d (.sl (ApiType.rows t.Of))), (55, .d (.int .i64 ((t.Of).length : Int))), (56, .d (.int .i64 v561))]) [.bld 1 86, .buf 5 b11, .row (ApiType.cells t) 48, .row (ApiType.cells x10) 48] (Am.InBlock 2 (Am.Then (Fx.mk C 93 2) (sr (sr (sr (lo (bk (sr (sl (sr (ca (sr (cb (sr (cb (sr (cb (sr (bk (sr (sr (bodyOf Tryz.f58)))))))))))))))))))) (Am.Again (Fx.mk C 93 2) (lo (bk (sr (sl (sr (ca (sr (cb (sr (cb (sr (cb (sr (bk (sr (sr (bodyOf Tryz.f58))))))))))))))))) (Am.InBlock 1 (Am.Then (Fx.mk C 93 2) (sr (sr (ca (sr (cb (sr (cb (sr (cb (sr (bk (sr (sr (bodyOf Tryz.f58)))))))))))))) (Am.InBlock 0 (Am.Ends (Fx.mk C 93 2) Tryz.f58.results.toList (fun x H' => H' = [.bld 1 86, .buf 5 res] ∧ x = .tup []))))))))
theorem syntax_printer_typ_grp : (∀ (t : ApiType) (b : Str) (res : Str), syntax_printer_typ t b = some res → syntax_printer_typ_m t b res) ∧
    (∀ (t : ApiType) (b1 : Str) (v56 : Int) (res : Str), syntax_printer_typ_l1 t b1 v56 = some res → syntax_printer_typ_l1_m t b1 v56 res) ∧
    (∀ (t : ApiType) (b11 : Str) (x10 : ApiType) (i : Int) (v561 : Int) (res : Str), syntax_printer_typ_j2 t b11 x10 i v561 = some res → syntax_printer_typ_j2_m t b11 x10 i v561 res) := by
  refine syntax_printer_typ.mutual_partial_correctness (fun t b res => syntax_printer_typ_m t b res)
    (fun t b1 v56 res => syntax_printer_typ_l1_m t b1 v56 res)
    (fun t b11 x10 i v561 res => syntax_printer_typ_j2_m t b11 x10 i v561 res) ?_ ?_ ?_
  · intro g0 g1 ih0 ih1 t b res hh
    refine ACall.intro hC Tryz.func58 rfl rfl rfl ?_
    refine s' rfl rfl (AOps.n hC rfl (n' (s' rfl rfl (q' rfl (q' rfl (n' (AEx.block (s' rfl rfl (q' rfl (q' rfl (n' ?_)))))))))))
    refine ci' rfl hh (fun hh => ?_) (fun hh => ?_)
    · obtain ⟨x1, hx1, hh⟩ := bs' hh
      refine R' rfl rfl (q' rfl (q' rfl (q' rfl (AOps.g [0, 1] rfl (X_WriteString_SyntaxPrinter_ok hx1) ⟨.rfl, ⟨.rfl, trivial⟩⟩ rfl ⟨rfl, ⟨rfl, trivial⟩⟩ rfl rfl (n' ?_)))))
      obtain rfl := oi' hh
      exact ⟨_, _, [.bld 1 86, .buf 5 x1.2], rfl, .rfl, ⟨⟨rfl, Nat.le_of_ble_eq_true rfl⟩, ⟨rfl, trivial⟩⟩, rfl, rfl, rfl, rfl⟩
    refine s' rfl rfl (q' rfl (q' rfl (n' ?_)))
    refine ci' rfl hh (fun hh => ?_) (fun hh => ?_)
    · obtain ⟨x2, hx2, hh⟩ := bs' hh
      obtain ⟨c49, hh⟩ := asrt_some hh
      obtain ⟨c50, hh⟩ := asrt_some hh
      obtain ⟨x3, hx3, hh⟩ := bs' hh
      obtain ⟨c51, hh⟩ := asrt_some hh
      obtain ⟨c52, hh⟩ := asrt_some hh
      obtain ⟨x4, hx4, hh⟩ := bs' hh
      refine AEx.draw hC 13 rfl rfl rfl (Q' rfl (Q' rfl (Q' rfl (Q' rfl (Q' rfl (AQ.c rfl rfl (X_Itoa_ok hx2) (AQ.q hC rfl c49 (AQ.q hC rfl c50 (Q' rfl (Q' rfl (AQ.c rfl rfl (X_Itoa_ok hx3) (AQ.q hC rfl c51 (AQ.q hC rfl c52 ?_)))))))))))))
      refine Qn' (AOps.g [0, 1] rfl (X_WriteString_SyntaxPrinter_ok hx4) ⟨.rfl, ⟨.rfl, trivial⟩⟩ rfl ⟨rfl, ⟨rfl, trivial⟩⟩ rfl rfl (n' ?_))
      obtain rfl := oi' hh
      exact ⟨_, _, [.bld 1 86, .buf 5 x4.2], rfl, .rfl, ⟨⟨rfl, Nat.le_of_ble_eq_true rfl⟩, ⟨rfl, trivial⟩⟩, rfl, rfl, rfl, rfl⟩
    refine s' rfl rfl (q' rfl (q' rfl (n' ?_)))
    refine ci' rfl hh (fun hh => ?_) (fun hh => ?_)
    · obtain ⟨x5, hx5, hh⟩ := bs' hh
      obtain ⟨c53, hh⟩ := asrt_some hh
      obtain ⟨c54, hh⟩ := asrt_some hh
      obtain ⟨x6, hx6, hh⟩ := bs' hh
      obtain ⟨x7, hx7, hh⟩ := bs' hh
      obtain ⟨x14, hx14, hh⟩ := bs' hh
      refine S' (AEx.draw hC 8 rfl rfl rfl (Q' rfl (Q' rfl (Q' rfl (Q' rfl (Q' rfl (AQ.c rfl rfl (X_Itoa_ok hx5) (AQ.q hC rfl c53 (AQ.q hC rfl c54 (Qn' (AOps.g [0, 1] rfl (X_WriteString_SyntaxPrinter_ok hx6) ⟨.rfl, ⟨.rfl, trivial⟩⟩ rfl ⟨rfl, ⟨rfl, trivial⟩⟩ rfl rfl (n' (R' rfl rfl ?_)))))))))))))
      refine q' rfl (q' rfl (q' rfl (i' rfl (idx_nat hx7) (ApiType.idx hx7) rfl (q' rfl (AOps.g [0, 1] rfl (ih0 _ _ _ hx14) ⟨.rfl, ⟨.rfl, trivial⟩⟩ rfl ⟨rfl, ⟨rfl, trivial⟩⟩ rfl rfl (n' ?_))))))
      obtain rfl := oi' hh
      exact ⟨_, _, [.bld 1 86, .buf 5 x14], rfl, .rfl, ⟨⟨rfl, Nat.le_of_ble_eq_true rfl⟩, ⟨rfl, trivial⟩⟩, rfl, rfl, rfl, rfl⟩
    refine s' rfl rfl (q' rfl (q' rfl (n' ?_)))
    refine ci' rfl hh (fun hh => ?_) (fun hh => ?_)
    · obtain ⟨x8, hx8, hh⟩ := bs' hh
      refine s' rfl rfl (q' rfl (q' rfl (q' rfl (AOps.g [0, 1] rfl (X_WriteString_SyntaxPrinter_ok hx8) ⟨.rfl, ⟨.rfl, trivial⟩⟩ rfl ⟨rfl, ⟨rfl, trivial⟩⟩ rfl rfl (n' (S' (s' rfl rfl (q' rfl (q' rfl (qe' rfl trivial (ApiType.lenA _) (q' rfl (n' (AEx.block ?_)))))))))))))
      refine AEx.ofLoop ?_
      refine ALoop.wk ?_ (ih1 _ _ _ _ hh)
      exact ⟨⟨⟨.rfl, rfl⟩, ⟨⟨.rfl, rfl⟩, ⟨⟨.rfl, rfl⟩, ⟨⟨.rfl, rfl⟩, ⟨⟨.rfl, rfl⟩, trivial⟩⟩⟩⟩⟩, ⟨⟨rfl, Nat.le_of_ble_eq_true rfl⟩, ⟨rfl, ⟨⟨rfl, .refl _, rfl⟩, trivial⟩⟩⟩, rfl⟩
    refine s' rfl rfl (q' rfl (q' rfl (n' ?_)))
    refine ci' rfl hh (fun hh => ?_) (fun hh => ?_)
    · obtain ⟨x9, hx9, hh⟩ := bs' hh
      refine AEx.draw hC 5 rfl rfl rfl (Q' rfl (Q' rfl (Q' rfl (Q' rfl (Q' rfl (Qn' (AOps.g [0, 1] rfl (X_WriteString_SyntaxPrinter_ok hx9) ⟨.rfl, ⟨.rfl, trivial⟩⟩ rfl ⟨rfl, ⟨rfl, trivial⟩⟩ rfl rfl (n' ?_))))))))
      obtain rfl := oi' hh
      exact ⟨_, _, [.bld 1 86, .buf 5 x9.2], rfl, .rfl, ⟨⟨rfl, Nat.le_of_ble_eq_true rfl⟩, ⟨rfl, trivial⟩⟩, rfl, rfl, rfl, rfl⟩
    refine sk' ?_
    obtain rfl := oi' hh
    exact ⟨_, _, [.bld 1 86, .buf 5 b], rfl, .rfl, ⟨⟨rfl, Nat.le_of_ble_eq_true rfl⟩, ⟨rfl, trivial⟩⟩, rfl, rfl, rfl, rfl⟩
  · intro g2 ih2 t b1 v56 res hh
    refine ALoop.unroll ?_
    refine s' rfl rfl (q' rfl (n' (S' ?_)))
    refine ci' rfl hh (fun hh => ?_) (fun hh => ?_)
    · obtain ⟨x10, hx10, hh⟩ := bs' hh
      refine sk' (S' (AEx.block (s' rfl rfl (q' rfl (i' rfl (idx_nat hx10) (ApiType.idx hx10) rfl (q' rfl (AOps.nf hC rfl (q' rfl (AOps.s hC rfl (n' (S' (s' rfl rfl (q' rfl ?_)))))))))))))
      refine q' rfl (n' ?_)
      refine ci' rfl hh (fun hh => ?_) (fun hh => ?_)
      · obtain ⟨x16, hx16, hh⟩ := bs' hh
        refine R' rfl rfl (q' rfl (q' rfl (q' rfl (AOps.g [0, 1] rfl (X_WriteString_SyntaxPrinter_ok hx16) ⟨.rfl, ⟨.rfl, trivial⟩⟩ rfl ⟨rfl, ⟨rfl, trivial⟩⟩ rfl rfl (n' ?_)))))
        refine AEx.wk ?_ (ih2 _ _ _ _ _ _ hh)
        exact ⟨⟨⟨.rfl, rfl⟩, ⟨⟨.rfl, rfl⟩, ⟨⟨.rfl, rfl⟩, ⟨⟨.rfl, rfl⟩, ⟨⟨.rfl, rfl⟩, ⟨⟨.rfl, rfl⟩, ⟨⟨.rfl, rfl⟩, trivial⟩⟩⟩⟩⟩⟩⟩, ⟨⟨rfl, Nat.le_of_ble_eq_true rfl⟩, ⟨rfl, ⟨⟨rfl, .refl _, rfl⟩, ⟨⟨rfl, .refl _, rfl⟩, trivial⟩⟩⟩⟩, rfl⟩
      refine sk' ?_
      refine AEx.wk ?_ (ih2 _ _ _ _ _ _ hh)
      exact ⟨⟨⟨.rfl, rfl⟩, ⟨⟨.rfl, rfl⟩, ⟨⟨.rfl, rfl⟩, ⟨⟨.rfl, rfl⟩, ⟨⟨.rfl, rfl⟩, ⟨⟨.rfl, rfl⟩, ⟨⟨.rfl, rfl⟩, trivial⟩⟩⟩⟩⟩⟩⟩, ⟨⟨rfl, Nat.le_of_ble_eq_true rfl⟩, ⟨rfl, ⟨⟨rfl, .refl _, rfl⟩, ⟨⟨rfl, .refl _, rfl⟩, trivial⟩⟩⟩⟩, rfl⟩
    obtain ⟨x13, hx13, hh⟩ := bs' hh
    refine ex' (R' rfl rfl (q' rfl (q' rfl (q' rfl (AOps.g [0, 1] rfl (X_WriteString_SyntaxPrinter_ok hx13) ⟨.rfl, ⟨.rfl, trivial⟩⟩ rfl ⟨rfl, ⟨rfl, trivial⟩⟩ rfl rfl (n' ?_))))))
    obtain rfl := oi' hh
    exact ⟨_, _, [.bld 1 86, .buf 5 x13.2], rfl, .rfl, ⟨⟨rfl, Nat.le_of_ble_eq_true rfl⟩, ⟨rfl, trivial⟩⟩, rfl, rfl, rfl, rfl⟩
  · intro g0 g1 ih0 ih1 t b11 x10 i v561 res hh
    obtain ⟨x11, hx11, hh⟩ := bs' hh
    obtain ⟨c55, hh⟩ := asrt_some hh
    obtain ⟨x12, hx12, hh⟩ := bs' hh
    obtain ⟨x15, hx15, hh⟩ := bs' hh
    refine S' (AEx.draw hC 9 rfl rfl rfl (Q' rfl (Q' rfl (Q' rfl (Q' rfl (Q' rfl (Q' rfl (AQ.i hC rfl (idx_nat hx11) (estr.idx hx11) rfl (Q' rfl (AQ.q hC rfl c55 (Qn' (AOps.g [0, 1] rfl (X_WriteString_SyntaxPrinter_ok hx12) ⟨.rfl, ⟨.rfl, trivial⟩⟩ rfl ⟨rfl, ⟨rfl, trivial⟩⟩ rfl rfl (n' ?_)))))))))))))
    refine R' rfl rfl (q' rfl (q' rfl (AOps.g [0, 1] rfl (ih0 _ _ _ hx15) ⟨.rfl, ⟨.rfl, trivial⟩⟩ rfl ⟨rfl, ⟨rfl, trivial⟩⟩ rfl rfl (n' (R' rfl rfl (q' rfl (q' rfl (n' ?_))))))))
    refine ALoop.wk ?_ (ih1 _ _ _ _ hh)
    exact ⟨⟨⟨.rfl, rfl⟩, ⟨⟨.rfl, rfl⟩, ⟨⟨.rfl, rfl⟩, ⟨⟨.rfl, rfl⟩, ⟨⟨.rfl, rfl⟩, trivial⟩⟩⟩⟩⟩, ⟨⟨rfl, Nat.le_of_ble_eq_true rfl⟩, ⟨rfl, ⟨⟨rfl, .refl _, rfl⟩, trivial⟩⟩⟩, rfl⟩
theorem syntax_printer_typ_ok {t : ApiType} {b : Str} {res : Str} (hh : syntax_printer_typ t b = some res) : syntax_printer_typ_m t b res := (syntax_printer_typ_grp).1 _ _ _ hh
theorem syntax_printer_typ_l1_ok {t : ApiType} {b1 : Str} {v56 : Int} {res : Str} (hh : syntax_printer_typ_l1 t b1 v56 = some res) : syntax_printer_typ_l1_m t b1 v56 res := (syntax_printer_typ_grp).2.1 _ _ _ _ hh
theorem syntax_printer_typ_j2_ok {t : ApiType} {b11 : Str} {x10 : ApiType} {i : Int} {v561 : Int} {res : Str} (hh : syntax_printer_typ_j2 t b11 x10 i v561 = some res) : syntax_printer_typ_j2_m t b11 x10 i v561 res := (syntax_printer_typ_grp).2.2 _ _ _ _ _ _ hh
def syntax_printer_named (name : Str) (t : ApiType) (b : Str) : Option Str :=
  if (decide (name.length + 2 ≤ maxLen)) = true then
    X_WriteString_SyntaxPrinter (name ++ [58, 32]) b >>= fun x1 =>
    syntax_printer_typ t x1.2 >>= fun x2 =>
    some x2
  else none
abbrev syntax_printer_named_m (name : Str) (t : ApiType) (b : Str) (res : Str) : Prop := ACall C 115 [.ref 0 0, .d (.str name), .agg (ApiType.cells t)] [.bld 1 86, .buf 5 b] (fun x H' => H' = [.bld 1 86, .buf 5 res] ∧ x = .tup [])
theorem syntax_printer_named_ok {name : Str} {t : ApiType} {b : Str} {res : Str} (hh : syntax_printer_named name t b = some res) : syntax_printer_named_m name t b res := by
  unfold syntax_printer_named at hh
  refine ACall.intro hC Tryz.func115 rfl rfl rfl ?_
  obtain ⟨c4, hh⟩ := asrt_some hh
  obtain ⟨x1, hx1, hh⟩ := bs' hh
  obtain ⟨x2, hx2, hh⟩ := bs' hh
  refine s' rfl rfl (AOps.n hC rfl (n' (s' rfl rfl (q' rfl (q' rfl (q' rfl (q' rfl (qc' rfl c4 (AOps.g [0, 1] rfl (X_WriteString_SyntaxPrinter_ok hx1) ⟨.rfl, ⟨.rfl, trivial⟩⟩ rfl ⟨rfl, ⟨rfl, trivial⟩⟩ rfl rfl (n' (R' rfl rfl (q' rfl (q' rfl ?_)))))))))))))
  refine AOps.g [0, 1] rfl (syntax_printer_typ_ok hx2) ⟨.rfl, ⟨.rfl, trivial⟩⟩ rfl ⟨rfl, ⟨rfl, trivial⟩⟩ rfl rfl (n' ?_)
  obtain rfl := oi' hh
  exact ⟨_, _, [.bld 1 86, .buf 5 x2], rfl, .rfl, ⟨⟨rfl, Nat.le_of_ble_eq_true rfl⟩, ⟨rfl, trivial⟩⟩, rfl, rfl, rfl, rfl⟩
def syntax_printer_variable_j1 (x2 : Str) (value : Str) : Option Str :=
  if (decide (3 + value.length ≤ maxLen)) = true then
    X_WriteString_SyntaxPrinter ([32, 61, 32] ++ value) x2 >>= fun x4 =>
    X_WriteString_SyntaxPrinter [59, 10] x4.2 >>= fun x5 =>
    some x5.2
  else none
abbrev syntax_printer_variable_j1_m (x2 : Str) (value : Str) (res : Str) : Prop := AEx (Fx.mk C 35 2) (sr (sr (ca (sr (sl (sr (sr (sr (bodyOf Tryz.f113))))))))) (mkEnv [(0, .ref 0 0), (4, .d (.str value))]) [.bld 1 86, .buf 5 x2] (Am.Then (Fx.mk C 35 2) (sr (sr (sr (sr (bodyOf Tryz.f113))))) (Am.Ends (Fx.mk C 35 2) Tryz.f113.results.toList (fun x H' => H' = [.bld 1 86, .buf 5 res] ∧ x = .tup [])))
theorem syntax_printer_variable_j1_ok {x2 : Str} {value : Str} {res : Str} (hh : syntax_printer_variable_j1 x2 value = some res) : syntax_printer_variable_j1_m x2 value res := by
  unfold syntax_printer_variable_j1 at hh
  obtain ⟨c5, hh⟩ := asrt_some hh
  obtain ⟨x4, hx4, hh⟩ := bs' hh
  obtain ⟨x5, hx5, hh⟩ := bs' hh
  refine R' rfl rfl (q' rfl (q' rfl (q' rfl (q' rfl (qc' rfl c5 (AOps.g [0, 1] rfl (X_WriteString_SyntaxPrinter_ok hx4) ⟨.rfl, ⟨.rfl, trivial⟩⟩ rfl ⟨rfl, ⟨rfl, trivial⟩⟩ rfl rfl (n' (R' rfl rfl (q' rfl (q' rfl (q' rfl (AOps.g [0, 1] rfl (X_WriteString_SyntaxPrinter_ok hx5) ⟨.rfl, ⟨.rfl, trivial⟩⟩ rfl ⟨rfl, ⟨rfl, trivial⟩⟩ rfl rfl (n' ?_)))))))))))))
  obtain rfl := oi' hh
  exact ⟨_, _, [.bld 1 86, .buf 5 x5.2], rfl, .rfl, ⟨⟨rfl, Nat.le_of_ble_eq_true rfl⟩, ⟨rfl, trivial⟩⟩, rfl, rfl, rfl, rfl⟩
def syntax_printer_variable (d : ApiDecl) (b : Str) : Option Str :=
  X_WriteString_SyntaxPrinter [118, 97, 114, 32] b >>= fun x1 =>
  syntax_printer_named d.Name d.TypeV x1.2 >>= fun x2 =>
  if (d.Init != 0) = true then
    X_Itoa d.Init >>= fun x3 =>
    if (d.TypeV.Kind == 0) = true then
      syntax_printer_variable_j1 x2 [116, 114, 117, 101]
    else
      syntax_printer_variable_j1 x2 x3
  else
    X_WriteString_SyntaxPrinter [59, 10] x2 >>= fun x5 =>
    some x5.2
abbrev syntax_printer_variable_m (d : ApiDecl) (b : Str) (res : Str) : Prop := ACall C 113 [.ref 0 0, .agg (ApiDecl.cells d)] [.bld 1 86, .buf 5 b] (fun x H' => H' = [.bld 1 86, .buf 5 res] ∧ x = .tup [])
theorem syntax_printer_variable_ok {d : ApiDecl} {b : Str} {res : Str} (hh : syntax_printer_variable d b = some res) : syntax_printer_variable_m d b res := by
  unfold syntax_printer_variable at hh
  refine ACall.intro hC Tryz.func113 rfl rfl rfl ?_
  obtain ⟨x1, hx1, hh⟩ := bs' hh
  obtain ⟨x2, hx2, hh⟩ := bs' hh
  refine s' rfl rfl (AOps.n hC rfl (n' (s' rfl rfl (q' rfl (q' rfl (q' rfl (AOps.g [0, 1] rfl (X_WriteString_SyntaxPrinter_ok hx1) ⟨.rfl, ⟨.rfl, trivial⟩⟩ rfl ⟨rfl, ⟨rfl, trivial⟩⟩ rfl rfl (n' (s' rfl rfl (q' rfl (q' rfl (q' rfl (q' rfl ?_)))))))))))))
  refine q' rfl (AOps.g [0, 1] rfl (syntax_printer_named_ok hx2) ⟨.rfl, ⟨.rfl, ⟨.rfl, trivial⟩⟩⟩ rfl ⟨rfl, ⟨rfl, trivial⟩⟩ rfl rfl (n' (S' (s' rfl rfl (q' rfl (q' rfl (q' rfl (n' ?_))))))))
  refine ci' rfl hh (fun hh => ?_) (fun hh => ?_)
  · obtain ⟨x3, hx3, hh⟩ := bs' hh
    refine s' rfl rfl (q' rfl (q' rfl (AOps.c rfl rfl (X_Itoa_ok hx3) (q' rfl (n' (S' (s' rfl rfl (q' rfl (q' rfl (q' rfl (q' rfl (n' ?_))))))))))))
    refine ci' rfl hh (fun hh => ?_) (fun hh => ?_)
    · refine R' rfl rfl (q' rfl (n' ?_))
      refine AEx.wk ?_ (syntax_printer_variable_j1_ok hh)
      exact ⟨⟨⟨.rfl, rfl⟩, ⟨⟨.rfl, rfl⟩, trivial⟩⟩, ⟨⟨rfl, Nat.le_of_ble_eq_true rfl⟩, ⟨rfl, trivial⟩⟩, rfl⟩
    refine sk' ?_
    refine AEx.wk ?_ (syntax_printer_variable_j1_ok hh)
    exact ⟨⟨⟨.rfl, rfl⟩, ⟨⟨.rfl, rfl⟩, trivial⟩⟩, ⟨⟨rfl, Nat.le_of_ble_eq_true rfl⟩, ⟨rfl, trivial⟩⟩, rfl⟩
  obtain ⟨x5, hx5, hh⟩ := bs' hh
  refine sk' (R' rfl rfl (q' rfl (q' rfl (q' rfl (AOps.g [0, 1] rfl (X_WriteString_SyntaxPrinter_ok hx5) ⟨.rfl, ⟨.rfl, trivial⟩⟩ rfl ⟨rfl, ⟨rfl, trivial⟩⟩ rfl rfl (n' ?_))))))
  obtain rfl := oi' hh
  exact ⟨_, _, [.bld 1 86, .buf 5 x5.2], rfl, .rfl, ⟨⟨rfl, Nat.le_of_ble_eq_true rfl⟩, ⟨rfl, trivial⟩⟩, rfl, rfl, rfl, rfl⟩
mutual
def syntax_printer_stmt_l1 (s : ApiStmt) (b1 : Str) (v163 : Int) : Option Str :=
  if (decide (v163 < ((s.Numbers).length : Int))) = true then
    idx s.Numbers v163 >>= fun x25 =>
    if (decide (v163 > 0)) = true then
      X_WriteString_SyntaxPrinter [44, 32] b1 >>= fun x28 =>
      syntax_printer_stmt_j2 s x28.2 x25 v163
    else
      syntax_printer_stmt_j2 s b1 x25 v163
  else
    X_WriteString_SyntaxPrinter [59] b1 >>= fun x13 =>
    some x13.2
  partial_fixpoint
def syntax_printer_stmt_j2 (s : ApiStmt) (b11 : Str) (x25 : Int) (v1631 : Int) : Option Str :=
  X_Itoa x25 >>= fun x26 =>
  X_WriteString_SyntaxPrinter x26 b11 >>= fun x27 =>
  syntax_printer_stmt_l1 s x27.2 (IntKind.i64.wrap (v1631 + 1))
  partial_fixpoint
end
abbrev syntax_printer_stmt_l1_m (s : ApiStmt) (b1 : Str) (v163 : Int) (res : Str) : Prop := ALoop (Fx.mk C 185 2) (lo (bk (sr (sr (ca (sr (cb (sr (cb (sr (cb (sr (cb (sr (cb (sr (cb (sr (cb (sr (cb (sr (bk (sr (sl (sr (bodyOf Tryz.f117))))))))))))))))))))))))))) (mkEnv [(0, .ref 0 0), (161, .d (.sl (ei64.rows s.Numbers))), (162, .d (.int .i64 ((s.Numbers).length : Int))), (163, .d (.int .i64 v163))]) [.bld 1 86, .buf 5 b1] (Am.InBlock 1 (Am.InBlock 0 (Am.Then (Fx.mk C 185 2) (sr (sr (bodyOf Tryz.f117))) (Am.Ends (Fx.mk C 185 2) Tryz.f117.results.toList (fun x H' => H' = [.bld 1 86, .buf 5 res] ∧ x = .tup [])))))
abbrev syntax_printer_stmt_j2_m (s : ApiStmt) (b11 : Str) (x25 : Int) (v1631 : Int) (res : Str) : Prop := AEx (Fx.mk C 185 2) (sr (sr (bk (sl (sr (sr (lo (bk (sr (sr (ca (sr (cb (sr (cb (sr (cb (sr (cb (sr (cb (sr (cb (sr (cb (sr (cb (sr (bk (sr (sl (sr (bodyOf Tryz.f117))))))))))))))))))))))))))))))))) (mkEnv [(0, .ref 0 0), (7, .d (.int .i64 x25)), (161, .d (.sl (ei64.rows s.Numbers))), (162, .d (.int .i64 ((s.Numbers).length : Int))), (163, .d (.int .i64 v1631))]) [.bld 1 86, .buf 5 b11] (Am.InBlock 2 (Am.Then (Fx.mk C 185 2) (sr (sr (sr (lo (bk (sr (sr (ca (sr (cb (sr (cb (sr (cb (sr (cb (sr (cb (sr (cb (sr (cb (sr (cb (sr (bk (sr (sl (sr (bodyOf Tryz.f117)))))))))))))))))))))))))))))) (Am.Again (Fx.mk C 185 2) (lo (bk (sr (sr (ca (sr (cb (sr (cb (sr (cb (sr (cb (sr (cb (sr (cb (sr (cb (sr (cb (sr (bk (sr (sl (sr (bodyOf Tryz.f117))))))))))))))))))))))))))) (Am.InBlock 1 (Am.InBlock 0 (Am.Then (Fx.mk C 185 2) (sr (sr (bodyOf Tryz.f117))) (Am.Ends (Fx.mk C 185 2) Tryz.f117.results.toList (fun x H' => H' = [.bld 1 86, .buf 5 res] ∧ x = .tup []))))))))
theorem syntax_printer_stmt_l1_grp (s : ApiStmt) : (∀ (b1 : Str) (v163 : Int) (res : Str), syntax_printer_stmt_l1 s b1 v163 = some res → syntax_printer_stmt_l1_m s b1 v163 res) ∧
    (∀ (b11 : Str) (x25 : Int) (v1631 : Int) (res : Str), syntax_printer_stmt_j2 s b11 x25 v1631 = some res → syntax_printer_stmt_j2_m s b11 x25 v1631 res) := by
  refine syntax_printer_stmt_l1.mutual_partial_correctness s
    (fun b1 v163 res => syntax_printer_stmt_l1_m s b1 v163 res)
    (fun b11 x25 v1631 res => syntax_printer_stmt_j2_m s b11 x25 v1631 res) ?_ ?_
  · intro g1 ih1 b1 v163 res hh
    refine ALoop.unroll ?_
    refine s' rfl rfl (q' rfl (n' (S' ?_)))
    refine ci' rfl hh (fun hh => ?_) (fun hh => ?_)
    · obtain ⟨x25, hx25, hh⟩ := bs' hh
      refine sk' (S' (AEx.block (s' rfl rfl (q' rfl (i' rfl (idx_nat hx25) (ei64.idx hx25) rfl (q' rfl (q' rfl (q' rfl (n' (S' (s' rfl rfl (q' rfl (q' rfl ?_)))))))))))))
      refine n' ?_
      refine ci' rfl hh (fun hh => ?_) (fun hh => ?_)
      · obtain ⟨x28, hx28, hh⟩ := bs' hh
        refine R' rfl rfl (q' rfl (q' rfl (q' rfl (AOps.g [0, 1] rfl (X_WriteString_SyntaxPrinter_ok hx28) ⟨.rfl, ⟨.rfl, trivial⟩⟩ rfl ⟨rfl, ⟨rfl, trivial⟩⟩ rfl rfl (n' ?_)))))
        refine AEx.wk ?_ (ih1 _ _ _ _ hh)
        exact ⟨⟨⟨.rfl, rfl⟩, ⟨⟨.rfl, rfl⟩, ⟨⟨.rfl, rfl⟩, ⟨⟨.rfl, rfl⟩, ⟨⟨.rfl, rfl⟩, trivial⟩⟩⟩⟩⟩, ⟨⟨rfl, Nat.le_of_ble_eq_true rfl⟩, ⟨rfl, trivial⟩⟩, rfl⟩
      refine sk' ?_
      refine AEx.wk ?_ (ih1 _ _ _ _ hh)
      exact ⟨⟨⟨.rfl, rfl⟩, ⟨⟨.rfl, rfl⟩, ⟨⟨.rfl, rfl⟩, ⟨⟨.rfl, rfl⟩, ⟨⟨.rfl, rfl⟩, trivial⟩⟩⟩⟩⟩, ⟨⟨rfl, Nat.le_of_ble_eq_true rfl⟩, ⟨rfl, trivial⟩⟩, rfl⟩
    obtain ⟨x13, hx13, hh⟩ := bs' hh
    refine ex' (R' rfl rfl (q' rfl (q' rfl (q' rfl (AOps.g [0, 1] rfl (X_WriteString_SyntaxPrinter_ok hx13) ⟨.rfl, ⟨.rfl, trivial⟩⟩ rfl ⟨rfl, ⟨rfl, trivial⟩⟩ rfl rfl (n' ?_))))))
    obtain rfl := oi' hh
    exact ⟨_, _, [.bld 1 86, .buf 5 x13.2], rfl, .rfl, ⟨⟨rfl, Nat.le_of_ble_eq_true rfl⟩, ⟨rfl, trivial⟩⟩, rfl, rfl, rfl, rfl⟩
  · intro g0 ih0 b11 x25 v1631 res hh
    obtain ⟨x26, hx26, hh⟩ := bs' hh
    obtain ⟨x27, hx27, hh⟩ := bs' hh
    refine AEx.draw hC 5 rfl rfl rfl (Q' rfl (Q' rfl (Q' rfl (Q' rfl (AQ.c rfl rfl (X_Itoa_ok hx26) (Qn' (AOps.g [0, 1] rfl (X_WriteString_SyntaxPrinter_ok hx27) ⟨.rfl, ⟨.rfl, trivial⟩⟩ rfl ⟨rfl, ⟨rfl, trivial⟩⟩ rfl rfl (n' (R' rfl rfl (q' rfl (q' rfl (n' ?_))))))))))))
    refine ALoop.wk ?_ (ih0 _ _ _ hh)
    exact ⟨⟨⟨.rfl, rfl⟩, ⟨⟨.rfl, rfl⟩, ⟨⟨.rfl, rfl⟩, ⟨⟨.rfl, rfl⟩, trivial⟩⟩⟩⟩, ⟨⟨rfl, Nat.le_of_ble_eq_true rfl⟩, ⟨rfl, trivial⟩⟩, rfl⟩
theorem syntax_printer_stmt_l1_ok {s : ApiStmt} {b1 : Str} {v163 : Int} {res : Str} (hh : syntax_printer_stmt_l1 s b1 v163 = some res) : syntax_printer_stmt_l1_m s b1 v163 res := (syntax_printer_stmt_l1_grp s).1 _ _ _ hh
theorem syntax_printer_stmt_j2_ok {s : ApiStmt} {b11 : Str} {x25 : Int} {v1631 : Int} {res : Str} (hh : syntax_printer_stmt_j2 s b11 x25 v1631 = some res) : syntax_printer_stmt_j2_m s b11 x25 v1631 res := (syntax_printer_stmt_l1_grp s).2 _ _ _ _ hh
mutual
def syntax_printer_stmts (l : List ApiStmt) (margin : Str) (b : Str) : Option Str :=
  syntax_printer_stmts_l1 l margin b 0
  partial_fixpoint
def syntax_printer_stmts_l1 (l : List ApiStmt) (margin : Str) (b1 : Str) (v10 : Int) : Option Str :=
  if (decide (v10 < ((l).length : Int))) = true then
    idx l v10 >>= fun x1 =>
    X_WriteString_SyntaxPrinter margin b1 >>= fun x2 =>
    syntax_printer_stmt x1 margin x2.2 >>= fun x3 =>
    X_WriteString_SyntaxPrinter [10] x3 >>= fun x4 =>
    syntax_printer_stmts_l1 l margin x4.2 (IntKind.i64.wrap (v10 + 1))
  else
    some b1
  partial_fixpoint
def syntax_printer_stmt (s : ApiStmt) (margin : Str) (b : Str) : Option Str :=
  if (s.Verb == 5) = true then
    X_WriteString_SyntaxPrinter [105, 102, 32] b >>= fun x1 =>
    syntax_printer_expr s.Value x1.2 >>= fun x2 =>
    syntax_printer_block s.Then margin x2 >>= fun x29 =>
    if (decide (((s.Else).length : Int) > 0)) = true then
      X_WriteString_SyntaxPrinter [32, 101, 108, 115, 101] x29 >>= fun x30 =>
      syntax_printer_block s.Else margin x30.2 >>= fun x31 =>
      some x31
    else
      some x29
  else
    if (s.Verb == 6) = true then
      X_WriteString_SyntaxPrinter [119, 104, 105, 108, 101, 32] b >>= fun x3 =>
      syntax_printer_expr s.Value x3.2 >>= fun x4 =>
      X_Itoa s.NV >>= fun x5 =>
      if (decide (7 + x5.length ≤ maxLen)) = true then
        X_WriteString_SyntaxPrinter ([32, 108, 105, 109, 105, 116, 32] ++ x5) x4 >>= fun x6 =>
        syntax_printer_block s.Then margin x6.2 >>= fun x32 =>
        some x32
      else none
    else
      if (s.Verb == 7) = true then
        if (decide (4 + s.Name.length ≤ maxLen)) = true then
          if (decide (([102, 111, 114, 32] ++ s.Name).length + 3 ≤ maxLen)) = true then
            X_Itoa s.Low >>= fun x7 =>
            if (decide ((([102, 111, 114, 32] ++ s.Name) ++ [32, 61, 32]).length + x7.length ≤ maxLen)) = true then
              if (decide (((([102, 111, 114, 32] ++ s.Name) ++ [32, 61, 32]) ++ x7).length + 4 ≤ maxLen)) = true then
                X_Itoa s.High >>= fun x8 =>
                if (decide ((((([102, 111, 114, 32] ++ s.Name) ++ [32, 61, 32]) ++ x7) ++ [32, 116, 111, 32]).length + x8.length ≤ maxLen)) = true then
                  X_WriteString_SyntaxPrinter ((((([102, 111, 114, 32] ++ s.Name) ++ [32, 61, 32]) ++ x7) ++ [32, 116, 111, 32]) ++ x8) b >>= fun x9 =>
                  syntax_printer_block s.Then margin x9.2 >>= fun x33 =>
                  some x33
                else none
              else none
            else none
          else none
        else none
      else
        if (s.Verb == 0) = true then
          syntax_printer_expr s.Place b >>= fun x10 =>
          X_WriteString_SyntaxPrinter [32, 61, 32] x10 >>= fun x11 =>
          syntax_printer_expr s.Value x11.2 >>= fun x12 =>
          X_WriteString_SyntaxPrinter [59] x12 >>= fun x13 =>
          some x13.2
        else
          if (s.Verb == 1) = true then
            syntax_printer_expr s.Place b >>= fun x14 =>
            if (decide (8 + s.Name.length ≤ maxLen)) = true then
              if (decide (([32, 61, 32, 99, 97, 108, 108, 32] ++ s.Name).length + 1 ≤ maxLen)) = true then
                X_WriteString_SyntaxPrinter (([32, 61, 32, 99, 97, 108, 108, 32] ++ s.Name) ++ [40]) x14 >>= fun x15 =>
                syntax_printer_list s.Args x15.2 >>= fun x16 =>
                X_WriteString_SyntaxPrinter [41] x16 >>= fun x17 =>
                X_WriteString_SyntaxPrinter [59] x17.2 >>= fun x13 =>
                some x13.2
              else none
            else none
          else
            if (s.Verb == 2) = true then
              syntax_printer_expr s.Place b >>= fun x18 =>
              if (decide (11 + s.Name.length ≤ maxLen)) = true then
                X_WriteString_SyntaxPrinter ([32, 61, 32, 114, 101, 108, 101, 97, 115, 101, 32] ++ s.Name) x18 >>= fun x19 =>
                X_WriteString_SyntaxPrinter [59] x19.2 >>= fun x13 =>
                some x13.2
              else none
            else
              if (s.Verb == 3) = true then
                X_WriteString_SyntaxPrinter [111, 117, 116, 112, 117, 116, 32] b >>= fun x20 =>
                syntax_printer_expr s.Value x20.2 >>= fun x21 =>
                X_WriteString_SyntaxPrinter [59] x21 >>= fun x13 =>
                some x13.2
              else
                if (s.Verb == 4) = true then
                  X_Itoa s.NV >>= fun x22 =>
                  if (decide (5 + x22.length ≤ maxLen)) = true then
                    X_WriteString_SyntaxPrinter ([119, 97, 105, 116, 32] ++ x22) b >>= fun x23 =>
                    X_WriteString_SyntaxPrinter [59] x23.2 >>= fun x13 =>
                    some x13.2
                  else none
                else
                  if (s.Verb == 8) = true then
                    X_WriteString_SyntaxPrinter [115, 101, 116, 116, 108, 101, 32] b >>= fun x24 =>
                    syntax_printer_stmt_l1 s x24.2 0
                  else
                    X_WriteString_SyntaxPrinter [59] b >>= fun x13 =>
                    some x13.2
  partial_fixpoint
def syntax_printer_block (l : List ApiStmt) (margin : Str) (b : Str) : Option Str :=
  X_WriteString_SyntaxPrinter [32, 123, 10] b >>= fun x1 =>
  if (decide (margin.length + 1 ≤ maxLen)) = true then
    syntax_printer_stmts l (margin ++ [9]) x1.2 >>= fun x2 =>
    if (decide (margin.length + 1 ≤ maxLen)) = true then
      X_WriteString_SyntaxPrinter (margin ++ [125]) x2 >>= fun x3 =>
      some x3.2
    else none
  else none
  partial_fixpoint
end
abbrev syntax_printer_stmts_m (l : List ApiStmt) (margin : Str) (b : Str) (res : Str) : Prop := ACall C 55 [.ref 0 0, .d (.sl (ApiStmt.rows l)), .d (.str margin)] [.bld 1 86, .buf 5 b] (fun x H' => H' = [.bld 1 86, .buf 5 res] ∧ x = .tup [])
abbrev syntax_printer_stmts_l1_m (l : List ApiStmt) (margin : Str) (b1 : Str) (v10 : Int) (res : Str) : Prop := ALoop (Fx.mk C 28 2) (lo (bk (sr (bodyOf Tryz.f55)))) (mkEnv [(0, .ref 0 0), (2, .d (.str margin)), (8, .d (.sl (ApiStmt.rows l))), (9, .d (.int .i64 ((l).length : Int))), (10, .d (.int .i64 v10))]) [.bld 1 86, .buf 5 b1] (Am.InBlock 0 (Am.Ends (Fx.mk C 28 2) Tryz.f55.results.toList (fun x H' => H' = [.bld 1 86, .buf 5 res] ∧ x = .tup [])))
abbrev syntax_printer_stmt_m (s : ApiStmt) (margin : Str) (b : Str) (res : Str) : Prop := ACall C 117 [.ref 0 0, .agg (ApiStmt.cells s), .d (.str margin)] [.bld 1 86, .buf 5 b] (fun x H' => H' = [.bld 1 86, .buf 5 res] ∧ x = .tup [])
abbrev syntax_printer_block_m (l : List ApiStmt) (margin : Str) (b : Str) (res : Str) : Prop := ACall C 156 [.ref 0 0, .d (.sl (ApiStmt.rows l)), .d (.str margin)] [.bld 1 86, .buf 5 b] (fun x H' => H' = [.bld 1 86, .buf 5 res] ∧ x = .tup [])
theorem syntax_printer_stmts_grp : (∀ (l : List ApiStmt) (margin : Str) (b : Str) (res : Str), syntax_printer_stmts l margin b = some res → syntax_printer_stmts_m l margin b res) ∧
    (∀ (l : List ApiStmt) (margin : Str) (b1 : Str) (v10 : Int) (res : Str), syntax_printer_stmts_l1 l margin b1 v10 = some res → syntax_printer_stmts_l1_m l margin b1 v10 res) ∧
    (∀ (s : ApiStmt) (margin : Str) (b : Str) (res : Str), syntax_printer_stmt s margin b = some res → syntax_printer_stmt_m s margin b res) ∧
    (∀ (l : List ApiStmt) (margin : Str) (b : Str) (res : Str), syntax_printer_block l margin b = some res → syntax_printer_block_m l margin b res) := by
  refine syntax_printer_stmts.mutual_partial_correctness (fun l margin b res => syntax_printer_stmts_m l margin b res)
    (fun l margin b1 v10 res => syntax_printer_stmts_l1_m l margin b1 v10 res)
    (fun s margin b res => syntax_printer_stmt_m s margin b res)
    (fun l margin b res => syntax_printer_block_m l margin b res) ?_ ?_ ?_ ?_
  · intro g1 ih1 l margin b res hh
    refine ACall.intro hC Tryz.func55 rfl rfl rfl ?_
    refine s' rfl rfl (q' rfl (qe' rfl trivial (ApiStmt.lenA _) (q' rfl (n' (AEx.block ?_)))))
    refine AEx.ofLoop ?_
    refine ALoop.wk ?_ (ih1 _ _ _ _ _ hh)
    exact ⟨⟨⟨.rfl, rfl⟩, ⟨⟨.rfl, rfl⟩, ⟨⟨.rfl, rfl⟩, ⟨⟨.rfl, rfl⟩, ⟨⟨.rfl, rfl⟩, trivial⟩⟩⟩⟩⟩, ⟨⟨rfl, Nat.le_of_ble_eq_true rfl⟩, ⟨rfl, trivial⟩⟩, rfl⟩
  · intro g1 g2 ih1 ih2 l margin b1 v10 res hh
    refine ALoop.unroll ?_
    refine s' rfl rfl (q' rfl (n' (S' ?_)))
    refine ci' rfl hh (fun hh => ?_) (fun hh => ?_)
    · obtain ⟨x1, hx1, hh⟩ := bs' hh
      obtain ⟨x2, hx2, hh⟩ := bs' hh
      obtain ⟨x3, hx3, hh⟩ := bs' hh
      obtain ⟨x4, hx4, hh⟩ := bs' hh
      refine sk' (S' (AEx.block (s' rfl rfl (i' rfl (idx_nat hx1) (ApiStmt.idx hx1) rfl (q' rfl (AOps.nf hC rfl (AOps.s hC rfl (n' (s' rfl rfl (q' rfl (q' rfl (q' rfl (q' rfl ?_)))))))))))))
      refine AOps.g [0, 1] rfl (X_WriteString_SyntaxPrinter_ok hx2) ⟨.rfl, ⟨.rfl, trivial⟩⟩ rfl ⟨rfl, ⟨rfl, trivial⟩⟩ rfl rfl (n' (s' rfl rfl (q' rfl (q' rfl (q' rfl (AOps.g [0, 1] rfl (ih2 _ _ _ _ hx3) ⟨.rfl, ⟨.rfl, ⟨.rfl, trivial⟩⟩⟩ rfl ⟨rfl, ⟨rfl, trivial⟩⟩ rfl rfl (n' (R' rfl rfl (q' rfl (q' rfl (q' rfl (AOps.g [0, 1] rfl (X_WriteString_SyntaxPrinter_ok hx4) ⟨.rfl, ⟨.rfl, trivial⟩⟩ rfl ⟨rfl, ⟨rfl, trivial⟩⟩ rfl rfl (n' ?_)))))))))))))
      refine R' rfl rfl (q' rfl (q' rfl (n' ?_)))
      refine ALoop.wk ?_ (ih1 _ _ _ _ _ hh)
      exact ⟨⟨⟨.rfl, rfl⟩, ⟨⟨.rfl, rfl⟩, ⟨⟨.rfl, rfl⟩, ⟨⟨.rfl, rfl⟩, ⟨⟨.rfl, rfl⟩, trivial⟩⟩⟩⟩⟩, ⟨⟨rfl, Nat.le_of_ble_eq_true rfl⟩, ⟨rfl, trivial⟩⟩, rfl⟩
    refine ex' ?_
    obtain rfl := oi' hh
    exact ⟨_, _, [.bld 1 86, .buf 5 b1], rfl, .rfl, ⟨⟨rfl, Nat.le_of_ble_eq_true rfl⟩, ⟨rfl, trivial⟩⟩, rfl, rfl, rfl, rfl⟩
  · intro g3 ih3 s margin b res hh
    refine ACall.intro hC Tryz.func117 rfl rfl rfl ?_
    refine s' rfl rfl (AOps.n hC rfl (n' (S' (s' rfl rfl (q' rfl (q' rfl (n' (AEx.block (s' rfl rfl (q' rfl (q' rfl (n' ?_))))))))))))
    refine ci' rfl hh (fun hh => ?_) (fun hh => ?_)
    · obtain ⟨x1, hx1, hh⟩ := bs' hh
      obtain ⟨x2, hx2, hh⟩ := bs' hh
      obtain ⟨x29, hx29, hh⟩ := bs' hh
      refine s' rfl rfl (q' rfl (q' rfl (q' rfl (AOps.g [0, 1] rfl (X_WriteString_SyntaxPrinter_ok hx1) ⟨.rfl, ⟨.rfl, trivial⟩⟩ rfl ⟨rfl, ⟨rfl, trivial⟩⟩ rfl rfl (n' (s' rfl rfl (q' rfl (q' rfl (q' rfl (AOps.g [0, 1] rfl (syntax_printer_expr_ok hx2) ⟨.rfl, ⟨.rfl, trivial⟩⟩ rfl ⟨rfl, ⟨rfl, trivial⟩⟩ rfl rfl (n' (s' rfl rfl (q' rfl ?_)))))))))))))
      refine q' rfl (q' rfl (q' rfl (AOps.g [0, 1] rfl (ih3 _ _ _ _ hx29) ⟨.rfl, ⟨.rfl, ⟨.rfl, trivial⟩⟩⟩ rfl ⟨rfl, ⟨rfl, trivial⟩⟩ rfl rfl (n' (S' (s' rfl rfl (q' rfl (q' rfl (qe' rfl trivial (ApiStmt.lenA _) (q' rfl (n' ?_)))))))))))
      refine ci' rfl hh (fun hh => ?_) (fun hh => ?_)
      · obtain ⟨x30, hx30, hh⟩ := bs' hh
        obtain ⟨x31, hx31, hh⟩ := bs' hh
        refine s' rfl rfl (q' rfl (q' rfl (q' rfl (AOps.g [0, 1] rfl (X_WriteString_SyntaxPrinter_ok hx30) ⟨.rfl, ⟨.rfl, trivial⟩⟩ rfl ⟨rfl, ⟨rfl, trivial⟩⟩ rfl rfl (n' (R' rfl rfl (q' rfl (q' rfl (q' rfl (q' rfl (AOps.g [0, 1] rfl (ih3 _ _ _ _ hx31) ⟨.rfl, ⟨.rfl, ⟨.rfl, trivial⟩⟩⟩ rfl ⟨rfl, ⟨rfl, trivial⟩⟩ rfl rfl (n' (re' ?_)))))))))))))
        obtain rfl := oi' hh
        exact ⟨_, _, [.bld 1 86, .buf 5 x31], rfl, .rfl, ⟨⟨rfl, Nat.le_of_ble_eq_true rfl⟩, ⟨rfl, trivial⟩⟩, rfl, rfl, rfl, rfl⟩
      refine sk' (re' ?_)
      obtain rfl := oi' hh
      exact ⟨_, _, [.bld 1 86, .buf 5 x29], rfl, .rfl, ⟨⟨rfl, Nat.le_of_ble_eq_true rfl⟩, ⟨rfl, trivial⟩⟩, rfl, rfl, rfl, rfl⟩
    refine s' rfl rfl (q' rfl (q' rfl (n' ?_)))
    refine ci' rfl hh (fun hh => ?_) (fun hh => ?_)
    · obtain ⟨x3, hx3, hh⟩ := bs' hh
      obtain ⟨x4, hx4, hh⟩ := bs' hh
      obtain ⟨x5, hx5, hh⟩ := bs' hh
      obtain ⟨c71, hh⟩ := asrt_some hh
      obtain ⟨x6, hx6, hh⟩ := bs' hh
      obtain ⟨x32, hx32, hh⟩ := bs' hh
      refine s' rfl rfl (q' rfl (q' rfl (q' rfl (AOps.g [0, 1] rfl (X_WriteString_SyntaxPrinter_ok hx3) ⟨.rfl, ⟨.rfl, trivial⟩⟩ rfl ⟨rfl, ⟨rfl, trivial⟩⟩ rfl rfl (n' (s' rfl rfl (q' rfl (q' rfl (q' rfl (AOps.g [0, 1] rfl (syntax_printer_expr_ok hx4) ⟨.rfl, ⟨.rfl, trivial⟩⟩ rfl ⟨rfl, ⟨rfl, trivial⟩⟩ rfl rfl (n' (S' (AEx.draw hC 7 rfl rfl rfl ?_)))))))))))))
      iterate 5 refine Q' rfl ?_
      refine AQ.c rfl rfl (X_Itoa_ok hx5) (AQ.q hC rfl c71 (Qn' (AOps.g [0, 1] rfl (X_WriteString_SyntaxPrinter_ok hx6) ⟨.rfl, ⟨.rfl, trivial⟩⟩ rfl ⟨rfl, ⟨rfl, trivial⟩⟩ rfl rfl (n' (s' rfl rfl (q' rfl (q' rfl (q' rfl (q' rfl (AOps.g [0, 1] rfl (ih3 _ _ _ _ hx32) ⟨.rfl, ⟨.rfl, ⟨.rfl, trivial⟩⟩⟩ rfl ⟨rfl, ⟨rfl, trivial⟩⟩ rfl rfl (n' (re' ?_))))))))))))
      obtain rfl := oi' hh
      exact ⟨_, _, [.bld 1 86, .buf 5 x32], rfl, .rfl, ⟨⟨rfl, Nat.le_of_ble_eq_true rfl⟩, ⟨rfl, trivial⟩⟩, rfl, rfl, rfl, rfl⟩
    refine s' rfl rfl (q' rfl (q' rfl (n' ?_)))
    refine ci' rfl hh (fun hh => ?_) (fun hh => ?_)
    · obtain ⟨c72, hh⟩ := asrt_some hh
      obtain ⟨c73, hh⟩ := asrt_some hh
      obtain ⟨x7, hx7, hh⟩ := bs' hh
      obtain ⟨c74, hh⟩ := asrt_some hh
      obtain ⟨c75, hh⟩ := asrt_some hh
      obtain ⟨x8, hx8, hh⟩ := bs' hh
      obtain ⟨c76, hh⟩ := asrt_some hh
      obtain ⟨x9, hx9, hh⟩ := bs' hh
      obtain ⟨x33, hx33, hh⟩ := bs' hh
      refine S' (AEx.draw hC 16 rfl rfl rfl (Q' rfl (Q' rfl (Q' rfl (Q' rfl (Q' rfl (AQ.q hC rfl c72 (AQ.q hC rfl c73 (Q' rfl (Q' rfl (AQ.c rfl rfl (X_Itoa_ok hx7) (AQ.q hC rfl c74 (AQ.q hC rfl c75 ?_)))))))))))))
      refine Q' rfl (Q' rfl (AQ.c rfl rfl (X_Itoa_ok hx8) (AQ.q hC rfl c76 (Qn' (AOps.g [0, 1] rfl (X_WriteString_SyntaxPrinter_ok hx9) ⟨.rfl, ⟨.rfl, trivial⟩⟩ rfl ⟨rfl, ⟨rfl, trivial⟩⟩ rfl rfl (n' (s' rfl rfl (q' rfl (q' rfl (q' rfl (q' rfl (AOps.g [0, 1] rfl (ih3 _ _ _ _ hx33) ⟨.rfl, ⟨.rfl, ⟨.rfl, trivial⟩⟩⟩ rfl ⟨rfl, ⟨rfl, trivial⟩⟩ rfl rfl (n' ?_)))))))))))))
      refine re' ?_
      obtain rfl := oi' hh
      exact ⟨_, _, [.bld 1 86, .buf 5 x33], rfl, .rfl, ⟨⟨rfl, Nat.le_of_ble_eq_true rfl⟩, ⟨rfl, trivial⟩⟩, rfl, rfl, rfl, rfl⟩
    refine s' rfl rfl (q' rfl (q' rfl (n' ?_)))
    refine ci' rfl hh (fun hh => ?_) (fun hh => ?_)
    · obtain ⟨x10, hx10, hh⟩ := bs' hh
      obtain ⟨x11, hx11, hh⟩ := bs' hh
      obtain ⟨x12, hx12, hh⟩ := bs' hh
      obtain ⟨x13, hx13, hh⟩ := bs' hh
      refine s' rfl rfl (q' rfl (q' rfl (q' rfl (AOps.g [0, 1] rfl (syntax_printer_expr_ok hx10) ⟨.rfl, ⟨.rfl, trivial⟩⟩ rfl ⟨rfl, ⟨rfl, trivial⟩⟩ rfl rfl (n' (s' rfl rfl (q' rfl (q' rfl (q' rfl (AOps.g [0, 1] rfl (X_WriteString_SyntaxPrinter_ok hx11) ⟨.rfl, ⟨.rfl, trivial⟩⟩ rfl ⟨rfl, ⟨rfl, trivial⟩⟩ rfl rfl (n' (R' rfl rfl (q' rfl ?_)))))))))))))
      refine q' rfl (q' rfl (AOps.g [0, 1] rfl (syntax_printer_expr_ok hx12) ⟨.rfl, ⟨.rfl, trivial⟩⟩ rfl ⟨rfl, ⟨rfl, trivial⟩⟩ rfl rfl (n' (R' rfl rfl (q' rfl (q' rfl (q' rfl (AOps.g [0, 1] rfl (X_WriteString_SyntaxPrinter_ok hx13) ⟨.rfl, ⟨.rfl, trivial⟩⟩ rfl ⟨rfl, ⟨rfl, trivial⟩⟩ rfl rfl (n' ?_)))))))))
      obtain rfl := oi' hh
      exact ⟨_, _, [.bld 1 86, .buf 5 x13.2], rfl, .rfl, ⟨⟨rfl, Nat.le_of_ble_eq_true rfl⟩, ⟨rfl, trivial⟩⟩, rfl, rfl, rfl, rfl⟩
    refine s' rfl rfl (q' rfl (q' rfl (n' ?_)))
    refine ci' rfl hh (fun hh => ?_) (fun hh => ?_)
    · obtain ⟨x14, hx14, hh⟩ := bs' hh
      obtain ⟨c77, hh⟩ := asrt_some hh
      obtain ⟨c78, hh⟩ := asrt_some hh
      obtain ⟨x15, hx15, hh⟩ := bs' hh
      obtain ⟨x16, hx16, hh⟩ := bs' hh
      obtain ⟨x17, hx17, hh⟩ := bs' hh
      obtain ⟨x13, hx13, hh⟩ := bs' hh
      refine s' rfl rfl (q' rfl (q' rfl (q' rfl (AOps.g [0, 1] rfl (syntax_printer_expr_ok hx14) ⟨.rfl, ⟨.rfl, trivial⟩⟩ rfl ⟨rfl, ⟨rfl, trivial⟩⟩ rfl rfl (n' (S' (AEx.draw hC 7 rfl rfl rfl (Q' rfl (Q' rfl (Q' rfl (Q' rfl (Q' rfl (AQ.q hC rfl c77 ?_)))))))))))))
      refine AQ.q hC rfl c78 (Qn' (AOps.g [0, 1] rfl (X_WriteString_SyntaxPrinter_ok hx15) ⟨.rfl, ⟨.rfl, trivial⟩⟩ rfl ⟨rfl, ⟨rfl, trivial⟩⟩ rfl rfl (n' (s' rfl rfl (q' rfl (q' rfl (q' rfl (AOps.g [0, 1] rfl (syntax_printer_list_ok hx16) ⟨.rfl, ⟨.rfl, trivial⟩⟩ rfl ⟨rfl, ⟨rfl, trivial⟩⟩ rfl rfl (n' (R' rfl rfl (q' rfl (q' rfl (q' rfl ?_)))))))))))))
      refine AOps.g [0, 1] rfl (X_WriteString_SyntaxPrinter_ok hx17) ⟨.rfl, ⟨.rfl, trivial⟩⟩ rfl ⟨rfl, ⟨rfl, trivial⟩⟩ rfl rfl (n' (R' rfl rfl (q' rfl (q' rfl (q' rfl (AOps.g [0, 1] rfl (X_WriteString_SyntaxPrinter_ok hx13) ⟨.rfl, ⟨.rfl, trivial⟩⟩ rfl ⟨rfl, ⟨rfl, trivial⟩⟩ rfl rfl (n' ?_)))))))
      obtain rfl := oi' hh
      exact ⟨_, _, [.bld 1 86, .buf 5 x13.2], rfl, .rfl, ⟨⟨rfl, Nat.le_of_ble_eq_true rfl⟩, ⟨rfl, trivial⟩⟩, rfl, rfl, rfl, rfl⟩
    refine s' rfl rfl (q' rfl (q' rfl (n' ?_)))
    refine ci' rfl hh (fun hh => ?_) (fun hh => ?_)
    · obtain ⟨x18, hx18, hh⟩ := bs' hh
      obtain ⟨c79, hh⟩ := asrt_some hh
      obtain ⟨x19, hx19, hh⟩ := bs' hh
      obtain ⟨x13, hx13, hh⟩ := bs' hh
      refine s' rfl rfl (q' rfl (q' rfl (q' rfl (AOps.g [0, 1] rfl (syntax_printer_expr_ok hx18) ⟨.rfl, ⟨.rfl, trivial⟩⟩ rfl ⟨rfl, ⟨rfl, trivial⟩⟩ rfl rfl (n' (AEx.draw hC 6 rfl rfl rfl (Q' rfl (Q' rfl (Q' rfl (Q' rfl (Q' rfl (AQ.q hC rfl c79 (Qn' ?_)))))))))))))
      refine AOps.g [0, 1] rfl (X_WriteString_SyntaxPrinter_ok hx19) ⟨.rfl, ⟨.rfl, trivial⟩⟩ rfl ⟨rfl, ⟨rfl, trivial⟩⟩ rfl rfl (n' (R' rfl rfl (q' rfl (q' rfl (q' rfl (AOps.g [0, 1] rfl (X_WriteString_SyntaxPrinter_ok hx13) ⟨.rfl, ⟨.rfl, trivial⟩⟩ rfl ⟨rfl, ⟨rfl, trivial⟩⟩ rfl rfl (n' ?_)))))))
      obtain rfl := oi' hh
      exact ⟨_, _, [.bld 1 86, .buf 5 x13.2], rfl, .rfl, ⟨⟨rfl, Nat.le_of_ble_eq_true rfl⟩, ⟨rfl, trivial⟩⟩, rfl, rfl, rfl, rfl⟩
    refine s' rfl rfl (q' rfl (q' rfl (n' ?_)))
    refine ci' rfl hh (fun hh => ?_) (fun hh => ?_)
    · obtain ⟨x20, hx20, hh⟩ := bs' hh
      obtain ⟨x21, hx21, hh⟩ := bs' hh
      obtain ⟨x13, hx13, hh⟩ := bs' hh
      refine s' rfl rfl (q' rfl (q' rfl (q' rfl (AOps.g [0, 1] rfl (X_WriteString_SyntaxPrinter_ok hx20) ⟨.rfl, ⟨.rfl, trivial⟩⟩ rfl ⟨rfl, ⟨rfl, trivial⟩⟩ rfl rfl (n' (R' rfl rfl (q' rfl (q' rfl (q' rfl (AOps.g [0, 1] rfl (syntax_printer_expr_ok hx21) ⟨.rfl, ⟨.rfl, trivial⟩⟩ rfl ⟨rfl, ⟨rfl, trivial⟩⟩ rfl rfl (n' (R' rfl rfl (q' rfl ?_)))))))))))))
      refine q' rfl (q' rfl (AOps.g [0, 1] rfl (X_WriteString_SyntaxPrinter_ok hx13) ⟨.rfl, ⟨.rfl, trivial⟩⟩ rfl ⟨rfl, ⟨rfl, trivial⟩⟩ rfl rfl (n' ?_)))
      obtain rfl := oi' hh
      exact ⟨_, _, [.bld 1 86, .buf 5 x13.2], rfl, .rfl, ⟨⟨rfl, Nat.le_of_ble_eq_true rfl⟩, ⟨rfl, trivial⟩⟩, rfl, rfl, rfl, rfl⟩
    refine s' rfl rfl (q' rfl (q' rfl (n' ?_)))
    refine ci' rfl hh (fun hh => ?_) (fun hh => ?_)
    · obtain ⟨x22, hx22, hh⟩ := bs' hh
      obtain ⟨c80, hh⟩ := asrt_some hh
      obtain ⟨x23, hx23, hh⟩ := bs' hh
      obtain ⟨x13, hx13, hh⟩ := bs' hh
      refine AEx.draw hC 7 rfl rfl rfl (Q' rfl (Q' rfl (Q' rfl (Q' rfl (Q' rfl (AQ.c rfl rfl (X_Itoa_ok hx22) (AQ.q hC rfl c80 (Qn' (AOps.g [0, 1] rfl (X_WriteString_SyntaxPrinter_ok hx23) ⟨.rfl, ⟨.rfl, trivial⟩⟩ rfl ⟨rfl, ⟨rfl, trivial⟩⟩ rfl rfl (n' (R' rfl rfl (q' rfl (q' rfl ?_)))))))))))))
      refine q' rfl (AOps.g [0, 1] rfl (X_WriteString_SyntaxPrinter_ok hx13) ⟨.rfl, ⟨.rfl, trivial⟩⟩ rfl ⟨rfl, ⟨rfl, trivial⟩⟩ rfl rfl (n' ?_))
      obtain rfl := oi' hh
      exact ⟨_, _, [.bld 1 86, .buf 5 x13.2], rfl, .rfl, ⟨⟨rfl, Nat.le_of_ble_eq_true rfl⟩, ⟨rfl, trivial⟩⟩, rfl, rfl, rfl, rfl⟩
    refine s' rfl rfl (q' rfl (q' rfl (n' ?_)))
    refine ci' rfl hh (fun hh => ?_) (fun hh => ?_)
    · obtain ⟨x24, hx24, hh⟩ := bs' hh
      refine s' rfl rfl (q' rfl (q' rfl (q' rfl (AOps.g [0, 1] rfl (X_WriteString_SyntaxPrinter_ok hx24) ⟨.rfl, ⟨.rfl, trivial⟩⟩ rfl ⟨rfl, ⟨rfl, trivial⟩⟩ rfl rfl (n' (s' rfl rfl (q' rfl (q' rfl (qe' rfl trivial (ei64.lenA _) (q' rfl (n' (AEx.block ?_))))))))))))
      refine AEx.ofLoop ?_
      refine ALoop.wk ?_ (syntax_printer_stmt_l1_ok hh)
      exact ⟨⟨⟨.rfl, rfl⟩, ⟨⟨.rfl, rfl⟩, ⟨⟨.rfl, rfl⟩, ⟨⟨.rfl, rfl⟩, trivial⟩⟩⟩⟩, ⟨⟨rfl, Nat.le_of_ble_eq_true rfl⟩, ⟨rfl, trivial⟩⟩, rfl⟩
    obtain ⟨x13, hx13, hh⟩ := bs' hh
    refine sk' (R' rfl rfl (q' rfl (q' rfl (q' rfl (AOps.g [0, 1] rfl (X_WriteString_SyntaxPrinter_ok hx13) ⟨.rfl, ⟨.rfl, trivial⟩⟩ rfl ⟨rfl, ⟨rfl, trivial⟩⟩ rfl rfl (n' ?_))))))
    obtain rfl := oi' hh
    exact ⟨_, _, [.bld 1 86, .buf 5 x13.2], rfl, .rfl, ⟨⟨rfl, Nat.le_of_ble_eq_true rfl⟩, ⟨rfl, trivial⟩⟩, rfl, rfl, rfl, rfl⟩
  · intro g0 ih0 l margin b res hh
    refine ACall.intro hC Tryz.func156 rfl rfl rfl ?_
    obtain ⟨x1, hx1, hh⟩ := bs' hh
    obtain ⟨c6, hh⟩ := asrt_some hh
    obtain ⟨x2, hx2, hh⟩ := bs' hh
    obtain ⟨c7, hh⟩ := asrt_some hh
    obtain ⟨x3, hx3, hh⟩ := bs' hh
    refine s' rfl rfl (q' rfl (q' rfl (q' rfl (AOps.g [0, 1] rfl (X_WriteString_SyntaxPrinter_ok hx1) ⟨.rfl, ⟨.rfl, trivial⟩⟩ rfl ⟨rfl, ⟨rfl, trivial⟩⟩ rfl rfl (n' (s' rfl rfl (q' rfl (q' rfl (q' rfl (qc' rfl c6 (AOps.g [0, 1] rfl (ih0 _ _ _ _ hx2) ⟨.rfl, ⟨.rfl, ⟨.rfl, trivial⟩⟩⟩ rfl ⟨rfl, ⟨rfl, trivial⟩⟩ rfl rfl (n' (R' rfl rfl ?_)))))))))))))
    iterate 4 refine q' rfl ?_
    refine qc' rfl c7 (AOps.g [0, 1] rfl (X_WriteString_SyntaxPrinter_ok hx3) ⟨.rfl, ⟨.rfl, trivial⟩⟩ rfl ⟨rfl, ⟨rfl, trivial⟩⟩ rfl rfl (n' ?_))
    obtain rfl := oi' hh
    exact ⟨_, _, [.bld 1 86, .buf 5 x3.2], rfl, .rfl, ⟨⟨rfl, Nat.le_of_ble_eq_true rfl⟩, ⟨rfl, trivial⟩⟩, rfl, rfl, rfl, rfl⟩
theorem syntax_printer_stmts_ok {l : List ApiStmt} {margin : Str} {b : Str} {res : Str} (hh : syntax_printer_stmts l margin b = some res) : syntax_printer_stmts_m l margin b res := (syntax_printer_stmts_grp).1 _ _ _ _ hh
theorem syntax_printer_stmts_l1_ok {l : List ApiStmt} {margin : Str} {b1 : Str} {v10 : Int} {res : Str} (hh : syntax_printer_stmts_l1 l margin b1 v10 = some res) : syntax_printer_stmts_l1_m l margin b1 v10 res := (syntax_printer_stmts_grp).2.1 _ _ _ _ _ hh
theorem syntax_printer_stmt_ok {s : ApiStmt} {margin : Str} {b : Str} {res : Str} (hh : syntax_printer_stmt s margin b = some res) : syntax_printer_stmt_m s margin b res := (syntax_printer_stmts_grp).2.2.1 _ _ _ _ hh
theorem syntax_printer_block_ok {l : List ApiStmt} {margin : Str} {b : Str} {res : Str} (hh : syntax_printer_block l margin b = some res) : syntax_printer_block_m l margin b res := (syntax_printer_stmts_grp).2.2.2 _ _ _ _ hh
end Go.Proofs.YtmilgoloagbmpaaGreatDoor

