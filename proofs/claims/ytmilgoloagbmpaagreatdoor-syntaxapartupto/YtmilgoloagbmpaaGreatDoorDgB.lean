/- A part of the proof of SyntaxApart. -/
import Derived.Test.YtmilgoloagbmpaaGreatDoorDgA
set_option maxRecDepth 100000
set_option maxHeartbeats 4000000
set_option linter.unusedVariables false
namespace Go.Proofs.YtmilgoloagbmpaaGreatDoor
open Go.Am
mutual
def syntax_report_decls (l : List ApiDecl) (syntaxReport : SyntaxReport) : Option SyntaxReport :=
  syntax_report_decls_l1 l syntaxReport 0
  partial_fixpoint
def syntax_report_decls_l1 (l : List ApiDecl) (o03 : SyntaxReport) (v15 : Int) : Option SyntaxReport :=
  if (decide (v15 < ((l).length : Int))) = true then
    idx l v15 >>= fun x1 =>
    syntax_declared x1.Kind >>= fun x2 =>
    syntax_report_form x2.1 (SyntaxReport.mk (IntKind.i64.wrap (o03.nodes + 1)) o03.depth o03.badForm o03.badName o03.badNumber) >>= fun x3 =>
    (if (!x2.1) = true then syntax_equalType x1.TypeV (ApiType.mk 0 0 0 0 [] [] []) else some default) >>= fun x4 =>
    if (bif x2.1 then true else (!x4)) = true then
      syntax_report_typ x1.TypeV 1 x3 >>= fun x5 =>
      syntax_report_decls_j2 l x5 x1 x2 v15
    else
      syntax_report_decls_j2 l x3 x1 x2 v15
  else
    some o03
  partial_fixpoint
def syntax_report_decls_j2 (l : List ApiDecl) (o0 : SyntaxReport) (x1 : ApiDecl) (x2 : Bool × Bool) (v151 : Int) : Option SyntaxReport :=
  syntax_report_name x1.Name o0 >>= fun x6 =>
  syntax_report_optional x1.Value x2.2 x6 >>= fun x7 =>
  syntax_report_form (bif (x1.Kind == 4) then true else (x1.Init == 0)) x7 >>= fun x8 =>
  syntax_inside x1.Init (-1048576) 1048576 >>= fun x9 =>
  (if (x9 && (!(x1.TypeV.Kind != 0))) = true then syntax_inside x1.Init 0 1 else some default) >>= fun x10 =>
  syntax_report_number (bif x9 then (bif (x1.TypeV.Kind != 0) then true else x10) else false) x8 >>= fun x11 =>
  syntax_report_form (bif (x1.Kind == 6) then true else (bif (bif (((x1.Params).length : Int) == 0) then (((x1.Vars).length : Int) == 0) else false) then (((x1.Body).length : Int) == 0) else false)) x11 >>= fun x12 =>
  syntax_report_decls_l3 l x12 x1 v151 0
  partial_fixpoint
def syntax_report_decls_l3 (l : List ApiDecl) (o01 : SyntaxReport) (x1 : ApiDecl) (v152 : Int) (v109 : Int) : Option SyntaxReport :=
  if (decide (v109 < ((x1.Params).length : Int))) = true then
    idx x1.Params v109 >>= fun x13 =>
    syntax_report_form (bif (x13.Kind == 4) then (x13.Init == 0) else false) o01 >>= fun x14 =>
    syntax_report_decls_l3 l x14 x1 v152 (IntKind.i64.wrap (v109 + 1))
  else
    syntax_report_decls_l4 l o01 x1 v152 0
  partial_fixpoint
def syntax_report_decls_l4 (l : List ApiDecl) (o02 : SyntaxReport) (x1 : ApiDecl) (v153 : Int) (v127 : Int) : Option SyntaxReport :=
  if (decide (v127 < ((x1.Vars).length : Int))) = true then
    idx x1.Vars v127 >>= fun x15 =>
    syntax_report_form (x15.Kind == 4) o02 >>= fun x16 =>
    syntax_report_decls_l4 l x16 x1 v153 (IntKind.i64.wrap (v127 + 1))
  else
    syntax_report_decls x1.Params o02 >>= fun x17 =>
    syntax_report_decls x1.Vars x17 >>= fun x18 =>
    syntax_report_stmts x1.Body 1 x18 >>= fun x19 =>
    syntax_report_decls_l1 l x19 (IntKind.i64.wrap (v153 + 1))
  partial_fixpoint
end
abbrev syntax_report_decls_m (l : List ApiDecl) (syntaxReport : SyntaxReport) (res : SyntaxReport) : Prop := ACall C 80 [.ref 0 0, .d (.sl (ApiDecl.rows l))] [.row (SyntaxReport.cells syntaxReport) 75] (fun x H' => H' = [.row (SyntaxReport.cells res) 75] ∧ x = .tup [])
abbrev syntax_report_decls_l1_m (l : List ApiDecl) (o03 : SyntaxReport) (v15 : Int) (res : SyntaxReport) : Prop := ALoop (Fx.mk C 150 1) (lo (bk (sr (bodyOf Tryz.f80)))) (mkEnv [(0, .ref 0 0), (13, .d (.sl (ApiDecl.rows l))), (14, .d (.int .i64 ((l).length : Int))), (15, .d (.int .i64 v15))]) [.row (SyntaxReport.cells o03) 75] (Am.InBlock 0 (Am.Ends (Fx.mk C 150 1) Tryz.f80.results.toList (fun x H' => H' = [.row (SyntaxReport.cells res) 75] ∧ x = .tup [])))
abbrev syntax_report_decls_j2_m (l : List ApiDecl) (o0 : SyntaxReport) (x1 : ApiDecl) (x2 : Bool × Bool) (v151 : Int) (res : SyntaxReport) : Prop := AEx (Fx.mk C 150 1) (sr (sr (sr (sr (sr (bk (sl (sr (sr (lo (bk (sr (bodyOf Tryz.f80))))))))))))) (mkEnv [(0, .ref 0 0), (5, .ref 1 0), (7, .d (.bool x2.2)), (13, .d (.sl (ApiDecl.rows l))), (14, .d (.int .i64 ((l).length : Int))), (15, .d (.int .i64 v151))]) [.row (SyntaxReport.cells o0) 75, .row (ApiDecl.cells x1) 64] (Am.InBlock 1 (Am.Then (Fx.mk C 150 1) (sr (sr (sr (lo (bk (sr (bodyOf Tryz.f80))))))) (Am.Again (Fx.mk C 150 1) (lo (bk (sr (bodyOf Tryz.f80)))) (Am.InBlock 0 (Am.Ends (Fx.mk C 150 1) Tryz.f80.results.toList (fun x H' => H' = [.row (SyntaxReport.cells res) 75] ∧ x = .tup []))))))
abbrev syntax_report_decls_l3_m (l : List ApiDecl) (o01 : SyntaxReport) (x1 : ApiDecl) (v152 : Int) (v109 : Int) (res : SyntaxReport) : Prop := ALoop (Fx.mk C 150 1) (lo (bk (sr (sl (sr (sr (sr (sr (sr (sr (sr (sr (sr (sr (sr (bk (sl (sr (sr (lo (bk (sr (bodyOf Tryz.f80))))))))))))))))))))))) (mkEnv [(0, .ref 0 0), (5, .ref 1 0), (13, .d (.sl (ApiDecl.rows l))), (14, .d (.int .i64 ((l).length : Int))), (15, .d (.int .i64 v152)), (107, .d (.sl (ApiDecl.rows x1.Params))), (108, .d (.int .i64 ((x1.Params).length : Int))), (109, .d (.int .i64 v109))]) [.row (SyntaxReport.cells o01) 75, .row (ApiDecl.cells x1) 64] (Am.InBlock 2 (Am.Then (Fx.mk C 150 1) (sr (sr (sr (sr (sr (sr (sr (sr (sr (sr (sr (sr (bk (sl (sr (sr (lo (bk (sr (bodyOf Tryz.f80)))))))))))))))))))) (Am.InBlock 1 (Am.Then (Fx.mk C 150 1) (sr (sr (sr (lo (bk (sr (bodyOf Tryz.f80))))))) (Am.Again (Fx.mk C 150 1) (lo (bk (sr (bodyOf Tryz.f80)))) (Am.InBlock 0 (Am.Ends (Fx.mk C 150 1) Tryz.f80.results.toList (fun x H' => H' = [.row (SyntaxReport.cells res) 75] ∧ x = .tup []))))))))
abbrev syntax_report_decls_l4_m (l : List ApiDecl) (o02 : SyntaxReport) (x1 : ApiDecl) (v153 : Int) (v127 : Int) (res : SyntaxReport) : Prop := ALoop (Fx.mk C 150 1) (lo (bk (sr (sl (sr (sr (sr (sr (sr (sr (sr (sr (sr (sr (sr (sr (bk (sl (sr (sr (lo (bk (sr (bodyOf Tryz.f80)))))))))))))))))))))))) (mkEnv [(0, .ref 0 0), (5, .ref 1 0), (13, .d (.sl (ApiDecl.rows l))), (14, .d (.int .i64 ((l).length : Int))), (15, .d (.int .i64 v153)), (125, .d (.sl (ApiDecl.rows x1.Vars))), (126, .d (.int .i64 ((x1.Vars).length : Int))), (127, .d (.int .i64 v127))]) [.row (SyntaxReport.cells o02) 75, .row (ApiDecl.cells x1) 64] (Am.InBlock 4 (Am.Then (Fx.mk C 150 1) (sr (sr (sr (sr (sr (sr (sr (sr (sr (sr (sr (sr (sr (bk (sl (sr (sr (lo (bk (sr (bodyOf Tryz.f80))))))))))))))))))))) (Am.InBlock 1 (Am.Then (Fx.mk C 150 1) (sr (sr (sr (lo (bk (sr (bodyOf Tryz.f80))))))) (Am.Again (Fx.mk C 150 1) (lo (bk (sr (bodyOf Tryz.f80)))) (Am.InBlock 0 (Am.Ends (Fx.mk C 150 1) Tryz.f80.results.toList (fun x H' => H' = [.row (SyntaxReport.cells res) 75] ∧ x = .tup []))))))))
theorem syntax_report_decls_grp : (∀ (l : List ApiDecl) (syntaxReport : SyntaxReport) (res : SyntaxReport), syntax_report_decls l syntaxReport = some res → syntax_report_decls_m l syntaxReport res) ∧
    (∀ (l : List ApiDecl) (o03 : SyntaxReport) (v15 : Int) (res : SyntaxReport), syntax_report_decls_l1 l o03 v15 = some res → syntax_report_decls_l1_m l o03 v15 res) ∧
    (∀ (l : List ApiDecl) (o0 : SyntaxReport) (x1 : ApiDecl) (x2 : Bool × Bool) (v151 : Int) (res : SyntaxReport), syntax_report_decls_j2 l o0 x1 x2 v151 = some res → syntax_report_decls_j2_m l o0 x1 x2 v151 res) ∧
    (∀ (l : List ApiDecl) (o01 : SyntaxReport) (x1 : ApiDecl) (v152 : Int) (v109 : Int) (res : SyntaxReport), syntax_report_decls_l3 l o01 x1 v152 v109 = some res → syntax_report_decls_l3_m l o01 x1 v152 v109 res) ∧
    (∀ (l : List ApiDecl) (o02 : SyntaxReport) (x1 : ApiDecl) (v153 : Int) (v127 : Int) (res : SyntaxReport), syntax_report_decls_l4 l o02 x1 v153 v127 = some res → syntax_report_decls_l4_m l o02 x1 v153 v127 res) := by
  refine syntax_report_decls.mutual_partial_correctness (fun l syntaxReport res => syntax_report_decls_m l syntaxReport res)
    (fun l o03 v15 res => syntax_report_decls_l1_m l o03 v15 res)
    (fun l o0 x1 x2 v151 res => syntax_report_decls_j2_m l o0 x1 x2 v151 res)
    (fun l o01 x1 v152 v109 res => syntax_report_decls_l3_m l o01 x1 v152 v109 res)
    (fun l o02 x1 v153 v127 res => syntax_report_decls_l4_m l o02 x1 v153 v127 res) ?_ ?_ ?_ ?_ ?_
  · intro g1 ih1 l syntaxReport res hh
    refine ACall.intro hC Tryz.func80 rfl rfl rfl ?_
    refine s' rfl rfl (q' rfl (qe' rfl trivial (ApiDecl.lenA _) (q' rfl (n' (AEx.block ?_)))))
    refine AEx.ofLoop ?_
    refine ALoop.wk ?_ (ih1 _ _ _ _ hh)
    exact ⟨⟨⟨.rfl, rfl⟩, ⟨⟨.rfl, rfl⟩, ⟨⟨.rfl, rfl⟩, ⟨⟨.rfl, rfl⟩, trivial⟩⟩⟩⟩, ⟨⟨rfl, .refl _, rfl⟩, trivial⟩, rfl⟩
  · intro g2 ih2 l o03 v15 res hh
    refine ALoop.unroll ?_
    refine s' rfl rfl (q' rfl (n' (S' ?_)))
    refine ci' rfl hh (fun hh => ?_) (fun hh => ?_)
    · obtain ⟨x1, hx1, hh⟩ := bs' hh
      obtain ⟨x2, hx2, hh⟩ := bs' hh
      obtain ⟨x3, hx3, hh⟩ := bs' hh
      obtain ⟨x4, hx4, hh⟩ := bs' hh
      refine sk' (S' (AEx.block (s' rfl rfl (i' rfl (idx_nat hx1) (ApiDecl.idx hx1) rfl (q' rfl (AOps.nf hC rfl (AOps.s hC rfl (n' (s' rfl rfl (q' rfl (q' rfl (q' rfl (q' rfl ?_)))))))))))))
      refine q' rfl (q' rfl (q' rfl (AOps.s hC rfl (n' (s' rfl rfl (q' rfl (q' rfl (AOps.c rfl rfl (syntax_declared_ok hx2) (q' rfl (q' rfl (q' rfl (q' rfl (q' rfl ?_)))))))))))))
      refine n' (s' rfl rfl (q' rfl (q' rfl (AOps.g [0] rfl (syntax_report_form_ok hx3) ⟨.rfl, ⟨.rfl, trivial⟩⟩ rfl ⟨rfl, trivial⟩ rfl rfl (n' (S' (sg' 8 rfl (a0' rfl (a0' rfl (a0' rfl (a1' rfl (a0' rfl (AG.c rfl rfl (fun hg => ⟨hg, hg, trivial⟩) (fun hw => syntax_equalType_ok (if_t hw hx4)) ?_)))))))))))))
      refine a1' rfl (po' rfl (an' (n' ?_)))
      refine ci' rfl hh (fun hh => ?_) (fun hh => ?_)
      · obtain ⟨x5, hx5, hh⟩ := bs' hh
        refine R' rfl rfl (q' rfl (q' rfl (q' rfl (AOps.g [0] rfl (syntax_report_typ_ok hx5) ⟨.rfl, ⟨.rfl, ⟨.rfl, trivial⟩⟩⟩ rfl ⟨rfl, trivial⟩ rfl rfl (n' ?_)))))
        refine AEx.wk ?_ (ih2 _ _ _ _ _ _ hh)
        exact ⟨⟨⟨.rfl, rfl⟩, ⟨⟨.rfl, rfl⟩, ⟨⟨.rfl, rfl⟩, ⟨⟨.rfl, rfl⟩, ⟨⟨.rfl, rfl⟩, ⟨⟨.rfl, rfl⟩, trivial⟩⟩⟩⟩⟩⟩, ⟨⟨rfl, .refl _, rfl⟩, ⟨⟨rfl, .refl _, rfl⟩, trivial⟩⟩, rfl⟩
      refine sk' ?_
      refine AEx.wk ?_ (ih2 _ _ _ _ _ _ hh)
      exact ⟨⟨⟨.rfl, rfl⟩, ⟨⟨.rfl, rfl⟩, ⟨⟨.rfl, rfl⟩, ⟨⟨.rfl, rfl⟩, ⟨⟨.rfl, rfl⟩, ⟨⟨.rfl, rfl⟩, trivial⟩⟩⟩⟩⟩⟩, ⟨⟨rfl, .refl _, rfl⟩, ⟨⟨rfl, .refl _, rfl⟩, trivial⟩⟩, rfl⟩
    refine ex' ?_
    obtain rfl := oi' hh
    exact ⟨_, _, [.row (SyntaxReport.cells o03) 75], rfl, .rfl, ⟨⟨rfl, .refl _, rfl⟩, trivial⟩, rfl, rfl, rfl, rfl⟩
  · intro g3 ih3 l o0 x1 x2 v151 res hh
    obtain ⟨x6, hx6, hh⟩ := bs' hh
    obtain ⟨x7, hx7, hh⟩ := bs' hh
    obtain ⟨x8, hx8, hh⟩ := bs' hh
    obtain ⟨x9, hx9, hh⟩ := bs' hh
    obtain ⟨x10, hx10, hh⟩ := bs' hh
    obtain ⟨x11, hx11, hh⟩ := bs' hh
    obtain ⟨x12, hx12, hh⟩ := bs' hh
    refine s' rfl rfl (q' rfl (q' rfl (q' rfl (AOps.g [0] rfl (syntax_report_name_ok hx6) ⟨.rfl, ⟨.rfl, trivial⟩⟩ rfl ⟨rfl, trivial⟩ rfl rfl (n' (s' rfl rfl (q' rfl (q' rfl (q' rfl (q' rfl (AOps.g [0] rfl (syntax_report_optional_ok hx7) ⟨.rfl, ⟨.rfl, ⟨.rfl, trivial⟩⟩⟩ rfl ⟨rfl, trivial⟩ rfl rfl (n' (sg' 9 rfl ?_)))))))))))))
    iterate 6 refine a0' rfl ?_
    refine a1' rfl (a1' rfl (po' rfl (an' (AOps.g [0] rfl (syntax_report_form_ok hx8) ⟨.rfl, ⟨.rfl, trivial⟩⟩ rfl ⟨rfl, trivial⟩ rfl rfl (n' (sg' 15 rfl (a0' rfl (a0' rfl (a0' rfl (AG.c rfl rfl (fun _ => trivial) (fun _ => syntax_inside_ok hx9) (a0' rfl (a0' rfl (a1' rfl ?_)))))))))))))
    refine a1' rfl (a1' rfl (a1' rfl (a0' rfl (a1' rfl (AG.c rfl rfl (fun hg => ⟨hg, trivial⟩) (fun hw => syntax_inside_ok (if_t hw hx10)) (pO' rfl (pa' rfl (an' (AOps.g [0] rfl (syntax_report_number_ok hx11) ⟨.rfl, ⟨.rfl, trivial⟩⟩ rfl ⟨rfl, trivial⟩ rfl rfl (n' (s' rfl rfl (q' rfl (q' rfl ?_)))))))))))))
    refine q' rfl (q' rfl (n' (sg' 20 rfl (a0' rfl (a0' rfl (a0' rfl (a0' rfl (a1' rfl (AG.qe hC rfl (fun hg => ⟨⟨hg, trivial⟩, trivial⟩) (ApiDecl.lenA _) (a1' rfl (a1' rfl (a0' rfl (a1' rfl ?_)))))))))))))
    refine AG.qe hC rfl (fun hg => ⟨⟨hg, trivial⟩, trivial⟩) (ApiDecl.lenA _) (a1' rfl (pA' rfl (a1' rfl (a0' rfl (a1' rfl (AG.qe hC rfl (fun hg => ⟨⟨hg, trivial⟩, trivial⟩) (ApiStmt.lenA _) (a1' rfl (pA' rfl (po' rfl (an' (AOps.g [0] rfl (syntax_report_form_ok hx12) ⟨.rfl, ⟨.rfl, trivial⟩⟩ rfl ⟨rfl, trivial⟩ rfl rfl (n' (S' ?_)))))))))))))
    refine s' rfl rfl (q' rfl (q' rfl (qe' rfl trivial (ApiDecl.lenA _) (q' rfl (n' (AEx.block ?_))))))
    refine AEx.ofLoop ?_
    refine ALoop.wk ?_ (ih3 _ _ _ _ _ _ hh)
    exact ⟨⟨⟨.rfl, rfl⟩, ⟨⟨.rfl, rfl⟩, ⟨⟨.rfl, rfl⟩, ⟨⟨.rfl, rfl⟩, ⟨⟨.rfl, rfl⟩, ⟨⟨.rfl, rfl⟩, ⟨⟨.rfl, rfl⟩, ⟨⟨.rfl, rfl⟩, trivial⟩⟩⟩⟩⟩⟩⟩⟩, ⟨⟨rfl, .refl _, rfl⟩, ⟨⟨rfl, .refl _, rfl⟩, trivial⟩⟩, rfl⟩
  · intro g3 g4 ih3 ih4 l o01 x1 v152 v109 res hh
    refine ALoop.unroll ?_
    refine s' rfl rfl (q' rfl (n' (S' ?_)))
    refine ci' rfl hh (fun hh => ?_) (fun hh => ?_)
    · obtain ⟨x13, hx13, hh⟩ := bs' hh
      obtain ⟨x14, hx14, hh⟩ := bs' hh
      refine sk' (S' (AEx.block (s' rfl rfl (i' rfl (idx_nat hx13) (ApiDecl.idx hx13) rfl (q' rfl (AOps.nf hC rfl (AOps.s hC rfl (n' (AEx.regionG 9 rfl (a0' rfl (a0' rfl (a0' rfl (a0' rfl ?_)))))))))))))
      refine a0' rfl (a0' rfl (a1' rfl (a1' rfl (pa' rfl (an' (AOps.g [0] rfl (syntax_report_form_ok hx14) ⟨.rfl, ⟨.rfl, trivial⟩⟩ rfl ⟨rfl, trivial⟩ rfl rfl (n' (R' rfl rfl (q' rfl (q' rfl (n' ?_)))))))))))
      refine ALoop.wk ?_ (ih3 _ _ _ _ _ _ hh)
      exact ⟨⟨⟨.rfl, rfl⟩, ⟨⟨.rfl, rfl⟩, ⟨⟨.rfl, rfl⟩, ⟨⟨.rfl, rfl⟩, ⟨⟨.rfl, rfl⟩, ⟨⟨.rfl, rfl⟩, ⟨⟨.rfl, rfl⟩, ⟨⟨.rfl, rfl⟩, trivial⟩⟩⟩⟩⟩⟩⟩⟩, ⟨⟨rfl, .refl _, rfl⟩, ⟨⟨rfl, .refl _, rfl⟩, trivial⟩⟩, rfl⟩
    refine ex' (S' (s' rfl rfl (q' rfl (q' rfl (qe' rfl trivial (ApiDecl.lenA _) (q' rfl (n' (AEx.block ?_))))))))
    refine AEx.ofLoop ?_
    refine ALoop.wk ?_ (ih4 _ _ _ _ _ _ hh)
    exact ⟨⟨⟨.rfl, rfl⟩, ⟨⟨.rfl, rfl⟩, ⟨⟨.rfl, rfl⟩, ⟨⟨.rfl, rfl⟩, ⟨⟨.rfl, rfl⟩, ⟨⟨.rfl, rfl⟩, ⟨⟨.rfl, rfl⟩, ⟨⟨.rfl, rfl⟩, trivial⟩⟩⟩⟩⟩⟩⟩⟩, ⟨⟨rfl, .refl _, rfl⟩, ⟨⟨rfl, .refl _, rfl⟩, trivial⟩⟩, rfl⟩
  · intro g0 g1 g4 ih0 ih1 ih4 l o02 x1 v153 v127 res hh
    refine ALoop.unroll ?_
    refine s' rfl rfl (q' rfl (n' (S' ?_)))
    refine ci' rfl hh (fun hh => ?_) (fun hh => ?_)
    · obtain ⟨x15, hx15, hh⟩ := bs' hh
      obtain ⟨x16, hx16, hh⟩ := bs' hh
      refine sk' (S' (AEx.block (s' rfl rfl (i' rfl (idx_nat hx15) (ApiDecl.idx hx15) rfl (q' rfl (AOps.nf hC rfl (AOps.s hC rfl (n' (R' rfl rfl (q' rfl (q' rfl (q' rfl (q' rfl ?_)))))))))))))
      refine AOps.g [0] rfl (syntax_report_form_ok hx16) ⟨.rfl, ⟨.rfl, trivial⟩⟩ rfl ⟨rfl, trivial⟩ rfl rfl (n' (R' rfl rfl (q' rfl (q' rfl (n' ?_)))))
      refine ALoop.wk ?_ (ih4 _ _ _ _ _ _ hh)
      exact ⟨⟨⟨.rfl, rfl⟩, ⟨⟨.rfl, rfl⟩, ⟨⟨.rfl, rfl⟩, ⟨⟨.rfl, rfl⟩, ⟨⟨.rfl, rfl⟩, ⟨⟨.rfl, rfl⟩, ⟨⟨.rfl, rfl⟩, ⟨⟨.rfl, rfl⟩, trivial⟩⟩⟩⟩⟩⟩⟩⟩, ⟨⟨rfl, .refl _, rfl⟩, ⟨⟨rfl, .refl _, rfl⟩, trivial⟩⟩, rfl⟩
    obtain ⟨x17, hx17, hh⟩ := bs' hh
    obtain ⟨x18, hx18, hh⟩ := bs' hh
    obtain ⟨x19, hx19, hh⟩ := bs' hh
    refine ex' (s' rfl rfl (q' rfl (q' rfl (q' rfl (AOps.g [0] rfl (ih0 _ _ _ hx17) ⟨.rfl, ⟨.rfl, trivial⟩⟩ rfl ⟨rfl, trivial⟩ rfl rfl (n' (s' rfl rfl (q' rfl (q' rfl (q' rfl (AOps.g [0] rfl (ih0 _ _ _ hx18) ⟨.rfl, ⟨.rfl, trivial⟩⟩ rfl ⟨rfl, trivial⟩ rfl rfl (n' (R' rfl rfl ?_)))))))))))))
    refine q' rfl (q' rfl (q' rfl (AOps.g [0] rfl (syntax_report_stmts_ok hx19) ⟨.rfl, ⟨.rfl, ⟨.rfl, trivial⟩⟩⟩ rfl ⟨rfl, trivial⟩ rfl rfl (n' (R' rfl rfl (q' rfl (q' rfl (n' ?_))))))))
    refine ALoop.wk ?_ (ih1 _ _ _ _ hh)
    exact ⟨⟨⟨.rfl, rfl⟩, ⟨⟨.rfl, rfl⟩, ⟨⟨.rfl, rfl⟩, ⟨⟨.rfl, rfl⟩, trivial⟩⟩⟩⟩, ⟨⟨rfl, .refl _, rfl⟩, trivial⟩, rfl⟩
theorem syntax_report_decls_ok {l : List ApiDecl} {syntaxReport : SyntaxReport} {res : SyntaxReport} (hh : syntax_report_decls l syntaxReport = some res) : syntax_report_decls_m l syntaxReport res := (syntax_report_decls_grp).1 _ _ _ hh
theorem syntax_report_decls_l1_ok {l : List ApiDecl} {o03 : SyntaxReport} {v15 : Int} {res : SyntaxReport} (hh : syntax_report_decls_l1 l o03 v15 = some res) : syntax_report_decls_l1_m l o03 v15 res := (syntax_report_decls_grp).2.1 _ _ _ _ hh
theorem syntax_report_decls_j2_ok {l : List ApiDecl} {o0 : SyntaxReport} {x1 : ApiDecl} {x2 : Bool × Bool} {v151 : Int} {res : SyntaxReport} (hh : syntax_report_decls_j2 l o0 x1 x2 v151 = some res) : syntax_report_decls_j2_m l o0 x1 x2 v151 res := (syntax_report_decls_grp).2.2.1 _ _ _ _ _ _ hh
theorem syntax_report_decls_l3_ok {l : List ApiDecl} {o01 : SyntaxReport} {x1 : ApiDecl} {v152 : Int} {v109 : Int} {res : SyntaxReport} (hh : syntax_report_decls_l3 l o01 x1 v152 v109 = some res) : syntax_report_decls_l3_m l o01 x1 v152 v109 res := (syntax_report_decls_grp).2.2.2.1 _ _ _ _ _ _ hh
theorem syntax_report_decls_l4_ok {l : List ApiDecl} {o02 : SyntaxReport} {x1 : ApiDecl} {v153 : Int} {v127 : Int} {res : SyntaxReport} (hh : syntax_report_decls_l4 l o02 x1 v153 v127 = some res) : syntax_report_decls_l4_m l o02 x1 v153 v127 res := (syntax_report_decls_grp).2.2.2.2 _ _ _ _ _ _ hh
def syntax_program (p : ApiProgram) : Option SyntaxReport :=
  syntax_report_decls p.Decls (SyntaxReport.mk 0 0 false false false) >>= fun x1 =>
  syntax_report_stmts p.Body 1 x1 >>= fun x2 =>
  some x2
abbrev syntax_program_m (p : ApiProgram) (res : SyntaxReport) : Prop := ACall C 38 [.agg (ApiProgram.cells p)] [] (fun x H' => H' = [.dead, .row (SyntaxReport.cells res) 75] ∧ x = .ref 1 0)
theorem syntax_program_ok {p : ApiProgram} {res : SyntaxReport} (hh : syntax_program p = some res) : syntax_program_m p res := by
  unfold syntax_program at hh
  refine ACall.intro hC Tryz.func38 rfl rfl rfl ?_
  obtain ⟨x1, hx1, hh⟩ := bs' hh
  obtain ⟨x2, hx2, hh⟩ := bs' hh
  refine s' rfl rfl (AOps.n hC rfl (q' rfl (n' (s' rfl rfl (q' rfl (AOps.n hC rfl (q' rfl (n' (s' rfl rfl (q' rfl (q' rfl (q' rfl (AOps.g [1] rfl (syntax_report_decls_ok hx1) ⟨.rfl, ⟨.rfl, trivial⟩⟩ rfl ⟨rfl, trivial⟩ rfl rfl ?_)))))))))))))
  refine n' (s' rfl rfl (q' rfl (q' rfl (q' rfl (AOps.g [1] rfl (syntax_report_stmts_ok hx2) ⟨.rfl, ⟨.rfl, ⟨.rfl, trivial⟩⟩⟩ rfl ⟨rfl, trivial⟩ rfl rfl (n' (s' rfl rfl (q' rfl (q' rfl (n' (re' ?_)))))))))))
  obtain rfl := oi' hh
  exact ⟨_, _, [.dead, .row (SyntaxReport.cells x2) 75], rfl, .rfl, ⟨trivial, ⟨⟨rfl, .refl _, rfl⟩, trivial⟩⟩, rfl, rfl, rfl, rfl⟩
def syntax_Check (p : ApiProgram) : Option Int :=
  syntax_program p >>= fun x1 =>
  syntax_report_code x1 >>= fun x2 =>
  some x2
abbrev syntax_Check_m (p : ApiProgram) (res : Int) : Prop := ACall C 14 [.agg (ApiProgram.cells p)] [] (fun x H' => H' = [] ∧ x = .d (.int .i64 res))
theorem syntax_Check_ok {p : ApiProgram} {res : Int} (hh : syntax_Check p = some res) : syntax_Check_m p res := by
  unfold syntax_Check at hh
  refine ACall.intro hC Tryz.func14 rfl rfl rfl ?_
  obtain ⟨x1, hx1, hh⟩ := bs' hh
  obtain ⟨x2, hx2, hh⟩ := bs' hh
  refine s' rfl rfl (AOps.n hC rfl (q' rfl (n' (s' rfl rfl (q' rfl (AOps.g [] rfl (syntax_program_ok hx1) ⟨.rfl, trivial⟩ rfl trivial rfl rfl (AOps.g [2] rfl (syntax_report_code_ok hx2) ⟨.rfl, trivial⟩ rfl ⟨rfl, trivial⟩ rfl rfl (q' rfl (n' (re' ?_))))))))))
  obtain rfl := oi' hh
  exact ⟨_, _, [], rfl, .rfl, trivial, rfl, rfl, rfl, rfl⟩
mutual
def syntax_printer_typ (t : ApiType) (b : Str) : Option Str :=
  if (t.Kind == 0) = true then
    X_WriteString_SyntaxPrinter [98, 111, 111, 108] b >>= fun x1 =>
    some x1.2
  else
    if (t.Kind == 1) = true then
      X_Itoa t.Low >>= fun x2 =>
      if (decide (4 + x2.length ≤ maxLen)) = true then
        if (decide (([105, 110, 116, 91] ++ x2).length + 2 ≤ maxLen)) = true then
          X_Itoa t.High >>= fun x3 =>
          if (decide ((([105, 110, 116, 91] ++ x2) ++ [46, 46]).length + x3.length ≤ maxLen)) = true then
            if (decide (((([105, 110, 116, 91] ++ x2) ++ [46, 46]) ++ x3).length + 1 ≤ maxLen)) = true then
              X_WriteString_SyntaxPrinter (((([105, 110, 116, 91] ++ x2) ++ [46, 46]) ++ x3) ++ [93]) b >>= fun x4 =>
              some x4.2
            else none
          else none
        else none
      else none
    else
      if (t.Kind == 2) = true then
        X_Itoa t.Size >>= fun x5 =>
        if (decide (6 + x5.length ≤ maxLen)) = true then
          if (decide (([97, 114, 114, 97, 121, 32] ++ x5).length + 4 ≤ maxLen)) = true then
            X_WriteString_SyntaxPrinter (([97, 114, 114, 97, 121, 32] ++ x5) ++ [32, 111, 102, 32]) b >>= fun x6 =>
            idx t.Of 0 >>= fun x7 =>
            syntax_printer_typ x7 x6.2 >>= fun x14 =>
            some x14
          else none
        else none
      else
        if (t.Kind == 3) = true then
          X_WriteString_SyntaxPrinter [114, 101, 99, 111, 114, 100, 32, 123] b >>= fun x8 =>
          syntax_printer_typ_l1 t x8.2 0
        else
          if (t.Kind == 4) = true then
            X_WriteString_SyntaxPrinter t.Name b >>= fun x9 =>
            some x9.2
          else
            some b
  partial_fixpoint
def syntax_printer_typ_l1 (t : ApiType) (b1 : Str) (v56 : Int) : Option Str :=
  if (decide (v56 < ((t.Of).length : Int))) = true then
    idx t.Of v56 >>= fun x10 =>
    if (decide (v56 > 0)) = true then
      X_WriteString_SyntaxPrinter [44, 32] b1 >>= fun x16 =>
      syntax_printer_typ_j2 t x16.2 x10 v56 v56
    else
      syntax_printer_typ_j2 t b1 x10 v56 v56
  else
    X_WriteString_SyntaxPrinter [125] b1 >>= fun x13 =>
    some x13.2
  partial_fixpoint
def syntax_printer_typ_j2 (t : ApiType) (b11 : Str) (x10 : ApiType) (i : Int) (v561 : Int) : Option Str :=
  idx t.Names i >>= fun x11 =>
  if (decide (x11.length + 2 ≤ maxLen)) = true then
    X_WriteString_SyntaxPrinter (x11 ++ [58, 32]) b11 >>= fun x12 =>
    syntax_printer_typ x10 x12.2 >>= fun x15 =>
    syntax_printer_typ_l1 t x15 (IntKind.i64.wrap (v561 + 1))
  else none
  partial_fixpoint
end
abbrev syntax_printer_typ_m (t : ApiType) (b : Str) (res : Str) : Prop := ACall C 58 [.ref 0 0, .agg (ApiType.cells t)] [.bld 1 86, .buf 5 b] (fun x H' => H' = [.bld 1 86, .buf 5 res] ∧ x = .tup [])
abbrev syntax_printer_typ_l1_m (t : ApiType) (b1 : Str) (v56 : Int) (res : Str) : Prop := ALoop (Fx.mk C 93 2) (lo (bk (sr (sl (sr (ca (sr (cb (sr (cb (sr (cb (sr (bk (sr (sr (bodyOf Tryz.f58))))))))))))))))) (mkEnv [(0, .ref 0 0), (3, .ref 2 0), (54, .d (.sl (ApiType.rows t.Of))), (55, .d (.int .i64 ((t.Of).length : Int))), (56, .d (.int .i64 v56))]) [.bld 1 86, .buf 5 b1, .row (ApiType.cells t) 48] (Am.InBlock 1 (Am.Then (Fx.mk C 93 2) (sr (sr (ca (sr (cb (sr (cb (sr (cb (sr (bk (sr (sr (bodyOf Tryz.f58)))))))))))))) (Am.InBlock 0 (Am.Ends (Fx.mk C 93 2) Tryz.f58.results.toList (fun x H' => H' = [.bld 1 86, .buf 5 res] ∧ x = .tup [])))))
abbrev syntax_printer_typ_j2_m (t : ApiType) (b11 : Str) (x10 : ApiType) (i : Int) (v561 : Int) (res : Str) : Prop := AEx (Fx.mk C 93 2) (sr (sr (bk (sl (sr (sr (lo (bk (sr (sl (sr (ca (sr (cb (sr (cb (sr (cb (sr (bk (sr (sr (bodyOf Tryz.f58))))))))))))))))))))))) (mkEnv [(0, .ref 0 0), (3, .ref 2 0), (4, .d (.int .i64 i)), (5, .ref 3 0), (54, .d (.sl (ApiType.rows t.Of))), (55, .d (.int .i64 ((t.Of).length : Int))), (56, .d (.int .i64 v561))]) [.bld 1 86, .buf 5 b11, .row (ApiType.cells t) 48, .row (ApiType.cells x10) 48] (Am.InBlock 2 (Am.Then (Fx.mk C 93 2) (sr (sr (sr (lo (bk (sr (sl (sr (ca (sr (cb (sr (cb (sr (cb (sr (bk (sr (sr (bodyOf Tryz.f58)))))))))))))))))))) (Am.Again (Fx.mk C 93 2) (lo (bk (sr (sl (sr (ca (sr (cb (sr (cb (sr (cb (sr (bk (sr (sr (bodyOf Tryz.f58))))))))))))))))) (Am.InBlock 1 (Am.Then (Fx.mk C 93 2) (sr (sr (ca (sr (cb (sr (cb (sr (cb (sr (bk (sr (sr (bodyOf Tryz.f58)))))))))))))) (Am.InBlock 0 (Am.Ends (Fx.mk C 93 2) Tryz.f58.results.toList (fun x H' => H' = [.bld 1 86, .buf 5 res] ∧ x = .tup []))))))))
theorem syntax_printer_typ_grp : (∀ (t : ApiType) (b : Str) (res : Str), syntax_printer_typ t b = some res → syntax_printer_typ_m t b res) ∧
    (∀ (t : ApiType) (b1 : Str) (v56 : Int) (res : Str), syntax_printer_typ_l1 t b1 v56 = some res → syntax_printer_typ_l1_m t b1 v56 res) ∧
    (∀ (t : ApiType) (b11 : Str) (x10 : ApiType) (i : Int) (v561 : Int) (res : Str), syntax_printer_typ_j2 t b11 x10 i v561 = some res → syntax_printer_typ_j2_m t b11 x10 i v561 res) := by
  refine syntax_printer_typ.mutual_partial_correctness (fun t b res => syntax_printer_typ_m t b res)
    (fun t b1 v56 res => syntax_printer_typ_l1_m t b1 v56 res)
    (fun t b11 x10 i v561 res => syntax_printer_typ_j2_m t b11 x10 i v561 res) ?_ ?_ ?_
  · intro g0 g1 ih0 ih1 t b res hh
    refine ACall.intro hC Tryz.func58 rfl rfl rfl ?_
    refine s' rfl rfl (AOps.n hC rfl (n' (s' rfl rfl (q' rfl (q' rfl (n' (AEx.block (s' rfl rfl (q' rfl (q' rfl (n' ?_)))))))))))
    refine ci' rfl hh (fun hh => ?_) (fun hh => ?_)
    · obtain ⟨x1, hx1, hh⟩ := bs' hh
      refine R' rfl rfl (q' rfl (q' rfl (q' rfl (AOps.g [0, 1] rfl (X_WriteString_SyntaxPrinter_ok hx1) ⟨.rfl, ⟨.rfl, trivial⟩⟩ rfl ⟨rfl, ⟨rfl, trivial⟩⟩ rfl rfl (n' ?_)))))
      obtain rfl := oi' hh
      exact ⟨_, _, [.bld 1 86, .buf 5 x1.2], rfl, .rfl, ⟨⟨rfl, Nat.le_of_ble_eq_true rfl⟩, ⟨rfl, trivial⟩⟩, rfl, rfl, rfl, rfl⟩
    refine s' rfl rfl (q' rfl (q' rfl (n' ?_)))
    refine ci' rfl hh (fun hh => ?_) (fun hh => ?_)
    · obtain ⟨x2, hx2, hh⟩ := bs' hh
      obtain ⟨c49, hh⟩ := asrt_some hh
      obtain ⟨c50, hh⟩ := asrt_some hh
      obtain ⟨x3, hx3, hh⟩ := bs' hh
      obtain ⟨c51, hh⟩ := asrt_some hh
      obtain ⟨c52, hh⟩ := asrt_some hh
      obtain ⟨x4, hx4, hh⟩ := bs' hh
      refine AEx.draw hC 13 rfl rfl rfl (Q' rfl (Q' rfl (Q' rfl (Q' rfl (Q' rfl (AQ.c rfl rfl (X_Itoa_ok hx2) (AQ.q hC rfl c49 (AQ.q hC rfl c50 (Q' rfl (Q' rfl (AQ.c rfl rfl (X_Itoa_ok hx3) (AQ.q hC rfl c51 (AQ.q hC rfl c52 ?_)))))))))))))
      refine Qn' (AOps.g [0, 1] rfl (X_WriteString_SyntaxPrinter_ok hx4) ⟨.rfl, ⟨.rfl, trivial⟩⟩ rfl ⟨rfl, ⟨rfl, trivial⟩⟩ rfl rfl (n' ?_))
      obtain rfl := oi' hh
      exact ⟨_, _, [.bld 1 86, .buf 5 x4.2], rfl, .rfl, ⟨⟨rfl, Nat.le_of_ble_eq_true rfl⟩, ⟨rfl, trivial⟩⟩, rfl, rfl, rfl, rfl⟩
    refine s' rfl rfl (q' rfl (q' rfl (n' ?_)))
    refine ci' rfl hh (fun hh => ?_) (fun hh => ?_)
    · obtain ⟨x5, hx5, hh⟩ := bs' hh
      obtain ⟨c53, hh⟩ := asrt_some hh
      obtain ⟨c54, hh⟩ := asrt_some hh
      obtain ⟨x6, hx6, hh⟩ := bs' hh
      obtain ⟨x7, hx7, hh⟩ := bs' hh
      obtain ⟨x14, hx14, hh⟩ := bs' hh
      refine S' (AEx.draw hC 8 rfl rfl rfl (Q' rfl (Q' rfl (Q' rfl (Q' rfl (Q' rfl (AQ.c rfl rfl (X_Itoa_ok hx5) (AQ.q hC rfl c53 (AQ.q hC rfl c54 (Qn' (AOps.g [0, 1] rfl (X_WriteString_SyntaxPrinter_ok hx6) ⟨.rfl, ⟨.rfl, trivial⟩⟩ rfl ⟨rfl, ⟨rfl, trivial⟩⟩ rfl rfl (n' (R' rfl rfl ?_)))))))))))))
      refine q' rfl (q' rfl (q' rfl (i' rfl (idx_nat hx7) (ApiType.idx hx7) rfl (q' rfl (AOps.g [0, 1] rfl (ih0 _ _ _ hx14) ⟨.rfl, ⟨.rfl, trivial⟩⟩ rfl ⟨rfl, ⟨rfl, trivial⟩⟩ rfl rfl (n' ?_))))))
      obtain rfl := oi' hh
      exact ⟨_, _, [.bld 1 86, .buf 5 x14], rfl, .rfl, ⟨⟨rfl, Nat.le_of_ble_eq_true rfl⟩, ⟨rfl, trivial⟩⟩, rfl, rfl, rfl, rfl⟩
    refine s' rfl rfl (q' rfl (q' rfl (n' ?_)))
    refine ci' rfl hh (fun hh => ?_) (fun hh => ?_)
    · obtain ⟨x8, hx8, hh⟩ := bs' hh
      refine s' rfl rfl (q' rfl (q' rfl (q' rfl (AOps.g [0, 1] rfl (X_WriteString_SyntaxPrinter_ok hx8) ⟨.rfl, ⟨.rfl, trivial⟩⟩ rfl ⟨rfl, ⟨rfl, trivial⟩⟩ rfl rfl (n' (S' (s' rfl rfl (q' rfl (q' rfl (qe' rfl trivial (ApiType.lenA _) (q' rfl (n' (AEx.block ?_)))))))))))))
      refine AEx.ofLoop ?_
      refine ALoop.wk ?_ (ih1 _ _ _ _ hh)
      exact ⟨⟨⟨.rfl, rfl⟩, ⟨⟨.rfl, rfl⟩, ⟨⟨.rfl, rfl⟩, ⟨⟨.rfl, rfl⟩, ⟨⟨.rfl, rfl⟩, trivial⟩⟩⟩⟩⟩, ⟨⟨rfl, Nat.le_of_ble_eq_true rfl⟩, ⟨rfl, ⟨⟨rfl, .refl _, rfl⟩, trivial⟩⟩⟩, rfl⟩
    refine s' rfl rfl (q' rfl (q' rfl (n' ?_)))
    refine ci' rfl hh (fun hh => ?_) (fun hh => ?_)
    · obtain ⟨x9, hx9, hh⟩ := bs' hh
      refine AEx.draw hC 5 rfl rfl rfl (Q' rfl (Q' rfl (Q' rfl (Q' rfl (Q' rfl (Qn' (AOps.g [0, 1] rfl (X_WriteString_SyntaxPrinter_ok hx9) ⟨.rfl, ⟨.rfl, trivial⟩⟩ rfl ⟨rfl, ⟨rfl, trivial⟩⟩ rfl rfl (n' ?_))))))))
      obtain rfl := oi' hh
      exact ⟨_, _, [.bld 1 86, .buf 5 x9.2], rfl, .rfl, ⟨⟨rfl, Nat.le_of_ble_eq_true rfl⟩, ⟨rfl, trivial⟩⟩, rfl, rfl, rfl, rfl⟩
    refine sk' ?_
    obtain rfl := oi' hh
    exact ⟨_, _, [.bld 1 86, .buf 5 b], rfl, .rfl, ⟨⟨rfl, Nat.le_of_ble_eq_true rfl⟩, ⟨rfl, trivial⟩⟩, rfl, rfl, rfl, rfl⟩
  · intro g2 ih2 t b1 v56 res hh
    refine ALoop.unroll ?_
    refine s' rfl rfl (q' rfl (n' (S' ?_)))
    refine ci' rfl hh (fun hh => ?_) (fun hh => ?_)
    · obtain ⟨x10, hx10, hh⟩ := bs' hh
      refine sk' (S' (AEx.block (s' rfl rfl (q' rfl (i' rfl (idx_nat hx10) (ApiType.idx hx10) rfl (q' rfl (AOps.nf hC rfl (q' rfl (AOps.s hC rfl (n' (S' (s' rfl rfl (q' rfl ?_)))))))))))))
      refine q' rfl (n' ?_)
      refine ci' rfl hh (fun hh => ?_) (fun hh => ?_)
      · obtain ⟨x16, hx16, hh⟩ := bs' hh
        refine R' rfl rfl (q' rfl (q' rfl (q' rfl (AOps.g [0, 1] rfl (X_WriteString_SyntaxPrinter_ok hx16) ⟨.rfl, ⟨.rfl, trivial⟩⟩ rfl ⟨rfl, ⟨rfl, trivial⟩⟩ rfl rfl (n' ?_)))))
        refine AEx.wk ?_ (ih2 _ _ _ _ _ _ hh)
        exact ⟨⟨⟨.rfl, rfl⟩, ⟨⟨.rfl, rfl⟩, ⟨⟨.rfl, rfl⟩, ⟨⟨.rfl, rfl⟩, ⟨⟨.rfl, rfl⟩, ⟨⟨.rfl, rfl⟩, ⟨⟨.rfl, rfl⟩, trivial⟩⟩⟩⟩⟩⟩⟩, ⟨⟨rfl, Nat.le_of_ble_eq_true rfl⟩, ⟨rfl, ⟨⟨rfl, .refl _, rfl⟩, ⟨⟨rfl, .refl _, rfl⟩, trivial⟩⟩⟩⟩, rfl⟩
      refine sk' ?_
      refine AEx.wk ?_ (ih2 _ _ _ _ _ _ hh)
      exact ⟨⟨⟨.rfl, rfl⟩, ⟨⟨.rfl, rfl⟩, ⟨⟨.rfl, rfl⟩, ⟨⟨.rfl, rfl⟩, ⟨⟨.rfl, rfl⟩, ⟨⟨.rfl, rfl⟩, ⟨⟨.rfl, rfl⟩, trivial⟩⟩⟩⟩⟩⟩⟩, ⟨⟨rfl, Nat.le_of_ble_eq_true rfl⟩, ⟨rfl, ⟨⟨rfl, .refl _, rfl⟩, ⟨⟨rfl, .refl _, rfl⟩, trivial⟩⟩⟩⟩, rfl⟩
    obtain ⟨x13, hx13, hh⟩ := bs' hh
    refine ex' (R' rfl rfl (q' rfl (q' rfl (q' rfl (AOps.g [0, 1] rfl (X_WriteString_SyntaxPrinter_ok hx13) ⟨.rfl, ⟨.rfl, trivial⟩⟩ rfl ⟨rfl, ⟨rfl, trivial⟩⟩ rfl rfl (n' ?_))))))
    obtain rfl := oi' hh
    exact ⟨_, _, [.bld 1 86, .buf 5 x13.2], rfl, .rfl, ⟨⟨rfl, Nat.le_of_ble_eq_true rfl⟩, ⟨rfl, trivial⟩⟩, rfl, rfl, rfl, rfl⟩
  · intro g0 g1 ih0 ih1 t b11 x10 i v561 res hh
    obtain ⟨x11, hx11, hh⟩ := bs' hh
    obtain ⟨c55, hh⟩ := asrt_some hh
    obtain ⟨x12, hx12, hh⟩ := bs' hh
    obtain ⟨x15, hx15, hh⟩ := bs' hh
    refine S' (AEx.draw hC 9 rfl rfl rfl (Q' rfl (Q' rfl (Q' rfl (Q' rfl (Q' rfl (Q' rfl (AQ.i hC rfl (idx_nat hx11) (estr.idx hx11) rfl (Q' rfl (AQ.q hC rfl c55 (Qn' (AOps.g [0, 1] rfl (X_WriteString_SyntaxPrinter_ok hx12) ⟨.rfl, ⟨.rfl, trivial⟩⟩ rfl ⟨rfl, ⟨rfl, trivial⟩⟩ rfl rfl (n' ?_)))))))))))))
    refine R' rfl rfl (q' rfl (q' rfl (AOps.g [0, 1] rfl (ih0 _ _ _ hx15) ⟨.rfl, ⟨.rfl, trivial⟩⟩ rfl ⟨rfl, ⟨rfl, trivial⟩⟩ rfl rfl (n' (R' rfl rfl (q' rfl (q' rfl (n' ?_))))))))
    refine ALoop.wk ?_ (ih1 _ _ _ _ hh)
    exact ⟨⟨⟨.rfl, rfl⟩, ⟨⟨.rfl, rfl⟩, ⟨⟨.rfl, rfl⟩, ⟨⟨.rfl, rfl⟩, ⟨⟨.rfl, rfl⟩, trivial⟩⟩⟩⟩⟩, ⟨⟨rfl, Nat.le_of_ble_eq_true rfl⟩, ⟨rfl, ⟨⟨rfl, .refl _, rfl⟩, trivial⟩⟩⟩, rfl⟩
theorem syntax_printer_typ_ok {t : ApiType} {b : Str} {res : Str} (hh : syntax_printer_typ t b = some res) : syntax_printer_typ_m t b res := (syntax_printer_typ_grp).1 _ _ _ hh
theorem syntax_printer_typ_l1_ok {t : ApiType} {b1 : Str} {v56 : Int} {res : Str} (hh : syntax_printer_typ_l1 t b1 v56 = some res) : syntax_printer_typ_l1_m t b1 v56 res := (syntax_printer_typ_grp).2.1 _ _ _ _ hh
theorem syntax_printer_typ_j2_ok {t : ApiType} {b11 : Str} {x10 : ApiType} {i : Int} {v561 : Int} {res : Str} (hh : syntax_printer_typ_j2 t b11 x10 i v561 = some res) : syntax_printer_typ_j2_m t b11 x10 i v561 res := (syntax_printer_typ_grp).2.2 _ _ _ _ _ _ hh
def syntax_printer_named (name : Str) (t : ApiType) (b : Str) : Option Str :=
  if (decide (name.length + 2 ≤ maxLen)) = true then
    X_WriteString_SyntaxPrinter (name ++ [58, 32]) b >>= fun x1 =>
    syntax_printer_typ t x1.2 >>= fun x2 =>
    some x2
  else none
abbrev syntax_printer_named_m (name : Str) (t : ApiType) (b : Str) (res : Str) : Prop := ACall C 115 [.ref 0 0, .d (.str name), .agg (ApiType.cells t)] [.bld 1 86, .buf 5 b] (fun x H' => H' = [.bld 1 86, .buf 5 res] ∧ x = .tup [])
theorem syntax_printer_named_ok {name : Str} {t : ApiType} {b : Str} {res : Str} (hh : syntax_printer_named name t b = some res) : syntax_printer_named_m name t b res := by
  unfold syntax_printer_named at hh
  refine ACall.intro hC Tryz.func115 rfl rfl rfl ?_
  obtain ⟨c4, hh⟩ := asrt_some hh
  obtain ⟨x1, hx1, hh⟩ := bs' hh
  obtain ⟨x2, hx2, hh⟩ := bs' hh
  refine s' rfl rfl (AOps.n hC rfl (n' (s' rfl rfl (q' rfl (q' rfl (q' rfl (q' rfl (qc' rfl c4 (AOps.g [0, 1] rfl (X_WriteString_SyntaxPrinter_ok hx1) ⟨.rfl, ⟨.rfl, trivial⟩⟩ rfl ⟨rfl, ⟨rfl, trivial⟩⟩ rfl rfl (n' (R' rfl rfl (q' rfl (q' rfl ?_)))))))))))))
  refine AOps.g [0, 1] rfl (syntax_printer_typ_ok hx2) ⟨.rfl, ⟨.rfl, trivial⟩⟩ rfl ⟨rfl, ⟨rfl, trivial⟩⟩ rfl rfl (n' ?_)
  obtain rfl := oi' hh
  exact ⟨_, _, [.bld 1 86, .buf 5 x2], rfl, .rfl, ⟨⟨rfl, Nat.le_of_ble_eq_true rfl⟩, ⟨rfl, trivial⟩⟩, rfl, rfl, rfl, rfl⟩
def syntax_printer_variable_j1 (x2 : Str) (value : Str) : Option Str :=
  if (decide (3 + value.length ≤ maxLen)) = true then
    X_WriteString_SyntaxPrinter ([32, 61, 32] ++ value) x2 >>= fun x4 =>
    X_WriteString_SyntaxPrinter [59, 10] x4.2 >>= fun x5 =>
    some x5.2
  else none
abbrev syntax_printer_variable_j1_m (x2 : Str) (value : Str) (res : Str) : Prop := AEx (Fx.mk C 35 2) (sr (sr (ca (sr (sl (sr (sr (sr (bodyOf Tryz.f113))))))))) (mkEnv [(0, .ref 0 0), (4, .d (.str value))]) [.bld 1 86, .buf 5 x2] (Am.Then (Fx.mk C 35 2) (sr (sr (sr (sr (bodyOf Tryz.f113))))) (Am.Ends (Fx.mk C 35 2) Tryz.f113.results.toList (fun x H' => H' = [.bld 1 86, .buf 5 res] ∧ x = .tup [])))
theorem syntax_printer_variable_j1_ok {x2 : Str} {value : Str} {res : Str} (hh : syntax_printer_variable_j1 x2 value = some res) : syntax_printer_variable_j1_m x2 value res := by
  unfold syntax_printer_variable_j1 at hh
  obtain ⟨c5, hh⟩ := asrt_some hh
  obtain ⟨x4, hx4, hh⟩ := bs' hh
  obtain ⟨x5, hx5, hh⟩ := bs' hh
  refine R' rfl rfl (q' rfl (q' rfl (q' rfl (q' rfl (qc' rfl c5 (AOps.g [0, 1] rfl (X_WriteString_SyntaxPrinter_ok hx4) ⟨.rfl, ⟨.rfl, trivial⟩⟩ rfl ⟨rfl, ⟨rfl, trivial⟩⟩ rfl rfl (n' (R' rfl rfl (q' rfl (q' rfl (q' rfl (AOps.g [0, 1] rfl (X_WriteString_SyntaxPrinter_ok hx5) ⟨.rfl, ⟨.rfl, trivial⟩⟩ rfl ⟨rfl, ⟨rfl, trivial⟩⟩ rfl rfl (n' ?_)))))))))))))
  obtain rfl := oi' hh
  exact ⟨_, _, [.bld 1 86, .buf 5 x5.2], rfl, .rfl, ⟨⟨rfl, Nat.le_of_ble_eq_true rfl⟩, ⟨rfl, trivial⟩⟩, rfl, rfl, rfl, rfl⟩
def syntax_printer_variable (d : ApiDecl) (b : Str) : Option Str :=
  X_WriteString_SyntaxPrinter [118, 97, 114, 32] b >>= fun x1 =>
  syntax_printer_named d.Name d.TypeV x1.2 >>= fun x2 =>
  if (d.Init != 0) = true then
    X_Itoa d.Init >>= fun x3 =>
    if (d.TypeV.Kind == 0) = true then
      syntax_printer_variable_j1 x2 [116, 114, 117, 101]
    else
      syntax_printer_variable_j1 x2 x3
  else
    X_WriteString_SyntaxPrinter [59, 10] x2 >>= fun x5 =>
    some x5.2
abbrev syntax_printer_variable_m (d : ApiDecl) (b : Str) (res : Str) : Prop := ACall C 113 [.ref 0 0, .agg (ApiDecl.cells d)] [.bld 1 86, .buf 5 b] (fun x H' => H' = [.bld 1 86, .buf 5 res] ∧ x = .tup [])
theorem syntax_printer_variable_ok {d : ApiDecl} {b : Str} {res : Str} (hh : syntax_printer_variable d b = some res) : syntax_printer_variable_m d b res := by
  unfold syntax_printer_variable at hh
  refine ACall.intro hC Tryz.func113 rfl rfl rfl ?_
  obtain ⟨x1, hx1, hh⟩ := bs' hh
  obtain ⟨x2, hx2, hh⟩ := bs' hh
  refine s' rfl rfl (AOps.n hC rfl (n' (s' rfl rfl (q' rfl (q' rfl (q' rfl (AOps.g [0, 1] rfl (X_WriteString_SyntaxPrinter_ok hx1) ⟨.rfl, ⟨.rfl, trivial⟩⟩ rfl ⟨rfl, ⟨rfl, trivial⟩⟩ rfl rfl (n' (s' rfl rfl (q' rfl (q' rfl (q' rfl (q' rfl ?_)))))))))))))
  refine q' rfl (AOps.g [0, 1] rfl (syntax_printer_named_ok hx2) ⟨.rfl, ⟨.rfl, ⟨.rfl, trivial⟩⟩⟩ rfl ⟨rfl, ⟨rfl, trivial⟩⟩ rfl rfl (n' (S' (s' rfl rfl (q' rfl (q' rfl (q' rfl (n' ?_))))))))
  refine ci' rfl hh (fun hh => ?_) (fun hh => ?_)
  · obtain ⟨x3, hx3, hh⟩ := bs' hh
    refine s' rfl rfl (q' rfl (q' rfl (AOps.c rfl rfl (X_Itoa_ok hx3) (q' rfl (n' (S' (s' rfl rfl (q' rfl (q' rfl (q' rfl (q' rfl (n' ?_))))))))))))
    refine ci' rfl hh (fun hh => ?_) (fun hh => ?_)
    · refine R' rfl rfl (q' rfl (n' ?_))
      refine AEx.wk ?_ (syntax_printer_variable_j1_ok hh)
      exact ⟨⟨⟨.rfl, rfl⟩, ⟨⟨.rfl, rfl⟩, trivial⟩⟩, ⟨⟨rfl, Nat.le_of_ble_eq_true rfl⟩, ⟨rfl, trivial⟩⟩, rfl⟩
    refine sk' ?_
    refine AEx.wk ?_ (syntax_printer_variable_j1_ok hh)
    exact ⟨⟨⟨.rfl, rfl⟩, ⟨⟨.rfl, rfl⟩, trivial⟩⟩, ⟨⟨rfl, Nat.le_of_ble_eq_true rfl⟩, ⟨rfl, trivial⟩⟩, rfl⟩
  obtain ⟨x5, hx5, hh⟩ := bs' hh
  refine sk' (R' rfl rfl (q' rfl (q' rfl (q' rfl (AOps.g [0, 1] rfl (X_WriteString_SyntaxPrinter_ok hx5) ⟨.rfl, ⟨.rfl, trivial⟩⟩ rfl ⟨rfl, ⟨rfl, trivial⟩⟩ rfl rfl (n' ?_))))))
  obtain rfl := oi' hh
  exact ⟨_, _, [.bld 1 86, .buf 5 x5.2], rfl, .rfl, ⟨⟨rfl, Nat.le_of_ble_eq_true rfl⟩, ⟨rfl, trivial⟩⟩, rfl, rfl, rfl, rfl⟩
mutual
def syntax_printer_stmt_l1 (s : ApiStmt) (b1 : Str) (v163 : Int) : Option Str :=
  if (decide (v163 < ((s.Numbers).length : Int))) = true then
    idx s.Numbers v163 >>= fun x25 =>
    if (decide (v163 > 0)) = true then
      X_WriteString_SyntaxPrinter [44, 32] b1 >>= fun x28 =>
      syntax_printer_stmt_j2 s x28.2 x25 v163
    else
      syntax_printer_stmt_j2 s b1 x25 v163
  else
    X_WriteString_SyntaxPrinter [59] b1 >>= fun x13 =>
    some x13.2
  partial_fixpoint
def syntax_printer_stmt_j2 (s : ApiStmt) (b11 : Str) (x25 : Int) (v1631 : Int) : Option Str :=
  X_Itoa x25 >>= fun x26 =>
  X_WriteString_SyntaxPrinter x26 b11 >>= fun x27 =>
  syntax_printer_stmt_l1 s x27.2 (IntKind.i64.wrap (v1631 + 1))
  partial_fixpoint
end
abbrev syntax_printer_stmt_l1_m (s : ApiStmt) (b1 : Str) (v163 : Int) (res : Str) : Prop := ALoop (Fx.mk C 185 2) (lo (bk (sr (sr (ca (sr (cb (sr (cb (sr (cb (sr (cb (sr (cb (sr (cb (sr (cb (sr (cb (sr (bk (sr (sl (sr (bodyOf Tryz.f117))))))))))))))))))))))))))) (mkEnv [(0, .ref 0 0), (161, .d (.sl (ei64.rows s.Numbers))), (162, .d (.int .i64 ((s.Numbers).length : Int))), (163, .d (.int .i64 v163))]) [.bld 1 86, .buf 5 b1] (Am.InBlock 1 (Am.InBlock 0 (Am.Then (Fx.mk C 185 2) (sr (sr (bodyOf Tryz.f117))) (Am.Ends (Fx.mk C 185 2) Tryz.f117.results.toList (fun x H' => H' = [.bld 1 86, .buf 5 res] ∧ x = .tup [])))))
abbrev syntax_printer_stmt_j2_m (s : ApiStmt) (b11 : Str) (x25 : Int) (v1631 : Int) (res : Str) : Prop := AEx (Fx.mk C 185 2) (sr (sr (bk (sl (sr (sr (lo (bk (sr (sr (ca (sr (cb (sr (cb (sr (cb (sr (cb (sr (cb (sr (cb (sr (cb (sr (cb (sr (bk (sr (sl (sr (bodyOf Tryz.f117))))))))))))))))))))))))))))))))) (mkEnv [(0, .ref 0 0), (7, .d (.int .i64 x25)), (161, .d (.sl (ei64.rows s.Numbers))), (162, .d (.int .i64 ((s.Numbers).length : Int))), (163, .d (.int .i64 v1631))]) [.bld 1 86, .buf 5 b11] (Am.InBlock 2 (Am.Then (Fx.mk C 185 2) (sr (sr (sr (lo (bk (sr (sr (ca (sr (cb (sr (cb (sr (cb (sr (cb (sr (cb (sr (cb (sr (cb (sr (cb (sr (bk (sr (sl (sr (bodyOf Tryz.f117)))))))))))))))))))))))))))))) (Am.Again (Fx.mk C 185 2) (lo (bk (sr (sr (ca (sr (cb (sr (cb (sr (cb (sr (cb (sr (cb (sr (cb (sr (cb (sr (cb (sr (bk (sr (sl (sr (bodyOf Tryz.f117))))))))))))))))))))))))))) (Am.InBlock 1 (Am.InBlock 0 (Am.Then (Fx.mk C 185 2) (sr (sr (bodyOf Tryz.f117))) (Am.Ends (Fx.mk C 185 2) Tryz.f117.results.toList (fun x H' => H' = [.bld 1 86, .buf 5 res] ∧ x = .tup []))))))))
theorem syntax_printer_stmt_l1_grp (s : ApiStmt) : (∀ (b1 : Str) (v163 : Int) (res : Str), syntax_printer_stmt_l1 s b1 v163 = some res → syntax_printer_stmt_l1_m s b1 v163 res) ∧
    (∀ (b11 : Str) (x25 : Int) (v1631 : Int) (res : Str), syntax_printer_stmt_j2 s b11 x25 v1631 = some res → syntax_printer_stmt_j2_m s b11 x25 v1631 res) := by
  refine syntax_printer_stmt_l1.mutual_partial_correctness s
    (fun b1 v163 res => syntax_printer_stmt_l1_m s b1 v163 res)
    (fun b11 x25 v1631 res => syntax_printer_stmt_j2_m s b11 x25 v1631 res) ?_ ?_
  · intro g1 ih1 b1 v163 res hh
    refine ALoop.unroll ?_
    refine s' rfl rfl (q' rfl (n' (S' ?_)))
    refine ci' rfl hh (fun hh => ?_) (fun hh => ?_)
    · obtain ⟨x25, hx25, hh⟩ := bs' hh
      refine sk' (S' (AEx.block (s' rfl rfl (q' rfl (i' rfl (idx_nat hx25) (ei64.idx hx25) rfl (q' rfl (q' rfl (q' rfl (n' (S' (s' rfl rfl (q' rfl (q' rfl ?_)))))))))))))
      refine n' ?_
      refine ci' rfl hh (fun hh => ?_) (fun hh => ?_)
      · obtain ⟨x28, hx28, hh⟩ := bs' hh
        refine R' rfl rfl (q' rfl (q' rfl (q' rfl (AOps.g [0, 1] rfl (X_WriteString_SyntaxPrinter_ok hx28) ⟨.rfl, ⟨.rfl, trivial⟩⟩ rfl ⟨rfl, ⟨rfl, trivial⟩⟩ rfl rfl (n' ?_)))))
        refine AEx.wk ?_ (ih1 _ _ _ _ hh)
        exact ⟨⟨⟨.rfl, rfl⟩, ⟨⟨.rfl, rfl⟩, ⟨⟨.rfl, rfl⟩, ⟨⟨.rfl, rfl⟩, ⟨⟨.rfl, rfl⟩, trivial⟩⟩⟩⟩⟩, ⟨⟨rfl, Nat.le_of_ble_eq_true rfl⟩, ⟨rfl, trivial⟩⟩, rfl⟩
      refine sk' ?_
      refine AEx.wk ?_ (ih1 _ _ _ _ hh)
      exact ⟨⟨⟨.rfl, rfl⟩, ⟨⟨.rfl, rfl⟩, ⟨⟨.rfl, rfl⟩, ⟨⟨.rfl, rfl⟩, ⟨⟨.rfl, rfl⟩, trivial⟩⟩⟩⟩⟩, ⟨⟨rfl, Nat.le_of_ble_eq_true rfl⟩, ⟨rfl, trivial⟩⟩, rfl⟩
    obtain ⟨x13, hx13, hh⟩ := bs' hh
    refine ex' (R' rfl rfl (q' rfl (q' rfl (q' rfl (AOps.g [0, 1] rfl (X_WriteString_SyntaxPrinter_ok hx13) ⟨.rfl, ⟨.rfl, trivial⟩⟩ rfl ⟨rfl, ⟨rfl, trivial⟩⟩ rfl rfl (n' ?_))))))
    obtain rfl := oi' hh
    exact ⟨_, _, [.bld 1 86, .buf 5 x13.2], rfl, .rfl, ⟨⟨rfl, Nat.le_of_ble_eq_true rfl⟩, ⟨rfl, trivial⟩⟩, rfl, rfl, rfl, rfl⟩
  · intro g0 ih0 b11 x25 v1631 res hh
    obtain ⟨x26, hx26, hh⟩ := bs' hh
    obtain ⟨x27, hx27, hh⟩ := bs' hh
    refine AEx.draw hC 5 rfl rfl rfl (Q' rfl (Q' rfl (Q' rfl (Q' rfl (AQ.c rfl rfl (X_Itoa_ok hx26) (Qn' (AOps.g [0, 1] rfl (X_WriteString_SyntaxPrinter_ok hx27) ⟨.rfl, ⟨.rfl, trivial⟩⟩ rfl ⟨rfl, ⟨rfl, trivial⟩⟩ rfl rfl (n' (R' rfl rfl (q' rfl (q' rfl (n' ?_))))))))))))
    refine ALoop.wk ?_ (ih0 _ _ _ hh)
    exact ⟨⟨⟨.rfl, rfl⟩, ⟨⟨.rfl, rfl⟩, ⟨⟨.rfl, rfl⟩, ⟨⟨.rfl, rfl⟩, trivial⟩⟩⟩⟩, ⟨⟨rfl, Nat.le_of_ble_eq_true rfl⟩, ⟨rfl, trivial⟩⟩, rfl⟩
theorem syntax_printer_stmt_l1_ok {s : ApiStmt} {b1 : Str} {v163 : Int} {res : Str} (hh : syntax_printer_stmt_l1 s b1 v163 = some res) : syntax_printer_stmt_l1_m s b1 v163 res := (syntax_printer_stmt_l1_grp s).1 _ _ _ hh
theorem syntax_printer_stmt_j2_ok {s : ApiStmt} {b11 : Str} {x25 : Int} {v1631 : Int} {res : Str} (hh : syntax_printer_stmt_j2 s b11 x25 v1631 = some res) : syntax_printer_stmt_j2_m s b11 x25 v1631 res := (syntax_printer_stmt_l1_grp s).2 _ _ _ _ hh
mutual
def syntax_printer_stmts (l : List ApiStmt) (margin : Str) (b : Str) : Option Str :=
  syntax_printer_stmts_l1 l margin b 0
  partial_fixpoint
def syntax_printer_stmts_l1 (l : List ApiStmt) (margin : Str) (b1 : Str) (v10 : Int) : Option Str :=
  if (decide (v10 < ((l).length : Int))) = true then
    idx l v10 >>= fun x1 =>
    X_WriteString_SyntaxPrinter margin b1 >>= fun x2 =>
    syntax_printer_stmt x1 margin x2.2 >>= fun x3 =>
    X_WriteString_SyntaxPrinter [10] x3 >>= fun x4 =>
    syntax_printer_stmts_l1 l margin x4.2 (IntKind.i64.wrap (v10 + 1))
  else
    some b1
  partial_fixpoint
def syntax_printer_stmt (s : ApiStmt) (margin : Str) (b : Str) : Option Str :=
  if (s.Verb == 5) = true then
    X_WriteString_SyntaxPrinter [105, 102, 32] b >>= fun x1 =>
    syntax_printer_expr s.Value x1.2 >>= fun x2 =>
    syntax_printer_block s.Then margin x2 >>= fun x29 =>
    if (decide (((s.Else).length : Int) > 0)) = true then
      X_WriteString_SyntaxPrinter [32, 101, 108, 115, 101] x29 >>= fun x30 =>
      syntax_printer_block s.Else margin x30.2 >>= fun x31 =>
      some x31
    else
      some x29
  else
    if (s.Verb == 6) = true then
      X_WriteString_SyntaxPrinter [119, 104, 105, 108, 101, 32] b >>= fun x3 =>
      syntax_printer_expr s.Value x3.2 >>= fun x4 =>
      X_Itoa s.NV >>= fun x5 =>
      if (decide (7 + x5.length ≤ maxLen)) = true then
        X_WriteString_SyntaxPrinter ([32, 108, 105, 109, 105, 116, 32] ++ x5) x4 >>= fun x6 =>
        syntax_printer_block s.Then margin x6.2 >>= fun x32 =>
        some x32
      else none
    else
      if (s.Verb == 7) = true then
        if (decide (4 + s.Name.length ≤ maxLen)) = true then
          if (decide (([102, 111, 114, 32] ++ s.Name).length + 3 ≤ maxLen)) = true then
            X_Itoa s.Low >>= fun x7 =>
            if (decide ((([102, 111, 114, 32] ++ s.Name) ++ [32, 61, 32]).length + x7.length ≤ maxLen)) = true then
              if (decide (((([102, 111, 114, 32] ++ s.Name) ++ [32, 61, 32]) ++ x7).length + 4 ≤ maxLen)) = true then
                X_Itoa s.High >>= fun x8 =>
                if (decide ((((([102, 111, 114, 32] ++ s.Name) ++ [32, 61, 32]) ++ x7) ++ [32, 116, 111, 32]).length + x8.length ≤ maxLen)) = true then
                  X_WriteString_SyntaxPrinter ((((([102, 111, 114, 32] ++ s.Name) ++ [32, 61, 32]) ++ x7) ++ [32, 116, 111, 32]) ++ x8) b >>= fun x9 =>
                  syntax_printer_block s.Then margin x9.2 >>= fun x33 =>
                  some x33
                else none
              else none
            else none
          else none
        else none
      else
        if (s.Verb == 0) = true then
          syntax_printer_expr s.Place b >>= fun x10 =>
          X_WriteString_SyntaxPrinter [32, 61, 32] x10 >>= fun x11 =>
          syntax_printer_expr s.Value x11.2 >>= fun x12 =>
          X_WriteString_SyntaxPrinter [59] x12 >>= fun x13 =>
          some x13.2
        else
          if (s.Verb == 1) = true then
            syntax_printer_expr s.Place b >>= fun x14 =>
            if (decide (8 + s.Name.length ≤ maxLen)) = true then
              if (decide (([32, 61, 32, 99, 97, 108, 108, 32] ++ s.Name).length + 1 ≤ maxLen)) = true then
                X_WriteString_SyntaxPrinter (([32, 61, 32, 99, 97, 108, 108, 32] ++ s.Name) ++ [40]) x14 >>= fun x15 =>
                syntax_printer_list s.Args x15.2 >>= fun x16 =>
                X_WriteString_SyntaxPrinter [41] x16 >>= fun x17 =>
                X_WriteString_SyntaxPrinter [59] x17.2 >>= fun x13 =>
                some x13.2
              else none
            else none
          else
            if (s.Verb == 2) = true then
              syntax_printer_expr s.Place b >>= fun x18 =>
              if (decide (11 + s.Name.length ≤ maxLen)) = true then
                X_WriteString_SyntaxPrinter ([32, 61, 32, 114, 101, 108, 101, 97, 115, 101, 32] ++ s.Name) x18 >>= fun x19 =>
                X_WriteString_SyntaxPrinter [59] x19.2 >>= fun x13 =>
                some x13.2
              else none
            else
              if (s.Verb == 3) = true then
                X_WriteString_SyntaxPrinter [111, 117, 116, 112, 117, 116, 32] b >>= fun x20 =>
                syntax_printer_expr s.Value x20.2 >>= fun x21 =>
                X_WriteString_SyntaxPrinter [59] x21 >>= fun x13 =>
                some x13.2
              else
                if (s.Verb == 4) = true then
                  X_Itoa s.NV >>= fun x22 =>
                  if (decide (5 + x22.length ≤ maxLen)) = true then
                    X_WriteString_SyntaxPrinter ([119, 97, 105, 116, 32] ++ x22) b >>= fun x23 =>
                    X_WriteString_SyntaxPrinter [59] x23.2 >>= fun x13 =>
                    some x13.2
                  else none
                else
                  if (s.Verb == 8) = true then
                    X_WriteString_SyntaxPrinter [115, 101, 116, 116, 108, 101, 32] b >>= fun x24 =>
                    syntax_printer_stmt_l1 s x24.2 0
                  else
                    X_WriteString_SyntaxPrinter [59] b >>= fun x13 =>
                    some x13.2
  partial_fixpoint
def syntax_printer_block (l : List ApiStmt) (margin : Str) (b : Str) : Option Str :=
  X_WriteString_SyntaxPrinter [32, 123, 10] b >>= fun x1 =>
  if (decide (margin.length + 1 ≤ maxLen)) = true then
    syntax_printer_stmts l (margin ++ [9]) x1.2 >>= fun x2 =>
    if (decide (margin.length + 1 ≤ maxLen)) = true then
      X_WriteString_SyntaxPrinter (margin ++ [125]) x2 >>= fun x3 =>
      some x3.2
    else none
  else none
  partial_fixpoint
end
abbrev syntax_printer_stmts_m (l : List ApiStmt) (margin : Str) (b : Str) (res : Str) : Prop := ACall C 55 [.ref 0 0, .d (.sl (ApiStmt.rows l)), .d (.str margin)] [.bld 1 86, .buf 5 b] (fun x H' => H' = [.bld 1 86, .buf 5 res] ∧ x = .tup [])
abbrev syntax_printer_stmts_l1_m (l : List ApiStmt) (margin : Str) (b1 : Str) (v10 : Int) (res : Str) : Prop := ALoop (Fx.mk C 28 2) (lo (bk (sr (bodyOf Tryz.f55)))) (mkEnv [(0, .ref 0 0), (2, .d (.str margin)), (8, .d (.sl (ApiStmt.rows l))), (9, .d (.int .i64 ((l).length : Int))), (10, .d (.int .i64 v10))]) [.bld 1 86, .buf 5 b1] (Am.InBlock 0 (Am.Ends (Fx.mk C 28 2) Tryz.f55.results.toList (fun x H' => H' = [.bld 1 86, .buf 5 res] ∧ x = .tup [])))
abbrev syntax_printer_stmt_m (s : ApiStmt) (margin : Str) (b : Str) (res : Str) : Prop := ACall C 117 [.ref 0 0, .agg (ApiStmt.cells s), .d (.str margin)] [.bld 1 86, .buf 5 b] (fun x H' => H' = [.bld 1 86, .buf 5 res] ∧ x = .tup [])
abbrev syntax_printer_block_m (l : List ApiStmt) (margin : Str) (b : Str) (res : Str) : Prop := ACall C 156 [.ref 0 0, .d (.sl (ApiStmt.rows l)), .d (.str margin)] [.bld 1 86, .buf 5 b] (fun x H' => H' = [.bld 1 86, .buf 5 res] ∧ x = .tup [])
theorem syntax_printer_stmts_grp : (∀ (l : List ApiStmt) (margin : Str) (b : Str) (res : Str), syntax_printer_stmts l margin b = some res → syntax_printer_stmts_m l margin b res) ∧
    (∀ (l : List ApiStmt) (margin : Str) (b1 : Str) (v10 : Int) (res : Str), syntax_printer_stmts_l1 l margin b1 v10 = some res → syntax_printer_stmts_l1_m l margin b1 v10 res) ∧
    (∀ (s : ApiStmt) (margin : Str) (b : Str) (res : Str), syntax_printer_stmt s margin b = some res → syntax_printer_stmt_m s margin b res) ∧
    (∀ (l : List ApiStmt) (margin : Str) (b : Str) (res : Str), syntax_printer_block l margin b = some res → syntax_printer_block_m l margin b res) := by
  refine syntax_printer_stmts.mutual_partial_correctness (fun l margin b res => syntax_printer_stmts_m l margin b res)
    (fun l margin b1 v10 res => syntax_printer_stmts_l1_m l margin b1 v10 res)
    (fun s margin b res => syntax_printer_stmt_m s margin b res)
    (fun l margin b res => syntax_printer_block_m l margin b res) ?_ ?_ ?_ ?_
  · intro g1 ih1 l margin b res hh
    refine ACall.intro hC Tryz.func55 rfl rfl rfl ?_
    refine s' rfl rfl (q' rfl (qe' rfl trivial (ApiStmt.lenA _) (q' rfl (n' (AEx.block ?_)))))
    refine AEx.ofLoop ?_
    refine ALoop.wk ?_ (ih1 _ _ _ _ _ hh)
    exact ⟨⟨⟨.rfl, rfl⟩, ⟨⟨.rfl, rfl⟩, ⟨⟨.rfl, rfl⟩, ⟨⟨.rfl, rfl⟩, ⟨⟨.rfl, rfl⟩, trivial⟩⟩⟩⟩⟩, ⟨⟨rfl, Nat.le_of_ble_eq_true rfl⟩, ⟨rfl, trivial⟩⟩, rfl⟩
  · intro g1 g2 ih1 ih2 l margin b1 v10 res hh
    refine ALoop.unroll ?_
    refine s' rfl rfl (q' rfl (n' (S' ?_)))
    refine ci' rfl hh (fun hh => ?_) (fun hh => ?_)
    · obtain ⟨x1, hx1, hh⟩ := bs' hh
      obtain ⟨x2, hx2, hh⟩ := bs' hh
      obtain ⟨x3, hx3, hh⟩ := bs' hh
      obtain ⟨x4, hx4, hh⟩ := bs' hh
      refine sk' (S' (AEx.block (s' rfl rfl (i' rfl (idx_nat hx1) (ApiStmt.idx hx1) rfl (q' rfl (AOps.nf hC rfl (AOps.s hC rfl (n' (s' rfl rfl (q' rfl (q' rfl (q' rfl (q' rfl ?_)))))))))))))
      refine AOps.g [0, 1] rfl (X_WriteString_SyntaxPrinter_ok hx2) ⟨.rfl, ⟨.rfl, trivial⟩⟩ rfl ⟨rfl, ⟨rfl, trivial⟩⟩ rfl rfl (n' (s' rfl rfl (q' rfl (q' rfl (q' rfl (AOps.g [0, 1] rfl (ih2 _ _ _ _ hx3) ⟨.rfl, ⟨.rfl, ⟨.rfl, trivial⟩⟩⟩ rfl ⟨rfl, ⟨rfl, trivial⟩⟩ rfl rfl (n' (R' rfl rfl (q' rfl (q' rfl (q' rfl (AOps.g [0, 1] rfl (X_WriteString_SyntaxPrinter_ok hx4) ⟨.rfl, ⟨.rfl, trivial⟩⟩ rfl ⟨rfl, ⟨rfl, trivial⟩⟩ rfl rfl (n' ?_)))))))))))))
      refine R' rfl rfl (q' rfl (q' rfl (n' ?_)))
      refine ALoop.wk ?_ (ih1 _ _ _ _ _ hh)
      exact ⟨⟨⟨.rfl, rfl⟩, ⟨⟨.rfl, rfl⟩, ⟨⟨.rfl, rfl⟩, ⟨⟨.rfl, rfl⟩, ⟨⟨.rfl, rfl⟩, trivial⟩⟩⟩⟩⟩, ⟨⟨rfl, Nat.le_of_ble_eq_true rfl⟩, ⟨rfl, trivial⟩⟩, rfl⟩
    refine ex' ?_
    obtain rfl := oi' hh
    exact ⟨_, _, [.bld 1 86, .buf 5 b1], rfl, .rfl, ⟨⟨rfl, Nat.le_of_ble_eq_true rfl⟩, ⟨rfl, trivial⟩⟩, rfl, rfl, rfl, rfl⟩
  · intro g3 ih3 s margin b res hh
    refine ACall.intro hC Tryz.func117 rfl rfl rfl ?_
    refine s' rfl rfl (AOps.n hC rfl (n' (S' (s' rfl rfl (q' rfl (q' rfl (n' (AEx.block (s' rfl rfl (q' rfl (q' rfl (n' ?_))))))))))))
    refine ci' rfl hh (fun hh => ?_) (fun hh => ?_)
    · obtain ⟨x1, hx1, hh⟩ := bs' hh
      obtain ⟨x2, hx2, hh⟩ := bs' hh
      obtain ⟨x29, hx29, hh⟩ := bs' hh
      refine s' rfl rfl (q' rfl (q' rfl (q' rfl (AOps.g [0, 1] rfl (X_WriteString_SyntaxPrinter_ok hx1) ⟨.rfl, ⟨.rfl, trivial⟩⟩ rfl ⟨rfl, ⟨rfl, trivial⟩⟩ rfl rfl (n' (s' rfl rfl (q' rfl (q' rfl (q' rfl (AOps.g [0, 1] rfl (syntax_printer_expr_ok hx2) ⟨.rfl, ⟨.rfl, trivial⟩⟩ rfl ⟨rfl, ⟨rfl, trivial⟩⟩ rfl rfl (n' (s' rfl rfl (q' rfl ?_)))))))))))))
      refine q' rfl (q' rfl (q' rfl (AOps.g [0, 1] rfl (ih3 _ _ _ _ hx29) ⟨.rfl, ⟨.rfl, ⟨.rfl, trivial⟩⟩⟩ rfl ⟨rfl, ⟨rfl, trivial⟩⟩ rfl rfl (n' (S' (s' rfl rfl (q' rfl (q' rfl (qe' rfl trivial (ApiStmt.lenA _) (q' rfl (n' ?_)))))))))))
      refine ci' rfl hh (fun hh => ?_) (fun hh => ?_)
      · obtain ⟨x30, hx30, hh⟩ := bs' hh
        obtain ⟨x31, hx31, hh⟩ := bs' hh
        refine s' rfl rfl (q' rfl (q' rfl (q' rfl (AOps.g [0, 1] rfl (X_WriteString_SyntaxPrinter_ok hx30) ⟨.rfl, ⟨.rfl, trivial⟩⟩ rfl ⟨rfl, ⟨rfl, trivial⟩⟩ rfl rfl (n' (R' rfl rfl (q' rfl (q' rfl (q' rfl (q' rfl (AOps.g [0, 1] rfl (ih3 _ _ _ _ hx31) ⟨.rfl, ⟨.rfl, ⟨.rfl, trivial⟩⟩⟩ rfl ⟨rfl, ⟨rfl, trivial⟩⟩ rfl rfl (n' (re' ?_)))))))))))))
        obtain rfl := oi' hh
        exact ⟨_, _, [.bld 1 86, .buf 5 x31], rfl, .rfl, ⟨⟨rfl, Nat.le_of_ble_eq_true rfl⟩, ⟨rfl, trivial⟩⟩, rfl, rfl, rfl, rfl⟩
      refine sk' (re' ?_)
      obtain rfl := oi' hh
      exact ⟨_, _, [.bld 1 86, .buf 5 x29], rfl, .rfl, ⟨⟨rfl, Nat.le_of_ble_eq_true rfl⟩, ⟨rfl, trivial⟩⟩, rfl, rfl, rfl, rfl⟩
    refine s' rfl rfl (q' rfl (q' rfl (n' ?_)))
    refine ci' rfl hh (fun hh => ?_) (fun hh => ?_)
    · obtain ⟨x3, hx3, hh⟩ := bs' hh
      obtain ⟨x4, hx4, hh⟩ := bs' hh
      obtain ⟨x5, hx5, hh⟩ := bs' hh
      obtain ⟨c71, hh⟩ := asrt_some hh
      obtain ⟨x6, hx6, hh⟩ := bs' hh
      obtain ⟨x32, hx32, hh⟩ := bs' hh
      refine s' rfl rfl (q' rfl (q' rfl (q' rfl (AOps.g [0, 1] rfl (X_WriteString_SyntaxPrinter_ok hx3) ⟨.rfl, ⟨.rfl, trivial⟩⟩ rfl ⟨rfl, ⟨rfl, trivial⟩⟩ rfl rfl (n' (s' rfl rfl (q' rfl (q' rfl (q' rfl (AOps.g [0, 1] rfl (syntax_printer_expr_ok hx4) ⟨.rfl, ⟨.rfl, trivial⟩⟩ rfl ⟨rfl, ⟨rfl, trivial⟩⟩ rfl rfl (n' (S' (AEx.draw hC 7 rfl rfl rfl ?_)))))))))))))
      iterate 5 refine Q' rfl ?_
      refine AQ.c rfl rfl (X_Itoa_ok hx5) (AQ.q hC rfl c71 (Qn' (AOps.g [0, 1] rfl (X_WriteString_SyntaxPrinter_ok hx6) ⟨.rfl, ⟨.rfl, trivial⟩⟩ rfl ⟨rfl, ⟨rfl, trivial⟩⟩ rfl rfl (n' (s' rfl rfl (q' rfl (q' rfl (q' rfl (q' rfl (AOps.g [0, 1] rfl (ih3 _ _ _ _ hx32) ⟨.rfl, ⟨.rfl, ⟨.rfl, trivial⟩⟩⟩ rfl ⟨rfl, ⟨rfl, trivial⟩⟩ rfl rfl (n' (re' ?_))))))))))))
      obtain rfl := oi' hh
      exact ⟨_, _, [.bld 1 86, .buf 5 x32], rfl, .rfl, ⟨⟨rfl, Nat.le_of_ble_eq_true rfl⟩, ⟨rfl, trivial⟩⟩, rfl, rfl, rfl, rfl⟩
    refine s' rfl rfl (q' rfl (q' rfl (n' ?_)))
    refine ci' rfl hh (fun hh => ?_) (fun hh => ?_)
    · obtain ⟨c72, hh⟩ := asrt_some hh
      obtain ⟨c73, hh⟩ := asrt_some hh
      obtain ⟨x7, hx7, hh⟩ := bs' hh
      obtain ⟨c74, hh⟩ := asrt_some hh
      obtain ⟨c75, hh⟩ := asrt_some hh
      obtain ⟨x8, hx8, hh⟩ := bs' hh
      obtain ⟨c76, hh⟩ := asrt_some hh
      obtain ⟨x9, hx9, hh⟩ := bs' hh
      obtain ⟨x33, hx33, hh⟩ := bs' hh
      refine S' (AEx.draw hC 16 rfl rfl rfl (Q' rfl (Q' rfl (Q' rfl (Q' rfl (Q' rfl (AQ.q hC rfl c72 (AQ.q hC rfl c73 (Q' rfl (Q' rfl (AQ.c rfl rfl (X_Itoa_ok hx7) (AQ.q hC rfl c74 (AQ.q hC rfl c75 ?_)))))))))))))
      refine Q' rfl (Q' rfl (AQ.c rfl rfl (X_Itoa_ok hx8) (AQ.q hC rfl c76 (Qn' (AOps.g [0, 1] rfl (X_WriteString_SyntaxPrinter_ok hx9) ⟨.rfl, ⟨.rfl, trivial⟩⟩ rfl ⟨rfl, ⟨rfl, trivial⟩⟩ rfl rfl (n' (s' rfl rfl (q' rfl (q' rfl (q' rfl (q' rfl (AOps.g [0, 1] rfl (ih3 _ _ _ _ hx33) ⟨.rfl, ⟨.rfl, ⟨.rfl, trivial⟩⟩⟩ rfl ⟨rfl, ⟨rfl, trivial⟩⟩ rfl rfl (n' ?_)))))))))))))
      refine re' ?_
      obtain rfl := oi' hh
      exact ⟨_, _, [.bld 1 86, .buf 5 x33], rfl, .rfl, ⟨⟨rfl, Nat.le_of_ble_eq_true rfl⟩, ⟨rfl, trivial⟩⟩, rfl, rfl, rfl, rfl⟩
    refine s' rfl rfl (q' rfl (q' rfl (n' ?_)))
    refine ci' rfl hh (fun hh => ?_) (fun hh => ?_)
    · obtain ⟨x10, hx10, hh⟩ := bs' hh
      obtain ⟨x11, hx11, hh⟩ := bs' hh
      obtain ⟨x12, hx12, hh⟩ := bs' hh
      obtain ⟨x13, hx13, hh⟩ := bs' hh
      refine s' rfl rfl (q' rfl (q' rfl (q' rfl (AOps.g [0, 1] rfl (syntax_printer_expr_ok hx10) ⟨.rfl, ⟨.rfl, trivial⟩⟩ rfl ⟨rfl, ⟨rfl, trivial⟩⟩ rfl rfl (n' (s' rfl rfl (q' rfl (q' rfl (q' rfl (AOps.g [0, 1] rfl (X_WriteString_SyntaxPrinter_ok hx11) ⟨.rfl, ⟨.rfl, trivial⟩⟩ rfl ⟨rfl, ⟨rfl, trivial⟩⟩ rfl rfl (n' (R' rfl rfl (q' rfl ?_)))))))))))))
      refine q' rfl (q' rfl (AOps.g [0, 1] rfl (syntax_printer_expr_ok hx12) ⟨.rfl, ⟨.rfl, trivial⟩⟩ rfl ⟨rfl, ⟨rfl, trivial⟩⟩ rfl rfl (n' (R' rfl rfl (q' rfl (q' rfl (q' rfl (AOps.g [0, 1] rfl (X_WriteString_SyntaxPrinter_ok hx13) ⟨.rfl, ⟨.rfl, trivial⟩⟩ rfl ⟨rfl, ⟨rfl, trivial⟩⟩ rfl rfl (n' ?_)))))))))
      obtain rfl := oi' hh
      exact ⟨_, _, [.bld 1 86, .buf 5 x13.2], rfl, .rfl, ⟨⟨rfl, Nat.le_of_ble_eq_true rfl⟩, ⟨rfl, trivial⟩⟩, rfl, rfl, rfl, rfl⟩
    refine s' rfl rfl (q' rfl (q' rfl (n' ?_)))
    refine ci' rfl hh (fun hh => ?_) (fun hh => ?_)
    · obtain ⟨x14, hx14, hh⟩ := bs' hh
      obtain ⟨c77, hh⟩ := asrt_some hh
      obtain ⟨c78, hh⟩ := asrt_some hh
      obtain ⟨x15, hx15, hh⟩ := bs' hh
      obtain ⟨x16, hx16, hh⟩ := bs' hh
      obtain ⟨x17, hx17, hh⟩ := bs' hh
      obtain ⟨x13, hx13, hh⟩ := bs' hh
      refine s' rfl rfl (q' rfl (q' rfl (q' rfl (AOps.g [0, 1] rfl (syntax_printer_expr_ok hx14) ⟨.rfl, ⟨.rfl, trivial⟩⟩ rfl ⟨rfl, ⟨rfl, trivial⟩⟩ rfl rfl (n' (S' (AEx.draw hC 7 rfl rfl rfl (Q' rfl (Q' rfl (Q' rfl (Q' rfl (Q' rfl (AQ.q hC rfl c77 ?_)))))))))))))
      refine AQ.q hC rfl c78 (Qn' (AOps.g [0, 1] rfl (X_WriteString_SyntaxPrinter_ok hx15) ⟨.rfl, ⟨.rfl, trivial⟩⟩ rfl ⟨rfl, ⟨rfl, trivial⟩⟩ rfl rfl (n' (s' rfl rfl (q' rfl (q' rfl (q' rfl (AOps.g [0, 1] rfl (syntax_printer_list_ok hx16) ⟨.rfl, ⟨.rfl, trivial⟩⟩ rfl ⟨rfl, ⟨rfl, trivial⟩⟩ rfl rfl (n' (R' rfl rfl (q' rfl (q' rfl (q' rfl ?_)))))))))))))
      refine AOps.g [0, 1] rfl (X_WriteString_SyntaxPrinter_ok hx17) ⟨.rfl, ⟨.rfl, trivial⟩⟩ rfl ⟨rfl, ⟨rfl, trivial⟩⟩ rfl rfl (n' (R' rfl rfl (q' rfl (q' rfl (q' rfl (AOps.g [0, 1] rfl (X_WriteString_SyntaxPrinter_ok hx13) ⟨.rfl, ⟨.rfl, trivial⟩⟩ rfl ⟨rfl, ⟨rfl, trivial⟩⟩ rfl rfl (n' ?_)))))))
      obtain rfl := oi' hh
      exact ⟨_, _, [.bld 1 86, .buf 5 x13.2], rfl, .rfl, ⟨⟨rfl, Nat.le_of_ble_eq_true rfl⟩, ⟨rfl, trivial⟩⟩, rfl, rfl, rfl, rfl⟩
    refine s' rfl rfl (q' rfl (q' rfl (n' ?_)))
    refine ci' rfl hh (fun hh => ?_) (fun hh => ?_)
    · obtain ⟨x18, hx18, hh⟩ := bs' hh
      obtain ⟨c79, hh⟩ := asrt_some hh
      obtain ⟨x19, hx19, hh⟩ := bs' hh
      obtain ⟨x13, hx13, hh⟩ := bs' hh
      refine s' rfl rfl (q' rfl (q' rfl (q' rfl (AOps.g [0, 1] rfl (syntax_printer_expr_ok hx18) ⟨.rfl, ⟨.rfl, trivial⟩⟩ rfl ⟨rfl, ⟨rfl, trivial⟩⟩ rfl rfl (n' (AEx.draw hC 6 rfl rfl rfl (Q' rfl (Q' rfl (Q' rfl (Q' rfl (Q' rfl (AQ.q hC rfl c79 (Qn' ?_)))))))))))))
      refine AOps.g [0, 1] rfl (X_WriteString_SyntaxPrinter_ok hx19) ⟨.rfl, ⟨.rfl, trivial⟩⟩ rfl ⟨rfl, ⟨rfl, trivial⟩⟩ rfl rfl (n' (R' rfl rfl (q' rfl (q' rfl (q' rfl (AOps.g [0, 1] rfl (X_WriteString_SyntaxPrinter_ok hx13) ⟨.rfl, ⟨.rfl, trivial⟩⟩ rfl ⟨rfl, ⟨rfl, trivial⟩⟩ rfl rfl (n' ?_)))))))
      obtain rfl := oi' hh
      exact ⟨_, _, [.bld 1 86, .buf 5 x13.2], rfl, .rfl, ⟨⟨rfl, Nat.le_of_ble_eq_true rfl⟩, ⟨rfl, trivial⟩⟩, rfl, rfl, rfl, rfl⟩
    refine s' rfl rfl (q' rfl (q' rfl (n' ?_)))
    refine ci' rfl hh (fun hh => ?_) (fun hh => ?_)
    · obtain ⟨x20, hx20, hh⟩ := bs' hh
      obtain ⟨x21, hx21, hh⟩ := bs' hh
      obtain ⟨x13, hx13, hh⟩ := bs' hh
      refine s' rfl rfl (q' rfl (q' rfl (q' rfl (AOps.g [0, 1] rfl (X_WriteString_SyntaxPrinter_ok hx20) ⟨.rfl, ⟨.rfl, trivial⟩⟩ rfl ⟨rfl, ⟨rfl, trivial⟩⟩ rfl rfl (n' (R' rfl rfl (q' rfl (q' rfl (q' rfl (AOps.g [0, 1] rfl (syntax_printer_expr_ok hx21) ⟨.rfl, ⟨.rfl, trivial⟩⟩ rfl ⟨rfl, ⟨rfl, trivial⟩⟩ rfl rfl (n' (R' rfl rfl (q' rfl ?_)))))))))))))
      refine q' rfl (q' rfl (AOps.g [0, 1] rfl (X_WriteString_SyntaxPrinter_ok hx13) ⟨.rfl, ⟨.rfl, trivial⟩⟩ rfl ⟨rfl, ⟨rfl, trivial⟩⟩ rfl rfl (n' ?_)))
      obtain rfl := oi' hh
      exact ⟨_, _, [.bld 1 86, .buf 5 x13.2], rfl, .rfl, ⟨⟨rfl, Nat.le_of_ble_eq_true rfl⟩, ⟨rfl, trivial⟩⟩, rfl, rfl, rfl, rfl⟩
    refine s' rfl rfl (q' rfl (q' rfl (n' ?_)))
    refine ci' rfl hh (fun hh => ?_) (fun hh => ?_)
    · obtain ⟨x22, hx22, hh⟩ := bs' hh
      obtain ⟨c80, hh⟩ := asrt_some hh
      obtain ⟨x23, hx23, hh⟩ := bs' hh
      obtain ⟨x13, hx13, hh⟩ := bs' hh
      refine AEx.draw hC 7 rfl rfl rfl (Q' rfl (Q' rfl (Q' rfl (Q' rfl (Q' rfl (AQ.c rfl rfl (X_Itoa_ok hx22) (AQ.q hC rfl c80 (Qn' (AOps.g [0, 1] rfl (X_WriteString_SyntaxPrinter_ok hx23) ⟨.rfl, ⟨.rfl, trivial⟩⟩ rfl ⟨rfl, ⟨rfl, trivial⟩⟩ rfl rfl (n' (R' rfl rfl (q' rfl (q' rfl ?_)))))))))))))
      refine q' rfl (AOps.g [0, 1] rfl (X_WriteString_SyntaxPrinter_ok hx13) ⟨.rfl, ⟨.rfl, trivial⟩⟩ rfl ⟨rfl, ⟨rfl, trivial⟩⟩ rfl rfl (n' ?_))
      obtain rfl := oi' hh
      exact ⟨_, _, [.bld 1 86, .buf 5 x13.2], rfl, .rfl, ⟨⟨rfl, Nat.le_of_ble_eq_true rfl⟩, ⟨rfl, trivial⟩⟩, rfl, rfl, rfl, rfl⟩
    refine s' rfl rfl (q' rfl (q' rfl (n' ?_)))
    refine ci' rfl hh (fun hh => ?_) (fun hh => ?_)
    · obtain ⟨x24, hx24, hh⟩ := bs' hh
      refine s' rfl rfl (q' rfl (q' rfl (q' rfl (AOps.g [0, 1] rfl (X_WriteString_SyntaxPrinter_ok hx24) ⟨.rfl, ⟨.rfl, trivial⟩⟩ rfl ⟨rfl, ⟨rfl, trivial⟩⟩ rfl rfl (n' (s' rfl rfl (q' rfl (q' rfl (qe' rfl trivial (ei64.lenA _) (q' rfl (n' (AEx.block ?_))))))))))))
      refine AEx.ofLoop ?_
      refine ALoop.wk ?_ (syntax_printer_stmt_l1_ok hh)
      exact ⟨⟨⟨.rfl, rfl⟩, ⟨⟨.rfl, rfl⟩, ⟨⟨.rfl, rfl⟩, ⟨⟨.rfl, rfl⟩, trivial⟩⟩⟩⟩, ⟨⟨rfl, Nat.le_of_ble_eq_true rfl⟩, ⟨rfl, trivial⟩⟩, rfl⟩
    obtain ⟨x13, hx13, hh⟩ := bs' hh
    refine sk' (R' rfl rfl (q' rfl (q' rfl (q' rfl (AOps.g [0, 1] rfl (X_WriteString_SyntaxPrinter_ok hx13) ⟨.rfl, ⟨.rfl, trivial⟩⟩ rfl ⟨rfl, ⟨rfl, trivial⟩⟩ rfl rfl (n' ?_))))))
    obtain rfl := oi' hh
    exact ⟨_, _, [.bld 1 86, .buf 5 x13.2], rfl, .rfl, ⟨⟨rfl, Nat.le_of_ble_eq_true rfl⟩, ⟨rfl, trivial⟩⟩, rfl, rfl, rfl, rfl⟩
  · intro g0 ih0 l margin b res hh
    refine ACall.intro hC Tryz.func156 rfl rfl rfl ?_
    obtain ⟨x1, hx1, hh⟩ := bs' hh
    obtain ⟨c6, hh⟩ := asrt_some hh
    obtain ⟨x2, hx2, hh⟩ := bs' hh
    obtain ⟨c7, hh⟩ := asrt_some hh
    obtain ⟨x3, hx3, hh⟩ := bs' hh
    refine s' rfl rfl (q' rfl (q' rfl (q' rfl (AOps.g [0, 1] rfl (X_WriteString_SyntaxPrinter_ok hx1) ⟨.rfl, ⟨.rfl, trivial⟩⟩ rfl ⟨rfl, ⟨rfl, trivial⟩⟩ rfl rfl (n' (s' rfl rfl (q' rfl (q' rfl (q' rfl (qc' rfl c6 (AOps.g [0, 1] rfl (ih0 _ _ _ _ hx2) ⟨.rfl, ⟨.rfl, ⟨.rfl, trivial⟩⟩⟩ rfl ⟨rfl, ⟨rfl, trivial⟩⟩ rfl rfl (n' (R' rfl rfl ?_)))))))))))))
    iterate 4 refine q' rfl ?_
    refine qc' rfl c7 (AOps.g [0, 1] rfl (X_WriteString_SyntaxPrinter_ok hx3) ⟨.rfl, ⟨.rfl, trivial⟩⟩ rfl ⟨rfl, ⟨rfl, trivial⟩⟩ rfl rfl (n' ?_))
    obtain rfl := oi' hh
    exact ⟨_, _, [.bld 1 86, .buf 5 x3.2], rfl, .rfl, ⟨⟨rfl, Nat.le_of_ble_eq_true rfl⟩, ⟨rfl, trivial⟩⟩, rfl, rfl, rfl, rfl⟩
theorem syntax_printer_stmts_ok {l : List ApiStmt} {margin : Str} {b : Str} {res : Str} (hh : syntax_printer_stmts l margin b = some res) : syntax_printer_stmts_m l margin b res := (syntax_printer_stmts_grp).1 _ _ _ _ hh
theorem syntax_printer_stmts_l1_ok {l : List ApiStmt} {margin : Str} {b1 : Str} {v10 : Int} {res : Str} (hh : syntax_printer_stmts_l1 l margin b1 v10 = some res) : syntax_printer_stmts_l1_m l margin b1 v10 res := (syntax_printer_stmts_grp).2.1 _ _ _ _ _ hh
theorem syntax_printer_stmt_ok {s : ApiStmt} {margin : Str} {b : Str} {res : Str} (hh : syntax_printer_stmt s margin b = some res) : syntax_printer_stmt_m s margin b res := (syntax_printer_stmts_grp).2.2.1 _ _ _ _ hh
theorem syntax_printer_block_ok {l : List ApiStmt} {margin : Str} {b : Str} {res : Str} (hh : syntax_printer_block l margin b = some res) : syntax_printer_block_m l margin b res := (syntax_printer_stmts_grp).2.2.2 _ _ _ _ hh
end Go.Proofs.YtmilgoloagbmpaaGreatDoor

set_option maxRecDepth 100000
set_option maxHeartbeats 4000000
set_option linter.unusedVariables false
namespace Go.Proofs.YtmilgoloagbmpaaGreatDoor
open Go.Am
def syntax_printer_function_l3 (d : ApiDecl) (b12 : Str) (v52 : Int) : Option Str :=
  if (decide (v52 < ((d.Vars).length : Int))) = true then
    idx d.Vars v52 >>= fun x8 =>
    X_WriteString_SyntaxPrinter [9] b12 >>= fun x9 =>
    syntax_printer_variable x8 x9.2 >>= fun x10 =>
    syntax_printer_function_l3 d x10 (IntKind.i64.wrap (v52 + 1))
  else
    syntax_printer_stmts d.Body [9] b12 >>= fun x11 =>
    X_WriteString_SyntaxPrinter [9, 114, 101, 116, 117, 114, 110, 32] x11 >>= fun x12 =>
    syntax_printer_expr d.Value x12.2 >>= fun x13 =>
    X_WriteString_SyntaxPrinter [59, 10, 125, 10] x13 >>= fun x14 =>
    some x14.2
  partial_fixpoint
abbrev syntax_printer_function_l3_m (d : ApiDecl) (b12 : Str) (v52 : Int) (res : Str) : Prop := ALoop (Fx.mk C 80 2) (lo (bk (sr (sl (sr (sr (sr (sr (sr (sr (bodyOf Tryz.f114))))))))))) (mkEnv [(0, .ref 0 0), (3, .ref 2 0), (50, .d (.sl (ApiDecl.rows d.Vars))), (51, .d (.int .i64 ((d.Vars).length : Int))), (52, .d (.int .i64 v52))]) [.bld 1 86, .buf 5 b12, .row (ApiDecl.cells d) 64] (Am.InBlock 2 (Am.Then (Fx.mk C 80 2) (sr (sr (sr (sr (sr (sr (sr (bodyOf Tryz.f114)))))))) (Am.Ends (Fx.mk C 80 2) Tryz.f114.results.toList (fun x H' => H' = [.bld 1 86, .buf 5 res] ∧ x = .tup []))))
theorem syntax_printer_function_l3_grp (d : ApiDecl) : (∀ (b12 : Str) (v52 : Int) (res : Str), syntax_printer_function_l3 d b12 v52 = some res → syntax_printer_function_l3_m d b12 v52 res) := by
  refine syntax_printer_function_l3.partial_correctness d
    (fun b12 v52 res => syntax_printer_function_l3_m d b12 v52 res) ?_
  · intro g0 ih0 b12 v52 res hh
    refine ALoop.unroll ?_
    refine s' rfl rfl (q' rfl (n' (S' ?_)))
    refine ci' rfl hh (fun hh => ?_) (fun hh => ?_)
    · obtain ⟨x8, hx8, hh⟩ := bs' hh
      obtain ⟨x9, hx9, hh⟩ := bs' hh
      obtain ⟨x10, hx10, hh⟩ := bs' hh
      refine sk' (S' (AEx.block (s' rfl rfl (i' rfl (idx_nat hx8) (ApiDecl.idx hx8) rfl (q' rfl (AOps.nf hC rfl (AOps.s hC rfl (n' (s' rfl rfl (q' rfl (q' rfl (q' rfl (AOps.g [0, 1] rfl (X_WriteString_SyntaxPrinter_ok hx9) ⟨.rfl, ⟨.rfl, trivial⟩⟩ rfl ⟨rfl, ⟨rfl, trivial⟩⟩ rfl rfl ?_)))))))))))))
      refine n' (R' rfl rfl (q' rfl (q' rfl (AOps.g [0, 1] rfl (syntax_printer_variable_ok hx10) ⟨.rfl, ⟨.rfl, trivial⟩⟩ rfl ⟨rfl, ⟨rfl, trivial⟩⟩ rfl rfl (n' (R' rfl rfl (q' rfl (q' rfl (n' ?_)))))))))
      refine ALoop.wk ?_ (ih0 _ _ _ hh)
      exact ⟨⟨⟨.rfl, rfl⟩, ⟨⟨.rfl, rfl⟩, ⟨⟨.rfl, rfl⟩, ⟨⟨.rfl, rfl⟩, ⟨⟨.rfl, rfl⟩, trivial⟩⟩⟩⟩⟩, ⟨⟨rfl, Nat.le_of_ble_eq_true rfl⟩, ⟨rfl, ⟨⟨rfl, .refl _, rfl⟩, trivial⟩⟩⟩, rfl⟩
    obtain ⟨x11, hx11, hh⟩ := bs' hh
    obtain ⟨x12, hx12, hh⟩ := bs' hh
    obtain ⟨x13, hx13, hh⟩ := bs' hh
    obtain ⟨x14, hx14, hh⟩ := bs' hh
    refine ex' (s' rfl rfl (q' rfl (q' rfl (q' rfl (AOps.g [0, 1] rfl (syntax_printer_stmts_ok hx11) ⟨.rfl, ⟨.rfl, ⟨.rfl, trivial⟩⟩⟩ rfl ⟨rfl, ⟨rfl, trivial⟩⟩ rfl rfl (n' (s' rfl rfl (q' rfl (q' rfl (q' rfl (AOps.g [0, 1] rfl (X_WriteString_SyntaxPrinter_ok hx12) ⟨.rfl, ⟨.rfl, trivial⟩⟩ rfl ⟨rfl, ⟨rfl, trivial⟩⟩ rfl rfl (n' (s' rfl rfl ?_)))))))))))))
    refine q' rfl (q' rfl (q' rfl (AOps.g [0, 1] rfl (syntax_printer_expr_ok hx13) ⟨.rfl, ⟨.rfl, trivial⟩⟩ rfl ⟨rfl, ⟨rfl, trivial⟩⟩ rfl rfl (n' (R' rfl rfl (q' rfl (q' rfl (q' rfl (AOps.g [0, 1] rfl (X_WriteString_SyntaxPrinter_ok hx14) ⟨.rfl, ⟨.rfl, trivial⟩⟩ rfl ⟨rfl, ⟨rfl, trivial⟩⟩ rfl rfl (n' ?_))))))))))
    obtain rfl := oi' hh
    exact ⟨_, _, [.bld 1 86, .buf 5 x14.2], rfl, .rfl, ⟨⟨rfl, Nat.le_of_ble_eq_true rfl⟩, ⟨rfl, trivial⟩⟩, rfl, rfl, rfl, rfl⟩
theorem syntax_printer_function_l3_ok {d : ApiDecl} {b12 : Str} {v52 : Int} {res : Str} (hh : syntax_printer_function_l3 d b12 v52 = some res) : syntax_printer_function_l3_m d b12 v52 res := (syntax_printer_function_l3_grp d) _ _ _ hh
mutual
def syntax_printer_function_l1 (d : ApiDecl) (b1 : Str) (v19 : Int) : Option Str :=
  if (decide (v19 < ((d.Params).length : Int))) = true then
    idx d.Params v19 >>= fun x2 =>
    if (decide (v19 > 0)) = true then
      X_WriteString_SyntaxPrinter [44, 32] b1 >>= fun x4 =>
      syntax_printer_function_j2 d x4.2 x2 v19
    else
      syntax_printer_function_j2 d b1 x2 v19
  else
    X_WriteString_SyntaxPrinter [41, 58, 32] b1 >>= fun x5 =>
    syntax_printer_typ d.TypeV x5.2 >>= fun x6 =>
    X_WriteString_SyntaxPrinter [32, 123, 10] x6 >>= fun x7 =>
    syntax_printer_function_l3 d x7.2 0
  partial_fixpoint
def syntax_printer_function_j2 (d : ApiDecl) (b11 : Str) (x2 : ApiDecl) (v191 : Int) : Option Str :=
  syntax_printer_named x2.Name x2.TypeV b11 >>= fun x3 =>
  syntax_printer_function_l1 d x3 (IntKind.i64.wrap (v191 + 1))
  partial_fixpoint
end
abbrev syntax_printer_function_l1_m (d : ApiDecl) (b1 : Str) (v19 : Int) (res : Str) : Prop := ALoop (Fx.mk C 80 2) (lo (bk (sr (sl (sr (sr (bodyOf Tryz.f114))))))) (mkEnv [(0, .ref 0 0), (3, .ref 2 0), (17, .d (.sl (ApiDecl.rows d.Params))), (18, .d (.int .i64 ((d.Params).length : Int))), (19, .d (.int .i64 v19))]) [.bld 1 86, .buf 5 b1, .row (ApiDecl.cells d) 64] (Am.InBlock 0 (Am.Then (Fx.mk C 80 2) (sr (sr (sr (bodyOf Tryz.f114)))) (Am.Ends (Fx.mk C 80 2) Tryz.f114.results.toList (fun x H' => H' = [.bld 1 86, .buf 5 res] ∧ x = .tup []))))
abbrev syntax_printer_function_j2_m (d : ApiDecl) (b11 : Str) (x2 : ApiDecl) (v191 : Int) (res : Str) : Prop := AEx (Fx.mk C 80 2) (sr (sr (bk (sl (sr (sr (lo (bk (sr (sl (sr (sr (bodyOf Tryz.f114))))))))))))) (mkEnv [(0, .ref 0 0), (3, .ref 2 0), (5, .ref 3 0), (17, .d (.sl (ApiDecl.rows d.Params))), (18, .d (.int .i64 ((d.Params).length : Int))), (19, .d (.int .i64 v191))]) [.bld 1 86, .buf 5 b11, .row (ApiDecl.cells d) 64, .row (ApiDecl.cells x2) 64] (Am.InBlock 1 (Am.Then (Fx.mk C 80 2) (sr (sr (sr (lo (bk (sr (sl (sr (sr (bodyOf Tryz.f114)))))))))) (Am.Again (Fx.mk C 80 2) (lo (bk (sr (sl (sr (sr (bodyOf Tryz.f114))))))) (Am.InBlock 0 (Am.Then (Fx.mk C 80 2) (sr (sr (sr (bodyOf Tryz.f114)))) (Am.Ends (Fx.mk C 80 2) Tryz.f114.results.toList (fun x H' => H' = [.bld 1 86, .buf 5 res] ∧ x = .tup [])))))))
theorem syntax_printer_function_l1_grp (d : ApiDecl) : (∀ (b1 : Str) (v19 : Int) (res : Str), syntax_printer_function_l1 d b1 v19 = some res → syntax_printer_function_l1_m d b1 v19 res) ∧
    (∀ (b11 : Str) (x2 : ApiDecl) (v191 : Int) (res : Str), syntax_printer_function_j2 d b11 x2 v191 = some res → syntax_printer_function_j2_m d b11 x2 v191 res) := by
  refine syntax_printer_function_l1.mutual_partial_correctness d
    (fun b1 v19 res => syntax_printer_function_l1_m d b1 v19 res)
    (fun b11 x2 v191 res => syntax_printer_function_j2_m d b11 x2 v191 res) ?_ ?_
  · intro g1 ih1 b1 v19 res hh
    refine ALoop.unroll ?_
    refine s' rfl rfl (q' rfl (n' (S' ?_)))
    refine ci' rfl hh (fun hh => ?_) (fun hh => ?_)
    · obtain ⟨x2, hx2, hh⟩ := bs' hh
      refine sk' (S' (AEx.block (s' rfl rfl (q' rfl (i' rfl (idx_nat hx2) (ApiDecl.idx hx2) rfl (q' rfl (AOps.nf hC rfl (q' rfl (AOps.s hC rfl (n' (S' (s' rfl rfl (q' rfl ?_)))))))))))))
      refine q' rfl (n' ?_)
      refine ci' rfl hh (fun hh => ?_) (fun hh => ?_)
      · obtain ⟨x4, hx4, hh⟩ := bs' hh
        refine R' rfl rfl (q' rfl (q' rfl (q' rfl (AOps.g [0, 1] rfl (X_WriteString_SyntaxPrinter_ok hx4) ⟨.rfl, ⟨.rfl, trivial⟩⟩ rfl ⟨rfl, ⟨rfl, trivial⟩⟩ rfl rfl (n' ?_)))))
        refine AEx.wk ?_ (ih1 _ _ _ _ hh)
        exact ⟨⟨⟨.rfl, rfl⟩, ⟨⟨.rfl, rfl⟩, ⟨⟨.rfl, rfl⟩, ⟨⟨.rfl, rfl⟩, ⟨⟨.rfl, rfl⟩, ⟨⟨.rfl, rfl⟩, trivial⟩⟩⟩⟩⟩⟩, ⟨⟨rfl, Nat.le_of_ble_eq_true rfl⟩, ⟨rfl, ⟨⟨rfl, .refl _, rfl⟩, ⟨⟨rfl, .refl _, rfl⟩, trivial⟩⟩⟩⟩, rfl⟩
      refine sk' ?_
      refine AEx.wk ?_ (ih1 _ _ _ _ hh)
      exact ⟨⟨⟨.rfl, rfl⟩, ⟨⟨.rfl, rfl⟩, ⟨⟨.rfl, rfl⟩, ⟨⟨.rfl, rfl⟩, ⟨⟨.rfl, rfl⟩, ⟨⟨.rfl, rfl⟩, trivial⟩⟩⟩⟩⟩⟩, ⟨⟨rfl, Nat.le_of_ble_eq_true rfl⟩, ⟨rfl, ⟨⟨rfl, .refl _, rfl⟩, ⟨⟨rfl, .refl _, rfl⟩, trivial⟩⟩⟩⟩, rfl⟩
    obtain ⟨x5, hx5, hh⟩ := bs' hh
    obtain ⟨x6, hx6, hh⟩ := bs' hh
    obtain ⟨x7, hx7, hh⟩ := bs' hh
    refine ex' (s' rfl rfl (q' rfl (q' rfl (q' rfl (AOps.g [0, 1] rfl (X_WriteString_SyntaxPrinter_ok hx5) ⟨.rfl, ⟨.rfl, trivial⟩⟩ rfl ⟨rfl, ⟨rfl, trivial⟩⟩ rfl rfl (n' (s' rfl rfl (q' rfl (q' rfl (q' rfl (AOps.g [0, 1] rfl (syntax_printer_typ_ok hx6) ⟨.rfl, ⟨.rfl, trivial⟩⟩ rfl ⟨rfl, ⟨rfl, trivial⟩⟩ rfl rfl (n' (s' rfl rfl ?_)))))))))))))
    refine q' rfl (q' rfl (q' rfl (AOps.g [0, 1] rfl (X_WriteString_SyntaxPrinter_ok hx7) ⟨.rfl, ⟨.rfl, trivial⟩⟩ rfl ⟨rfl, ⟨rfl, trivial⟩⟩ rfl rfl (n' (S' (s' rfl rfl (q' rfl (q' rfl (qe' rfl trivial (ApiDecl.lenA _) (q' rfl (n' (AEx.block ?_))))))))))))
    refine AEx.ofLoop ?_
    refine ALoop.wk ?_ (syntax_printer_function_l3_ok hh)
    exact ⟨⟨⟨.rfl, rfl⟩, ⟨⟨.rfl, rfl⟩, ⟨⟨.rfl, rfl⟩, ⟨⟨.rfl, rfl⟩, ⟨⟨.rfl, rfl⟩, trivial⟩⟩⟩⟩⟩, ⟨⟨rfl, Nat.le_of_ble_eq_true rfl⟩, ⟨rfl, ⟨⟨rfl, .refl _, rfl⟩, trivial⟩⟩⟩, rfl⟩
  · intro g0 ih0 b11 x2 v191 res hh
    obtain ⟨x3, hx3, hh⟩ := bs' hh
    refine R' rfl rfl (q' rfl (q' rfl (q' rfl (q' rfl (q' rfl (AOps.g [0, 1] rfl (syntax_printer_named_ok hx3) ⟨.rfl, ⟨.rfl, ⟨.rfl, trivial⟩⟩⟩ rfl ⟨rfl, ⟨rfl, trivial⟩⟩ rfl rfl (n' (R' rfl rfl (q' rfl (q' rfl (n' ?_)))))))))))
    refine ALoop.wk ?_ (ih0 _ _ _ hh)
    exact ⟨⟨⟨.rfl, rfl⟩, ⟨⟨.rfl, rfl⟩, ⟨⟨.rfl, rfl⟩, ⟨⟨.rfl, rfl⟩, ⟨⟨.rfl, rfl⟩, trivial⟩⟩⟩⟩⟩, ⟨⟨rfl, Nat.le_of_ble_eq_true rfl⟩, ⟨rfl, ⟨⟨rfl, .refl _, rfl⟩, trivial⟩⟩⟩, rfl⟩
theorem syntax_printer_function_l1_ok {d : ApiDecl} {b1 : Str} {v19 : Int} {res : Str} (hh : syntax_printer_function_l1 d b1 v19 = some res) : syntax_printer_function_l1_m d b1 v19 res := (syntax_printer_function_l1_grp d).1 _ _ _ hh
theorem syntax_printer_function_j2_ok {d : ApiDecl} {b11 : Str} {x2 : ApiDecl} {v191 : Int} {res : Str} (hh : syntax_printer_function_j2 d b11 x2 v191 = some res) : syntax_printer_function_j2_m d b11 x2 v191 res := (syntax_printer_function_l1_grp d).2 _ _ _ _ hh
def syntax_printer_function (d : ApiDecl) (b : Str) : Option Str :=
  if (decide (5 + d.Name.length ≤ maxLen)) = true then
    if (decide (([102, 117, 110, 99, 32] ++ d.Name).length + 1 ≤ maxLen)) = true then
      X_WriteString_SyntaxPrinter (([102, 117, 110, 99, 32] ++ d.Name) ++ [40]) b >>= fun x1 =>
      syntax_printer_function_l1 d x1.2 0
    else none
  else none
abbrev syntax_printer_function_m (d : ApiDecl) (b : Str) (res : Str) : Prop := ACall C 114 [.ref 0 0, .agg (ApiDecl.cells d)] [.bld 1 86, .buf 5 b] (fun x H' => H' = [.bld 1 86, .buf 5 res] ∧ x = .tup [])
theorem syntax_printer_function_ok {d : ApiDecl} {b : Str} {res : Str} (hh : syntax_printer_function d b = some res) : syntax_printer_function_m d b res := by
  unfold syntax_printer_function at hh
  refine ACall.intro hC Tryz.func114 rfl rfl rfl ?_
  obtain ⟨c17, hh⟩ := asrt_some hh
  obtain ⟨c18, hh⟩ := asrt_some hh
  obtain ⟨x1, hx1, hh⟩ := bs' hh
  refine s' rfl rfl (AOps.n hC rfl (n' (S' (AEx.draw hC 7 rfl rfl rfl (Q' rfl (Q' rfl (Q' rfl (Q' rfl (Q' rfl (AQ.q hC rfl c17 (AQ.q hC rfl c18 (Qn' (AOps.g [0, 1] rfl (X_WriteString_SyntaxPrinter_ok hx1) ⟨.rfl, ⟨.rfl, trivial⟩⟩ rfl ⟨rfl, ⟨rfl, trivial⟩⟩ rfl rfl ?_)))))))))))))
  refine n' (S' (s' rfl rfl (q' rfl (q' rfl (qe' rfl trivial (ApiDecl.lenA _) (q' rfl (n' (AEx.block ?_))))))))
  refine AEx.ofLoop ?_
  refine ALoop.wk ?_ (syntax_printer_function_l1_ok hh)
  exact ⟨⟨⟨.rfl, rfl⟩, ⟨⟨.rfl, rfl⟩, ⟨⟨.rfl, rfl⟩, ⟨⟨.rfl, rfl⟩, ⟨⟨.rfl, rfl⟩, trivial⟩⟩⟩⟩⟩, ⟨⟨rfl, Nat.le_of_ble_eq_true rfl⟩, ⟨rfl, ⟨⟨rfl, .refl _, rfl⟩, trivial⟩⟩⟩, rfl⟩
def syntax_printer_decl (d : ApiDecl) (b : Str) : Option Str :=
  if (d.Kind == 4) = true then
    syntax_printer_variable d b >>= fun x1 =>
    some x1
  else
    if (d.Kind == 6) = true then
      syntax_printer_function d b >>= fun x2 =>
      some x2
    else
      if (d.Kind == 0) = true then
        if (decide (5 + d.Name.length ≤ maxLen)) = true then
          if (decide (([116, 121, 112, 101, 32] ++ d.Name).length + 3 ≤ maxLen)) = true then
            X_WriteString_SyntaxPrinter (([116, 121, 112, 101, 32] ++ d.Name) ++ [32, 61, 32]) b >>= fun x3 =>
            syntax_printer_typ d.TypeV x3.2 >>= fun x4 =>
            X_WriteString_SyntaxPrinter [59, 10] x4 >>= fun x5 =>
            some x5.2
          else none
        else none
      else
        if (d.Kind == 1) = true then
          X_WriteString_SyntaxPrinter [115, 101, 99, 114, 101, 116, 32] b >>= fun x6 =>
          syntax_printer_named d.Name d.TypeV x6.2 >>= fun x7 =>
          X_WriteString_SyntaxPrinter [59, 10] x7 >>= fun x5 =>
          some x5.2
        else
          if (d.Kind == 2) = true then
            X_WriteString_SyntaxPrinter [112, 117, 98, 108, 105, 99, 32] b >>= fun x8 =>
            syntax_printer_named d.Name d.TypeV x8.2 >>= fun x9 =>
            X_WriteString_SyntaxPrinter [59, 10] x9 >>= fun x5 =>
            some x5.2
          else
            if (d.Kind == 3) = true then
              X_WriteString_SyntaxPrinter [114, 97, 110, 100, 111, 109, 32] b >>= fun x10 =>
              syntax_printer_named d.Name d.TypeV x10.2 >>= fun x11 =>
              X_WriteString_SyntaxPrinter [59, 10] x11 >>= fun x5 =>
              some x5.2
            else
              if (d.Kind == 5) = true then
                X_WriteString_SyntaxPrinter [104, 97, 116, 99, 104, 32] b >>= fun x12 =>
                syntax_printer_named d.Name d.TypeV x12.2 >>= fun x13 =>
                X_WriteString_SyntaxPrinter [32, 61, 32] x13 >>= fun x14 =>
                syntax_printer_expr d.Value x14.2 >>= fun x15 =>
                X_WriteString_SyntaxPrinter [59, 10] x15 >>= fun x5 =>
                some x5.2
              else
                X_WriteString_SyntaxPrinter [59, 10] b >>= fun x5 =>
                some x5.2
abbrev syntax_printer_decl_m (d : ApiDecl) (b : Str) (res : Str) : Prop := ACall C 53 [.ref 0 0, .agg (ApiDecl.cells d)] [.bld 1 86, .buf 5 b] (fun x H' => H' = [.bld 1 86, .buf 5 res] ∧ x = .tup [])
theorem syntax_printer_decl_ok {d : ApiDecl} {b : Str} {res : Str} (hh : syntax_printer_decl d b = some res) : syntax_printer_decl_m d b res := by
  unfold syntax_printer_decl at hh
  refine ACall.intro hC Tryz.func53 rfl rfl rfl ?_
  refine s' rfl rfl (AOps.n hC rfl (n' (S' (s' rfl rfl (q' rfl (q' rfl (n' (AEx.block (s' rfl rfl (q' rfl (q' rfl (n' ?_))))))))))))
  refine ci' rfl hh (fun hh => ?_) (fun hh => ?_)
  · obtain ⟨x1, hx1, hh⟩ := bs' hh
    refine s' rfl rfl (q' rfl (q' rfl (AOps.g [0, 1] rfl (syntax_printer_variable_ok hx1) ⟨.rfl, ⟨.rfl, trivial⟩⟩ rfl ⟨rfl, ⟨rfl, trivial⟩⟩ rfl rfl (n' (re' ?_)))))
    obtain rfl := oi' hh
    exact ⟨_, _, [.bld 1 86, .buf 5 x1], rfl, .rfl, ⟨⟨rfl, Nat.le_of_ble_eq_true rfl⟩, ⟨rfl, trivial⟩⟩, rfl, rfl, rfl, rfl⟩
  refine s' rfl rfl (q' rfl (q' rfl (n' ?_)))
  refine ci' rfl hh (fun hh => ?_) (fun hh => ?_)
  · obtain ⟨x2, hx2, hh⟩ := bs' hh
    refine s' rfl rfl (q' rfl (q' rfl (AOps.g [0, 1] rfl (syntax_printer_function_ok hx2) ⟨.rfl, ⟨.rfl, trivial⟩⟩ rfl ⟨rfl, ⟨rfl, trivial⟩⟩ rfl rfl (n' (re' ?_)))))
    obtain rfl := oi' hh
    exact ⟨_, _, [.bld 1 86, .buf 5 x2], rfl, .rfl, ⟨⟨rfl, Nat.le_of_ble_eq_true rfl⟩, ⟨rfl, trivial⟩⟩, rfl, rfl, rfl, rfl⟩
  refine s' rfl rfl (q' rfl (q' rfl (n' ?_)))
  refine ci' rfl hh (fun hh => ?_) (fun hh => ?_)
  · obtain ⟨c7, hh⟩ := asrt_some hh
    obtain ⟨c8, hh⟩ := asrt_some hh
    obtain ⟨x3, hx3, hh⟩ := bs' hh
    obtain ⟨x4, hx4, hh⟩ := bs' hh
    obtain ⟨x5, hx5, hh⟩ := bs' hh
    refine S' (AEx.draw hC 7 rfl rfl rfl (Q' rfl (Q' rfl (Q' rfl (Q' rfl (Q' rfl (AQ.q hC rfl c7 (AQ.q hC rfl c8 (Qn' (AOps.g [0, 1] rfl (X_WriteString_SyntaxPrinter_ok hx3) ⟨.rfl, ⟨.rfl, trivial⟩⟩ rfl ⟨rfl, ⟨rfl, trivial⟩⟩ rfl rfl (n' (R' rfl rfl (q' rfl ?_)))))))))))))
    refine q' rfl (q' rfl (AOps.g [0, 1] rfl (syntax_printer_typ_ok hx4) ⟨.rfl, ⟨.rfl, trivial⟩⟩ rfl ⟨rfl, ⟨rfl, trivial⟩⟩ rfl rfl (n' (R' rfl rfl (q' rfl (q' rfl (q' rfl (AOps.g [0, 1] rfl (X_WriteString_SyntaxPrinter_ok hx5) ⟨.rfl, ⟨.rfl, trivial⟩⟩ rfl ⟨rfl, ⟨rfl, trivial⟩⟩ rfl rfl (n' ?_)))))))))
    obtain rfl := oi' hh
    exact ⟨_, _, [.bld 1 86, .buf 5 x5.2], rfl, .rfl, ⟨⟨rfl, Nat.le_of_ble_eq_true rfl⟩, ⟨rfl, trivial⟩⟩, rfl, rfl, rfl, rfl⟩
  refine s' rfl rfl (q' rfl (q' rfl (n' ?_)))
  refine ci' rfl hh (fun hh => ?_) (fun hh => ?_)
  · obtain ⟨x6, hx6, hh⟩ := bs' hh
    obtain ⟨x7, hx7, hh⟩ := bs' hh
    obtain ⟨x5, hx5, hh⟩ := bs' hh
    refine s' rfl rfl (q' rfl (q' rfl (q' rfl (AOps.g [0, 1] rfl (X_WriteString_SyntaxPrinter_ok hx6) ⟨.rfl, ⟨.rfl, trivial⟩⟩ rfl ⟨rfl, ⟨rfl, trivial⟩⟩ rfl rfl (n' (R' rfl rfl (q' rfl (q' rfl (q' rfl (q' rfl (q' rfl (AOps.g [0, 1] rfl (syntax_printer_named_ok hx7) ⟨.rfl, ⟨.rfl, ⟨.rfl, trivial⟩⟩⟩ rfl ⟨rfl, ⟨rfl, trivial⟩⟩ rfl rfl (n' ?_)))))))))))))
    refine R' rfl rfl (q' rfl (q' rfl (q' rfl (AOps.g [0, 1] rfl (X_WriteString_SyntaxPrinter_ok hx5) ⟨.rfl, ⟨.rfl, trivial⟩⟩ rfl ⟨rfl, ⟨rfl, trivial⟩⟩ rfl rfl (n' ?_)))))
    obtain rfl := oi' hh
    exact ⟨_, _, [.bld 1 86, .buf 5 x5.2], rfl, .rfl, ⟨⟨rfl, Nat.le_of_ble_eq_true rfl⟩, ⟨rfl, trivial⟩⟩, rfl, rfl, rfl, rfl⟩
  refine s' rfl rfl (q' rfl (q' rfl (n' ?_)))
  refine ci' rfl hh (fun hh => ?_) (fun hh => ?_)
  · obtain ⟨x8, hx8, hh⟩ := bs' hh
    obtain ⟨x9, hx9, hh⟩ := bs' hh
    obtain ⟨x5, hx5, hh⟩ := bs' hh
    refine s' rfl rfl (q' rfl (q' rfl (q' rfl (AOps.g [0, 1] rfl (X_WriteString_SyntaxPrinter_ok hx8) ⟨.rfl, ⟨.rfl, trivial⟩⟩ rfl ⟨rfl, ⟨rfl, trivial⟩⟩ rfl rfl (n' (R' rfl rfl (q' rfl (q' rfl (q' rfl (q' rfl (q' rfl (AOps.g [0, 1] rfl (syntax_printer_named_ok hx9) ⟨.rfl, ⟨.rfl, ⟨.rfl, trivial⟩⟩⟩ rfl ⟨rfl, ⟨rfl, trivial⟩⟩ rfl rfl (n' ?_)))))))))))))
    refine R' rfl rfl (q' rfl (q' rfl (q' rfl (AOps.g [0, 1] rfl (X_WriteString_SyntaxPrinter_ok hx5) ⟨.rfl, ⟨.rfl, trivial⟩⟩ rfl ⟨rfl, ⟨rfl, trivial⟩⟩ rfl rfl (n' ?_)))))
    obtain rfl := oi' hh
    exact ⟨_, _, [.bld 1 86, .buf 5 x5.2], rfl, .rfl, ⟨⟨rfl, Nat.le_of_ble_eq_true rfl⟩, ⟨rfl, trivial⟩⟩, rfl, rfl, rfl, rfl⟩
  refine s' rfl rfl (q' rfl (q' rfl (n' ?_)))
  refine ci' rfl hh (fun hh => ?_) (fun hh => ?_)
  · obtain ⟨x10, hx10, hh⟩ := bs' hh
    obtain ⟨x11, hx11, hh⟩ := bs' hh
    obtain ⟨x5, hx5, hh⟩ := bs' hh
    refine s' rfl rfl (q' rfl (q' rfl (q' rfl (AOps.g [0, 1] rfl (X_WriteString_SyntaxPrinter_ok hx10) ⟨.rfl, ⟨.rfl, trivial⟩⟩ rfl ⟨rfl, ⟨rfl, trivial⟩⟩ rfl rfl (n' (R' rfl rfl (q' rfl (q' rfl (q' rfl (q' rfl (q' rfl (AOps.g [0, 1] rfl (syntax_printer_named_ok hx11) ⟨.rfl, ⟨.rfl, ⟨.rfl, trivial⟩⟩⟩ rfl ⟨rfl, ⟨rfl, trivial⟩⟩ rfl rfl (n' ?_)))))))))))))
    refine R' rfl rfl (q' rfl (q' rfl (q' rfl (AOps.g [0, 1] rfl (X_WriteString_SyntaxPrinter_ok hx5) ⟨.rfl, ⟨.rfl, trivial⟩⟩ rfl ⟨rfl, ⟨rfl, trivial⟩⟩ rfl rfl (n' ?_)))))
    obtain rfl := oi' hh
    exact ⟨_, _, [.bld 1 86, .buf 5 x5.2], rfl, .rfl, ⟨⟨rfl, Nat.le_of_ble_eq_true rfl⟩, ⟨rfl, trivial⟩⟩, rfl, rfl, rfl, rfl⟩
  refine s' rfl rfl (q' rfl (q' rfl (n' ?_)))
  refine ci' rfl hh (fun hh => ?_) (fun hh => ?_)
  · obtain ⟨x12, hx12, hh⟩ := bs' hh
    obtain ⟨x13, hx13, hh⟩ := bs' hh
    obtain ⟨x14, hx14, hh⟩ := bs' hh
    obtain ⟨x15, hx15, hh⟩ := bs' hh
    obtain ⟨x5, hx5, hh⟩ := bs' hh
    refine s' rfl rfl (q' rfl (q' rfl (q' rfl (AOps.g [0, 1] rfl (X_WriteString_SyntaxPrinter_ok hx12) ⟨.rfl, ⟨.rfl, trivial⟩⟩ rfl ⟨rfl, ⟨rfl, trivial⟩⟩ rfl rfl (n' (s' rfl rfl (q' rfl (q' rfl (q' rfl (q' rfl (q' rfl (AOps.g [0, 1] rfl (syntax_printer_named_ok hx13) ⟨.rfl, ⟨.rfl, ⟨.rfl, trivial⟩⟩⟩ rfl ⟨rfl, ⟨rfl, trivial⟩⟩ rfl rfl (n' ?_)))))))))))))
    refine s' rfl rfl (q' rfl (q' rfl (q' rfl (AOps.g [0, 1] rfl (X_WriteString_SyntaxPrinter_ok hx14) ⟨.rfl, ⟨.rfl, trivial⟩⟩ rfl ⟨rfl, ⟨rfl, trivial⟩⟩ rfl rfl (n' (R' rfl rfl (q' rfl (q' rfl (q' rfl (AOps.g [0, 1] rfl (syntax_printer_expr_ok hx15) ⟨.rfl, ⟨.rfl, trivial⟩⟩ rfl ⟨rfl, ⟨rfl, trivial⟩⟩ rfl rfl (n' (R' rfl rfl (q' rfl ?_)))))))))))))
    refine q' rfl (q' rfl (AOps.g [0, 1] rfl (X_WriteString_SyntaxPrinter_ok hx5) ⟨.rfl, ⟨.rfl, trivial⟩⟩ rfl ⟨rfl, ⟨rfl, trivial⟩⟩ rfl rfl (n' ?_)))
    obtain rfl := oi' hh
    exact ⟨_, _, [.bld 1 86, .buf 5 x5.2], rfl, .rfl, ⟨⟨rfl, Nat.le_of_ble_eq_true rfl⟩, ⟨rfl, trivial⟩⟩, rfl, rfl, rfl, rfl⟩
  obtain ⟨x5, hx5, hh⟩ := bs' hh
  refine sk' (R' rfl rfl (q' rfl (q' rfl (q' rfl (AOps.g [0, 1] rfl (X_WriteString_SyntaxPrinter_ok hx5) ⟨.rfl, ⟨.rfl, trivial⟩⟩ rfl ⟨rfl, ⟨rfl, trivial⟩⟩ rfl rfl (n' ?_))))))
  obtain rfl := oi' hh
  exact ⟨_, _, [.bld 1 86, .buf 5 x5.2], rfl, .rfl, ⟨⟨rfl, Nat.le_of_ble_eq_true rfl⟩, ⟨rfl, trivial⟩⟩, rfl, rfl, rfl, rfl⟩
def syntax_Print_l1 (p : ApiProgram) (b2 : Str) (v18 : Int) : Option (Str × Int) :=
  if (decide (v18 < ((p.Decls).length : Int))) = true then
    idx p.Decls v18 >>= fun x2 =>
    syntax_printer_decl x2 b2 >>= fun x3 =>
    syntax_Print_l1 p x3 (IntKind.i64.wrap (v18 + 1))
  else
    X_WriteString_SyntaxPrinter [98, 101, 103, 105, 110, 10] b2 >>= fun x4 =>
    syntax_printer_stmts p.Body [9] x4.2 >>= fun x5 =>
    X_WriteString_SyntaxPrinter [101, 110, 100, 10] x5 >>= fun x6 =>
    syntax_printer_text x6.2 >>= fun x7 =>
    some (x7.1, x7.2)
  partial_fixpoint
abbrev syntax_Print_l1_m (p : ApiProgram) (b2 : Str) (v18 : Int) (res : Str × Int) : Prop := ALoop (Fx.mk C 42 0) (lo (bk (sr (sl (sr (sr (sr (bodyOf Tryz.f20)))))))) (mkEnv [(1, .ref 0 0), (5, .ref 1 0), (16, .d (.sl (ApiDecl.rows p.Decls))), (17, .d (.int .i64 ((p.Decls).length : Int))), (18, .d (.int .i64 v18))]) [.row (ApiProgram.cells p) 25, .bld 2 86, .buf 5 b2] (Am.InBlock 0 (Am.Then (Fx.mk C 42 0) (sr (sr (sr (sr (bodyOf Tryz.f20))))) (Am.Ends (Fx.mk C 42 0) Tryz.f20.results.toList (fun x H' => H' = [] ∧ x = .tup [.d (.str res.1), .d (.int .i64 res.2)]))))
theorem syntax_Print_l1_grp (p : ApiProgram) : (∀ (b2 : Str) (v18 : Int) (res : Str × Int), syntax_Print_l1 p b2 v18 = some res → syntax_Print_l1_m p b2 v18 res) := by
  refine syntax_Print_l1.partial_correctness p
    (fun b2 v18 res => syntax_Print_l1_m p b2 v18 res) ?_
  · intro g0 ih0 b2 v18 res hh
    refine ALoop.unroll ?_
    refine s' rfl rfl (q' rfl (n' (S' ?_)))
    refine ci' rfl hh (fun hh => ?_) (fun hh => ?_)
    · obtain ⟨x2, hx2, hh⟩ := bs' hh
      obtain ⟨x3, hx3, hh⟩ := bs' hh
      refine sk' (S' (AEx.block (s' rfl rfl (i' rfl (idx_nat hx2) (ApiDecl.idx hx2) rfl (q' rfl (AOps.nf hC rfl (AOps.s hC rfl (n' (R' rfl rfl (q' rfl (q' rfl (AOps.g [1, 2] rfl (syntax_printer_decl_ok hx3) ⟨.rfl, ⟨.rfl, trivial⟩⟩ rfl ⟨rfl, ⟨rfl, trivial⟩⟩ rfl rfl (n' ?_)))))))))))))
      refine R' rfl rfl (q' rfl (q' rfl (n' ?_)))
      refine ALoop.wk ?_ (ih0 _ _ _ hh)
      exact ⟨⟨⟨.rfl, rfl⟩, ⟨⟨.rfl, rfl⟩, ⟨⟨.rfl, rfl⟩, ⟨⟨.rfl, rfl⟩, ⟨⟨.rfl, rfl⟩, trivial⟩⟩⟩⟩⟩, ⟨⟨rfl, .refl _, rfl⟩, ⟨⟨rfl, Nat.le_of_ble_eq_true rfl⟩, ⟨rfl, trivial⟩⟩⟩, rfl⟩
    obtain ⟨x4, hx4, hh⟩ := bs' hh
    obtain ⟨x5, hx5, hh⟩ := bs' hh
    obtain ⟨x6, hx6, hh⟩ := bs' hh
    obtain ⟨x7, hx7, hh⟩ := bs' hh
    refine ex' (s' rfl rfl (q' rfl (q' rfl (q' rfl (AOps.g [1, 2] rfl (X_WriteString_SyntaxPrinter_ok hx4) ⟨.rfl, ⟨.rfl, trivial⟩⟩ rfl ⟨rfl, ⟨rfl, trivial⟩⟩ rfl rfl (n' (s' rfl rfl (q' rfl (q' rfl (q' rfl (AOps.g [1, 2] rfl (syntax_printer_stmts_ok hx5) ⟨.rfl, ⟨.rfl, ⟨.rfl, trivial⟩⟩⟩ rfl ⟨rfl, ⟨rfl, trivial⟩⟩ rfl rfl (n' (s' rfl rfl ?_)))))))))))))
    refine q' rfl (q' rfl (q' rfl (AOps.g [1, 2] rfl (X_WriteString_SyntaxPrinter_ok hx6) ⟨.rfl, ⟨.rfl, trivial⟩⟩ rfl ⟨rfl, ⟨rfl, trivial⟩⟩ rfl rfl (n' (s' rfl rfl (q' rfl (AOps.g [1, 2] rfl (syntax_printer_text_ok hx7) ⟨.rfl, trivial⟩ rfl ⟨rfl, ⟨rfl, trivial⟩⟩ rfl rfl (q' rfl (q' rfl (q' rfl (q' rfl (n' (re' ?_)))))))))))))
    obtain rfl := oi' hh
    exact ⟨_, _, [], rfl, .rfl, trivial, rfl, rfl, rfl, rfl⟩
theorem syntax_Print_l1_ok {p : ApiProgram} {b2 : Str} {v18 : Int} {res : Str × Int} (hh : syntax_Print_l1 p b2 v18 = some res) : syntax_Print_l1_m p b2 v18 res := (syntax_Print_l1_grp p) _ _ _ hh
def syntax_Print (p : ApiProgram) : Option (Str × Int) :=
  syntax_Check p >>= fun x1 =>
  if (x1 != 0) = true then
    some ([], x1)
  else
    syntax_Print_l1 p [] 0
abbrev syntax_Print_m (p : ApiProgram) (res : Str × Int) : Prop := ACall C 20 [.agg (ApiProgram.cells p)] [] (fun x H' => H' = [] ∧ x = .tup [.d (.str res.1), .d (.int .i64 res.2)])
theorem syntax_Print_ok {p : ApiProgram} {res : Str × Int} (hh : syntax_Print p = some res) : syntax_Print_m p res := by
  unfold syntax_Print at hh
  refine ACall.intro hC Tryz.func20 rfl rfl rfl ?_
  obtain ⟨x1, hx1, hh⟩ := bs' hh
  refine s' rfl rfl (AOps.n hC rfl (q' rfl (q' rfl (n' (S' (s' rfl rfl (q' rfl (AOps.c rfl rfl (syntax_Check_ok hx1) (q' rfl (n' (s' rfl rfl (q' rfl (q' rfl ?_)))))))))))))
  refine n' ?_
  refine ci' rfl hh (fun hh => ?_) (fun hh => ?_)
  · refine s' rfl rfl (q' rfl (q' rfl (q' rfl (n' (re' ?_)))))
    obtain rfl := oi' hh
    exact ⟨_, _, [], rfl, .rfl, trivial, rfl, rfl, rfl, rfl⟩
  refine sk' (s' rfl rfl (AOps.newB 5 rfl rfl rfl zB86 rfl rfl (q' rfl (n' (S' (s' rfl rfl (q' rfl (q' rfl (qe' rfl trivial (ApiDecl.lenA _) (q' rfl (n' (AEx.block ?_))))))))))))
  refine AEx.ofLoop ?_
  refine ALoop.wk ?_ (syntax_Print_l1_ok hh)
  exact ⟨⟨⟨.rfl, rfl⟩, ⟨⟨.rfl, rfl⟩, ⟨⟨.rfl, rfl⟩, ⟨⟨.rfl, rfl⟩, ⟨⟨.rfl, rfl⟩, trivial⟩⟩⟩⟩⟩, ⟨⟨rfl, .refl _, rfl⟩, ⟨⟨rfl, Nat.le_of_ble_eq_true rfl⟩, ⟨rfl, trivial⟩⟩⟩, rfl⟩
def syntax_Size (p : ApiProgram) : Option (Int × Int) :=
  syntax_program p >>= fun x1 =>
  syntax_report_code x1 >>= fun x2 =>
  if (x2 != 0) = true then
    some (0, x2)
  else
    some (x1.nodes, 0)
abbrev syntax_Size_m (p : ApiProgram) (res : Int × Int) : Prop := ACall C 12 [.agg (ApiProgram.cells p)] [] (fun x H' => H' = [] ∧ x = .tup [.d (.int .i64 res.1), .d (.int .i64 res.2)])
theorem syntax_Size_ok {p : ApiProgram} {res : Int × Int} (hh : syntax_Size p = some res) : syntax_Size_m p res := by
  unfold syntax_Size at hh
  refine ACall.intro hC Tryz.func12 rfl rfl rfl ?_
  obtain ⟨x1, hx1, hh⟩ := bs' hh
  obtain ⟨x2, hx2, hh⟩ := bs' hh
  refine s' rfl rfl (AOps.n hC rfl (q' rfl (q' rfl (n' (s' rfl rfl (q' rfl (AOps.g [] rfl (syntax_program_ok hx1) ⟨.rfl, trivial⟩ rfl trivial rfl rfl (q' rfl (n' (S' (s' rfl rfl (q' rfl (AOps.g [2] rfl (syntax_report_code_ok hx2) ⟨.rfl, trivial⟩ rfl ⟨rfl, trivial⟩ rfl rfl ?_)))))))))))))
  refine q' rfl (n' (s' rfl rfl (q' rfl (q' rfl (n' ?_)))))
  refine ci' rfl hh (fun hh => ?_) (fun hh => ?_)
  · refine s' rfl rfl (q' rfl (q' rfl (q' rfl (n' (re' ?_)))))
    obtain rfl := oi' hh
    exact ⟨_, _, [], rfl, .rfl, trivial, rfl, rfl, rfl, rfl⟩
  refine sk' (s' rfl rfl (q' rfl (q' rfl (q' rfl (q' rfl (q' rfl (q' rfl (n' (re' ?_)))))))))
  obtain rfl := oi' hh
  exact ⟨_, _, [], rfl, .rfl, trivial, rfl, rfl, rfl, rfl⟩
def law10_known : Option Bool :=
  law10_lit 1 >>= fun x1 =>
  law10_lit 2 >>= fun x2 =>
  law10_node 8 [x1, x2] >>= fun x3 =>
  law10_name [120] >>= fun x4 =>
  law10_node 6 [x4] >>= fun x5 =>
  law10_node 10 [x3, x5] >>= fun x6 =>
  syntax_PrintExpr x6 >>= fun x7 =>
  law10_name [97] >>= fun x8 =>
  law10_name [98] >>= fun x9 =>
  law10_name [99] >>= fun x10 =>
  law10_node 9 [x9, x10] >>= fun x11 =>
  law10_node 9 [x8, x11] >>= fun x12 =>
  syntax_PrintExpr x12 >>= fun x13 =>
  law10_name [97] >>= fun x14 =>
  law10_name [98] >>= fun x15 =>
  law10_node 9 [x14, x15] >>= fun x16 =>
  law10_name [99] >>= fun x17 =>
  law10_node 9 [x16, x17] >>= fun x18 =>
  syntax_PrintExpr x18 >>= fun x19 =>
  law10_name [112, 105, 110] >>= fun x20 =>
  syntax_Print (ApiProgram.mk [(ApiDecl.mk 1 [112, 105, 110] (ApiType.mk 1 0 9 0 [] [] []) 0 (ApiExpr.mk 0 0 [] []) [] [] []), (ApiDecl.mk 4 [120] (ApiType.mk 0 0 0 0 [] [] []) 1 (ApiExpr.mk 0 0 [] []) [] [] [])] [(ApiStmt.mk 3 (ApiExpr.mk 0 0 [] []) x20 [] [] 0 0 0 [] [] [])]) >>= fun x21 =>
  syntax_Size (ApiProgram.mk [(ApiDecl.mk 1 [112, 105, 110] (ApiType.mk 1 0 9 0 [] [] []) 0 (ApiExpr.mk 0 0 [] []) [] [] []), (ApiDecl.mk 4 [120] (ApiType.mk 0 0 0 0 [] [] []) 1 (ApiExpr.mk 0 0 [] []) [] [] [])] [(ApiStmt.mk 3 (ApiExpr.mk 0 0 [] []) x20 [] [] 0 0 0 [] [] [])]) >>= fun x22 =>
  if (bif (bif (bif (bif (bif (x7.2 != 0) then true else (x13.2 != 0)) then true else (x19.2 != 0)) then true else (x21.2 != 0)) then true else (x22.2 != 0)) then true else (x22.1 != 6)) = true then
    some false
  else
    (if (bif (bif (bif (x7.1 == [40, 49, 32, 43, 32, 50, 41, 32, 42, 32, 45, 120]) then (x13.1 == [97, 32, 45, 32, 40, 98, 32, 45, 32, 99, 41]) else false) then (x19.1 == [97, 32, 45, 32, 98, 32, 45, 32, 99]) else false) then (x21.1 == [115, 101, 99, 114, 101, 116, 32, 112, 105, 110, 58, 32, 105, 110, 116, 91, 48, 46, 46, 57, 93, 59, 10, 118, 97, 114, 32, 120, 58, 32, 98, 111, 111, 108, 32, 61, 32, 116, 114, 117, 101, 59, 10, 98, 101, 103, 105, 110, 10, 9, 111, 117, 116, 112, 117, 116, 32, 112, 105, 110, 59, 10, 101, 110, 100, 10]) else false) = true then law10_lit (-1) else some default) >>= fun x23 =>
    (if (bif (bif (bif (x7.1 == [40, 49, 32, 43, 32, 50, 41, 32, 42, 32, 45, 120]) then (x13.1 == [97, 32, 45, 32, 40, 98, 32, 45, 32, 99, 41]) else false) then (x19.1 == [97, 32, 45, 32, 98, 32, 45, 32, 99]) else false) then (x21.1 == [115, 101, 99, 114, 101, 116, 32, 112, 105, 110, 58, 32, 105, 110, 116, 91, 48, 46, 46, 57, 93, 59, 10, 118, 97, 114, 32, 120, 58, 32, 98, 111, 111, 108, 32, 61, 32, 116, 114, 117, 101, 59, 10, 98, 101, 103, 105, 110, 10, 9, 111, 117, 116, 112, 117, 116, 32, 112, 105, 110, 59, 10, 101, 110, 100, 10]) else false) = true then syntax_CheckExpr x23 else some default) >>= fun x24 =>
    some (bif (bif (bif (bif (x7.1 == [40, 49, 32, 43, 32, 50, 41, 32, 42, 32, 45, 120]) then (x13.1 == [97, 32, 45, 32, 40, 98, 32, 45, 32, 99, 41]) else false) then (x19.1 == [97, 32, 45, 32, 98, 32, 45, 32, 99]) else false) then (x21.1 == [115, 101, 99, 114, 101, 116, 32, 112, 105, 110, 58, 32, 105, 110, 116, 91, 48, 46, 46, 57, 93, 59, 10, 118, 97, 114, 32, 120, 58, 32, 98, 111, 111, 108, 32, 61, 32, 116, 114, 117, 101, 59, 10, 98, 101, 103, 105, 110, 10, 9, 111, 117, 116, 112, 117, 116, 32, 112, 105, 110, 59, 10, 101, 110, 100, 10]) else false) then (x24 == 3) else false)
abbrev law10_known_m (res : Bool) : Prop := ACall C 10 [] [] (fun x H' => H' = [] ∧ x = .d (.bool res))
theorem law10_known_ok {res : Bool} (hh : law10_known = some res) : law10_known_m res := by
  unfold law10_known at hh
  refine ACall.intro hC Tryz.func10 rfl rfl rfl ?_
  obtain ⟨x1, hx1, hh⟩ := bs' hh
  obtain ⟨x2, hx2, hh⟩ := bs' hh
  obtain ⟨x3, hx3, hh⟩ := bs' hh
  obtain ⟨x4, hx4, hh⟩ := bs' hh
  obtain ⟨x5, hx5, hh⟩ := bs' hh
  obtain ⟨x6, hx6, hh⟩ := bs' hh
  obtain ⟨x7, hx7, hh⟩ := bs' hh
  obtain ⟨x8, hx8, hh⟩ := bs' hh
  obtain ⟨x9, hx9, hh⟩ := bs' hh
  obtain ⟨x10, hx10, hh⟩ := bs' hh
  obtain ⟨x11, hx11, hh⟩ := bs' hh
  obtain ⟨x12, hx12, hh⟩ := bs' hh
  obtain ⟨x13, hx13, hh⟩ := bs' hh
  obtain ⟨x14, hx14, hh⟩ := bs' hh
  obtain ⟨x15, hx15, hh⟩ := bs' hh
  obtain ⟨x16, hx16, hh⟩ := bs' hh
  obtain ⟨x17, hx17, hh⟩ := bs' hh
  obtain ⟨x18, hx18, hh⟩ := bs' hh
  obtain ⟨x19, hx19, hh⟩ := bs' hh
  obtain ⟨x20, hx20, hh⟩ := bs' hh
  obtain ⟨x21, hx21, hh⟩ := bs' hh
  obtain ⟨x22, hx22, hh⟩ := bs' hh
  refine s' rfl rfl (q' rfl (n' (s' rfl rfl (AOps.c rfl rfl (law10_lit_ok hx1) (AOps.c rfl rfl (law10_lit_ok hx2) (AOps.be hC rfl (ApiExpr.rows_map [x1, x2]).symm (AOps.cl rfl (law10_node_ok hx3) ⟨.rfl, ⟨.full, trivial⟩⟩ rfl (AOps.c rfl rfl (law10_name_ok hx4) (AOps.be hC rfl (ApiExpr.rows_map [x4]).symm (AOps.cl rfl (law10_node_ok hx5) ⟨.rfl, ⟨.full, trivial⟩⟩ rfl (AOps.be hC rfl (ApiExpr.rows_map [x3, x5]).symm ?_)))))))))))
  refine AOps.cl rfl (law10_node_ok hx6) ⟨.rfl, ⟨.full, trivial⟩⟩ rfl (AOps.c rfl rfl (syntax_PrintExpr_ok hx7) (q' rfl (q' rfl (q' rfl (q' rfl (q' rfl (n' (s' rfl rfl (AOps.c rfl rfl (law10_name_ok hx8) (AOps.c rfl rfl (law10_name_ok hx9) (AOps.c rfl rfl (law10_name_ok hx10) (AOps.be hC rfl (ApiExpr.rows_map [x9, x10]).symm (AOps.cl rfl (law10_node_ok hx11) ⟨.rfl, ⟨.full, trivial⟩⟩ rfl ?_)))))))))))))
  refine AOps.be hC rfl (ApiExpr.rows_map [x8, x11]).symm (AOps.cl rfl (law10_node_ok hx12) ⟨.rfl, ⟨.full, trivial⟩⟩ rfl (AOps.c rfl rfl (syntax_PrintExpr_ok hx13) (q' rfl (q' rfl (q' rfl (q' rfl (q' rfl (n' (s' rfl rfl (AOps.c rfl rfl (law10_name_ok hx14) (AOps.c rfl rfl (law10_name_ok hx15) (AOps.be hC rfl (ApiExpr.rows_map [x14, x15]).symm (AOps.cl rfl (law10_node_ok hx16) ⟨.rfl, ⟨.full, trivial⟩⟩ rfl ?_)))))))))))))
  refine AOps.c rfl rfl (law10_name_ok hx17) (AOps.be hC rfl (ApiExpr.rows_map [x16, x17]).symm (AOps.cl rfl (law10_node_ok hx18) ⟨.rfl, ⟨.full, trivial⟩⟩ rfl (AOps.c rfl rfl (syntax_PrintExpr_ok hx19) (q' rfl (q' rfl (q' rfl (q' rfl (q' rfl (n' (s' rfl rfl (q' rfl (q' rfl (q' rfl ?_)))))))))))))
  refine AOps.be hC rfl (ApiDecl.rows_map [(ApiDecl.mk 1 [112, 105, 110] (ApiType.mk 1 0 9 0 [] [] []) 0 (ApiExpr.mk 0 0 [] []) [] [] []), (ApiDecl.mk 4 [120] (ApiType.mk 0 0 0 0 [] [] []) 1 (ApiExpr.mk 0 0 [] []) [] [] [])]).symm (AOps.c rfl rfl (law10_name_ok hx20) (q' rfl (AOps.be hC rfl (ApiStmt.rows_map [(ApiStmt.mk 3 (ApiExpr.mk 0 0 [] []) x20 [] [] 0 0 0 [] [] [])]).symm (q' rfl (AOps.nf hC rfl (AOps.s hC rfl ?_))))))
  refine n' (s' rfl rfl (q' rfl (AOps.cl rfl (syntax_Print_ok hx21) ⟨(.aggL ⟨.full, ⟨.full, trivial⟩⟩), trivial⟩ rfl (q' rfl (q' rfl (q' rfl (q' rfl (q' rfl (n' (s' rfl rfl (q' rfl (AOps.cl rfl (syntax_Size_ok hx22) ⟨(.aggL ⟨.full, ⟨.full, trivial⟩⟩), trivial⟩ rfl (q' rfl ?_)))))))))))))
  iterate 4 refine q' rfl ?_
  refine n' (S' (sg' 22 rfl (a0' rfl (a0' rfl (a0' rfl (a0' rfl (a1' rfl (po' rfl (a0' rfl (a0' rfl (a1' rfl (po' rfl (a0' rfl ?_)))))))))))))
  refine a0' rfl (a1' rfl (po' rfl (a0' rfl (a0' rfl (a1' rfl (po' rfl (a0' rfl (a0' rfl (a1' rfl (po' rfl (an' (n' ?_))))))))))))
  refine ci' rfl hh (fun hh => ?_) (fun hh => ?_)
  · refine s' rfl rfl (q' rfl (n' (re' ?_)))
    obtain rfl := oi' hh
    exact ⟨_, _, [], rfl, .rfl, trivial, rfl, rfl, rfl, rfl⟩
  obtain ⟨x23, hx23, hh⟩ := bs' hh
  obtain ⟨x24, hx24, hh⟩ := bs' hh
  refine sk' (sg' 20 rfl (a0' rfl (a0' rfl (a0' rfl (a0' rfl (a1' rfl (pa' rfl (a0' rfl (a0' rfl (a1' rfl (pa' rfl (a0' rfl (a0' rfl ?_)))))))))))))
  refine a1' rfl (pa' rfl (a0' rfl (AG.c rfl rfl (fun _ => trivial) (fun hw => law10_lit_ok (if_t hw hx23)) (AG.c rfl rfl (fun hg => ⟨hg, trivial⟩) (fun hw => syntax_CheckExpr_ok (if_t hw hx24)) (a1' rfl (pa' rfl (a0' rfl (an' (n' (re' ?_))))))))))
  obtain rfl := oi' hh
  exact ⟨_, _, [], rfl, .rfl, trivial, rfl, rfl, rfl, rfl⟩
mutual
def ref10_exprLeft (e : ApiExpr) (left : Int) : Option Int :=
  ref10_exprLeft_l1 e (IntKind.i64.wrap ((IntKind.i64.wrap (left - 1)) - (IntKind.i64.wrap (Int.tdiv ((e.Name).length : Int) 16)))) 0
  partial_fixpoint
def ref10_exprLeft_l1 (e : ApiExpr) (left1 : Int) (i : Int) : Option Int :=
  if (bif (decide (i < ((e.Kids).length : Int))) then (decide (left1 ≥ 0)) else false) = true then
    idx e.Kids i >>= fun x1 =>
    ref10_exprLeft x1 left1 >>= fun x2 =>
    ref10_exprLeft_l1 e x2 (IntKind.i64.wrap (i + 1))
  else
    some left1
  partial_fixpoint
end
abbrev ref10_exprLeft_m (e : ApiExpr) (left : Int) (res : Int) : Prop := ACall C 42 [.agg (ApiExpr.cells e), .d (.int .i64 left)] [] (fun x H' => H' = [] ∧ x = .d (.int .i64 res))
abbrev ref10_exprLeft_l1_m (e : ApiExpr) (left1 : Int) (i : Int) (res : Int) : Prop := ALoop (Fx.mk C 32 0) (lo (bk (sr (sl (sr (sr (bodyOf Tryz.f42))))))) (mkEnv [(1, .d (.int .i64 left1)), (2, .ref 0 0), (5, .d (.int .i64 i))]) [.row (ApiExpr.cells e) 36] (Am.InBlock 0 (Am.Then (Fx.mk C 32 0) (sr (sr (sr (bodyOf Tryz.f42)))) (Am.Ends (Fx.mk C 32 0) Tryz.f42.results.toList (fun x H' => H' = [] ∧ x = .d (.int .i64 res)))))
theorem ref10_exprLeft_grp : (∀ (e : ApiExpr) (left : Int) (res : Int), ref10_exprLeft e left = some res → ref10_exprLeft_m e left res) ∧
    (∀ (e : ApiExpr) (left1 : Int) (i : Int) (res : Int), ref10_exprLeft_l1 e left1 i = some res → ref10_exprLeft_l1_m e left1 i res) := by
  refine ref10_exprLeft.mutual_partial_correctness (fun e left res => ref10_exprLeft_m e left res)
    (fun e left1 i res => ref10_exprLeft_l1_m e left1 i res) ?_ ?_
  · intro g1 ih1 e left res hh
    refine ACall.intro hC Tryz.func42 rfl rfl rfl ?_
    refine s' rfl rfl (AOps.n hC rfl (q' rfl (n' (s' rfl rfl (q' rfl (q' rfl (q' rfl (q' rfl (q' rfl (qc' rfl (by decide) (q' rfl (q' rfl (n' ?_)))))))))))))
    refine S' (s' rfl rfl (q' rfl (n' (AEx.block ?_))))
    refine AEx.ofLoop ?_
    refine ALoop.wk ?_ (ih1 _ _ _ _ hh)
    exact ⟨⟨⟨.rfl, rfl⟩, ⟨⟨.rfl, rfl⟩, ⟨⟨.rfl, rfl⟩, trivial⟩⟩⟩, ⟨⟨rfl, .refl _, rfl⟩, trivial⟩, rfl⟩
  · intro g0 g1 ih0 ih1 e left1 i res hh
    refine ALoop.unroll ?_
    refine S' (sg' 9 rfl (a0' rfl (a0' rfl (a0' rfl (AG.qe hC rfl (fun hg => ⟨trivial, trivial⟩) (ApiExpr.lenA _) (a0' rfl (a0' rfl (a0' rfl (a1' rfl (pa' rfl (an' (n' ?_))))))))))))
    refine ci' rfl hh (fun hh => ?_) (fun hh => ?_)
    · obtain ⟨x1, hx1, hh⟩ := bs' hh
      obtain ⟨x2, hx2, hh⟩ := bs' hh
      refine sk' (S' (AEx.block (R' rfl rfl (q' rfl (q' rfl (q' rfl (i' rfl (idx_nat hx1) (ApiExpr.idx hx1) rfl (q' rfl (q' rfl (AOps.c rfl rfl (ih0 _ _ _ hx2) (q' rfl (n' (R' rfl rfl ?_)))))))))))))
      refine q' rfl (q' rfl (q' rfl (n' ?_)))
      refine ALoop.wk ?_ (ih1 _ _ _ _ hh)
      exact ⟨⟨⟨.rfl, rfl⟩, ⟨⟨.rfl, rfl⟩, ⟨⟨.rfl, rfl⟩, trivial⟩⟩⟩, ⟨⟨rfl, .refl _, rfl⟩, trivial⟩, rfl⟩
    refine ex' (s' rfl rfl (q' rfl (q' rfl (n' (re' ?_)))))
    obtain rfl := oi' hh
    exact ⟨_, _, [], rfl, .rfl, trivial, rfl, rfl, rfl, rfl⟩
theorem ref10_exprLeft_ok {e : ApiExpr} {left : Int} {res : Int} (hh : ref10_exprLeft e left = some res) : ref10_exprLeft_m e left res := (ref10_exprLeft_grp).1 _ _ _ hh
theorem ref10_exprLeft_l1_ok {e : ApiExpr} {left1 : Int} {i : Int} {res : Int} (hh : ref10_exprLeft_l1 e left1 i = some res) : ref10_exprLeft_l1_m e left1 i res := (ref10_exprLeft_grp).2 _ _ _ _ hh
def ref10_size_deeper (s : Keyholeref10Size) (d : Int) : Option Keyholeref10Size :=
  if (decide (d > s.depth)) = true then
    some (Keyholeref10Size.mk s.nodes d)
  else
    some s
abbrev ref10_size_deeper_m (s : Keyholeref10Size) (d : Int) (res : Keyholeref10Size) : Prop := ACall C 109 [.agg (Keyholeref10Size.cells s), .d (.int .i64 d)] [] (fun x H' => H' = [] ∧ x = .agg (Keyholeref10Size.cells res))
theorem ref10_size_deeper_ok {s : Keyholeref10Size} {d : Int} {res : Keyholeref10Size} (hh : ref10_size_deeper s d = some res) : ref10_size_deeper_m s d res := by
  unfold ref10_size_deeper at hh
  refine ACall.intro hC Tryz.func109 rfl rfl rfl ?_
  refine s' rfl rfl (AOps.n hC rfl (AOps.n hC rfl (n' (S' (s' rfl rfl (q' rfl (q' rfl (q' rfl (q' rfl (n' ?_))))))))))
  refine ci' rfl hh (fun hh => ?_) (fun hh => ?_)
  · refine R' rfl rfl (q' rfl (q' rfl (AOps.s hC rfl (n' (s' rfl rfl (q' rfl (AOps.s hC rfl (n' (re' ?_)))))))))
    obtain rfl := oi' hh
    exact ⟨_, _, [], rfl, .rfl, trivial, rfl, rfl, rfl, rfl⟩
  refine sk' (s' rfl rfl (q' rfl (AOps.s hC rfl (n' (re' ?_)))))
  obtain rfl := oi' hh
  exact ⟨_, _, [], rfl, .rfl, trivial, rfl, rfl, rfl, rfl⟩
mutual
def ref10_EqualExpr (a : ApiExpr) (b : ApiExpr) : Option Bool :=
  if (bif (bif (bif (a.Op != b.Op) then true else (a.NV != b.NV)) then true else (!(a.Name == b.Name))) then true else (((a.Kids).length : Int) != ((b.Kids).length : Int))) = true then
    some false
  else
    ref10_EqualExpr_l1 a b 0
  partial_fixpoint
def ref10_EqualExpr_l1 (a : ApiExpr) (b : ApiExpr) (i : Int) : Option Bool :=
  if (decide (i < ((a.Kids).length : Int))) = true then
    idx a.Kids i >>= fun x1 =>
    idx b.Kids i >>= fun x2 =>
    ref10_EqualExpr x1 x2 >>= fun x3 =>
    if (!x3) = true then
      some false
    else
      ref10_EqualExpr_l1 a b (IntKind.i64.wrap (i + 1))
  else
    some true
  partial_fixpoint
end
abbrev ref10_EqualExpr_m (a : ApiExpr) (b : ApiExpr) (res : Bool) : Prop := ACall C 22 [.agg (ApiExpr.cells a), .agg (ApiExpr.cells b)] [] (fun x H' => H' = [] ∧ x = .d (.bool res))
abbrev ref10_EqualExpr_l1_m (a : ApiExpr) (b : ApiExpr) (i : Int) (res : Bool) : Prop := ALoop (Fx.mk C 53 0) (lo (bk (sr (sl (sr (sr (bodyOf Tryz.f22))))))) (mkEnv [(2, .ref 0 0), (3, .ref 1 0), (5, .d (.int .i64 i))]) [.row (ApiExpr.cells a) 36, .row (ApiExpr.cells b) 36] (Am.InBlock 0 (Am.Then (Fx.mk C 53 0) (sr (sr (sr (bodyOf Tryz.f22)))) (Am.Ends (Fx.mk C 53 0) Tryz.f22.results.toList (fun x H' => H' = [] ∧ x = .d (.bool res)))))
theorem ref10_EqualExpr_grp : (∀ (a : ApiExpr) (b : ApiExpr) (res : Bool), ref10_EqualExpr a b = some res → ref10_EqualExpr_m a b res) ∧
    (∀ (a : ApiExpr) (b : ApiExpr) (i : Int) (res : Bool), ref10_EqualExpr_l1 a b i = some res → ref10_EqualExpr_l1_m a b i res) := by
  refine ref10_EqualExpr.mutual_partial_correctness (fun a b res => ref10_EqualExpr_m a b res)
    (fun a b i res => ref10_EqualExpr_l1_m a b i res) ?_ ?_
  · intro g1 ih1 a b res hh
    refine ACall.intro hC Tryz.func22 rfl rfl rfl ?_
    refine s' rfl rfl (AOps.n hC rfl (AOps.n hC rfl (q' rfl (n' (S' (sg' 28 rfl (a0' rfl (a0' rfl (a0' rfl (a0' rfl (a0' rfl (a0' rfl (a0' rfl ?_)))))))))))))
    refine a1' rfl (a0' rfl (a1' rfl (a2' rfl (po' rfl (a0' rfl (a0' rfl (a1' rfl (a0' rfl (a1' rfl (a2' rfl (po' rfl (a0' rfl (a0' rfl ?_)))))))))))))
    refine a1' rfl (AG.qe hC rfl (fun hg => ⟨⟨hg, trivial⟩, trivial⟩) (ApiExpr.lenA _) (a0' rfl (a1' rfl (AG.qe hC rfl (fun hg => ⟨⟨hg, trivial⟩, trivial⟩) (ApiExpr.lenA _) (a2' rfl (po' rfl (an' (n' ?_))))))))
    refine ci' rfl hh (fun hh => ?_) (fun hh => ?_)
    · refine s' rfl rfl (q' rfl (n' (re' ?_)))
      obtain rfl := oi' hh
      exact ⟨_, _, [], rfl, .rfl, trivial, rfl, rfl, rfl, rfl⟩
    refine sk' (S' (s' rfl rfl (q' rfl (n' (AEx.block ?_)))))
    refine AEx.ofLoop ?_
    refine ALoop.wk ?_ (ih1 _ _ _ _ hh)
    exact ⟨⟨⟨.rfl, rfl⟩, ⟨⟨.rfl, rfl⟩, ⟨⟨.rfl, rfl⟩, trivial⟩⟩⟩, ⟨⟨rfl, .refl _, rfl⟩, ⟨⟨rfl, .refl _, rfl⟩, trivial⟩⟩, rfl⟩
  · intro g0 g1 ih0 ih1 a b i res hh
    refine ALoop.unroll ?_
    refine S' (s' rfl rfl (q' rfl (q' rfl (q' rfl (qe' rfl trivial (ApiExpr.lenA _) (q' rfl (n' ?_)))))))
    refine ci' rfl hh (fun hh => ?_) (fun hh => ?_)
    · obtain ⟨x1, hx1, hh⟩ := bs' hh
      obtain ⟨x2, hx2, hh⟩ := bs' hh
      obtain ⟨x3, hx3, hh⟩ := bs' hh
      refine sk' (S' (AEx.block (S' (AEx.draw hC 12 rfl rfl rfl (Q' rfl (Q' rfl (Q' rfl (AQ.i hC rfl (idx_nat hx1) (ApiExpr.idx hx1) rfl (Q' rfl (Q' rfl (Q' rfl (Q' rfl (AQ.i hC rfl (idx_nat hx2) (ApiExpr.idx hx2) rfl ?_)))))))))))))
      refine Q' rfl (AQ.c rfl rfl (ih0 _ _ _ hx3) (Q' rfl (Qn' (n' ?_))))
      refine ci' rfl hh (fun hh => ?_) (fun hh => ?_)
      · refine s' rfl rfl (q' rfl (n' (re' ?_)))
        obtain rfl := oi' hh
        exact ⟨_, _, [], rfl, .rfl, trivial, rfl, rfl, rfl, rfl⟩
      refine sk' (R' rfl rfl (q' rfl (q' rfl (q' rfl (n' ?_)))))
      refine ALoop.wk ?_ (ih1 _ _ _ _ hh)
      exact ⟨⟨⟨.rfl, rfl⟩, ⟨⟨.rfl, rfl⟩, ⟨⟨.rfl, rfl⟩, trivial⟩⟩⟩, ⟨⟨rfl, .refl _, rfl⟩, ⟨⟨rfl, .refl _, rfl⟩, trivial⟩⟩, rfl⟩
    refine ex' (s' rfl rfl (q' rfl (n' (re' ?_))))
    obtain rfl := oi' hh
    exact ⟨_, _, [], rfl, .rfl, trivial, rfl, rfl, rfl, rfl⟩
theorem ref10_EqualExpr_ok {a : ApiExpr} {b : ApiExpr} {res : Bool} (hh : ref10_EqualExpr a b = some res) : ref10_EqualExpr_m a b res := (ref10_EqualExpr_grp).1 _ _ _ hh
theorem ref10_EqualExpr_l1_ok {a : ApiExpr} {b : ApiExpr} {i : Int} {res : Bool} (hh : ref10_EqualExpr_l1 a b i = some res) : ref10_EqualExpr_l1_m a b i res := (ref10_EqualExpr_grp).2 _ _ _ _ hh
def ref10_zeroExpr (e : ApiExpr) : Option Bool :=
  ref10_EqualExpr e (ApiExpr.mk 0 0 [] []) >>= fun x1 =>
  some x1
abbrev ref10_zeroExpr_m (e : ApiExpr) (res : Bool) : Prop := ACall C 107 [.agg (ApiExpr.cells e)] [] (fun x H' => H' = [] ∧ x = .d (.bool res))
theorem ref10_zeroExpr_ok {e : ApiExpr} {res : Bool} (hh : ref10_zeroExpr e = some res) : ref10_zeroExpr_m e res := by
  unfold ref10_zeroExpr at hh
  refine ACall.intro hC Tryz.func107 rfl rfl rfl ?_
  obtain ⟨x1, hx1, hh⟩ := bs' hh
  refine s' rfl rfl (AOps.n hC rfl (q' rfl (n' (s' rfl rfl (q' rfl (q' rfl (AOps.c rfl rfl (ref10_EqualExpr_ok hx1) (q' rfl (n' (re' ?_))))))))))
  obtain rfl := oi' hh
  exact ⟨_, _, [], rfl, .rfl, trivial, rfl, rfl, rfl, rfl⟩
mutual
def ref10_exprNodes (e : ApiExpr) : Option Int :=
  ref10_exprNodes_l1 e 1 0
  partial_fixpoint
def ref10_exprNodes_l1 (e : ApiExpr) (n : Int) (i : Int) : Option Int :=
  if (decide (i < ((e.Kids).length : Int))) = true then
    idx e.Kids i >>= fun x1 =>
    ref10_exprNodes x1 >>= fun x2 =>
    ref10_exprNodes_l1 e (IntKind.i64.wrap (n + x2)) (IntKind.i64.wrap (i + 1))
  else
    some n
  partial_fixpoint
end
abbrev ref10_exprNodes_m (e : ApiExpr) (res : Int) : Prop := ACall C 108 [.agg (ApiExpr.cells e)] [] (fun x H' => H' = [] ∧ x = .d (.int .i64 res))
abbrev ref10_exprNodes_l1_m (e : ApiExpr) (n : Int) (i : Int) (res : Int) : Prop := ALoop (Fx.mk C 21 0) (lo (bk (sr (sl (sr (sr (bodyOf Tryz.f108))))))) (mkEnv [(1, .ref 0 0), (3, .d (.int .i64 n)), (4, .d (.int .i64 i))]) [.row (ApiExpr.cells e) 36] (Am.InBlock 0 (Am.Then (Fx.mk C 21 0) (sr (sr (sr (bodyOf Tryz.f108)))) (Am.Ends (Fx.mk C 21 0) Tryz.f108.results.toList (fun x H' => H' = [] ∧ x = .d (.int .i64 res)))))
theorem ref10_exprNodes_grp : (∀ (e : ApiExpr) (res : Int), ref10_exprNodes e = some res → ref10_exprNodes_m e res) ∧
    (∀ (e : ApiExpr) (n : Int) (i : Int) (res : Int), ref10_exprNodes_l1 e n i = some res → ref10_exprNodes_l1_m e n i res) := by
  refine ref10_exprNodes.mutual_partial_correctness (fun e res => ref10_exprNodes_m e res)
    (fun e n i res => ref10_exprNodes_l1_m e n i res) ?_ ?_
  · intro g1 ih1 e res hh
    refine ACall.intro hC Tryz.func108 rfl rfl rfl ?_
    refine s' rfl rfl (AOps.n hC rfl (q' rfl (n' (s' rfl rfl (q' rfl (n' (S' (s' rfl rfl (q' rfl (n' (AEx.block ?_)))))))))))
    refine AEx.ofLoop ?_
    refine ALoop.wk ?_ (ih1 _ _ _ _ hh)
    exact ⟨⟨⟨.rfl, rfl⟩, ⟨⟨.rfl, rfl⟩, ⟨⟨.rfl, rfl⟩, trivial⟩⟩⟩, ⟨⟨rfl, .refl _, rfl⟩, trivial⟩, rfl⟩
  · intro g0 g1 ih0 ih1 e n i res hh
    refine ALoop.unroll ?_
    refine S' (s' rfl rfl (q' rfl (q' rfl (q' rfl (qe' rfl trivial (ApiExpr.lenA _) (q' rfl (n' ?_)))))))
    refine ci' rfl hh (fun hh => ?_) (fun hh => ?_)
    · obtain ⟨x1, hx1, hh⟩ := bs' hh
      obtain ⟨x2, hx2, hh⟩ := bs' hh
      refine sk' (S' (AEx.block (R' rfl rfl (q' rfl (q' rfl (q' rfl (q' rfl (i' rfl (idx_nat hx1) (ApiExpr.idx hx1) rfl (q' rfl (AOps.c rfl rfl (ih0 _ _ hx2) (q' rfl (q' rfl (n' ?_)))))))))))))
      refine R' rfl rfl (q' rfl (q' rfl (q' rfl (n' ?_))))
      refine ALoop.wk ?_ (ih1 _ _ _ _ hh)
      exact ⟨⟨⟨.rfl, rfl⟩, ⟨⟨.rfl, rfl⟩, ⟨⟨.rfl, rfl⟩, trivial⟩⟩⟩, ⟨⟨rfl, .refl _, rfl⟩, trivial⟩, rfl⟩
    refine ex' (s' rfl rfl (q' rfl (q' rfl (n' (re' ?_)))))
    obtain rfl := oi' hh
    exact ⟨_, _, [], rfl, .rfl, trivial, rfl, rfl, rfl, rfl⟩
theorem ref10_exprNodes_ok {e : ApiExpr} {res : Int} (hh : ref10_exprNodes e = some res) : ref10_exprNodes_m e res := (ref10_exprNodes_grp).1 _ _ hh
theorem ref10_exprNodes_l1_ok {e : ApiExpr} {n : Int} {i : Int} {res : Int} (hh : ref10_exprNodes_l1 e n i = some res) : ref10_exprNodes_l1_m e n i res := (ref10_exprNodes_grp).2 _ _ _ _ hh
mutual
def ref10_exprDepth (e : ApiExpr) : Option Int :=
  ref10_exprDepth_l1 e 0 0
  partial_fixpoint
def ref10_exprDepth_l1 (e : ApiExpr) (d : Int) (i : Int) : Option Int :=
  if (decide (i < ((e.Kids).length : Int))) = true then
    idx e.Kids i >>= fun x1 =>
    ref10_exprDepth x1 >>= fun x2 =>
    if (decide (x2 > d)) = true then
      ref10_exprDepth_l1 e x2 (IntKind.i64.wrap (i + 1))
    else
      ref10_exprDepth_l1 e d (IntKind.i64.wrap (i + 1))
  else
    some (IntKind.i64.wrap (d + 1))
  partial_fixpoint
end
abbrev ref10_exprDepth_m (e : ApiExpr) (res : Int) : Prop := ACall C 110 [.agg (ApiExpr.cells e)] [] (fun x H' => H' = [] ∧ x = .d (.int .i64 res))
abbrev ref10_exprDepth_l1_m (e : ApiExpr) (d : Int) (i : Int) (res : Int) : Prop := ALoop (Fx.mk C 25 0) (lo (bk (sr (sl (sr (sr (bodyOf Tryz.f110))))))) (mkEnv [(1, .ref 0 0), (3, .d (.int .i64 d)), (4, .d (.int .i64 i))]) [.row (ApiExpr.cells e) 36] (Am.InBlock 0 (Am.Then (Fx.mk C 25 0) (sr (sr (sr (bodyOf Tryz.f110)))) (Am.Ends (Fx.mk C 25 0) Tryz.f110.results.toList (fun x H' => H' = [] ∧ x = .d (.int .i64 res)))))
theorem ref10_exprDepth_grp : (∀ (e : ApiExpr) (res : Int), ref10_exprDepth e = some res → ref10_exprDepth_m e res) ∧
    (∀ (e : ApiExpr) (d : Int) (i : Int) (res : Int), ref10_exprDepth_l1 e d i = some res → ref10_exprDepth_l1_m e d i res) := by
  refine ref10_exprDepth.mutual_partial_correctness (fun e res => ref10_exprDepth_m e res)
    (fun e d i res => ref10_exprDepth_l1_m e d i res) ?_ ?_
  · intro g1 ih1 e res hh
    refine ACall.intro hC Tryz.func110 rfl rfl rfl ?_
    refine s' rfl rfl (AOps.n hC rfl (q' rfl (n' (s' rfl rfl (q' rfl (n' (S' (s' rfl rfl (q' rfl (n' (AEx.block ?_)))))))))))
    refine AEx.ofLoop ?_
    refine ALoop.wk ?_ (ih1 _ _ _ _ hh)
    exact ⟨⟨⟨.rfl, rfl⟩, ⟨⟨.rfl, rfl⟩, ⟨⟨.rfl, rfl⟩, trivial⟩⟩⟩, ⟨⟨rfl, .refl _, rfl⟩, trivial⟩, rfl⟩
  · intro g0 g1 ih0 ih1 e d i res hh
    refine ALoop.unroll ?_
    refine S' (s' rfl rfl (q' rfl (q' rfl (q' rfl (qe' rfl trivial (ApiExpr.lenA _) (q' rfl (n' ?_)))))))
    refine ci' rfl hh (fun hh => ?_) (fun hh => ?_)
    · obtain ⟨x1, hx1, hh⟩ := bs' hh
      obtain ⟨x2, hx2, hh⟩ := bs' hh
      refine sk' (S' (AEx.block (s' rfl rfl (q' rfl (q' rfl (q' rfl (i' rfl (idx_nat hx1) (ApiExpr.idx hx1) rfl (q' rfl (AOps.c rfl rfl (ih0 _ _ hx2) (q' rfl (n' (s' rfl rfl (q' rfl ?_)))))))))))))
      refine q' rfl (q' rfl (n' ?_))
      refine ci' rfl hh (fun hh => ?_) (fun hh => ?_)
      · refine R' rfl rfl (q' rfl (q' rfl (n' (R' rfl rfl (q' rfl (q' rfl (q' rfl (n' ?_))))))))
        refine ALoop.wk ?_ (ih1 _ _ _ _ hh)
        exact ⟨⟨⟨.rfl, rfl⟩, ⟨⟨.rfl, rfl⟩, ⟨⟨.rfl, rfl⟩, trivial⟩⟩⟩, ⟨⟨rfl, .refl _, rfl⟩, trivial⟩, rfl⟩
      refine sk' (R' rfl rfl (q' rfl (q' rfl (q' rfl (n' ?_)))))
      refine ALoop.wk ?_ (ih1 _ _ _ _ hh)
      exact ⟨⟨⟨.rfl, rfl⟩, ⟨⟨.rfl, rfl⟩, ⟨⟨.rfl, rfl⟩, trivial⟩⟩⟩, ⟨⟨rfl, .refl _, rfl⟩, trivial⟩, rfl⟩
    refine ex' (s' rfl rfl (q' rfl (q' rfl (q' rfl (n' (re' ?_))))))
    obtain rfl := oi' hh
    exact ⟨_, _, [], rfl, .rfl, trivial, rfl, rfl, rfl, rfl⟩
theorem ref10_exprDepth_ok {e : ApiExpr} {res : Int} (hh : ref10_exprDepth e = some res) : ref10_exprDepth_m e res := (ref10_exprDepth_grp).1 _ _ hh
theorem ref10_exprDepth_l1_ok {e : ApiExpr} {d : Int} {i : Int} {res : Int} (hh : ref10_exprDepth_l1 e d i = some res) : ref10_exprDepth_l1_m e d i res := (ref10_exprDepth_grp).2 _ _ _ _ hh
def ref10_addExpr (s : Keyholeref10Size) (e : ApiExpr) (used : Bool) : Option Keyholeref10Size :=
  (if (!used) = true then ref10_zeroExpr e else some default) >>= fun x1 =>
  if (bif (!used) then x1 else false) = true then
    some s
  else
    ref10_exprNodes e >>= fun x2 =>
    ref10_exprDepth e >>= fun x3 =>
    ref10_size_deeper (Keyholeref10Size.mk (IntKind.i64.wrap (s.nodes + x2)) s.depth) x3 >>= fun x4 =>
    some x4
abbrev ref10_addExpr_m (s : Keyholeref10Size) (e : ApiExpr) (used : Bool) (res : Keyholeref10Size) : Prop := ACall C 49 [.agg (Keyholeref10Size.cells s), .agg (ApiExpr.cells e), .d (.bool used)] [] (fun x H' => H' = [] ∧ x = .agg (Keyholeref10Size.cells res))
theorem ref10_addExpr_ok {s : Keyholeref10Size} {e : ApiExpr} {used : Bool} {res : Keyholeref10Size} (hh : ref10_addExpr s e used = some res) : ref10_addExpr_m s e used res := by
  unfold ref10_addExpr at hh
  refine ACall.intro hC Tryz.func49 rfl rfl rfl ?_
  obtain ⟨x1, hx1, hh⟩ := bs' hh
  refine s' rfl rfl (AOps.n hC rfl (AOps.n hC rfl (AOps.n hC rfl (n' (S' (sg' 6 rfl (a0' rfl (a0' rfl (a0' rfl (a0' rfl (AG.c rfl rfl (fun hg => ⟨hg, trivial⟩) (fun hw => ref10_zeroExpr_ok (if_t hw hx1)) (pa' rfl (an' ?_)))))))))))))
  refine n' ?_
  refine ci' rfl hh (fun hh => ?_) (fun hh => ?_)
  · refine s' rfl rfl (q' rfl (AOps.s hC rfl (n' (re' ?_))))
    obtain rfl := oi' hh
    exact ⟨_, _, [], rfl, .rfl, trivial, rfl, rfl, rfl, rfl⟩
  obtain ⟨x2, hx2, hh⟩ := bs' hh
  obtain ⟨x3, hx3, hh⟩ := bs' hh
  obtain ⟨x4, hx4, hh⟩ := bs' hh
  refine sk' (S' (AEx.draw hC 6 rfl rfl rfl (Q' rfl (Q' rfl (Q' rfl (AQ.c rfl rfl (ref10_exprNodes_ok hx2) (Q' rfl (Q' rfl (Qn' (AOps.s hC rfl (n' (S' (AEx.draw hC 4 rfl rfl rfl ?_)))))))))))))
  refine Q' rfl (Q' rfl (AQ.c rfl rfl (ref10_exprDepth_ok hx3) (AQ.c rfl rfl (ref10_size_deeper_ok hx4) (Qn' (AOps.s hC rfl (n' (re' ?_)))))))
  obtain rfl := oi' hh
  exact ⟨_, _, [], rfl, .rfl, trivial, rfl, rfl, rfl, rfl⟩
def ref10_kids (o : Int) : Option Int :=
  if (bif (bif (bif (o == 0) then true else (o == 1)) then true else (o == 2)) then true else (o == 3)) = true then
    some 0
  else
    if (bif (bif (o == 4) then true else (o == 6)) then true else (o == 7)) = true then
      some 1
    else
      if (bif (o == 5) then true else (bif (decide (o ≥ 8)) then (decide (o ≤ 22)) else false)) = true then
        some 2
      else
        if (o == 23) = true then
          some 3
        else
          some (-1)
abbrev ref10_kids_m (o : Int) (res : Int) : Prop := ACall C 111 [.d (.int .i64 o)] [] (fun x H' => H' = [] ∧ x = .d (.int .i64 res))
theorem ref10_kids_ok {o : Int} {res : Int} (hh : ref10_kids o = some res) : ref10_kids_m o res := by
  unfold ref10_kids at hh
  refine ACall.intro hC Tryz.func111 rfl rfl rfl ?_
  refine s' rfl rfl (q' rfl (n' (S' (sg' 14 rfl (a0' rfl (a0' rfl (a0' rfl (a0' rfl (a1' rfl (po' rfl (a0' rfl (a0' rfl (a1' rfl ?_)))))))))))))
  refine po' rfl (a0' rfl (a0' rfl (a1' rfl (po' rfl (an' (n' ?_))))))
  refine ci' rfl hh (fun hh => ?_) (fun hh => ?_)
  · refine s' rfl rfl (q' rfl (n' (re' ?_)))
    obtain rfl := oi' hh
    exact ⟨_, _, [], rfl, .rfl, trivial, rfl, rfl, rfl, rfl⟩
  refine sk' (S' (sg' 10 rfl (a0' rfl (a0' rfl (a0' rfl (a0' rfl (a1' rfl (po' rfl (a0' rfl (a0' rfl (a1' rfl (po' rfl (an' ?_)))))))))))))
  refine n' ?_
  refine ci' rfl hh (fun hh => ?_) (fun hh => ?_)
  · refine s' rfl rfl (q' rfl (n' (re' ?_)))
    obtain rfl := oi' hh
    exact ⟨_, _, [], rfl, .rfl, trivial, rfl, rfl, rfl, rfl⟩
  refine sk' (S' (sg' 10 rfl (a0' rfl (a0' rfl (a0' rfl (a0' rfl (a1' rfl (a1' rfl (a0' rfl (a1' rfl (pA' rfl (po' rfl (an' ?_)))))))))))))
  refine n' ?_
  refine ci' rfl hh (fun hh => ?_) (fun hh => ?_)
  · refine s' rfl rfl (q' rfl (n' (re' ?_)))
    obtain rfl := oi' hh
    exact ⟨_, _, [], rfl, .rfl, trivial, rfl, rfl, rfl, rfl⟩
  refine sk' (S' (s' rfl rfl (q' rfl (q' rfl (n' ?_)))))
  refine ci' rfl hh (fun hh => ?_) (fun hh => ?_)
  · refine s' rfl rfl (q' rfl (n' (re' ?_)))
    obtain rfl := oi' hh
    exact ⟨_, _, [], rfl, .rfl, trivial, rfl, rfl, rfl, rfl⟩
  refine sk' (s' rfl rfl (q' rfl (n' (re' ?_))))
  obtain rfl := oi' hh
  exact ⟨_, _, [], rfl, .rfl, trivial, rfl, rfl, rfl, rfl⟩
def ref10_isPlace (e : ApiExpr) : Option Bool :=
  if (e.Op == 3) = true then
    some true
  else
    (if (bif (bif (e.Op == 4) then true else (e.Op == 5)) then (decide (((e.Kids).length : Int) > 0)) else false) = true then idx e.Kids 0 else some default) >>= fun x1 =>
    (if (bif (bif (e.Op == 4) then true else (e.Op == 5)) then (decide (((e.Kids).length : Int) > 0)) else false) = true then ref10_isPlace x1 else some default) >>= fun x2 =>
    some (bif (bif (bif (e.Op == 4) then true else (e.Op == 5)) then (decide (((e.Kids).length : Int) > 0)) else false) then x2 else false)
  partial_fixpoint
abbrev ref10_isPlace_m (e : ApiExpr) (res : Bool) : Prop := ACall C 112 [.agg (ApiExpr.cells e)] [] (fun x H' => H' = [] ∧ x = .d (.bool res))
theorem ref10_isPlace_grp : (∀ (e : ApiExpr) (res : Bool), ref10_isPlace e = some res → ref10_isPlace_m e res) := by
  refine ref10_isPlace.partial_correctness (fun e res => ref10_isPlace_m e res) ?_
  · intro g0 ih0 e res hh
    refine ACall.intro hC Tryz.func112 rfl rfl rfl ?_
    refine s' rfl rfl (AOps.n hC rfl (q' rfl (n' (S' (s' rfl rfl (q' rfl (q' rfl (q' rfl (n' ?_)))))))))
    refine ci' rfl hh (fun hh => ?_) (fun hh => ?_)
    · refine s' rfl rfl (q' rfl (n' (re' ?_)))
      obtain rfl := oi' hh
      exact ⟨_, _, [], rfl, .rfl, trivial, rfl, rfl, rfl, rfl⟩
    obtain ⟨x1, hx1, hh⟩ := bs' hh
    obtain ⟨x2, hx2, hh⟩ := bs' hh
    refine sk' (sg' 22 rfl (a0' rfl (a0' rfl (a0' rfl (a0' rfl (a0' rfl (a1' rfl (a1' rfl (po' rfl (a0' rfl (a0' rfl (a1' rfl (AG.qe hC rfl (fun hg => ⟨⟨hg, trivial⟩, trivial⟩) (ApiExpr.lenA _) ?_)))))))))))))
    refine a1' rfl (pa' rfl (a0' rfl (a0' rfl (a1' rfl (AG.i hC rfl rfl (fun hg => ⟨hg, trivial⟩) (fun hw => ⟨idx_nat (if_t hw hx1), ApiExpr.idx (if_t hw hx1), rfl⟩) (a1' rfl (AG.c rfl rfl (fun hg => ⟨hg, trivial⟩) (fun hw => ih0 _ _ (if_t hw hx2)) (pa' rfl (a0' rfl (an' (n' (re' ?_))))))))))))
    obtain rfl := oi' hh
    exact ⟨_, _, [], rfl, .rfl, trivial, rfl, rfl, rfl, rfl⟩
theorem ref10_isPlace_ok {e : ApiExpr} {res : Bool} (hh : ref10_isPlace e = some res) : ref10_isPlace_m e res := (ref10_isPlace_grp) _ _ hh
mutual
def ref10_exprForm (e : ApiExpr) : Option Bool :=
  ref10_kids e.Op >>= fun x1 =>
  if (bif (bif (x1 != ((e.Kids).length : Int)) then true else (bif (e.Op != 0) then (e.NV != 0) else false)) then true else (bif (bif (e.Op != 3) then (e.Op != 4) else false) then (!(e.Name == [])) else false)) = true then
    some false
  else
    (if (bif (e.Op == 4) then true else (e.Op == 5)) = true then ref10_isPlace e else some default) >>= fun x2 =>
    if (bif (bif (e.Op == 4) then true else (e.Op == 5)) then (!x2) else false) = true then
      some false
    else
      ref10_exprForm_l1 e 0
  partial_fixpoint
def ref10_exprForm_l1 (e : ApiExpr) (i : Int) : Option Bool :=
  if (decide (i < ((e.Kids).length : Int))) = true then
    idx e.Kids i >>= fun x3 =>
    ref10_exprForm x3 >>= fun x4 =>
    if (!x4) = true then
      some false
    else
      ref10_exprForm_l1 e (IntKind.i64.wrap (i + 1))
  else
    some true
  partial_fixpoint
end
abbrev ref10_exprForm_m (e : ApiExpr) (res : Bool) : Prop := ACall C 50 [.agg (ApiExpr.cells e)] [] (fun x H' => H' = [] ∧ x = .d (.bool res))
abbrev ref10_exprForm_l1_m (e : ApiExpr) (i : Int) (res : Bool) : Prop := ALoop (Fx.mk C 63 0) (lo (bk (sr (sl (sr (sr (sr (bodyOf Tryz.f50)))))))) (mkEnv [(1, .ref 0 0), (3, .d (.int .i64 i))]) [.row (ApiExpr.cells e) 36] (Am.InBlock 0 (Am.Then (Fx.mk C 63 0) (sr (sr (sr (sr (bodyOf Tryz.f50))))) (Am.Ends (Fx.mk C 63 0) Tryz.f50.results.toList (fun x H' => H' = [] ∧ x = .d (.bool res)))))
theorem ref10_exprForm_grp : (∀ (e : ApiExpr) (res : Bool), ref10_exprForm e = some res → ref10_exprForm_m e res) ∧
    (∀ (e : ApiExpr) (i : Int) (res : Bool), ref10_exprForm_l1 e i = some res → ref10_exprForm_l1_m e i res) := by
  refine ref10_exprForm.mutual_partial_correctness (fun e res => ref10_exprForm_m e res)
    (fun e i res => ref10_exprForm_l1_m e i res) ?_ ?_
  · intro g1 ih1 e res hh
    refine ACall.intro hC Tryz.func50 rfl rfl rfl ?_
    obtain ⟨x1, hx1, hh⟩ := bs' hh
    refine s' rfl rfl (AOps.n hC rfl (q' rfl (n' (S' (S' (AEx.drawG hC 32 rfl rfl rfl (a0' rfl (a0' rfl (AG.c rfl rfl (fun _ => trivial) (fun _ => ref10_kids_ok hx1) (a0' rfl (a0' rfl (AG.qe hC rfl (fun hg => ⟨trivial, trivial⟩) (ApiExpr.lenA _) (a0' rfl ?_)))))))))))))
    refine a0' rfl (a0' rfl (a1' rfl (a1' rfl (a1' rfl (a0' rfl (a1' rfl (a1' rfl (pA' rfl (po' rfl (a0' rfl (a0' rfl (a1' rfl (a1' rfl ?_)))))))))))))
    refine a1' rfl (a0' rfl (a1' rfl (a1' rfl (pA' rfl (a1' rfl (a0' rfl (a1' rfl (a1' rfl (pA' rfl (po' rfl (an' (n' ?_))))))))))))
    refine ci' rfl hh (fun hh => ?_) (fun hh => ?_)
    · refine s' rfl rfl (q' rfl (n' (re' ?_)))
      obtain rfl := oi' hh
      exact ⟨_, _, [], rfl, .rfl, trivial, rfl, rfl, rfl, rfl⟩
    obtain ⟨x2, hx2, hh⟩ := bs' hh
    refine sk' (S' (sg' 13 rfl (a0' rfl (a0' rfl (a0' rfl (a0' rfl (a0' rfl (a1' rfl (a1' rfl (po' rfl (a0' rfl (a0' rfl (AG.c rfl rfl (fun hg => ⟨hg, trivial⟩) (fun hw => ref10_isPlace_ok (if_t hw hx2)) ?_)))))))))))))
    refine a1' rfl (pa' rfl (an' (n' ?_)))
    refine ci' rfl hh (fun hh => ?_) (fun hh => ?_)
    · refine s' rfl rfl (q' rfl (n' (re' ?_)))
      obtain rfl := oi' hh
      exact ⟨_, _, [], rfl, .rfl, trivial, rfl, rfl, rfl, rfl⟩
    refine sk' (S' (s' rfl rfl (q' rfl (n' (AEx.block ?_)))))
    refine AEx.ofLoop ?_
    refine ALoop.wk ?_ (ih1 _ _ _ hh)
    exact ⟨⟨⟨.rfl, rfl⟩, ⟨⟨.rfl, rfl⟩, trivial⟩⟩, ⟨⟨rfl, .refl _, rfl⟩, trivial⟩, rfl⟩
  · intro g0 g1 ih0 ih1 e i res hh
    refine ALoop.unroll ?_
    refine S' (s' rfl rfl (q' rfl (q' rfl (q' rfl (qe' rfl trivial (ApiExpr.lenA _) (q' rfl (n' ?_)))))))
    refine ci' rfl hh (fun hh => ?_) (fun hh => ?_)
    · obtain ⟨x3, hx3, hh⟩ := bs' hh
      obtain ⟨x4, hx4, hh⟩ := bs' hh
      refine sk' (S' (AEx.block (s' rfl rfl (q' rfl (q' rfl (q' rfl (i' rfl (idx_nat hx3) (ApiExpr.idx hx3) rfl (q' rfl (AOps.c rfl rfl (ih0 _ _ hx4) (q' rfl (n' ?_)))))))))))
      refine ci' rfl hh (fun hh => ?_) (fun hh => ?_)
      · refine s' rfl rfl (q' rfl (n' (re' ?_)))
        obtain rfl := oi' hh
        exact ⟨_, _, [], rfl, .rfl, trivial, rfl, rfl, rfl, rfl⟩
      refine sk' (R' rfl rfl (q' rfl (q' rfl (q' rfl (n' ?_)))))
      refine ALoop.wk ?_ (ih1 _ _ _ hh)
      exact ⟨⟨⟨.rfl, rfl⟩, ⟨⟨.rfl, rfl⟩, trivial⟩⟩, ⟨⟨rfl, .refl _, rfl⟩, trivial⟩, rfl⟩
    refine ex' (s' rfl rfl (q' rfl (n' (re' ?_))))
    obtain rfl := oi' hh
    exact ⟨_, _, [], rfl, .rfl, trivial, rfl, rfl, rfl, rfl⟩
theorem ref10_exprForm_ok {e : ApiExpr} {res : Bool} (hh : ref10_exprForm e = some res) : ref10_exprForm_m e res := (ref10_exprForm_grp).1 _ _ hh
theorem ref10_exprForm_l1_ok {e : ApiExpr} {i : Int} {res : Bool} (hh : ref10_exprForm_l1 e i = some res) : ref10_exprForm_l1_m e i res := (ref10_exprForm_grp).2 _ _ _ hh
end Go.Proofs.YtmilgoloagbmpaaGreatDoor

set_option maxRecDepth 100000
set_option maxHeartbeats 4000000
set_option linter.unusedVariables false
namespace Go.Proofs.YtmilgoloagbmpaaGreatDoor
open Go.Am
def ref09_letter (c : Int) : Option Bool :=
  some (bif (decide (c ≥ 97)) then (decide (c ≤ 122)) else false)
abbrev ref09_letter_m (c : Int) (res : Bool) : Prop := ACall C 164 [.d (.int .u8 c)] [] (fun x H' => H' = [] ∧ x = .d (.bool res))
theorem ref09_letter_ok {c : Int} {res : Bool} (hh : ref09_letter c = some res) : ref09_letter_m c res := by
  unfold ref09_letter at hh
  refine ACall.intro hC Tryz.func164 rfl rfl rfl ?_
  refine s' rfl rfl (q' rfl (n' (sg' 7 rfl (a0' rfl (a0' rfl (a0' rfl (a0' rfl (a1' rfl (pa' rfl (a0' rfl (an' (n' (re' ?_)))))))))))))
  obtain rfl := oi' hh
  exact ⟨_, _, [], rfl, .rfl, trivial, rfl, rfl, rfl, rfl⟩
def ref09_Reserved_l2 (s : Str) (i1 : Int) : Option Bool :=
  if (decide ((IntKind.i64.wrap ((IntKind.i64.wrap (i1 + ((s).length : Int))) + 2)) ≤ 162)) = true then
    slc [32, 116, 121, 112, 101, 32, 115, 101, 99, 114, 101, 116, 32, 112, 117, 98, 108, 105, 99, 32, 114, 97, 110, 100, 111, 109, 32, 118, 97, 114, 32, 104, 97, 116, 99, 104, 32, 102, 117, 110, 99, 32, 114, 101, 116, 117, 114, 110, 32, 98, 101, 103, 105, 110, 32, 101, 110, 100, 32, 98, 111, 111, 108, 32, 105, 110, 116, 32, 97, 114, 114, 97, 121, 32, 111, 102, 32, 114, 101, 99, 111, 114, 100, 32, 116, 114, 117, 101, 32, 102, 97, 108, 115, 101, 32, 99, 97, 108, 108, 32, 114, 101, 108, 101, 97, 115, 101, 32, 111, 117, 116, 112, 117, 116, 32, 119, 97, 105, 116, 32, 105, 102, 32, 101, 108, 115, 101, 32, 119, 104, 105, 108, 101, 32, 108, 105, 109, 105, 116, 32, 102, 111, 114, 32, 116, 111, 32, 115, 101, 116, 116, 108, 101, 32, 109, 105, 110, 32, 109, 97, 120, 32] i1 (IntKind.i64.wrap ((IntKind.i64.wrap (i1 + ((s).length : Int))) + 2)) >>= fun x3 =>
    if (decide (1 + s.length ≤ maxLen)) = true then
      if (decide (([32] ++ s).length + 1 ≤ maxLen)) = true then
        if (x3 == (([32] ++ s) ++ [32])) = true then
          some true
        else
          ref09_Reserved_l2 s (IntKind.i64.wrap (i1 + 1))
      else none
    else none
  else
    some false
  partial_fixpoint
abbrev ref09_Reserved_l2_m (s : Str) (i1 : Int) (res : Bool) : Prop := ALoop (Fx.mk C 38 0) (lo (bk (sr (sl (sr (sr (sr (bodyOf Tryz.f165)))))))) (mkEnv [(0, .d (.str s)), (4, .d (.int .i64 i1))]) [] (Am.InBlock 2 (Am.Then (Fx.mk C 38 0) (sr (sr (sr (sr (bodyOf Tryz.f165))))) (Am.Ends (Fx.mk C 38 0) Tryz.f165.results.toList (fun x H' => H' = [] ∧ x = .d (.bool res)))))
theorem ref09_Reserved_l2_grp (s : Str) : (∀ (i1 : Int) (res : Bool), ref09_Reserved_l2 s i1 = some res → ref09_Reserved_l2_m s i1 res) := by
  refine ref09_Reserved_l2.partial_correctness s
    (fun i1 res => ref09_Reserved_l2_m s i1 res) ?_
  · intro g0 ih0 i1 res hh
    refine ALoop.unroll ?_
    refine S' (s' rfl rfl (q' rfl (q' rfl (q' rfl (q' rfl (q' rfl (q' rfl (n' ?_))))))))
    refine ci' rfl hh (fun hh => ?_) (fun hh => ?_)
    · obtain ⟨x3, hx3, hh⟩ := bs' hh
      obtain ⟨c9, hh⟩ := asrt_some hh
      obtain ⟨c10, hh⟩ := asrt_some hh
      refine sk' (S' (AEx.block (s' rfl rfl (q' rfl (q' rfl (q' rfl (q' rfl (q' rfl (q' rfl (AOps.lx hC rfl hx3 (q' rfl (qc' rfl c9 (qc' rfl c10 ?_)))))))))))))
      refine q' rfl (n' ?_)
      refine ci' rfl hh (fun hh => ?_) (fun hh => ?_)
      · refine s' rfl rfl (q' rfl (n' (re' ?_)))
        obtain rfl := oi' hh
        exact ⟨_, _, [], rfl, .rfl, trivial, rfl, rfl, rfl, rfl⟩
      refine sk' (R' rfl rfl (q' rfl (q' rfl (q' rfl (n' ?_)))))
      refine ALoop.wk ?_ (ih0 _ _ hh)
      exact ⟨⟨⟨.rfl, rfl⟩, ⟨⟨.rfl, rfl⟩, trivial⟩⟩, trivial, rfl⟩
    refine ex' (s' rfl rfl (q' rfl (n' (re' ?_))))
    obtain rfl := oi' hh
    exact ⟨_, _, [], rfl, .rfl, trivial, rfl, rfl, rfl, rfl⟩
theorem ref09_Reserved_l2_ok {s : Str} {i1 : Int} {res : Bool} (hh : ref09_Reserved_l2 s i1 = some res) : ref09_Reserved_l2_m s i1 res := (ref09_Reserved_l2_grp s) _ _ hh
def ref09_Reserved_l1 (s : Str) (i : Int) : Option Bool :=
  if (decide (i < ((s).length : Int))) = true then
    idx s i >>= fun x1 =>
    ref09_letter (x1.toNat : Int) >>= fun x2 =>
    if (!x2) = true then
      some false
    else
      ref09_Reserved_l1 s (IntKind.i64.wrap (i + 1))
  else
    ref09_Reserved_l2 s 0
  partial_fixpoint
abbrev ref09_Reserved_l1_m (s : Str) (i : Int) (res : Bool) : Prop := ALoop (Fx.mk C 38 0) (lo (bk (sr (sl (sr (sr (bodyOf Tryz.f165))))))) (mkEnv [(0, .d (.str s)), (3, .d (.int .i64 i))]) [] (Am.InBlock 0 (Am.Then (Fx.mk C 38 0) (sr (sr (sr (bodyOf Tryz.f165)))) (Am.Ends (Fx.mk C 38 0) Tryz.f165.results.toList (fun x H' => H' = [] ∧ x = .d (.bool res)))))
theorem ref09_Reserved_l1_grp (s : Str) : (∀ (i : Int) (res : Bool), ref09_Reserved_l1 s i = some res → ref09_Reserved_l1_m s i res) := by
  refine ref09_Reserved_l1.partial_correctness s
    (fun i res => ref09_Reserved_l1_m s i res) ?_
  · intro g0 ih0 i res hh
    refine ALoop.unroll ?_
    refine S' (s' rfl rfl (q' rfl (q' rfl (q' rfl (q' rfl (n' ?_))))))
    refine ci' rfl hh (fun hh => ?_) (fun hh => ?_)
    · obtain ⟨x1, hx1, hh⟩ := bs' hh
      obtain ⟨x2, hx2, hh⟩ := bs' hh
      refine sk' (S' (AEx.block (s' rfl rfl (q' rfl (q' rfl (x' rfl (idx_nat hx1) (idx_get hx1) (AOps.c rfl rfl (ref09_letter_ok hx2) (q' rfl (n' ?_)))))))))
      refine ci' rfl hh (fun hh => ?_) (fun hh => ?_)
      · refine s' rfl rfl (q' rfl (n' (re' ?_)))
        obtain rfl := oi' hh
        exact ⟨_, _, [], rfl, .rfl, trivial, rfl, rfl, rfl, rfl⟩
      refine sk' (R' rfl rfl (q' rfl (q' rfl (q' rfl (n' ?_)))))
      refine ALoop.wk ?_ (ih0 _ _ hh)
      exact ⟨⟨⟨.rfl, rfl⟩, ⟨⟨.rfl, rfl⟩, trivial⟩⟩, trivial, rfl⟩
    refine ex' (S' (s' rfl rfl (q' rfl (n' (AEx.block ?_)))))
    refine AEx.ofLoop ?_
    refine ALoop.wk ?_ (ref09_Reserved_l2_ok hh)
    exact ⟨⟨⟨.rfl, rfl⟩, ⟨⟨.rfl, rfl⟩, trivial⟩⟩, trivial, rfl⟩
theorem ref09_Reserved_l1_ok {s : Str} {i : Int} {res : Bool} (hh : ref09_Reserved_l1 s i = some res) : ref09_Reserved_l1_m s i res := (ref09_Reserved_l1_grp s) _ _ hh
def ref09_Reserved (s : Str) : Option Bool :=
  if (((s).length : Int) == 0) = true then
    some false
  else
    ref09_Reserved_l1 s 0
abbrev ref09_Reserved_m (s : Str) (res : Bool) : Prop := ACall C 165 [.d (.str s)] [] (fun x H' => H' = [] ∧ x = .d (.bool res))
theorem ref09_Reserved_ok {s : Str} {res : Bool} (hh : ref09_Reserved s = some res) : ref09_Reserved_m s res := by
  unfold ref09_Reserved at hh
  refine ACall.intro hC Tryz.func165 rfl rfl rfl ?_
  refine s' rfl rfl (q' rfl (n' (S' (s' rfl rfl (q' rfl (q' rfl (q' rfl (n' ?_))))))))
  refine ci' rfl hh (fun hh => ?_) (fun hh => ?_)
  · refine s' rfl rfl (q' rfl (n' (re' ?_)))
    obtain rfl := oi' hh
    exact ⟨_, _, [], rfl, .rfl, trivial, rfl, rfl, rfl, rfl⟩
  refine sk' (S' (s' rfl rfl (q' rfl (n' (AEx.block ?_)))))
  refine AEx.ofLoop ?_
  refine ALoop.wk ?_ (ref09_Reserved_l1_ok hh)
  exact ⟨⟨⟨.rfl, rfl⟩, ⟨⟨.rfl, rfl⟩, trivial⟩⟩, trivial, rfl⟩
def ref09_digit (c : Int) : Option Bool :=
  some (bif (decide (c ≥ 48)) then (decide (c ≤ 57)) else false)
abbrev ref09_digit_m (c : Int) (res : Bool) : Prop := ACall C 185 [.d (.int .u8 c)] [] (fun x H' => H' = [] ∧ x = .d (.bool res))
theorem ref09_digit_ok {c : Int} {res : Bool} (hh : ref09_digit c = some res) : ref09_digit_m c res := by
  unfold ref09_digit at hh
  refine ACall.intro hC Tryz.func185 rfl rfl rfl ?_
  refine s' rfl rfl (q' rfl (n' (sg' 7 rfl (a0' rfl (a0' rfl (a0' rfl (a0' rfl (a1' rfl (pa' rfl (a0' rfl (an' (n' (re' ?_)))))))))))))
  obtain rfl := oi' hh
  exact ⟨_, _, [], rfl, .rfl, trivial, rfl, rfl, rfl, rfl⟩
def ref09_run_l1 (s : Str) (atV1 : Int) : Option Int :=
  (if (decide (atV1 < ((s).length : Int))) = true then idx s atV1 else some default) >>= fun x1 =>
  (if (decide (atV1 < ((s).length : Int))) = true then ref09_letter (x1.toNat : Int) else some default) >>= fun x2 =>
  (if ((decide (atV1 < ((s).length : Int))) && (!x2)) = true then idx s atV1 else some default) >>= fun x3 =>
  (if ((decide (atV1 < ((s).length : Int))) && (!x2)) = true then ref09_digit (x3.toNat : Int) else some default) >>= fun x4 =>
  if (bif (decide (atV1 < ((s).length : Int))) then (bif x2 then true else x4) else false) = true then
    ref09_run_l1 s (IntKind.i64.wrap (atV1 + 1))
  else
    some atV1
  partial_fixpoint
abbrev ref09_run_l1_m (s : Str) (atV1 : Int) (res : Int) : Prop := ALoop (Fx.mk C 24 0) (lo (bk (sl (sr (bodyOf Tryz.f166))))) (mkEnv [(0, .d (.str s)), (1, .d (.int .i64 atV1))]) [] (Am.InBlock 0 (Am.Then (Fx.mk C 24 0) (sr (sr (bodyOf Tryz.f166))) (Am.Ends (Fx.mk C 24 0) Tryz.f166.results.toList (fun x H' => H' = [] ∧ x = .d (.int .i64 res)))))
theorem ref09_run_l1_grp (s : Str) : (∀ (atV1 : Int) (res : Int), ref09_run_l1 s atV1 = some res → ref09_run_l1_m s atV1 res) := by
  refine ref09_run_l1.partial_correctness s
    (fun atV1 res => ref09_run_l1_m s atV1 res) ?_
  · intro g0 ih0 atV1 res hh
    refine ALoop.unroll ?_
    obtain ⟨x1, hx1, hh⟩ := bs' hh
    obtain ⟨x2, hx2, hh⟩ := bs' hh
    obtain ⟨x3, hx3, hh⟩ := bs' hh
    obtain ⟨x4, hx4, hh⟩ := bs' hh
    refine S' (sg' 16 rfl (a0' rfl (a0' rfl (a0' rfl (a0' rfl (a0' rfl (a0' rfl (a0' rfl (AG.x hC rfl rfl (fun hg => ⟨hg, hg, trivial⟩) (fun hw => ⟨idx_nat (if_t hw hx1), idx_get (if_t hw hx1)⟩) (AG.c rfl rfl (fun hg => ⟨hg, trivial⟩) (fun hw => ref09_letter_ok (if_t hw hx2)) (a1' rfl (a0' rfl (a0' rfl ?_)))))))))))))
    refine AG.x hC rfl rfl (fun hg => ⟨hg, hg, trivial⟩) (fun hw => ⟨idx_nat (if_t hw hx3), idx_get (if_t hw hx3)⟩) (AG.c rfl rfl (fun hg => ⟨hg, trivial⟩) (fun hw => ref09_digit_ok (if_t hw hx4)) (pO' rfl (pa' rfl (an' (n' ?_)))))
    refine ci' rfl hh (fun hh => ?_) (fun hh => ?_)
    · refine sk' (AEx.block (R' rfl rfl (q' rfl (q' rfl (q' rfl (n' ?_))))))
      refine ALoop.wk ?_ (ih0 _ _ hh)
      exact ⟨⟨⟨.rfl, rfl⟩, ⟨⟨.rfl, rfl⟩, trivial⟩⟩, trivial, rfl⟩
    refine ex' (s' rfl rfl (q' rfl (q' rfl (n' (re' ?_)))))
    obtain rfl := oi' hh
    exact ⟨_, _, [], rfl, .rfl, trivial, rfl, rfl, rfl, rfl⟩
theorem ref09_run_l1_ok {s : Str} {atV1 : Int} {res : Int} (hh : ref09_run_l1 s atV1 = some res) : ref09_run_l1_m s atV1 res := (ref09_run_l1_grp s) _ _ hh
def ref09_run (s : Str) (atV : Int) : Option Int :=
  ref09_run_l1 s atV
abbrev ref09_run_m (s : Str) (atV : Int) (res : Int) : Prop := ACall C 166 [.d (.str s), .d (.int .i64 atV)] [] (fun x H' => H' = [] ∧ x = .d (.int .i64 res))
theorem ref09_run_ok {s : Str} {atV : Int} {res : Int} (hh : ref09_run s atV = some res) : ref09_run_m s atV res := by
  unfold ref09_run at hh
  refine ACall.intro hC Tryz.func166 rfl rfl rfl ?_
  refine s' rfl rfl (q' rfl (n' (S' (AEx.block ?_))))
  refine AEx.ofLoop ?_
  refine ALoop.wk ?_ (ref09_run_l1_ok hh)
  exact ⟨⟨⟨.rfl, rfl⟩, ⟨⟨.rfl, rfl⟩, trivial⟩⟩, trivial, rfl⟩
def ref09_IsName (s : Str) : Option Bool :=
  (if (!(bif (decide (((s).length : Int) < 1)) then true else (decide (((s).length : Int) > 12)))) = true then idx s 0 else some default) >>= fun x1 =>
  (if (!(bif (decide (((s).length : Int) < 1)) then true else (decide (((s).length : Int) > 12)))) = true then ref09_letter (x1.toNat : Int) else some default) >>= fun x2 =>
  (if (!(bif (bif (decide (((s).length : Int) < 1)) then true else (decide (((s).length : Int) > 12))) then true else (!x2))) = true then ref09_Reserved s else some default) >>= fun x3 =>
  if (bif (bif (bif (decide (((s).length : Int) < 1)) then true else (decide (((s).length : Int) > 12))) then true else (!x2)) then true else x3) = true then
    some false
  else
    ref09_run s 0 >>= fun x4 =>
    some (x4 == ((s).length : Int))
abbrev ref09_IsName_m (s : Str) (res : Bool) : Prop := ACall C 137 [.d (.str s)] [] (fun x H' => H' = [] ∧ x = .d (.bool res))
theorem ref09_IsName_ok {s : Str} {res : Bool} (hh : ref09_IsName s = some res) : ref09_IsName_m s res := by
  unfold ref09_IsName at hh
  refine ACall.intro hC Tryz.func137 rfl rfl rfl ?_
  obtain ⟨x1, hx1, hh⟩ := bs' hh
  obtain ⟨x2, hx2, hh⟩ := bs' hh
  obtain ⟨x3, hx3, hh⟩ := bs' hh
  refine s' rfl rfl (q' rfl (n' (S' (sg' 18 rfl (a0' rfl (a0' rfl (a0' rfl (a0' rfl (a0' rfl (a1' rfl (a1' rfl (po' rfl (a0' rfl ?_)))))))))))))
  refine a0' rfl (AG.x hC rfl rfl (fun hg => ⟨hg, trivial⟩) (fun hw => ⟨idx_nat (if_t hw hx1), idx_get (if_t hw hx1)⟩) (AG.c rfl rfl (fun hg => ⟨hg, trivial⟩) (fun hw => ref09_letter_ok (if_t hw hx2)) (a1' rfl (po' rfl (a0' rfl (a0' rfl (AG.c rfl rfl (fun hg => ⟨hg, trivial⟩) (fun hw => ref09_Reserved_ok (if_t hw hx3)) (po' rfl (an' (n' ?_))))))))))
  refine ci' rfl hh (fun hh => ?_) (fun hh => ?_)
  · refine s' rfl rfl (q' rfl (n' (re' ?_)))
    obtain rfl := oi' hh
    exact ⟨_, _, [], rfl, .rfl, trivial, rfl, rfl, rfl, rfl⟩
  obtain ⟨x4, hx4, hh⟩ := bs' hh
  refine sk' (s' rfl rfl (q' rfl (AOps.c rfl rfl (ref09_run_ok hx4) (q' rfl (q' rfl (q' rfl (q' rfl (n' (re' ?_)))))))))
  obtain rfl := oi' hh
  exact ⟨_, _, [], rfl, .rfl, trivial, rfl, rfl, rfl, rfl⟩
def ref10_IsName (s : Str) : Option Bool :=
  ref09_IsName s >>= fun x1 =>
  some x1
abbrev ref10_IsName_m (s : Str) (res : Bool) : Prop := ACall C 75 [.d (.str s)] [] (fun x H' => H' = [] ∧ x = .d (.bool res))
theorem ref10_IsName_ok {s : Str} {res : Bool} (hh : ref10_IsName s = some res) : ref10_IsName_m s res := by
  unfold ref10_IsName at hh
  refine ACall.intro hC Tryz.func75 rfl rfl rfl ?_
  obtain ⟨x1, hx1, hh⟩ := bs' hh
  refine s' rfl rfl (q' rfl (n' (s' rfl rfl (q' rfl (AOps.c rfl rfl (ref09_IsName_ok hx1) (q' rfl (n' (re' ?_))))))))
  obtain rfl := oi' hh
  exact ⟨_, _, [], rfl, .rfl, trivial, rfl, rfl, rfl, rfl⟩
mutual
def ref10_exprNames (e : ApiExpr) : Option Bool :=
  (if (bif (e.Op == 3) then true else (e.Op == 4)) = true then ref10_IsName e.Name else some default) >>= fun x1 =>
  if (bif (bif (e.Op == 3) then true else (e.Op == 4)) then (!x1) else false) = true then
    some false
  else
    ref10_exprNames_l1 e 0
  partial_fixpoint
def ref10_exprNames_l1 (e : ApiExpr) (i : Int) : Option Bool :=
  if (decide (i < ((e.Kids).length : Int))) = true then
    idx e.Kids i >>= fun x2 =>
    ref10_exprNames x2 >>= fun x3 =>
    if (!x3) = true then
      some false
    else
      ref10_exprNames_l1 e (IntKind.i64.wrap (i + 1))
  else
    some true
  partial_fixpoint
end
abbrev ref10_exprNames_m (e : ApiExpr) (res : Bool) : Prop := ACall C 51 [.agg (ApiExpr.cells e)] [] (fun x H' => H' = [] ∧ x = .d (.bool res))
abbrev ref10_exprNames_l1_m (e : ApiExpr) (i : Int) (res : Bool) : Prop := ALoop (Fx.mk C 32 0) (lo (bk (sr (sl (sr (sr (bodyOf Tryz.f51))))))) (mkEnv [(1, .ref 0 0), (3, .d (.int .i64 i))]) [.row (ApiExpr.cells e) 36] (Am.InBlock 0 (Am.Then (Fx.mk C 32 0) (sr (sr (sr (bodyOf Tryz.f51)))) (Am.Ends (Fx.mk C 32 0) Tryz.f51.results.toList (fun x H' => H' = [] ∧ x = .d (.bool res)))))
theorem ref10_exprNames_grp : (∀ (e : ApiExpr) (res : Bool), ref10_exprNames e = some res → ref10_exprNames_m e res) ∧
    (∀ (e : ApiExpr) (i : Int) (res : Bool), ref10_exprNames_l1 e i = some res → ref10_exprNames_l1_m e i res) := by
  refine ref10_exprNames.mutual_partial_correctness (fun e res => ref10_exprNames_m e res)
    (fun e i res => ref10_exprNames_l1_m e i res) ?_ ?_
  · intro g1 ih1 e res hh
    refine ACall.intro hC Tryz.func51 rfl rfl rfl ?_
    obtain ⟨x1, hx1, hh⟩ := bs' hh
    refine s' rfl rfl (AOps.n hC rfl (q' rfl (n' (S' (sg' 14 rfl (a0' rfl (a0' rfl (a0' rfl (a0' rfl (a0' rfl (a1' rfl (a1' rfl (po' rfl ?_)))))))))))))
    refine a0' rfl (a0' rfl (a1' rfl (AG.c rfl rfl (fun hg => ⟨hg, trivial⟩) (fun hw => ref10_IsName_ok (if_t hw hx1)) (a1' rfl (pa' rfl (an' (n' ?_)))))))
    refine ci' rfl hh (fun hh => ?_) (fun hh => ?_)
    · refine s' rfl rfl (q' rfl (n' (re' ?_)))
      obtain rfl := oi' hh
      exact ⟨_, _, [], rfl, .rfl, trivial, rfl, rfl, rfl, rfl⟩
    refine sk' (S' (s' rfl rfl (q' rfl (n' (AEx.block ?_)))))
    refine AEx.ofLoop ?_
    refine ALoop.wk ?_ (ih1 _ _ _ hh)
    exact ⟨⟨⟨.rfl, rfl⟩, ⟨⟨.rfl, rfl⟩, trivial⟩⟩, ⟨⟨rfl, .refl _, rfl⟩, trivial⟩, rfl⟩
  · intro g0 g1 ih0 ih1 e i res hh
    refine ALoop.unroll ?_
    refine S' (s' rfl rfl (q' rfl (q' rfl (q' rfl (qe' rfl trivial (ApiExpr.lenA _) (q' rfl (n' ?_)))))))
    refine ci' rfl hh (fun hh => ?_) (fun hh => ?_)
    · obtain ⟨x2, hx2, hh⟩ := bs' hh
      obtain ⟨x3, hx3, hh⟩ := bs' hh
      refine sk' (S' (AEx.block (s' rfl rfl (q' rfl (q' rfl (q' rfl (i' rfl (idx_nat hx2) (ApiExpr.idx hx2) rfl (q' rfl (AOps.c rfl rfl (ih0 _ _ hx3) (q' rfl (n' ?_)))))))))))
      refine ci' rfl hh (fun hh => ?_) (fun hh => ?_)
      · refine s' rfl rfl (q' rfl (n' (re' ?_)))
        obtain rfl := oi' hh
        exact ⟨_, _, [], rfl, .rfl, trivial, rfl, rfl, rfl, rfl⟩
      refine sk' (R' rfl rfl (q' rfl (q' rfl (q' rfl (n' ?_)))))
      refine ALoop.wk ?_ (ih1 _ _ _ hh)
      exact ⟨⟨⟨.rfl, rfl⟩, ⟨⟨.rfl, rfl⟩, trivial⟩⟩, ⟨⟨rfl, .refl _, rfl⟩, trivial⟩, rfl⟩
    refine ex' (s' rfl rfl (q' rfl (n' (re' ?_))))
    obtain rfl := oi' hh
    exact ⟨_, _, [], rfl, .rfl, trivial, rfl, rfl, rfl, rfl⟩
theorem ref10_exprNames_ok {e : ApiExpr} {res : Bool} (hh : ref10_exprNames e = some res) : ref10_exprNames_m e res := (ref10_exprNames_grp).1 _ _ hh
theorem ref10_exprNames_l1_ok {e : ApiExpr} {i : Int} {res : Bool} (hh : ref10_exprNames_l1 e i = some res) : ref10_exprNames_l1_m e i res := (ref10_exprNames_grp).2 _ _ _ hh
mutual
def ref10_exprNumbers (e : ApiExpr) : Option Bool :=
  if (bif (e.Op == 0) then (bif (decide (e.NV < 0)) then true else (decide (e.NV > 1048576))) else false) = true then
    some false
  else
    ref10_exprNumbers_l1 e 0
  partial_fixpoint
def ref10_exprNumbers_l1 (e : ApiExpr) (i : Int) : Option Bool :=
  if (decide (i < ((e.Kids).length : Int))) = true then
    idx e.Kids i >>= fun x1 =>
    ref10_exprNumbers x1 >>= fun x2 =>
    if (!x2) = true then
      some false
    else
      ref10_exprNumbers_l1 e (IntKind.i64.wrap (i + 1))
  else
    some true
  partial_fixpoint
end
abbrev ref10_exprNumbers_m (e : ApiExpr) (res : Bool) : Prop := ACall C 52 [.agg (ApiExpr.cells e)] [] (fun x H' => H' = [] ∧ x = .d (.bool res))
abbrev ref10_exprNumbers_l1_m (e : ApiExpr) (i : Int) (res : Bool) : Prop := ALoop (Fx.mk C 31 0) (lo (bk (sr (sl (sr (sr (bodyOf Tryz.f52))))))) (mkEnv [(1, .ref 0 0), (3, .d (.int .i64 i))]) [.row (ApiExpr.cells e) 36] (Am.InBlock 0 (Am.Then (Fx.mk C 31 0) (sr (sr (sr (bodyOf Tryz.f52)))) (Am.Ends (Fx.mk C 31 0) Tryz.f52.results.toList (fun x H' => H' = [] ∧ x = .d (.bool res)))))
theorem ref10_exprNumbers_grp : (∀ (e : ApiExpr) (res : Bool), ref10_exprNumbers e = some res → ref10_exprNumbers_m e res) ∧
    (∀ (e : ApiExpr) (i : Int) (res : Bool), ref10_exprNumbers_l1 e i = some res → ref10_exprNumbers_l1_m e i res) := by
  refine ref10_exprNumbers.mutual_partial_correctness (fun e res => ref10_exprNumbers_m e res)
    (fun e i res => ref10_exprNumbers_l1_m e i res) ?_ ?_
  · intro g1 ih1 e res hh
    refine ACall.intro hC Tryz.func52 rfl rfl rfl ?_
    refine s' rfl rfl (AOps.n hC rfl (q' rfl (n' (S' (sg' 13 rfl (a0' rfl (a0' rfl (a0' rfl (a0' rfl (a0' rfl (a1' rfl (a1' rfl (a1' rfl ?_)))))))))))))
    refine a0' rfl (a1' rfl (a1' rfl (pO' rfl (pa' rfl (an' (n' ?_))))))
    refine ci' rfl hh (fun hh => ?_) (fun hh => ?_)
    · refine s' rfl rfl (q' rfl (n' (re' ?_)))
      obtain rfl := oi' hh
      exact ⟨_, _, [], rfl, .rfl, trivial, rfl, rfl, rfl, rfl⟩
    refine sk' (S' (s' rfl rfl (q' rfl (n' (AEx.block ?_)))))
    refine AEx.ofLoop ?_
    refine ALoop.wk ?_ (ih1 _ _ _ hh)
    exact ⟨⟨⟨.rfl, rfl⟩, ⟨⟨.rfl, rfl⟩, trivial⟩⟩, ⟨⟨rfl, .refl _, rfl⟩, trivial⟩, rfl⟩
  · intro g0 g1 ih0 ih1 e i res hh
    refine ALoop.unroll ?_
    refine S' (s' rfl rfl (q' rfl (q' rfl (q' rfl (qe' rfl trivial (ApiExpr.lenA _) (q' rfl (n' ?_)))))))
    refine ci' rfl hh (fun hh => ?_) (fun hh => ?_)
    · obtain ⟨x1, hx1, hh⟩ := bs' hh
      obtain ⟨x2, hx2, hh⟩ := bs' hh
      refine sk' (S' (AEx.block (s' rfl rfl (q' rfl (q' rfl (q' rfl (i' rfl (idx_nat hx1) (ApiExpr.idx hx1) rfl (q' rfl (AOps.c rfl rfl (ih0 _ _ hx2) (q' rfl (n' ?_)))))))))))
      refine ci' rfl hh (fun hh => ?_) (fun hh => ?_)
      · refine s' rfl rfl (q' rfl (n' (re' ?_)))
        obtain rfl := oi' hh
        exact ⟨_, _, [], rfl, .rfl, trivial, rfl, rfl, rfl, rfl⟩
      refine sk' (R' rfl rfl (q' rfl (q' rfl (q' rfl (n' ?_)))))
      refine ALoop.wk ?_ (ih1 _ _ _ hh)
      exact ⟨⟨⟨.rfl, rfl⟩, ⟨⟨.rfl, rfl⟩, trivial⟩⟩, ⟨⟨rfl, .refl _, rfl⟩, trivial⟩, rfl⟩
    refine ex' (s' rfl rfl (q' rfl (n' (re' ?_))))
    obtain rfl := oi' hh
    exact ⟨_, _, [], rfl, .rfl, trivial, rfl, rfl, rfl, rfl⟩
theorem ref10_exprNumbers_ok {e : ApiExpr} {res : Bool} (hh : ref10_exprNumbers e = some res) : ref10_exprNumbers_m e res := (ref10_exprNumbers_grp).1 _ _ hh
theorem ref10_exprNumbers_l1_ok {e : ApiExpr} {i : Int} {res : Bool} (hh : ref10_exprNumbers_l1 e i = some res) : ref10_exprNumbers_l1_m e i res := (ref10_exprNumbers_grp).2 _ _ _ hh
def ref10_verdict (s : Keyholeref10Size) (form : Bool) (names : Bool) (numbers : Bool) : Option Int :=
  if (bif (decide (s.nodes > 1024)) then true else (decide (s.depth > 12))) = true then
    some 4
  else
    if (!form) = true then
      some 1
    else
      if (!names) = true then
        some 7
      else
        if (!numbers) = true then
          some 3
        else
          some 0
abbrev ref10_verdict_m (s : Keyholeref10Size) (form : Bool) (names : Bool) (numbers : Bool) (res : Int) : Prop := ACall C 48 [.agg (Keyholeref10Size.cells s), .d (.bool form), .d (.bool names), .d (.bool numbers)] [] (fun x H' => H' = [] ∧ x = .d (.int .i64 res))
theorem ref10_verdict_ok {s : Keyholeref10Size} {form : Bool} {names : Bool} {numbers : Bool} {res : Int} (hh : ref10_verdict s form names numbers = some res) : ref10_verdict_m s form names numbers res := by
  unfold ref10_verdict at hh
  refine ACall.intro hC Tryz.func48 rfl rfl rfl ?_
  refine s' rfl rfl (AOps.n hC rfl (q' rfl (n' (S' (sg' 8 rfl (a0' rfl (a0' rfl (a0' rfl (a0' rfl (a0' rfl (a1' rfl (a1' rfl (po' rfl ?_)))))))))))))
  refine an' (n' ?_)
  refine ci' rfl hh (fun hh => ?_) (fun hh => ?_)
  · refine s' rfl rfl (q' rfl (n' (re' ?_)))
    obtain rfl := oi' hh
    exact ⟨_, _, [], rfl, .rfl, trivial, rfl, rfl, rfl, rfl⟩
  refine sk' (S' (s' rfl rfl (q' rfl (q' rfl (n' ?_)))))
  refine ci' rfl hh (fun hh => ?_) (fun hh => ?_)
  · refine s' rfl rfl (q' rfl (n' (re' ?_)))
    obtain rfl := oi' hh
    exact ⟨_, _, [], rfl, .rfl, trivial, rfl, rfl, rfl, rfl⟩
  refine sk' (S' (s' rfl rfl (q' rfl (q' rfl (n' ?_)))))
  refine ci' rfl hh (fun hh => ?_) (fun hh => ?_)
  · refine s' rfl rfl (q' rfl (n' (re' ?_)))
    obtain rfl := oi' hh
    exact ⟨_, _, [], rfl, .rfl, trivial, rfl, rfl, rfl, rfl⟩
  refine sk' (S' (s' rfl rfl (q' rfl (q' rfl (n' ?_)))))
  refine ci' rfl hh (fun hh => ?_) (fun hh => ?_)
  · refine s' rfl rfl (q' rfl (n' (re' ?_)))
    obtain rfl := oi' hh
    exact ⟨_, _, [], rfl, .rfl, trivial, rfl, rfl, rfl, rfl⟩
  refine sk' (s' rfl rfl (q' rfl (n' (re' ?_))))
  obtain rfl := oi' hh
  exact ⟨_, _, [], rfl, .rfl, trivial, rfl, rfl, rfl, rfl⟩
def ref10_FewExpr (e : ApiExpr) (most : Int) : Option Bool :=
  ref10_exprLeft e most >>= fun x1 =>
  some (decide (x1 ≥ 0))
abbrev ref10_FewExpr_m (e : ApiExpr) (most : Int) (res : Bool) : Prop := ACall C 15 [.agg (ApiExpr.cells e), .d (.int .i64 most)] [] (fun x H' => H' = [] ∧ x = .d (.bool res))
theorem ref10_FewExpr_ok {e : ApiExpr} {most : Int} {res : Bool} (hh : ref10_FewExpr e most = some res) : ref10_FewExpr_m e most res := by
  unfold ref10_FewExpr at hh
  refine ACall.intro hC Tryz.func15 rfl rfl rfl ?_
  obtain ⟨x1, hx1, hh⟩ := bs' hh
  refine s' rfl rfl (AOps.n hC rfl (q' rfl (n' (s' rfl rfl (q' rfl (q' rfl (AOps.c rfl rfl (ref10_exprLeft_ok hx1) (q' rfl (q' rfl (n' (re' ?_)))))))))))
  obtain rfl := oi' hh
  exact ⟨_, _, [], rfl, .rfl, trivial, rfl, rfl, rfl, rfl⟩
def ref10_CheckExpr (e : ApiExpr) : Option Int :=
  ref10_addExpr (Keyholeref10Size.mk 0 0) e true >>= fun x1 =>
  ref10_exprForm e >>= fun x2 =>
  ref10_exprNames e >>= fun x3 =>
  ref10_exprNumbers e >>= fun x4 =>
  ref10_verdict x1 x2 x3 x4 >>= fun x5 =>
  some x5
abbrev ref10_CheckExpr_m (e : ApiExpr) (res : Int) : Prop := ACall C 19 [.agg (ApiExpr.cells e)] [] (fun x H' => H' = [] ∧ x = .d (.int .i64 res))
theorem ref10_CheckExpr_ok {e : ApiExpr} {res : Int} (hh : ref10_CheckExpr e = some res) : ref10_CheckExpr_m e res := by
  unfold ref10_CheckExpr at hh
  refine ACall.intro hC Tryz.func19 rfl rfl rfl ?_
  obtain ⟨x1, hx1, hh⟩ := bs' hh
  obtain ⟨x2, hx2, hh⟩ := bs' hh
  obtain ⟨x3, hx3, hh⟩ := bs' hh
  obtain ⟨x4, hx4, hh⟩ := bs' hh
  obtain ⟨x5, hx5, hh⟩ := bs' hh
  refine s' rfl rfl (AOps.n hC rfl (q' rfl (n' (S' (AEx.draw hC 11 rfl rfl rfl (Q' rfl (Q' rfl (AQ.c rfl rfl (ref10_addExpr_ok hx1) (Q' rfl (AQ.c rfl rfl (ref10_exprForm_ok hx2) (Q' rfl (AQ.c rfl rfl (ref10_exprNames_ok hx3) (Q' rfl ?_)))))))))))))
  refine AQ.c rfl rfl (ref10_exprNumbers_ok hx4) (AQ.c rfl rfl (ref10_verdict_ok hx5) (Q' rfl (Qn' (n' (re' ?_)))))
  obtain rfl := oi' hh
  exact ⟨_, _, [], rfl, .rfl, trivial, rfl, rfl, rfl, rfl⟩
def ref10_sign (o : Int) : Option Str :=
  idx [[43], [45], [42], [47], [37], [61, 61], [33, 61], [60], [60, 61], [62], [62, 61], [38, 38], [124, 124]] (IntKind.i64.wrap (o - 8)) >>= fun x1 =>
  some x1
abbrev ref10_sign_m (o : Int) (res : Str) : Prop := ACall C 99 [.d (.int .i64 o)] [] (fun x H' => H' = [] ∧ x = .d (.str res))
theorem ref10_sign_ok {o : Int} {res : Str} (hh : ref10_sign o = some res) : ref10_sign_m o res := by
  unfold ref10_sign at hh
  refine ACall.intro hC Tryz.func99 rfl rfl rfl ?_
  obtain ⟨x1, hx1, hh⟩ := bs' hh
  refine s' rfl rfl (q' rfl (n' (s' rfl rfl (AOps.be hC rfl (estr.rows_map [[43], [45], [42], [47], [37], [61, 61], [33, 61], [60], [60, 61], [62], [62, 61], [38, 38], [124, 124]]).symm (q' rfl (n' (s' rfl rfl (q' rfl (q' rfl (q' rfl (i' rfl (idx_nat hx1) (estr.idx hx1) rfl (q' rfl (q' rfl ?_)))))))))))))
  refine n' (re' ?_)
  obtain rfl := oi' hh
  exact ⟨_, _, [], rfl, .rfl, trivial, rfl, rfl, rfl, rfl⟩
def law10_SyntaxApart (a : ApiExpr) (b : ApiExpr) : Option Bool :=
  law10_known >>= fun x1 =>
  if (!x1) = true then
    some false
  else
    ref10_FewExpr a 200 >>= fun x2 =>
    (if (!(!x2)) = true then ref10_FewExpr b 200 else some default) >>= fun x3 =>
    if (bif (!x2) then true else (!x3)) = true then
      some true
    else
      syntax_PrintExpr a >>= fun x4 =>
      syntax_PrintExpr b >>= fun x5 =>
      ref10_CheckExpr a >>= fun x6 =>
      (if (!(x4.2 != x6)) = true then ref10_CheckExpr b else some default) >>= fun x7 =>
      if (bif (x4.2 != x6) then true else (x5.2 != x7)) = true then
        some (bif (x4.2 == 5) then true else (x5.2 == 5))
      else
        (if (!(bif (x4.2 != 0) then true else (x5.2 != 0))) = true then ref10_EqualExpr a b else some default) >>= fun x8 =>
        some (bif (bif (x4.2 != 0) then true else (x5.2 != 0)) then true else ((x4.1 == x5.1) == x8))
abbrev law10_SyntaxApart_m (a : ApiExpr) (b : ApiExpr) (res : Bool) : Prop := ACall C 6 [.agg (ApiExpr.cells a), .agg (ApiExpr.cells b)] [] (fun x H' => H' = [] ∧ x = .d (.bool res))
theorem law10_SyntaxApart_ok {a : ApiExpr} {b : ApiExpr} {res : Bool} (hh : law10_SyntaxApart a b = some res) : law10_SyntaxApart_m a b res := by
  unfold law10_SyntaxApart at hh
  refine ACall.intro hC Tryz.func6 rfl rfl rfl ?_
  obtain ⟨x1, hx1, hh⟩ := bs' hh
  refine s' rfl rfl (AOps.n hC rfl (AOps.n hC rfl (q' rfl (n' (S' (s' rfl rfl (AOps.c rfl rfl (law10_known_ok hx1) (q' rfl (n' ?_)))))))))
  refine ci' rfl hh (fun hh => ?_) (fun hh => ?_)
  · refine s' rfl rfl (q' rfl (n' (re' ?_)))
    obtain rfl := oi' hh
    exact ⟨_, _, [], rfl, .rfl, trivial, rfl, rfl, rfl, rfl⟩
  obtain ⟨x2, hx2, hh⟩ := bs' hh
  obtain ⟨x3, hx3, hh⟩ := bs' hh
  refine sk' (S' (sg' 8 rfl (a0' rfl (AG.c rfl rfl (fun _ => trivial) (fun _ => ref10_FewExpr_ok hx2) (a0' rfl (a0' rfl (a0' rfl (AG.c rfl rfl (fun hg => ⟨hg, trivial⟩) (fun hw => ref10_FewExpr_ok (if_t hw hx3)) (a1' rfl (po' rfl (an' (n' ?_))))))))))))
  refine ci' rfl hh (fun hh => ?_) (fun hh => ?_)
  · refine s' rfl rfl (q' rfl (n' (re' ?_)))
    obtain rfl := oi' hh
    exact ⟨_, _, [], rfl, .rfl, trivial, rfl, rfl, rfl, rfl⟩
  obtain ⟨x4, hx4, hh⟩ := bs' hh
  obtain ⟨x5, hx5, hh⟩ := bs' hh
  obtain ⟨x6, hx6, hh⟩ := bs' hh
  obtain ⟨x7, hx7, hh⟩ := bs' hh
  refine sk' (s' rfl rfl (q' rfl (AOps.c rfl rfl (syntax_PrintExpr_ok hx4) (q' rfl (q' rfl (q' rfl (q' rfl (q' rfl (n' (s' rfl rfl (q' rfl (AOps.c rfl rfl (syntax_PrintExpr_ok hx5) (q' rfl ?_)))))))))))))
  iterate 4 refine q' rfl ?_
  refine n' (S' (sg' 10 rfl (a0' rfl (a0' rfl (AG.c rfl rfl (fun _ => trivial) (fun _ => ref10_CheckExpr_ok hx6) (a0' rfl (a0' rfl (a0' rfl (a0' rfl (AG.c rfl rfl (fun hg => ⟨hg, trivial⟩) (fun hw => ref10_CheckExpr_ok (if_t hw hx7)) (a2' rfl (po' rfl (an' ?_)))))))))))))
  refine n' ?_
  refine ci' rfl hh (fun hh => ?_) (fun hh => ?_)
  · refine sg' 7 rfl (a0' rfl (a0' rfl (a0' rfl (a0' rfl (a1' rfl (po' rfl (a0' rfl (an' (n' (re' ?_))))))))))
    obtain rfl := oi' hh
    exact ⟨_, _, [], rfl, .rfl, trivial, rfl, rfl, rfl, rfl⟩
  obtain ⟨x8, hx8, hh⟩ := bs' hh
  refine sk' (sg' 16 rfl (a0' rfl (a0' rfl (a0' rfl (a0' rfl (a1' rfl (po' rfl (a0' rfl (a0' rfl (a0' rfl (a2' rfl (a0' rfl (a0' rfl ?_)))))))))))))
  refine AG.c rfl rfl (fun hg => ⟨hg, hg, trivial⟩) (fun hw => ref10_EqualExpr_ok (if_t hw hx8)) (a2' rfl (po' rfl (a0' rfl (an' (n' (re' ?_))))))
  obtain rfl := oi' hh
  exact ⟨_, _, [], rfl, .rfl, trivial, rfl, rfl, rfl, rfl⟩
end Go.Proofs.YtmilgoloagbmpaaGreatDoor

