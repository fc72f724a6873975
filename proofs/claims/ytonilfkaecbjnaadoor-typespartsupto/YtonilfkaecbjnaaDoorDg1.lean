/- What the functions compute, and that they do: printed by gen.py. -/
import Derived.Test.YtonilfkaecbjnaaDoorDg0
set_option maxRecDepth 100000
set_option maxHeartbeats 4000000
set_option linter.unusedVariables false
namespace Go.Proofs.YtonilfkaecbjnaaDoor
open Go.Am
def syntax_report_code (syntaxReport : SyntaxReport) : Option Int :=
  if (bif (decide (syntaxReport.nodes > 1024)) then true else (decide (syntaxReport.depth > 12))) = true then
    some 4
  else
    if syntaxReport.badForm = true then
      some 1
    else
      if syntaxReport.badName = true then
        some 7
      else
        if syntaxReport.badNumber = true then
          some 3
        else
          some 0
theorem syntax_report_code_ok {syntaxReport : SyntaxReport} {res : Int} (hh : syntax_report_code syntaxReport = some res) : ACall C 103 [.ref 0 0] [.row (SyntaxReport.cells syntaxReport) 123] (fun x H' => H' = [.row (SyntaxReport.cells syntaxReport) 123] ∧ x = .d (.int .i64 res)) := by
  unfold syntax_report_code at hh
  refine ACall.intro hC Tryd.func103 rfl rfl rfl ?_
  refine AEx.seq ?_
  refine AEx.regionN rfl rfl ?_
  refine AOps.q hC rfl trivial ?_
  refine AOps.nil ?_
  refine AEx.seq ?_
  refine AEx.block ?_
  refine AEx.seq ?_
  refine AEx.regionG 13 rfl ?_
  refine AG.q hC rfl ?_ ?_
  · intro hg; refine And.intro ?_ ?_ <;> repeat' (first | exact True.intro | exact hg | exact and_l hg | exact and_l (and_l hg) | refine And.intro ?_ ?_)
  refine AG.q hC rfl ?_ ?_
  · intro hg; refine And.intro ?_ ?_ <;> repeat' (first | exact True.intro | exact hg | exact and_l hg | exact and_l (and_l hg) | refine And.intro ?_ ?_)
  refine AG.q hC rfl ?_ ?_
  · intro hg; refine And.intro ?_ ?_ <;> repeat' (first | exact True.intro | exact hg | exact and_l hg | exact and_l (and_l hg) | refine And.intro ?_ ?_)
  refine AG.q hC rfl ?_ ?_
  · intro hg; refine And.intro ?_ ?_ <;> repeat' (first | exact True.intro | exact hg | exact and_l hg | exact and_l (and_l hg) | refine And.intro ?_ ?_)
  refine AG.q hC rfl ?_ ?_
  · intro hg; refine And.intro ?_ ?_ <;> repeat' (first | exact True.intro | exact hg | exact and_l hg | exact and_l (and_l hg) | refine And.intro ?_ ?_)
  refine AG.q hC rfl ?_ ?_
  · intro hg; refine And.intro ?_ ?_ <;> repeat' (first | exact True.intro | exact hg | exact and_l hg | exact and_l (and_l hg) | refine And.intro ?_ ?_)
  refine AG.q hC rfl ?_ ?_
  · intro hg; refine And.intro ?_ ?_ <;> repeat' (first | exact True.intro | exact hg | exact and_l hg | exact and_l (and_l hg) | refine And.intro ?_ ?_)
  refine AG.q hC rfl ?_ ?_
  · intro hg; refine And.intro ?_ ?_ <;> repeat' (first | exact True.intro | exact hg | exact and_l hg | exact and_l (and_l hg) | refine And.intro ?_ ?_)
  refine AG.q hC rfl ?_ ?_
  · intro hg; refine And.intro ?_ ?_ <;> repeat' (first | exact True.intro | exact hg | exact and_l hg | exact and_l (and_l hg) | refine And.intro ?_ ?_)
  refine AG.q hC rfl ?_ ?_
  · intro hg; refine And.intro ?_ ?_ <;> repeat' (first | exact True.intro | exact hg | exact and_l hg | exact and_l (and_l hg) | refine And.intro ?_ ?_)
  refine AG.q hC rfl ?_ ?_
  · intro hg; refine And.intro ?_ ?_ <;> repeat' (first | exact True.intro | exact hg | exact and_l hg | exact and_l (and_l hg) | refine And.intro ?_ ?_)
  refine AG.p hC rfl ?_ ?_
  · intro hg; refine And.intro ?_ (And.intro ?_ ?_) <;> first | exact True.intro | exact fun _ => True.intro | exact And.intro hg True.intro | exact fun h' => And.intro (wb_f h') True.intro | exact fun h' => And.intro (wb_t h') True.intro | exact fun h' => And.intro (and_f hg h') True.intro | exact fun h' => And.intro (and_t hg h') True.intro | exact And.intro (and_l hg) True.intro
  refine AG.q hC rfl ?_ ?_
  · intro hg; refine And.intro ?_ ?_ <;> repeat' (first | exact True.intro | exact hg | exact and_l hg | exact and_l (and_l hg) | refine And.intro ?_ ?_)
  refine AG.nil ?_
  refine AOps.nil ?_
  refine AEx.cond rfl (fun hb => ?_) (fun hb => ?_)
  · replace hh := if_t hb hh
    refine AEx.seq ?_
    refine AEx.regionN rfl rfl ?_
    refine AOps.q hC rfl trivial ?_
    refine AOps.nil ?_
    refine AEx.ret ?_
    obtain rfl := Option.some.inj hh
    exact ⟨_, _, [.row (SyntaxReport.cells syntaxReport) 123], rfl, .rfl, ⟨⟨rfl, .refl _, rfl⟩, trivial⟩, rfl, rfl, rfl, rfl⟩
  · replace hh := if_f hb hh
    refine AEx.seq ?_
    refine AEx.regionN rfl rfl ?_
    iterate 5 refine AOps.q hC rfl trivial ?_
    refine AOps.nil ?_
    refine AEx.cond rfl (fun hb => ?_) (fun hb => ?_)
    · replace hh := if_t hb hh
      refine AEx.seq ?_
      refine AEx.regionN rfl rfl ?_
      refine AOps.q hC rfl trivial ?_
      refine AOps.nil ?_
      refine AEx.ret ?_
      obtain rfl := Option.some.inj hh
      exact ⟨_, _, [.row (SyntaxReport.cells syntaxReport) 123], rfl, .rfl, ⟨⟨rfl, .refl _, rfl⟩, trivial⟩, rfl, rfl, rfl, rfl⟩
    · replace hh := if_f hb hh
      refine AEx.seq ?_
      refine AEx.regionN rfl rfl ?_
      iterate 5 refine AOps.q hC rfl trivial ?_
      refine AOps.nil ?_
      refine AEx.cond rfl (fun hb => ?_) (fun hb => ?_)
      · replace hh := if_t hb hh
        refine AEx.seq ?_
        refine AEx.regionN rfl rfl ?_
        refine AOps.q hC rfl trivial ?_
        refine AOps.nil ?_
        refine AEx.ret ?_
        obtain rfl := Option.some.inj hh
        exact ⟨_, _, [.row (SyntaxReport.cells syntaxReport) 123], rfl, .rfl, ⟨⟨rfl, .refl _, rfl⟩, trivial⟩, rfl, rfl, rfl, rfl⟩
      · replace hh := if_f hb hh
        refine AEx.seq ?_
        refine AEx.regionN rfl rfl ?_
        iterate 5 refine AOps.q hC rfl trivial ?_
        refine AOps.nil ?_
        refine AEx.cond rfl (fun hb => ?_) (fun hb => ?_)
        · replace hh := if_t hb hh
          refine AEx.seq ?_
          refine AEx.regionN rfl rfl ?_
          refine AOps.q hC rfl trivial ?_
          refine AOps.nil ?_
          refine AEx.ret ?_
          obtain rfl := Option.some.inj hh
          exact ⟨_, _, [.row (SyntaxReport.cells syntaxReport) 123], rfl, .rfl, ⟨⟨rfl, .refl _, rfl⟩, trivial⟩, rfl, rfl, rfl, rfl⟩
        · replace hh := if_f hb hh
          refine AEx.skip ?_
          refine AEx.seq ?_
          refine AEx.regionN rfl rfl ?_
          refine AOps.q hC rfl trivial ?_
          refine AOps.nil ?_
          refine AEx.ret ?_
          obtain rfl := Option.some.inj hh
          exact ⟨_, _, [.row (SyntaxReport.cells syntaxReport) 123], rfl, .rfl, ⟨⟨rfl, .refl _, rfl⟩, trivial⟩, rfl, rfl, rfl, rfl⟩
def syntax_CheckType (t : ApiType) : Option Int :=
  syntax_report_typ t 1 (SyntaxReport.mk 0 0 false false false) >>= fun x1 =>
  syntax_report_code x1 >>= fun x2 =>
  some x2
theorem syntax_CheckType_ok {t : ApiType} {res : Int} (hh : syntax_CheckType t = some res) : ACall C 58 [.agg (ApiType.cells t)] [] (fun x H' => H' = [] ∧ x = .d (.int .i64 res)) := by
  unfold syntax_CheckType at hh
  refine ACall.intro hC Tryd.func58 rfl rfl rfl ?_
  refine AEx.seq ?_
  refine AEx.regionN rfl rfl ?_
  refine AOps.n hC rfl ?_
  refine AOps.q hC rfl trivial ?_
  refine AOps.nil ?_
  refine AEx.seq ?_
  refine AEx.regionN rfl rfl ?_
  refine AOps.q hC rfl trivial ?_
  refine AOps.n hC rfl ?_
  refine AOps.q hC rfl trivial ?_
  refine AOps.nil ?_
  refine AEx.seq ?_
  refine AEx.regionN rfl rfl ?_
  iterate 2 refine AOps.q hC rfl trivial ?_
  obtain ⟨x1, hx1, hh⟩ := bind_some hh
  refine AOps.g [1] rfl (syntax_report_typ_ok hx1) ⟨.rfl, ⟨.rfl, ⟨.rfl, trivial⟩⟩⟩ rfl ⟨rfl, trivial⟩ rfl rfl ?_
  refine AOps.nil ?_
  refine AEx.seq ?_
  refine AEx.regionN rfl rfl ?_
  refine AOps.q hC rfl trivial ?_
  obtain ⟨x2, hx2, hh⟩ := bind_some hh
  refine AOps.g [1] rfl (syntax_report_code_ok hx2) ⟨.rfl, trivial⟩ rfl ⟨rfl, trivial⟩ rfl rfl ?_
  refine AOps.q hC rfl trivial ?_
  refine AOps.nil ?_
  refine AEx.ret ?_
  obtain rfl := Option.some.inj hh
  exact ⟨_, _, [], rfl, .rfl, trivial, rfl, rfl, rfl, rfl⟩
mutual
def types_replaced (t : ApiType) (m : List (Str × ApiType)) : Option (ApiType × Bool) :=
  if (t.Kind == 4) = true then
    some (mgt t.Name m) >>= fun x1 =>
    if (!x1.isSome) = true then
      some ((ApiType.mk 0 0 0 0 [] [] []), false)
    else
      types_replaced_j1 m (x1.getD ApiType.zero)
  else
    types_replaced_j1 m t
  partial_fixpoint
def types_replaced_j1 (m : List (Str × ApiType)) (o1 : ApiType) : Option (ApiType × Bool) :=
  slices_Clone_string_string o1.Names >>= fun x2 =>
  types_replaced_l2 m o1 x2 [] 0
  partial_fixpoint
def types_replaced_l2 (m : List (Str × ApiType)) (o1 : ApiType) (x2 : List Str) (o3_Of : List ApiType) (v36 : Int) : Option (ApiType × Bool) :=
  if (decide (v36 < ((o1.Of).length : Int))) = true then
    idx o1.Of v36 >>= fun x3 =>
    types_replaced x3 m >>= fun x4 =>
    if (!x4.2) = true then
      some ((ApiType.mk 0 0 0 0 [] [] []), false)
    else
      if (decide ((o3_Of.length + 1) * 97 ≤ 140737488355328)) = true then
        types_replaced_l2 m o1 x2 (o3_Of ++ [x4.1]) (IntKind.i64.wrap (v36 + 1))
      else none
  else
    some ((ApiType.mk o1.Kind o1.Low o1.High o1.Size o1.Name x2 o3_Of), true)
  partial_fixpoint
end
theorem types_replaced_grp (m : List (Str × ApiType)) : (∀ (t : ApiType) (res : ApiType × Bool), types_replaced t m = some res → ACall C 68 [.mp 0, .agg (ApiType.cells t)] [.map (ApiType.ents m)] (fun x H' => H' = [.map (ApiType.ents m)] ∧ x = .tup [.agg (ApiType.cells res.1), .d (.bool res.2)])) ∧
    (∀ (o1 : ApiType) (res : ApiType × Bool), types_replaced_j1 m o1 = some res → AEx (Fx.mk C 57 1) (sr (sr (bodyOf Tryd.f68))) (mkEnv [(0, .mp 0), (3, .ref 1 0), (4, .ref 2 0)]) [.map (ApiType.ents m), .row (ApiType.cells o1) 27, .row [.d (.int .i64 0), .d (.int .i64 0), .d (.int .i64 0), .d (.int .i64 0), .d (.str []), .full (estr.rows []), .full (ApiType.rows [])] 27] (Am.Ends (Fx.mk C 57 1) Tryd.f68.results.toList (fun x H' => H' = [.map (ApiType.ents m)] ∧ x = .tup [.agg (ApiType.cells res.1), .d (.bool res.2)]))) ∧
    (∀ (o1 : ApiType) (x2 : List Str) (o3_Of : List ApiType) (v36 : Int) (res : ApiType × Bool), types_replaced_l2 m o1 x2 o3_Of v36 = some res → ALoop (Fx.mk C 57 1) (lo (bk (sr (sl (sr (sr (sr (sr (sr (bodyOf Tryd.f68)))))))))) (mkEnv [(0, .mp 0), (4, .ref 2 0), (8, .ref 3 0), (34, .d (.sl (ApiType.rows o1.Of))), (35, .d (.int .i64 ((o1.Of).length : Int))), (36, .d (.int .i64 v36))]) [.map (ApiType.ents m), .dead, .row [.d (.int .i64 0), .d (.int .i64 0), .d (.int .i64 0), .d (.int .i64 0), .d (.str []), .full (estr.rows []), .full (ApiType.rows [])] 27, .row [.d (.int .i64 o1.Kind), .d (.int .i64 o1.Low), .d (.int .i64 o1.High), .d (.int .i64 o1.Size), .d (.str o1.Name), .d (.sl (estr.rows x2)), .osl 4 (ApiType.rows o3_Of)] 27, .tok 27 7] (Am.InBlock 0 (Am.Then (Fx.mk C 57 1) (sr (sr (sr (sr (sr (sr (bodyOf Tryd.f68))))))) (Am.Ends (Fx.mk C 57 1) Tryd.f68.results.toList (fun x H' => H' = [.map (ApiType.ents m)] ∧ x = .tup [.agg (ApiType.cells res.1), .d (.bool res.2)]))))) := by
  refine types_replaced.mutual_partial_correctness m
    (fun t res => ACall C 68 [.mp 0, .agg (ApiType.cells t)] [.map (ApiType.ents m)] (fun x H' => H' = [.map (ApiType.ents m)] ∧ x = .tup [.agg (ApiType.cells res.1), .d (.bool res.2)]))
    (fun o1 res => AEx (Fx.mk C 57 1) (sr (sr (bodyOf Tryd.f68))) (mkEnv [(0, .mp 0), (3, .ref 1 0), (4, .ref 2 0)]) [.map (ApiType.ents m), .row (ApiType.cells o1) 27, .row [.d (.int .i64 0), .d (.int .i64 0), .d (.int .i64 0), .d (.int .i64 0), .d (.str []), .full (estr.rows []), .full (ApiType.rows [])] 27] (Am.Ends (Fx.mk C 57 1) Tryd.f68.results.toList (fun x H' => H' = [.map (ApiType.ents m)] ∧ x = .tup [.agg (ApiType.cells res.1), .d (.bool res.2)])))
    (fun o1 x2 o3_Of v36 res => ALoop (Fx.mk C 57 1) (lo (bk (sr (sl (sr (sr (sr (sr (sr (bodyOf Tryd.f68)))))))))) (mkEnv [(0, .mp 0), (4, .ref 2 0), (8, .ref 3 0), (34, .d (.sl (ApiType.rows o1.Of))), (35, .d (.int .i64 ((o1.Of).length : Int))), (36, .d (.int .i64 v36))]) [.map (ApiType.ents m), .dead, .row [.d (.int .i64 0), .d (.int .i64 0), .d (.int .i64 0), .d (.int .i64 0), .d (.str []), .full (estr.rows []), .full (ApiType.rows [])] 27, .row [.d (.int .i64 o1.Kind), .d (.int .i64 o1.Low), .d (.int .i64 o1.High), .d (.int .i64 o1.Size), .d (.str o1.Name), .d (.sl (estr.rows x2)), .osl 4 (ApiType.rows o3_Of)] 27, .tok 27 7] (Am.InBlock 0 (Am.Then (Fx.mk C 57 1) (sr (sr (sr (sr (sr (sr (bodyOf Tryd.f68))))))) (Am.Ends (Fx.mk C 57 1) Tryd.f68.results.toList (fun x H' => H' = [.map (ApiType.ents m)] ∧ x = .tup [.agg (ApiType.cells res.1), .d (.bool res.2)]))))) ?_ ?_ ?_
  · intro g1 ih1 t res hh
    refine ACall.intro hC Tryd.func68 rfl rfl rfl ?_
    refine AEx.seq ?_
    refine AEx.regionN rfl rfl ?_
    refine AOps.n hC rfl ?_
    refine AOps.nf hC rfl ?_
    refine AOps.q hC rfl trivial ?_
    refine AOps.nil ?_
    refine AEx.seq ?_
    refine AEx.seq ?_
    refine AEx.regionN rfl rfl ?_
    iterate 3 refine AOps.q hC rfl trivial ?_
    refine AOps.nil ?_
    refine AEx.cond rfl (fun hb => ?_) (fun hb => ?_)
    · replace hh := if_t hb hh
      refine AEx.seq ?_
      refine AEx.regionN rfl rfl ?_
      iterate 3 refine AOps.q hC rfl trivial ?_
      obtain ⟨x1, hx1, hh⟩ := bind_some hh
      refine AOps.me hC rfl (ApiType.lkT hx1) ?_
      iterate 3 refine AOps.q hC rfl trivial ?_
      refine AOps.nf hC rfl ?_
      refine AOps.s hC rfl ?_
      refine AOps.q hC rfl trivial ?_
      refine AOps.nil ?_
      refine AEx.seq ?_
      refine AEx.seq ?_
      refine AEx.regionN rfl rfl ?_
      iterate 2 refine AOps.q hC rfl trivial ?_
      refine AOps.nil ?_
      refine AEx.cond rfl (fun hb => ?_) (fun hb => ?_)
      · replace hh := if_t hb hh
        refine AEx.seq ?_
        refine AEx.regionN rfl rfl ?_
        refine AOps.q hC rfl trivial ?_
        refine AOps.s hC rfl ?_
        refine AOps.q hC rfl trivial ?_
        refine AOps.nil ?_
        refine AEx.ret ?_
        obtain rfl := Option.some.inj hh
        exact ⟨_, _, [.map (ApiType.ents m)], rfl, .rfl, ⟨rfl, trivial⟩, rfl, rfl, rfl, rfl⟩
      · replace hh := if_f hb hh
        refine AEx.skip ?_
        refine AEx.regionN rfl rfl ?_
        refine AOps.q hC rfl trivial ?_
        refine AOps.s hC rfl ?_
        refine AOps.nil ?_
        refine AEx.wk ?_ (ih1 _ _ hh)
        exact ⟨⟨⟨.rfl, rfl⟩, ⟨⟨.rfl, rfl⟩, ⟨⟨.rfl, rfl⟩, trivial⟩⟩⟩, ⟨rfl, ⟨⟨rfl, .refl _, rfl⟩, ⟨⟨rfl, .refl _, rfl⟩, trivial⟩⟩⟩, rfl⟩
    · replace hh := if_f hb hh
      refine AEx.skip ?_
      refine AEx.wk ?_ (ih1 _ _ hh)
      exact ⟨⟨⟨.rfl, rfl⟩, ⟨⟨.rfl, rfl⟩, ⟨⟨.rfl, rfl⟩, trivial⟩⟩⟩, ⟨rfl, ⟨⟨rfl, .refl _, rfl⟩, ⟨⟨rfl, .refl _, rfl⟩, trivial⟩⟩⟩, rfl⟩
  · intro g2 ih2 o1 res hh
    refine AEx.seq ?_
    refine AEx.regionN rfl rfl ?_
    refine AOps.q hC rfl trivial ?_
    refine AOps.nf hC rfl ?_
    refine AOps.s hC rfl ?_
    refine AOps.nil ?_
    refine AEx.seq ?_
    refine AEx.regionN rfl rfl ?_
    iterate 2 refine AOps.q hC rfl trivial ?_
    obtain ⟨x2, hx2, hh⟩ := bind_some hh
    refine AOps.c rfl rfl (slices_Clone_string_string_ok hx2) ?_
    refine AOps.q hC rfl trivial ?_
    refine AOps.s hC rfl ?_
    refine AOps.nil ?_
    refine AEx.seq ?_
    refine AEx.regionN rfl rfl ?_
    refine AOps.q hC rfl trivial ?_
    refine AOps.s hC rfl ?_
    refine AOps.tokC 3 6 27 7 rfl rfl rfl rfl rfl ?_
    refine AOps.nil ?_
    refine AEx.seq ?_
    refine AEx.seq ?_
    refine AEx.regionN rfl rfl ?_
    iterate 2 refine AOps.q hC rfl trivial ?_
    refine AOps.qe hC rfl trivial (ApiType.lenA _) ?_
    refine AOps.q hC rfl trivial ?_
    refine AOps.nil ?_
    refine AEx.block ?_
    refine AEx.ofLoop ?_
    refine ALoop.wk ?_ (ih2 _ _ _ _ _ hh)
    exact ⟨⟨⟨.rfl, rfl⟩, ⟨⟨.rfl, rfl⟩, ⟨⟨.rfl, rfl⟩, ⟨⟨.rfl, rfl⟩, ⟨⟨.rfl, rfl⟩, ⟨⟨.rfl, rfl⟩, trivial⟩⟩⟩⟩⟩⟩, ⟨rfl, ⟨trivial, ⟨⟨rfl, .refl _, rfl⟩, ⟨⟨rfl, .refl _, rfl⟩, ⟨rfl, trivial⟩⟩⟩⟩⟩, rfl⟩
  · intro g0 g2 ih0 ih2 o1 x2 o3_Of v36 res hh
    refine ALoop.unroll ?_
    refine AEx.seq ?_
    refine AEx.regionN rfl rfl ?_
    refine AOps.q hC rfl trivial ?_
    refine AOps.nil ?_
    refine AEx.seq ?_
    refine AEx.cond rfl (fun hb => ?_) (fun hb => ?_)
    · replace hh := if_t hb hh
      refine AEx.skip ?_
      refine AEx.seq ?_
      refine AEx.block ?_
      refine AEx.seq ?_
      refine AEx.regionN rfl rfl ?_
      obtain ⟨x3, hx3, hh⟩ := bind_some hh
      refine AOps.i hC rfl (idx_nat hx3) (ApiType.idx hx3) rfl ?_
      refine AOps.q hC rfl trivial ?_
      refine AOps.nf hC rfl ?_
      refine AOps.s hC rfl ?_
      refine AOps.nil ?_
      refine AEx.seq ?_
      refine AEx.regionN rfl rfl ?_
      iterate 2 refine AOps.q hC rfl trivial ?_
      obtain ⟨x4, hx4, hh⟩ := bind_some hh
      refine AOps.g [0] rfl (ih0 _ _ hx4) ⟨.rfl, ⟨.rfl, trivial⟩⟩ rfl ⟨rfl, trivial⟩ rfl rfl ?_
      iterate 3 refine AOps.q hC rfl trivial ?_
      refine AOps.nf hC rfl ?_
      refine AOps.s hC rfl ?_
      refine AOps.q hC rfl trivial ?_
      refine AOps.nil ?_
      refine AEx.seq ?_
      refine AEx.seq ?_
      refine AEx.regionN rfl rfl ?_
      iterate 2 refine AOps.q hC rfl trivial ?_
      refine AOps.nil ?_
      refine AEx.cond rfl (fun hb => ?_) (fun hb => ?_)
      · replace hh := if_t hb hh
        refine AEx.seq ?_
        refine AEx.regionN rfl rfl ?_
        refine AOps.q hC rfl trivial ?_
        refine AOps.s hC rfl ?_
        refine AOps.q hC rfl trivial ?_
        refine AOps.nil ?_
        refine AEx.ret ?_
        obtain rfl := Option.some.inj hh
        exact ⟨_, _, [.map (ApiType.ents m)], rfl, .rfl, ⟨rfl, trivial⟩, rfl, rfl, rfl, rfl⟩
      · replace hh := if_f hb hh
        refine AEx.skip ?_
        refine AEx.regionN rfl rfl ?_
        iterate 3 refine AOps.q hC rfl trivial ?_
        refine AOps.be hC rfl (ApiType.rows_map [x4.1]).symm ?_
        obtain ⟨c4, hh⟩ := asrt_some hh
        refine AOps.ap hC rfl (rs := ApiType.rows (o3_Of ++ [x4.1])) (ApiType.app o3_Of [x4.1]) (ApiType.sz o3_Of) (ApiType.sz [x4.1]) (room_of (ApiType.len o3_Of) (ApiType.len [x4.1]) c4) ?_
        refine AOps.q hC rfl trivial ?_
        refine AOps.s hC rfl ?_
        refine AOps.nil ?_
        refine AEx.regionN rfl rfl ?_
        iterate 2 refine AOps.q hC rfl trivial ?_
        refine AOps.nil ?_
        refine ALoop.wk ?_ (ih2 _ _ _ _ _ hh)
        exact ⟨⟨⟨.rfl, rfl⟩, ⟨⟨.rfl, rfl⟩, ⟨⟨.rfl, rfl⟩, ⟨⟨.rfl, rfl⟩, ⟨⟨.rfl, rfl⟩, ⟨⟨.rfl, rfl⟩, trivial⟩⟩⟩⟩⟩⟩, ⟨rfl, ⟨trivial, ⟨⟨rfl, .refl _, rfl⟩, ⟨⟨rfl, .refl _, rfl⟩, ⟨rfl, trivial⟩⟩⟩⟩⟩, rfl⟩
    · replace hh := if_f hb hh
      refine AEx.exit ?_
      refine AEx.seq ?_
      refine AEx.regionN rfl rfl ?_
      refine AOps.q hC rfl trivial ?_
      refine AOps.s hC rfl ?_
      refine AOps.q hC rfl trivial ?_
      refine AOps.nil ?_
      refine AEx.ret ?_
      obtain rfl := Option.some.inj hh
      exact ⟨_, .tup [.agg [.d (.int .i64 o1.Kind), .d (.int .i64 o1.Low), .d (.int .i64 o1.High), .d (.int .i64 o1.Size), .d (.str o1.Name), .d (.sl (estr.rows x2)), .d (.sl (ApiType.rows o3_Of))], .d (.bool true)], [.map (ApiType.ents m)], rfl, (.tupL ⟨(.aggL ⟨.rfl, ⟨.rfl, ⟨.rfl, ⟨.rfl, ⟨.rfl, ⟨.rfl, ⟨.osl, trivial⟩⟩⟩⟩⟩⟩⟩), ⟨.rfl, trivial⟩⟩), ⟨rfl, trivial⟩, rfl, rfl, rfl, rfl⟩
theorem types_replaced_ok {t : ApiType} {m : List (Str × ApiType)} {res : ApiType × Bool} (hh : types_replaced t m = some res) : ACall C 68 [.mp 0, .agg (ApiType.cells t)] [.map (ApiType.ents m)] (fun x H' => H' = [.map (ApiType.ents m)] ∧ x = .tup [.agg (ApiType.cells res.1), .d (.bool res.2)]) := (types_replaced_grp m).1 _ _ hh
theorem types_replaced_j1_ok {m : List (Str × ApiType)} {o1 : ApiType} {res : ApiType × Bool} (hh : types_replaced_j1 m o1 = some res) : AEx (Fx.mk C 57 1) (sr (sr (bodyOf Tryd.f68))) (mkEnv [(0, .mp 0), (3, .ref 1 0), (4, .ref 2 0)]) [.map (ApiType.ents m), .row (ApiType.cells o1) 27, .row [.d (.int .i64 0), .d (.int .i64 0), .d (.int .i64 0), .d (.int .i64 0), .d (.str []), .full (estr.rows []), .full (ApiType.rows [])] 27] (Am.Ends (Fx.mk C 57 1) Tryd.f68.results.toList (fun x H' => H' = [.map (ApiType.ents m)] ∧ x = .tup [.agg (ApiType.cells res.1), .d (.bool res.2)])) := (types_replaced_grp m).2.1 _ _ hh
theorem types_replaced_l2_ok {m : List (Str × ApiType)} {o1 : ApiType} {x2 : List Str} {o3_Of : List ApiType} {v36 : Int} {res : ApiType × Bool} (hh : types_replaced_l2 m o1 x2 o3_Of v36 = some res) : ALoop (Fx.mk C 57 1) (lo (bk (sr (sl (sr (sr (sr (sr (sr (bodyOf Tryd.f68)))))))))) (mkEnv [(0, .mp 0), (4, .ref 2 0), (8, .ref 3 0), (34, .d (.sl (ApiType.rows o1.Of))), (35, .d (.int .i64 ((o1.Of).length : Int))), (36, .d (.int .i64 v36))]) [.map (ApiType.ents m), .dead, .row [.d (.int .i64 0), .d (.int .i64 0), .d (.int .i64 0), .d (.int .i64 0), .d (.str []), .full (estr.rows []), .full (ApiType.rows [])] 27, .row [.d (.int .i64 o1.Kind), .d (.int .i64 o1.Low), .d (.int .i64 o1.High), .d (.int .i64 o1.Size), .d (.str o1.Name), .d (.sl (estr.rows x2)), .osl 4 (ApiType.rows o3_Of)] 27, .tok 27 7] (Am.InBlock 0 (Am.Then (Fx.mk C 57 1) (sr (sr (sr (sr (sr (sr (bodyOf Tryd.f68))))))) (Am.Ends (Fx.mk C 57 1) Tryd.f68.results.toList (fun x H' => H' = [.map (ApiType.ents m)] ∧ x = .tup [.agg (ApiType.cells res.1), .d (.bool res.2)])))) := (types_replaced_grp m).2.2 _ _ _ _ _ hh
def slices_Index_string_string_l1 (s : List Str) (v : Str) (v8 : Int) : Option Int :=
  if (decide (v8 < ((s).length : Int))) = true then
    idx s v8 >>= fun x1 =>
    if (v == x1) = true then
      some v8
    else
      slices_Index_string_string_l1 s v (IntKind.i64.wrap (v8 + 1))
  else
    some (-1)
  partial_fixpoint
theorem slices_Index_string_string_l1_grp (s : List Str) (v : Str) : (∀ (v8 : Int) (res : Int), slices_Index_string_string_l1 s v v8 = some res → ALoop (Fx.mk C 19 0) (lo (bk (sr (sl (sr (bodyOf Tryd.f160)))))) (mkEnv [(0, .d (.sl (estr.rows s))), (1, .d (.str v)), (7, .d (.int .i64 ((s).length : Int))), (8, .d (.int .i64 v8))]) [] (Am.InBlock 0 (Am.Then (Fx.mk C 19 0) (sr (sr (bodyOf Tryd.f160))) (Am.Ends (Fx.mk C 19 0) Tryd.f160.results.toList (fun x H' => H' = [] ∧ x = .d (.int .i64 res)))))) := by
  refine slices_Index_string_string_l1.partial_correctness s
    v
    (fun v8 res => ALoop (Fx.mk C 19 0) (lo (bk (sr (sl (sr (bodyOf Tryd.f160)))))) (mkEnv [(0, .d (.sl (estr.rows s))), (1, .d (.str v)), (7, .d (.int .i64 ((s).length : Int))), (8, .d (.int .i64 v8))]) [] (Am.InBlock 0 (Am.Then (Fx.mk C 19 0) (sr (sr (bodyOf Tryd.f160))) (Am.Ends (Fx.mk C 19 0) Tryd.f160.results.toList (fun x H' => H' = [] ∧ x = .d (.int .i64 res)))))) ?_
  · intro g0 ih0 v8 res hh
    refine ALoop.unroll ?_
    refine AEx.seq ?_
    refine AEx.regionN rfl rfl ?_
    refine AOps.q hC rfl trivial ?_
    refine AOps.nil ?_
    refine AEx.seq ?_
    refine AEx.cond rfl (fun hb => ?_) (fun hb => ?_)
    · replace hh := if_t hb hh
      refine AEx.skip ?_
      refine AEx.seq ?_
      refine AEx.block ?_
      refine AEx.seq ?_
      refine AEx.regionN rfl rfl ?_
      iterate 2 refine AOps.q hC rfl trivial ?_
      refine AOps.nil ?_
      refine AEx.seq ?_
      refine AEx.regionN rfl rfl ?_
      iterate 3 refine AOps.q hC rfl trivial ?_
      obtain ⟨x1, hx1, hh⟩ := bind_some hh
      refine AOps.i hC rfl (idx_nat hx1) (estr.idx hx1) rfl ?_
      iterate 2 refine AOps.q hC rfl trivial ?_
      refine AOps.nil ?_
      refine AEx.cond rfl (fun hb => ?_) (fun hb => ?_)
      · replace hh := if_t hb hh
        refine AEx.seq ?_
        refine AEx.regionN rfl rfl ?_
        iterate 2 refine AOps.q hC rfl trivial ?_
        refine AOps.nil ?_
        refine AEx.ret ?_
        obtain rfl := Option.some.inj hh
        exact ⟨_, _, [], rfl, .rfl, trivial, rfl, rfl, rfl, rfl⟩
      · replace hh := if_f hb hh
        refine AEx.skip ?_
        refine AEx.regionN rfl rfl ?_
        iterate 2 refine AOps.q hC rfl trivial ?_
        refine AOps.nil ?_
        refine ALoop.wk ?_ (ih0 _ _ hh)
        exact ⟨⟨⟨.rfl, rfl⟩, ⟨⟨.rfl, rfl⟩, ⟨⟨.rfl, rfl⟩, ⟨⟨.rfl, rfl⟩, trivial⟩⟩⟩⟩, trivial, rfl⟩
    · replace hh := if_f hb hh
      refine AEx.exit ?_
      refine AEx.seq ?_
      refine AEx.regionN rfl rfl ?_
      refine AOps.q hC rfl trivial ?_
      refine AOps.nil ?_
      refine AEx.ret ?_
      obtain rfl := Option.some.inj hh
      exact ⟨_, _, [], rfl, .rfl, trivial, rfl, rfl, rfl, rfl⟩
theorem slices_Index_string_string_l1_ok {s : List Str} {v : Str} {v8 : Int} {res : Int} (hh : slices_Index_string_string_l1 s v v8 = some res) : ALoop (Fx.mk C 19 0) (lo (bk (sr (sl (sr (bodyOf Tryd.f160)))))) (mkEnv [(0, .d (.sl (estr.rows s))), (1, .d (.str v)), (7, .d (.int .i64 ((s).length : Int))), (8, .d (.int .i64 v8))]) [] (Am.InBlock 0 (Am.Then (Fx.mk C 19 0) (sr (sr (bodyOf Tryd.f160))) (Am.Ends (Fx.mk C 19 0) Tryd.f160.results.toList (fun x H' => H' = [] ∧ x = .d (.int .i64 res))))) := (slices_Index_string_string_l1_grp s v) _ _ hh
def slices_Index_string_string (s : List Str) (v : Str) : Option Int :=
  slices_Index_string_string_l1 s v 0
theorem slices_Index_string_string_ok {s : List Str} {v : Str} {res : Int} (hh : slices_Index_string_string s v = some res) : ACall C 160 [.d (.sl (estr.rows s)), .d (.str v)] [] (fun x H' => H' = [] ∧ x = .d (.int .i64 res)) := by
  unfold slices_Index_string_string at hh
  refine ACall.intro hC Tryd.func160 rfl rfl rfl ?_
  refine AEx.seq ?_
  refine AEx.regionN rfl rfl ?_
  refine AOps.q hC rfl trivial ?_
  refine AOps.nil ?_
  refine AEx.seq ?_
  refine AEx.seq ?_
  refine AEx.regionN rfl rfl ?_
  refine AOps.q hC rfl trivial ?_
  refine AOps.qe hC rfl trivial (estr.lenA _) ?_
  refine AOps.q hC rfl trivial ?_
  refine AOps.nil ?_
  refine AEx.block ?_
  refine AEx.ofLoop ?_
  refine ALoop.wk ?_ (slices_Index_string_string_l1_ok hh)
  exact ⟨⟨⟨.rfl, rfl⟩, ⟨⟨.rfl, rfl⟩, ⟨⟨.rfl, rfl⟩, ⟨⟨.rfl, rfl⟩, trivial⟩⟩⟩⟩, trivial, rfl⟩
def slices_Contains_string_string (s : List Str) (v : Str) : Option Bool :=
  slices_Index_string_string s v >>= fun x1 =>
  some (decide (x1 ≥ 0))
theorem slices_Contains_string_string_ok {s : List Str} {v : Str} {res : Bool} (hh : slices_Contains_string_string s v = some res) : ACall C 128 [.d (.sl (estr.rows s)), .d (.str v)] [] (fun x H' => H' = [] ∧ x = .d (.bool res)) := by
  unfold slices_Contains_string_string at hh
  refine ACall.intro hC Tryd.func128 rfl rfl rfl ?_
  refine AEx.seq ?_
  refine AEx.regionN rfl rfl ?_
  refine AOps.q hC rfl trivial ?_
  refine AOps.nil ?_
  refine AEx.seq ?_
  refine AEx.regionN rfl rfl ?_
  iterate 2 refine AOps.q hC rfl trivial ?_
  obtain ⟨x1, hx1, hh⟩ := bind_some hh
  refine AOps.c rfl rfl (slices_Index_string_string_ok hx1) ?_
  iterate 2 refine AOps.q hC rfl trivial ?_
  refine AOps.nil ?_
  refine AEx.ret ?_
  obtain rfl := Option.some.inj hh
  exact ⟨_, _, [], rfl, .rfl, trivial, rfl, rfl, rfl, rfl⟩
mutual
def types_twice (t : ApiType) : Option Bool :=
  types_twice_l1 t 0
  partial_fixpoint
def types_twice_l1 (t : ApiType) (v8 : Int) : Option Bool :=
  if (decide (v8 < ((t.Names).length : Int))) = true then
    idx t.Names v8 >>= fun x1 =>
    slc t.Names 0 v8 >>= fun x2 =>
    slices_Contains_string_string x2 x1 >>= fun x3 =>
    if x3 = true then
      some true
    else
      types_twice_l1 t (IntKind.i64.wrap (v8 + 1))
  else
    slices_ContainsFunc_api_Type_api_Type t.Of >>= fun x4 =>
    some x4
  partial_fixpoint
def slices_ContainsFunc_api_Type_api_Type (s : List ApiType) : Option Bool :=
  slices_IndexFunc_api_Type_api_Type s >>= fun x1 =>
  some (decide (x1 ≥ 0))
  partial_fixpoint
def slices_IndexFunc_api_Type_api_Type (s : List ApiType) : Option Int :=
  slices_IndexFunc_api_Type_api_Type_l1 s 0
  partial_fixpoint
def slices_IndexFunc_api_Type_api_Type_l1 (s : List ApiType) (v8 : Int) : Option Int :=
  if (decide (v8 < ((s).length : Int))) = true then
    idx s v8 >>= fun x1 =>
    types_twice x1 >>= fun x2 =>
    if x2 = true then
      some v8
    else
      slices_IndexFunc_api_Type_api_Type_l1 s (IntKind.i64.wrap (v8 + 1))
  else
    some (-1)
  partial_fixpoint
end
theorem types_twice_grp : (∀ (t : ApiType) (res : Bool), types_twice t = some res → ACall C 93 [.agg (ApiType.cells t)] [] (fun x H' => H' = [] ∧ x = .d (.bool res))) ∧
    (∀ (t : ApiType) (v8 : Int) (res : Bool), types_twice_l1 t v8 = some res → ALoop (Fx.mk C 23 0) (lo (bk (sr (sl (sr (bodyOf Tryd.f93)))))) (mkEnv [(1, .ref 0 0), (6, .d (.sl (estr.rows t.Names))), (7, .d (.int .i64 ((t.Names).length : Int))), (8, .d (.int .i64 v8))]) [.row (ApiType.cells t) 27] (Am.InBlock 0 (Am.Then (Fx.mk C 23 0) (sr (sr (bodyOf Tryd.f93))) (Am.Ends (Fx.mk C 23 0) Tryd.f93.results.toList (fun x H' => H' = [] ∧ x = .d (.bool res)))))) ∧
    (∀ (s : List ApiType) (res : Bool), slices_ContainsFunc_api_Type_api_Type s = some res → ACall C 129 [.d (.sl (ApiType.rows s)), .clo 93 []] [] (fun x H' => H' = [] ∧ x = .d (.bool res))) ∧
    (∀ (s : List ApiType) (res : Int), slices_IndexFunc_api_Type_api_Type s = some res → ACall C 161 [.d (.sl (ApiType.rows s)), .clo 93 []] [] (fun x H' => H' = [] ∧ x = .d (.int .i64 res))) ∧
    (∀ (s : List ApiType) (v8 : Int) (res : Int), slices_IndexFunc_api_Type_api_Type_l1 s v8 = some res → ALoop (Fx.mk C 19 0) (lo (bk (sr (sl (sr (bodyOf Tryd.f161)))))) (mkEnv [(0, .d (.sl (ApiType.rows s))), (1, .clo 93 []), (7, .d (.int .i64 ((s).length : Int))), (8, .d (.int .i64 v8))]) [] (Am.InBlock 0 (Am.Then (Fx.mk C 19 0) (sr (sr (bodyOf Tryd.f161))) (Am.Ends (Fx.mk C 19 0) Tryd.f161.results.toList (fun x H' => H' = [] ∧ x = .d (.int .i64 res)))))) := by
  refine types_twice.mutual_partial_correctness (fun t res => ACall C 93 [.agg (ApiType.cells t)] [] (fun x H' => H' = [] ∧ x = .d (.bool res)))
    (fun t v8 res => ALoop (Fx.mk C 23 0) (lo (bk (sr (sl (sr (bodyOf Tryd.f93)))))) (mkEnv [(1, .ref 0 0), (6, .d (.sl (estr.rows t.Names))), (7, .d (.int .i64 ((t.Names).length : Int))), (8, .d (.int .i64 v8))]) [.row (ApiType.cells t) 27] (Am.InBlock 0 (Am.Then (Fx.mk C 23 0) (sr (sr (bodyOf Tryd.f93))) (Am.Ends (Fx.mk C 23 0) Tryd.f93.results.toList (fun x H' => H' = [] ∧ x = .d (.bool res))))))
    (fun s res => ACall C 129 [.d (.sl (ApiType.rows s)), .clo 93 []] [] (fun x H' => H' = [] ∧ x = .d (.bool res)))
    (fun s res => ACall C 161 [.d (.sl (ApiType.rows s)), .clo 93 []] [] (fun x H' => H' = [] ∧ x = .d (.int .i64 res)))
    (fun s v8 res => ALoop (Fx.mk C 19 0) (lo (bk (sr (sl (sr (bodyOf Tryd.f161)))))) (mkEnv [(0, .d (.sl (ApiType.rows s))), (1, .clo 93 []), (7, .d (.int .i64 ((s).length : Int))), (8, .d (.int .i64 v8))]) [] (Am.InBlock 0 (Am.Then (Fx.mk C 19 0) (sr (sr (bodyOf Tryd.f161))) (Am.Ends (Fx.mk C 19 0) Tryd.f161.results.toList (fun x H' => H' = [] ∧ x = .d (.int .i64 res)))))) ?_ ?_ ?_ ?_ ?_
  · intro g1 ih1 t res hh
    refine ACall.intro hC Tryd.func93 rfl rfl rfl ?_
    refine AEx.seq ?_
    refine AEx.regionN rfl rfl ?_
    refine AOps.n hC rfl ?_
    refine AOps.q hC rfl trivial ?_
    refine AOps.nil ?_
    refine AEx.seq ?_
    refine AEx.seq ?_
    refine AEx.regionN rfl rfl ?_
    iterate 2 refine AOps.q hC rfl trivial ?_
    refine AOps.qe hC rfl trivial (estr.lenA _) ?_
    refine AOps.q hC rfl trivial ?_
    refine AOps.nil ?_
    refine AEx.block ?_
    refine AEx.ofLoop ?_
    refine ALoop.wk ?_ (ih1 _ _ _ hh)
    exact ⟨⟨⟨.rfl, rfl⟩, ⟨⟨.rfl, rfl⟩, ⟨⟨.rfl, rfl⟩, ⟨⟨.rfl, rfl⟩, trivial⟩⟩⟩⟩, ⟨⟨rfl, .refl _, rfl⟩, trivial⟩, rfl⟩
  · intro g1 g2 ih1 ih2 t v8 res hh
    refine ALoop.unroll ?_
    refine AEx.seq ?_
    refine AEx.regionN rfl rfl ?_
    refine AOps.q hC rfl trivial ?_
    refine AOps.nil ?_
    refine AEx.seq ?_
    refine AEx.cond rfl (fun hb => ?_) (fun hb => ?_)
    · replace hh := if_t hb hh
      refine AEx.skip ?_
      refine AEx.seq ?_
      refine AEx.block ?_
      refine AEx.seq ?_
      refine AEx.regionN rfl rfl ?_
      refine AOps.q hC rfl trivial ?_
      obtain ⟨x1, hx1, hh⟩ := bind_some hh
      refine AOps.i hC rfl (idx_nat hx1) (estr.idx hx1) rfl ?_
      iterate 3 refine AOps.q hC rfl trivial ?_
      refine AOps.nil ?_
      refine AEx.seq ?_
      refine AEx.regionN rfl rfl ?_
      iterate 3 refine AOps.q hC rfl trivial ?_
      obtain ⟨x2, hx2, hh⟩ := bind_some hh
      refine AOps.dx hC rfl (estr.part hx2) (estr.sz _) ?_
      refine AOps.q hC rfl trivial ?_
      obtain ⟨x3, hx3, hh⟩ := bind_some hh
      refine AOps.c rfl rfl (slices_Contains_string_string_ok hx3) ?_
      refine AOps.nil ?_
      refine AEx.cond rfl (fun hb => ?_) (fun hb => ?_)
      · replace hh := if_t hb hh
        refine AEx.seq ?_
        refine AEx.regionN rfl rfl ?_
        refine AOps.q hC rfl trivial ?_
        refine AOps.nil ?_
        refine AEx.ret ?_
        obtain rfl := Option.some.inj hh
        exact ⟨_, _, [], rfl, .rfl, trivial, rfl, rfl, rfl, rfl⟩
      · replace hh := if_f hb hh
        refine AEx.skip ?_
        refine AEx.regionN rfl rfl ?_
        iterate 2 refine AOps.q hC rfl trivial ?_
        refine AOps.nil ?_
        refine ALoop.wk ?_ (ih1 _ _ _ hh)
        exact ⟨⟨⟨.rfl, rfl⟩, ⟨⟨.rfl, rfl⟩, ⟨⟨.rfl, rfl⟩, ⟨⟨.rfl, rfl⟩, trivial⟩⟩⟩⟩, ⟨⟨rfl, .refl _, rfl⟩, trivial⟩, rfl⟩
    · replace hh := if_f hb hh
      refine AEx.exit ?_
      refine AEx.seq ?_
      refine AEx.regionN rfl rfl ?_
      iterate 2 refine AOps.q hC rfl trivial ?_
      obtain ⟨x4, hx4, hh⟩ := bind_some hh
      refine AOps.c rfl rfl (ih2 _ _ hx4) ?_
      refine AOps.q hC rfl trivial ?_
      refine AOps.nil ?_
      refine AEx.ret ?_
      obtain rfl := Option.some.inj hh
      exact ⟨_, _, [], rfl, .rfl, trivial, rfl, rfl, rfl, rfl⟩
  · intro g3 ih3 s res hh
    refine ACall.intro hC Tryd.func129 rfl rfl rfl ?_
    refine AEx.seq ?_
    refine AEx.regionN rfl rfl ?_
    refine AOps.q hC rfl trivial ?_
    refine AOps.nil ?_
    refine AEx.seq ?_
    refine AEx.regionN rfl rfl ?_
    iterate 2 refine AOps.q hC rfl trivial ?_
    obtain ⟨x1, hx1, hh⟩ := bind_some hh
    refine AOps.c rfl rfl (ih3 _ _ hx1) ?_
    iterate 2 refine AOps.q hC rfl trivial ?_
    refine AOps.nil ?_
    refine AEx.ret ?_
    obtain rfl := Option.some.inj hh
    exact ⟨_, _, [], rfl, .rfl, trivial, rfl, rfl, rfl, rfl⟩
  · intro g4 ih4 s res hh
    refine ACall.intro hC Tryd.func161 rfl rfl rfl ?_
    refine AEx.seq ?_
    refine AEx.regionN rfl rfl ?_
    refine AOps.q hC rfl trivial ?_
    refine AOps.nil ?_
    refine AEx.seq ?_
    refine AEx.seq ?_
    refine AEx.regionN rfl rfl ?_
    refine AOps.q hC rfl trivial ?_
    refine AOps.qe hC rfl trivial (ApiType.lenA _) ?_
    refine AOps.q hC rfl trivial ?_
    refine AOps.nil ?_
    refine AEx.block ?_
    refine AEx.ofLoop ?_
    refine ALoop.wk ?_ (ih4 _ _ _ hh)
    exact ⟨⟨⟨.rfl, rfl⟩, ⟨⟨.rfl, rfl⟩, ⟨⟨.rfl, rfl⟩, ⟨⟨.rfl, rfl⟩, trivial⟩⟩⟩⟩, trivial, rfl⟩
  · intro g0 g4 ih0 ih4 s v8 res hh
    refine ALoop.unroll ?_
    refine AEx.seq ?_
    refine AEx.regionN rfl rfl ?_
    refine AOps.q hC rfl trivial ?_
    refine AOps.nil ?_
    refine AEx.seq ?_
    refine AEx.cond rfl (fun hb => ?_) (fun hb => ?_)
    · replace hh := if_t hb hh
      refine AEx.skip ?_
      refine AEx.seq ?_
      refine AEx.block ?_
      refine AEx.seq ?_
      refine AEx.regionN rfl rfl ?_
      iterate 2 refine AOps.q hC rfl trivial ?_
      refine AOps.nil ?_
      refine AEx.seq ?_
      refine AEx.regionN rfl rfl ?_
      iterate 3 refine AOps.q hC rfl trivial ?_
      obtain ⟨x1, hx1, hh⟩ := bind_some hh
      refine AOps.i hC rfl (idx_nat hx1) (ApiType.idx hx1) rfl ?_
      refine AOps.q hC rfl trivial ?_
      obtain ⟨x2, hx2, hh⟩ := bind_some hh
      refine AOps.c rfl rfl (ih0 _ _ hx2) ?_
      refine AOps.nil ?_
      refine AEx.cond rfl (fun hb => ?_) (fun hb => ?_)
      · replace hh := if_t hb hh
        refine AEx.seq ?_
        refine AEx.regionN rfl rfl ?_
        iterate 2 refine AOps.q hC rfl trivial ?_
        refine AOps.nil ?_
        refine AEx.ret ?_
        obtain rfl := Option.some.inj hh
        exact ⟨_, _, [], rfl, .rfl, trivial, rfl, rfl, rfl, rfl⟩
      · replace hh := if_f hb hh
        refine AEx.skip ?_
        refine AEx.regionN rfl rfl ?_
        iterate 2 refine AOps.q hC rfl trivial ?_
        refine AOps.nil ?_
        refine ALoop.wk ?_ (ih4 _ _ _ hh)
        exact ⟨⟨⟨.rfl, rfl⟩, ⟨⟨.rfl, rfl⟩, ⟨⟨.rfl, rfl⟩, ⟨⟨.rfl, rfl⟩, trivial⟩⟩⟩⟩, trivial, rfl⟩
    · replace hh := if_f hb hh
      refine AEx.exit ?_
      refine AEx.seq ?_
      refine AEx.regionN rfl rfl ?_
      refine AOps.q hC rfl trivial ?_
      refine AOps.nil ?_
      refine AEx.ret ?_
      obtain rfl := Option.some.inj hh
      exact ⟨_, _, [], rfl, .rfl, trivial, rfl, rfl, rfl, rfl⟩
theorem types_twice_ok {t : ApiType} {res : Bool} (hh : types_twice t = some res) : ACall C 93 [.agg (ApiType.cells t)] [] (fun x H' => H' = [] ∧ x = .d (.bool res)) := (types_twice_grp).1 _ _ hh
theorem types_twice_l1_ok {t : ApiType} {v8 : Int} {res : Bool} (hh : types_twice_l1 t v8 = some res) : ALoop (Fx.mk C 23 0) (lo (bk (sr (sl (sr (bodyOf Tryd.f93)))))) (mkEnv [(1, .ref 0 0), (6, .d (.sl (estr.rows t.Names))), (7, .d (.int .i64 ((t.Names).length : Int))), (8, .d (.int .i64 v8))]) [.row (ApiType.cells t) 27] (Am.InBlock 0 (Am.Then (Fx.mk C 23 0) (sr (sr (bodyOf Tryd.f93))) (Am.Ends (Fx.mk C 23 0) Tryd.f93.results.toList (fun x H' => H' = [] ∧ x = .d (.bool res))))) := (types_twice_grp).2.1 _ _ _ hh
theorem slices_ContainsFunc_api_Type_api_Type_ok {s : List ApiType} {res : Bool} (hh : slices_ContainsFunc_api_Type_api_Type s = some res) : ACall C 129 [.d (.sl (ApiType.rows s)), .clo 93 []] [] (fun x H' => H' = [] ∧ x = .d (.bool res)) := (types_twice_grp).2.2.1 _ _ hh
theorem slices_IndexFunc_api_Type_api_Type_ok {s : List ApiType} {res : Int} (hh : slices_IndexFunc_api_Type_api_Type s = some res) : ACall C 161 [.d (.sl (ApiType.rows s)), .clo 93 []] [] (fun x H' => H' = [] ∧ x = .d (.int .i64 res)) := (types_twice_grp).2.2.2.1 _ _ hh
theorem slices_IndexFunc_api_Type_api_Type_l1_ok {s : List ApiType} {v8 : Int} {res : Int} (hh : slices_IndexFunc_api_Type_api_Type_l1 s v8 = some res) : ALoop (Fx.mk C 19 0) (lo (bk (sr (sl (sr (bodyOf Tryd.f161)))))) (mkEnv [(0, .d (.sl (ApiType.rows s))), (1, .clo 93 []), (7, .d (.int .i64 ((s).length : Int))), (8, .d (.int .i64 v8))]) [] (Am.InBlock 0 (Am.Then (Fx.mk C 19 0) (sr (sr (bodyOf Tryd.f161))) (Am.Ends (Fx.mk C 19 0) Tryd.f161.results.toList (fun x H' => H' = [] ∧ x = .d (.int .i64 res))))) := (types_twice_grp).2.2.2.2 _ _ _ hh
mutual
def types_depth (t : ApiType) : Option Int :=
  types_depth_l1 t 0 0
  partial_fixpoint
def types_depth_l1 (t : ApiType) (d : Int) (v9 : Int) : Option Int :=
  if (decide (v9 < ((t.Of).length : Int))) = true then
    idx t.Of v9 >>= fun x1 =>
    types_depth x1 >>= fun x2 =>
    types_depth_l1 t (max d x2) (IntKind.i64.wrap (v9 + 1))
  else
    some (IntKind.i64.wrap (d + 1))
  partial_fixpoint
end
theorem types_depth_grp : (∀ (t : ApiType) (res : Int), types_depth t = some res → ACall C 94 [.agg (ApiType.cells t)] [] (fun x H' => H' = [] ∧ x = .d (.int .i64 res))) ∧
    (∀ (t : ApiType) (d : Int) (v9 : Int) (res : Int), types_depth_l1 t d v9 = some res → ALoop (Fx.mk C 20 0) (lo (bk (sr (sl (sr (sr (bodyOf Tryd.f94))))))) (mkEnv [(3, .d (.int .i64 d)), (7, .d (.sl (ApiType.rows t.Of))), (8, .d (.int .i64 ((t.Of).length : Int))), (9, .d (.int .i64 v9))]) [] (Am.InBlock 0 (Am.Then (Fx.mk C 20 0) (sr (sr (sr (bodyOf Tryd.f94)))) (Am.Ends (Fx.mk C 20 0) Tryd.f94.results.toList (fun x H' => H' = [] ∧ x = .d (.int .i64 res)))))) := by
  refine types_depth.mutual_partial_correctness (fun t res => ACall C 94 [.agg (ApiType.cells t)] [] (fun x H' => H' = [] ∧ x = .d (.int .i64 res)))
    (fun t d v9 res => ALoop (Fx.mk C 20 0) (lo (bk (sr (sl (sr (sr (bodyOf Tryd.f94))))))) (mkEnv [(3, .d (.int .i64 d)), (7, .d (.sl (ApiType.rows t.Of))), (8, .d (.int .i64 ((t.Of).length : Int))), (9, .d (.int .i64 v9))]) [] (Am.InBlock 0 (Am.Then (Fx.mk C 20 0) (sr (sr (sr (bodyOf Tryd.f94)))) (Am.Ends (Fx.mk C 20 0) Tryd.f94.results.toList (fun x H' => H' = [] ∧ x = .d (.int .i64 res)))))) ?_ ?_
  · intro g1 ih1 t res hh
    refine ACall.intro hC Tryd.func94 rfl rfl rfl ?_
    refine AEx.seq ?_
    refine AEx.regionN rfl rfl ?_
    refine AOps.n hC rfl ?_
    refine AOps.q hC rfl trivial ?_
    refine AOps.nil ?_
    refine AEx.seq ?_
    refine AEx.regionN rfl rfl ?_
    refine AOps.q hC rfl trivial ?_
    refine AOps.nil ?_
    refine AEx.seq ?_
    refine AEx.seq ?_
    refine AEx.regionN rfl rfl ?_
    iterate 2 refine AOps.q hC rfl trivial ?_
    refine AOps.qe hC rfl trivial (ApiType.lenA _) ?_
    refine AOps.q hC rfl trivial ?_
    refine AOps.nil ?_
    refine AEx.block ?_
    refine AEx.ofLoop ?_
    refine ALoop.wk ?_ (ih1 _ _ _ _ hh)
    exact ⟨⟨⟨.rfl, rfl⟩, ⟨⟨.rfl, rfl⟩, ⟨⟨.rfl, rfl⟩, ⟨⟨.rfl, rfl⟩, trivial⟩⟩⟩⟩, trivial, rfl⟩
  · intro g0 g1 ih0 ih1 t d v9 res hh
    refine ALoop.unroll ?_
    refine AEx.seq ?_
    refine AEx.regionN rfl rfl ?_
    refine AOps.q hC rfl trivial ?_
    refine AOps.nil ?_
    refine AEx.seq ?_
    refine AEx.cond rfl (fun hb => ?_) (fun hb => ?_)
    · replace hh := if_t hb hh
      refine AEx.skip ?_
      refine AEx.seq ?_
      refine AEx.block ?_
      refine AEx.seq ?_
      refine AEx.regionN rfl rfl ?_
      obtain ⟨x1, hx1, hh⟩ := bind_some hh
      refine AOps.i hC rfl (idx_nat hx1) (ApiType.idx hx1) rfl ?_
      refine AOps.q hC rfl trivial ?_
      refine AOps.nf hC rfl ?_
      refine AOps.s hC rfl ?_
      refine AOps.nil ?_
      refine AEx.regionN rfl rfl ?_
      iterate 2 refine AOps.q hC rfl trivial ?_
      obtain ⟨x2, hx2, hh⟩ := bind_some hh
      refine AOps.c rfl rfl (ih0 _ _ hx2) ?_
      iterate 2 refine AOps.q hC rfl trivial ?_
      refine AOps.nil ?_
      refine AEx.regionN rfl rfl ?_
      iterate 2 refine AOps.q hC rfl trivial ?_
      refine AOps.nil ?_
      refine ALoop.wk ?_ (ih1 _ _ _ _ hh)
      exact ⟨⟨⟨.rfl, rfl⟩, ⟨⟨.rfl, rfl⟩, ⟨⟨.rfl, rfl⟩, ⟨⟨.rfl, rfl⟩, trivial⟩⟩⟩⟩, trivial, rfl⟩
    · replace hh := if_f hb hh
      refine AEx.exit ?_
      refine AEx.seq ?_
      refine AEx.regionN rfl rfl ?_
      iterate 3 refine AOps.q hC rfl trivial ?_
      refine AOps.nil ?_
      refine AEx.ret ?_
      obtain rfl := Option.some.inj hh
      exact ⟨_, _, [], rfl, .rfl, trivial, rfl, rfl, rfl, rfl⟩
theorem types_depth_ok {t : ApiType} {res : Int} (hh : types_depth t = some res) : ACall C 94 [.agg (ApiType.cells t)] [] (fun x H' => H' = [] ∧ x = .d (.int .i64 res)) := (types_depth_grp).1 _ _ hh
theorem types_depth_l1_ok {t : ApiType} {d : Int} {v9 : Int} {res : Int} (hh : types_depth_l1 t d v9 = some res) : ALoop (Fx.mk C 20 0) (lo (bk (sr (sl (sr (sr (bodyOf Tryd.f94))))))) (mkEnv [(3, .d (.int .i64 d)), (7, .d (.sl (ApiType.rows t.Of))), (8, .d (.int .i64 ((t.Of).length : Int))), (9, .d (.int .i64 v9))]) [] (Am.InBlock 0 (Am.Then (Fx.mk C 20 0) (sr (sr (sr (bodyOf Tryd.f94)))) (Am.Ends (Fx.mk C 20 0) Tryd.f94.results.toList (fun x H' => H' = [] ∧ x = .d (.int .i64 res))))) := (types_depth_grp).2 _ _ _ _ hh
mutual
def types_count (t : ApiType) : Option Int :=
  if (t.Kind == 2) = true then
    idx t.Of 0 >>= fun x1 =>
    types_count x1 >>= fun x3 =>
    some (min (IntKind.i64.wrap ((min t.Size 33) * x3)) 33)
  else
    if (t.Kind == 3) = true then
      types_count_l1 t 0 0
    else
      some (min 1 33)
  partial_fixpoint
def types_count_l1 (t : ApiType) (n : Int) (v24 : Int) : Option Int :=
  if (decide (v24 < ((t.Of).length : Int))) = true then
    idx t.Of v24 >>= fun x2 =>
    types_count x2 >>= fun x4 =>
    types_count_l1 t (IntKind.i64.wrap (n + x4)) (IntKind.i64.wrap (v24 + 1))
  else
    some (min n 33)
  partial_fixpoint
end
theorem types_count_grp : (∀ (t : ApiType) (res : Int), types_count t = some res → ACall C 95 [.agg (ApiType.cells t)] [] (fun x H' => H' = [] ∧ x = .d (.int .i64 res))) ∧
    (∀ (t : ApiType) (n : Int) (v24 : Int) (res : Int), types_count_l1 t n v24 = some res → ALoop (Fx.mk C 35 0) (lo (bk (sr (ca (sr (cb (sr (bk (sr (sl (sr (sr (bodyOf Tryd.f95))))))))))))) (mkEnv [(3, .d (.int .i64 n)), (22, .d (.sl (ApiType.rows t.Of))), (23, .d (.int .i64 ((t.Of).length : Int))), (24, .d (.int .i64 v24))]) [] (Am.InBlock 1 (Am.InBlock 0 (Am.Then (Fx.mk C 35 0) (sr (sr (sr (bodyOf Tryd.f95)))) (Am.Ends (Fx.mk C 35 0) Tryd.f95.results.toList (fun x H' => H' = [] ∧ x = .d (.int .i64 res))))))) := by
  refine types_count.mutual_partial_correctness (fun t res => ACall C 95 [.agg (ApiType.cells t)] [] (fun x H' => H' = [] ∧ x = .d (.int .i64 res)))
    (fun t n v24 res => ALoop (Fx.mk C 35 0) (lo (bk (sr (ca (sr (cb (sr (bk (sr (sl (sr (sr (bodyOf Tryd.f95))))))))))))) (mkEnv [(3, .d (.int .i64 n)), (22, .d (.sl (ApiType.rows t.Of))), (23, .d (.int .i64 ((t.Of).length : Int))), (24, .d (.int .i64 v24))]) [] (Am.InBlock 1 (Am.InBlock 0 (Am.Then (Fx.mk C 35 0) (sr (sr (sr (bodyOf Tryd.f95)))) (Am.Ends (Fx.mk C 35 0) Tryd.f95.results.toList (fun x H' => H' = [] ∧ x = .d (.int .i64 res))))))) ?_ ?_
  · intro g0 g1 ih0 ih1 t res hh
    refine ACall.intro hC Tryd.func95 rfl rfl rfl ?_
    refine AEx.seq ?_
    refine AEx.regionN rfl rfl ?_
    refine AOps.n hC rfl ?_
    refine AOps.q hC rfl trivial ?_
    refine AOps.nil ?_
    refine AEx.seq ?_
    refine AEx.regionN rfl rfl ?_
    refine AOps.q hC rfl trivial ?_
    refine AOps.nil ?_
    refine AEx.seq ?_
    refine AEx.seq ?_
    refine AEx.regionN rfl rfl ?_
    iterate 2 refine AOps.q hC rfl trivial ?_
    refine AOps.nil ?_
    refine AEx.block ?_
    refine AEx.seq ?_
    refine AEx.regionN rfl rfl ?_
    iterate 2 refine AOps.q hC rfl trivial ?_
    refine AOps.nil ?_
    refine AEx.cond rfl (fun hb => ?_) (fun hb => ?_)
    · replace hh := if_t hb hh
      refine AEx.draw hC 10 rfl rfl rfl ?_
      refine AQ.q hC rfl trivial ?_
      refine AQ.q hC rfl trivial ?_
      refine AQ.q hC rfl trivial ?_
      refine AQ.q hC rfl trivial ?_
      refine AQ.q hC rfl trivial ?_
      obtain ⟨x1, hx1, hh⟩ := bind_some hh
      refine AQ.i hC rfl (idx_nat hx1) (ApiType.idx hx1) rfl ?_
      refine AQ.q hC rfl trivial ?_
      obtain ⟨x3, hx3, hh⟩ := bind_some hh
      refine AQ.c rfl rfl (ih0 _ _ hx3) ?_
      refine AQ.q hC rfl trivial ?_
      refine AQ.q hC rfl trivial ?_
      refine AQ.nil ?_
      refine AOps.nil ?_
      refine AEx.seq ?_
      refine AEx.regionN rfl rfl ?_
      iterate 3 refine AOps.q hC rfl trivial ?_
      refine AOps.nil ?_
      refine AEx.ret ?_
      obtain rfl := Option.some.inj hh
      exact ⟨_, _, [], rfl, .rfl, trivial, rfl, rfl, rfl, rfl⟩
    · replace hh := if_f hb hh
      refine AEx.seq ?_
      refine AEx.regionN rfl rfl ?_
      iterate 2 refine AOps.q hC rfl trivial ?_
      refine AOps.nil ?_
      refine AEx.cond rfl (fun hb => ?_) (fun hb => ?_)
      · replace hh := if_t hb hh
        refine AEx.seq ?_
        refine AEx.regionN rfl rfl ?_
        iterate 2 refine AOps.q hC rfl trivial ?_
        refine AOps.qe hC rfl trivial (ApiType.lenA _) ?_
        refine AOps.q hC rfl trivial ?_
        refine AOps.nil ?_
        refine AEx.block ?_
        refine AEx.ofLoop ?_
        refine ALoop.wk ?_ (ih1 _ _ _ _ hh)
        exact ⟨⟨⟨.rfl, rfl⟩, ⟨⟨.rfl, rfl⟩, ⟨⟨.rfl, rfl⟩, ⟨⟨.rfl, rfl⟩, trivial⟩⟩⟩⟩, trivial, rfl⟩
      · replace hh := if_f hb hh
        refine AEx.regionN rfl rfl ?_
        refine AOps.q hC rfl trivial ?_
        refine AOps.nil ?_
        refine AEx.seq ?_
        refine AEx.regionN rfl rfl ?_
        iterate 3 refine AOps.q hC rfl trivial ?_
        refine AOps.nil ?_
        refine AEx.ret ?_
        obtain rfl := Option.some.inj hh
        exact ⟨_, _, [], rfl, .rfl, trivial, rfl, rfl, rfl, rfl⟩
  · intro g0 g1 ih0 ih1 t n v24 res hh
    refine ALoop.unroll ?_
    refine AEx.seq ?_
    refine AEx.regionN rfl rfl ?_
    refine AOps.q hC rfl trivial ?_
    refine AOps.nil ?_
    refine AEx.seq ?_
    refine AEx.cond rfl (fun hb => ?_) (fun hb => ?_)
    · replace hh := if_t hb hh
      refine AEx.skip ?_
      refine AEx.seq ?_
      refine AEx.block ?_
      refine AEx.seq ?_
      refine AEx.regionN rfl rfl ?_
      obtain ⟨x2, hx2, hh⟩ := bind_some hh
      refine AOps.i hC rfl (idx_nat hx2) (ApiType.idx hx2) rfl ?_
      refine AOps.q hC rfl trivial ?_
      refine AOps.nf hC rfl ?_
      refine AOps.s hC rfl ?_
      refine AOps.nil ?_
      refine AEx.regionN rfl rfl ?_
      iterate 2 refine AOps.q hC rfl trivial ?_
      obtain ⟨x4, hx4, hh⟩ := bind_some hh
      refine AOps.c rfl rfl (ih0 _ _ hx4) ?_
      iterate 2 refine AOps.q hC rfl trivial ?_
      refine AOps.nil ?_
      refine AEx.regionN rfl rfl ?_
      iterate 2 refine AOps.q hC rfl trivial ?_
      refine AOps.nil ?_
      refine ALoop.wk ?_ (ih1 _ _ _ _ hh)
      exact ⟨⟨⟨.rfl, rfl⟩, ⟨⟨.rfl, rfl⟩, ⟨⟨.rfl, rfl⟩, ⟨⟨.rfl, rfl⟩, trivial⟩⟩⟩⟩, trivial, rfl⟩
    · replace hh := if_f hb hh
      refine AEx.exit ?_
      refine AEx.seq ?_
      refine AEx.regionN rfl rfl ?_
      iterate 3 refine AOps.q hC rfl trivial ?_
      refine AOps.nil ?_
      refine AEx.ret ?_
      obtain rfl := Option.some.inj hh
      exact ⟨_, _, [], rfl, .rfl, trivial, rfl, rfl, rfl, rfl⟩
theorem types_count_ok {t : ApiType} {res : Int} (hh : types_count t = some res) : ACall C 95 [.agg (ApiType.cells t)] [] (fun x H' => H' = [] ∧ x = .d (.int .i64 res)) := (types_count_grp).1 _ _ hh
theorem types_count_l1_ok {t : ApiType} {n : Int} {v24 : Int} {res : Int} (hh : types_count_l1 t n v24 = some res) : ALoop (Fx.mk C 35 0) (lo (bk (sr (ca (sr (cb (sr (bk (sr (sl (sr (sr (bodyOf Tryd.f95))))))))))))) (mkEnv [(3, .d (.int .i64 n)), (22, .d (.sl (ApiType.rows t.Of))), (23, .d (.int .i64 ((t.Of).length : Int))), (24, .d (.int .i64 v24))]) [] (Am.InBlock 1 (Am.InBlock 0 (Am.Then (Fx.mk C 35 0) (sr (sr (sr (bodyOf Tryd.f95)))) (Am.Ends (Fx.mk C 35 0) Tryd.f95.results.toList (fun x H' => H' = [] ∧ x = .d (.int .i64 res)))))) := (types_count_grp).2 _ _ _ _ hh
def types_expanded (t : ApiType) (m : List (Str × ApiType)) : Option (ApiType × Int) :=
  syntax_CheckType t >>= fun x1 =>
  if (x1 != 0) = true then
    some ((ApiType.mk 0 0 0 0 [] [] []), x1)
  else
    types_replaced t m >>= fun x2 =>
    if (!x2.2) = true then
      some ((ApiType.mk 0 0 0 0 [] [] []), 7)
    else
      types_twice x2.1 >>= fun x3 =>
      if x3 = true then
        some ((ApiType.mk 0 0 0 0 [] [] []), 8)
      else
        types_depth x2.1 >>= fun x4 =>
        (if (!(decide (x4 > 12))) = true then types_count x2.1 else some default) >>= fun x5 =>
        if (bif (decide (x4 > 12)) then true else (decide (x5 > 32))) = true then
          some ((ApiType.mk 0 0 0 0 [] [] []), 4)
        else
          some (x2.1, 0)
theorem types_expanded_ok {t : ApiType} {m : List (Str × ApiType)} {res : ApiType × Int} (hh : types_expanded t m = some res) : ACall C 51 [.mp 0, .agg (ApiType.cells t)] [.map (ApiType.ents m)] (fun x H' => H' = [.map (ApiType.ents m)] ∧ x = .tup [.agg (ApiType.cells res.1), .d (.int .i64 res.2)]) := by
  unfold types_expanded at hh
  refine ACall.intro hC Tryd.func51 rfl rfl rfl ?_
  refine AEx.seq ?_
  refine AEx.regionN rfl rfl ?_
  refine AOps.n hC rfl ?_
  refine AOps.nf hC rfl ?_
  refine AOps.q hC rfl trivial ?_
  refine AOps.nil ?_
  refine AEx.seq ?_
  refine AEx.seq ?_
  refine AEx.regionN rfl rfl ?_
  refine AOps.q hC rfl trivial ?_
  obtain ⟨x1, hx1, hh⟩ := bind_some hh
  refine AOps.c rfl rfl (syntax_CheckType_ok hx1) ?_
  refine AOps.q hC rfl trivial ?_
  refine AOps.nil ?_
  refine AEx.seq ?_
  refine AEx.regionN rfl rfl ?_
  iterate 2 refine AOps.q hC rfl trivial ?_
  refine AOps.nil ?_
  refine AEx.cond rfl (fun hb => ?_) (fun hb => ?_)
  · replace hh := if_t hb hh
    refine AEx.seq ?_
    refine AEx.regionN rfl rfl ?_
    iterate 2 refine AOps.q hC rfl trivial ?_
    refine AOps.s hC rfl ?_
    refine AOps.q hC rfl trivial ?_
    refine AOps.nil ?_
    refine AEx.ret ?_
    obtain rfl := Option.some.inj hh
    exact ⟨_, _, [.map (ApiType.ents m)], rfl, .rfl, ⟨rfl, trivial⟩, rfl, rfl, rfl, rfl⟩
  · replace hh := if_f hb hh
    refine AEx.skip ?_
    refine AEx.seq ?_
    refine AEx.regionN rfl rfl ?_
    iterate 2 refine AOps.q hC rfl trivial ?_
    obtain ⟨x2, hx2, hh⟩ := bind_some hh
    refine AOps.g [0] rfl (types_replaced_ok hx2) ⟨.rfl, ⟨.rfl, trivial⟩⟩ rfl ⟨rfl, trivial⟩ rfl rfl ?_
    iterate 3 refine AOps.q hC rfl trivial ?_
    refine AOps.nf hC rfl ?_
    refine AOps.s hC rfl ?_
    refine AOps.q hC rfl trivial ?_
    refine AOps.nil ?_
    refine AEx.seq ?_
    refine AEx.seq ?_
    refine AEx.regionN rfl rfl ?_
    iterate 2 refine AOps.q hC rfl trivial ?_
    refine AOps.nil ?_
    refine AEx.cond rfl (fun hb => ?_) (fun hb => ?_)
    · replace hh := if_t hb hh
      refine AEx.seq ?_
      refine AEx.regionN rfl rfl ?_
      refine AOps.q hC rfl trivial ?_
      refine AOps.s hC rfl ?_
      refine AOps.q hC rfl trivial ?_
      refine AOps.nil ?_
      refine AEx.ret ?_
      obtain rfl := Option.some.inj hh
      exact ⟨_, _, [.map (ApiType.ents m)], rfl, .rfl, ⟨rfl, trivial⟩, rfl, rfl, rfl, rfl⟩
    · replace hh := if_f hb hh
      refine AEx.skip ?_
      refine AEx.seq ?_
      refine AEx.seq ?_
      refine AEx.regionN rfl rfl ?_
      refine AOps.q hC rfl trivial ?_
      obtain ⟨x3, hx3, hh⟩ := bind_some hh
      refine AOps.c rfl rfl (types_twice_ok hx3) ?_
      refine AOps.nil ?_
      refine AEx.cond rfl (fun hb => ?_) (fun hb => ?_)
      · replace hh := if_t hb hh
        refine AEx.seq ?_
        refine AEx.regionN rfl rfl ?_
        refine AOps.q hC rfl trivial ?_
        refine AOps.s hC rfl ?_
        refine AOps.q hC rfl trivial ?_
        refine AOps.nil ?_
        refine AEx.ret ?_
        obtain rfl := Option.some.inj hh
        exact ⟨_, _, [.map (ApiType.ents m)], rfl, .rfl, ⟨rfl, trivial⟩, rfl, rfl, rfl, rfl⟩
      · replace hh := if_f hb hh
        refine AEx.skip ?_
        refine AEx.seq ?_
        refine AEx.seq ?_
        refine AEx.regionG 8 rfl ?_
        refine AG.q hC rfl ?_ ?_
        · intro hg; refine And.intro ?_ ?_ <;> repeat' (first | exact True.intro | exact hg | exact and_l hg | exact and_l (and_l hg) | refine And.intro ?_ ?_)
        obtain ⟨x4, hx4, hh⟩ := bind_some hh
        refine AG.c rfl rfl (by intro hg; repeat' (first | exact True.intro | exact hg | exact and_l hg | exact and_l (and_l hg) | refine And.intro ?_ ?_)) (fun _ => types_depth_ok hx4) ?_
        refine AG.q hC rfl ?_ ?_
        · intro hg; refine And.intro ?_ ?_ <;> repeat' (first | exact True.intro | exact hg | exact and_l hg | exact and_l (and_l hg) | refine And.intro ?_ ?_)
        refine AG.q hC rfl ?_ ?_
        · intro hg; refine And.intro ?_ ?_ <;> repeat' (first | exact True.intro | exact hg | exact and_l hg | exact and_l (and_l hg) | refine And.intro ?_ ?_)
        refine AG.q hC rfl ?_ ?_
        · intro hg; refine And.intro ?_ ?_ <;> repeat' (first | exact True.intro | exact hg | exact and_l hg | exact and_l (and_l hg) | refine And.intro ?_ ?_)
        obtain ⟨x5, hx5, hh⟩ := bind_some hh
        refine AG.c rfl rfl (by intro hg; repeat' (first | exact True.intro | exact hg | exact and_l hg | exact and_l (and_l hg) | refine And.intro ?_ ?_)) (fun hw => types_count_ok (if_t hw hx5)) ?_
        refine AG.q hC rfl ?_ ?_
        · intro hg; refine And.intro ?_ ?_ <;> repeat' (first | exact True.intro | exact hg | exact and_l hg | exact and_l (and_l hg) | refine And.intro ?_ ?_)
        refine AG.p hC rfl ?_ ?_
        · intro hg; refine And.intro ?_ (And.intro ?_ ?_) <;> first | exact True.intro | exact fun _ => True.intro | exact And.intro hg True.intro | exact fun h' => And.intro (wb_f h') True.intro | exact fun h' => And.intro (wb_t h') True.intro | exact fun h' => And.intro (and_f hg h') True.intro | exact fun h' => And.intro (and_t hg h') True.intro | exact And.intro (and_l hg) True.intro
        refine AG.nil ?_
        refine AOps.nil ?_
        refine AEx.cond rfl (fun hb => ?_) (fun hb => ?_)
        · replace hh := if_t hb hh
          refine AEx.seq ?_
          refine AEx.regionN rfl rfl ?_
          refine AOps.q hC rfl trivial ?_
          refine AOps.s hC rfl ?_
          refine AOps.q hC rfl trivial ?_
          refine AOps.nil ?_
          refine AEx.ret ?_
          obtain rfl := Option.some.inj hh
          exact ⟨_, _, [.map (ApiType.ents m)], rfl, .rfl, ⟨rfl, trivial⟩, rfl, rfl, rfl, rfl⟩
        · replace hh := if_f hb hh
          refine AEx.skip ?_
          refine AEx.seq ?_
          refine AEx.regionN rfl rfl ?_
          refine AOps.q hC rfl trivial ?_
          refine AOps.s hC rfl ?_
          refine AOps.q hC rfl trivial ?_
          refine AOps.nil ?_
          refine AEx.ret ?_
          obtain rfl := Option.some.inj hh
          exact ⟨_, _, [.map (ApiType.ents m)], rfl, .rfl, ⟨rfl, trivial⟩, rfl, rfl, rfl, rfl⟩
def types_Expand_l1 (decls : List ApiDecl) (t : ApiType) (m2 : List (Str × ApiType)) (v16 : Int) : Option (ApiType × Int) :=
  if (decide (v16 < ((decls).length : Int))) = true then
    idx decls v16 >>= fun x1 =>
    if (x1.Kind != 0) = true then
      types_Expand_l1 decls t m2 (IntKind.i64.wrap (v16 + 1))
    else
      syntax_IsName x1.Name >>= fun x2 =>
      if (!x2) = true then
        some ((ApiType.mk 0 0 0 0 [] [] []), 7)
      else
        some (mgt x1.Name m2) >>= fun x3 =>
        if x3.isSome = true then
          some ((ApiType.mk 0 0 0 0 [] [] []), 8)
        else
          types_expanded x1.TypeV m2 >>= fun x4 =>
          if (x4.2 != 0) = true then
            some ((ApiType.mk 0 0 0 0 [] [] []), x4.2)
          else
            types_Expand_l1 decls t (mpt x1.Name x4.1 m2) (IntKind.i64.wrap (v16 + 1))
  else
    types_expanded t m2 >>= fun x5 =>
    some (x5.1, x5.2)
  partial_fixpoint
theorem types_Expand_l1_grp (decls : List ApiDecl) (t : ApiType) : (∀ (m2 : List (Str × ApiType)) (v16 : Int) (res : ApiType × Int), types_Expand_l1 decls t m2 v16 = some res → ALoop (Fx.mk C 58 0) (lo (bk (sr (sl (sr (sr (bodyOf Tryd.f16))))))) (mkEnv [(3, .ref 0 0), (4, .ref 1 0), (6, .mp 2), (14, .d (.sl (ApiDecl.rows decls))), (15, .d (.int .i64 ((decls).length : Int))), (16, .d (.int .i64 v16))]) [.row (ApiType.cells t) 27, .row [.d (.int .i64 0), .d (.int .i64 0), .d (.int .i64 0), .d (.int .i64 0), .d (.str []), .full (estr.rows []), .full (ApiType.rows [])] 27, .map (ApiType.ents m2)] (Am.InBlock 0 (Am.Then (Fx.mk C 58 0) (sr (sr (sr (bodyOf Tryd.f16)))) (Am.Ends (Fx.mk C 58 0) Tryd.f16.results.toList (fun x H' => H' = [] ∧ x = .tup [.agg (ApiType.cells res.1), .d (.int .i64 res.2)]))))) := by
  refine types_Expand_l1.partial_correctness decls
    t
    (fun m2 v16 res => ALoop (Fx.mk C 58 0) (lo (bk (sr (sl (sr (sr (bodyOf Tryd.f16))))))) (mkEnv [(3, .ref 0 0), (4, .ref 1 0), (6, .mp 2), (14, .d (.sl (ApiDecl.rows decls))), (15, .d (.int .i64 ((decls).length : Int))), (16, .d (.int .i64 v16))]) [.row (ApiType.cells t) 27, .row [.d (.int .i64 0), .d (.int .i64 0), .d (.int .i64 0), .d (.int .i64 0), .d (.str []), .full (estr.rows []), .full (ApiType.rows [])] 27, .map (ApiType.ents m2)] (Am.InBlock 0 (Am.Then (Fx.mk C 58 0) (sr (sr (sr (bodyOf Tryd.f16)))) (Am.Ends (Fx.mk C 58 0) Tryd.f16.results.toList (fun x H' => H' = [] ∧ x = .tup [.agg (ApiType.cells res.1), .d (.int .i64 res.2)]))))) ?_
  · intro g0 ih0 m2 v16 res hh
    refine ALoop.unroll ?_
    refine AEx.seq ?_
    refine AEx.regionN rfl rfl ?_
    refine AOps.q hC rfl trivial ?_
    refine AOps.nil ?_
    refine AEx.seq ?_
    refine AEx.cond rfl (fun hb => ?_) (fun hb => ?_)
    · replace hh := if_t hb hh
      refine AEx.skip ?_
      refine AEx.seq ?_
      refine AEx.block ?_
      refine AEx.seq ?_
      refine AEx.regionN rfl rfl ?_
      obtain ⟨x1, hx1, hh⟩ := bind_some hh
      refine AOps.i hC rfl (idx_nat hx1) (ApiDecl.idx hx1) rfl ?_
      refine AOps.q hC rfl trivial ?_
      refine AOps.nf hC rfl ?_
      refine AOps.s hC rfl ?_
      refine AOps.nil ?_
      refine AEx.seq ?_
      refine AEx.seq ?_
      refine AEx.regionN rfl rfl ?_
      iterate 3 refine AOps.q hC rfl trivial ?_
      refine AOps.nil ?_
      refine AEx.cond rfl (fun hb => ?_) (fun hb => ?_)
      · replace hh := if_t hb hh
        refine AEx.exit ?_
        refine AEx.regionN rfl rfl ?_
        iterate 2 refine AOps.q hC rfl trivial ?_
        refine AOps.nil ?_
        refine ALoop.wk ?_ (ih0 _ _ _ hh)
        exact ⟨⟨⟨.rfl, rfl⟩, ⟨⟨.rfl, rfl⟩, ⟨⟨.rfl, rfl⟩, ⟨⟨.rfl, rfl⟩, ⟨⟨.rfl, rfl⟩, ⟨⟨.rfl, rfl⟩, trivial⟩⟩⟩⟩⟩⟩, ⟨⟨rfl, .refl _, rfl⟩, ⟨⟨rfl, .refl _, rfl⟩, ⟨rfl, trivial⟩⟩⟩, rfl⟩
      · replace hh := if_f hb hh
        refine AEx.skip ?_
        refine AEx.seq ?_
        refine AEx.seq ?_
        refine AEx.regionN rfl rfl ?_
        iterate 2 refine AOps.q hC rfl trivial ?_
        obtain ⟨x2, hx2, hh⟩ := bind_some hh
        refine AOps.c rfl rfl (syntax_IsName_ok hx2) ?_
        refine AOps.q hC rfl trivial ?_
        refine AOps.nil ?_
        refine AEx.cond rfl (fun hb => ?_) (fun hb => ?_)
        · replace hh := if_t hb hh
          refine AEx.seq ?_
          refine AEx.regionN rfl rfl ?_
          refine AOps.q hC rfl trivial ?_
          refine AOps.s hC rfl ?_
          refine AOps.q hC rfl trivial ?_
          refine AOps.nil ?_
          refine AEx.ret ?_
          obtain rfl := Option.some.inj hh
          exact ⟨_, _, [], rfl, .rfl, trivial, rfl, rfl, rfl, rfl⟩
        · replace hh := if_f hb hh
          refine AEx.skip ?_
          refine AEx.seq ?_
          refine AEx.seq ?_
          refine AEx.regionN rfl rfl ?_
          iterate 3 refine AOps.q hC rfl trivial ?_
          obtain ⟨x3, hx3, hh⟩ := bind_some hh
          refine AOps.me hC rfl (ApiType.lkT hx3) ?_
          iterate 3 refine AOps.q hC rfl trivial ?_
          refine AOps.nf hC rfl ?_
          refine AOps.s hC rfl ?_
          refine AOps.q hC rfl trivial ?_
          refine AOps.nil ?_
          refine AEx.seq ?_
          refine AEx.regionN rfl rfl ?_
          refine AOps.q hC rfl trivial ?_
          refine AOps.nil ?_
          refine AEx.cond rfl (fun hb => ?_) (fun hb => ?_)
          · replace hh := if_t hb hh
            refine AEx.seq ?_
            refine AEx.regionN rfl rfl ?_
            refine AOps.q hC rfl trivial ?_
            refine AOps.s hC rfl ?_
            refine AOps.q hC rfl trivial ?_
            refine AOps.nil ?_
            refine AEx.ret ?_
            obtain rfl := Option.some.inj hh
            exact ⟨_, _, [], rfl, .rfl, trivial, rfl, rfl, rfl, rfl⟩
          · replace hh := if_f hb hh
            refine AEx.skip ?_
            refine AEx.seq ?_
            refine AEx.regionN rfl rfl ?_
            iterate 3 refine AOps.q hC rfl trivial ?_
            obtain ⟨x4, hx4, hh⟩ := bind_some hh
            refine AOps.g [2] rfl (types_expanded_ok hx4) ⟨.rfl, ⟨.rfl, trivial⟩⟩ rfl ⟨rfl, trivial⟩ rfl rfl ?_
            iterate 3 refine AOps.q hC rfl trivial ?_
            refine AOps.nf hC rfl ?_
            refine AOps.s hC rfl ?_
            refine AOps.q hC rfl trivial ?_
            refine AOps.nil ?_
            refine AEx.seq ?_
            refine AEx.seq ?_
            refine AEx.regionN rfl rfl ?_
            iterate 2 refine AOps.q hC rfl trivial ?_
            refine AOps.nil ?_
            refine AEx.cond rfl (fun hb => ?_) (fun hb => ?_)
            · replace hh := if_t hb hh
              refine AEx.seq ?_
              refine AEx.regionN rfl rfl ?_
              iterate 2 refine AOps.q hC rfl trivial ?_
              refine AOps.s hC rfl ?_
              refine AOps.q hC rfl trivial ?_
              refine AOps.nil ?_
              refine AEx.ret ?_
              obtain rfl := Option.some.inj hh
              exact ⟨_, _, [], rfl, .rfl, trivial, rfl, rfl, rfl, rfl⟩
            · replace hh := if_f hb hh
              refine AEx.skip ?_
              refine AEx.regionN rfl rfl ?_
              iterate 4 refine AOps.q hC rfl trivial ?_
              refine AOps.ue hC rfl (ApiType.mput _ _ _) rfl ?_
              refine AOps.nil ?_
              refine AEx.regionN rfl rfl ?_
              iterate 2 refine AOps.q hC rfl trivial ?_
              refine AOps.nil ?_
              refine ALoop.wk ?_ (ih0 _ _ _ hh)
              exact ⟨⟨⟨.rfl, rfl⟩, ⟨⟨.rfl, rfl⟩, ⟨⟨.rfl, rfl⟩, ⟨⟨.rfl, rfl⟩, ⟨⟨.rfl, rfl⟩, ⟨⟨.rfl, rfl⟩, trivial⟩⟩⟩⟩⟩⟩, ⟨⟨rfl, .refl _, rfl⟩, ⟨⟨rfl, .refl _, rfl⟩, ⟨rfl, trivial⟩⟩⟩, rfl⟩
    · replace hh := if_f hb hh
      refine AEx.exit ?_
      refine AEx.seq ?_
      refine AEx.regionN rfl rfl ?_
      iterate 2 refine AOps.q hC rfl trivial ?_
      obtain ⟨x5, hx5, hh⟩ := bind_some hh
      refine AOps.g [2] rfl (types_expanded_ok hx5) ⟨.rfl, ⟨.rfl, trivial⟩⟩ rfl ⟨rfl, trivial⟩ rfl rfl ?_
      iterate 2 refine AOps.q hC rfl trivial ?_
      refine AOps.s hC rfl ?_
      refine AOps.q hC rfl trivial ?_
      refine AOps.nil ?_
      refine AEx.ret ?_
      obtain rfl := Option.some.inj hh
      exact ⟨_, _, [], rfl, .rfl, trivial, rfl, rfl, rfl, rfl⟩
theorem types_Expand_l1_ok {decls : List ApiDecl} {t : ApiType} {m2 : List (Str × ApiType)} {v16 : Int} {res : ApiType × Int} (hh : types_Expand_l1 decls t m2 v16 = some res) : ALoop (Fx.mk C 58 0) (lo (bk (sr (sl (sr (sr (bodyOf Tryd.f16))))))) (mkEnv [(3, .ref 0 0), (4, .ref 1 0), (6, .mp 2), (14, .d (.sl (ApiDecl.rows decls))), (15, .d (.int .i64 ((decls).length : Int))), (16, .d (.int .i64 v16))]) [.row (ApiType.cells t) 27, .row [.d (.int .i64 0), .d (.int .i64 0), .d (.int .i64 0), .d (.int .i64 0), .d (.str []), .full (estr.rows []), .full (ApiType.rows [])] 27, .map (ApiType.ents m2)] (Am.InBlock 0 (Am.Then (Fx.mk C 58 0) (sr (sr (sr (bodyOf Tryd.f16)))) (Am.Ends (Fx.mk C 58 0) Tryd.f16.results.toList (fun x H' => H' = [] ∧ x = .tup [.agg (ApiType.cells res.1), .d (.int .i64 res.2)])))) := (types_Expand_l1_grp decls t) _ _ _ hh
end Go.Proofs.YtonilfkaecbjnaaDoor
