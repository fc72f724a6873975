/- What the functions compute, and that they do: printed by gen.py. -/
import Derived.Test.YtonilfkaecbjnaaDoorDg5
set_option maxRecDepth 100000
set_option maxHeartbeats 4000000
set_option linter.unusedVariables false
namespace Go.Proofs.YtonilfkaecbjnaaDoor
open Go.Am
def ref12_Values (t : ApiType) : Option (Int × Int) :=
  ref12_Scalars t >>= fun x1 =>
  if (x1.2 != 0) = true then
    some (0, x1.2)
  else
    ref12_Values_l1 x1 1 0
theorem ref12_Values_ok {t : ApiType} {res : Int × Int} (hh : ref12_Values t = some res) : ACall C 22 [.agg (ApiType.cells t)] [] (fun x H' => H' = [] ∧ x = .tup [.d (.int .i64 res.1), .d (.int .i64 res.2)]) := by
  unfold ref12_Values at hh
  refine ACall.intro hC Tryd.func22 rfl rfl rfl ?_
  refine AEx.seq ?_
  refine AEx.regionN rfl rfl ?_
  refine AOps.n hC rfl ?_
  iterate 2 refine AOps.q hC rfl trivial ?_
  refine AOps.nil ?_
  refine AEx.seq ?_
  refine AEx.regionN rfl rfl ?_
  refine AOps.q hC rfl trivial ?_
  obtain ⟨x1, hx1, hh⟩ := bind_some hh
  refine AOps.c rfl rfl (ref12_Scalars_ok hx1) ?_
  iterate 5 refine AOps.q hC rfl trivial ?_
  refine AOps.nil ?_
  refine AEx.seq ?_
  refine AEx.seq ?_
  refine AEx.regionN rfl rfl ?_
  iterate 2 refine AOps.q hC rfl trivial ?_
  refine AOps.nil ?_
  refine AEx.cond rfl (fun hb => ?_) (fun hb => ?_)
  · replace hh := if_t hb hh
    refine AEx.seq ?_
    refine AEx.regionN rfl rfl ?_
    iterate 3 refine AOps.q hC rfl trivial ?_
    refine AOps.nil ?_
    refine AEx.ret ?_
    obtain rfl := Option.some.inj hh
    exact ⟨_, _, [], rfl, .rfl, trivial, rfl, rfl, rfl, rfl⟩
  · replace hh := if_f hb hh
    refine AEx.skip ?_
    refine AEx.seq ?_
    refine AEx.regionN rfl rfl ?_
    refine AOps.q hC rfl trivial ?_
    refine AOps.nil ?_
    refine AEx.seq ?_
    refine AEx.seq ?_
    refine AEx.regionN rfl rfl ?_
    refine AOps.q hC rfl trivial ?_
    refine AOps.nil ?_
    refine AEx.block ?_
    refine AEx.ofLoop ?_
    refine ALoop.wk ?_ (ref12_Values_l1_ok hh)
    exact ⟨⟨⟨.rfl, rfl⟩, ⟨⟨.rfl, rfl⟩, ⟨⟨.rfl, rfl⟩, trivial⟩⟩⟩, trivial, rfl⟩
def slices_Equal_api_Scalar_api_Scalar_l1 (s1 : List ApiScalar) (s2 : List ApiScalar) (v13 : Int) : Option Bool :=
  if (decide (v13 < ((s1).length : Int))) = true then
    idx s1 v13 >>= fun x1 =>
    idx s2 v13 >>= fun x2 =>
    if (!(bif (x1.Path == x2.Path) then (bif (x1.Bool == x2.Bool) then (bif (x1.Low == x2.Low) then (bif (x1.High == x2.High) then true else false) else false) else false) else false)) = true then
      some false
    else
      slices_Equal_api_Scalar_api_Scalar_l1 s1 s2 (IntKind.i64.wrap (v13 + 1))
  else
    some true
  partial_fixpoint
theorem slices_Equal_api_Scalar_api_Scalar_l1_grp (s1 : List ApiScalar) (s2 : List ApiScalar) : (∀ (v13 : Int) (res : Bool), slices_Equal_api_Scalar_api_Scalar_l1 s1 s2 v13 = some res → ALoop (Fx.mk C 26 0) (lo (bk (sr (sl (sr (sr (bodyOf Tryd.f23))))))) (mkEnv [(0, .d (.sl (ApiScalar.rows s1))), (1, .d (.sl (ApiScalar.rows s2))), (12, .d (.int .i64 ((s1).length : Int))), (13, .d (.int .i64 v13))]) [] (Am.InBlock 0 (Am.Then (Fx.mk C 26 0) (sr (sr (sr (bodyOf Tryd.f23)))) (Am.Ends (Fx.mk C 26 0) Tryd.f23.results.toList (fun x H' => H' = [] ∧ x = .d (.bool res)))))) := by
  refine slices_Equal_api_Scalar_api_Scalar_l1.partial_correctness s1
    s2
    (fun v13 res => ALoop (Fx.mk C 26 0) (lo (bk (sr (sl (sr (sr (bodyOf Tryd.f23))))))) (mkEnv [(0, .d (.sl (ApiScalar.rows s1))), (1, .d (.sl (ApiScalar.rows s2))), (12, .d (.int .i64 ((s1).length : Int))), (13, .d (.int .i64 v13))]) [] (Am.InBlock 0 (Am.Then (Fx.mk C 26 0) (sr (sr (sr (bodyOf Tryd.f23)))) (Am.Ends (Fx.mk C 26 0) Tryd.f23.results.toList (fun x H' => H' = [] ∧ x = .d (.bool res)))))) ?_
  · intro g0 ih0 v13 res hh
    refine ALoop.unroll ?_
    refine AEx.seq ?_
    refine AEx.regionN rfl rfl ?_
    refine AOps.q hC rfl trivial ?_
    refine AOps.nil ?_
    refine AEx.seq ?_
    refine AEx.cond rfl (fun hb => ?_) (fun hb => ?_)
    · replace hh := if_t hb hh
      refine AEx.skip ?_
      refine AEx.seq ?_
      refine AEx.block ?_
      refine AEx.seq ?_
      refine AEx.regionN rfl rfl ?_
      iterate 2 refine AOps.q hC rfl trivial ?_
      refine AOps.nil ?_
      refine AEx.seq ?_
      refine AEx.draw hC 9 rfl rfl rfl ?_
      refine AQ.q hC rfl trivial ?_
      refine AQ.q hC rfl trivial ?_
      obtain ⟨x1, hx1, hh⟩ := bind_some hh
      refine AQ.i hC rfl (idx_nat hx1) (ApiScalar.idx hx1) rfl ?_
      refine AQ.q hC rfl trivial ?_
      refine AQ.q hC rfl trivial ?_
      refine AQ.q hC rfl trivial ?_
      obtain ⟨x2, hx2, hh⟩ := bind_some hh
      refine AQ.i hC rfl (idx_nat hx2) (ApiScalar.idx hx2) rfl ?_
      refine AQ.q hC rfl trivial ?_
      refine AQ.se hC rfl (by kernel_rfl) ?_
      refine AQ.nil ?_
      refine AOps.nil ?_
      refine AEx.cond rfl (fun hb => ?_) (fun hb => ?_)
      · replace hh := if_t hb hh
        refine AEx.seq ?_
        refine AEx.regionN rfl rfl ?_
        refine AOps.q hC rfl trivial ?_
        refine AOps.nil ?_
        refine AEx.ret ?_
        obtain rfl := Option.some.inj hh
        exact ⟨_, _, [], rfl, .rfl, trivial, rfl, rfl, rfl, rfl⟩
      · replace hh := if_f hb hh
        refine AEx.skip ?_
        refine AEx.regionN rfl rfl ?_
        iterate 2 refine AOps.q hC rfl trivial ?_
        refine AOps.nil ?_
        refine ALoop.wk ?_ (ih0 _ _ hh)
        exact ⟨⟨⟨.rfl, rfl⟩, ⟨⟨.rfl, rfl⟩, ⟨⟨.rfl, rfl⟩, ⟨⟨.rfl, rfl⟩, trivial⟩⟩⟩⟩, trivial, rfl⟩
    · replace hh := if_f hb hh
      refine AEx.exit ?_
      refine AEx.seq ?_
      refine AEx.regionN rfl rfl ?_
      refine AOps.q hC rfl trivial ?_
      refine AOps.nil ?_
      refine AEx.ret ?_
      obtain rfl := Option.some.inj hh
      exact ⟨_, _, [], rfl, .rfl, trivial, rfl, rfl, rfl, rfl⟩
theorem slices_Equal_api_Scalar_api_Scalar_l1_ok {s1 : List ApiScalar} {s2 : List ApiScalar} {v13 : Int} {res : Bool} (hh : slices_Equal_api_Scalar_api_Scalar_l1 s1 s2 v13 = some res) : ALoop (Fx.mk C 26 0) (lo (bk (sr (sl (sr (sr (bodyOf Tryd.f23))))))) (mkEnv [(0, .d (.sl (ApiScalar.rows s1))), (1, .d (.sl (ApiScalar.rows s2))), (12, .d (.int .i64 ((s1).length : Int))), (13, .d (.int .i64 v13))]) [] (Am.InBlock 0 (Am.Then (Fx.mk C 26 0) (sr (sr (sr (bodyOf Tryd.f23)))) (Am.Ends (Fx.mk C 26 0) Tryd.f23.results.toList (fun x H' => H' = [] ∧ x = .d (.bool res))))) := (slices_Equal_api_Scalar_api_Scalar_l1_grp s1 s2) _ _ hh
def slices_Equal_api_Scalar_api_Scalar (s1 : List ApiScalar) (s2 : List ApiScalar) : Option Bool :=
  if (((s1).length : Int) != ((s2).length : Int)) = true then
    some false
  else
    slices_Equal_api_Scalar_api_Scalar_l1 s1 s2 0
theorem slices_Equal_api_Scalar_api_Scalar_ok {s1 : List ApiScalar} {s2 : List ApiScalar} {res : Bool} (hh : slices_Equal_api_Scalar_api_Scalar s1 s2 = some res) : ACall C 23 [.d (.sl (ApiScalar.rows s1)), .d (.sl (ApiScalar.rows s2))] [] (fun x H' => H' = [] ∧ x = .d (.bool res)) := by
  unfold slices_Equal_api_Scalar_api_Scalar at hh
  refine ACall.intro hC Tryd.func23 rfl rfl rfl ?_
  refine AEx.seq ?_
  refine AEx.regionN rfl rfl ?_
  refine AOps.q hC rfl trivial ?_
  refine AOps.nil ?_
  refine AEx.seq ?_
  refine AEx.seq ?_
  refine AEx.regionN rfl rfl ?_
  refine AOps.q hC rfl trivial ?_
  refine AOps.qe hC rfl trivial (ApiScalar.lenA _) ?_
  refine AOps.q hC rfl trivial ?_
  refine AOps.qe hC rfl trivial (ApiScalar.lenA _) ?_
  refine AOps.q hC rfl trivial ?_
  refine AOps.nil ?_
  refine AEx.cond rfl (fun hb => ?_) (fun hb => ?_)
  · replace hh := if_t hb hh
    refine AEx.seq ?_
    refine AEx.regionN rfl rfl ?_
    refine AOps.q hC rfl trivial ?_
    refine AOps.nil ?_
    refine AEx.ret ?_
    obtain rfl := Option.some.inj hh
    exact ⟨_, _, [], rfl, .rfl, trivial, rfl, rfl, rfl, rfl⟩
  · replace hh := if_f hb hh
    refine AEx.skip ?_
    refine AEx.seq ?_
    refine AEx.seq ?_
    refine AEx.regionN rfl rfl ?_
    refine AOps.q hC rfl trivial ?_
    refine AOps.qe hC rfl trivial (ApiScalar.lenA _) ?_
    refine AOps.q hC rfl trivial ?_
    refine AOps.nil ?_
    refine AEx.block ?_
    refine AEx.ofLoop ?_
    refine ALoop.wk ?_ (slices_Equal_api_Scalar_api_Scalar_l1_ok hh)
    exact ⟨⟨⟨.rfl, rfl⟩, ⟨⟨.rfl, rfl⟩, ⟨⟨.rfl, rfl⟩, ⟨⟨.rfl, rfl⟩, trivial⟩⟩⟩⟩, trivial, rfl⟩
def law12_TypesScalars (t : ApiType) : Option Bool :=
  law12_known >>= fun x1 =>
  if (!x1) = true then
    some false
  else
    law12_few t >>= fun x2 =>
    if (!x2) = true then
      some true
    else
      types_Scalars t >>= fun x3 =>
      ref12_Scalars t >>= fun x4 =>
      types_Values t >>= fun x5 =>
      ref12_Values t >>= fun x6 =>
      slices_Equal_api_Scalar_api_Scalar x3.1 x4.1 >>= fun x7 =>
      some (bif (bif (bif x7 then (x3.2 == x4.2) else false) then (x5.1 == x6.1) else false) then (x5.2 == x6.2) else false)
theorem law12_TypesScalars_ok {t : ApiType} {res : Bool} (hh : law12_TypesScalars t = some res) : ACall C 4 [.agg (ApiType.cells t)] [] (fun x H' => H' = [] ∧ x = .d (.bool res)) := by
  unfold law12_TypesScalars at hh
  refine ACall.intro hC Tryd.func4 rfl rfl rfl ?_
  refine AEx.seq ?_
  refine AEx.regionN rfl rfl ?_
  refine AOps.n hC rfl ?_
  refine AOps.q hC rfl trivial ?_
  refine AOps.nil ?_
  refine AEx.seq ?_
  refine AEx.seq ?_
  refine AEx.regionN rfl rfl ?_
  obtain ⟨x1, hx1, hh⟩ := bind_some hh
  refine AOps.c rfl rfl (law12_known_ok hx1) ?_
  refine AOps.q hC rfl trivial ?_
  refine AOps.nil ?_
  refine AEx.cond rfl (fun hb => ?_) (fun hb => ?_)
  · replace hh := if_t hb hh
    refine AEx.seq ?_
    refine AEx.regionN rfl rfl ?_
    refine AOps.q hC rfl trivial ?_
    refine AOps.nil ?_
    refine AEx.ret ?_
    obtain rfl := Option.some.inj hh
    exact ⟨_, _, [], rfl, .rfl, trivial, rfl, rfl, rfl, rfl⟩
  · replace hh := if_f hb hh
    refine AEx.skip ?_
    refine AEx.seq ?_
    refine AEx.seq ?_
    refine AEx.regionN rfl rfl ?_
    refine AOps.q hC rfl trivial ?_
    obtain ⟨x2, hx2, hh⟩ := bind_some hh
    refine AOps.c rfl rfl (law12_few_ok hx2) ?_
    refine AOps.q hC rfl trivial ?_
    refine AOps.nil ?_
    refine AEx.cond rfl (fun hb => ?_) (fun hb => ?_)
    · replace hh := if_t hb hh
      refine AEx.seq ?_
      refine AEx.regionN rfl rfl ?_
      refine AOps.q hC rfl trivial ?_
      refine AOps.nil ?_
      refine AEx.ret ?_
      obtain rfl := Option.some.inj hh
      exact ⟨_, _, [], rfl, .rfl, trivial, rfl, rfl, rfl, rfl⟩
    · replace hh := if_f hb hh
      refine AEx.skip ?_
      refine AEx.seq ?_
      refine AEx.regionN rfl rfl ?_
      refine AOps.q hC rfl trivial ?_
      obtain ⟨x3, hx3, hh⟩ := bind_some hh
      refine AOps.c rfl rfl (types_Scalars_ok hx3) ?_
      iterate 5 refine AOps.q hC rfl trivial ?_
      refine AOps.nil ?_
      refine AEx.seq ?_
      refine AEx.regionN rfl rfl ?_
      refine AOps.q hC rfl trivial ?_
      obtain ⟨x4, hx4, hh⟩ := bind_some hh
      refine AOps.c rfl rfl (ref12_Scalars_ok hx4) ?_
      iterate 5 refine AOps.q hC rfl trivial ?_
      refine AOps.nil ?_
      refine AEx.seq ?_
      refine AEx.regionN rfl rfl ?_
      refine AOps.q hC rfl trivial ?_
      obtain ⟨x5, hx5, hh⟩ := bind_some hh
      refine AOps.c rfl rfl (types_Values_ok hx5) ?_
      iterate 5 refine AOps.q hC rfl trivial ?_
      refine AOps.nil ?_
      refine AEx.seq ?_
      refine AEx.regionN rfl rfl ?_
      refine AOps.q hC rfl trivial ?_
      obtain ⟨x6, hx6, hh⟩ := bind_some hh
      refine AOps.c rfl rfl (ref12_Values_ok hx6) ?_
      iterate 5 refine AOps.q hC rfl trivial ?_
      refine AOps.nil ?_
      refine AEx.seq ?_
      refine AEx.regionG 19 rfl ?_
      refine AG.q hC rfl ?_ ?_
      · intro hg; refine And.intro ?_ ?_ <;> repeat' (first | exact True.intro | exact hg | exact and_l hg | exact and_l (and_l hg) | refine And.intro ?_ ?_)
      refine AG.q hC rfl ?_ ?_
      · intro hg; refine And.intro ?_ ?_ <;> repeat' (first | exact True.intro | exact hg | exact and_l hg | exact and_l (and_l hg) | refine And.intro ?_ ?_)
      obtain ⟨x7, hx7, hh⟩ := bind_some hh
      refine AG.c rfl rfl (by intro hg; repeat' (first | exact True.intro | exact hg | exact and_l hg | exact and_l (and_l hg) | refine And.intro ?_ ?_)) (fun _ => slices_Equal_api_Scalar_api_Scalar_ok hx7) ?_
      refine AG.q hC rfl ?_ ?_
      · intro hg; refine And.intro ?_ ?_ <;> repeat' (first | exact True.intro | exact hg | exact and_l hg | exact and_l (and_l hg) | refine And.intro ?_ ?_)
      refine AG.q hC rfl ?_ ?_
      · intro hg; refine And.intro ?_ ?_ <;> repeat' (first | exact True.intro | exact hg | exact and_l hg | exact and_l (and_l hg) | refine And.intro ?_ ?_)
      refine AG.q hC rfl ?_ ?_
      · intro hg; refine And.intro ?_ ?_ <;> repeat' (first | exact True.intro | exact hg | exact and_l hg | exact and_l (and_l hg) | refine And.intro ?_ ?_)
      refine AG.q hC rfl ?_ ?_
      · intro hg; refine And.intro ?_ ?_ <;> repeat' (first | exact True.intro | exact hg | exact and_l hg | exact and_l (and_l hg) | refine And.intro ?_ ?_)
      refine AG.p hC rfl ?_ ?_
      · intro hg; refine And.intro ?_ (And.intro ?_ ?_) <;> first | exact True.intro | exact fun _ => True.intro | exact And.intro hg True.intro | exact fun h' => And.intro (wb_f h') True.intro | exact fun h' => And.intro (wb_t h') True.intro | exact fun h' => And.intro (and_f hg h') True.intro | exact fun h' => And.intro (and_t hg h') True.intro | exact And.intro (and_l hg) True.intro
      refine AG.q hC rfl ?_ ?_
      · intro hg; refine And.intro ?_ ?_ <;> repeat' (first | exact True.intro | exact hg | exact and_l hg | exact and_l (and_l hg) | refine And.intro ?_ ?_)
      refine AG.q hC rfl ?_ ?_
      · intro hg; refine And.intro ?_ ?_ <;> repeat' (first | exact True.intro | exact hg | exact and_l hg | exact and_l (and_l hg) | refine And.intro ?_ ?_)
      refine AG.q hC rfl ?_ ?_
      · intro hg; refine And.intro ?_ ?_ <;> repeat' (first | exact True.intro | exact hg | exact and_l hg | exact and_l (and_l hg) | refine And.intro ?_ ?_)
      refine AG.q hC rfl ?_ ?_
      · intro hg; refine And.intro ?_ ?_ <;> repeat' (first | exact True.intro | exact hg | exact and_l hg | exact and_l (and_l hg) | refine And.intro ?_ ?_)
      refine AG.p hC rfl ?_ ?_
      · intro hg; refine And.intro ?_ (And.intro ?_ ?_) <;> first | exact True.intro | exact fun _ => True.intro | exact And.intro hg True.intro | exact fun h' => And.intro (wb_f h') True.intro | exact fun h' => And.intro (wb_t h') True.intro | exact fun h' => And.intro (and_f hg h') True.intro | exact fun h' => And.intro (and_t hg h') True.intro | exact And.intro (and_l hg) True.intro
      refine AG.q hC rfl ?_ ?_
      · intro hg; refine And.intro ?_ ?_ <;> repeat' (first | exact True.intro | exact hg | exact and_l hg | exact and_l (and_l hg) | refine And.intro ?_ ?_)
      refine AG.q hC rfl ?_ ?_
      · intro hg; refine And.intro ?_ ?_ <;> repeat' (first | exact True.intro | exact hg | exact and_l hg | exact and_l (and_l hg) | refine And.intro ?_ ?_)
      refine AG.q hC rfl ?_ ?_
      · intro hg; refine And.intro ?_ ?_ <;> repeat' (first | exact True.intro | exact hg | exact and_l hg | exact and_l (and_l hg) | refine And.intro ?_ ?_)
      refine AG.q hC rfl ?_ ?_
      · intro hg; refine And.intro ?_ ?_ <;> repeat' (first | exact True.intro | exact hg | exact and_l hg | exact and_l (and_l hg) | refine And.intro ?_ ?_)
      refine AG.p hC rfl ?_ ?_
      · intro hg; refine And.intro ?_ (And.intro ?_ ?_) <;> first | exact True.intro | exact fun _ => True.intro | exact And.intro hg True.intro | exact fun h' => And.intro (wb_f h') True.intro | exact fun h' => And.intro (wb_t h') True.intro | exact fun h' => And.intro (and_f hg h') True.intro | exact fun h' => And.intro (and_t hg h') True.intro | exact And.intro (and_l hg) True.intro
      refine AG.q hC rfl ?_ ?_
      · intro hg; refine And.intro ?_ ?_ <;> repeat' (first | exact True.intro | exact hg | exact and_l hg | exact and_l (and_l hg) | refine And.intro ?_ ?_)
      refine AG.nil ?_
      refine AOps.nil ?_
      refine AEx.ret ?_
      obtain rfl := Option.some.inj hh
      exact ⟨_, _, [], rfl, .rfl, trivial, rfl, rfl, rfl, rfl⟩
end Go.Proofs.YtonilfkaecbjnaaDoor
