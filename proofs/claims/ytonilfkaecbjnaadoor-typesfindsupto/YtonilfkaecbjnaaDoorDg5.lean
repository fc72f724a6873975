/- What the functions compute, and that they do: printed by gen.py. -/
import Derived.Test.YtonilfkaecbjnaaDoorDg4
set_option maxRecDepth 100000
set_option maxHeartbeats 4000000
set_option linter.unusedVariables false
namespace Go.Proofs.YtonilfkaecbjnaaDoor
open Go.Am
def ref10_verdict (s : Keyholeref10Size) (form : Bool) (names : Bool) (numbers : Bool) : Option Int :=
  if (bif (decide (s.nodes > 1024)) then true else (decide (s.depth > 12))) = true then
    some 4
  else
    if (!form) = true then
      some 1
    else
      if (!names) = true then
        some 7
      else
        if (!numbers) = true then
          some 3
        else
          some 0
theorem ref10_verdict_ok {s : Keyholeref10Size} {form : Bool} {names : Bool} {numbers : Bool} {res : Int} (hh : ref10_verdict s form names numbers = some res) : ACall C 105 [.agg (Keyholeref10Size.cells s), .d (.bool form), .d (.bool names), .d (.bool numbers)] [] (fun x H' => H' = [] ∧ x = .d (.int .i64 res)) := by
  unfold ref10_verdict at hh
  refine ACall.intro hC Tryd.func105 rfl rfl rfl ?_
  refine AEx.seq ?_
  refine AEx.regionN rfl rfl ?_
  refine AOps.n hC rfl ?_
  refine AOps.q hC rfl trivial ?_
  refine AOps.nil ?_
  refine AEx.seq ?_
  refine AEx.seq ?_
  refine AEx.regionG 8 rfl ?_
  refine AG.q hC rfl ?_ ?_
  · intro hg; refine And.intro ?_ ?_ <;> repeat' (first | exact True.intro | exact hg | exact and_l hg | exact and_l (and_l hg) | refine And.intro ?_ ?_)
  refine AG.q hC rfl ?_ ?_
  · intro hg; refine And.intro ?_ ?_ <;> repeat' (first | exact True.intro | exact hg | exact and_l hg | exact and_l (and_l hg) | refine And.intro ?_ ?_)
  refine AG.q hC rfl ?_ ?_
  · intro hg; refine And.intro ?_ ?_ <;> repeat' (first | exact True.intro | exact hg | exact and_l hg | exact and_l (and_l hg) | refine And.intro ?_ ?_)
  refine AG.q hC rfl ?_ ?_
  · intro hg; refine And.intro ?_ ?_ <;> repeat' (first | exact True.intro | exact hg | exact and_l hg | exact and_l (and_l hg) | refine And.intro ?_ ?_)
  refine AG.q hC rfl ?_ ?_
  · intro hg; refine And.intro ?_ ?_ <;> repeat' (first | exact True.intro | exact hg | exact and_l hg | exact and_l (and_l hg) | refine And.intro ?_ ?_)
  refine AG.q hC rfl ?_ ?_
  · intro hg; refine And.intro ?_ ?_ <;> repeat' (first | exact True.intro | exact hg | exact and_l hg | exact and_l (and_l hg) | refine And.intro ?_ ?_)
  refine AG.q hC rfl ?_ ?_
  · intro hg; refine And.intro ?_ ?_ <;> repeat' (first | exact True.intro | exact hg | exact and_l hg | exact and_l (and_l hg) | refine And.intro ?_ ?_)
  refine AG.p hC rfl ?_ ?_
  · intro hg; refine And.intro ?_ (And.intro ?_ ?_) <;> first | exact True.intro | exact fun _ => True.intro | exact And.intro hg True.intro | exact fun h' => And.intro (wb_f h') True.intro | exact fun h' => And.intro (wb_t h') True.intro | exact fun h' => And.intro (and_f hg h') True.intro | exact fun h' => And.intro (and_t hg h') True.intro | exact And.intro (and_l hg) True.intro
  refine AG.nil ?_
  refine AOps.nil ?_
  refine AEx.cond rfl (fun hb => ?_) (fun hb => ?_)
  · replace hh := if_t hb hh
    refine AEx.seq ?_
    refine AEx.regionN rfl rfl ?_
    refine AOps.q hC rfl trivial ?_
    refine AOps.nil ?_
    refine AEx.ret ?_
    obtain rfl := Option.some.inj hh
    exact ⟨_, _, [], rfl, .rfl, trivial, rfl, rfl, rfl, rfl⟩
  · replace hh := if_f hb hh
    refine AEx.skip ?_
    refine AEx.seq ?_
    refine AEx.seq ?_
    refine AEx.regionN rfl rfl ?_
    iterate 2 refine AOps.q hC rfl trivial ?_
    refine AOps.nil ?_
    refine AEx.cond rfl (fun hb => ?_) (fun hb => ?_)
    · replace hh := if_t hb hh
      refine AEx.seq ?_
      refine AEx.regionN rfl rfl ?_
      refine AOps.q hC rfl trivial ?_
      refine AOps.nil ?_
      refine AEx.ret ?_
      obtain rfl := Option.some.inj hh
      exact ⟨_, _, [], rfl, .rfl, trivial, rfl, rfl, rfl, rfl⟩
    · replace hh := if_f hb hh
      refine AEx.skip ?_
      refine AEx.seq ?_
      refine AEx.seq ?_
      refine AEx.regionN rfl rfl ?_
      iterate 2 refine AOps.q hC rfl trivial ?_
      refine AOps.nil ?_
      refine AEx.cond rfl (fun hb => ?_) (fun hb => ?_)
      · replace hh := if_t hb hh
        refine AEx.seq ?_
        refine AEx.regionN rfl rfl ?_
        refine AOps.q hC rfl trivial ?_
        refine AOps.nil ?_
        refine AEx.ret ?_
        obtain rfl := Option.some.inj hh
        exact ⟨_, _, [], rfl, .rfl, trivial, rfl, rfl, rfl, rfl⟩
      · replace hh := if_f hb hh
        refine AEx.skip ?_
        refine AEx.seq ?_
        refine AEx.seq ?_
        refine AEx.regionN rfl rfl ?_
        iterate 2 refine AOps.q hC rfl trivial ?_
        refine AOps.nil ?_
        refine AEx.cond rfl (fun hb => ?_) (fun hb => ?_)
        · replace hh := if_t hb hh
          refine AEx.seq ?_
          refine AEx.regionN rfl rfl ?_
          refine AOps.q hC rfl trivial ?_
          refine AOps.nil ?_
          refine AEx.ret ?_
          obtain rfl := Option.some.inj hh
          exact ⟨_, _, [], rfl, .rfl, trivial, rfl, rfl, rfl, rfl⟩
        · replace hh := if_f hb hh
          refine AEx.skip ?_
          refine AEx.seq ?_
          refine AEx.regionN rfl rfl ?_
          refine AOps.q hC rfl trivial ?_
          refine AOps.nil ?_
          refine AEx.ret ?_
          obtain rfl := Option.some.inj hh
          exact ⟨_, _, [], rfl, .rfl, trivial, rfl, rfl, rfl, rfl⟩
def ref10_CheckType (t : ApiType) : Option Int :=
  ref10_addType (Keyholeref10Size.mk 0 0) t true >>= fun x1 =>
  ref10_typeForm t >>= fun x2 =>
  ref10_typeNames t >>= fun x3 =>
  ref10_typeNumbers t >>= fun x4 =>
  ref10_verdict x1 x2 x3 x4 >>= fun x5 =>
  some x5
theorem ref10_CheckType_ok {t : ApiType} {res : Int} (hh : ref10_CheckType t = some res) : ACall C 60 [.agg (ApiType.cells t)] [] (fun x H' => H' = [] ∧ x = .d (.int .i64 res)) := by
  unfold ref10_CheckType at hh
  refine ACall.intro hC Tryd.func60 rfl rfl rfl ?_
  refine AEx.seq ?_
  refine AEx.regionN rfl rfl ?_
  refine AOps.n hC rfl ?_
  refine AOps.q hC rfl trivial ?_
  refine AOps.nil ?_
  refine AEx.seq ?_
  refine AEx.draw hC 11 rfl rfl rfl ?_
  refine AQ.q hC rfl trivial ?_
  refine AQ.q hC rfl trivial ?_
  obtain ⟨x1, hx1, hh⟩ := bind_some hh
  refine AQ.c rfl rfl (ref10_addType_ok hx1) ?_
  refine AQ.q hC rfl trivial ?_
  obtain ⟨x2, hx2, hh⟩ := bind_some hh
  refine AQ.c rfl rfl (ref10_typeForm_ok hx2) ?_
  refine AQ.q hC rfl trivial ?_
  obtain ⟨x3, hx3, hh⟩ := bind_some hh
  refine AQ.c rfl rfl (ref10_typeNames_ok hx3) ?_
  refine AQ.q hC rfl trivial ?_
  obtain ⟨x4, hx4, hh⟩ := bind_some hh
  refine AQ.c rfl rfl (ref10_typeNumbers_ok hx4) ?_
  obtain ⟨x5, hx5, hh⟩ := bind_some hh
  refine AQ.c rfl rfl (ref10_verdict_ok hx5) ?_
  refine AQ.q hC rfl trivial ?_
  refine AQ.nil ?_
  refine AOps.nil ?_
  refine AEx.ret ?_
  obtain rfl := Option.some.inj hh
  exact ⟨_, _, [], rfl, .rfl, trivial, rfl, rfl, rfl, rfl⟩
mutual
def ref12_doubled (t : ApiType) : Option Bool :=
  if (t.Kind == 3) = true then
    ref12_doubled_l1 t 0
  else
    ref12_doubled_j2 t
  partial_fixpoint
def ref12_doubled_j2 (t : ApiType) : Option Bool :=
  ref12_doubled_l4 t 0
  partial_fixpoint
def ref12_doubled_l4 (t : ApiType) (i2 : Int) : Option Bool :=
  if (decide (i2 < ((t.Of).length : Int))) = true then
    idx t.Of i2 >>= fun x3 =>
    ref12_doubled x3 >>= fun x4 =>
    if x4 = true then
      some true
    else
      ref12_doubled_l4 t (IntKind.i64.wrap (i2 + 1))
  else
    some false
  partial_fixpoint
def ref12_doubled_l1 (t : ApiType) (i : Int) : Option Bool :=
  if (decide (i < ((t.Names).length : Int))) = true then
    ref12_doubled_l3 t i 0
  else
    ref12_doubled_j2 t
  partial_fixpoint
def ref12_doubled_l3 (t : ApiType) (i1 : Int) (k : Int) : Option Bool :=
  if (decide (k < i1)) = true then
    idx t.Names i1 >>= fun x1 =>
    idx t.Names k >>= fun x2 =>
    if (x1 == x2) = true then
      some true
    else
      ref12_doubled_l3 t i1 (IntKind.i64.wrap (k + 1))
  else
    ref12_doubled_l1 t (IntKind.i64.wrap (i1 + 1))
  partial_fixpoint
end
theorem ref12_doubled_grp : (∀ (t : ApiType) (res : Bool), ref12_doubled t = some res → ACall C 62 [.agg (ApiType.cells t)] [] (fun x H' => H' = [] ∧ x = .d (.bool res))) ∧
    (∀ (t : ApiType) (res : Bool), ref12_doubled_j2 t = some res → AEx (Fx.mk C 45 0) (sr (sr (bodyOf Tryd.f62))) (mkEnv [(1, .ref 0 0)]) [.row (ApiType.cells t) 27] (Am.Ends (Fx.mk C 45 0) Tryd.f62.results.toList (fun x H' => H' = [] ∧ x = .d (.bool res)))) ∧
    (∀ (t : ApiType) (i2 : Int) (res : Bool), ref12_doubled_l4 t i2 = some res → ALoop (Fx.mk C 45 0) (lo (bk (sr (sl (sr (sr (bodyOf Tryd.f62))))))) (mkEnv [(1, .ref 0 0), (5, .d (.int .i64 i2))]) [.row (ApiType.cells t) 27] (Am.InBlock 4 (Am.Then (Fx.mk C 45 0) (sr (sr (sr (bodyOf Tryd.f62)))) (Am.Ends (Fx.mk C 45 0) Tryd.f62.results.toList (fun x H' => H' = [] ∧ x = .d (.bool res)))))) ∧
    (∀ (t : ApiType) (i : Int) (res : Bool), ref12_doubled_l1 t i = some res → ALoop (Fx.mk C 45 0) (lo (bk (sr (ca (sr (sl (sr (bodyOf Tryd.f62)))))))) (mkEnv [(1, .ref 0 0), (3, .d (.int .i64 i))]) [.row (ApiType.cells t) 27] (Am.InBlock 0 (Am.Then (Fx.mk C 45 0) (sr (sr (bodyOf Tryd.f62))) (Am.Ends (Fx.mk C 45 0) Tryd.f62.results.toList (fun x H' => H' = [] ∧ x = .d (.bool res)))))) ∧
    (∀ (t : ApiType) (i1 : Int) (k : Int) (res : Bool), ref12_doubled_l3 t i1 k = some res → ALoop (Fx.mk C 45 0) (lo (bk (sr (bk (sl (sr (lo (bk (sr (ca (sr (sl (sr (bodyOf Tryd.f62)))))))))))))) (mkEnv [(1, .ref 0 0), (3, .d (.int .i64 i1)), (4, .d (.int .i64 k))]) [.row (ApiType.cells t) 27] (Am.InBlock 2 (Am.InBlock 1 (Am.Then (Fx.mk C 45 0) (sr (sr (lo (bk (sr (ca (sr (sl (sr (bodyOf Tryd.f62)))))))))) (Am.Again (Fx.mk C 45 0) (lo (bk (sr (ca (sr (sl (sr (bodyOf Tryd.f62)))))))) (Am.InBlock 0 (Am.Then (Fx.mk C 45 0) (sr (sr (bodyOf Tryd.f62))) (Am.Ends (Fx.mk C 45 0) Tryd.f62.results.toList (fun x H' => H' = [] ∧ x = .d (.bool res)))))))))) := by
  refine ref12_doubled.mutual_partial_correctness (fun t res => ACall C 62 [.agg (ApiType.cells t)] [] (fun x H' => H' = [] ∧ x = .d (.bool res)))
    (fun t res => AEx (Fx.mk C 45 0) (sr (sr (bodyOf Tryd.f62))) (mkEnv [(1, .ref 0 0)]) [.row (ApiType.cells t) 27] (Am.Ends (Fx.mk C 45 0) Tryd.f62.results.toList (fun x H' => H' = [] ∧ x = .d (.bool res))))
    (fun t i2 res => ALoop (Fx.mk C 45 0) (lo (bk (sr (sl (sr (sr (bodyOf Tryd.f62))))))) (mkEnv [(1, .ref 0 0), (5, .d (.int .i64 i2))]) [.row (ApiType.cells t) 27] (Am.InBlock 4 (Am.Then (Fx.mk C 45 0) (sr (sr (sr (bodyOf Tryd.f62)))) (Am.Ends (Fx.mk C 45 0) Tryd.f62.results.toList (fun x H' => H' = [] ∧ x = .d (.bool res))))))
    (fun t i res => ALoop (Fx.mk C 45 0) (lo (bk (sr (ca (sr (sl (sr (bodyOf Tryd.f62)))))))) (mkEnv [(1, .ref 0 0), (3, .d (.int .i64 i))]) [.row (ApiType.cells t) 27] (Am.InBlock 0 (Am.Then (Fx.mk C 45 0) (sr (sr (bodyOf Tryd.f62))) (Am.Ends (Fx.mk C 45 0) Tryd.f62.results.toList (fun x H' => H' = [] ∧ x = .d (.bool res))))))
    (fun t i1 k res => ALoop (Fx.mk C 45 0) (lo (bk (sr (bk (sl (sr (lo (bk (sr (ca (sr (sl (sr (bodyOf Tryd.f62)))))))))))))) (mkEnv [(1, .ref 0 0), (3, .d (.int .i64 i1)), (4, .d (.int .i64 k))]) [.row (ApiType.cells t) 27] (Am.InBlock 2 (Am.InBlock 1 (Am.Then (Fx.mk C 45 0) (sr (sr (lo (bk (sr (ca (sr (sl (sr (bodyOf Tryd.f62)))))))))) (Am.Again (Fx.mk C 45 0) (lo (bk (sr (ca (sr (sl (sr (bodyOf Tryd.f62)))))))) (Am.InBlock 0 (Am.Then (Fx.mk C 45 0) (sr (sr (bodyOf Tryd.f62))) (Am.Ends (Fx.mk C 45 0) Tryd.f62.results.toList (fun x H' => H' = [] ∧ x = .d (.bool res)))))))))) ?_ ?_ ?_ ?_ ?_
  · intro g1 g3 ih1 ih3 t res hh
    refine ACall.intro hC Tryd.func62 rfl rfl rfl ?_
    refine AEx.seq ?_
    refine AEx.regionN rfl rfl ?_
    refine AOps.n hC rfl ?_
    refine AOps.q hC rfl trivial ?_
    refine AOps.nil ?_
    refine AEx.seq ?_
    refine AEx.seq ?_
    refine AEx.regionN rfl rfl ?_
    iterate 3 refine AOps.q hC rfl trivial ?_
    refine AOps.nil ?_
    refine AEx.cond rfl (fun hb => ?_) (fun hb => ?_)
    · replace hh := if_t hb hh
      refine AEx.seq ?_
      refine AEx.regionN rfl rfl ?_
      refine AOps.q hC rfl trivial ?_
      refine AOps.nil ?_
      refine AEx.block ?_
      refine AEx.ofLoop ?_
      refine ALoop.wk ?_ (ih3 _ _ _ hh)
      exact ⟨⟨⟨.rfl, rfl⟩, ⟨⟨.rfl, rfl⟩, trivial⟩⟩, ⟨⟨rfl, .refl _, rfl⟩, trivial⟩, rfl⟩
    · replace hh := if_f hb hh
      refine AEx.skip ?_
      refine AEx.wk ?_ (ih1 _ _ hh)
      exact ⟨⟨⟨.rfl, rfl⟩, trivial⟩, ⟨⟨rfl, .refl _, rfl⟩, trivial⟩, rfl⟩
  · intro g2 ih2 t res hh
    refine AEx.seq ?_
    refine AEx.seq ?_
    refine AEx.regionN rfl rfl ?_
    refine AOps.q hC rfl trivial ?_
    refine AOps.nil ?_
    refine AEx.block ?_
    refine AEx.ofLoop ?_
    refine ALoop.wk ?_ (ih2 _ _ _ hh)
    exact ⟨⟨⟨.rfl, rfl⟩, ⟨⟨.rfl, rfl⟩, trivial⟩⟩, ⟨⟨rfl, .refl _, rfl⟩, trivial⟩, rfl⟩
  · intro g0 g2 ih0 ih2 t i2 res hh
    refine ALoop.unroll ?_
    refine AEx.seq ?_
    refine AEx.seq ?_
    refine AEx.regionN rfl rfl ?_
    iterate 3 refine AOps.q hC rfl trivial ?_
    refine AOps.qe hC rfl trivial (ApiType.lenA _) ?_
    refine AOps.q hC rfl trivial ?_
    refine AOps.nil ?_
    refine AEx.cond rfl (fun hb => ?_) (fun hb => ?_)
    · replace hh := if_t hb hh
      refine AEx.skip ?_
      refine AEx.seq ?_
      refine AEx.block ?_
      refine AEx.seq ?_
      refine AEx.regionN rfl rfl ?_
      iterate 3 refine AOps.q hC rfl trivial ?_
      obtain ⟨x3, hx3, hh⟩ := bind_some hh
      refine AOps.i hC rfl (idx_nat hx3) (ApiType.idx hx3) rfl ?_
      refine AOps.q hC rfl trivial ?_
      obtain ⟨x4, hx4, hh⟩ := bind_some hh
      refine AOps.c rfl rfl (ih0 _ _ hx4) ?_
      refine AOps.nil ?_
      refine AEx.cond rfl (fun hb => ?_) (fun hb => ?_)
      · replace hh := if_t hb hh
        refine AEx.seq ?_
        refine AEx.regionN rfl rfl ?_
        refine AOps.q hC rfl trivial ?_
        refine AOps.nil ?_
        refine AEx.ret ?_
        obtain rfl := Option.some.inj hh
        exact ⟨_, _, [], rfl, .rfl, trivial, rfl, rfl, rfl, rfl⟩
      · replace hh := if_f hb hh
        refine AEx.skip ?_
        refine AEx.regionN rfl rfl ?_
        iterate 3 refine AOps.q hC rfl trivial ?_
        refine AOps.nil ?_
        refine ALoop.wk ?_ (ih2 _ _ _ hh)
        exact ⟨⟨⟨.rfl, rfl⟩, ⟨⟨.rfl, rfl⟩, trivial⟩⟩, ⟨⟨rfl, .refl _, rfl⟩, trivial⟩, rfl⟩
    · replace hh := if_f hb hh
      refine AEx.exit ?_
      refine AEx.seq ?_
      refine AEx.regionN rfl rfl ?_
      refine AOps.q hC rfl trivial ?_
      refine AOps.nil ?_
      refine AEx.ret ?_
      obtain rfl := Option.some.inj hh
      exact ⟨_, _, [], rfl, .rfl, trivial, rfl, rfl, rfl, rfl⟩
  · intro g1 g4 ih1 ih4 t i res hh
    refine ALoop.unroll ?_
    refine AEx.seq ?_
    refine AEx.seq ?_
    refine AEx.regionN rfl rfl ?_
    iterate 3 refine AOps.q hC rfl trivial ?_
    refine AOps.qe hC rfl trivial (estr.lenA _) ?_
    refine AOps.q hC rfl trivial ?_
    refine AOps.nil ?_
    refine AEx.cond rfl (fun hb => ?_) (fun hb => ?_)
    · replace hh := if_t hb hh
      refine AEx.skip ?_
      refine AEx.seq ?_
      refine AEx.block ?_
      refine AEx.seq ?_
      refine AEx.regionN rfl rfl ?_
      refine AOps.q hC rfl trivial ?_
      refine AOps.nil ?_
      refine AEx.block ?_
      refine AEx.ofLoop ?_
      refine ALoop.wk ?_ (ih4 _ _ _ _ hh)
      exact ⟨⟨⟨.rfl, rfl⟩, ⟨⟨.rfl, rfl⟩, ⟨⟨.rfl, rfl⟩, trivial⟩⟩⟩, ⟨⟨rfl, .refl _, rfl⟩, trivial⟩, rfl⟩
    · replace hh := if_f hb hh
      refine AEx.exit ?_
      refine AEx.wk ?_ (ih1 _ _ hh)
      exact ⟨⟨⟨.rfl, rfl⟩, trivial⟩, ⟨⟨rfl, .refl _, rfl⟩, trivial⟩, rfl⟩
  · intro g3 g4 ih3 ih4 t i1 k res hh
    refine ALoop.unroll ?_
    refine AEx.seq ?_
    refine AEx.seq ?_
    refine AEx.regionN rfl rfl ?_
    iterate 3 refine AOps.q hC rfl trivial ?_
    refine AOps.nil ?_
    refine AEx.cond rfl (fun hb => ?_) (fun hb => ?_)
    · replace hh := if_t hb hh
      refine AEx.skip ?_
      refine AEx.seq ?_
      refine AEx.block ?_
      refine AEx.seq ?_
      refine AEx.draw hC 11 rfl rfl rfl ?_
      refine AQ.q hC rfl trivial ?_
      refine AQ.q hC rfl trivial ?_
      refine AQ.q hC rfl trivial ?_
      obtain ⟨x1, hx1, hh⟩ := bind_some hh
      refine AQ.i hC rfl (idx_nat hx1) (estr.idx hx1) rfl ?_
      refine AQ.q hC rfl trivial ?_
      refine AQ.q hC rfl trivial ?_
      refine AQ.q hC rfl trivial ?_
      refine AQ.q hC rfl trivial ?_
      obtain ⟨x2, hx2, hh⟩ := bind_some hh
      refine AQ.i hC rfl (idx_nat hx2) (estr.idx hx2) rfl ?_
      refine AQ.q hC rfl trivial ?_
      refine AQ.q hC rfl trivial ?_
      refine AQ.nil ?_
      refine AOps.nil ?_
      refine AEx.cond rfl (fun hb => ?_) (fun hb => ?_)
      · replace hh := if_t hb hh
        refine AEx.seq ?_
        refine AEx.regionN rfl rfl ?_
        refine AOps.q hC rfl trivial ?_
        refine AOps.nil ?_
        refine AEx.ret ?_
        obtain rfl := Option.some.inj hh
        exact ⟨_, _, [], rfl, .rfl, trivial, rfl, rfl, rfl, rfl⟩
      · replace hh := if_f hb hh
        refine AEx.skip ?_
        refine AEx.regionN rfl rfl ?_
        iterate 3 refine AOps.q hC rfl trivial ?_
        refine AOps.nil ?_
        refine ALoop.wk ?_ (ih4 _ _ _ _ hh)
        exact ⟨⟨⟨.rfl, rfl⟩, ⟨⟨.rfl, rfl⟩, ⟨⟨.rfl, rfl⟩, trivial⟩⟩⟩, ⟨⟨rfl, .refl _, rfl⟩, trivial⟩, rfl⟩
    · replace hh := if_f hb hh
      refine AEx.exit ?_
      refine AEx.regionN rfl rfl ?_
      iterate 3 refine AOps.q hC rfl trivial ?_
      refine AOps.nil ?_
      refine ALoop.wk ?_ (ih3 _ _ _ hh)
      exact ⟨⟨⟨.rfl, rfl⟩, ⟨⟨.rfl, rfl⟩, trivial⟩⟩, ⟨⟨rfl, .refl _, rfl⟩, trivial⟩, rfl⟩
theorem ref12_doubled_ok {t : ApiType} {res : Bool} (hh : ref12_doubled t = some res) : ACall C 62 [.agg (ApiType.cells t)] [] (fun x H' => H' = [] ∧ x = .d (.bool res)) := (ref12_doubled_grp).1 _ _ hh
theorem ref12_doubled_j2_ok {t : ApiType} {res : Bool} (hh : ref12_doubled_j2 t = some res) : AEx (Fx.mk C 45 0) (sr (sr (bodyOf Tryd.f62))) (mkEnv [(1, .ref 0 0)]) [.row (ApiType.cells t) 27] (Am.Ends (Fx.mk C 45 0) Tryd.f62.results.toList (fun x H' => H' = [] ∧ x = .d (.bool res))) := (ref12_doubled_grp).2.1 _ _ hh
theorem ref12_doubled_l4_ok {t : ApiType} {i2 : Int} {res : Bool} (hh : ref12_doubled_l4 t i2 = some res) : ALoop (Fx.mk C 45 0) (lo (bk (sr (sl (sr (sr (bodyOf Tryd.f62))))))) (mkEnv [(1, .ref 0 0), (5, .d (.int .i64 i2))]) [.row (ApiType.cells t) 27] (Am.InBlock 4 (Am.Then (Fx.mk C 45 0) (sr (sr (sr (bodyOf Tryd.f62)))) (Am.Ends (Fx.mk C 45 0) Tryd.f62.results.toList (fun x H' => H' = [] ∧ x = .d (.bool res))))) := (ref12_doubled_grp).2.2.1 _ _ _ hh
theorem ref12_doubled_l1_ok {t : ApiType} {i : Int} {res : Bool} (hh : ref12_doubled_l1 t i = some res) : ALoop (Fx.mk C 45 0) (lo (bk (sr (ca (sr (sl (sr (bodyOf Tryd.f62)))))))) (mkEnv [(1, .ref 0 0), (3, .d (.int .i64 i))]) [.row (ApiType.cells t) 27] (Am.InBlock 0 (Am.Then (Fx.mk C 45 0) (sr (sr (bodyOf Tryd.f62))) (Am.Ends (Fx.mk C 45 0) Tryd.f62.results.toList (fun x H' => H' = [] ∧ x = .d (.bool res))))) := (ref12_doubled_grp).2.2.2.1 _ _ _ hh
theorem ref12_doubled_l3_ok {t : ApiType} {i1 : Int} {k : Int} {res : Bool} (hh : ref12_doubled_l3 t i1 k = some res) : ALoop (Fx.mk C 45 0) (lo (bk (sr (bk (sl (sr (lo (bk (sr (ca (sr (sl (sr (bodyOf Tryd.f62)))))))))))))) (mkEnv [(1, .ref 0 0), (3, .d (.int .i64 i1)), (4, .d (.int .i64 k))]) [.row (ApiType.cells t) 27] (Am.InBlock 2 (Am.InBlock 1 (Am.Then (Fx.mk C 45 0) (sr (sr (lo (bk (sr (ca (sr (sl (sr (bodyOf Tryd.f62)))))))))) (Am.Again (Fx.mk C 45 0) (lo (bk (sr (ca (sr (sl (sr (bodyOf Tryd.f62)))))))) (Am.InBlock 0 (Am.Then (Fx.mk C 45 0) (sr (sr (bodyOf Tryd.f62))) (Am.Ends (Fx.mk C 45 0) Tryd.f62.results.toList (fun x H' => H' = [] ∧ x = .d (.bool res))))))))) := (ref12_doubled_grp).2.2.2.2 _ _ _ _ hh
mutual
def ref12_count (t : ApiType) : Option Int :=
  if (t.Kind == 2) = true then
    idx t.Of 0 >>= fun x1 =>
    ref12_count x1 >>= fun x3 =>
    ref12_count_j1 t (IntKind.i64.wrap (t.Size * x3))
  else
    ref12_count_j1 t 1
  partial_fixpoint
def ref12_count_j1 (t : ApiType) (n : Int) : Option Int :=
  if (t.Kind == 3) = true then
    ref12_count_l2 t 0 0
  else
    if (decide (n > 32)) = true then
      some 33
    else
      some n
  partial_fixpoint
def ref12_count_l2 (t : ApiType) (n1 : Int) (i : Int) : Option Int :=
  if (decide (i < ((t.Of).length : Int))) = true then
    idx t.Of i >>= fun x2 =>
    ref12_count x2 >>= fun x4 =>
    ref12_count_l2 t (IntKind.i64.wrap (n1 + x4)) (IntKind.i64.wrap (i + 1))
  else
    if (decide (n1 > 32)) = true then
      some 33
    else
      some n1
  partial_fixpoint
end
theorem ref12_count_grp : (∀ (t : ApiType) (res : Int), ref12_count t = some res → ACall C 63 [.agg (ApiType.cells t)] [] (fun x H' => H' = [] ∧ x = .d (.int .i64 res))) ∧
    (∀ (t : ApiType) (n : Int) (res : Int), ref12_count_j1 t n = some res → AEx (Fx.mk C 37 0) (sr (sr (sr (bodyOf Tryd.f63)))) (mkEnv [(1, .ref 0 0), (3, .d (.int .i64 n))]) [.row (ApiType.cells t) 27] (Am.Ends (Fx.mk C 37 0) Tryd.f63.results.toList (fun x H' => H' = [] ∧ x = .d (.int .i64 res)))) ∧
    (∀ (t : ApiType) (n1 : Int) (i : Int) (res : Int), ref12_count_l2 t n1 i = some res → ALoop (Fx.mk C 37 0) (lo (bk (sr (sr (ca (sr (sl (sr (sr (sr (bodyOf Tryd.f63))))))))))) (mkEnv [(1, .ref 0 0), (3, .d (.int .i64 n1)), (4, .d (.int .i64 i))]) [.row (ApiType.cells t) 27] (Am.InBlock 0 (Am.Then (Fx.mk C 37 0) (sr (sr (sr (sr (bodyOf Tryd.f63))))) (Am.Ends (Fx.mk C 37 0) Tryd.f63.results.toList (fun x H' => H' = [] ∧ x = .d (.int .i64 res)))))) := by
  refine ref12_count.mutual_partial_correctness (fun t res => ACall C 63 [.agg (ApiType.cells t)] [] (fun x H' => H' = [] ∧ x = .d (.int .i64 res)))
    (fun t n res => AEx (Fx.mk C 37 0) (sr (sr (sr (bodyOf Tryd.f63)))) (mkEnv [(1, .ref 0 0), (3, .d (.int .i64 n))]) [.row (ApiType.cells t) 27] (Am.Ends (Fx.mk C 37 0) Tryd.f63.results.toList (fun x H' => H' = [] ∧ x = .d (.int .i64 res))))
    (fun t n1 i res => ALoop (Fx.mk C 37 0) (lo (bk (sr (sr (ca (sr (sl (sr (sr (sr (bodyOf Tryd.f63))))))))))) (mkEnv [(1, .ref 0 0), (3, .d (.int .i64 n1)), (4, .d (.int .i64 i))]) [.row (ApiType.cells t) 27] (Am.InBlock 0 (Am.Then (Fx.mk C 37 0) (sr (sr (sr (sr (bodyOf Tryd.f63))))) (Am.Ends (Fx.mk C 37 0) Tryd.f63.results.toList (fun x H' => H' = [] ∧ x = .d (.int .i64 res)))))) ?_ ?_ ?_
  · intro g0 g1 ih0 ih1 t res hh
    refine ACall.intro hC Tryd.func63 rfl rfl rfl ?_
    refine AEx.seq ?_
    refine AEx.regionN rfl rfl ?_
    refine AOps.n hC rfl ?_
    refine AOps.q hC rfl trivial ?_
    refine AOps.nil ?_
    refine AEx.seq ?_
    refine AEx.regionN rfl rfl ?_
    refine AOps.q hC rfl trivial ?_
    refine AOps.nil ?_
    refine AEx.seq ?_
    refine AEx.seq ?_
    refine AEx.regionN rfl rfl ?_
    iterate 3 refine AOps.q hC rfl trivial ?_
    refine AOps.nil ?_
    refine AEx.cond rfl (fun hb => ?_) (fun hb => ?_)
    · replace hh := if_t hb hh
      refine AEx.draw hC 9 rfl rfl rfl ?_
      refine AQ.q hC rfl trivial ?_
      refine AQ.q hC rfl trivial ?_
      refine AQ.q hC rfl trivial ?_
      refine AQ.q hC rfl trivial ?_
      obtain ⟨x1, hx1, hh⟩ := bind_some hh
      refine AQ.i hC rfl (idx_nat hx1) (ApiType.idx hx1) rfl ?_
      refine AQ.q hC rfl trivial ?_
      obtain ⟨x3, hx3, hh⟩ := bind_some hh
      refine AQ.c rfl rfl (ih0 _ _ hx3) ?_
      refine AQ.q hC rfl trivial ?_
      refine AQ.q hC rfl trivial ?_
      refine AQ.nil ?_
      refine AOps.nil ?_
      refine AEx.wk ?_ (ih1 _ _ _ hh)
      exact ⟨⟨⟨.rfl, rfl⟩, ⟨⟨.rfl, rfl⟩, trivial⟩⟩, ⟨⟨rfl, .refl _, rfl⟩, trivial⟩, rfl⟩
    · replace hh := if_f hb hh
      refine AEx.skip ?_
      refine AEx.wk ?_ (ih1 _ _ _ hh)
      exact ⟨⟨⟨.rfl, rfl⟩, ⟨⟨.rfl, rfl⟩, trivial⟩⟩, ⟨⟨rfl, .refl _, rfl⟩, trivial⟩, rfl⟩
  · intro g2 ih2 t n res hh
    refine AEx.seq ?_
    refine AEx.seq ?_
    refine AEx.regionN rfl rfl ?_
    iterate 3 refine AOps.q hC rfl trivial ?_
    refine AOps.nil ?_
    refine AEx.cond rfl (fun hb => ?_) (fun hb => ?_)
    · replace hh := if_t hb hh
      refine AEx.seq ?_
      refine AEx.regionN rfl rfl ?_
      refine AOps.q hC rfl trivial ?_
      refine AOps.nil ?_
      refine AEx.seq ?_
      refine AEx.regionN rfl rfl ?_
      refine AOps.q hC rfl trivial ?_
      refine AOps.nil ?_
      refine AEx.block ?_
      refine AEx.ofLoop ?_
      refine ALoop.wk ?_ (ih2 _ _ _ _ hh)
      exact ⟨⟨⟨.rfl, rfl⟩, ⟨⟨.rfl, rfl⟩, ⟨⟨.rfl, rfl⟩, trivial⟩⟩⟩, ⟨⟨rfl, .refl _, rfl⟩, trivial⟩, rfl⟩
    · replace hh := if_f hb hh
      refine AEx.skip ?_
      refine AEx.seq ?_
      refine AEx.seq ?_
      refine AEx.regionN rfl rfl ?_
      iterate 2 refine AOps.q hC rfl trivial ?_
      refine AOps.nil ?_
      refine AEx.cond rfl (fun hb => ?_) (fun hb => ?_)
      · replace hh := if_t hb hh
        refine AEx.seq ?_
        refine AEx.regionN rfl rfl ?_
        refine AOps.q hC rfl trivial ?_
        refine AOps.nil ?_
        refine AEx.ret ?_
        obtain rfl := Option.some.inj hh
        exact ⟨_, _, [], rfl, .rfl, trivial, rfl, rfl, rfl, rfl⟩
      · replace hh := if_f hb hh
        refine AEx.skip ?_
        refine AEx.seq ?_
        refine AEx.regionN rfl rfl ?_
        iterate 2 refine AOps.q hC rfl trivial ?_
        refine AOps.nil ?_
        refine AEx.ret ?_
        obtain rfl := Option.some.inj hh
        exact ⟨_, _, [], rfl, .rfl, trivial, rfl, rfl, rfl, rfl⟩
  · intro g0 g2 ih0 ih2 t n1 i res hh
    refine ALoop.unroll ?_
    refine AEx.seq ?_
    refine AEx.seq ?_
    refine AEx.regionN rfl rfl ?_
    iterate 3 refine AOps.q hC rfl trivial ?_
    refine AOps.qe hC rfl trivial (ApiType.lenA _) ?_
    refine AOps.q hC rfl trivial ?_
    refine AOps.nil ?_
    refine AEx.cond rfl (fun hb => ?_) (fun hb => ?_)
    · replace hh := if_t hb hh
      refine AEx.skip ?_
      refine AEx.seq ?_
      refine AEx.block ?_
      refine AEx.regionN rfl rfl ?_
      iterate 4 refine AOps.q hC rfl trivial ?_
      obtain ⟨x2, hx2, hh⟩ := bind_some hh
      refine AOps.i hC rfl (idx_nat hx2) (ApiType.idx hx2) rfl ?_
      refine AOps.q hC rfl trivial ?_
      obtain ⟨x4, hx4, hh⟩ := bind_some hh
      refine AOps.c rfl rfl (ih0 _ _ hx4) ?_
      iterate 2 refine AOps.q hC rfl trivial ?_
      refine AOps.nil ?_
      refine AEx.regionN rfl rfl ?_
      iterate 3 refine AOps.q hC rfl trivial ?_
      refine AOps.nil ?_
      refine ALoop.wk ?_ (ih2 _ _ _ _ hh)
      exact ⟨⟨⟨.rfl, rfl⟩, ⟨⟨.rfl, rfl⟩, ⟨⟨.rfl, rfl⟩, trivial⟩⟩⟩, ⟨⟨rfl, .refl _, rfl⟩, trivial⟩, rfl⟩
    · replace hh := if_f hb hh
      refine AEx.exit ?_
      refine AEx.seq ?_
      refine AEx.seq ?_
      refine AEx.regionN rfl rfl ?_
      iterate 2 refine AOps.q hC rfl trivial ?_
      refine AOps.nil ?_
      refine AEx.cond rfl (fun hb => ?_) (fun hb => ?_)
      · replace hh := if_t hb hh
        refine AEx.seq ?_
        refine AEx.regionN rfl rfl ?_
        refine AOps.q hC rfl trivial ?_
        refine AOps.nil ?_
        refine AEx.ret ?_
        obtain rfl := Option.some.inj hh
        exact ⟨_, _, [], rfl, .rfl, trivial, rfl, rfl, rfl, rfl⟩
      · replace hh := if_f hb hh
        refine AEx.skip ?_
        refine AEx.seq ?_
        refine AEx.regionN rfl rfl ?_
        iterate 2 refine AOps.q hC rfl trivial ?_
        refine AOps.nil ?_
        refine AEx.ret ?_
        obtain rfl := Option.some.inj hh
        exact ⟨_, _, [], rfl, .rfl, trivial, rfl, rfl, rfl, rfl⟩
theorem ref12_count_ok {t : ApiType} {res : Int} (hh : ref12_count t = some res) : ACall C 63 [.agg (ApiType.cells t)] [] (fun x H' => H' = [] ∧ x = .d (.int .i64 res)) := (ref12_count_grp).1 _ _ hh
theorem ref12_count_j1_ok {t : ApiType} {n : Int} {res : Int} (hh : ref12_count_j1 t n = some res) : AEx (Fx.mk C 37 0) (sr (sr (sr (bodyOf Tryd.f63)))) (mkEnv [(1, .ref 0 0), (3, .d (.int .i64 n))]) [.row (ApiType.cells t) 27] (Am.Ends (Fx.mk C 37 0) Tryd.f63.results.toList (fun x H' => H' = [] ∧ x = .d (.int .i64 res))) := (ref12_count_grp).2.1 _ _ _ hh
theorem ref12_count_l2_ok {t : ApiType} {n1 : Int} {i : Int} {res : Int} (hh : ref12_count_l2 t n1 i = some res) : ALoop (Fx.mk C 37 0) (lo (bk (sr (sr (ca (sr (sl (sr (sr (sr (bodyOf Tryd.f63))))))))))) (mkEnv [(1, .ref 0 0), (3, .d (.int .i64 n1)), (4, .d (.int .i64 i))]) [.row (ApiType.cells t) 27] (Am.InBlock 0 (Am.Then (Fx.mk C 37 0) (sr (sr (sr (sr (bodyOf Tryd.f63))))) (Am.Ends (Fx.mk C 37 0) Tryd.f63.results.toList (fun x H' => H' = [] ∧ x = .d (.int .i64 res))))) := (ref12_count_grp).2.2 _ _ _ _ hh
mutual
def ref12_named (t : ApiType) : Option Bool :=
  if (t.Kind == 4) = true then
    some true
  else
    ref12_named_l1 t 0
  partial_fixpoint
def ref12_named_l1 (t : ApiType) (i : Int) : Option Bool :=
  if (decide (i < ((t.Of).length : Int))) = true then
    idx t.Of i >>= fun x1 =>
    ref12_named x1 >>= fun x2 =>
    if x2 = true then
      some true
    else
      ref12_named_l1 t (IntKind.i64.wrap (i + 1))
  else
    some false
  partial_fixpoint
end
theorem ref12_named_grp : (∀ (t : ApiType) (res : Bool), ref12_named t = some res → ACall C 61 [.agg (ApiType.cells t)] [] (fun x H' => H' = [] ∧ x = .d (.bool res))) ∧
    (∀ (t : ApiType) (i : Int) (res : Bool), ref12_named_l1 t i = some res → ALoop (Fx.mk C 20 0) (lo (bk (sr (sl (sr (sr (bodyOf Tryd.f61))))))) (mkEnv [(1, .ref 0 0), (3, .d (.int .i64 i))]) [.row (ApiType.cells t) 27] (Am.InBlock 0 (Am.Then (Fx.mk C 20 0) (sr (sr (sr (bodyOf Tryd.f61)))) (Am.Ends (Fx.mk C 20 0) Tryd.f61.results.toList (fun x H' => H' = [] ∧ x = .d (.bool res)))))) := by
  refine ref12_named.mutual_partial_correctness (fun t res => ACall C 61 [.agg (ApiType.cells t)] [] (fun x H' => H' = [] ∧ x = .d (.bool res)))
    (fun t i res => ALoop (Fx.mk C 20 0) (lo (bk (sr (sl (sr (sr (bodyOf Tryd.f61))))))) (mkEnv [(1, .ref 0 0), (3, .d (.int .i64 i))]) [.row (ApiType.cells t) 27] (Am.InBlock 0 (Am.Then (Fx.mk C 20 0) (sr (sr (sr (bodyOf Tryd.f61)))) (Am.Ends (Fx.mk C 20 0) Tryd.f61.results.toList (fun x H' => H' = [] ∧ x = .d (.bool res)))))) ?_ ?_
  · intro g1 ih1 t res hh
    refine ACall.intro hC Tryd.func61 rfl rfl rfl ?_
    refine AEx.seq ?_
    refine AEx.regionN rfl rfl ?_
    refine AOps.n hC rfl ?_
    refine AOps.q hC rfl trivial ?_
    refine AOps.nil ?_
    refine AEx.seq ?_
    refine AEx.seq ?_
    refine AEx.regionN rfl rfl ?_
    iterate 3 refine AOps.q hC rfl trivial ?_
    refine AOps.nil ?_
    refine AEx.cond rfl (fun hb => ?_) (fun hb => ?_)
    · replace hh := if_t hb hh
      refine AEx.seq ?_
      refine AEx.regionN rfl rfl ?_
      refine AOps.q hC rfl trivial ?_
      refine AOps.nil ?_
      refine AEx.ret ?_
      obtain rfl := Option.some.inj hh
      exact ⟨_, _, [], rfl, .rfl, trivial, rfl, rfl, rfl, rfl⟩
    · replace hh := if_f hb hh
      refine AEx.skip ?_
      refine AEx.seq ?_
      refine AEx.seq ?_
      refine AEx.regionN rfl rfl ?_
      refine AOps.q hC rfl trivial ?_
      refine AOps.nil ?_
      refine AEx.block ?_
      refine AEx.ofLoop ?_
      refine ALoop.wk ?_ (ih1 _ _ _ hh)
      exact ⟨⟨⟨.rfl, rfl⟩, ⟨⟨.rfl, rfl⟩, trivial⟩⟩, ⟨⟨rfl, .refl _, rfl⟩, trivial⟩, rfl⟩
  · intro g0 g1 ih0 ih1 t i res hh
    refine ALoop.unroll ?_
    refine AEx.seq ?_
    refine AEx.seq ?_
    refine AEx.regionN rfl rfl ?_
    iterate 3 refine AOps.q hC rfl trivial ?_
    refine AOps.qe hC rfl trivial (ApiType.lenA _) ?_
    refine AOps.q hC rfl trivial ?_
    refine AOps.nil ?_
    refine AEx.cond rfl (fun hb => ?_) (fun hb => ?_)
    · replace hh := if_t hb hh
      refine AEx.skip ?_
      refine AEx.seq ?_
      refine AEx.block ?_
      refine AEx.seq ?_
      refine AEx.regionN rfl rfl ?_
      iterate 3 refine AOps.q hC rfl trivial ?_
      obtain ⟨x1, hx1, hh⟩ := bind_some hh
      refine AOps.i hC rfl (idx_nat hx1) (ApiType.idx hx1) rfl ?_
      refine AOps.q hC rfl trivial ?_
      obtain ⟨x2, hx2, hh⟩ := bind_some hh
      refine AOps.c rfl rfl (ih0 _ _ hx2) ?_
      refine AOps.nil ?_
      refine AEx.cond rfl (fun hb => ?_) (fun hb => ?_)
      · replace hh := if_t hb hh
        refine AEx.seq ?_
        refine AEx.regionN rfl rfl ?_
        refine AOps.q hC rfl trivial ?_
        refine AOps.nil ?_
        refine AEx.ret ?_
        obtain rfl := Option.some.inj hh
        exact ⟨_, _, [], rfl, .rfl, trivial, rfl, rfl, rfl, rfl⟩
      · replace hh := if_f hb hh
        refine AEx.skip ?_
        refine AEx.regionN rfl rfl ?_
        iterate 3 refine AOps.q hC rfl trivial ?_
        refine AOps.nil ?_
        refine ALoop.wk ?_ (ih1 _ _ _ hh)
        exact ⟨⟨⟨.rfl, rfl⟩, ⟨⟨.rfl, rfl⟩, trivial⟩⟩, ⟨⟨rfl, .refl _, rfl⟩, trivial⟩, rfl⟩
    · replace hh := if_f hb hh
      refine AEx.exit ?_
      refine AEx.seq ?_
      refine AEx.regionN rfl rfl ?_
      refine AOps.q hC rfl trivial ?_
      refine AOps.nil ?_
      refine AEx.ret ?_
      obtain rfl := Option.some.inj hh
      exact ⟨_, _, [], rfl, .rfl, trivial, rfl, rfl, rfl, rfl⟩
theorem ref12_named_ok {t : ApiType} {res : Bool} (hh : ref12_named t = some res) : ACall C 61 [.agg (ApiType.cells t)] [] (fun x H' => H' = [] ∧ x = .d (.bool res)) := (ref12_named_grp).1 _ _ hh
theorem ref12_named_l1_ok {t : ApiType} {i : Int} {res : Bool} (hh : ref12_named_l1 t i = some res) : ALoop (Fx.mk C 20 0) (lo (bk (sr (sl (sr (sr (bodyOf Tryd.f61))))))) (mkEnv [(1, .ref 0 0), (3, .d (.int .i64 i))]) [.row (ApiType.cells t) 27] (Am.InBlock 0 (Am.Then (Fx.mk C 20 0) (sr (sr (sr (bodyOf Tryd.f61)))) (Am.Ends (Fx.mk C 20 0) Tryd.f61.results.toList (fun x H' => H' = [] ∧ x = .d (.bool res))))) := (ref12_named_grp).2 _ _ _ hh
def ref12_Check (t : ApiType) : Option Int :=
  ref10_CheckType t >>= fun x1 =>
  if (x1 != 0) = true then
    some x1
  else
    ref12_named t >>= fun x2 =>
    if x2 = true then
      some 7
    else
      ref12_doubled t >>= fun x3 =>
      if x3 = true then
        some 8
      else
        ref12_count t >>= fun x4 =>
        if (decide (x4 > 32)) = true then
          some 4
        else
          some 0
theorem ref12_Check_ok {t : ApiType} {res : Int} (hh : ref12_Check t = some res) : ACall C 30 [.agg (ApiType.cells t)] [] (fun x H' => H' = [] ∧ x = .d (.int .i64 res)) := by
  unfold ref12_Check at hh
  refine ACall.intro hC Tryd.func30 rfl rfl rfl ?_
  refine AEx.seq ?_
  refine AEx.regionN rfl rfl ?_
  refine AOps.n hC rfl ?_
  refine AOps.q hC rfl trivial ?_
  refine AOps.nil ?_
  refine AEx.seq ?_
  refine AEx.regionN rfl rfl ?_
  refine AOps.q hC rfl trivial ?_
  obtain ⟨x1, hx1, hh⟩ := bind_some hh
  refine AOps.c rfl rfl (ref10_CheckType_ok hx1) ?_
  refine AOps.q hC rfl trivial ?_
  refine AOps.nil ?_
  refine AEx.seq ?_
  refine AEx.seq ?_
  refine AEx.regionN rfl rfl ?_
  iterate 2 refine AOps.q hC rfl trivial ?_
  refine AOps.nil ?_
  refine AEx.cond rfl (fun hb => ?_) (fun hb => ?_)
  · replace hh := if_t hb hh
    refine AEx.seq ?_
    refine AEx.regionN rfl rfl ?_
    iterate 2 refine AOps.q hC rfl trivial ?_
    refine AOps.nil ?_
    refine AEx.ret ?_
    obtain rfl := Option.some.inj hh
    exact ⟨_, _, [], rfl, .rfl, trivial, rfl, rfl, rfl, rfl⟩
  · replace hh := if_f hb hh
    refine AEx.skip ?_
    refine AEx.seq ?_
    refine AEx.seq ?_
    refine AEx.regionN rfl rfl ?_
    refine AOps.q hC rfl trivial ?_
    obtain ⟨x2, hx2, hh⟩ := bind_some hh
    refine AOps.c rfl rfl (ref12_named_ok hx2) ?_
    refine AOps.nil ?_
    refine AEx.cond rfl (fun hb => ?_) (fun hb => ?_)
    · replace hh := if_t hb hh
      refine AEx.seq ?_
      refine AEx.regionN rfl rfl ?_
      refine AOps.q hC rfl trivial ?_
      refine AOps.nil ?_
      refine AEx.ret ?_
      obtain rfl := Option.some.inj hh
      exact ⟨_, _, [], rfl, .rfl, trivial, rfl, rfl, rfl, rfl⟩
    · replace hh := if_f hb hh
      refine AEx.skip ?_
      refine AEx.seq ?_
      refine AEx.seq ?_
      refine AEx.regionN rfl rfl ?_
      refine AOps.q hC rfl trivial ?_
      obtain ⟨x3, hx3, hh⟩ := bind_some hh
      refine AOps.c rfl rfl (ref12_doubled_ok hx3) ?_
      refine AOps.nil ?_
      refine AEx.cond rfl (fun hb => ?_) (fun hb => ?_)
      · replace hh := if_t hb hh
        refine AEx.seq ?_
        refine AEx.regionN rfl rfl ?_
        refine AOps.q hC rfl trivial ?_
        refine AOps.nil ?_
        refine AEx.ret ?_
        obtain rfl := Option.some.inj hh
        exact ⟨_, _, [], rfl, .rfl, trivial, rfl, rfl, rfl, rfl⟩
      · replace hh := if_f hb hh
        refine AEx.skip ?_
        refine AEx.seq ?_
        refine AEx.seq ?_
        refine AEx.regionN rfl rfl ?_
        refine AOps.q hC rfl trivial ?_
        obtain ⟨x4, hx4, hh⟩ := bind_some hh
        refine AOps.c rfl rfl (ref12_count_ok hx4) ?_
        refine AOps.q hC rfl trivial ?_
        refine AOps.nil ?_
        refine AEx.cond rfl (fun hb => ?_) (fun hb => ?_)
        · replace hh := if_t hb hh
          refine AEx.seq ?_
          refine AEx.regionN rfl rfl ?_
          refine AOps.q hC rfl trivial ?_
          refine AOps.nil ?_
          refine AEx.ret ?_
          obtain rfl := Option.some.inj hh
          exact ⟨_, _, [], rfl, .rfl, trivial, rfl, rfl, rfl, rfl⟩
        · replace hh := if_f hb hh
          refine AEx.skip ?_
          refine AEx.seq ?_
          refine AEx.regionN rfl rfl ?_
          refine AOps.q hC rfl trivial ?_
          refine AOps.nil ?_
          refine AEx.ret ?_
          obtain rfl := Option.some.inj hh
          exact ⟨_, _, [], rfl, .rfl, trivial, rfl, rfl, rfl, rfl⟩
def ref12_number (n : Int) : Option Str :=
  if (decide (n < 10)) = true then
    slc [48, 49, 50, 51, 52, 53, 54, 55, 56, 57] n (IntKind.i64.wrap (n + 1)) >>= fun x1 =>
    some x1
  else
    ref12_number (IntKind.i64.wrap (Int.tdiv n 10)) >>= fun x2 =>
    slc [48, 49, 50, 51, 52, 53, 54, 55, 56, 57] (Int.tmod n 10) (IntKind.i64.wrap ((Int.tmod n 10) + 1)) >>= fun x3 =>
    if (decide (x2.length + x3.length ≤ maxLen)) = true then
      some (x2 ++ x3)
    else none
  partial_fixpoint
theorem ref12_number_grp : (∀ (n : Int) (res : Str), ref12_number n = some res → ACall C 101 [.d (.int .i64 n)] [] (fun x H' => H' = [] ∧ x = .d (.str res))) := by
  refine ref12_number.partial_correctness (fun n res => ACall C 101 [.d (.int .i64 n)] [] (fun x H' => H' = [] ∧ x = .d (.str res))) ?_
  · intro g0 ih0 n res hh
    refine ACall.intro hC Tryd.func101 rfl rfl rfl ?_
    refine AEx.seq ?_
    refine AEx.regionN rfl rfl ?_
    refine AOps.q hC rfl trivial ?_
    refine AOps.nil ?_
    refine AEx.seq ?_
    refine AEx.seq ?_
    refine AEx.regionN rfl rfl ?_
    iterate 2 refine AOps.q hC rfl trivial ?_
    refine AOps.nil ?_
    refine AEx.cond rfl (fun hb => ?_) (fun hb => ?_)
    · replace hh := if_t hb hh
      refine AEx.seq ?_
      refine AEx.regionN rfl rfl ?_
      iterate 3 refine AOps.q hC rfl trivial ?_
      obtain ⟨x1, hx1, hh⟩ := bind_some hh
      refine AOps.lx hC rfl hx1 ?_
      refine AOps.q hC rfl trivial ?_
      refine AOps.nil ?_
      refine AEx.ret ?_
      obtain rfl := Option.some.inj hh
      exact ⟨_, _, [], rfl, .rfl, trivial, rfl, rfl, rfl, rfl⟩
    · replace hh := if_f hb hh
      refine AEx.skip ?_
      refine AEx.seq ?_
      refine AEx.draw hC 11 rfl rfl rfl ?_
      refine AQ.q hC rfl trivial ?_
      refine AQ.q hC rfl (by decide) ?_
      obtain ⟨x2, hx2, hh⟩ := bind_some hh
      refine AQ.c rfl rfl (ih0 _ _ hx2) ?_
      refine AQ.q hC rfl trivial ?_
      refine AQ.q hC rfl (by decide) ?_
      refine AQ.q hC rfl trivial ?_
      refine AQ.q hC rfl (by decide) ?_
      refine AQ.q hC rfl trivial ?_
      obtain ⟨x3, hx3, hh⟩ := bind_some hh
      refine AQ.lx hC rfl hx3 ?_
      obtain ⟨c2, hh⟩ := asrt_some hh
      refine AQ.q hC rfl c2 ?_
      refine AQ.q hC rfl trivial ?_
      refine AQ.nil ?_
      refine AOps.nil ?_
      refine AEx.ret ?_
      obtain rfl := Option.some.inj hh
      exact ⟨_, _, [], rfl, .rfl, trivial, rfl, rfl, rfl, rfl⟩
theorem ref12_number_ok {n : Int} {res : Str} (hh : ref12_number n = some res) : ACall C 101 [.d (.int .i64 n)] [] (fun x H' => H' = [] ∧ x = .d (.str res)) := (ref12_number_grp) _ _ hh
mutual
def types_replaced_v2 (t : ApiType) : Option (ApiType × Bool) :=
  if (t.Kind == 4) = true then
    some none >>= fun x1 =>
    if (!x1.isSome) = true then
      some ((ApiType.mk 0 0 0 0 [] [] []), false)
    else
      types_replaced_v2_j1 (x1.getD ApiType.zero)
  else
    types_replaced_v2_j1 t
  partial_fixpoint
def types_replaced_v2_j1 (o0 : ApiType) : Option (ApiType × Bool) :=
  slices_Clone_string_string o0.Names >>= fun x2 =>
  types_replaced_v2_l2 o0 x2 [] 0
  partial_fixpoint
def types_replaced_v2_l2 (o0 : ApiType) (x2 : List Str) (o2_Of : List ApiType) (v36 : Int) : Option (ApiType × Bool) :=
  if (decide (v36 < ((o0.Of).length : Int))) = true then
    idx o0.Of v36 >>= fun x3 =>
    types_replaced_v2 x3 >>= fun x4 =>
    if (!x4.2) = true then
      some ((ApiType.mk 0 0 0 0 [] [] []), false)
    else
      if (decide ((o2_Of.length + 1) * 97 ≤ 140737488355328)) = true then
        types_replaced_v2_l2 o0 x2 (o2_Of ++ [x4.1]) (IntKind.i64.wrap (v36 + 1))
      else none
  else
    some ((ApiType.mk o0.Kind o0.Low o0.High o0.Size o0.Name x2 o2_Of), true)
  partial_fixpoint
end
theorem types_replaced_v2_grp : (∀ (t : ApiType) (res : ApiType × Bool), types_replaced_v2 t = some res → ACall C 68 [.d (.nilv .map), .agg (ApiType.cells t)] [] (fun x H' => H' = [] ∧ x = .tup [.agg (ApiType.cells res.1), .d (.bool res.2)])) ∧
    (∀ (o0 : ApiType) (res : ApiType × Bool), types_replaced_v2_j1 o0 = some res → AEx (Fx.mk C 57 0) (sr (sr (bodyOf Tryd.f68))) (mkEnv [(0, .d (.nilv .map)), (3, .ref 0 0), (4, .ref 1 0)]) [.row (ApiType.cells o0) 27, .row [.d (.int .i64 0), .d (.int .i64 0), .d (.int .i64 0), .d (.int .i64 0), .d (.str []), .full (estr.rows []), .full (ApiType.rows [])] 27] (Am.Ends (Fx.mk C 57 0) Tryd.f68.results.toList (fun x H' => H' = [] ∧ x = .tup [.agg (ApiType.cells res.1), .d (.bool res.2)]))) ∧
    (∀ (o0 : ApiType) (x2 : List Str) (o2_Of : List ApiType) (v36 : Int) (res : ApiType × Bool), types_replaced_v2_l2 o0 x2 o2_Of v36 = some res → ALoop (Fx.mk C 57 0) (lo (bk (sr (sl (sr (sr (sr (sr (sr (bodyOf Tryd.f68)))))))))) (mkEnv [(0, .d (.nilv .map)), (4, .ref 1 0), (8, .ref 2 0), (34, .d (.sl (ApiType.rows o0.Of))), (35, .d (.int .i64 ((o0.Of).length : Int))), (36, .d (.int .i64 v36))]) [.dead, .row [.d (.int .i64 0), .d (.int .i64 0), .d (.int .i64 0), .d (.int .i64 0), .d (.str []), .full (estr.rows []), .full (ApiType.rows [])] 27, .row [.d (.int .i64 o0.Kind), .d (.int .i64 o0.Low), .d (.int .i64 o0.High), .d (.int .i64 o0.Size), .d (.str o0.Name), .d (.sl (estr.rows x2)), .osl 3 (ApiType.rows o2_Of)] 27, .tok 27 7] (Am.InBlock 0 (Am.Then (Fx.mk C 57 0) (sr (sr (sr (sr (sr (sr (bodyOf Tryd.f68))))))) (Am.Ends (Fx.mk C 57 0) Tryd.f68.results.toList (fun x H' => H' = [] ∧ x = .tup [.agg (ApiType.cells res.1), .d (.bool res.2)]))))) := by
  refine types_replaced_v2.mutual_partial_correctness (fun t res => ACall C 68 [.d (.nilv .map), .agg (ApiType.cells t)] [] (fun x H' => H' = [] ∧ x = .tup [.agg (ApiType.cells res.1), .d (.bool res.2)]))
    (fun o0 res => AEx (Fx.mk C 57 0) (sr (sr (bodyOf Tryd.f68))) (mkEnv [(0, .d (.nilv .map)), (3, .ref 0 0), (4, .ref 1 0)]) [.row (ApiType.cells o0) 27, .row [.d (.int .i64 0), .d (.int .i64 0), .d (.int .i64 0), .d (.int .i64 0), .d (.str []), .full (estr.rows []), .full (ApiType.rows [])] 27] (Am.Ends (Fx.mk C 57 0) Tryd.f68.results.toList (fun x H' => H' = [] ∧ x = .tup [.agg (ApiType.cells res.1), .d (.bool res.2)])))
    (fun o0 x2 o2_Of v36 res => ALoop (Fx.mk C 57 0) (lo (bk (sr (sl (sr (sr (sr (sr (sr (bodyOf Tryd.f68)))))))))) (mkEnv [(0, .d (.nilv .map)), (4, .ref 1 0), (8, .ref 2 0), (34, .d (.sl (ApiType.rows o0.Of))), (35, .d (.int .i64 ((o0.Of).length : Int))), (36, .d (.int .i64 v36))]) [.dead, .row [.d (.int .i64 0), .d (.int .i64 0), .d (.int .i64 0), .d (.int .i64 0), .d (.str []), .full (estr.rows []), .full (ApiType.rows [])] 27, .row [.d (.int .i64 o0.Kind), .d (.int .i64 o0.Low), .d (.int .i64 o0.High), .d (.int .i64 o0.Size), .d (.str o0.Name), .d (.sl (estr.rows x2)), .osl 3 (ApiType.rows o2_Of)] 27, .tok 27 7] (Am.InBlock 0 (Am.Then (Fx.mk C 57 0) (sr (sr (sr (sr (sr (sr (bodyOf Tryd.f68))))))) (Am.Ends (Fx.mk C 57 0) Tryd.f68.results.toList (fun x H' => H' = [] ∧ x = .tup [.agg (ApiType.cells res.1), .d (.bool res.2)]))))) ?_ ?_ ?_
  · intro g1 ih1 t res hh
    refine ACall.intro hC Tryd.func68 rfl rfl rfl ?_
    refine AEx.seq ?_
    refine AEx.regionN rfl rfl ?_
    refine AOps.n hC rfl ?_
    refine AOps.nf hC rfl ?_
    refine AOps.q hC rfl trivial ?_
    refine AOps.nil ?_
    refine AEx.seq ?_
    refine AEx.seq ?_
    refine AEx.regionN rfl rfl ?_
    iterate 3 refine AOps.q hC rfl trivial ?_
    refine AOps.nil ?_
    refine AEx.cond rfl (fun hb => ?_) (fun hb => ?_)
    · replace hh := if_t hb hh
      refine AEx.seq ?_
      refine AEx.regionN rfl rfl ?_
      iterate 3 refine AOps.q hC rfl trivial ?_
      obtain ⟨x1, hx1, hh⟩ := bind_some hh
      refine AOps.mn hC rfl (ApiType.lkNT hx1) ?_
      iterate 3 refine AOps.q hC rfl trivial ?_
      refine AOps.nf hC rfl ?_
      refine AOps.s hC rfl ?_
      refine AOps.q hC rfl trivial ?_
      refine AOps.nil ?_
      refine AEx.seq ?_
      refine AEx.seq ?_
      refine AEx.regionN rfl rfl ?_
      iterate 2 refine AOps.q hC rfl trivial ?_
      refine AOps.nil ?_
      refine AEx.cond rfl (fun hb => ?_) (fun hb => ?_)
      · replace hh := if_t hb hh
        refine AEx.seq ?_
        refine AEx.regionN rfl rfl ?_
        refine AOps.q hC rfl trivial ?_
        refine AOps.s hC rfl ?_
        refine AOps.q hC rfl trivial ?_
        refine AOps.nil ?_
        refine AEx.ret ?_
        obtain rfl := Option.some.inj hh
        exact ⟨_, _, [], rfl, .rfl, trivial, rfl, rfl, rfl, rfl⟩
      · replace hh := if_f hb hh
        refine AEx.skip ?_
        refine AEx.regionN rfl rfl ?_
        refine AOps.q hC rfl trivial ?_
        refine AOps.s hC rfl ?_
        refine AOps.nil ?_
        refine AEx.wk ?_ (ih1 _ _ hh)
        exact ⟨⟨⟨.rfl, rfl⟩, ⟨⟨.rfl, rfl⟩, ⟨⟨.rfl, rfl⟩, trivial⟩⟩⟩, ⟨⟨rfl, .refl _, rfl⟩, ⟨⟨rfl, .refl _, rfl⟩, trivial⟩⟩, rfl⟩
    · replace hh := if_f hb hh
      refine AEx.skip ?_
      refine AEx.wk ?_ (ih1 _ _ hh)
      exact ⟨⟨⟨.rfl, rfl⟩, ⟨⟨.rfl, rfl⟩, ⟨⟨.rfl, rfl⟩, trivial⟩⟩⟩, ⟨⟨rfl, .refl _, rfl⟩, ⟨⟨rfl, .refl _, rfl⟩, trivial⟩⟩, rfl⟩
  · intro g2 ih2 o0 res hh
    refine AEx.seq ?_
    refine AEx.regionN rfl rfl ?_
    refine AOps.q hC rfl trivial ?_
    refine AOps.nf hC rfl ?_
    refine AOps.s hC rfl ?_
    refine AOps.nil ?_
    refine AEx.seq ?_
    refine AEx.regionN rfl rfl ?_
    iterate 2 refine AOps.q hC rfl trivial ?_
    obtain ⟨x2, hx2, hh⟩ := bind_some hh
    refine AOps.c rfl rfl (slices_Clone_string_string_ok hx2) ?_
    refine AOps.q hC rfl trivial ?_
    refine AOps.s hC rfl ?_
    refine AOps.nil ?_
    refine AEx.seq ?_
    refine AEx.regionN rfl rfl ?_
    refine AOps.q hC rfl trivial ?_
    refine AOps.s hC rfl ?_
    refine AOps.tokC 2 6 27 7 rfl rfl rfl rfl rfl ?_
    refine AOps.nil ?_
    refine AEx.seq ?_
    refine AEx.seq ?_
    refine AEx.regionN rfl rfl ?_
    iterate 2 refine AOps.q hC rfl trivial ?_
    refine AOps.qe hC rfl trivial (ApiType.lenA _) ?_
    refine AOps.q hC rfl trivial ?_
    refine AOps.nil ?_
    refine AEx.block ?_
    refine AEx.ofLoop ?_
    refine ALoop.wk ?_ (ih2 _ _ _ _ _ hh)
    exact ⟨⟨⟨.rfl, rfl⟩, ⟨⟨.rfl, rfl⟩, ⟨⟨.rfl, rfl⟩, ⟨⟨.rfl, rfl⟩, ⟨⟨.rfl, rfl⟩, ⟨⟨.rfl, rfl⟩, trivial⟩⟩⟩⟩⟩⟩, ⟨trivial, ⟨⟨rfl, .refl _, rfl⟩, ⟨⟨rfl, .refl _, rfl⟩, ⟨rfl, trivial⟩⟩⟩⟩, rfl⟩
  · intro g0 g2 ih0 ih2 o0 x2 o2_Of v36 res hh
    refine ALoop.unroll ?_
    refine AEx.seq ?_
    refine AEx.regionN rfl rfl ?_
    refine AOps.q hC rfl trivial ?_
    refine AOps.nil ?_
    refine AEx.seq ?_
    refine AEx.cond rfl (fun hb => ?_) (fun hb => ?_)
    · replace hh := if_t hb hh
      refine AEx.skip ?_
      refine AEx.seq ?_
      refine AEx.block ?_
      refine AEx.seq ?_
      refine AEx.regionN rfl rfl ?_
      obtain ⟨x3, hx3, hh⟩ := bind_some hh
      refine AOps.i hC rfl (idx_nat hx3) (ApiType.idx hx3) rfl ?_
      refine AOps.q hC rfl trivial ?_
      refine AOps.nf hC rfl ?_
      refine AOps.s hC rfl ?_
      refine AOps.nil ?_
      refine AEx.seq ?_
      refine AEx.regionN rfl rfl ?_
      iterate 2 refine AOps.q hC rfl trivial ?_
      obtain ⟨x4, hx4, hh⟩ := bind_some hh
      refine AOps.c rfl rfl (ih0 _ _ hx4) ?_
      iterate 3 refine AOps.q hC rfl trivial ?_
      refine AOps.nf hC rfl ?_
      refine AOps.s hC rfl ?_
      refine AOps.q hC rfl trivial ?_
      refine AOps.nil ?_
      refine AEx.seq ?_
      refine AEx.seq ?_
      refine AEx.regionN rfl rfl ?_
      iterate 2 refine AOps.q hC rfl trivial ?_
      refine AOps.nil ?_
      refine AEx.cond rfl (fun hb => ?_) (fun hb => ?_)
      · replace hh := if_t hb hh
        refine AEx.seq ?_
        refine AEx.regionN rfl rfl ?_
        refine AOps.q hC rfl trivial ?_
        refine AOps.s hC rfl ?_
        refine AOps.q hC rfl trivial ?_
        refine AOps.nil ?_
        refine AEx.ret ?_
        obtain rfl := Option.some.inj hh
        exact ⟨_, _, [], rfl, .rfl, trivial, rfl, rfl, rfl, rfl⟩
      · replace hh := if_f hb hh
        refine AEx.skip ?_
        refine AEx.regionN rfl rfl ?_
        iterate 3 refine AOps.q hC rfl trivial ?_
        refine AOps.be hC rfl (ApiType.rows_map [x4.1]).symm ?_
        obtain ⟨c4, hh⟩ := asrt_some hh
        refine AOps.ap hC rfl (rs := ApiType.rows (o2_Of ++ [x4.1])) (ApiType.app o2_Of [x4.1]) (ApiType.sz o2_Of) (ApiType.sz [x4.1]) (room_of (ApiType.len o2_Of) (ApiType.len [x4.1]) c4) ?_
        refine AOps.q hC rfl trivial ?_
        refine AOps.s hC rfl ?_
        refine AOps.nil ?_
        refine AEx.regionN rfl rfl ?_
        iterate 2 refine AOps.q hC rfl trivial ?_
        refine AOps.nil ?_
        refine ALoop.wk ?_ (ih2 _ _ _ _ _ hh)
        exact ⟨⟨⟨.rfl, rfl⟩, ⟨⟨.rfl, rfl⟩, ⟨⟨.rfl, rfl⟩, ⟨⟨.rfl, rfl⟩, ⟨⟨.rfl, rfl⟩, ⟨⟨.rfl, rfl⟩, trivial⟩⟩⟩⟩⟩⟩, ⟨trivial, ⟨⟨rfl, .refl _, rfl⟩, ⟨⟨rfl, .refl _, rfl⟩, ⟨rfl, trivial⟩⟩⟩⟩, rfl⟩
    · replace hh := if_f hb hh
      refine AEx.exit ?_
      refine AEx.seq ?_
      refine AEx.regionN rfl rfl ?_
      refine AOps.q hC rfl trivial ?_
      refine AOps.s hC rfl ?_
      refine AOps.q hC rfl trivial ?_
      refine AOps.nil ?_
      refine AEx.ret ?_
      obtain rfl := Option.some.inj hh
      exact ⟨_, .tup [.agg [.d (.int .i64 o0.Kind), .d (.int .i64 o0.Low), .d (.int .i64 o0.High), .d (.int .i64 o0.Size), .d (.str o0.Name), .d (.sl (estr.rows x2)), .d (.sl (ApiType.rows o2_Of))], .d (.bool true)], [], rfl, (.tupL ⟨(.aggL ⟨.rfl, ⟨.rfl, ⟨.rfl, ⟨.rfl, ⟨.rfl, ⟨.rfl, ⟨.osl, trivial⟩⟩⟩⟩⟩⟩⟩), ⟨.rfl, trivial⟩⟩), trivial, rfl, rfl, rfl, rfl⟩
theorem types_replaced_v2_ok {t : ApiType} {res : ApiType × Bool} (hh : types_replaced_v2 t = some res) : ACall C 68 [.d (.nilv .map), .agg (ApiType.cells t)] [] (fun x H' => H' = [] ∧ x = .tup [.agg (ApiType.cells res.1), .d (.bool res.2)]) := (types_replaced_v2_grp).1 _ _ hh
theorem types_replaced_v2_j1_ok {o0 : ApiType} {res : ApiType × Bool} (hh : types_replaced_v2_j1 o0 = some res) : AEx (Fx.mk C 57 0) (sr (sr (bodyOf Tryd.f68))) (mkEnv [(0, .d (.nilv .map)), (3, .ref 0 0), (4, .ref 1 0)]) [.row (ApiType.cells o0) 27, .row [.d (.int .i64 0), .d (.int .i64 0), .d (.int .i64 0), .d (.int .i64 0), .d (.str []), .full (estr.rows []), .full (ApiType.rows [])] 27] (Am.Ends (Fx.mk C 57 0) Tryd.f68.results.toList (fun x H' => H' = [] ∧ x = .tup [.agg (ApiType.cells res.1), .d (.bool res.2)])) := (types_replaced_v2_grp).2.1 _ _ hh
theorem types_replaced_v2_l2_ok {o0 : ApiType} {x2 : List Str} {o2_Of : List ApiType} {v36 : Int} {res : ApiType × Bool} (hh : types_replaced_v2_l2 o0 x2 o2_Of v36 = some res) : ALoop (Fx.mk C 57 0) (lo (bk (sr (sl (sr (sr (sr (sr (sr (bodyOf Tryd.f68)))))))))) (mkEnv [(0, .d (.nilv .map)), (4, .ref 1 0), (8, .ref 2 0), (34, .d (.sl (ApiType.rows o0.Of))), (35, .d (.int .i64 ((o0.Of).length : Int))), (36, .d (.int .i64 v36))]) [.dead, .row [.d (.int .i64 0), .d (.int .i64 0), .d (.int .i64 0), .d (.int .i64 0), .d (.str []), .full (estr.rows []), .full (ApiType.rows [])] 27, .row [.d (.int .i64 o0.Kind), .d (.int .i64 o0.Low), .d (.int .i64 o0.High), .d (.int .i64 o0.Size), .d (.str o0.Name), .d (.sl (estr.rows x2)), .osl 3 (ApiType.rows o2_Of)] 27, .tok 27 7] (Am.InBlock 0 (Am.Then (Fx.mk C 57 0) (sr (sr (sr (sr (sr (sr (bodyOf Tryd.f68))))))) (Am.Ends (Fx.mk C 57 0) Tryd.f68.results.toList (fun x H' => H' = [] ∧ x = .tup [.agg (ApiType.cells res.1), .d (.bool res.2)])))) := (types_replaced_v2_grp).2.2 _ _ _ _ _ hh
def types_Find_1 (p : Str) (firstV : Int) (x : ApiType) (s : Str) (apiType : ApiType) (s1 : Int) (s2 : Bool) : Option (Bool × ApiType × Int × Bool) :=
  if (p == s) = true then
    types_replaced_v2 x >>= fun x1 =>
    some (false, x1.1, firstV, true)
  else
    some ((!s2), apiType, s1, s2)
theorem types_Find_1_ok {p : Str} {firstV : Int} {x : ApiType} {s : Str} {apiType : ApiType} {s1 : Int} {s2 : Bool} {res : Bool × ApiType × Int × Bool} (hh : types_Find_1 p firstV x s apiType s1 s2 = some res) : ACall C 67 [.d (.str p), .d (.int .i64 firstV), .agg (ApiType.cells x), .ref 0 0, .ref 1 0, .ref 2 0, .ref 3 0] [.row [.d (.str s)] 9, .row [.d (.int .i64 apiType.Kind), .d (.int .i64 apiType.Low), .d (.int .i64 apiType.High), .d (.int .i64 apiType.Size), .d (.str apiType.Name), .full (estr.rows apiType.Names), .full (ApiType.rows apiType.Of)] 27, .row [.d (.int .i64 s1)] 3, .row [.d (.bool s2)] 4] (fun x H' => H' = [.row [.d (.str s)] 9, .row (ApiType.cells res.2.1) 27, .row [.d (.int .i64 res.2.2.1)] 3, .row [.d (.bool res.2.2.2)] 4] ∧ x = .d (.bool res.1)) := by
  unfold types_Find_1 at hh
  refine ACall.intro hC Tryd.func67 rfl rfl rfl ?_
  refine AEx.seq ?_
  refine AEx.regionN rfl rfl ?_
  refine AOps.n hC rfl ?_
  refine AOps.q hC rfl trivial ?_
  refine AOps.nil ?_
  refine AEx.seq ?_
  refine AEx.seq ?_
  refine AEx.regionN rfl rfl ?_
  iterate 3 refine AOps.q hC rfl trivial ?_
  refine AOps.nil ?_
  refine AEx.cond rfl (fun hb => ?_) (fun hb => ?_)
  · replace hh := if_t hb hh
    refine AEx.seq ?_
    refine AEx.regionN rfl rfl ?_
    refine AOps.q hC rfl trivial ?_
    obtain ⟨x1, hx1, hh⟩ := bind_some hh
    refine AOps.c rfl rfl (types_replaced_v2_ok hx1) ?_
    iterate 3 refine AOps.q hC rfl trivial ?_
    refine AOps.s hC rfl ?_
    refine AOps.nil ?_
    refine AEx.regionN rfl rfl ?_
    refine AOps.q hC rfl trivial ?_
    refine AOps.s hC rfl ?_
    refine AOps.s hC rfl ?_
    refine AOps.nil ?_
    refine AEx.seq ?_
    refine AEx.regionN rfl rfl ?_
    iterate 3 refine AOps.q hC rfl trivial ?_
    refine AOps.nil ?_
    refine AEx.ret ?_
    obtain rfl := Option.some.inj hh
    exact ⟨_, _, [.row [.d (.str s)] 9, .row (ApiType.cells x1.1) 27, .row [.d (.int .i64 firstV)] 3, .row [.d (.bool true)] 4], rfl, .rfl, ⟨⟨rfl, .refl _, rfl⟩, ⟨⟨rfl, .refl _, rfl⟩, ⟨⟨rfl, .refl _, rfl⟩, ⟨⟨rfl, .refl _, rfl⟩, trivial⟩⟩⟩⟩, rfl, rfl, rfl, rfl⟩
  · replace hh := if_f hb hh
    refine AEx.skip ?_
    refine AEx.seq ?_
    refine AEx.regionN rfl rfl ?_
    iterate 3 refine AOps.q hC rfl trivial ?_
    refine AOps.nil ?_
    refine AEx.ret ?_
    obtain rfl := Option.some.inj hh
    exact ⟨_, _, [.row [.d (.str s)] 9, .row (ApiType.cells apiType) 27, .row [.d (.int .i64 s1)] 3, .row [.d (.bool s2)] 4], rfl, .rfl, ⟨⟨rfl, .refl _, rfl⟩, ⟨⟨rfl, ⟨.rfl, ⟨.rfl, ⟨.rfl, ⟨.rfl, ⟨.rfl, ⟨.full, ⟨.full, trivial⟩⟩⟩⟩⟩⟩⟩, rfl⟩, ⟨⟨rfl, .refl _, rfl⟩, ⟨⟨rfl, .refl _, rfl⟩, trivial⟩⟩⟩⟩, rfl, rfl, rfl, rfl⟩
def types_Find_1_v2 (p : Str) (firstV : Int) (x : ApiType) (s : Str) (apiType : ApiType) (s1 : Int) (s2 : Bool) : Option (Bool × ApiType × Int × Bool) :=
  if (p == s) = true then
    types_replaced_v2 x >>= fun x1 =>
    some (false, x1.1, firstV, true)
  else
    some ((!s2), apiType, s1, s2)
theorem types_Find_1_v2_ok {p : Str} {firstV : Int} {x : ApiType} {s : Str} {apiType : ApiType} {s1 : Int} {s2 : Bool} {res : Bool × ApiType × Int × Bool} (hh : types_Find_1_v2 p firstV x s apiType s1 s2 = some res) : ACall C 67 [.d (.str p), .d (.int .i64 firstV), .agg (ApiType.cells x), .ref 0 0, .ref 1 0, .ref 2 0, .ref 3 0] [.row [.d (.str s)] 9, .row (ApiType.cells apiType) 27, .row [.d (.int .i64 s1)] 3, .row [.d (.bool s2)] 4] (fun x H' => H' = [.row [.d (.str s)] 9, .row (ApiType.cells res.2.1) 27, .row [.d (.int .i64 res.2.2.1)] 3, .row [.d (.bool res.2.2.2)] 4] ∧ x = .d (.bool res.1)) := by
  unfold types_Find_1_v2 at hh
  refine ACall.intro hC Tryd.func67 rfl rfl rfl ?_
  refine AEx.seq ?_
  refine AEx.regionN rfl rfl ?_
  refine AOps.n hC rfl ?_
  refine AOps.q hC rfl trivial ?_
  refine AOps.nil ?_
  refine AEx.seq ?_
  refine AEx.seq ?_
  refine AEx.regionN rfl rfl ?_
  iterate 3 refine AOps.q hC rfl trivial ?_
  refine AOps.nil ?_
  refine AEx.cond rfl (fun hb => ?_) (fun hb => ?_)
  · replace hh := if_t hb hh
    refine AEx.seq ?_
    refine AEx.regionN rfl rfl ?_
    refine AOps.q hC rfl trivial ?_
    obtain ⟨x1, hx1, hh⟩ := bind_some hh
    refine AOps.c rfl rfl (types_replaced_v2_ok hx1) ?_
    iterate 3 refine AOps.q hC rfl trivial ?_
    refine AOps.s hC rfl ?_
    refine AOps.nil ?_
    refine AEx.regionN rfl rfl ?_
    refine AOps.q hC rfl trivial ?_
    refine AOps.s hC rfl ?_
    refine AOps.s hC rfl ?_
    refine AOps.nil ?_
    refine AEx.seq ?_
    refine AEx.regionN rfl rfl ?_
    iterate 3 refine AOps.q hC rfl trivial ?_
    refine AOps.nil ?_
    refine AEx.ret ?_
    obtain rfl := Option.some.inj hh
    exact ⟨_, _, [.row [.d (.str s)] 9, .row (ApiType.cells x1.1) 27, .row [.d (.int .i64 firstV)] 3, .row [.d (.bool true)] 4], rfl, .rfl, ⟨⟨rfl, .refl _, rfl⟩, ⟨⟨rfl, .refl _, rfl⟩, ⟨⟨rfl, .refl _, rfl⟩, ⟨⟨rfl, .refl _, rfl⟩, trivial⟩⟩⟩⟩, rfl, rfl, rfl, rfl⟩
  · replace hh := if_f hb hh
    refine AEx.skip ?_
    refine AEx.seq ?_
    refine AEx.regionN rfl rfl ?_
    iterate 3 refine AOps.q hC rfl trivial ?_
    refine AOps.nil ?_
    refine AEx.ret ?_
    obtain rfl := Option.some.inj hh
    exact ⟨_, _, [.row [.d (.str s)] 9, .row (ApiType.cells apiType) 27, .row [.d (.int .i64 s1)] 3, .row [.d (.bool s2)] 4], rfl, .rfl, ⟨⟨rfl, .refl _, rfl⟩, ⟨⟨rfl, .refl _, rfl⟩, ⟨⟨rfl, .refl _, rfl⟩, ⟨⟨rfl, .refl _, rfl⟩, trivial⟩⟩⟩⟩, rfl, rfl, rfl, rfl⟩
mutual
def types_each_1_v4 (path : Str) (t : ApiType) (s : Int) (s1 : Str) (apiType : ApiType) (s2 : Int) (s3 : Bool) : Option (Bool × Int × ApiType × Int × Bool) :=
  types_Find_1_v2 path s t s1 apiType s2 s3 >>= fun x1 =>
  if (!x1.1) = true then
    some (false, s, x1.2.1, x1.2.2.1, x1.2.2.2)
  else
    if (t.Kind == 2) = true then
      types_each_1_v4_l1 path t s1 s x1.2.1 x1.2.2.1 x1.2.2.2 0
    else
      if (t.Kind == 3) = true then
        types_each_1_v4_l2 path t s1 s x1.2.1 x1.2.2.1 x1.2.2.2 0
      else
        some (true, (IntKind.i64.wrap (s + 1)), x1.2.1, x1.2.2.1, x1.2.2.2)
  partial_fixpoint
def types_each_1_v4_l2 (path : Str) (t : ApiType) (s1 : Str) (o11 : Int) (o41 : ApiType) (o51 : Int) (o61 : Bool) (v46 : Int) : Option (Bool × Int × ApiType × Int × Bool) :=
  if (decide (v46 < ((t.Of).length : Int))) = true then
    idx t.Of v46 >>= fun x4 =>
    if (decide (path.length + 1 ≤ maxLen)) = true then
      idx t.Names v46 >>= fun x5 =>
      if (decide ((path ++ [46]).length + x5.length ≤ maxLen)) = true then
        types_each_1_v4 ((path ++ [46]) ++ x5) x4 o11 s1 o41 o51 o61 >>= fun x7 =>
        if (!x7.1) = true then
          some (false, x7.2.1, x7.2.2.1, x7.2.2.2.1, x7.2.2.2.2)
        else
          types_each_1_v4_l2 path t s1 x7.2.1 x7.2.2.1 x7.2.2.2.1 x7.2.2.2.2 (IntKind.i64.wrap (v46 + 1))
      else none
    else none
  else
    some (true, o11, o41, o51, o61)
  partial_fixpoint
def types_each_1_v4_l1 (path : Str) (t : ApiType) (s1 : Str) (o1 : Int) (o4 : ApiType) (o5 : Int) (o6 : Bool) (v25 : Int) : Option (Bool × Int × ApiType × Int × Bool) :=
  if (decide (v25 < t.Size)) = true then
    if (decide (path.length + 1 ≤ maxLen)) = true then
      X_Itoa v25 >>= fun x2 =>
      if (decide ((path ++ [46]).length + x2.length ≤ maxLen)) = true then
        idx t.Of 0 >>= fun x3 =>
        types_each_1_v4 ((path ++ [46]) ++ x2) x3 o1 s1 o4 o5 o6 >>= fun x6 =>
        if (!x6.1) = true then
          some (false, x6.2.1, x6.2.2.1, x6.2.2.2.1, x6.2.2.2.2)
        else
          types_each_1_v4_l1 path t s1 x6.2.1 x6.2.2.1 x6.2.2.2.1 x6.2.2.2.2 (IntKind.i64.wrap (v25 + 1))
      else none
    else none
  else
    some (true, o1, o4, o5, o6)
  partial_fixpoint
end
theorem types_each_1_v4_grp (s1 : Str) : (∀ (path : Str) (t : ApiType) (s : Int) (apiType : ApiType) (s2 : Int) (s3 : Bool) (res : Bool × Int × ApiType × Int × Bool), types_each_1_v4 path t s s1 apiType s2 s3 = some res → ACall C 98 [.d (.str path), .agg (ApiType.cells t), .ref 0 0, .ref 1 0, .ref 2 0] [.row [.clo 67 [.ref 3 0, .ref 4 0, .ref 5 0, .ref 6 0]] 88, .row [.d (.int .i64 s)] 3, .row [.clo 98 [.ref 0 0, .ref 1 0, .ref 2 0]] 119, .row [.d (.str s1)] 9, .row (ApiType.cells apiType) 27, .row [.d (.int .i64 s2)] 3, .row [.d (.bool s3)] 4] (fun x H' => H' = [.row [.clo 67 [.ref 3 0, .ref 4 0, .ref 5 0, .ref 6 0]] 88, .row [.d (.int .i64 res.2.1)] 3, .row [.clo 98 [.ref 0 0, .ref 1 0, .ref 2 0]] 119, .row [.d (.str s1)] 9, .row (ApiType.cells res.2.2.1) 27, .row [.d (.int .i64 res.2.2.2.1)] 3, .row [.d (.bool res.2.2.2.2)] 4] ∧ x = .d (.bool res.1))) ∧
    (∀ (path : Str) (t : ApiType) (o11 : Int) (o41 : ApiType) (o51 : Int) (o61 : Bool) (v46 : Int) (res : Bool × Int × ApiType × Int × Bool), types_each_1_v4_l2 path t s1 o11 o41 o51 o61 v46 = some res → ALoop (Fx.mk C 64 7) (lo (bk (sr (ca (sr (cb (sr (bk (sr (sl (sr (sr (bodyOf Tryd.f98))))))))))))) (mkEnv [(0, .d (.str path)), (4, .ref 2 0), (6, .ref 7 0), (44, .d (.sl (ApiType.rows t.Of))), (45, .d (.int .i64 ((t.Of).length : Int))), (46, .d (.int .i64 v46))]) [.row [.clo 67 [.ref 3 0, .ref 4 0, .ref 5 0, .ref 6 0]] 88, .row [.d (.int .i64 o11)] 3, .row [.clo 98 [.ref 0 0, .ref 1 0, .ref 2 0]] 119, .row [.d (.str s1)] 9, .row (ApiType.cells o41) 27, .row [.d (.int .i64 o51)] 3, .row [.d (.bool o61)] 4, .row (ApiType.cells t) 27] (Am.InBlock 3 (Am.InBlock 0 (Am.Then (Fx.mk C 64 7) (sr (sr (sr (bodyOf Tryd.f98)))) (Am.Ends (Fx.mk C 64 7) Tryd.f98.results.toList (fun x H' => H' = [.row [.clo 67 [.ref 3 0, .ref 4 0, .ref 5 0, .ref 6 0]] 88, .row [.d (.int .i64 res.2.1)] 3, .row [.clo 98 [.ref 0 0, .ref 1 0, .ref 2 0]] 119, .row [.d (.str s1)] 9, .row (ApiType.cells res.2.2.1) 27, .row [.d (.int .i64 res.2.2.2.1)] 3, .row [.d (.bool res.2.2.2.2)] 4] ∧ x = .d (.bool res.1))))))) ∧
    (∀ (path : Str) (t : ApiType) (o1 : Int) (o4 : ApiType) (o5 : Int) (o6 : Bool) (v25 : Int) (res : Bool × Int × ApiType × Int × Bool), types_each_1_v4_l1 path t s1 o1 o4 o5 o6 v25 = some res → ALoop (Fx.mk C 64 7) (lo (bk (sr (ca (sr (bk (sr (sl (sr (sr (bodyOf Tryd.f98))))))))))) (mkEnv [(0, .d (.str path)), (4, .ref 2 0), (6, .ref 7 0), (24, .d (.int .i64 t.Size)), (25, .d (.int .i64 v25))]) [.row [.clo 67 [.ref 3 0, .ref 4 0, .ref 5 0, .ref 6 0]] 88, .row [.d (.int .i64 o1)] 3, .row [.clo 98 [.ref 0 0, .ref 1 0, .ref 2 0]] 119, .row [.d (.str s1)] 9, .row (ApiType.cells o4) 27, .row [.d (.int .i64 o5)] 3, .row [.d (.bool o6)] 4, .row (ApiType.cells t) 27] (Am.InBlock 1 (Am.InBlock 0 (Am.Then (Fx.mk C 64 7) (sr (sr (sr (bodyOf Tryd.f98)))) (Am.Ends (Fx.mk C 64 7) Tryd.f98.results.toList (fun x H' => H' = [.row [.clo 67 [.ref 3 0, .ref 4 0, .ref 5 0, .ref 6 0]] 88, .row [.d (.int .i64 res.2.1)] 3, .row [.clo 98 [.ref 0 0, .ref 1 0, .ref 2 0]] 119, .row [.d (.str s1)] 9, .row (ApiType.cells res.2.2.1) 27, .row [.d (.int .i64 res.2.2.2.1)] 3, .row [.d (.bool res.2.2.2.2)] 4] ∧ x = .d (.bool res.1))))))) := by
  refine types_each_1_v4.mutual_partial_correctness s1
    (fun path t s apiType s2 s3 res => ACall C 98 [.d (.str path), .agg (ApiType.cells t), .ref 0 0, .ref 1 0, .ref 2 0] [.row [.clo 67 [.ref 3 0, .ref 4 0, .ref 5 0, .ref 6 0]] 88, .row [.d (.int .i64 s)] 3, .row [.clo 98 [.ref 0 0, .ref 1 0, .ref 2 0]] 119, .row [.d (.str s1)] 9, .row (ApiType.cells apiType) 27, .row [.d (.int .i64 s2)] 3, .row [.d (.bool s3)] 4] (fun x H' => H' = [.row [.clo 67 [.ref 3 0, .ref 4 0, .ref 5 0, .ref 6 0]] 88, .row [.d (.int .i64 res.2.1)] 3, .row [.clo 98 [.ref 0 0, .ref 1 0, .ref 2 0]] 119, .row [.d (.str s1)] 9, .row (ApiType.cells res.2.2.1) 27, .row [.d (.int .i64 res.2.2.2.1)] 3, .row [.d (.bool res.2.2.2.2)] 4] ∧ x = .d (.bool res.1)))
    (fun path t o11 o41 o51 o61 v46 res => ALoop (Fx.mk C 64 7) (lo (bk (sr (ca (sr (cb (sr (bk (sr (sl (sr (sr (bodyOf Tryd.f98))))))))))))) (mkEnv [(0, .d (.str path)), (4, .ref 2 0), (6, .ref 7 0), (44, .d (.sl (ApiType.rows t.Of))), (45, .d (.int .i64 ((t.Of).length : Int))), (46, .d (.int .i64 v46))]) [.row [.clo 67 [.ref 3 0, .ref 4 0, .ref 5 0, .ref 6 0]] 88, .row [.d (.int .i64 o11)] 3, .row [.clo 98 [.ref 0 0, .ref 1 0, .ref 2 0]] 119, .row [.d (.str s1)] 9, .row (ApiType.cells o41) 27, .row [.d (.int .i64 o51)] 3, .row [.d (.bool o61)] 4, .row (ApiType.cells t) 27] (Am.InBlock 3 (Am.InBlock 0 (Am.Then (Fx.mk C 64 7) (sr (sr (sr (bodyOf Tryd.f98)))) (Am.Ends (Fx.mk C 64 7) Tryd.f98.results.toList (fun x H' => H' = [.row [.clo 67 [.ref 3 0, .ref 4 0, .ref 5 0, .ref 6 0]] 88, .row [.d (.int .i64 res.2.1)] 3, .row [.clo 98 [.ref 0 0, .ref 1 0, .ref 2 0]] 119, .row [.d (.str s1)] 9, .row (ApiType.cells res.2.2.1) 27, .row [.d (.int .i64 res.2.2.2.1)] 3, .row [.d (.bool res.2.2.2.2)] 4] ∧ x = .d (.bool res.1)))))))
    (fun path t o1 o4 o5 o6 v25 res => ALoop (Fx.mk C 64 7) (lo (bk (sr (ca (sr (bk (sr (sl (sr (sr (bodyOf Tryd.f98))))))))))) (mkEnv [(0, .d (.str path)), (4, .ref 2 0), (6, .ref 7 0), (24, .d (.int .i64 t.Size)), (25, .d (.int .i64 v25))]) [.row [.clo 67 [.ref 3 0, .ref 4 0, .ref 5 0, .ref 6 0]] 88, .row [.d (.int .i64 o1)] 3, .row [.clo 98 [.ref 0 0, .ref 1 0, .ref 2 0]] 119, .row [.d (.str s1)] 9, .row (ApiType.cells o4) 27, .row [.d (.int .i64 o5)] 3, .row [.d (.bool o6)] 4, .row (ApiType.cells t) 27] (Am.InBlock 1 (Am.InBlock 0 (Am.Then (Fx.mk C 64 7) (sr (sr (sr (bodyOf Tryd.f98)))) (Am.Ends (Fx.mk C 64 7) Tryd.f98.results.toList (fun x H' => H' = [.row [.clo 67 [.ref 3 0, .ref 4 0, .ref 5 0, .ref 6 0]] 88, .row [.d (.int .i64 res.2.1)] 3, .row [.clo 98 [.ref 0 0, .ref 1 0, .ref 2 0]] 119, .row [.d (.str s1)] 9, .row (ApiType.cells res.2.2.1) 27, .row [.d (.int .i64 res.2.2.2.1)] 3, .row [.d (.bool res.2.2.2.2)] 4] ∧ x = .d (.bool res.1))))))) ?_ ?_ ?_
  · intro g1 g2 ih1 ih2 path t s apiType s2 s3 res hh
    refine ACall.intro hC Tryd.func98 rfl rfl rfl ?_
    refine AEx.seq ?_
    refine AEx.regionN rfl rfl ?_
    refine AOps.n hC rfl ?_
    refine AOps.q hC rfl trivial ?_
    refine AOps.nil ?_
    refine AEx.seq ?_
    refine AEx.seq ?_
    refine AEx.regionN rfl rfl ?_
    iterate 4 refine AOps.q hC rfl trivial ?_
    obtain ⟨x1, hx1, hh⟩ := bind_some hh
    refine AOps.g [3, 4, 5, 6] rfl (types_Find_1_v2_ok hx1) ⟨.rfl, ⟨.rfl, ⟨.rfl, ⟨.rfl, ⟨.rfl, ⟨.rfl, ⟨.rfl, trivial⟩⟩⟩⟩⟩⟩⟩ rfl ⟨rfl, ⟨rfl, ⟨rfl, ⟨rfl, trivial⟩⟩⟩⟩ rfl rfl ?_
    refine AOps.q hC rfl trivial ?_
    refine AOps.nil ?_
    refine AEx.cond rfl (fun hb => ?_) (fun hb => ?_)
    · replace hh := if_t hb hh
      refine AEx.seq ?_
      refine AEx.regionN rfl rfl ?_
      refine AOps.q hC rfl trivial ?_
      refine AOps.nil ?_
      refine AEx.ret ?_
      obtain rfl := Option.some.inj hh
      exact ⟨_, _, [.row [.clo 67 [.ref 3 0, .ref 4 0, .ref 5 0, .ref 6 0]] 88, .row [.d (.int .i64 s)] 3, .row [.clo 98 [.ref 0 0, .ref 1 0, .ref 2 0]] 119, .row [.d (.str s1)] 9, .row (ApiType.cells x1.2.1) 27, .row [.d (.int .i64 x1.2.2.1)] 3, .row [.d (.bool x1.2.2.2)] 4], rfl, .rfl, ⟨⟨rfl, .refl _, rfl⟩, ⟨⟨rfl, .refl _, rfl⟩, ⟨⟨rfl, .refl _, rfl⟩, ⟨⟨rfl, .refl _, rfl⟩, ⟨⟨rfl, .refl _, rfl⟩, ⟨⟨rfl, .refl _, rfl⟩, ⟨⟨rfl, .refl _, rfl⟩, trivial⟩⟩⟩⟩⟩⟩⟩, rfl, rfl, rfl, rfl⟩
    · replace hh := if_f hb hh
      refine AEx.skip ?_
      refine AEx.seq ?_
      refine AEx.seq ?_
      refine AEx.regionN rfl rfl ?_
      iterate 2 refine AOps.q hC rfl trivial ?_
      refine AOps.nil ?_
      refine AEx.block ?_
      refine AEx.seq ?_
      refine AEx.regionN rfl rfl ?_
      iterate 2 refine AOps.q hC rfl trivial ?_
      refine AOps.nil ?_
      refine AEx.cond rfl (fun hb => ?_) (fun hb => ?_)
      · replace hh := if_t hb hh
        refine AEx.seq ?_
        refine AEx.regionN rfl rfl ?_
        iterate 3 refine AOps.q hC rfl trivial ?_
        refine AOps.nil ?_
        refine AEx.block ?_
        refine AEx.ofLoop ?_
        refine ALoop.wk ?_ (ih2 _ _ _ _ _ _ _ _ hh)
        exact ⟨⟨⟨.rfl, rfl⟩, ⟨⟨.rfl, rfl⟩, ⟨⟨.rfl, rfl⟩, ⟨⟨.rfl, rfl⟩, ⟨⟨.rfl, rfl⟩, trivial⟩⟩⟩⟩⟩, ⟨⟨rfl, .refl _, rfl⟩, ⟨⟨rfl, .refl _, rfl⟩, ⟨⟨rfl, .refl _, rfl⟩, ⟨⟨rfl, .refl _, rfl⟩, ⟨⟨rfl, .refl _, rfl⟩, ⟨⟨rfl, .refl _, rfl⟩, ⟨⟨rfl, .refl _, rfl⟩, ⟨⟨rfl, .refl _, rfl⟩, trivial⟩⟩⟩⟩⟩⟩⟩⟩, rfl⟩
      · replace hh := if_f hb hh
        refine AEx.seq ?_
        refine AEx.regionN rfl rfl ?_
        iterate 2 refine AOps.q hC rfl trivial ?_
        refine AOps.nil ?_
        refine AEx.cond rfl (fun hb => ?_) (fun hb => ?_)
        · replace hh := if_t hb hh
          refine AEx.seq ?_
          refine AEx.regionN rfl rfl ?_
          iterate 2 refine AOps.q hC rfl trivial ?_
          refine AOps.qe hC rfl trivial (ApiType.lenA _) ?_
          refine AOps.q hC rfl trivial ?_
          refine AOps.nil ?_
          refine AEx.block ?_
          refine AEx.ofLoop ?_
          refine ALoop.wk ?_ (ih1 _ _ _ _ _ _ _ _ hh)
          exact ⟨⟨⟨.rfl, rfl⟩, ⟨⟨.rfl, rfl⟩, ⟨⟨.rfl, rfl⟩, ⟨⟨.rfl, rfl⟩, ⟨⟨.rfl, rfl⟩, ⟨⟨.rfl, rfl⟩, trivial⟩⟩⟩⟩⟩⟩, ⟨⟨rfl, .refl _, rfl⟩, ⟨⟨rfl, .refl _, rfl⟩, ⟨⟨rfl, .refl _, rfl⟩, ⟨⟨rfl, .refl _, rfl⟩, ⟨⟨rfl, .refl _, rfl⟩, ⟨⟨rfl, .refl _, rfl⟩, ⟨⟨rfl, .refl _, rfl⟩, ⟨⟨rfl, .refl _, rfl⟩, trivial⟩⟩⟩⟩⟩⟩⟩⟩, rfl⟩
        · replace hh := if_f hb hh
          refine AEx.regionN rfl rfl ?_
          iterate 2 refine AOps.q hC rfl trivial ?_
          refine AOps.s hC rfl ?_
          refine AOps.nil ?_
          refine AEx.seq ?_
          refine AEx.regionN rfl rfl ?_
          refine AOps.q hC rfl trivial ?_
          refine AOps.nil ?_
          refine AEx.ret ?_
          obtain rfl := Option.some.inj hh
          exact ⟨_, _, [.row [.clo 67 [.ref 3 0, .ref 4 0, .ref 5 0, .ref 6 0]] 88, .row [.d (.int .i64 (IntKind.i64.wrap (s + 1)))] 3, .row [.clo 98 [.ref 0 0, .ref 1 0, .ref 2 0]] 119, .row [.d (.str s1)] 9, .row (ApiType.cells x1.2.1) 27, .row [.d (.int .i64 x1.2.2.1)] 3, .row [.d (.bool x1.2.2.2)] 4], rfl, .rfl, ⟨⟨rfl, .refl _, rfl⟩, ⟨⟨rfl, .refl _, rfl⟩, ⟨⟨rfl, .refl _, rfl⟩, ⟨⟨rfl, .refl _, rfl⟩, ⟨⟨rfl, .refl _, rfl⟩, ⟨⟨rfl, .refl _, rfl⟩, ⟨⟨rfl, .refl _, rfl⟩, trivial⟩⟩⟩⟩⟩⟩⟩, rfl, rfl, rfl, rfl⟩
  · intro g0 g1 ih0 ih1 path t o11 o41 o51 o61 v46 res hh
    refine ALoop.unroll ?_
    refine AEx.seq ?_
    refine AEx.regionN rfl rfl ?_
    refine AOps.q hC rfl trivial ?_
    refine AOps.nil ?_
    refine AEx.seq ?_
    refine AEx.cond rfl (fun hb => ?_) (fun hb => ?_)
    · replace hh := if_t hb hh
      refine AEx.skip ?_
      refine AEx.seq ?_
      refine AEx.block ?_
      refine AEx.seq ?_
      refine AEx.regionN rfl rfl ?_
      refine AOps.q hC rfl trivial ?_
      obtain ⟨x4, hx4, hh⟩ := bind_some hh
      refine AOps.i hC rfl (idx_nat hx4) (ApiType.idx hx4) rfl ?_
      refine AOps.q hC rfl trivial ?_
      refine AOps.nf hC rfl ?_
      refine AOps.q hC rfl trivial ?_
      refine AOps.s hC rfl ?_
      refine AOps.nil ?_
      refine AEx.seq ?_
      refine AEx.draw hC 10 rfl rfl rfl ?_
      refine AQ.q hC rfl trivial ?_
      refine AQ.q hC rfl trivial ?_
      obtain ⟨c17, hh⟩ := asrt_some hh
      refine AQ.q hC rfl c17 ?_
      refine AQ.q hC rfl trivial ?_
      refine AQ.q hC rfl trivial ?_
      refine AQ.q hC rfl trivial ?_
      obtain ⟨x5, hx5, hh⟩ := bind_some hh
      refine AQ.i hC rfl (idx_nat hx5) (estr.idx hx5) rfl ?_
      refine AQ.q hC rfl trivial ?_
      obtain ⟨c18, hh⟩ := asrt_some hh
      refine AQ.q hC rfl c18 ?_
      refine AQ.q hC rfl trivial ?_
      refine AQ.nil ?_
      obtain ⟨x7, hx7, hh⟩ := bind_some hh
      refine AOps.g [0, 1, 2, 3, 4, 5, 6] rfl (ih0 _ _ _ _ _ _ _ hx7) ⟨.rfl, ⟨.rfl, ⟨.rfl, ⟨.rfl, ⟨.rfl, trivial⟩⟩⟩⟩⟩ rfl ⟨rfl, ⟨rfl, ⟨rfl, ⟨rfl, ⟨rfl, ⟨rfl, ⟨rfl, trivial⟩⟩⟩⟩⟩⟩⟩ rfl rfl ?_
      refine AOps.q hC rfl trivial ?_
      refine AOps.nil ?_
      refine AEx.cond rfl (fun hb => ?_) (fun hb => ?_)
      · replace hh := if_t hb hh
        refine AEx.seq ?_
        refine AEx.regionN rfl rfl ?_
        refine AOps.q hC rfl trivial ?_
        refine AOps.nil ?_
        refine AEx.ret ?_
        obtain rfl := Option.some.inj hh
        exact ⟨_, _, [.row [.clo 67 [.ref 3 0, .ref 4 0, .ref 5 0, .ref 6 0]] 88, .row [.d (.int .i64 x7.2.1)] 3, .row [.clo 98 [.ref 0 0, .ref 1 0, .ref 2 0]] 119, .row [.d (.str s1)] 9, .row (ApiType.cells x7.2.2.1) 27, .row [.d (.int .i64 x7.2.2.2.1)] 3, .row [.d (.bool x7.2.2.2.2)] 4], rfl, .rfl, ⟨⟨rfl, .refl _, rfl⟩, ⟨⟨rfl, .refl _, rfl⟩, ⟨⟨rfl, .refl _, rfl⟩, ⟨⟨rfl, .refl _, rfl⟩, ⟨⟨rfl, .refl _, rfl⟩, ⟨⟨rfl, .refl _, rfl⟩, ⟨⟨rfl, .refl _, rfl⟩, trivial⟩⟩⟩⟩⟩⟩⟩, rfl, rfl, rfl, rfl⟩
      · replace hh := if_f hb hh
        refine AEx.skip ?_
        refine AEx.regionN rfl rfl ?_
        iterate 2 refine AOps.q hC rfl trivial ?_
        refine AOps.nil ?_
        refine ALoop.wk ?_ (ih1 _ _ _ _ _ _ _ _ hh)
        exact ⟨⟨⟨.rfl, rfl⟩, ⟨⟨.rfl, rfl⟩, ⟨⟨.rfl, rfl⟩, ⟨⟨.rfl, rfl⟩, ⟨⟨.rfl, rfl⟩, ⟨⟨.rfl, rfl⟩, trivial⟩⟩⟩⟩⟩⟩, ⟨⟨rfl, .refl _, rfl⟩, ⟨⟨rfl, .refl _, rfl⟩, ⟨⟨rfl, .refl _, rfl⟩, ⟨⟨rfl, .refl _, rfl⟩, ⟨⟨rfl, .refl _, rfl⟩, ⟨⟨rfl, .refl _, rfl⟩, ⟨⟨rfl, .refl _, rfl⟩, ⟨⟨rfl, .refl _, rfl⟩, trivial⟩⟩⟩⟩⟩⟩⟩⟩, rfl⟩
    · replace hh := if_f hb hh
      refine AEx.exit ?_
      refine AEx.seq ?_
      refine AEx.regionN rfl rfl ?_
      refine AOps.q hC rfl trivial ?_
      refine AOps.nil ?_
      refine AEx.ret ?_
      obtain rfl := Option.some.inj hh
      exact ⟨_, _, [.row [.clo 67 [.ref 3 0, .ref 4 0, .ref 5 0, .ref 6 0]] 88, .row [.d (.int .i64 o11)] 3, .row [.clo 98 [.ref 0 0, .ref 1 0, .ref 2 0]] 119, .row [.d (.str s1)] 9, .row (ApiType.cells o41) 27, .row [.d (.int .i64 o51)] 3, .row [.d (.bool o61)] 4], rfl, .rfl, ⟨⟨rfl, .refl _, rfl⟩, ⟨⟨rfl, .refl _, rfl⟩, ⟨⟨rfl, .refl _, rfl⟩, ⟨⟨rfl, .refl _, rfl⟩, ⟨⟨rfl, .refl _, rfl⟩, ⟨⟨rfl, .refl _, rfl⟩, ⟨⟨rfl, .refl _, rfl⟩, trivial⟩⟩⟩⟩⟩⟩⟩, rfl, rfl, rfl, rfl⟩
  · intro g0 g2 ih0 ih2 path t o1 o4 o5 o6 v25 res hh
    refine ALoop.unroll ?_
    refine AEx.seq ?_
    refine AEx.regionN rfl rfl ?_
    refine AOps.q hC rfl trivial ?_
    refine AOps.nil ?_
    refine AEx.seq ?_
    refine AEx.cond rfl (fun hb => ?_) (fun hb => ?_)
    · replace hh := if_t hb hh
      refine AEx.skip ?_
      refine AEx.seq ?_
      refine AEx.block ?_
      refine AEx.seq ?_
      refine AEx.regionN rfl rfl ?_
      iterate 2 refine AOps.q hC rfl trivial ?_
      refine AOps.nil ?_
      refine AEx.seq ?_
      refine AEx.draw hC 10 rfl rfl rfl ?_
      refine AQ.q hC rfl trivial ?_
      refine AQ.q hC rfl trivial ?_
      obtain ⟨c15, hh⟩ := asrt_some hh
      refine AQ.q hC rfl c15 ?_
      refine AQ.q hC rfl trivial ?_
      obtain ⟨x2, hx2, hh⟩ := bind_some hh
      refine AQ.c rfl rfl (X_Itoa_ok hx2) ?_
      obtain ⟨c16, hh⟩ := asrt_some hh
      refine AQ.q hC rfl c16 ?_
      refine AQ.q hC rfl trivial ?_
      refine AQ.q hC rfl trivial ?_
      obtain ⟨x3, hx3, hh⟩ := bind_some hh
      refine AQ.i hC rfl (idx_nat hx3) (ApiType.idx hx3) rfl ?_
      refine AQ.q hC rfl trivial ?_
      refine AQ.nil ?_
      obtain ⟨x6, hx6, hh⟩ := bind_some hh
      refine AOps.g [0, 1, 2, 3, 4, 5, 6] rfl (ih0 _ _ _ _ _ _ _ hx6) ⟨.rfl, ⟨.rfl, ⟨.rfl, ⟨.rfl, ⟨.rfl, trivial⟩⟩⟩⟩⟩ rfl ⟨rfl, ⟨rfl, ⟨rfl, ⟨rfl, ⟨rfl, ⟨rfl, ⟨rfl, trivial⟩⟩⟩⟩⟩⟩⟩ rfl rfl ?_
      refine AOps.q hC rfl trivial ?_
      refine AOps.nil ?_
      refine AEx.cond rfl (fun hb => ?_) (fun hb => ?_)
      · replace hh := if_t hb hh
        refine AEx.seq ?_
        refine AEx.regionN rfl rfl ?_
        refine AOps.q hC rfl trivial ?_
        refine AOps.nil ?_
        refine AEx.ret ?_
        obtain rfl := Option.some.inj hh
        exact ⟨_, _, [.row [.clo 67 [.ref 3 0, .ref 4 0, .ref 5 0, .ref 6 0]] 88, .row [.d (.int .i64 x6.2.1)] 3, .row [.clo 98 [.ref 0 0, .ref 1 0, .ref 2 0]] 119, .row [.d (.str s1)] 9, .row (ApiType.cells x6.2.2.1) 27, .row [.d (.int .i64 x6.2.2.2.1)] 3, .row [.d (.bool x6.2.2.2.2)] 4], rfl, .rfl, ⟨⟨rfl, .refl _, rfl⟩, ⟨⟨rfl, .refl _, rfl⟩, ⟨⟨rfl, .refl _, rfl⟩, ⟨⟨rfl, .refl _, rfl⟩, ⟨⟨rfl, .refl _, rfl⟩, ⟨⟨rfl, .refl _, rfl⟩, ⟨⟨rfl, .refl _, rfl⟩, trivial⟩⟩⟩⟩⟩⟩⟩, rfl, rfl, rfl, rfl⟩
      · replace hh := if_f hb hh
        refine AEx.skip ?_
        refine AEx.regionN rfl rfl ?_
        iterate 2 refine AOps.q hC rfl trivial ?_
        refine AOps.nil ?_
        refine ALoop.wk ?_ (ih2 _ _ _ _ _ _ _ _ hh)
        exact ⟨⟨⟨.rfl, rfl⟩, ⟨⟨.rfl, rfl⟩, ⟨⟨.rfl, rfl⟩, ⟨⟨.rfl, rfl⟩, ⟨⟨.rfl, rfl⟩, trivial⟩⟩⟩⟩⟩, ⟨⟨rfl, .refl _, rfl⟩, ⟨⟨rfl, .refl _, rfl⟩, ⟨⟨rfl, .refl _, rfl⟩, ⟨⟨rfl, .refl _, rfl⟩, ⟨⟨rfl, .refl _, rfl⟩, ⟨⟨rfl, .refl _, rfl⟩, ⟨⟨rfl, .refl _, rfl⟩, ⟨⟨rfl, .refl _, rfl⟩, trivial⟩⟩⟩⟩⟩⟩⟩⟩, rfl⟩
    · replace hh := if_f hb hh
      refine AEx.exit ?_
      refine AEx.seq ?_
      refine AEx.regionN rfl rfl ?_
      refine AOps.q hC rfl trivial ?_
      refine AOps.nil ?_
      refine AEx.ret ?_
      obtain rfl := Option.some.inj hh
      exact ⟨_, _, [.row [.clo 67 [.ref 3 0, .ref 4 0, .ref 5 0, .ref 6 0]] 88, .row [.d (.int .i64 o1)] 3, .row [.clo 98 [.ref 0 0, .ref 1 0, .ref 2 0]] 119, .row [.d (.str s1)] 9, .row (ApiType.cells o4) 27, .row [.d (.int .i64 o5)] 3, .row [.d (.bool o6)] 4], rfl, .rfl, ⟨⟨rfl, .refl _, rfl⟩, ⟨⟨rfl, .refl _, rfl⟩, ⟨⟨rfl, .refl _, rfl⟩, ⟨⟨rfl, .refl _, rfl⟩, ⟨⟨rfl, .refl _, rfl⟩, ⟨⟨rfl, .refl _, rfl⟩, ⟨⟨rfl, .refl _, rfl⟩, trivial⟩⟩⟩⟩⟩⟩⟩, rfl, rfl, rfl, rfl⟩
theorem types_each_1_v4_ok {path : Str} {t : ApiType} {s : Int} {s1 : Str} {apiType : ApiType} {s2 : Int} {s3 : Bool} {res : Bool × Int × ApiType × Int × Bool} (hh : types_each_1_v4 path t s s1 apiType s2 s3 = some res) : ACall C 98 [.d (.str path), .agg (ApiType.cells t), .ref 0 0, .ref 1 0, .ref 2 0] [.row [.clo 67 [.ref 3 0, .ref 4 0, .ref 5 0, .ref 6 0]] 88, .row [.d (.int .i64 s)] 3, .row [.clo 98 [.ref 0 0, .ref 1 0, .ref 2 0]] 119, .row [.d (.str s1)] 9, .row (ApiType.cells apiType) 27, .row [.d (.int .i64 s2)] 3, .row [.d (.bool s3)] 4] (fun x H' => H' = [.row [.clo 67 [.ref 3 0, .ref 4 0, .ref 5 0, .ref 6 0]] 88, .row [.d (.int .i64 res.2.1)] 3, .row [.clo 98 [.ref 0 0, .ref 1 0, .ref 2 0]] 119, .row [.d (.str s1)] 9, .row (ApiType.cells res.2.2.1) 27, .row [.d (.int .i64 res.2.2.2.1)] 3, .row [.d (.bool res.2.2.2.2)] 4] ∧ x = .d (.bool res.1)) := (types_each_1_v4_grp s1).1 _ _ _ _ _ _ _ hh
theorem types_each_1_v4_l2_ok {path : Str} {t : ApiType} {s1 : Str} {o11 : Int} {o41 : ApiType} {o51 : Int} {o61 : Bool} {v46 : Int} {res : Bool × Int × ApiType × Int × Bool} (hh : types_each_1_v4_l2 path t s1 o11 o41 o51 o61 v46 = some res) : ALoop (Fx.mk C 64 7) (lo (bk (sr (ca (sr (cb (sr (bk (sr (sl (sr (sr (bodyOf Tryd.f98))))))))))))) (mkEnv [(0, .d (.str path)), (4, .ref 2 0), (6, .ref 7 0), (44, .d (.sl (ApiType.rows t.Of))), (45, .d (.int .i64 ((t.Of).length : Int))), (46, .d (.int .i64 v46))]) [.row [.clo 67 [.ref 3 0, .ref 4 0, .ref 5 0, .ref 6 0]] 88, .row [.d (.int .i64 o11)] 3, .row [.clo 98 [.ref 0 0, .ref 1 0, .ref 2 0]] 119, .row [.d (.str s1)] 9, .row (ApiType.cells o41) 27, .row [.d (.int .i64 o51)] 3, .row [.d (.bool o61)] 4, .row (ApiType.cells t) 27] (Am.InBlock 3 (Am.InBlock 0 (Am.Then (Fx.mk C 64 7) (sr (sr (sr (bodyOf Tryd.f98)))) (Am.Ends (Fx.mk C 64 7) Tryd.f98.results.toList (fun x H' => H' = [.row [.clo 67 [.ref 3 0, .ref 4 0, .ref 5 0, .ref 6 0]] 88, .row [.d (.int .i64 res.2.1)] 3, .row [.clo 98 [.ref 0 0, .ref 1 0, .ref 2 0]] 119, .row [.d (.str s1)] 9, .row (ApiType.cells res.2.2.1) 27, .row [.d (.int .i64 res.2.2.2.1)] 3, .row [.d (.bool res.2.2.2.2)] 4] ∧ x = .d (.bool res.1)))))) := (types_each_1_v4_grp s1).2.1 _ _ _ _ _ _ _ _ hh
theorem types_each_1_v4_l1_ok {path : Str} {t : ApiType} {s1 : Str} {o1 : Int} {o4 : ApiType} {o5 : Int} {o6 : Bool} {v25 : Int} {res : Bool × Int × ApiType × Int × Bool} (hh : types_each_1_v4_l1 path t s1 o1 o4 o5 o6 v25 = some res) : ALoop (Fx.mk C 64 7) (lo (bk (sr (ca (sr (bk (sr (sl (sr (sr (bodyOf Tryd.f98))))))))))) (mkEnv [(0, .d (.str path)), (4, .ref 2 0), (6, .ref 7 0), (24, .d (.int .i64 t.Size)), (25, .d (.int .i64 v25))]) [.row [.clo 67 [.ref 3 0, .ref 4 0, .ref 5 0, .ref 6 0]] 88, .row [.d (.int .i64 o1)] 3, .row [.clo 98 [.ref 0 0, .ref 1 0, .ref 2 0]] 119, .row [.d (.str s1)] 9, .row (ApiType.cells o4) 27, .row [.d (.int .i64 o5)] 3, .row [.d (.bool o6)] 4, .row (ApiType.cells t) 27] (Am.InBlock 1 (Am.InBlock 0 (Am.Then (Fx.mk C 64 7) (sr (sr (sr (bodyOf Tryd.f98)))) (Am.Ends (Fx.mk C 64 7) Tryd.f98.results.toList (fun x H' => H' = [.row [.clo 67 [.ref 3 0, .ref 4 0, .ref 5 0, .ref 6 0]] 88, .row [.d (.int .i64 res.2.1)] 3, .row [.clo 98 [.ref 0 0, .ref 1 0, .ref 2 0]] 119, .row [.d (.str s1)] 9, .row (ApiType.cells res.2.2.1) 27, .row [.d (.int .i64 res.2.2.2.1)] 3, .row [.d (.bool res.2.2.2.2)] 4] ∧ x = .d (.bool res.1)))))) := (types_each_1_v4_grp s1).2.2 _ _ _ _ _ _ _ _ hh
end Go.Proofs.YtonilfkaecbjnaaDoor
