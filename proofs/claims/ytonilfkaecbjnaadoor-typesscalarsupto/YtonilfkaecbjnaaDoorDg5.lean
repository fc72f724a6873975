/- What the functions compute, and that they do: printed by gen.py. -/
import Derived.Test.YtonilfkaecbjnaaDoorDg4
set_option maxRecDepth 100000
set_option maxHeartbeats 4000000
set_option linter.unusedVariables false
namespace Go.Proofs.YtonilfkaecbjnaaDoor
open Go.Am
def ref10_verdict (s : Keyholeref10Size) (form : Bool) (names : Bool) (numbers : Bool) : Option Int :=
  if (bif (decide (s.nodes > 1024)) then true else (decide (s.depth > 12))) = true then
    some 4
  else
    if (!form) = true then
      some 1
    else
      if (!names) = true then
        some 7
      else
        if (!numbers) = true then
          some 3
        else
          some 0
theorem ref10_verdict_ok {s : Keyholeref10Size} {form : Bool} {names : Bool} {numbers : Bool} {res : Int} (hh : ref10_verdict s form names numbers = some res) : ACall C 105 [.agg (Keyholeref10Size.cells s), .d (.bool form), .d (.bool names), .d (.bool numbers)] [] (fun x H' => H' = [] ∧ x = .d (.int .i64 res)) := by
  unfold ref10_verdict at hh
  refine ACall.intro hC Tryd.func105 rfl rfl rfl ?_
  refine AEx.seq ?_
  refine AEx.regionN rfl rfl ?_
  refine AOps.n hC rfl ?_
  refine AOps.q hC rfl trivial ?_
  refine AOps.nil ?_
  refine AEx.seq ?_
  refine AEx.seq ?_
  refine AEx.regionG 8 rfl ?_
  refine AG.q hC rfl ?_ ?_
  · intro hg; refine And.intro ?_ ?_ <;> repeat' (first | exact True.intro | exact hg | exact and_l hg | exact and_l (and_l hg) | refine And.intro ?_ ?_)
  refine AG.q hC rfl ?_ ?_
  · intro hg; refine And.intro ?_ ?_ <;> repeat' (first | exact True.intro | exact hg | exact and_l hg | exact and_l (and_l hg) | refine And.intro ?_ ?_)
  refine AG.q hC rfl ?_ ?_
  · intro hg; refine And.intro ?_ ?_ <;> repeat' (first | exact True.intro | exact hg | exact and_l hg | exact and_l (and_l hg) | refine And.intro ?_ ?_)
  refine AG.q hC rfl ?_ ?_
  · intro hg; refine And.intro ?_ ?_ <;> repeat' (first | exact True.intro | exact hg | exact and_l hg | exact and_l (and_l hg) | refine And.intro ?_ ?_)
  refine AG.q hC rfl ?_ ?_
  · intro hg; refine And.intro ?_ ?_ <;> repeat' (first | exact True.intro | exact hg | exact and_l hg | exact and_l (and_l hg) | refine And.intro ?_ ?_)
  refine AG.q hC rfl ?_ ?_
  · intro hg; refine And.intro ?_ ?_ <;> repeat' (first | exact True.intro | exact hg | exact and_l hg | exact and_l (and_l hg) | refine And.intro ?_ ?_)
  refine AG.q hC rfl ?_ ?_
  · intro hg; refine And.intro ?_ ?_ <;> repeat' (first | exact True.intro | exact hg | exact and_l hg | exact and_l (and_l hg) | refine And.intro ?_ ?_)
  refine AG.p hC rfl ?_ ?_
  · intro hg; refine And.intro ?_ (And.intro ?_ ?_) <;> first | exact True.intro | exact fun _ => True.intro | exact And.intro hg True.intro | exact fun h' => And.intro (wb_f h') True.intro | exact fun h' => And.intro (wb_t h') True.intro | exact fun h' => And.intro (and_f hg h') True.intro | exact fun h' => And.intro (and_t hg h') True.intro | exact And.intro (and_l hg) True.intro
  refine AG.nil ?_
  refine AOps.nil ?_
  refine AEx.cond rfl (fun hb => ?_) (fun hb => ?_)
  · replace hh := if_t hb hh
    refine AEx.seq ?_
    refine AEx.regionN rfl rfl ?_
    refine AOps.q hC rfl trivial ?_
    refine AOps.nil ?_
    refine AEx.ret ?_
    obtain rfl := Option.some.inj hh
    exact ⟨_, _, [], rfl, .rfl, trivial, rfl, rfl, rfl, rfl⟩
  · replace hh := if_f hb hh
    refine AEx.skip ?_
    refine AEx.seq ?_
    refine AEx.seq ?_
    refine AEx.regionN rfl rfl ?_
    iterate 2 refine AOps.q hC rfl trivial ?_
    refine AOps.nil ?_
    refine AEx.cond rfl (fun hb => ?_) (fun hb => ?_)
    · replace hh := if_t hb hh
      refine AEx.seq ?_
      refine AEx.regionN rfl rfl ?_
      refine AOps.q hC rfl trivial ?_
      refine AOps.nil ?_
      refine AEx.ret ?_
      obtain rfl := Option.some.inj hh
      exact ⟨_, _, [], rfl, .rfl, trivial, rfl, rfl, rfl, rfl⟩
    · replace hh := if_f hb hh
      refine AEx.skip ?_
      refine AEx.seq ?_
      refine AEx.seq ?_
      refine AEx.regionN rfl rfl ?_
      iterate 2 refine AOps.q hC rfl trivial ?_
      refine AOps.nil ?_
      refine AEx.cond rfl (fun hb => ?_) (fun hb => ?_)
      · replace hh := if_t hb hh
        refine AEx.seq ?_
        refine AEx.regionN rfl rfl ?_
        refine AOps.q hC rfl trivial ?_
        refine AOps.nil ?_
        refine AEx.ret ?_
        obtain rfl := Option.some.inj hh
        exact ⟨_, _, [], rfl, .rfl, trivial, rfl, rfl, rfl, rfl⟩
      · replace hh := if_f hb hh
        refine AEx.skip ?_
        refine AEx.seq ?_
        refine AEx.seq ?_
        refine AEx.regionN rfl rfl ?_
        iterate 2 refine AOps.q hC rfl trivial ?_
        refine AOps.nil ?_
        refine AEx.cond rfl (fun hb => ?_) (fun hb => ?_)
        · replace hh := if_t hb hh
          refine AEx.seq ?_
          refine AEx.regionN rfl rfl ?_
          refine AOps.q hC rfl trivial ?_
          refine AOps.nil ?_
          refine AEx.ret ?_
          obtain rfl := Option.some.inj hh
          exact ⟨_, _, [], rfl, .rfl, trivial, rfl, rfl, rfl, rfl⟩
        · replace hh := if_f hb hh
          refine AEx.skip ?_
          refine AEx.seq ?_
          refine AEx.regionN rfl rfl ?_
          refine AOps.q hC rfl trivial ?_
          refine AOps.nil ?_
          refine AEx.ret ?_
          obtain rfl := Option.some.inj hh
          exact ⟨_, _, [], rfl, .rfl, trivial, rfl, rfl, rfl, rfl⟩
def ref10_CheckType (t : ApiType) : Option Int :=
  ref10_addType (Keyholeref10Size.mk 0 0) t true >>= fun x1 =>
  ref10_typeForm t >>= fun x2 =>
  ref10_typeNames t >>= fun x3 =>
  ref10_typeNumbers t >>= fun x4 =>
  ref10_verdict x1 x2 x3 x4 >>= fun x5 =>
  some x5
theorem ref10_CheckType_ok {t : ApiType} {res : Int} (hh : ref10_CheckType t = some res) : ACall C 60 [.agg (ApiType.cells t)] [] (fun x H' => H' = [] ∧ x = .d (.int .i64 res)) := by
  unfold ref10_CheckType at hh
  refine ACall.intro hC Tryd.func60 rfl rfl rfl ?_
  refine AEx.seq ?_
  refine AEx.regionN rfl rfl ?_
  refine AOps.n hC rfl ?_
  refine AOps.q hC rfl trivial ?_
  refine AOps.nil ?_
  refine AEx.seq ?_
  refine AEx.draw hC 11 rfl rfl rfl ?_
  refine AQ.q hC rfl trivial ?_
  refine AQ.q hC rfl trivial ?_
  obtain ⟨x1, hx1, hh⟩ := bind_some hh
  refine AQ.c rfl rfl (ref10_addType_ok hx1) ?_
  refine AQ.q hC rfl trivial ?_
  obtain ⟨x2, hx2, hh⟩ := bind_some hh
  refine AQ.c rfl rfl (ref10_typeForm_ok hx2) ?_
  refine AQ.q hC rfl trivial ?_
  obtain ⟨x3, hx3, hh⟩ := bind_some hh
  refine AQ.c rfl rfl (ref10_typeNames_ok hx3) ?_
  refine AQ.q hC rfl trivial ?_
  obtain ⟨x4, hx4, hh⟩ := bind_some hh
  refine AQ.c rfl rfl (ref10_typeNumbers_ok hx4) ?_
  obtain ⟨x5, hx5, hh⟩ := bind_some hh
  refine AQ.c rfl rfl (ref10_verdict_ok hx5) ?_
  refine AQ.q hC rfl trivial ?_
  refine AQ.nil ?_
  refine AOps.nil ?_
  refine AEx.ret ?_
  obtain rfl := Option.some.inj hh
  exact ⟨_, _, [], rfl, .rfl, trivial, rfl, rfl, rfl, rfl⟩
mutual
def ref12_doubled (t : ApiType) : Option Bool :=
  if (t.Kind == 3) = true then
    ref12_doubled_l1 t 0
  else
    ref12_doubled_j2 t
  partial_fixpoint
def ref12_doubled_j2 (t : ApiType) : Option Bool :=
  ref12_doubled_l4 t 0
  partial_fixpoint
def ref12_doubled_l4 (t : ApiType) (i2 : Int) : Option Bool :=
  if (decide (i2 < ((t.Of).length : Int))) = true then
    idx t.Of i2 >>= fun x3 =>
    ref12_doubled x3 >>= fun x4 =>
    if x4 = true then
      some true
    else
      ref12_doubled_l4 t (IntKind.i64.wrap (i2 + 1))
  else
    some false
  partial_fixpoint
def ref12_doubled_l1 (t : ApiType) (i : Int) : Option Bool :=
  if (decide (i < ((t.Names).length : Int))) = true then
    ref12_doubled_l3 t i 0
  else
    ref12_doubled_j2 t
  partial_fixpoint
def ref12_doubled_l3 (t : ApiType) (i1 : Int) (k : Int) : Option Bool :=
  if (decide (k < i1)) = true then
    idx t.Names i1 >>= fun x1 =>
    idx t.Names k >>= fun x2 =>
    if (x1 == x2) = true then
      some true
    else
      ref12_doubled_l3 t i1 (IntKind.i64.wrap (k + 1))
  else
    ref12_doubled_l1 t (IntKind.i64.wrap (i1 + 1))
  partial_fixpoint
end
theorem ref12_doubled_grp : (∀ (t : ApiType) (res : Bool), ref12_doubled t = some res → ACall C 62 [.agg (ApiType.cells t)] [] (fun x H' => H' = [] ∧ x = .d (.bool res))) ∧
    (∀ (t : ApiType) (res : Bool), ref12_doubled_j2 t = some res → AEx (Fx.mk C 45 0) (sr (sr (bodyOf Tryd.f62))) (mkEnv [(1, .ref 0 0)]) [.row (ApiType.cells t) 27] (Am.Ends (Fx.mk C 45 0) Tryd.f62.results.toList (fun x H' => H' = [] ∧ x = .d (.bool res)))) ∧
    (∀ (t : ApiType) (i2 : Int) (res : Bool), ref12_doubled_l4 t i2 = some res → ALoop (Fx.mk C 45 0) (lo (bk (sr (sl (sr (sr (bodyOf Tryd.f62))))))) (mkEnv [(1, .ref 0 0), (5, .d (.int .i64 i2))]) [.row (ApiType.cells t) 27] (Am.InBlock 4 (Am.Then (Fx.mk C 45 0) (sr (sr (sr (bodyOf Tryd.f62)))) (Am.Ends (Fx.mk C 45 0) Tryd.f62.results.toList (fun x H' => H' = [] ∧ x = .d (.bool res)))))) ∧
    (∀ (t : ApiType) (i : Int) (res : Bool), ref12_doubled_l1 t i = some res → ALoop (Fx.mk C 45 0) (lo (bk (sr (ca (sr (sl (sr (bodyOf Tryd.f62)))))))) (mkEnv [(1, .ref 0 0), (3, .d (.int .i64 i))]) [.row (ApiType.cells t) 27] (Am.InBlock 0 (Am.Then (Fx.mk C 45 0) (sr (sr (bodyOf Tryd.f62))) (Am.Ends (Fx.mk C 45 0) Tryd.f62.results.toList (fun x H' => H' = [] ∧ x = .d (.bool res)))))) ∧
    (∀ (t : ApiType) (i1 : Int) (k : Int) (res : Bool), ref12_doubled_l3 t i1 k = some res → ALoop (Fx.mk C 45 0) (lo (bk (sr (bk (sl (sr (lo (bk (sr (ca (sr (sl (sr (bodyOf Tryd.f62)))))))))))))) (mkEnv [(1, .ref 0 0), (3, .d (.int .i64 i1)), (4, .d (.int .i64 k))]) [.row (ApiType.cells t) 27] (Am.InBlock 2 (Am.InBlock 1 (Am.Then (Fx.mk C 45 0) (sr (sr (lo (bk (sr (ca (sr (sl (sr (bodyOf Tryd.f62)))))))))) (Am.Again (Fx.mk C 45 0) (lo (bk (sr (ca (sr (sl (sr (bodyOf Tryd.f62)))))))) (Am.InBlock 0 (Am.Then (Fx.mk C 45 0) (sr (sr (bodyOf Tryd.f62))) (Am.Ends (Fx.mk C 45 0) Tryd.f62.results.toList (fun x H' => H' = [] ∧ x = .d (.bool res)))))))))) := by
  refine ref12_doubled.mutual_partial_correctness (fun t res => ACall C 62 [.agg (ApiType.cells t)] [] (fun x H' => H' = [] ∧ x = .d (.bool res)))
    (fun t res => AEx (Fx.mk C 45 0) (sr (sr (bodyOf Tryd.f62))) (mkEnv [(1, .ref 0 0)]) [.row (ApiType.cells t) 27] (Am.Ends (Fx.mk C 45 0) Tryd.f62.results.toList (fun x H' => H' = [] ∧ x = .d (.bool res))))
    (fun t i2 res => ALoop (Fx.mk C 45 0) (lo (bk (sr (sl (sr (sr (bodyOf Tryd.f62))))))) (mkEnv [(1, .ref 0 0), (5, .d (.int .i64 i2))]) [.row (ApiType.cells t) 27] (Am.InBlock 4 (Am.Then (Fx.mk C 45 0) (sr (sr (sr (bodyOf Tryd.f62)))) (Am.Ends (Fx.mk C 45 0) Tryd.f62.results.toList (fun x H' => H' = [] ∧ x = .d (.bool res))))))
    (fun t i res => ALoop (Fx.mk C 45 0) (lo (bk (sr (ca (sr (sl (sr (bodyOf Tryd.f62)))))))) (mkEnv [(1, .ref 0 0), (3, .d (.int .i64 i))]) [.row (ApiType.cells t) 27] (Am.InBlock 0 (Am.Then (Fx.mk C 45 0) (sr (sr (bodyOf Tryd.f62))) (Am.Ends (Fx.mk C 45 0) Tryd.f62.results.toList (fun x H' => H' = [] ∧ x = .d (.bool res))))))
    (fun t i1 k res => ALoop (Fx.mk C 45 0) (lo (bk (sr (bk (sl (sr (lo (bk (sr (ca (sr (sl (sr (bodyOf Tryd.f62)))))))))))))) (mkEnv [(1, .ref 0 0), (3, .d (.int .i64 i1)), (4, .d (.int .i64 k))]) [.row (ApiType.cells t) 27] (Am.InBlock 2 (Am.InBlock 1 (Am.Then (Fx.mk C 45 0) (sr (sr (lo (bk (sr (ca (sr (sl (sr (bodyOf Tryd.f62)))))))))) (Am.Again (Fx.mk C 45 0) (lo (bk (sr (ca (sr (sl (sr (bodyOf Tryd.f62)))))))) (Am.InBlock 0 (Am.Then (Fx.mk C 45 0) (sr (sr (bodyOf Tryd.f62))) (Am.Ends (Fx.mk C 45 0) Tryd.f62.results.toList (fun x H' => H' = [] ∧ x = .d (.bool res)))))))))) ?_ ?_ ?_ ?_ ?_
  · intro g1 g3 ih1 ih3 t res hh
    refine ACall.intro hC Tryd.func62 rfl rfl rfl ?_
    refine AEx.seq ?_
    refine AEx.regionN rfl rfl ?_
    refine AOps.n hC rfl ?_
    refine AOps.q hC rfl trivial ?_
    refine AOps.nil ?_
    refine AEx.seq ?_
    refine AEx.seq ?_
    refine AEx.regionN rfl rfl ?_
    iterate 3 refine AOps.q hC rfl trivial ?_
    refine AOps.nil ?_
    refine AEx.cond rfl (fun hb => ?_) (fun hb => ?_)
    · replace hh := if_t hb hh
      refine AEx.seq ?_
      refine AEx.regionN rfl rfl ?_
      refine AOps.q hC rfl trivial ?_
      refine AOps.nil ?_
      refine AEx.block ?_
      refine AEx.ofLoop ?_
      refine ALoop.wk ?_ (ih3 _ _ _ hh)
      exact ⟨⟨⟨.rfl, rfl⟩, ⟨⟨.rfl, rfl⟩, trivial⟩⟩, ⟨⟨rfl, .refl _, rfl⟩, trivial⟩, rfl⟩
    · replace hh := if_f hb hh
      refine AEx.skip ?_
      refine AEx.wk ?_ (ih1 _ _ hh)
      exact ⟨⟨⟨.rfl, rfl⟩, trivial⟩, ⟨⟨rfl, .refl _, rfl⟩, trivial⟩, rfl⟩
  · intro g2 ih2 t res hh
    refine AEx.seq ?_
    refine AEx.seq ?_
    refine AEx.regionN rfl rfl ?_
    refine AOps.q hC rfl trivial ?_
    refine AOps.nil ?_
    refine AEx.block ?_
    refine AEx.ofLoop ?_
    refine ALoop.wk ?_ (ih2 _ _ _ hh)
    exact ⟨⟨⟨.rfl, rfl⟩, ⟨⟨.rfl, rfl⟩, trivial⟩⟩, ⟨⟨rfl, .refl _, rfl⟩, trivial⟩, rfl⟩
  · intro g0 g2 ih0 ih2 t i2 res hh
    refine ALoop.unroll ?_
    refine AEx.seq ?_
    refine AEx.seq ?_
    refine AEx.regionN rfl rfl ?_
    iterate 3 refine AOps.q hC rfl trivial ?_
    refine AOps.qe hC rfl trivial (ApiType.lenA _) ?_
    refine AOps.q hC rfl trivial ?_
    refine AOps.nil ?_
    refine AEx.cond rfl (fun hb => ?_) (fun hb => ?_)
    · replace hh := if_t hb hh
      refine AEx.skip ?_
      refine AEx.seq ?_
      refine AEx.block ?_
      refine AEx.seq ?_
      refine AEx.regionN rfl rfl ?_
      iterate 3 refine AOps.q hC rfl trivial ?_
      obtain ⟨x3, hx3, hh⟩ := bind_some hh
      refine AOps.i hC rfl (idx_nat hx3) (ApiType.idx hx3) rfl ?_
      refine AOps.q hC rfl trivial ?_
      obtain ⟨x4, hx4, hh⟩ := bind_some hh
      refine AOps.c rfl rfl (ih0 _ _ hx4) ?_
      refine AOps.nil ?_
      refine AEx.cond rfl (fun hb => ?_) (fun hb => ?_)
      · replace hh := if_t hb hh
        refine AEx.seq ?_
        refine AEx.regionN rfl rfl ?_
        refine AOps.q hC rfl trivial ?_
        refine AOps.nil ?_
        refine AEx.ret ?_
        obtain rfl := Option.some.inj hh
        exact ⟨_, _, [], rfl, .rfl, trivial, rfl, rfl, rfl, rfl⟩
      · replace hh := if_f hb hh
        refine AEx.skip ?_
        refine AEx.regionN rfl rfl ?_
        iterate 3 refine AOps.q hC rfl trivial ?_
        refine AOps.nil ?_
        refine ALoop.wk ?_ (ih2 _ _ _ hh)
        exact ⟨⟨⟨.rfl, rfl⟩, ⟨⟨.rfl, rfl⟩, trivial⟩⟩, ⟨⟨rfl, .refl _, rfl⟩, trivial⟩, rfl⟩
    · replace hh := if_f hb hh
      refine AEx.exit ?_
      refine AEx.seq ?_
      refine AEx.regionN rfl rfl ?_
      refine AOps.q hC rfl trivial ?_
      refine AOps.nil ?_
      refine AEx.ret ?_
      obtain rfl := Option.some.inj hh
      exact ⟨_, _, [], rfl, .rfl, trivial, rfl, rfl, rfl, rfl⟩
  · intro g1 g4 ih1 ih4 t i res hh
    refine ALoop.unroll ?_
    refine AEx.seq ?_
    refine AEx.seq ?_
    refine AEx.regionN rfl rfl ?_
    iterate 3 refine AOps.q hC rfl trivial ?_
    refine AOps.qe hC rfl trivial (estr.lenA _) ?_
    refine AOps.q hC rfl trivial ?_
    refine AOps.nil ?_
    refine AEx.cond rfl (fun hb => ?_) (fun hb => ?_)
    · replace hh := if_t hb hh
      refine AEx.skip ?_
      refine AEx.seq ?_
      refine AEx.block ?_
      refine AEx.seq ?_
      refine AEx.regionN rfl rfl ?_
      refine AOps.q hC rfl trivial ?_
      refine AOps.nil ?_
      refine AEx.block ?_
      refine AEx.ofLoop ?_
      refine ALoop.wk ?_ (ih4 _ _ _ _ hh)
      exact ⟨⟨⟨.rfl, rfl⟩, ⟨⟨.rfl, rfl⟩, ⟨⟨.rfl, rfl⟩, trivial⟩⟩⟩, ⟨⟨rfl, .refl _, rfl⟩, trivial⟩, rfl⟩
    · replace hh := if_f hb hh
      refine AEx.exit ?_
      refine AEx.wk ?_ (ih1 _ _ hh)
      exact ⟨⟨⟨.rfl, rfl⟩, trivial⟩, ⟨⟨rfl, .refl _, rfl⟩, trivial⟩, rfl⟩
  · intro g3 g4 ih3 ih4 t i1 k res hh
    refine ALoop.unroll ?_
    refine AEx.seq ?_
    refine AEx.seq ?_
    refine AEx.regionN rfl rfl ?_
    iterate 3 refine AOps.q hC rfl trivial ?_
    refine AOps.nil ?_
    refine AEx.cond rfl (fun hb => ?_) (fun hb => ?_)
    · replace hh := if_t hb hh
      refine AEx.skip ?_
      refine AEx.seq ?_
      refine AEx.block ?_
      refine AEx.seq ?_
      refine AEx.draw hC 11 rfl rfl rfl ?_
      refine AQ.q hC rfl trivial ?_
      refine AQ.q hC rfl trivial ?_
      refine AQ.q hC rfl trivial ?_
      obtain ⟨x1, hx1, hh⟩ := bind_some hh
      refine AQ.i hC rfl (idx_nat hx1) (estr.idx hx1) rfl ?_
      refine AQ.q hC rfl trivial ?_
      refine AQ.q hC rfl trivial ?_
      refine AQ.q hC rfl trivial ?_
      refine AQ.q hC rfl trivial ?_
      obtain ⟨x2, hx2, hh⟩ := bind_some hh
      refine AQ.i hC rfl (idx_nat hx2) (estr.idx hx2) rfl ?_
      refine AQ.q hC rfl trivial ?_
      refine AQ.q hC rfl trivial ?_
      refine AQ.nil ?_
      refine AOps.nil ?_
      refine AEx.cond rfl (fun hb => ?_) (fun hb => ?_)
      · replace hh := if_t hb hh
        refine AEx.seq ?_
        refine AEx.regionN rfl rfl ?_
        refine AOps.q hC rfl trivial ?_
        refine AOps.nil ?_
        refine AEx.ret ?_
        obtain rfl := Option.some.inj hh
        exact ⟨_, _, [], rfl, .rfl, trivial, rfl, rfl, rfl, rfl⟩
      · replace hh := if_f hb hh
        refine AEx.skip ?_
        refine AEx.regionN rfl rfl ?_
        iterate 3 refine AOps.q hC rfl trivial ?_
        refine AOps.nil ?_
        refine ALoop.wk ?_ (ih4 _ _ _ _ hh)
        exact ⟨⟨⟨.rfl, rfl⟩, ⟨⟨.rfl, rfl⟩, ⟨⟨.rfl, rfl⟩, trivial⟩⟩⟩, ⟨⟨rfl, .refl _, rfl⟩, trivial⟩, rfl⟩
    · replace hh := if_f hb hh
      refine AEx.exit ?_
      refine AEx.regionN rfl rfl ?_
      iterate 3 refine AOps.q hC rfl trivial ?_
      refine AOps.nil ?_
      refine ALoop.wk ?_ (ih3 _ _ _ hh)
      exact ⟨⟨⟨.rfl, rfl⟩, ⟨⟨.rfl, rfl⟩, trivial⟩⟩, ⟨⟨rfl, .refl _, rfl⟩, trivial⟩, rfl⟩
theorem ref12_doubled_ok {t : ApiType} {res : Bool} (hh : ref12_doubled t = some res) : ACall C 62 [.agg (ApiType.cells t)] [] (fun x H' => H' = [] ∧ x = .d (.bool res)) := (ref12_doubled_grp).1 _ _ hh
theorem ref12_doubled_j2_ok {t : ApiType} {res : Bool} (hh : ref12_doubled_j2 t = some res) : AEx (Fx.mk C 45 0) (sr (sr (bodyOf Tryd.f62))) (mkEnv [(1, .ref 0 0)]) [.row (ApiType.cells t) 27] (Am.Ends (Fx.mk C 45 0) Tryd.f62.results.toList (fun x H' => H' = [] ∧ x = .d (.bool res))) := (ref12_doubled_grp).2.1 _ _ hh
theorem ref12_doubled_l4_ok {t : ApiType} {i2 : Int} {res : Bool} (hh : ref12_doubled_l4 t i2 = some res) : ALoop (Fx.mk C 45 0) (lo (bk (sr (sl (sr (sr (bodyOf Tryd.f62))))))) (mkEnv [(1, .ref 0 0), (5, .d (.int .i64 i2))]) [.row (ApiType.cells t) 27] (Am.InBlock 4 (Am.Then (Fx.mk C 45 0) (sr (sr (sr (bodyOf Tryd.f62)))) (Am.Ends (Fx.mk C 45 0) Tryd.f62.results.toList (fun x H' => H' = [] ∧ x = .d (.bool res))))) := (ref12_doubled_grp).2.2.1 _ _ _ hh
theorem ref12_doubled_l1_ok {t : ApiType} {i : Int} {res : Bool} (hh : ref12_doubled_l1 t i = some res) : ALoop (Fx.mk C 45 0) (lo (bk (sr (ca (sr (sl (sr (bodyOf Tryd.f62)))))))) (mkEnv [(1, .ref 0 0), (3, .d (.int .i64 i))]) [.row (ApiType.cells t) 27] (Am.InBlock 0 (Am.Then (Fx.mk C 45 0) (sr (sr (bodyOf Tryd.f62))) (Am.Ends (Fx.mk C 45 0) Tryd.f62.results.toList (fun x H' => H' = [] ∧ x = .d (.bool res))))) := (ref12_doubled_grp).2.2.2.1 _ _ _ hh
theorem ref12_doubled_l3_ok {t : ApiType} {i1 : Int} {k : Int} {res : Bool} (hh : ref12_doubled_l3 t i1 k = some res) : ALoop (Fx.mk C 45 0) (lo (bk (sr (bk (sl (sr (lo (bk (sr (ca (sr (sl (sr (bodyOf Tryd.f62)))))))))))))) (mkEnv [(1, .ref 0 0), (3, .d (.int .i64 i1)), (4, .d (.int .i64 k))]) [.row (ApiType.cells t) 27] (Am.InBlock 2 (Am.InBlock 1 (Am.Then (Fx.mk C 45 0) (sr (sr (lo (bk (sr (ca (sr (sl (sr (bodyOf Tryd.f62)))))))))) (Am.Again (Fx.mk C 45 0) (lo (bk (sr (ca (sr (sl (sr (bodyOf Tryd.f62)))))))) (Am.InBlock 0 (Am.Then (Fx.mk C 45 0) (sr (sr (bodyOf Tryd.f62))) (Am.Ends (Fx.mk C 45 0) Tryd.f62.results.toList (fun x H' => H' = [] ∧ x = .d (.bool res))))))))) := (ref12_doubled_grp).2.2.2.2 _ _ _ _ hh
mutual
def ref12_count (t : ApiType) : Option Int :=
  if (t.Kind == 2) = true then
    idx t.Of 0 >>= fun x1 =>
    ref12_count x1 >>= fun x3 =>
    ref12_count_j1 t (IntKind.i64.wrap (t.Size * x3))
  else
    ref12_count_j1 t 1
  partial_fixpoint
def ref12_count_j1 (t : ApiType) (n : Int) : Option Int :=
  if (t.Kind == 3) = true then
    ref12_count_l2 t 0 0
  else
    if (decide (n > 32)) = true then
      some 33
    else
      some n
  partial_fixpoint
def ref12_count_l2 (t : ApiType) (n1 : Int) (i : Int) : Option Int :=
  if (decide (i < ((t.Of).length : Int))) = true then
    idx t.Of i >>= fun x2 =>
    ref12_count x2 >>= fun x4 =>
    ref12_count_l2 t (IntKind.i64.wrap (n1 + x4)) (IntKind.i64.wrap (i + 1))
  else
    if (decide (n1 > 32)) = true then
      some 33
    else
      some n1
  partial_fixpoint
end
theorem ref12_count_grp : (∀ (t : ApiType) (res : Int), ref12_count t = some res → ACall C 63 [.agg (ApiType.cells t)] [] (fun x H' => H' = [] ∧ x = .d (.int .i64 res))) ∧
    (∀ (t : ApiType) (n : Int) (res : Int), ref12_count_j1 t n = some res → AEx (Fx.mk C 37 0) (sr (sr (sr (bodyOf Tryd.f63)))) (mkEnv [(1, .ref 0 0), (3, .d (.int .i64 n))]) [.row (ApiType.cells t) 27] (Am.Ends (Fx.mk C 37 0) Tryd.f63.results.toList (fun x H' => H' = [] ∧ x = .d (.int .i64 res)))) ∧
    (∀ (t : ApiType) (n1 : Int) (i : Int) (res : Int), ref12_count_l2 t n1 i = some res → ALoop (Fx.mk C 37 0) (lo (bk (sr (sr (ca (sr (sl (sr (sr (sr (bodyOf Tryd.f63))))))))))) (mkEnv [(1, .ref 0 0), (3, .d (.int .i64 n1)), (4, .d (.int .i64 i))]) [.row (ApiType.cells t) 27] (Am.InBlock 0 (Am.Then (Fx.mk C 37 0) (sr (sr (sr (sr (bodyOf Tryd.f63))))) (Am.Ends (Fx.mk C 37 0) Tryd.f63.results.toList (fun x H' => H' = [] ∧ x = .d (.int .i64 res)))))) := by
  refine ref12_count.mutual_partial_correctness (fun t res => ACall C 63 [.agg (ApiType.cells t)] [] (fun x H' => H' = [] ∧ x = .d (.int .i64 res)))
    (fun t n res => AEx (Fx.mk C 37 0) (sr (sr (sr (bodyOf Tryd.f63)))) (mkEnv [(1, .ref 0 0), (3, .d (.int .i64 n))]) [.row (ApiType.cells t) 27] (Am.Ends (Fx.mk C 37 0) Tryd.f63.results.toList (fun x H' => H' = [] ∧ x = .d (.int .i64 res))))
    (fun t n1 i res => ALoop (Fx.mk C 37 0) (lo (bk (sr (sr (ca (sr (sl (sr (sr (sr (bodyOf Tryd.f63))))))))))) (mkEnv [(1, .ref 0 0), (3, .d (.int .i64 n1)), (4, .d (.int .i64 i))]) [.row (ApiType.cells t) 27] (Am.InBlock 0 (Am.Then (Fx.mk C 37 0) (sr (sr (sr (sr (bodyOf Tryd.f63))))) (Am.Ends (Fx.mk C 37 0) Tryd.f63.results.toList (fun x H' => H' = [] ∧ x = .d (.int .i64 res)))))) ?_ ?_ ?_
  · intro g0 g1 ih0 ih1 t res hh
    refine ACall.intro hC Tryd.func63 rfl rfl rfl ?_
    refine AEx.seq ?_
    refine AEx.regionN rfl rfl ?_
    refine AOps.n hC rfl ?_
    refine AOps.q hC rfl trivial ?_
    refine AOps.nil ?_
    refine AEx.seq ?_
    refine AEx.regionN rfl rfl ?_
    refine AOps.q hC rfl trivial ?_
    refine AOps.nil ?_
    refine AEx.seq ?_
    refine AEx.seq ?_
    refine AEx.regionN rfl rfl ?_
    iterate 3 refine AOps.q hC rfl trivial ?_
    refine AOps.nil ?_
    refine AEx.cond rfl (fun hb => ?_) (fun hb => ?_)
    · replace hh := if_t hb hh
      refine AEx.draw hC 9 rfl rfl rfl ?_
      refine AQ.q hC rfl trivial ?_
      refine AQ.q hC rfl trivial ?_
      refine AQ.q hC rfl trivial ?_
      refine AQ.q hC rfl trivial ?_
      obtain ⟨x1, hx1, hh⟩ := bind_some hh
      refine AQ.i hC rfl (idx_nat hx1) (ApiType.idx hx1) rfl ?_
      refine AQ.q hC rfl trivial ?_
      obtain ⟨x3, hx3, hh⟩ := bind_some hh
      refine AQ.c rfl rfl (ih0 _ _ hx3) ?_
      refine AQ.q hC rfl trivial ?_
      refine AQ.q hC rfl trivial ?_
      refine AQ.nil ?_
      refine AOps.nil ?_
      refine AEx.wk ?_ (ih1 _ _ _ hh)
      exact ⟨⟨⟨.rfl, rfl⟩, ⟨⟨.rfl, rfl⟩, trivial⟩⟩, ⟨⟨rfl, .refl _, rfl⟩, trivial⟩, rfl⟩
    · replace hh := if_f hb hh
      refine AEx.skip ?_
      refine AEx.wk ?_ (ih1 _ _ _ hh)
      exact ⟨⟨⟨.rfl, rfl⟩, ⟨⟨.rfl, rfl⟩, trivial⟩⟩, ⟨⟨rfl, .refl _, rfl⟩, trivial⟩, rfl⟩
  · intro g2 ih2 t n res hh
    refine AEx.seq ?_
    refine AEx.seq ?_
    refine AEx.regionN rfl rfl ?_
    iterate 3 refine AOps.q hC rfl trivial ?_
    refine AOps.nil ?_
    refine AEx.cond rfl (fun hb => ?_) (fun hb => ?_)
    · replace hh := if_t hb hh
      refine AEx.seq ?_
      refine AEx.regionN rfl rfl ?_
      refine AOps.q hC rfl trivial ?_
      refine AOps.nil ?_
      refine AEx.seq ?_
      refine AEx.regionN rfl rfl ?_
      refine AOps.q hC rfl trivial ?_
      refine AOps.nil ?_
      refine AEx.block ?_
      refine AEx.ofLoop ?_
      refine ALoop.wk ?_ (ih2 _ _ _ _ hh)
      exact ⟨⟨⟨.rfl, rfl⟩, ⟨⟨.rfl, rfl⟩, ⟨⟨.rfl, rfl⟩, trivial⟩⟩⟩, ⟨⟨rfl, .refl _, rfl⟩, trivial⟩, rfl⟩
    · replace hh := if_f hb hh
      refine AEx.skip ?_
      refine AEx.seq ?_
      refine AEx.seq ?_
      refine AEx.regionN rfl rfl ?_
      iterate 2 refine AOps.q hC rfl trivial ?_
      refine AOps.nil ?_
      refine AEx.cond rfl (fun hb => ?_) (fun hb => ?_)
      · replace hh := if_t hb hh
        refine AEx.seq ?_
        refine AEx.regionN rfl rfl ?_
        refine AOps.q hC rfl trivial ?_
        refine AOps.nil ?_
        refine AEx.ret ?_
        obtain rfl := Option.some.inj hh
        exact ⟨_, _, [], rfl, .rfl, trivial, rfl, rfl, rfl, rfl⟩
      · replace hh := if_f hb hh
        refine AEx.skip ?_
        refine AEx.seq ?_
        refine AEx.regionN rfl rfl ?_
        iterate 2 refine AOps.q hC rfl trivial ?_
        refine AOps.nil ?_
        refine AEx.ret ?_
        obtain rfl := Option.some.inj hh
        exact ⟨_, _, [], rfl, .rfl, trivial, rfl, rfl, rfl, rfl⟩
  · intro g0 g2 ih0 ih2 t n1 i res hh
    refine ALoop.unroll ?_
    refine AEx.seq ?_
    refine AEx.seq ?_
    refine AEx.regionN rfl rfl ?_
    iterate 3 refine AOps.q hC rfl trivial ?_
    refine AOps.qe hC rfl trivial (ApiType.lenA _) ?_
    refine AOps.q hC rfl trivial ?_
    refine AOps.nil ?_
    refine AEx.cond rfl (fun hb => ?_) (fun hb => ?_)
    · replace hh := if_t hb hh
      refine AEx.skip ?_
      refine AEx.seq ?_
      refine AEx.block ?_
      refine AEx.regionN rfl rfl ?_
      iterate 4 refine AOps.q hC rfl trivial ?_
      obtain ⟨x2, hx2, hh⟩ := bind_some hh
      refine AOps.i hC rfl (idx_nat hx2) (ApiType.idx hx2) rfl ?_
      refine AOps.q hC rfl trivial ?_
      obtain ⟨x4, hx4, hh⟩ := bind_some hh
      refine AOps.c rfl rfl (ih0 _ _ hx4) ?_
      iterate 2 refine AOps.q hC rfl trivial ?_
      refine AOps.nil ?_
      refine AEx.regionN rfl rfl ?_
      iterate 3 refine AOps.q hC rfl trivial ?_
      refine AOps.nil ?_
      refine ALoop.wk ?_ (ih2 _ _ _ _ hh)
      exact ⟨⟨⟨.rfl, rfl⟩, ⟨⟨.rfl, rfl⟩, ⟨⟨.rfl, rfl⟩, trivial⟩⟩⟩, ⟨⟨rfl, .refl _, rfl⟩, trivial⟩, rfl⟩
    · replace hh := if_f hb hh
      refine AEx.exit ?_
      refine AEx.seq ?_
      refine AEx.seq ?_
      refine AEx.regionN rfl rfl ?_
      iterate 2 refine AOps.q hC rfl trivial ?_
      refine AOps.nil ?_
      refine AEx.cond rfl (fun hb => ?_) (fun hb => ?_)
      · replace hh := if_t hb hh
        refine AEx.seq ?_
        refine AEx.regionN rfl rfl ?_
        refine AOps.q hC rfl trivial ?_
        refine AOps.nil ?_
        refine AEx.ret ?_
        obtain rfl := Option.some.inj hh
        exact ⟨_, _, [], rfl, .rfl, trivial, rfl, rfl, rfl, rfl⟩
      · replace hh := if_f hb hh
        refine AEx.skip ?_
        refine AEx.seq ?_
        refine AEx.regionN rfl rfl ?_
        iterate 2 refine AOps.q hC rfl trivial ?_
        refine AOps.nil ?_
        refine AEx.ret ?_
        obtain rfl := Option.some.inj hh
        exact ⟨_, _, [], rfl, .rfl, trivial, rfl, rfl, rfl, rfl⟩
theorem ref12_count_ok {t : ApiType} {res : Int} (hh : ref12_count t = some res) : ACall C 63 [.agg (ApiType.cells t)] [] (fun x H' => H' = [] ∧ x = .d (.int .i64 res)) := (ref12_count_grp).1 _ _ hh
theorem ref12_count_j1_ok {t : ApiType} {n : Int} {res : Int} (hh : ref12_count_j1 t n = some res) : AEx (Fx.mk C 37 0) (sr (sr (sr (bodyOf Tryd.f63)))) (mkEnv [(1, .ref 0 0), (3, .d (.int .i64 n))]) [.row (ApiType.cells t) 27] (Am.Ends (Fx.mk C 37 0) Tryd.f63.results.toList (fun x H' => H' = [] ∧ x = .d (.int .i64 res))) := (ref12_count_grp).2.1 _ _ _ hh
theorem ref12_count_l2_ok {t : ApiType} {n1 : Int} {i : Int} {res : Int} (hh : ref12_count_l2 t n1 i = some res) : ALoop (Fx.mk C 37 0) (lo (bk (sr (sr (ca (sr (sl (sr (sr (sr (bodyOf Tryd.f63))))))))))) (mkEnv [(1, .ref 0 0), (3, .d (.int .i64 n1)), (4, .d (.int .i64 i))]) [.row (ApiType.cells t) 27] (Am.InBlock 0 (Am.Then (Fx.mk C 37 0) (sr (sr (sr (sr (bodyOf Tryd.f63))))) (Am.Ends (Fx.mk C 37 0) Tryd.f63.results.toList (fun x H' => H' = [] ∧ x = .d (.int .i64 res))))) := (ref12_count_grp).2.2 _ _ _ _ hh
mutual
def ref12_named (t : ApiType) : Option Bool :=
  if (t.Kind == 4) = true then
    some true
  else
    ref12_named_l1 t 0
  partial_fixpoint
def ref12_named_l1 (t : ApiType) (i : Int) : Option Bool :=
  if (decide (i < ((t.Of).length : Int))) = true then
    idx t.Of i >>= fun x1 =>
    ref12_named x1 >>= fun x2 =>
    if x2 = true then
      some true
    else
      ref12_named_l1 t (IntKind.i64.wrap (i + 1))
  else
    some false
  partial_fixpoint
end
theorem ref12_named_grp : (∀ (t : ApiType) (res : Bool), ref12_named t = some res → ACall C 61 [.agg (ApiType.cells t)] [] (fun x H' => H' = [] ∧ x = .d (.bool res))) ∧
    (∀ (t : ApiType) (i : Int) (res : Bool), ref12_named_l1 t i = some res → ALoop (Fx.mk C 20 0) (lo (bk (sr (sl (sr (sr (bodyOf Tryd.f61))))))) (mkEnv [(1, .ref 0 0), (3, .d (.int .i64 i))]) [.row (ApiType.cells t) 27] (Am.InBlock 0 (Am.Then (Fx.mk C 20 0) (sr (sr (sr (bodyOf Tryd.f61)))) (Am.Ends (Fx.mk C 20 0) Tryd.f61.results.toList (fun x H' => H' = [] ∧ x = .d (.bool res)))))) := by
  refine ref12_named.mutual_partial_correctness (fun t res => ACall C 61 [.agg (ApiType.cells t)] [] (fun x H' => H' = [] ∧ x = .d (.bool res)))
    (fun t i res => ALoop (Fx.mk C 20 0) (lo (bk (sr (sl (sr (sr (bodyOf Tryd.f61))))))) (mkEnv [(1, .ref 0 0), (3, .d (.int .i64 i))]) [.row (ApiType.cells t) 27] (Am.InBlock 0 (Am.Then (Fx.mk C 20 0) (sr (sr (sr (bodyOf Tryd.f61)))) (Am.Ends (Fx.mk C 20 0) Tryd.f61.results.toList (fun x H' => H' = [] ∧ x = .d (.bool res)))))) ?_ ?_
  · intro g1 ih1 t res hh
    refine ACall.intro hC Tryd.func61 rfl rfl rfl ?_
    refine AEx.seq ?_
    refine AEx.regionN rfl rfl ?_
    refine AOps.n hC rfl ?_
    refine AOps.q hC rfl trivial ?_
    refine AOps.nil ?_
    refine AEx.seq ?_
    refine AEx.seq ?_
    refine AEx.regionN rfl rfl ?_
    iterate 3 refine AOps.q hC rfl trivial ?_
    refine AOps.nil ?_
    refine AEx.cond rfl (fun hb => ?_) (fun hb => ?_)
    · replace hh := if_t hb hh
      refine AEx.seq ?_
      refine AEx.regionN rfl rfl ?_
      refine AOps.q hC rfl trivial ?_
      refine AOps.nil ?_
      refine AEx.ret ?_
      obtain rfl := Option.some.inj hh
      exact ⟨_, _, [], rfl, .rfl, trivial, rfl, rfl, rfl, rfl⟩
    · replace hh := if_f hb hh
      refine AEx.skip ?_
      refine AEx.seq ?_
      refine AEx.seq ?_
      refine AEx.regionN rfl rfl ?_
      refine AOps.q hC rfl trivial ?_
      refine AOps.nil ?_
      refine AEx.block ?_
      refine AEx.ofLoop ?_
      refine ALoop.wk ?_ (ih1 _ _ _ hh)
      exact ⟨⟨⟨.rfl, rfl⟩, ⟨⟨.rfl, rfl⟩, trivial⟩⟩, ⟨⟨rfl, .refl _, rfl⟩, trivial⟩, rfl⟩
  · intro g0 g1 ih0 ih1 t i res hh
    refine ALoop.unroll ?_
    refine AEx.seq ?_
    refine AEx.seq ?_
    refine AEx.regionN rfl rfl ?_
    iterate 3 refine AOps.q hC rfl trivial ?_
    refine AOps.qe hC rfl trivial (ApiType.lenA _) ?_
    refine AOps.q hC rfl trivial ?_
    refine AOps.nil ?_
    refine AEx.cond rfl (fun hb => ?_) (fun hb => ?_)
    · replace hh := if_t hb hh
      refine AEx.skip ?_
      refine AEx.seq ?_
      refine AEx.block ?_
      refine AEx.seq ?_
      refine AEx.regionN rfl rfl ?_
      iterate 3 refine AOps.q hC rfl trivial ?_
      obtain ⟨x1, hx1, hh⟩ := bind_some hh
      refine AOps.i hC rfl (idx_nat hx1) (ApiType.idx hx1) rfl ?_
      refine AOps.q hC rfl trivial ?_
      obtain ⟨x2, hx2, hh⟩ := bind_some hh
      refine AOps.c rfl rfl (ih0 _ _ hx2) ?_
      refine AOps.nil ?_
      refine AEx.cond rfl (fun hb => ?_) (fun hb => ?_)
      · replace hh := if_t hb hh
        refine AEx.seq ?_
        refine AEx.regionN rfl rfl ?_
        refine AOps.q hC rfl trivial ?_
        refine AOps.nil ?_
        refine AEx.ret ?_
        obtain rfl := Option.some.inj hh
        exact ⟨_, _, [], rfl, .rfl, trivial, rfl, rfl, rfl, rfl⟩
      · replace hh := if_f hb hh
        refine AEx.skip ?_
        refine AEx.regionN rfl rfl ?_
        iterate 3 refine AOps.q hC rfl trivial ?_
        refine AOps.nil ?_
        refine ALoop.wk ?_ (ih1 _ _ _ hh)
        exact ⟨⟨⟨.rfl, rfl⟩, ⟨⟨.rfl, rfl⟩, trivial⟩⟩, ⟨⟨rfl, .refl _, rfl⟩, trivial⟩, rfl⟩
    · replace hh := if_f hb hh
      refine AEx.exit ?_
      refine AEx.seq ?_
      refine AEx.regionN rfl rfl ?_
      refine AOps.q hC rfl trivial ?_
      refine AOps.nil ?_
      refine AEx.ret ?_
      obtain rfl := Option.some.inj hh
      exact ⟨_, _, [], rfl, .rfl, trivial, rfl, rfl, rfl, rfl⟩
theorem ref12_named_ok {t : ApiType} {res : Bool} (hh : ref12_named t = some res) : ACall C 61 [.agg (ApiType.cells t)] [] (fun x H' => H' = [] ∧ x = .d (.bool res)) := (ref12_named_grp).1 _ _ hh
theorem ref12_named_l1_ok {t : ApiType} {i : Int} {res : Bool} (hh : ref12_named_l1 t i = some res) : ALoop (Fx.mk C 20 0) (lo (bk (sr (sl (sr (sr (bodyOf Tryd.f61))))))) (mkEnv [(1, .ref 0 0), (3, .d (.int .i64 i))]) [.row (ApiType.cells t) 27] (Am.InBlock 0 (Am.Then (Fx.mk C 20 0) (sr (sr (sr (bodyOf Tryd.f61)))) (Am.Ends (Fx.mk C 20 0) Tryd.f61.results.toList (fun x H' => H' = [] ∧ x = .d (.bool res))))) := (ref12_named_grp).2 _ _ _ hh
def ref12_Check (t : ApiType) : Option Int :=
  ref10_CheckType t >>= fun x1 =>
  if (x1 != 0) = true then
    some x1
  else
    ref12_named t >>= fun x2 =>
    if x2 = true then
      some 7
    else
      ref12_doubled t >>= fun x3 =>
      if x3 = true then
        some 8
      else
        ref12_count t >>= fun x4 =>
        if (decide (x4 > 32)) = true then
          some 4
        else
          some 0
theorem ref12_Check_ok {t : ApiType} {res : Int} (hh : ref12_Check t = some res) : ACall C 30 [.agg (ApiType.cells t)] [] (fun x H' => H' = [] ∧ x = .d (.int .i64 res)) := by
  unfold ref12_Check at hh
  refine ACall.intro hC Tryd.func30 rfl rfl rfl ?_
  refine AEx.seq ?_
  refine AEx.regionN rfl rfl ?_
  refine AOps.n hC rfl ?_
  refine AOps.q hC rfl trivial ?_
  refine AOps.nil ?_
  refine AEx.seq ?_
  refine AEx.regionN rfl rfl ?_
  refine AOps.q hC rfl trivial ?_
  obtain ⟨x1, hx1, hh⟩ := bind_some hh
  refine AOps.c rfl rfl (ref10_CheckType_ok hx1) ?_
  refine AOps.q hC rfl trivial ?_
  refine AOps.nil ?_
  refine AEx.seq ?_
  refine AEx.seq ?_
  refine AEx.regionN rfl rfl ?_
  iterate 2 refine AOps.q hC rfl trivial ?_
  refine AOps.nil ?_
  refine AEx.cond rfl (fun hb => ?_) (fun hb => ?_)
  · replace hh := if_t hb hh
    refine AEx.seq ?_
    refine AEx.regionN rfl rfl ?_
    iterate 2 refine AOps.q hC rfl trivial ?_
    refine AOps.nil ?_
    refine AEx.ret ?_
    obtain rfl := Option.some.inj hh
    exact ⟨_, _, [], rfl, .rfl, trivial, rfl, rfl, rfl, rfl⟩
  · replace hh := if_f hb hh
    refine AEx.skip ?_
    refine AEx.seq ?_
    refine AEx.seq ?_
    refine AEx.regionN rfl rfl ?_
    refine AOps.q hC rfl trivial ?_
    obtain ⟨x2, hx2, hh⟩ := bind_some hh
    refine AOps.c rfl rfl (ref12_named_ok hx2) ?_
    refine AOps.nil ?_
    refine AEx.cond rfl (fun hb => ?_) (fun hb => ?_)
    · replace hh := if_t hb hh
      refine AEx.seq ?_
      refine AEx.regionN rfl rfl ?_
      refine AOps.q hC rfl trivial ?_
      refine AOps.nil ?_
      refine AEx.ret ?_
      obtain rfl := Option.some.inj hh
      exact ⟨_, _, [], rfl, .rfl, trivial, rfl, rfl, rfl, rfl⟩
    · replace hh := if_f hb hh
      refine AEx.skip ?_
      refine AEx.seq ?_
      refine AEx.seq ?_
      refine AEx.regionN rfl rfl ?_
      refine AOps.q hC rfl trivial ?_
      obtain ⟨x3, hx3, hh⟩ := bind_some hh
      refine AOps.c rfl rfl (ref12_doubled_ok hx3) ?_
      refine AOps.nil ?_
      refine AEx.cond rfl (fun hb => ?_) (fun hb => ?_)
      · replace hh := if_t hb hh
        refine AEx.seq ?_
        refine AEx.regionN rfl rfl ?_
        refine AOps.q hC rfl trivial ?_
        refine AOps.nil ?_
        refine AEx.ret ?_
        obtain rfl := Option.some.inj hh
        exact ⟨_, _, [], rfl, .rfl, trivial, rfl, rfl, rfl, rfl⟩
      · replace hh := if_f hb hh
        refine AEx.skip ?_
        refine AEx.seq ?_
        refine AEx.seq ?_
        refine AEx.regionN rfl rfl ?_
        refine AOps.q hC rfl trivial ?_
        obtain ⟨x4, hx4, hh⟩ := bind_some hh
        refine AOps.c rfl rfl (ref12_count_ok hx4) ?_
        refine AOps.q hC rfl trivial ?_
        refine AOps.nil ?_
        refine AEx.cond rfl (fun hb => ?_) (fun hb => ?_)
        · replace hh := if_t hb hh
          refine AEx.seq ?_
          refine AEx.regionN rfl rfl ?_
          refine AOps.q hC rfl trivial ?_
          refine AOps.nil ?_
          refine AEx.ret ?_
          obtain rfl := Option.some.inj hh
          exact ⟨_, _, [], rfl, .rfl, trivial, rfl, rfl, rfl, rfl⟩
        · replace hh := if_f hb hh
          refine AEx.skip ?_
          refine AEx.seq ?_
          refine AEx.regionN rfl rfl ?_
          refine AOps.q hC rfl trivial ?_
          refine AOps.nil ?_
          refine AEx.ret ?_
          obtain rfl := Option.some.inj hh
          exact ⟨_, _, [], rfl, .rfl, trivial, rfl, rfl, rfl, rfl⟩
def ref12_number (n : Int) : Option Str :=
  if (decide (n < 10)) = true then
    slc [48, 49, 50, 51, 52, 53, 54, 55, 56, 57] n (IntKind.i64.wrap (n + 1)) >>= fun x1 =>
    some x1
  else
    ref12_number (IntKind.i64.wrap (Int.tdiv n 10)) >>= fun x2 =>
    slc [48, 49, 50, 51, 52, 53, 54, 55, 56, 57] (Int.tmod n 10) (IntKind.i64.wrap ((Int.tmod n 10) + 1)) >>= fun x3 =>
    if (decide (x2.length + x3.length ≤ maxLen)) = true then
      some (x2 ++ x3)
    else none
  partial_fixpoint
theorem ref12_number_grp : (∀ (n : Int) (res : Str), ref12_number n = some res → ACall C 101 [.d (.int .i64 n)] [] (fun x H' => H' = [] ∧ x = .d (.str res))) := by
  refine ref12_number.partial_correctness (fun n res => ACall C 101 [.d (.int .i64 n)] [] (fun x H' => H' = [] ∧ x = .d (.str res))) ?_
  · intro g0 ih0 n res hh
    refine ACall.intro hC Tryd.func101 rfl rfl rfl ?_
    refine AEx.seq ?_
    refine AEx.regionN rfl rfl ?_
    refine AOps.q hC rfl trivial ?_
    refine AOps.nil ?_
    refine AEx.seq ?_
    refine AEx.seq ?_
    refine AEx.regionN rfl rfl ?_
    iterate 2 refine AOps.q hC rfl trivial ?_
    refine AOps.nil ?_
    refine AEx.cond rfl (fun hb => ?_) (fun hb => ?_)
    · replace hh := if_t hb hh
      refine AEx.seq ?_
      refine AEx.regionN rfl rfl ?_
      iterate 3 refine AOps.q hC rfl trivial ?_
      obtain ⟨x1, hx1, hh⟩ := bind_some hh
      refine AOps.lx hC rfl hx1 ?_
      refine AOps.q hC rfl trivial ?_
      refine AOps.nil ?_
      refine AEx.ret ?_
      obtain rfl := Option.some.inj hh
      exact ⟨_, _, [], rfl, .rfl, trivial, rfl, rfl, rfl, rfl⟩
    · replace hh := if_f hb hh
      refine AEx.skip ?_
      refine AEx.seq ?_
      refine AEx.draw hC 11 rfl rfl rfl ?_
      refine AQ.q hC rfl trivial ?_
      refine AQ.q hC rfl (by decide) ?_
      obtain ⟨x2, hx2, hh⟩ := bind_some hh
      refine AQ.c rfl rfl (ih0 _ _ hx2) ?_
      refine AQ.q hC rfl trivial ?_
      refine AQ.q hC rfl (by decide) ?_
      refine AQ.q hC rfl trivial ?_
      refine AQ.q hC rfl (by decide) ?_
      refine AQ.q hC rfl trivial ?_
      obtain ⟨x3, hx3, hh⟩ := bind_some hh
      refine AQ.lx hC rfl hx3 ?_
      obtain ⟨c2, hh⟩ := asrt_some hh
      refine AQ.q hC rfl c2 ?_
      refine AQ.q hC rfl trivial ?_
      refine AQ.nil ?_
      refine AOps.nil ?_
      refine AEx.ret ?_
      obtain rfl := Option.some.inj hh
      exact ⟨_, _, [], rfl, .rfl, trivial, rfl, rfl, rfl, rfl⟩
theorem ref12_number_ok {n : Int} {res : Str} (hh : ref12_number n = some res) : ACall C 101 [.d (.int .i64 n)] [] (fun x H' => H' = [] ∧ x = .d (.str res)) := (ref12_number_grp) _ _ hh
mutual
def ref12_scalars (t : ApiType) (path : Str) : Option (List ApiScalar) :=
  if (t.Kind == 0) = true then
    if (decide ((0 + 1) * 41 ≤ 140737488355328)) = true then
      some [(ApiScalar.mk path true 0 1)]
    else none
  else
    if (t.Kind == 1) = true then
      if (decide ((0 + 1) * 41 ≤ 140737488355328)) = true then
        some [(ApiScalar.mk path false t.Low t.High)]
      else none
    else
      if (t.Kind == 2) = true then
        ref12_scalars_l1 t path [] 0
      else
        if (t.Kind == 3) = true then
          ref12_scalars_l2 t path [] 0
        else
          some []
  partial_fixpoint
def ref12_scalars_l2 (t : ApiType) (path : Str) (out1 : List ApiScalar) (i1 : Int) : Option (List ApiScalar) :=
  if (decide (i1 < ((t.Of).length : Int))) = true then
    idx t.Of i1 >>= fun x3 =>
    if (decide (path.length + 1 ≤ maxLen)) = true then
      idx t.Names i1 >>= fun x4 =>
      if (decide ((path ++ [46]).length + x4.length ≤ maxLen)) = true then
        ref12_scalars x3 ((path ++ [46]) ++ x4) >>= fun x6 =>
        if (decide ((out1.length + x6.length) * 41 ≤ 140737488355328)) = true then
          ref12_scalars_l2 t path (out1 ++ x6) (IntKind.i64.wrap (i1 + 1))
        else none
      else none
    else none
  else
    some out1
  partial_fixpoint
def ref12_scalars_l1 (t : ApiType) (path : Str) (out : List ApiScalar) (i : Int) : Option (List ApiScalar) :=
  if (decide (i < t.Size)) = true then
    idx t.Of 0 >>= fun x1 =>
    if (decide (path.length + 1 ≤ maxLen)) = true then
      ref12_number i >>= fun x2 =>
      if (decide ((path ++ [46]).length + x2.length ≤ maxLen)) = true then
        ref12_scalars x1 ((path ++ [46]) ++ x2) >>= fun x5 =>
        if (decide ((out.length + x5.length) * 41 ≤ 140737488355328)) = true then
          ref12_scalars_l1 t path (out ++ x5) (IntKind.i64.wrap (i + 1))
        else none
      else none
    else none
  else
    some out
  partial_fixpoint
end
theorem ref12_scalars_grp : (∀ (t : ApiType) (path : Str) (res : List ApiScalar), ref12_scalars t path = some res → ACall C 57 [.agg (ApiType.cells t), .d (.str path)] [] (fun x H' => H' = [] ∧ x = .d (.sl (ApiScalar.rows res)))) ∧
    (∀ (t : ApiType) (path : Str) (out1 : List ApiScalar) (i1 : Int) (res : List ApiScalar), ref12_scalars_l2 t path out1 i1 = some res → ALoop (Fx.mk C 74 0) (lo (bk (sr (ca (sr (cb (sr (cb (sr (cb (sr (bk (sr (sl (sr (sr (bodyOf Tryd.f57))))))))))))))))) (mkEnv [(1, .d (.str path)), (2, .ref 0 0), (5, .osl 1 (ApiScalar.rows out1)), (7, .d (.int .i64 i1))]) [.row (ApiType.cells t) 27, .tok 43 4] (Am.InBlock 3 (Am.InBlock 0 (Am.Then (Fx.mk C 74 0) (sr (sr (sr (bodyOf Tryd.f57)))) (Am.Ends (Fx.mk C 74 0) Tryd.f57.results.toList (fun x H' => H' = [] ∧ x = .d (.sl (ApiScalar.rows res)))))))) ∧
    (∀ (t : ApiType) (path : Str) (out : List ApiScalar) (i : Int) (res : List ApiScalar), ref12_scalars_l1 t path out i = some res → ALoop (Fx.mk C 74 0) (lo (bk (sr (ca (sr (cb (sr (cb (sr (bk (sr (sl (sr (sr (bodyOf Tryd.f57))))))))))))))) (mkEnv [(1, .d (.str path)), (2, .ref 0 0), (5, .osl 1 (ApiScalar.rows out)), (6, .d (.int .i64 i))]) [.row (ApiType.cells t) 27, .tok 43 4] (Am.InBlock 1 (Am.InBlock 0 (Am.Then (Fx.mk C 74 0) (sr (sr (sr (bodyOf Tryd.f57)))) (Am.Ends (Fx.mk C 74 0) Tryd.f57.results.toList (fun x H' => H' = [] ∧ x = .d (.sl (ApiScalar.rows res)))))))) := by
  refine ref12_scalars.mutual_partial_correctness (fun t path res => ACall C 57 [.agg (ApiType.cells t), .d (.str path)] [] (fun x H' => H' = [] ∧ x = .d (.sl (ApiScalar.rows res))))
    (fun t path out1 i1 res => ALoop (Fx.mk C 74 0) (lo (bk (sr (ca (sr (cb (sr (cb (sr (cb (sr (bk (sr (sl (sr (sr (bodyOf Tryd.f57))))))))))))))))) (mkEnv [(1, .d (.str path)), (2, .ref 0 0), (5, .osl 1 (ApiScalar.rows out1)), (7, .d (.int .i64 i1))]) [.row (ApiType.cells t) 27, .tok 43 4] (Am.InBlock 3 (Am.InBlock 0 (Am.Then (Fx.mk C 74 0) (sr (sr (sr (bodyOf Tryd.f57)))) (Am.Ends (Fx.mk C 74 0) Tryd.f57.results.toList (fun x H' => H' = [] ∧ x = .d (.sl (ApiScalar.rows res))))))))
    (fun t path out i res => ALoop (Fx.mk C 74 0) (lo (bk (sr (ca (sr (cb (sr (cb (sr (bk (sr (sl (sr (sr (bodyOf Tryd.f57))))))))))))))) (mkEnv [(1, .d (.str path)), (2, .ref 0 0), (5, .osl 1 (ApiScalar.rows out)), (6, .d (.int .i64 i))]) [.row (ApiType.cells t) 27, .tok 43 4] (Am.InBlock 1 (Am.InBlock 0 (Am.Then (Fx.mk C 74 0) (sr (sr (sr (bodyOf Tryd.f57)))) (Am.Ends (Fx.mk C 74 0) Tryd.f57.results.toList (fun x H' => H' = [] ∧ x = .d (.sl (ApiScalar.rows res)))))))) ?_ ?_ ?_
  · intro g1 g2 ih1 ih2 t path res hh
    refine ACall.intro hC Tryd.func57 rfl rfl rfl ?_
    refine AEx.seq ?_
    refine AEx.regionN rfl rfl ?_
    refine AOps.n hC rfl ?_
    refine AOps.q hC rfl trivial ?_
    refine AOps.nil ?_
    refine AEx.seq ?_
    refine AEx.regionN rfl rfl ?_
    refine AOps.q hC rfl trivial ?_
    refine AOps.tokE 5 43 4 rfl ?_
    refine AOps.nil ?_
    refine AEx.seq ?_
    refine AEx.seq ?_
    refine AEx.regionN rfl rfl ?_
    iterate 2 refine AOps.q hC rfl trivial ?_
    refine AOps.nil ?_
    refine AEx.block ?_
    refine AEx.seq ?_
    refine AEx.regionN rfl rfl ?_
    iterate 2 refine AOps.q hC rfl trivial ?_
    refine AOps.nil ?_
    refine AEx.cond rfl (fun hb => ?_) (fun hb => ?_)
    · replace hh := if_t hb hh
      refine AEx.regionN rfl rfl ?_
      iterate 3 refine AOps.q hC rfl trivial ?_
      refine AOps.be hC rfl (ApiScalar.rows_map [(ApiScalar.mk path true 0 1)]).symm ?_
      obtain ⟨c33, hh⟩ := asrt_some hh
      refine AOps.ap hC rfl (rs := ApiScalar.rows [(ApiScalar.mk path true 0 1)]) rfl (ApiScalar.sz []) (ApiScalar.sz [(ApiScalar.mk path true 0 1)]) (room_of (ApiScalar.len []) (ApiScalar.len [(ApiScalar.mk path true 0 1)]) c33) ?_
      refine AOps.q hC rfl trivial ?_
      refine AOps.nil ?_
      refine AEx.seq ?_
      refine AEx.regionN rfl rfl ?_
      iterate 2 refine AOps.q hC rfl trivial ?_
      refine AOps.nil ?_
      refine AEx.ret ?_
      obtain rfl := Option.some.inj hh
      exact ⟨_, .d (.sl (ApiScalar.rows [(ApiScalar.mk path true 0 1)])), [], rfl, .osl, trivial, rfl, rfl, rfl, rfl⟩
    · replace hh := if_f hb hh
      refine AEx.seq ?_
      refine AEx.regionN rfl rfl ?_
      iterate 2 refine AOps.q hC rfl trivial ?_
      refine AOps.nil ?_
      refine AEx.cond rfl (fun hb => ?_) (fun hb => ?_)
      · replace hh := if_t hb hh
        refine AEx.regionN rfl rfl ?_
        iterate 7 refine AOps.q hC rfl trivial ?_
        refine AOps.be hC rfl (ApiScalar.rows_map [(ApiScalar.mk path false t.Low t.High)]).symm ?_
        obtain ⟨c34, hh⟩ := asrt_some hh
        refine AOps.ap hC rfl (rs := ApiScalar.rows [(ApiScalar.mk path false t.Low t.High)]) rfl (ApiScalar.sz []) (ApiScalar.sz [(ApiScalar.mk path false t.Low t.High)]) (room_of (ApiScalar.len []) (ApiScalar.len [(ApiScalar.mk path false t.Low t.High)]) c34) ?_
        refine AOps.q hC rfl trivial ?_
        refine AOps.nil ?_
        refine AEx.seq ?_
        refine AEx.regionN rfl rfl ?_
        iterate 2 refine AOps.q hC rfl trivial ?_
        refine AOps.nil ?_
        refine AEx.ret ?_
        obtain rfl := Option.some.inj hh
        exact ⟨_, .d (.sl (ApiScalar.rows [(ApiScalar.mk path false t.Low t.High)])), [], rfl, .osl, trivial, rfl, rfl, rfl, rfl⟩
      · replace hh := if_f hb hh
        refine AEx.seq ?_
        refine AEx.regionN rfl rfl ?_
        iterate 2 refine AOps.q hC rfl trivial ?_
        refine AOps.nil ?_
        refine AEx.cond rfl (fun hb => ?_) (fun hb => ?_)
        · replace hh := if_t hb hh
          refine AEx.seq ?_
          refine AEx.regionN rfl rfl ?_
          refine AOps.q hC rfl trivial ?_
          refine AOps.nil ?_
          refine AEx.block ?_
          refine AEx.ofLoop ?_
          refine ALoop.wk ?_ (ih2 _ _ _ _ _ hh)
          exact ⟨⟨⟨.rfl, rfl⟩, ⟨⟨.rfl, rfl⟩, ⟨⟨.rfl, rfl⟩, ⟨⟨.rfl, rfl⟩, trivial⟩⟩⟩⟩, ⟨⟨rfl, .refl _, rfl⟩, ⟨rfl, trivial⟩⟩, rfl⟩
        · replace hh := if_f hb hh
          refine AEx.seq ?_
          refine AEx.regionN rfl rfl ?_
          iterate 2 refine AOps.q hC rfl trivial ?_
          refine AOps.nil ?_
          refine AEx.cond rfl (fun hb => ?_) (fun hb => ?_)
          · replace hh := if_t hb hh
            refine AEx.seq ?_
            refine AEx.regionN rfl rfl ?_
            refine AOps.q hC rfl trivial ?_
            refine AOps.nil ?_
            refine AEx.block ?_
            refine AEx.ofLoop ?_
            refine ALoop.wk ?_ (ih1 _ _ _ _ _ hh)
            exact ⟨⟨⟨.rfl, rfl⟩, ⟨⟨.rfl, rfl⟩, ⟨⟨.rfl, rfl⟩, ⟨⟨.rfl, rfl⟩, trivial⟩⟩⟩⟩, ⟨⟨rfl, .refl _, rfl⟩, ⟨rfl, trivial⟩⟩, rfl⟩
          · replace hh := if_f hb hh
            refine AEx.skip ?_
            refine AEx.seq ?_
            refine AEx.regionN rfl rfl ?_
            iterate 2 refine AOps.q hC rfl trivial ?_
            refine AOps.nil ?_
            refine AEx.ret ?_
            obtain rfl := Option.some.inj hh
            exact ⟨_, .d (.sl (ApiScalar.rows [])), [], rfl, .osl, trivial, rfl, rfl, rfl, rfl⟩
  · intro g0 g1 ih0 ih1 t path out1 i1 res hh
    refine ALoop.unroll ?_
    refine AEx.seq ?_
    refine AEx.seq ?_
    refine AEx.regionN rfl rfl ?_
    iterate 3 refine AOps.q hC rfl trivial ?_
    refine AOps.qe hC rfl trivial (ApiType.lenA _) ?_
    refine AOps.q hC rfl trivial ?_
    refine AOps.nil ?_
    refine AEx.cond rfl (fun hb => ?_) (fun hb => ?_)
    · replace hh := if_t hb hh
      refine AEx.skip ?_
      refine AEx.seq ?_
      refine AEx.block ?_
      refine AEx.draw hC 15 rfl rfl rfl ?_
      refine AQ.q hC rfl trivial ?_
      refine AQ.q hC rfl trivial ?_
      refine AQ.q hC rfl trivial ?_
      refine AQ.q hC rfl trivial ?_
      obtain ⟨x3, hx3, hh⟩ := bind_some hh
      refine AQ.i hC rfl (idx_nat hx3) (ApiType.idx hx3) rfl ?_
      refine AQ.q hC rfl trivial ?_
      refine AQ.q hC rfl trivial ?_
      obtain ⟨c38, hh⟩ := asrt_some hh
      refine AQ.q hC rfl c38 ?_
      refine AQ.q hC rfl trivial ?_
      refine AQ.q hC rfl trivial ?_
      refine AQ.q hC rfl trivial ?_
      obtain ⟨x4, hx4, hh⟩ := bind_some hh
      refine AQ.i hC rfl (idx_nat hx4) (estr.idx hx4) rfl ?_
      refine AQ.q hC rfl trivial ?_
      obtain ⟨c39, hh⟩ := asrt_some hh
      refine AQ.q hC rfl c39 ?_
      obtain ⟨x6, hx6, hh⟩ := bind_some hh
      refine AQ.c rfl rfl (ih0 _ _ _ hx6) ?_
      refine AQ.nil ?_
      obtain ⟨c40, hh⟩ := asrt_some hh
      refine AOps.ap hC rfl (rs := ApiScalar.rows (out1 ++ x6)) (ApiScalar.app out1 x6) (ApiScalar.sz out1) (ApiScalar.sz x6) (room_of (ApiScalar.len out1) (ApiScalar.len x6) c40) ?_
      refine AOps.q hC rfl trivial ?_
      refine AOps.nil ?_
      refine AEx.regionN rfl rfl ?_
      iterate 3 refine AOps.q hC rfl trivial ?_
      refine AOps.nil ?_
      refine ALoop.wk ?_ (ih1 _ _ _ _ _ hh)
      exact ⟨⟨⟨.rfl, rfl⟩, ⟨⟨.rfl, rfl⟩, ⟨⟨.rfl, rfl⟩, ⟨⟨.rfl, rfl⟩, trivial⟩⟩⟩⟩, ⟨⟨rfl, .refl _, rfl⟩, ⟨rfl, trivial⟩⟩, rfl⟩
    · replace hh := if_f hb hh
      refine AEx.exit ?_
      refine AEx.seq ?_
      refine AEx.regionN rfl rfl ?_
      iterate 2 refine AOps.q hC rfl trivial ?_
      refine AOps.nil ?_
      refine AEx.ret ?_
      obtain rfl := Option.some.inj hh
      exact ⟨_, .d (.sl (ApiScalar.rows out1)), [], rfl, .osl, trivial, rfl, rfl, rfl, rfl⟩
  · intro g0 g2 ih0 ih2 t path out i res hh
    refine ALoop.unroll ?_
    refine AEx.seq ?_
    refine AEx.seq ?_
    refine AEx.regionN rfl rfl ?_
    iterate 4 refine AOps.q hC rfl trivial ?_
    refine AOps.nil ?_
    refine AEx.cond rfl (fun hb => ?_) (fun hb => ?_)
    · replace hh := if_t hb hh
      refine AEx.skip ?_
      refine AEx.seq ?_
      refine AEx.block ?_
      refine AEx.draw hC 11 rfl rfl rfl ?_
      refine AQ.q hC rfl trivial ?_
      refine AQ.q hC rfl trivial ?_
      refine AQ.q hC rfl trivial ?_
      obtain ⟨x1, hx1, hh⟩ := bind_some hh
      refine AQ.i hC rfl (idx_nat hx1) (ApiType.idx hx1) rfl ?_
      refine AQ.q hC rfl trivial ?_
      refine AQ.q hC rfl trivial ?_
      obtain ⟨c35, hh⟩ := asrt_some hh
      refine AQ.q hC rfl c35 ?_
      refine AQ.q hC rfl trivial ?_
      obtain ⟨x2, hx2, hh⟩ := bind_some hh
      refine AQ.c rfl rfl (ref12_number_ok hx2) ?_
      obtain ⟨c36, hh⟩ := asrt_some hh
      refine AQ.q hC rfl c36 ?_
      obtain ⟨x5, hx5, hh⟩ := bind_some hh
      refine AQ.c rfl rfl (ih0 _ _ _ hx5) ?_
      refine AQ.nil ?_
      obtain ⟨c37, hh⟩ := asrt_some hh
      refine AOps.ap hC rfl (rs := ApiScalar.rows (out ++ x5)) (ApiScalar.app out x5) (ApiScalar.sz out) (ApiScalar.sz x5) (room_of (ApiScalar.len out) (ApiScalar.len x5) c37) ?_
      refine AOps.q hC rfl trivial ?_
      refine AOps.nil ?_
      refine AEx.regionN rfl rfl ?_
      iterate 3 refine AOps.q hC rfl trivial ?_
      refine AOps.nil ?_
      refine ALoop.wk ?_ (ih2 _ _ _ _ _ hh)
      exact ⟨⟨⟨.rfl, rfl⟩, ⟨⟨.rfl, rfl⟩, ⟨⟨.rfl, rfl⟩, ⟨⟨.rfl, rfl⟩, trivial⟩⟩⟩⟩, ⟨⟨rfl, .refl _, rfl⟩, ⟨rfl, trivial⟩⟩, rfl⟩
    · replace hh := if_f hb hh
      refine AEx.exit ?_
      refine AEx.seq ?_
      refine AEx.regionN rfl rfl ?_
      iterate 2 refine AOps.q hC rfl trivial ?_
      refine AOps.nil ?_
      refine AEx.ret ?_
      obtain rfl := Option.some.inj hh
      exact ⟨_, .d (.sl (ApiScalar.rows out)), [], rfl, .osl, trivial, rfl, rfl, rfl, rfl⟩
theorem ref12_scalars_ok {t : ApiType} {path : Str} {res : List ApiScalar} (hh : ref12_scalars t path = some res) : ACall C 57 [.agg (ApiType.cells t), .d (.str path)] [] (fun x H' => H' = [] ∧ x = .d (.sl (ApiScalar.rows res))) := (ref12_scalars_grp).1 _ _ _ hh
theorem ref12_scalars_l2_ok {t : ApiType} {path : Str} {out1 : List ApiScalar} {i1 : Int} {res : List ApiScalar} (hh : ref12_scalars_l2 t path out1 i1 = some res) : ALoop (Fx.mk C 74 0) (lo (bk (sr (ca (sr (cb (sr (cb (sr (cb (sr (bk (sr (sl (sr (sr (bodyOf Tryd.f57))))))))))))))))) (mkEnv [(1, .d (.str path)), (2, .ref 0 0), (5, .osl 1 (ApiScalar.rows out1)), (7, .d (.int .i64 i1))]) [.row (ApiType.cells t) 27, .tok 43 4] (Am.InBlock 3 (Am.InBlock 0 (Am.Then (Fx.mk C 74 0) (sr (sr (sr (bodyOf Tryd.f57)))) (Am.Ends (Fx.mk C 74 0) Tryd.f57.results.toList (fun x H' => H' = [] ∧ x = .d (.sl (ApiScalar.rows res))))))) := (ref12_scalars_grp).2.1 _ _ _ _ _ hh
theorem ref12_scalars_l1_ok {t : ApiType} {path : Str} {out : List ApiScalar} {i : Int} {res : List ApiScalar} (hh : ref12_scalars_l1 t path out i = some res) : ALoop (Fx.mk C 74 0) (lo (bk (sr (ca (sr (cb (sr (cb (sr (bk (sr (sl (sr (sr (bodyOf Tryd.f57))))))))))))))) (mkEnv [(1, .d (.str path)), (2, .ref 0 0), (5, .osl 1 (ApiScalar.rows out)), (6, .d (.int .i64 i))]) [.row (ApiType.cells t) 27, .tok 43 4] (Am.InBlock 1 (Am.InBlock 0 (Am.Then (Fx.mk C 74 0) (sr (sr (sr (bodyOf Tryd.f57)))) (Am.Ends (Fx.mk C 74 0) Tryd.f57.results.toList (fun x H' => H' = [] ∧ x = .d (.sl (ApiScalar.rows res))))))) := (ref12_scalars_grp).2.2 _ _ _ _ _ hh
def ref12_Scalars (t : ApiType) : Option (List ApiScalar × Int) :=
  ref12_Check t >>= fun x1 =>
  if (x1 != 0) = true then
    some ([], x1)
  else
    ref12_scalars t [] >>= fun x2 =>
    some (x2, 0)
theorem ref12_Scalars_ok {t : ApiType} {res : List ApiScalar × Int} (hh : ref12_Scalars t = some res) : ACall C 20 [.agg (ApiType.cells t)] [] (fun x H' => H' = [] ∧ x = .tup [.d (.sl (ApiScalar.rows res.1)), .d (.int .i64 res.2)]) := by
  unfold ref12_Scalars at hh
  refine ACall.intro hC Tryd.func20 rfl rfl rfl ?_
  refine AEx.seq ?_
  refine AEx.regionN rfl rfl ?_
  refine AOps.n hC rfl ?_
  iterate 2 refine AOps.q hC rfl trivial ?_
  refine AOps.nil ?_
  refine AEx.seq ?_
  refine AEx.regionN rfl rfl ?_
  refine AOps.q hC rfl trivial ?_
  obtain ⟨x1, hx1, hh⟩ := bind_some hh
  refine AOps.c rfl rfl (ref12_Check_ok hx1) ?_
  refine AOps.q hC rfl trivial ?_
  refine AOps.nil ?_
  refine AEx.seq ?_
  refine AEx.seq ?_
  refine AEx.regionN rfl rfl ?_
  iterate 2 refine AOps.q hC rfl trivial ?_
  refine AOps.nil ?_
  refine AEx.cond rfl (fun hb => ?_) (fun hb => ?_)
  · replace hh := if_t hb hh
    refine AEx.seq ?_
    refine AEx.regionN rfl rfl ?_
    iterate 3 refine AOps.q hC rfl trivial ?_
    refine AOps.nil ?_
    refine AEx.ret ?_
    obtain rfl := Option.some.inj hh
    exact ⟨_, .tup [.d (.sl (ApiScalar.rows [])), .d (.int .i64 x1)], [], rfl, (.tupL ⟨.full, ⟨.rfl, trivial⟩⟩), trivial, rfl, rfl, rfl, rfl⟩
  · replace hh := if_f hb hh
    refine AEx.skip ?_
    refine AEx.seq ?_
    refine AEx.regionN rfl rfl ?_
    refine AOps.q hC rfl trivial ?_
    obtain ⟨x2, hx2, hh⟩ := bind_some hh
    refine AOps.c rfl rfl (ref12_scalars_ok hx2) ?_
    iterate 2 refine AOps.q hC rfl trivial ?_
    refine AOps.nil ?_
    refine AEx.ret ?_
    obtain rfl := Option.some.inj hh
    exact ⟨_, _, [], rfl, .rfl, trivial, rfl, rfl, rfl, rfl⟩
def ref12_Values_l1 (x1 : List ApiScalar × Int) (n : Int) (i : Int) : Option (Int × Int) :=
  if (decide (i < ((x1.1).length : Int))) = true then
    idx x1.1 i >>= fun x2 =>
    idx x1.1 i >>= fun x3 =>
    if (decide ((IntKind.i64.wrap (n * (IntKind.i64.wrap ((IntKind.i64.wrap (x2.High - x3.Low)) + 1)))) > 1099511627776)) = true then
      some (0, 4)
    else
      ref12_Values_l1 x1 (IntKind.i64.wrap (n * (IntKind.i64.wrap ((IntKind.i64.wrap (x2.High - x3.Low)) + 1)))) (IntKind.i64.wrap (i + 1))
  else
    some (n, 0)
  partial_fixpoint
theorem ref12_Values_l1_grp (x1 : List ApiScalar × Int) : (∀ (n : Int) (i : Int) (res : Int × Int), ref12_Values_l1 x1 n i = some res → ALoop (Fx.mk C 39 0) (lo (bk (sr (sl (sr (sr (sr (sr (bodyOf Tryd.f22))))))))) (mkEnv [(4, .d (.sl (ApiScalar.rows x1.1))), (6, .d (.int .i64 n)), (7, .d (.int .i64 i))]) [] (Am.InBlock 0 (Am.Then (Fx.mk C 39 0) (sr (sr (sr (sr (sr (bodyOf Tryd.f22)))))) (Am.Ends (Fx.mk C 39 0) Tryd.f22.results.toList (fun x H' => H' = [] ∧ x = .tup [.d (.int .i64 res.1), .d (.int .i64 res.2)]))))) := by
  refine ref12_Values_l1.partial_correctness x1
    (fun n i res => ALoop (Fx.mk C 39 0) (lo (bk (sr (sl (sr (sr (sr (sr (bodyOf Tryd.f22))))))))) (mkEnv [(4, .d (.sl (ApiScalar.rows x1.1))), (6, .d (.int .i64 n)), (7, .d (.int .i64 i))]) [] (Am.InBlock 0 (Am.Then (Fx.mk C 39 0) (sr (sr (sr (sr (sr (bodyOf Tryd.f22)))))) (Am.Ends (Fx.mk C 39 0) Tryd.f22.results.toList (fun x H' => H' = [] ∧ x = .tup [.d (.int .i64 res.1), .d (.int .i64 res.2)]))))) ?_
  · intro g0 ih0 n i res hh
    refine ALoop.unroll ?_
    refine AEx.seq ?_
    refine AEx.seq ?_
    refine AEx.regionN rfl rfl ?_
    iterate 2 refine AOps.q hC rfl trivial ?_
    refine AOps.qe hC rfl trivial (ApiScalar.lenA _) ?_
    refine AOps.q hC rfl trivial ?_
    refine AOps.nil ?_
    refine AEx.cond rfl (fun hb => ?_) (fun hb => ?_)
    · replace hh := if_t hb hh
      refine AEx.skip ?_
      refine AEx.seq ?_
      refine AEx.block ?_
      refine AEx.seq ?_
      refine AEx.draw hC 15 rfl rfl rfl ?_
      refine AQ.q hC rfl trivial ?_
      refine AQ.q hC rfl trivial ?_
      refine AQ.q hC rfl trivial ?_
      obtain ⟨x2, hx2, hh⟩ := bind_some hh
      refine AQ.i hC rfl (idx_nat hx2) (ApiScalar.idx hx2) rfl ?_
      refine AQ.q hC rfl trivial ?_
      refine AQ.q hC rfl trivial ?_
      refine AQ.q hC rfl trivial ?_
      refine AQ.q hC rfl trivial ?_
      obtain ⟨x3, hx3, hh⟩ := bind_some hh
      refine AQ.i hC rfl (idx_nat hx3) (ApiScalar.idx hx3) rfl ?_
      refine AQ.q hC rfl trivial ?_
      refine AQ.q hC rfl trivial ?_
      refine AQ.q hC rfl trivial ?_
      refine AQ.q hC rfl trivial ?_
      refine AQ.q hC rfl trivial ?_
      refine AQ.q hC rfl trivial ?_
      refine AQ.nil ?_
      refine AOps.nil ?_
      refine AEx.seq ?_
      refine AEx.regionN rfl rfl ?_
      iterate 2 refine AOps.q hC rfl trivial ?_
      refine AOps.nil ?_
      refine AEx.cond rfl (fun hb => ?_) (fun hb => ?_)
      · replace hh := if_t hb hh
        refine AEx.seq ?_
        refine AEx.regionN rfl rfl ?_
        iterate 2 refine AOps.q hC rfl trivial ?_
        refine AOps.nil ?_
        refine AEx.ret ?_
        obtain rfl := Option.some.inj hh
        exact ⟨_, _, [], rfl, .rfl, trivial, rfl, rfl, rfl, rfl⟩
      · replace hh := if_f hb hh
        refine AEx.skip ?_
        refine AEx.regionN rfl rfl ?_
        iterate 3 refine AOps.q hC rfl trivial ?_
        refine AOps.nil ?_
        refine ALoop.wk ?_ (ih0 _ _ _ hh)
        exact ⟨⟨⟨.rfl, rfl⟩, ⟨⟨.rfl, rfl⟩, ⟨⟨.rfl, rfl⟩, trivial⟩⟩⟩, trivial, rfl⟩
    · replace hh := if_f hb hh
      refine AEx.exit ?_
      refine AEx.seq ?_
      refine AEx.regionN rfl rfl ?_
      iterate 3 refine AOps.q hC rfl trivial ?_
      refine AOps.nil ?_
      refine AEx.ret ?_
      obtain rfl := Option.some.inj hh
      exact ⟨_, _, [], rfl, .rfl, trivial, rfl, rfl, rfl, rfl⟩
theorem ref12_Values_l1_ok {x1 : List ApiScalar × Int} {n : Int} {i : Int} {res : Int × Int} (hh : ref12_Values_l1 x1 n i = some res) : ALoop (Fx.mk C 39 0) (lo (bk (sr (sl (sr (sr (sr (sr (bodyOf Tryd.f22))))))))) (mkEnv [(4, .d (.sl (ApiScalar.rows x1.1))), (6, .d (.int .i64 n)), (7, .d (.int .i64 i))]) [] (Am.InBlock 0 (Am.Then (Fx.mk C 39 0) (sr (sr (sr (sr (sr (bodyOf Tryd.f22)))))) (Am.Ends (Fx.mk C 39 0) Tryd.f22.results.toList (fun x H' => H' = [] ∧ x = .tup [.d (.int .i64 res.1), .d (.int .i64 res.2)])))) := (ref12_Values_l1_grp x1) _ _ _ hh
end Go.Proofs.YtonilfkaecbjnaaDoor
