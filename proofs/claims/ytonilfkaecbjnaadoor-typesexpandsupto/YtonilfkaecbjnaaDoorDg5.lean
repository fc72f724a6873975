/- What the functions compute, and that they do: printed by gen.py. -/
import Derived.Test.YtonilfkaecbjnaaDoorDg4
set_option maxRecDepth 100000
set_option maxHeartbeats 4000000
set_option linter.unusedVariables false
namespace Go.Proofs.YtonilfkaecbjnaaDoor
open Go.Am
mutual
def ref10_typeNames (t : ApiType) : Option Bool :=
  (if (t.Kind == 4) = true then ref10_IsName t.Name else some default) >>= fun x1 =>
  if (bif (t.Kind == 4) then (!x1) else false) = true then
    some false
  else
    ref10_typeNames_l1 t 0
  partial_fixpoint
def ref10_typeNames_l1 (t : ApiType) (i : Int) : Option Bool :=
  if (decide (i < ((t.Names).length : Int))) = true then
    idx t.Names i >>= fun x2 =>
    ref10_IsName x2 >>= fun x3 =>
    if (!x3) = true then
      some false
    else
      ref10_typeNames_l1 t (IntKind.i64.wrap (i + 1))
  else
    ref10_typeNames_l2 t 0
  partial_fixpoint
def ref10_typeNames_l2 (t : ApiType) (i1 : Int) : Option Bool :=
  if (decide (i1 < ((t.Of).length : Int))) = true then
    idx t.Of i1 >>= fun x4 =>
    ref10_typeNames x4 >>= fun x5 =>
    if (!x5) = true then
      some false
    else
      ref10_typeNames_l2 t (IntKind.i64.wrap (i1 + 1))
  else
    some true
  partial_fixpoint
end
theorem ref10_typeNames_grp : (∀ (t : ApiType) (res : Bool), ref10_typeNames t = some res → ACall C 108 [.agg (ApiType.cells t)] [] (fun x H' => H' = [] ∧ x = .d (.bool res))) ∧
    (∀ (t : ApiType) (i : Int) (res : Bool), ref10_typeNames_l1 t i = some res → ALoop (Fx.mk C 42 0) (lo (bk (sr (sl (sr (sr (bodyOf Tryd.f108))))))) (mkEnv [(1, .ref 0 0), (3, .d (.int .i64 i))]) [.row (ApiType.cells t) 27] (Am.InBlock 0 (Am.Then (Fx.mk C 42 0) (sr (sr (sr (bodyOf Tryd.f108)))) (Am.Ends (Fx.mk C 42 0) Tryd.f108.results.toList (fun x H' => H' = [] ∧ x = .d (.bool res)))))) ∧
    (∀ (t : ApiType) (i1 : Int) (res : Bool), ref10_typeNames_l2 t i1 = some res → ALoop (Fx.mk C 42 0) (lo (bk (sr (sl (sr (sr (sr (bodyOf Tryd.f108)))))))) (mkEnv [(1, .ref 0 0), (4, .d (.int .i64 i1))]) [.row (ApiType.cells t) 27] (Am.InBlock 2 (Am.Then (Fx.mk C 42 0) (sr (sr (sr (sr (bodyOf Tryd.f108))))) (Am.Ends (Fx.mk C 42 0) Tryd.f108.results.toList (fun x H' => H' = [] ∧ x = .d (.bool res)))))) := by
  refine ref10_typeNames.mutual_partial_correctness (fun t res => ACall C 108 [.agg (ApiType.cells t)] [] (fun x H' => H' = [] ∧ x = .d (.bool res)))
    (fun t i res => ALoop (Fx.mk C 42 0) (lo (bk (sr (sl (sr (sr (bodyOf Tryd.f108))))))) (mkEnv [(1, .ref 0 0), (3, .d (.int .i64 i))]) [.row (ApiType.cells t) 27] (Am.InBlock 0 (Am.Then (Fx.mk C 42 0) (sr (sr (sr (bodyOf Tryd.f108)))) (Am.Ends (Fx.mk C 42 0) Tryd.f108.results.toList (fun x H' => H' = [] ∧ x = .d (.bool res))))))
    (fun t i1 res => ALoop (Fx.mk C 42 0) (lo (bk (sr (sl (sr (sr (sr (bodyOf Tryd.f108)))))))) (mkEnv [(1, .ref 0 0), (4, .d (.int .i64 i1))]) [.row (ApiType.cells t) 27] (Am.InBlock 2 (Am.Then (Fx.mk C 42 0) (sr (sr (sr (sr (bodyOf Tryd.f108))))) (Am.Ends (Fx.mk C 42 0) Tryd.f108.results.toList (fun x H' => H' = [] ∧ x = .d (.bool res)))))) ?_ ?_ ?_
  · intro g1 ih1 t res hh
    refine ACall.intro hC Tryd.func108 rfl rfl rfl ?_
    refine AEx.seq ?_
    refine AEx.regionN rfl rfl ?_
    refine AOps.n hC rfl ?_
    refine AOps.q hC rfl trivial ?_
    refine AOps.nil ?_
    refine AEx.seq ?_
    refine AEx.seq ?_
    refine AEx.regionG 9 rfl ?_
    refine AG.q hC rfl ?_ ?_
    · intro hg; refine And.intro ?_ ?_ <;> repeat' (first | exact True.intro | exact hg | exact and_l hg | exact and_l (and_l hg) | refine And.intro ?_ ?_)
    refine AG.q hC rfl ?_ ?_
    · intro hg; refine And.intro ?_ ?_ <;> repeat' (first | exact True.intro | exact hg | exact and_l hg | exact and_l (and_l hg) | refine And.intro ?_ ?_)
    refine AG.q hC rfl ?_ ?_
    · intro hg; refine And.intro ?_ ?_ <;> repeat' (first | exact True.intro | exact hg | exact and_l hg | exact and_l (and_l hg) | refine And.intro ?_ ?_)
    refine AG.q hC rfl ?_ ?_
    · intro hg; refine And.intro ?_ ?_ <;> repeat' (first | exact True.intro | exact hg | exact and_l hg | exact and_l (and_l hg) | refine And.intro ?_ ?_)
    refine AG.q hC rfl ?_ ?_
    · intro hg; refine And.intro ?_ ?_ <;> repeat' (first | exact True.intro | exact hg | exact and_l hg | exact and_l (and_l hg) | refine And.intro ?_ ?_)
    refine AG.q hC rfl ?_ ?_
    · intro hg; refine And.intro ?_ ?_ <;> repeat' (first | exact True.intro | exact hg | exact and_l hg | exact and_l (and_l hg) | refine And.intro ?_ ?_)
    obtain ⟨x1, hx1, hh⟩ := bind_some hh
    refine AG.c rfl rfl (by intro hg; repeat' (first | exact True.intro | exact hg | exact and_l hg | exact and_l (and_l hg) | refine And.intro ?_ ?_)) (fun hw => ref10_IsName_ok (if_t hw hx1)) ?_
    refine AG.q hC rfl ?_ ?_
    · intro hg; refine And.intro ?_ ?_ <;> repeat' (first | exact True.intro | exact hg | exact and_l hg | exact and_l (and_l hg) | refine And.intro ?_ ?_)
    refine AG.p hC rfl ?_ ?_
    · intro hg; refine And.intro ?_ (And.intro ?_ ?_) <;> first | exact True.intro | exact fun _ => True.intro | exact And.intro hg True.intro | exact fun h' => And.intro (wb_f h') True.intro | exact fun h' => And.intro (wb_t h') True.intro | exact fun h' => And.intro (and_f hg h') True.intro | exact fun h' => And.intro (and_t hg h') True.intro | exact And.intro (and_l hg) True.intro
    refine AG.nil ?_
    refine AOps.nil ?_
    refine AEx.cond rfl (fun hb => ?_) (fun hb => ?_)
    · replace hh := if_t hb hh
      refine AEx.seq ?_
      refine AEx.regionN rfl rfl ?_
      refine AOps.q hC rfl trivial ?_
      refine AOps.nil ?_
      refine AEx.ret ?_
      obtain rfl := Option.some.inj hh
      exact ⟨_, _, [], rfl, .rfl, trivial, rfl, rfl, rfl, rfl⟩
    · replace hh := if_f hb hh
      refine AEx.skip ?_
      refine AEx.seq ?_
      refine AEx.seq ?_
      refine AEx.regionN rfl rfl ?_
      refine AOps.q hC rfl trivial ?_
      refine AOps.nil ?_
      refine AEx.block ?_
      refine AEx.ofLoop ?_
      refine ALoop.wk ?_ (ih1 _ _ _ hh)
      exact ⟨⟨⟨.rfl, rfl⟩, ⟨⟨.rfl, rfl⟩, trivial⟩⟩, ⟨⟨rfl, .refl _, rfl⟩, trivial⟩, rfl⟩
  · intro g1 g2 ih1 ih2 t i res hh
    refine ALoop.unroll ?_
    refine AEx.seq ?_
    refine AEx.seq ?_
    refine AEx.regionN rfl rfl ?_
    iterate 3 refine AOps.q hC rfl trivial ?_
    refine AOps.qe hC rfl trivial (estr.lenA _) ?_
    refine AOps.q hC rfl trivial ?_
    refine AOps.nil ?_
    refine AEx.cond rfl (fun hb => ?_) (fun hb => ?_)
    · replace hh := if_t hb hh
      refine AEx.skip ?_
      refine AEx.seq ?_
      refine AEx.block ?_
      refine AEx.seq ?_
      refine AEx.regionN rfl rfl ?_
      iterate 3 refine AOps.q hC rfl trivial ?_
      obtain ⟨x2, hx2, hh⟩ := bind_some hh
      refine AOps.i hC rfl (idx_nat hx2) (estr.idx hx2) rfl ?_
      refine AOps.q hC rfl trivial ?_
      obtain ⟨x3, hx3, hh⟩ := bind_some hh
      refine AOps.c rfl rfl (ref10_IsName_ok hx3) ?_
      refine AOps.q hC rfl trivial ?_
      refine AOps.nil ?_
      refine AEx.cond rfl (fun hb => ?_) (fun hb => ?_)
      · replace hh := if_t hb hh
        refine AEx.seq ?_
        refine AEx.regionN rfl rfl ?_
        refine AOps.q hC rfl trivial ?_
        refine AOps.nil ?_
        refine AEx.ret ?_
        obtain rfl := Option.some.inj hh
        exact ⟨_, _, [], rfl, .rfl, trivial, rfl, rfl, rfl, rfl⟩
      · replace hh := if_f hb hh
        refine AEx.skip ?_
        refine AEx.regionN rfl rfl ?_
        iterate 3 refine AOps.q hC rfl trivial ?_
        refine AOps.nil ?_
        refine ALoop.wk ?_ (ih1 _ _ _ hh)
        exact ⟨⟨⟨.rfl, rfl⟩, ⟨⟨.rfl, rfl⟩, trivial⟩⟩, ⟨⟨rfl, .refl _, rfl⟩, trivial⟩, rfl⟩
    · replace hh := if_f hb hh
      refine AEx.exit ?_
      refine AEx.seq ?_
      refine AEx.seq ?_
      refine AEx.regionN rfl rfl ?_
      refine AOps.q hC rfl trivial ?_
      refine AOps.nil ?_
      refine AEx.block ?_
      refine AEx.ofLoop ?_
      refine ALoop.wk ?_ (ih2 _ _ _ hh)
      exact ⟨⟨⟨.rfl, rfl⟩, ⟨⟨.rfl, rfl⟩, trivial⟩⟩, ⟨⟨rfl, .refl _, rfl⟩, trivial⟩, rfl⟩
  · intro g0 g2 ih0 ih2 t i1 res hh
    refine ALoop.unroll ?_
    refine AEx.seq ?_
    refine AEx.seq ?_
    refine AEx.regionN rfl rfl ?_
    iterate 3 refine AOps.q hC rfl trivial ?_
    refine AOps.qe hC rfl trivial (ApiType.lenA _) ?_
    refine AOps.q hC rfl trivial ?_
    refine AOps.nil ?_
    refine AEx.cond rfl (fun hb => ?_) (fun hb => ?_)
    · replace hh := if_t hb hh
      refine AEx.skip ?_
      refine AEx.seq ?_
      refine AEx.block ?_
      refine AEx.seq ?_
      refine AEx.regionN rfl rfl ?_
      iterate 3 refine AOps.q hC rfl trivial ?_
      obtain ⟨x4, hx4, hh⟩ := bind_some hh
      refine AOps.i hC rfl (idx_nat hx4) (ApiType.idx hx4) rfl ?_
      refine AOps.q hC rfl trivial ?_
      obtain ⟨x5, hx5, hh⟩ := bind_some hh
      refine AOps.c rfl rfl (ih0 _ _ hx5) ?_
      refine AOps.q hC rfl trivial ?_
      refine AOps.nil ?_
      refine AEx.cond rfl (fun hb => ?_) (fun hb => ?_)
      · replace hh := if_t hb hh
        refine AEx.seq ?_
        refine AEx.regionN rfl rfl ?_
        refine AOps.q hC rfl trivial ?_
        refine AOps.nil ?_
        refine AEx.ret ?_
        obtain rfl := Option.some.inj hh
        exact ⟨_, _, [], rfl, .rfl, trivial, rfl, rfl, rfl, rfl⟩
      · replace hh := if_f hb hh
        refine AEx.skip ?_
        refine AEx.regionN rfl rfl ?_
        iterate 3 refine AOps.q hC rfl trivial ?_
        refine AOps.nil ?_
        refine ALoop.wk ?_ (ih2 _ _ _ hh)
        exact ⟨⟨⟨.rfl, rfl⟩, ⟨⟨.rfl, rfl⟩, trivial⟩⟩, ⟨⟨rfl, .refl _, rfl⟩, trivial⟩, rfl⟩
    · replace hh := if_f hb hh
      refine AEx.exit ?_
      refine AEx.seq ?_
      refine AEx.regionN rfl rfl ?_
      refine AOps.q hC rfl trivial ?_
      refine AOps.nil ?_
      refine AEx.ret ?_
      obtain rfl := Option.some.inj hh
      exact ⟨_, _, [], rfl, .rfl, trivial, rfl, rfl, rfl, rfl⟩
theorem ref10_typeNames_ok {t : ApiType} {res : Bool} (hh : ref10_typeNames t = some res) : ACall C 108 [.agg (ApiType.cells t)] [] (fun x H' => H' = [] ∧ x = .d (.bool res)) := (ref10_typeNames_grp).1 _ _ hh
theorem ref10_typeNames_l1_ok {t : ApiType} {i : Int} {res : Bool} (hh : ref10_typeNames_l1 t i = some res) : ALoop (Fx.mk C 42 0) (lo (bk (sr (sl (sr (sr (bodyOf Tryd.f108))))))) (mkEnv [(1, .ref 0 0), (3, .d (.int .i64 i))]) [.row (ApiType.cells t) 27] (Am.InBlock 0 (Am.Then (Fx.mk C 42 0) (sr (sr (sr (bodyOf Tryd.f108)))) (Am.Ends (Fx.mk C 42 0) Tryd.f108.results.toList (fun x H' => H' = [] ∧ x = .d (.bool res))))) := (ref10_typeNames_grp).2.1 _ _ _ hh
theorem ref10_typeNames_l2_ok {t : ApiType} {i1 : Int} {res : Bool} (hh : ref10_typeNames_l2 t i1 = some res) : ALoop (Fx.mk C 42 0) (lo (bk (sr (sl (sr (sr (sr (bodyOf Tryd.f108)))))))) (mkEnv [(1, .ref 0 0), (4, .d (.int .i64 i1))]) [.row (ApiType.cells t) 27] (Am.InBlock 2 (Am.Then (Fx.mk C 42 0) (sr (sr (sr (sr (bodyOf Tryd.f108))))) (Am.Ends (Fx.mk C 42 0) Tryd.f108.results.toList (fun x H' => H' = [] ∧ x = .d (.bool res))))) := (ref10_typeNames_grp).2.2 _ _ _ hh
def ref10_within (n : Int) : Option Bool :=
  some (bif (decide (n ≥ (-1048576))) then (decide (n ≤ 1048576)) else false)
theorem ref10_within_ok {n : Int} {res : Bool} (hh : ref10_within n = some res) : ACall C 140 [.d (.int .i64 n)] [] (fun x H' => H' = [] ∧ x = .d (.bool res)) := by
  unfold ref10_within at hh
  refine ACall.intro hC Tryd.func140 rfl rfl rfl ?_
  refine AEx.seq ?_
  refine AEx.regionN rfl rfl ?_
  refine AOps.q hC rfl trivial ?_
  refine AOps.nil ?_
  refine AEx.seq ?_
  refine AEx.regionG 7 rfl ?_
  refine AG.q hC rfl ?_ ?_
  · intro hg; refine And.intro ?_ ?_ <;> repeat' (first | exact True.intro | exact hg | exact and_l hg | exact and_l (and_l hg) | refine And.intro ?_ ?_)
  refine AG.q hC rfl ?_ ?_
  · intro hg; refine And.intro ?_ ?_ <;> repeat' (first | exact True.intro | exact hg | exact and_l hg | exact and_l (and_l hg) | refine And.intro ?_ ?_)
  refine AG.q hC rfl ?_ ?_
  · intro hg; refine And.intro ?_ ?_ <;> repeat' (first | exact True.intro | exact hg | exact and_l hg | exact and_l (and_l hg) | refine And.intro ?_ ?_)
  refine AG.q hC rfl ?_ ?_
  · intro hg; refine And.intro ?_ ?_ <;> repeat' (first | exact True.intro | exact hg | exact and_l hg | exact and_l (and_l hg) | refine And.intro ?_ ?_)
  refine AG.q hC rfl ?_ ?_
  · intro hg; refine And.intro ?_ ?_ <;> repeat' (first | exact True.intro | exact hg | exact and_l hg | exact and_l (and_l hg) | refine And.intro ?_ ?_)
  refine AG.p hC rfl ?_ ?_
  · intro hg; refine And.intro ?_ (And.intro ?_ ?_) <;> first | exact True.intro | exact fun _ => True.intro | exact And.intro hg True.intro | exact fun h' => And.intro (wb_f h') True.intro | exact fun h' => And.intro (wb_t h') True.intro | exact fun h' => And.intro (and_f hg h') True.intro | exact fun h' => And.intro (and_t hg h') True.intro | exact And.intro (and_l hg) True.intro
  refine AG.q hC rfl ?_ ?_
  · intro hg; refine And.intro ?_ ?_ <;> repeat' (first | exact True.intro | exact hg | exact and_l hg | exact and_l (and_l hg) | refine And.intro ?_ ?_)
  refine AG.nil ?_
  refine AOps.nil ?_
  refine AEx.ret ?_
  obtain rfl := Option.some.inj hh
  exact ⟨_, _, [], rfl, .rfl, trivial, rfl, rfl, rfl, rfl⟩
mutual
def ref10_typeNumbers (t : ApiType) : Option Bool :=
  (if (t.Kind == 1) = true then ref10_within t.Low else some default) >>= fun x1 =>
  (if ((t.Kind == 1) && (!(!x1))) = true then ref10_within t.High else some default) >>= fun x2 =>
  if (bif (bif (bif (t.Kind == 1) then (bif (bif (!x1) then true else (!x2)) then true else (decide (t.Low > t.High))) else false) then true else (bif (t.Kind == 2) then (bif (decide (t.Size < 1)) then true else (decide (t.Size > 32))) else false)) then true else (decide (((t.Of).length : Int) > 32))) = true then
    some false
  else
    ref10_typeNumbers_l1 t 0
  partial_fixpoint
def ref10_typeNumbers_l1 (t : ApiType) (i : Int) : Option Bool :=
  if (decide (i < ((t.Of).length : Int))) = true then
    idx t.Of i >>= fun x3 =>
    ref10_typeNumbers x3 >>= fun x4 =>
    if (!x4) = true then
      some false
    else
      ref10_typeNumbers_l1 t (IntKind.i64.wrap (i + 1))
  else
    some true
  partial_fixpoint
end
theorem ref10_typeNumbers_grp : (∀ (t : ApiType) (res : Bool), ref10_typeNumbers t = some res → ACall C 109 [.agg (ApiType.cells t)] [] (fun x H' => H' = [] ∧ x = .d (.bool res))) ∧
    (∀ (t : ApiType) (i : Int) (res : Bool), ref10_typeNumbers_l1 t i = some res → ALoop (Fx.mk C 61 0) (lo (bk (sr (sl (sr (sr (bodyOf Tryd.f109))))))) (mkEnv [(1, .ref 0 0), (3, .d (.int .i64 i))]) [.row (ApiType.cells t) 27] (Am.InBlock 0 (Am.Then (Fx.mk C 61 0) (sr (sr (sr (bodyOf Tryd.f109)))) (Am.Ends (Fx.mk C 61 0) Tryd.f109.results.toList (fun x H' => H' = [] ∧ x = .d (.bool res)))))) := by
  refine ref10_typeNumbers.mutual_partial_correctness (fun t res => ACall C 109 [.agg (ApiType.cells t)] [] (fun x H' => H' = [] ∧ x = .d (.bool res)))
    (fun t i res => ALoop (Fx.mk C 61 0) (lo (bk (sr (sl (sr (sr (bodyOf Tryd.f109))))))) (mkEnv [(1, .ref 0 0), (3, .d (.int .i64 i))]) [.row (ApiType.cells t) 27] (Am.InBlock 0 (Am.Then (Fx.mk C 61 0) (sr (sr (sr (bodyOf Tryd.f109)))) (Am.Ends (Fx.mk C 61 0) Tryd.f109.results.toList (fun x H' => H' = [] ∧ x = .d (.bool res)))))) ?_ ?_
  · intro g1 ih1 t res hh
    refine ACall.intro hC Tryd.func109 rfl rfl rfl ?_
    refine AEx.seq ?_
    refine AEx.regionN rfl rfl ?_
    refine AOps.n hC rfl ?_
    refine AOps.q hC rfl trivial ?_
    refine AOps.nil ?_
    refine AEx.seq ?_
    refine AEx.seq ?_
    refine AEx.regionG 43 rfl ?_
    refine AG.q hC rfl ?_ ?_
    · intro hg; refine And.intro ?_ ?_ <;> repeat' (first | exact True.intro | exact hg | exact and_l hg | exact and_l (and_l hg) | refine And.intro ?_ ?_)
    refine AG.q hC rfl ?_ ?_
    · intro hg; refine And.intro ?_ ?_ <;> repeat' (first | exact True.intro | exact hg | exact and_l hg | exact and_l (and_l hg) | refine And.intro ?_ ?_)
    refine AG.q hC rfl ?_ ?_
    · intro hg; refine And.intro ?_ ?_ <;> repeat' (first | exact True.intro | exact hg | exact and_l hg | exact and_l (and_l hg) | refine And.intro ?_ ?_)
    refine AG.q hC rfl ?_ ?_
    · intro hg; refine And.intro ?_ ?_ <;> repeat' (first | exact True.intro | exact hg | exact and_l hg | exact and_l (and_l hg) | refine And.intro ?_ ?_)
    refine AG.q hC rfl ?_ ?_
    · intro hg; refine And.intro ?_ ?_ <;> repeat' (first | exact True.intro | exact hg | exact and_l hg | exact and_l (and_l hg) | refine And.intro ?_ ?_)
    refine AG.q hC rfl ?_ ?_
    · intro hg; refine And.intro ?_ ?_ <;> repeat' (first | exact True.intro | exact hg | exact and_l hg | exact and_l (and_l hg) | refine And.intro ?_ ?_)
    obtain ⟨x1, hx1, hh⟩ := bind_some hh
    refine AG.c rfl rfl (by intro hg; repeat' (first | exact True.intro | exact hg | exact and_l hg | exact and_l (and_l hg) | refine And.intro ?_ ?_)) (fun hw => ref10_within_ok (if_t hw hx1)) ?_
    refine AG.q hC rfl ?_ ?_
    · intro hg; refine And.intro ?_ ?_ <;> repeat' (first | exact True.intro | exact hg | exact and_l hg | exact and_l (and_l hg) | refine And.intro ?_ ?_)
    refine AG.q hC rfl ?_ ?_
    · intro hg; refine And.intro ?_ ?_ <;> repeat' (first | exact True.intro | exact hg | exact and_l hg | exact and_l (and_l hg) | refine And.intro ?_ ?_)
    refine AG.q hC rfl ?_ ?_
    · intro hg; refine And.intro ?_ ?_ <;> repeat' (first | exact True.intro | exact hg | exact and_l hg | exact and_l (and_l hg) | refine And.intro ?_ ?_)
    refine AG.q hC rfl ?_ ?_
    · intro hg; refine And.intro ?_ ?_ <;> repeat' (first | exact True.intro | exact hg | exact and_l hg | exact and_l (and_l hg) | refine And.intro ?_ ?_)
    obtain ⟨x2, hx2, hh⟩ := bind_some hh
    refine AG.c rfl rfl (by intro hg; repeat' (first | exact True.intro | exact hg | exact and_l hg | exact and_l (and_l hg) | refine And.intro ?_ ?_)) (fun hw => ref10_within_ok (if_t hw hx2)) ?_
    refine AG.q hC rfl ?_ ?_
    · intro hg; refine And.intro ?_ ?_ <;> repeat' (first | exact True.intro | exact hg | exact and_l hg | exact and_l (and_l hg) | refine And.intro ?_ ?_)
    refine AG.p hC rfl ?_ ?_
    · intro hg; refine And.intro ?_ (And.intro ?_ ?_) <;> first | exact True.intro | exact fun _ => True.intro | exact And.intro hg True.intro | exact fun h' => And.intro (wb_f h') True.intro | exact fun h' => And.intro (wb_t h') True.intro | exact fun h' => And.intro (and_f hg h') True.intro | exact fun h' => And.intro (and_t hg h') True.intro | exact And.intro (and_l hg) True.intro
    refine AG.q hC rfl ?_ ?_
    · intro hg; refine And.intro ?_ ?_ <;> repeat' (first | exact True.intro | exact hg | exact and_l hg | exact and_l (and_l hg) | refine And.intro ?_ ?_)
    refine AG.q hC rfl ?_ ?_
    · intro hg; refine And.intro ?_ ?_ <;> repeat' (first | exact True.intro | exact hg | exact and_l hg | exact and_l (and_l hg) | refine And.intro ?_ ?_)
    refine AG.q hC rfl ?_ ?_
    · intro hg; refine And.intro ?_ ?_ <;> repeat' (first | exact True.intro | exact hg | exact and_l hg | exact and_l (and_l hg) | refine And.intro ?_ ?_)
    refine AG.q hC rfl ?_ ?_
    · intro hg; refine And.intro ?_ ?_ <;> repeat' (first | exact True.intro | exact hg | exact and_l hg | exact and_l (and_l hg) | refine And.intro ?_ ?_)
    refine AG.q hC rfl ?_ ?_
    · intro hg; refine And.intro ?_ ?_ <;> repeat' (first | exact True.intro | exact hg | exact and_l hg | exact and_l (and_l hg) | refine And.intro ?_ ?_)
    refine AG.q hC rfl ?_ ?_
    · intro hg; refine And.intro ?_ ?_ <;> repeat' (first | exact True.intro | exact hg | exact and_l hg | exact and_l (and_l hg) | refine And.intro ?_ ?_)
    refine AG.p hC rfl ?_ ?_
    · intro hg; refine And.intro ?_ (And.intro ?_ ?_) <;> first | exact True.intro | exact fun _ => True.intro | exact And.intro hg True.intro | exact fun h' => And.intro (wb_f h') True.intro | exact fun h' => And.intro (wb_t h') True.intro | exact fun h' => And.intro (and_f hg h') True.intro | exact fun h' => And.intro (and_t hg h') True.intro | exact And.intro (and_l hg) True.intro
    refine AG.p hC rfl ?_ ?_
    · intro hg; refine And.intro ?_ (And.intro ?_ ?_) <;> first | exact True.intro | exact fun _ => True.intro | exact And.intro hg True.intro | exact fun h' => And.intro (wb_f h') True.intro | exact fun h' => And.intro (wb_t h') True.intro | exact fun h' => And.intro (and_f hg h') True.intro | exact fun h' => And.intro (and_t hg h') True.intro | exact And.intro (and_l hg) True.intro
    refine AG.q hC rfl ?_ ?_
    · intro hg; refine And.intro ?_ ?_ <;> repeat' (first | exact True.intro | exact hg | exact and_l hg | exact and_l (and_l hg) | refine And.intro ?_ ?_)
    refine AG.q hC rfl ?_ ?_
    · intro hg; refine And.intro ?_ ?_ <;> repeat' (first | exact True.intro | exact hg | exact and_l hg | exact and_l (and_l hg) | refine And.intro ?_ ?_)
    refine AG.q hC rfl ?_ ?_
    · intro hg; refine And.intro ?_ ?_ <;> repeat' (first | exact True.intro | exact hg | exact and_l hg | exact and_l (and_l hg) | refine And.intro ?_ ?_)
    refine AG.q hC rfl ?_ ?_
    · intro hg; refine And.intro ?_ ?_ <;> repeat' (first | exact True.intro | exact hg | exact and_l hg | exact and_l (and_l hg) | refine And.intro ?_ ?_)
    refine AG.q hC rfl ?_ ?_
    · intro hg; refine And.intro ?_ ?_ <;> repeat' (first | exact True.intro | exact hg | exact and_l hg | exact and_l (and_l hg) | refine And.intro ?_ ?_)
    refine AG.q hC rfl ?_ ?_
    · intro hg; refine And.intro ?_ ?_ <;> repeat' (first | exact True.intro | exact hg | exact and_l hg | exact and_l (and_l hg) | refine And.intro ?_ ?_)
    refine AG.q hC rfl ?_ ?_
    · intro hg; refine And.intro ?_ ?_ <;> repeat' (first | exact True.intro | exact hg | exact and_l hg | exact and_l (and_l hg) | refine And.intro ?_ ?_)
    refine AG.q hC rfl ?_ ?_
    · intro hg; refine And.intro ?_ ?_ <;> repeat' (first | exact True.intro | exact hg | exact and_l hg | exact and_l (and_l hg) | refine And.intro ?_ ?_)
    refine AG.q hC rfl ?_ ?_
    · intro hg; refine And.intro ?_ ?_ <;> repeat' (first | exact True.intro | exact hg | exact and_l hg | exact and_l (and_l hg) | refine And.intro ?_ ?_)
    refine AG.q hC rfl ?_ ?_
    · intro hg; refine And.intro ?_ ?_ <;> repeat' (first | exact True.intro | exact hg | exact and_l hg | exact and_l (and_l hg) | refine And.intro ?_ ?_)
    refine AG.q hC rfl ?_ ?_
    · intro hg; refine And.intro ?_ ?_ <;> repeat' (first | exact True.intro | exact hg | exact and_l hg | exact and_l (and_l hg) | refine And.intro ?_ ?_)
    refine AG.q hC rfl ?_ ?_
    · intro hg; refine And.intro ?_ ?_ <;> repeat' (first | exact True.intro | exact hg | exact and_l hg | exact and_l (and_l hg) | refine And.intro ?_ ?_)
    refine AG.p hC rfl ?_ ?_
    · intro hg; refine And.intro ?_ (And.intro ?_ ?_) <;> first | exact True.intro | exact fun _ => True.intro | exact And.intro hg True.intro | exact fun h' => And.intro (wb_f h') True.intro | exact fun h' => And.intro (wb_t h') True.intro | exact fun h' => And.intro (and_f hg h') True.intro | exact fun h' => And.intro (and_t hg h') True.intro | exact And.intro (and_l hg) True.intro
    refine AG.p hC rfl ?_ ?_
    · intro hg; refine And.intro ?_ (And.intro ?_ ?_) <;> first | exact True.intro | exact fun _ => True.intro | exact And.intro hg True.intro | exact fun h' => And.intro (wb_f h') True.intro | exact fun h' => And.intro (wb_t h') True.intro | exact fun h' => And.intro (and_f hg h') True.intro | exact fun h' => And.intro (and_t hg h') True.intro | exact And.intro (and_l hg) True.intro
    refine AG.p hC rfl ?_ ?_
    · intro hg; refine And.intro ?_ (And.intro ?_ ?_) <;> first | exact True.intro | exact fun _ => True.intro | exact And.intro hg True.intro | exact fun h' => And.intro (wb_f h') True.intro | exact fun h' => And.intro (wb_t h') True.intro | exact fun h' => And.intro (and_f hg h') True.intro | exact fun h' => And.intro (and_t hg h') True.intro | exact And.intro (and_l hg) True.intro
    refine AG.q hC rfl ?_ ?_
    · intro hg; refine And.intro ?_ ?_ <;> repeat' (first | exact True.intro | exact hg | exact and_l hg | exact and_l (and_l hg) | refine And.intro ?_ ?_)
    refine AG.q hC rfl ?_ ?_
    · intro hg; refine And.intro ?_ ?_ <;> repeat' (first | exact True.intro | exact hg | exact and_l hg | exact and_l (and_l hg) | refine And.intro ?_ ?_)
    refine AG.q hC rfl ?_ ?_
    · intro hg; refine And.intro ?_ ?_ <;> repeat' (first | exact True.intro | exact hg | exact and_l hg | exact and_l (and_l hg) | refine And.intro ?_ ?_)
    refine AG.qe hC rfl ?_ (ApiType.lenA _) ?_
    · intro hg; refine And.intro ?_ ?_ <;> repeat' (first | exact True.intro | exact hg | exact and_l hg | exact and_l (and_l hg) | refine And.intro ?_ ?_)
    refine AG.q hC rfl ?_ ?_
    · intro hg; refine And.intro ?_ ?_ <;> repeat' (first | exact True.intro | exact hg | exact and_l hg | exact and_l (and_l hg) | refine And.intro ?_ ?_)
    refine AG.p hC rfl ?_ ?_
    · intro hg; refine And.intro ?_ (And.intro ?_ ?_) <;> first | exact True.intro | exact fun _ => True.intro | exact And.intro hg True.intro | exact fun h' => And.intro (wb_f h') True.intro | exact fun h' => And.intro (wb_t h') True.intro | exact fun h' => And.intro (and_f hg h') True.intro | exact fun h' => And.intro (and_t hg h') True.intro | exact And.intro (and_l hg) True.intro
    refine AG.nil ?_
    refine AOps.nil ?_
    refine AEx.cond rfl (fun hb => ?_) (fun hb => ?_)
    · replace hh := if_t hb hh
      refine AEx.seq ?_
      refine AEx.regionN rfl rfl ?_
      refine AOps.q hC rfl trivial ?_
      refine AOps.nil ?_
      refine AEx.ret ?_
      obtain rfl := Option.some.inj hh
      exact ⟨_, _, [], rfl, .rfl, trivial, rfl, rfl, rfl, rfl⟩
    · replace hh := if_f hb hh
      refine AEx.skip ?_
      refine AEx.seq ?_
      refine AEx.seq ?_
      refine AEx.regionN rfl rfl ?_
      refine AOps.q hC rfl trivial ?_
      refine AOps.nil ?_
      refine AEx.block ?_
      refine AEx.ofLoop ?_
      refine ALoop.wk ?_ (ih1 _ _ _ hh)
      exact ⟨⟨⟨.rfl, rfl⟩, ⟨⟨.rfl, rfl⟩, trivial⟩⟩, ⟨⟨rfl, .refl _, rfl⟩, trivial⟩, rfl⟩
  · intro g0 g1 ih0 ih1 t i res hh
    refine ALoop.unroll ?_
    refine AEx.seq ?_
    refine AEx.seq ?_
    refine AEx.regionN rfl rfl ?_
    iterate 3 refine AOps.q hC rfl trivial ?_
    refine AOps.qe hC rfl trivial (ApiType.lenA _) ?_
    refine AOps.q hC rfl trivial ?_
    refine AOps.nil ?_
    refine AEx.cond rfl (fun hb => ?_) (fun hb => ?_)
    · replace hh := if_t hb hh
      refine AEx.skip ?_
      refine AEx.seq ?_
      refine AEx.block ?_
      refine AEx.seq ?_
      refine AEx.regionN rfl rfl ?_
      iterate 3 refine AOps.q hC rfl trivial ?_
      obtain ⟨x3, hx3, hh⟩ := bind_some hh
      refine AOps.i hC rfl (idx_nat hx3) (ApiType.idx hx3) rfl ?_
      refine AOps.q hC rfl trivial ?_
      obtain ⟨x4, hx4, hh⟩ := bind_some hh
      refine AOps.c rfl rfl (ih0 _ _ hx4) ?_
      refine AOps.q hC rfl trivial ?_
      refine AOps.nil ?_
      refine AEx.cond rfl (fun hb => ?_) (fun hb => ?_)
      · replace hh := if_t hb hh
        refine AEx.seq ?_
        refine AEx.regionN rfl rfl ?_
        refine AOps.q hC rfl trivial ?_
        refine AOps.nil ?_
        refine AEx.ret ?_
        obtain rfl := Option.some.inj hh
        exact ⟨_, _, [], rfl, .rfl, trivial, rfl, rfl, rfl, rfl⟩
      · replace hh := if_f hb hh
        refine AEx.skip ?_
        refine AEx.regionN rfl rfl ?_
        iterate 3 refine AOps.q hC rfl trivial ?_
        refine AOps.nil ?_
        refine ALoop.wk ?_ (ih1 _ _ _ hh)
        exact ⟨⟨⟨.rfl, rfl⟩, ⟨⟨.rfl, rfl⟩, trivial⟩⟩, ⟨⟨rfl, .refl _, rfl⟩, trivial⟩, rfl⟩
    · replace hh := if_f hb hh
      refine AEx.exit ?_
      refine AEx.seq ?_
      refine AEx.regionN rfl rfl ?_
      refine AOps.q hC rfl trivial ?_
      refine AOps.nil ?_
      refine AEx.ret ?_
      obtain rfl := Option.some.inj hh
      exact ⟨_, _, [], rfl, .rfl, trivial, rfl, rfl, rfl, rfl⟩
theorem ref10_typeNumbers_ok {t : ApiType} {res : Bool} (hh : ref10_typeNumbers t = some res) : ACall C 109 [.agg (ApiType.cells t)] [] (fun x H' => H' = [] ∧ x = .d (.bool res)) := (ref10_typeNumbers_grp).1 _ _ hh
theorem ref10_typeNumbers_l1_ok {t : ApiType} {i : Int} {res : Bool} (hh : ref10_typeNumbers_l1 t i = some res) : ALoop (Fx.mk C 61 0) (lo (bk (sr (sl (sr (sr (bodyOf Tryd.f109))))))) (mkEnv [(1, .ref 0 0), (3, .d (.int .i64 i))]) [.row (ApiType.cells t) 27] (Am.InBlock 0 (Am.Then (Fx.mk C 61 0) (sr (sr (sr (bodyOf Tryd.f109)))) (Am.Ends (Fx.mk C 61 0) Tryd.f109.results.toList (fun x H' => H' = [] ∧ x = .d (.bool res))))) := (ref10_typeNumbers_grp).2 _ _ _ hh
def ref10_verdict (s : Keyholeref10Size) (form : Bool) (names : Bool) (numbers : Bool) : Option Int :=
  if (bif (decide (s.nodes > 1024)) then true else (decide (s.depth > 12))) = true then
    some 4
  else
    if (!form) = true then
      some 1
    else
      if (!names) = true then
        some 7
      else
        if (!numbers) = true then
          some 3
        else
          some 0
theorem ref10_verdict_ok {s : Keyholeref10Size} {form : Bool} {names : Bool} {numbers : Bool} {res : Int} (hh : ref10_verdict s form names numbers = some res) : ACall C 105 [.agg (Keyholeref10Size.cells s), .d (.bool form), .d (.bool names), .d (.bool numbers)] [] (fun x H' => H' = [] ∧ x = .d (.int .i64 res)) := by
  unfold ref10_verdict at hh
  refine ACall.intro hC Tryd.func105 rfl rfl rfl ?_
  refine AEx.seq ?_
  refine AEx.regionN rfl rfl ?_
  refine AOps.n hC rfl ?_
  refine AOps.q hC rfl trivial ?_
  refine AOps.nil ?_
  refine AEx.seq ?_
  refine AEx.seq ?_
  refine AEx.regionG 8 rfl ?_
  refine AG.q hC rfl ?_ ?_
  · intro hg; refine And.intro ?_ ?_ <;> repeat' (first | exact True.intro | exact hg | exact and_l hg | exact and_l (and_l hg) | refine And.intro ?_ ?_)
  refine AG.q hC rfl ?_ ?_
  · intro hg; refine And.intro ?_ ?_ <;> repeat' (first | exact True.intro | exact hg | exact and_l hg | exact and_l (and_l hg) | refine And.intro ?_ ?_)
  refine AG.q hC rfl ?_ ?_
  · intro hg; refine And.intro ?_ ?_ <;> repeat' (first | exact True.intro | exact hg | exact and_l hg | exact and_l (and_l hg) | refine And.intro ?_ ?_)
  refine AG.q hC rfl ?_ ?_
  · intro hg; refine And.intro ?_ ?_ <;> repeat' (first | exact True.intro | exact hg | exact and_l hg | exact and_l (and_l hg) | refine And.intro ?_ ?_)
  refine AG.q hC rfl ?_ ?_
  · intro hg; refine And.intro ?_ ?_ <;> repeat' (first | exact True.intro | exact hg | exact and_l hg | exact and_l (and_l hg) | refine And.intro ?_ ?_)
  refine AG.q hC rfl ?_ ?_
  · intro hg; refine And.intro ?_ ?_ <;> repeat' (first | exact True.intro | exact hg | exact and_l hg | exact and_l (and_l hg) | refine And.intro ?_ ?_)
  refine AG.q hC rfl ?_ ?_
  · intro hg; refine And.intro ?_ ?_ <;> repeat' (first | exact True.intro | exact hg | exact and_l hg | exact and_l (and_l hg) | refine And.intro ?_ ?_)
  refine AG.p hC rfl ?_ ?_
  · intro hg; refine And.intro ?_ (And.intro ?_ ?_) <;> first | exact True.intro | exact fun _ => True.intro | exact And.intro hg True.intro | exact fun h' => And.intro (wb_f h') True.intro | exact fun h' => And.intro (wb_t h') True.intro | exact fun h' => And.intro (and_f hg h') True.intro | exact fun h' => And.intro (and_t hg h') True.intro | exact And.intro (and_l hg) True.intro
  refine AG.nil ?_
  refine AOps.nil ?_
  refine AEx.cond rfl (fun hb => ?_) (fun hb => ?_)
  · replace hh := if_t hb hh
    refine AEx.seq ?_
    refine AEx.regionN rfl rfl ?_
    refine AOps.q hC rfl trivial ?_
    refine AOps.nil ?_
    refine AEx.ret ?_
    obtain rfl := Option.some.inj hh
    exact ⟨_, _, [], rfl, .rfl, trivial, rfl, rfl, rfl, rfl⟩
  · replace hh := if_f hb hh
    refine AEx.skip ?_
    refine AEx.seq ?_
    refine AEx.seq ?_
    refine AEx.regionN rfl rfl ?_
    iterate 2 refine AOps.q hC rfl trivial ?_
    refine AOps.nil ?_
    refine AEx.cond rfl (fun hb => ?_) (fun hb => ?_)
    · replace hh := if_t hb hh
      refine AEx.seq ?_
      refine AEx.regionN rfl rfl ?_
      refine AOps.q hC rfl trivial ?_
      refine AOps.nil ?_
      refine AEx.ret ?_
      obtain rfl := Option.some.inj hh
      exact ⟨_, _, [], rfl, .rfl, trivial, rfl, rfl, rfl, rfl⟩
    · replace hh := if_f hb hh
      refine AEx.skip ?_
      refine AEx.seq ?_
      refine AEx.seq ?_
      refine AEx.regionN rfl rfl ?_
      iterate 2 refine AOps.q hC rfl trivial ?_
      refine AOps.nil ?_
      refine AEx.cond rfl (fun hb => ?_) (fun hb => ?_)
      · replace hh := if_t hb hh
        refine AEx.seq ?_
        refine AEx.regionN rfl rfl ?_
        refine AOps.q hC rfl trivial ?_
        refine AOps.nil ?_
        refine AEx.ret ?_
        obtain rfl := Option.some.inj hh
        exact ⟨_, _, [], rfl, .rfl, trivial, rfl, rfl, rfl, rfl⟩
      · replace hh := if_f hb hh
        refine AEx.skip ?_
        refine AEx.seq ?_
        refine AEx.seq ?_
        refine AEx.regionN rfl rfl ?_
        iterate 2 refine AOps.q hC rfl trivial ?_
        refine AOps.nil ?_
        refine AEx.cond rfl (fun hb => ?_) (fun hb => ?_)
        · replace hh := if_t hb hh
          refine AEx.seq ?_
          refine AEx.regionN rfl rfl ?_
          refine AOps.q hC rfl trivial ?_
          refine AOps.nil ?_
          refine AEx.ret ?_
          obtain rfl := Option.some.inj hh
          exact ⟨_, _, [], rfl, .rfl, trivial, rfl, rfl, rfl, rfl⟩
        · replace hh := if_f hb hh
          refine AEx.skip ?_
          refine AEx.seq ?_
          refine AEx.regionN rfl rfl ?_
          refine AOps.q hC rfl trivial ?_
          refine AOps.nil ?_
          refine AEx.ret ?_
          obtain rfl := Option.some.inj hh
          exact ⟨_, _, [], rfl, .rfl, trivial, rfl, rfl, rfl, rfl⟩
def ref10_CheckType (t : ApiType) : Option Int :=
  ref10_addType (Keyholeref10Size.mk 0 0) t true >>= fun x1 =>
  ref10_typeForm t >>= fun x2 =>
  ref10_typeNames t >>= fun x3 =>
  ref10_typeNumbers t >>= fun x4 =>
  ref10_verdict x1 x2 x3 x4 >>= fun x5 =>
  some x5
theorem ref10_CheckType_ok {t : ApiType} {res : Int} (hh : ref10_CheckType t = some res) : ACall C 60 [.agg (ApiType.cells t)] [] (fun x H' => H' = [] ∧ x = .d (.int .i64 res)) := by
  unfold ref10_CheckType at hh
  refine ACall.intro hC Tryd.func60 rfl rfl rfl ?_
  refine AEx.seq ?_
  refine AEx.regionN rfl rfl ?_
  refine AOps.n hC rfl ?_
  refine AOps.q hC rfl trivial ?_
  refine AOps.nil ?_
  refine AEx.seq ?_
  refine AEx.draw hC 11 rfl rfl rfl ?_
  refine AQ.q hC rfl trivial ?_
  refine AQ.q hC rfl trivial ?_
  obtain ⟨x1, hx1, hh⟩ := bind_some hh
  refine AQ.c rfl rfl (ref10_addType_ok hx1) ?_
  refine AQ.q hC rfl trivial ?_
  obtain ⟨x2, hx2, hh⟩ := bind_some hh
  refine AQ.c rfl rfl (ref10_typeForm_ok hx2) ?_
  refine AQ.q hC rfl trivial ?_
  obtain ⟨x3, hx3, hh⟩ := bind_some hh
  refine AQ.c rfl rfl (ref10_typeNames_ok hx3) ?_
  refine AQ.q hC rfl trivial ?_
  obtain ⟨x4, hx4, hh⟩ := bind_some hh
  refine AQ.c rfl rfl (ref10_typeNumbers_ok hx4) ?_
  obtain ⟨x5, hx5, hh⟩ := bind_some hh
  refine AQ.c rfl rfl (ref10_verdict_ok hx5) ?_
  refine AQ.q hC rfl trivial ?_
  refine AQ.nil ?_
  refine AOps.nil ?_
  refine AEx.ret ?_
  obtain rfl := Option.some.inj hh
  exact ⟨_, _, [], rfl, .rfl, trivial, rfl, rfl, rfl, rfl⟩
def ref12_replace_l1 (known : List ApiDecl) (t : ApiType) (i : Int) : Option (ApiType × Bool) :=
  if (decide (i < ((known).length : Int))) = true then
    idx known i >>= fun x1 =>
    if (x1.Name == t.Name) = true then
      idx known i >>= fun x2 =>
      some (x2.TypeV, true)
    else
      ref12_replace_l1 known t (IntKind.i64.wrap (i + 1))
  else
    some ((ApiType.mk 0 0 0 0 [] [] []), false)
  partial_fixpoint
theorem ref12_replace_l1_grp (known : List ApiDecl) (t : ApiType) : (∀ (i : Int) (res : ApiType × Bool), ref12_replace_l1 known t i = some res → ALoop (Fx.mk C 61 0) (lo (bk (sr (sl (ca (sr (sl (sr (bodyOf Tryd.f96))))))))) (mkEnv [(0, .d (.sl (ApiDecl.rows known))), (3, .ref 0 0), (4, .ref 1 0), (6, .d (.int .i64 i))]) [.row (ApiType.cells t) 27, .row [.d (.int .i64 0), .d (.int .i64 0), .d (.int .i64 0), .d (.int .i64 0), .d (.str []), .full (estr.rows []), .full (ApiType.rows [])] 27] (Am.InBlock 0 (Am.Then (Fx.mk C 61 0) (sr (ca (sr (sl (sr (bodyOf Tryd.f96)))))) (Am.Then (Fx.mk C 61 0) (sr (sr (bodyOf Tryd.f96))) (Am.Ends (Fx.mk C 61 0) Tryd.f96.results.toList (fun x H' => H' = [] ∧ x = .tup [.agg (ApiType.cells res.1), .d (.bool res.2)])))))) := by
  refine ref12_replace_l1.partial_correctness known
    t
    (fun i res => ALoop (Fx.mk C 61 0) (lo (bk (sr (sl (ca (sr (sl (sr (bodyOf Tryd.f96))))))))) (mkEnv [(0, .d (.sl (ApiDecl.rows known))), (3, .ref 0 0), (4, .ref 1 0), (6, .d (.int .i64 i))]) [.row (ApiType.cells t) 27, .row [.d (.int .i64 0), .d (.int .i64 0), .d (.int .i64 0), .d (.int .i64 0), .d (.str []), .full (estr.rows []), .full (ApiType.rows [])] 27] (Am.InBlock 0 (Am.Then (Fx.mk C 61 0) (sr (ca (sr (sl (sr (bodyOf Tryd.f96)))))) (Am.Then (Fx.mk C 61 0) (sr (sr (bodyOf Tryd.f96))) (Am.Ends (Fx.mk C 61 0) Tryd.f96.results.toList (fun x H' => H' = [] ∧ x = .tup [.agg (ApiType.cells res.1), .d (.bool res.2)])))))) ?_
  · intro g0 ih0 i res hh
    refine ALoop.unroll ?_
    refine AEx.seq ?_
    refine AEx.seq ?_
    refine AEx.regionN rfl rfl ?_
    iterate 2 refine AOps.q hC rfl trivial ?_
    refine AOps.qe hC rfl trivial (ApiDecl.lenA _) ?_
    refine AOps.q hC rfl trivial ?_
    refine AOps.nil ?_
    refine AEx.cond rfl (fun hb => ?_) (fun hb => ?_)
    · replace hh := if_t hb hh
      refine AEx.skip ?_
      refine AEx.seq ?_
      refine AEx.block ?_
      refine AEx.seq ?_
      refine AEx.draw hC 8 rfl rfl rfl ?_
      refine AQ.q hC rfl trivial ?_
      refine AQ.q hC rfl trivial ?_
      obtain ⟨x1, hx1, hh⟩ := bind_some hh
      refine AQ.i hC rfl (idx_nat hx1) (ApiDecl.idx hx1) rfl ?_
      refine AQ.q hC rfl trivial ?_
      refine AQ.q hC rfl trivial ?_
      refine AQ.q hC rfl trivial ?_
      refine AQ.q hC rfl trivial ?_
      refine AQ.q hC rfl trivial ?_
      refine AQ.nil ?_
      refine AOps.nil ?_
      refine AEx.cond rfl (fun hb => ?_) (fun hb => ?_)
      · replace hh := if_t hb hh
        refine AEx.seq ?_
        refine AEx.regionN rfl rfl ?_
        iterate 2 refine AOps.q hC rfl trivial ?_
        obtain ⟨x2, hx2, hh⟩ := bind_some hh
        refine AOps.i hC rfl (idx_nat hx2) (ApiDecl.idx hx2) rfl ?_
        iterate 2 refine AOps.q hC rfl trivial ?_
        refine AOps.s hC rfl ?_
        refine AOps.q hC rfl trivial ?_
        refine AOps.nil ?_
        refine AEx.ret ?_
        obtain rfl := Option.some.inj hh
        exact ⟨_, _, [], rfl, .rfl, trivial, rfl, rfl, rfl, rfl⟩
      · replace hh := if_f hb hh
        refine AEx.skip ?_
        refine AEx.regionN rfl rfl ?_
        iterate 3 refine AOps.q hC rfl trivial ?_
        refine AOps.nil ?_
        refine ALoop.wk ?_ (ih0 _ _ hh)
        exact ⟨⟨⟨.rfl, rfl⟩, ⟨⟨.rfl, rfl⟩, ⟨⟨.rfl, rfl⟩, ⟨⟨.rfl, rfl⟩, trivial⟩⟩⟩⟩, ⟨⟨rfl, .refl _, rfl⟩, ⟨⟨rfl, .refl _, rfl⟩, trivial⟩⟩, rfl⟩
    · replace hh := if_f hb hh
      refine AEx.exit ?_
      refine AEx.seq ?_
      refine AEx.regionN rfl rfl ?_
      refine AOps.q hC rfl trivial ?_
      refine AOps.s hC rfl ?_
      refine AOps.q hC rfl trivial ?_
      refine AOps.nil ?_
      refine AEx.ret ?_
      obtain rfl := Option.some.inj hh
      exact ⟨_, _, [], rfl, .rfl, trivial, rfl, rfl, rfl, rfl⟩
theorem ref12_replace_l1_ok {known : List ApiDecl} {t : ApiType} {i : Int} {res : ApiType × Bool} (hh : ref12_replace_l1 known t i = some res) : ALoop (Fx.mk C 61 0) (lo (bk (sr (sl (ca (sr (sl (sr (bodyOf Tryd.f96))))))))) (mkEnv [(0, .d (.sl (ApiDecl.rows known))), (3, .ref 0 0), (4, .ref 1 0), (6, .d (.int .i64 i))]) [.row (ApiType.cells t) 27, .row [.d (.int .i64 0), .d (.int .i64 0), .d (.int .i64 0), .d (.int .i64 0), .d (.str []), .full (estr.rows []), .full (ApiType.rows [])] 27] (Am.InBlock 0 (Am.Then (Fx.mk C 61 0) (sr (ca (sr (sl (sr (bodyOf Tryd.f96)))))) (Am.Then (Fx.mk C 61 0) (sr (sr (bodyOf Tryd.f96))) (Am.Ends (Fx.mk C 61 0) Tryd.f96.results.toList (fun x H' => H' = [] ∧ x = .tup [.agg (ApiType.cells res.1), .d (.bool res.2)]))))) := (ref12_replace_l1_grp known t) _ _ hh
mutual
def ref12_replace (known : List ApiDecl) (t : ApiType) : Option (ApiType × Bool) :=
  if (t.Kind == 4) = true then
    ref12_replace_l1 known t 0
  else
    ref12_replace_l2 known t [] 0
  partial_fixpoint
def ref12_replace_l2 (known : List ApiDecl) (t : ApiType) (of : List ApiType) (i1 : Int) : Option (ApiType × Bool) :=
  if (decide (i1 < ((t.Of).length : Int))) = true then
    idx t.Of i1 >>= fun x3 =>
    ref12_replace known x3 >>= fun x4 =>
    if (!x4.2) = true then
      some ((ApiType.mk 0 0 0 0 [] [] []), false)
    else
      if (decide ((of.length + 1) * 97 ≤ 140737488355328)) = true then
        ref12_replace_l2 known t (of ++ [x4.1]) (IntKind.i64.wrap (i1 + 1))
      else none
  else
    some ((ApiType.mk t.Kind t.Low t.High t.Size t.Name t.Names of), true)
  partial_fixpoint
end
theorem ref12_replace_grp (known : List ApiDecl) : (∀ (t : ApiType) (res : ApiType × Bool), ref12_replace known t = some res → ACall C 96 [.d (.sl (ApiDecl.rows known)), .agg (ApiType.cells t)] [] (fun x H' => H' = [] ∧ x = .tup [.agg (ApiType.cells res.1), .d (.bool res.2)])) ∧
    (∀ (t : ApiType) (of : List ApiType) (i1 : Int) (res : ApiType × Bool), ref12_replace_l2 known t of i1 = some res → ALoop (Fx.mk C 61 0) (lo (bk (sr (sl (sr (sr (sr (bodyOf Tryd.f96)))))))) (mkEnv [(0, .d (.sl (ApiDecl.rows known))), (3, .ref 0 0), (4, .ref 1 0), (7, .osl 2 (ApiType.rows of)), (8, .d (.int .i64 i1))]) [.row (ApiType.cells t) 27, .row [.d (.int .i64 0), .d (.int .i64 0), .d (.int .i64 0), .d (.int .i64 0), .d (.str []), .full (estr.rows []), .full (ApiType.rows [])] 27, .tok 27 7] (Am.InBlock 2 (Am.Then (Fx.mk C 61 0) (sr (sr (sr (sr (bodyOf Tryd.f96))))) (Am.Ends (Fx.mk C 61 0) Tryd.f96.results.toList (fun x H' => H' = [] ∧ x = .tup [.agg (ApiType.cells res.1), .d (.bool res.2)]))))) := by
  refine ref12_replace.mutual_partial_correctness known
    (fun t res => ACall C 96 [.d (.sl (ApiDecl.rows known)), .agg (ApiType.cells t)] [] (fun x H' => H' = [] ∧ x = .tup [.agg (ApiType.cells res.1), .d (.bool res.2)]))
    (fun t of i1 res => ALoop (Fx.mk C 61 0) (lo (bk (sr (sl (sr (sr (sr (bodyOf Tryd.f96)))))))) (mkEnv [(0, .d (.sl (ApiDecl.rows known))), (3, .ref 0 0), (4, .ref 1 0), (7, .osl 2 (ApiType.rows of)), (8, .d (.int .i64 i1))]) [.row (ApiType.cells t) 27, .row [.d (.int .i64 0), .d (.int .i64 0), .d (.int .i64 0), .d (.int .i64 0), .d (.str []), .full (estr.rows []), .full (ApiType.rows [])] 27, .tok 27 7] (Am.InBlock 2 (Am.Then (Fx.mk C 61 0) (sr (sr (sr (sr (bodyOf Tryd.f96))))) (Am.Ends (Fx.mk C 61 0) Tryd.f96.results.toList (fun x H' => H' = [] ∧ x = .tup [.agg (ApiType.cells res.1), .d (.bool res.2)]))))) ?_ ?_
  · intro g1 ih1 t res hh
    refine ACall.intro hC Tryd.func96 rfl rfl rfl ?_
    refine AEx.seq ?_
    refine AEx.regionN rfl rfl ?_
    refine AOps.n hC rfl ?_
    refine AOps.nf hC rfl ?_
    refine AOps.q hC rfl trivial ?_
    refine AOps.nil ?_
    refine AEx.seq ?_
    refine AEx.seq ?_
    refine AEx.regionN rfl rfl ?_
    iterate 3 refine AOps.q hC rfl trivial ?_
    refine AOps.nil ?_
    refine AEx.cond rfl (fun hb => ?_) (fun hb => ?_)
    · replace hh := if_t hb hh
      refine AEx.seq ?_
      refine AEx.seq ?_
      refine AEx.regionN rfl rfl ?_
      refine AOps.q hC rfl trivial ?_
      refine AOps.nil ?_
      refine AEx.block ?_
      refine AEx.ofLoop ?_
      refine ALoop.wk ?_ (ref12_replace_l1_ok hh)
      exact ⟨⟨⟨.rfl, rfl⟩, ⟨⟨.rfl, rfl⟩, ⟨⟨.rfl, rfl⟩, ⟨⟨.rfl, rfl⟩, trivial⟩⟩⟩⟩, ⟨⟨rfl, .refl _, rfl⟩, ⟨⟨rfl, .refl _, rfl⟩, trivial⟩⟩, rfl⟩
    · replace hh := if_f hb hh
      refine AEx.skip ?_
      refine AEx.seq ?_
      refine AEx.regionN rfl rfl ?_
      refine AOps.q hC rfl trivial ?_
      refine AOps.tokE 7 27 7 rfl ?_
      refine AOps.nil ?_
      refine AEx.seq ?_
      refine AEx.seq ?_
      refine AEx.regionN rfl rfl ?_
      refine AOps.q hC rfl trivial ?_
      refine AOps.nil ?_
      refine AEx.block ?_
      refine AEx.ofLoop ?_
      refine ALoop.wk ?_ (ih1 _ _ _ _ hh)
      exact ⟨⟨⟨.rfl, rfl⟩, ⟨⟨.rfl, rfl⟩, ⟨⟨.rfl, rfl⟩, ⟨⟨.rfl, rfl⟩, ⟨⟨.rfl, rfl⟩, trivial⟩⟩⟩⟩⟩, ⟨⟨rfl, .refl _, rfl⟩, ⟨⟨rfl, .refl _, rfl⟩, ⟨rfl, trivial⟩⟩⟩, rfl⟩
  · intro g0 g1 ih0 ih1 t of i1 res hh
    refine ALoop.unroll ?_
    refine AEx.seq ?_
    refine AEx.seq ?_
    refine AEx.regionN rfl rfl ?_
    iterate 3 refine AOps.q hC rfl trivial ?_
    refine AOps.qe hC rfl trivial (ApiType.lenA _) ?_
    refine AOps.q hC rfl trivial ?_
    refine AOps.nil ?_
    refine AEx.cond rfl (fun hb => ?_) (fun hb => ?_)
    · replace hh := if_t hb hh
      refine AEx.skip ?_
      refine AEx.seq ?_
      refine AEx.block ?_
      refine AEx.seq ?_
      refine AEx.regionN rfl rfl ?_
      iterate 4 refine AOps.q hC rfl trivial ?_
      obtain ⟨x3, hx3, hh⟩ := bind_some hh
      refine AOps.i hC rfl (idx_nat hx3) (ApiType.idx hx3) rfl ?_
      refine AOps.q hC rfl trivial ?_
      obtain ⟨x4, hx4, hh⟩ := bind_some hh
      refine AOps.c rfl rfl (ih0 _ _ hx4) ?_
      iterate 3 refine AOps.q hC rfl trivial ?_
      refine AOps.nf hC rfl ?_
      refine AOps.s hC rfl ?_
      refine AOps.q hC rfl trivial ?_
      refine AOps.nil ?_
      refine AEx.seq ?_
      refine AEx.seq ?_
      refine AEx.regionN rfl rfl ?_
      iterate 2 refine AOps.q hC rfl trivial ?_
      refine AOps.nil ?_
      refine AEx.cond rfl (fun hb => ?_) (fun hb => ?_)
      · replace hh := if_t hb hh
        refine AEx.seq ?_
        refine AEx.regionN rfl rfl ?_
        refine AOps.q hC rfl trivial ?_
        refine AOps.s hC rfl ?_
        refine AOps.q hC rfl trivial ?_
        refine AOps.nil ?_
        refine AEx.ret ?_
        obtain rfl := Option.some.inj hh
        exact ⟨_, _, [], rfl, .rfl, trivial, rfl, rfl, rfl, rfl⟩
      · replace hh := if_f hb hh
        refine AEx.skip ?_
        refine AEx.regionN rfl rfl ?_
        iterate 2 refine AOps.q hC rfl trivial ?_
        refine AOps.be hC rfl (ApiType.rows_map [x4.1]).symm ?_
        obtain ⟨c4, hh⟩ := asrt_some hh
        refine AOps.ap hC rfl (rs := ApiType.rows (of ++ [x4.1])) (ApiType.app of [x4.1]) (ApiType.sz of) (ApiType.sz [x4.1]) (room_of (ApiType.len of) (ApiType.len [x4.1]) c4) ?_
        refine AOps.q hC rfl trivial ?_
        refine AOps.nil ?_
        refine AEx.regionN rfl rfl ?_
        iterate 3 refine AOps.q hC rfl trivial ?_
        refine AOps.nil ?_
        refine ALoop.wk ?_ (ih1 _ _ _ _ hh)
        exact ⟨⟨⟨.rfl, rfl⟩, ⟨⟨.rfl, rfl⟩, ⟨⟨.rfl, rfl⟩, ⟨⟨.rfl, rfl⟩, ⟨⟨.rfl, rfl⟩, trivial⟩⟩⟩⟩⟩, ⟨⟨rfl, .refl _, rfl⟩, ⟨⟨rfl, .refl _, rfl⟩, ⟨rfl, trivial⟩⟩⟩, rfl⟩
    · replace hh := if_f hb hh
      refine AEx.exit ?_
      refine AEx.seq ?_
      refine AEx.regionN rfl rfl ?_
      iterate 2 refine AOps.q hC rfl trivial ?_
      refine AOps.s hC rfl ?_
      refine AOps.nil ?_
      refine AEx.seq ?_
      refine AEx.regionN rfl rfl ?_
      refine AOps.q hC rfl trivial ?_
      refine AOps.s hC rfl ?_
      refine AOps.q hC rfl trivial ?_
      refine AOps.nil ?_
      refine AEx.ret ?_
      obtain rfl := Option.some.inj hh
      exact ⟨_, .tup [.agg [.d (.int .i64 t.Kind), .d (.int .i64 t.Low), .d (.int .i64 t.High), .d (.int .i64 t.Size), .d (.str t.Name), .d (.sl (estr.rows t.Names)), .d (.sl (ApiType.rows of))], .d (.bool true)], [], rfl, (.tupL ⟨(.aggL ⟨.rfl, ⟨.rfl, ⟨.rfl, ⟨.rfl, ⟨.rfl, ⟨.rfl, ⟨.osl, trivial⟩⟩⟩⟩⟩⟩⟩), ⟨.rfl, trivial⟩⟩), trivial, rfl, rfl, rfl, rfl⟩
theorem ref12_replace_ok {known : List ApiDecl} {t : ApiType} {res : ApiType × Bool} (hh : ref12_replace known t = some res) : ACall C 96 [.d (.sl (ApiDecl.rows known)), .agg (ApiType.cells t)] [] (fun x H' => H' = [] ∧ x = .tup [.agg (ApiType.cells res.1), .d (.bool res.2)]) := (ref12_replace_grp known).1 _ _ hh
theorem ref12_replace_l2_ok {known : List ApiDecl} {t : ApiType} {of : List ApiType} {i1 : Int} {res : ApiType × Bool} (hh : ref12_replace_l2 known t of i1 = some res) : ALoop (Fx.mk C 61 0) (lo (bk (sr (sl (sr (sr (sr (bodyOf Tryd.f96)))))))) (mkEnv [(0, .d (.sl (ApiDecl.rows known))), (3, .ref 0 0), (4, .ref 1 0), (7, .osl 2 (ApiType.rows of)), (8, .d (.int .i64 i1))]) [.row (ApiType.cells t) 27, .row [.d (.int .i64 0), .d (.int .i64 0), .d (.int .i64 0), .d (.int .i64 0), .d (.str []), .full (estr.rows []), .full (ApiType.rows [])] 27, .tok 27 7] (Am.InBlock 2 (Am.Then (Fx.mk C 61 0) (sr (sr (sr (sr (bodyOf Tryd.f96))))) (Am.Ends (Fx.mk C 61 0) Tryd.f96.results.toList (fun x H' => H' = [] ∧ x = .tup [.agg (ApiType.cells res.1), .d (.bool res.2)])))) := (ref12_replace_grp known).2 _ _ _ _ hh
mutual
def ref12_doubled (t : ApiType) : Option Bool :=
  if (t.Kind == 3) = true then
    ref12_doubled_l1 t 0
  else
    ref12_doubled_j2 t
  partial_fixpoint
def ref12_doubled_j2 (t : ApiType) : Option Bool :=
  ref12_doubled_l4 t 0
  partial_fixpoint
def ref12_doubled_l4 (t : ApiType) (i2 : Int) : Option Bool :=
  if (decide (i2 < ((t.Of).length : Int))) = true then
    idx t.Of i2 >>= fun x3 =>
    ref12_doubled x3 >>= fun x4 =>
    if x4 = true then
      some true
    else
      ref12_doubled_l4 t (IntKind.i64.wrap (i2 + 1))
  else
    some false
  partial_fixpoint
def ref12_doubled_l1 (t : ApiType) (i : Int) : Option Bool :=
  if (decide (i < ((t.Names).length : Int))) = true then
    ref12_doubled_l3 t i 0
  else
    ref12_doubled_j2 t
  partial_fixpoint
def ref12_doubled_l3 (t : ApiType) (i1 : Int) (k : Int) : Option Bool :=
  if (decide (k < i1)) = true then
    idx t.Names i1 >>= fun x1 =>
    idx t.Names k >>= fun x2 =>
    if (x1 == x2) = true then
      some true
    else
      ref12_doubled_l3 t i1 (IntKind.i64.wrap (k + 1))
  else
    ref12_doubled_l1 t (IntKind.i64.wrap (i1 + 1))
  partial_fixpoint
end
theorem ref12_doubled_grp : (∀ (t : ApiType) (res : Bool), ref12_doubled t = some res → ACall C 62 [.agg (ApiType.cells t)] [] (fun x H' => H' = [] ∧ x = .d (.bool res))) ∧
    (∀ (t : ApiType) (res : Bool), ref12_doubled_j2 t = some res → AEx (Fx.mk C 45 0) (sr (sr (bodyOf Tryd.f62))) (mkEnv [(1, .ref 0 0)]) [.row (ApiType.cells t) 27] (Am.Ends (Fx.mk C 45 0) Tryd.f62.results.toList (fun x H' => H' = [] ∧ x = .d (.bool res)))) ∧
    (∀ (t : ApiType) (i2 : Int) (res : Bool), ref12_doubled_l4 t i2 = some res → ALoop (Fx.mk C 45 0) (lo (bk (sr (sl (sr (sr (bodyOf Tryd.f62))))))) (mkEnv [(1, .ref 0 0), (5, .d (.int .i64 i2))]) [.row (ApiType.cells t) 27] (Am.InBlock 4 (Am.Then (Fx.mk C 45 0) (sr (sr (sr (bodyOf Tryd.f62)))) (Am.Ends (Fx.mk C 45 0) Tryd.f62.results.toList (fun x H' => H' = [] ∧ x = .d (.bool res)))))) ∧
    (∀ (t : ApiType) (i : Int) (res : Bool), ref12_doubled_l1 t i = some res → ALoop (Fx.mk C 45 0) (lo (bk (sr (ca (sr (sl (sr (bodyOf Tryd.f62)))))))) (mkEnv [(1, .ref 0 0), (3, .d (.int .i64 i))]) [.row (ApiType.cells t) 27] (Am.InBlock 0 (Am.Then (Fx.mk C 45 0) (sr (sr (bodyOf Tryd.f62))) (Am.Ends (Fx.mk C 45 0) Tryd.f62.results.toList (fun x H' => H' = [] ∧ x = .d (.bool res)))))) ∧
    (∀ (t : ApiType) (i1 : Int) (k : Int) (res : Bool), ref12_doubled_l3 t i1 k = some res → ALoop (Fx.mk C 45 0) (lo (bk (sr (bk (sl (sr (lo (bk (sr (ca (sr (sl (sr (bodyOf Tryd.f62)))))))))))))) (mkEnv [(1, .ref 0 0), (3, .d (.int .i64 i1)), (4, .d (.int .i64 k))]) [.row (ApiType.cells t) 27] (Am.InBlock 2 (Am.InBlock 1 (Am.Then (Fx.mk C 45 0) (sr (sr (lo (bk (sr (ca (sr (sl (sr (bodyOf Tryd.f62)))))))))) (Am.Again (Fx.mk C 45 0) (lo (bk (sr (ca (sr (sl (sr (bodyOf Tryd.f62)))))))) (Am.InBlock 0 (Am.Then (Fx.mk C 45 0) (sr (sr (bodyOf Tryd.f62))) (Am.Ends (Fx.mk C 45 0) Tryd.f62.results.toList (fun x H' => H' = [] ∧ x = .d (.bool res)))))))))) := by
  refine ref12_doubled.mutual_partial_correctness (fun t res => ACall C 62 [.agg (ApiType.cells t)] [] (fun x H' => H' = [] ∧ x = .d (.bool res)))
    (fun t res => AEx (Fx.mk C 45 0) (sr (sr (bodyOf Tryd.f62))) (mkEnv [(1, .ref 0 0)]) [.row (ApiType.cells t) 27] (Am.Ends (Fx.mk C 45 0) Tryd.f62.results.toList (fun x H' => H' = [] ∧ x = .d (.bool res))))
    (fun t i2 res => ALoop (Fx.mk C 45 0) (lo (bk (sr (sl (sr (sr (bodyOf Tryd.f62))))))) (mkEnv [(1, .ref 0 0), (5, .d (.int .i64 i2))]) [.row (ApiType.cells t) 27] (Am.InBlock 4 (Am.Then (Fx.mk C 45 0) (sr (sr (sr (bodyOf Tryd.f62)))) (Am.Ends (Fx.mk C 45 0) Tryd.f62.results.toList (fun x H' => H' = [] ∧ x = .d (.bool res))))))
    (fun t i res => ALoop (Fx.mk C 45 0) (lo (bk (sr (ca (sr (sl (sr (bodyOf Tryd.f62)))))))) (mkEnv [(1, .ref 0 0), (3, .d (.int .i64 i))]) [.row (ApiType.cells t) 27] (Am.InBlock 0 (Am.Then (Fx.mk C 45 0) (sr (sr (bodyOf Tryd.f62))) (Am.Ends (Fx.mk C 45 0) Tryd.f62.results.toList (fun x H' => H' = [] ∧ x = .d (.bool res))))))
    (fun t i1 k res => ALoop (Fx.mk C 45 0) (lo (bk (sr (bk (sl (sr (lo (bk (sr (ca (sr (sl (sr (bodyOf Tryd.f62)))))))))))))) (mkEnv [(1, .ref 0 0), (3, .d (.int .i64 i1)), (4, .d (.int .i64 k))]) [.row (ApiType.cells t) 27] (Am.InBlock 2 (Am.InBlock 1 (Am.Then (Fx.mk C 45 0) (sr (sr (lo (bk (sr (ca (sr (sl (sr (bodyOf Tryd.f62)))))))))) (Am.Again (Fx.mk C 45 0) (lo (bk (sr (ca (sr (sl (sr (bodyOf Tryd.f62)))))))) (Am.InBlock 0 (Am.Then (Fx.mk C 45 0) (sr (sr (bodyOf Tryd.f62))) (Am.Ends (Fx.mk C 45 0) Tryd.f62.results.toList (fun x H' => H' = [] ∧ x = .d (.bool res)))))))))) ?_ ?_ ?_ ?_ ?_
  · intro g1 g3 ih1 ih3 t res hh
    refine ACall.intro hC Tryd.func62 rfl rfl rfl ?_
    refine AEx.seq ?_
    refine AEx.regionN rfl rfl ?_
    refine AOps.n hC rfl ?_
    refine AOps.q hC rfl trivial ?_
    refine AOps.nil ?_
    refine AEx.seq ?_
    refine AEx.seq ?_
    refine AEx.regionN rfl rfl ?_
    iterate 3 refine AOps.q hC rfl trivial ?_
    refine AOps.nil ?_
    refine AEx.cond rfl (fun hb => ?_) (fun hb => ?_)
    · replace hh := if_t hb hh
      refine AEx.seq ?_
      refine AEx.regionN rfl rfl ?_
      refine AOps.q hC rfl trivial ?_
      refine AOps.nil ?_
      refine AEx.block ?_
      refine AEx.ofLoop ?_
      refine ALoop.wk ?_ (ih3 _ _ _ hh)
      exact ⟨⟨⟨.rfl, rfl⟩, ⟨⟨.rfl, rfl⟩, trivial⟩⟩, ⟨⟨rfl, .refl _, rfl⟩, trivial⟩, rfl⟩
    · replace hh := if_f hb hh
      refine AEx.skip ?_
      refine AEx.wk ?_ (ih1 _ _ hh)
      exact ⟨⟨⟨.rfl, rfl⟩, trivial⟩, ⟨⟨rfl, .refl _, rfl⟩, trivial⟩, rfl⟩
  · intro g2 ih2 t res hh
    refine AEx.seq ?_
    refine AEx.seq ?_
    refine AEx.regionN rfl rfl ?_
    refine AOps.q hC rfl trivial ?_
    refine AOps.nil ?_
    refine AEx.block ?_
    refine AEx.ofLoop ?_
    refine ALoop.wk ?_ (ih2 _ _ _ hh)
    exact ⟨⟨⟨.rfl, rfl⟩, ⟨⟨.rfl, rfl⟩, trivial⟩⟩, ⟨⟨rfl, .refl _, rfl⟩, trivial⟩, rfl⟩
  · intro g0 g2 ih0 ih2 t i2 res hh
    refine ALoop.unroll ?_
    refine AEx.seq ?_
    refine AEx.seq ?_
    refine AEx.regionN rfl rfl ?_
    iterate 3 refine AOps.q hC rfl trivial ?_
    refine AOps.qe hC rfl trivial (ApiType.lenA _) ?_
    refine AOps.q hC rfl trivial ?_
    refine AOps.nil ?_
    refine AEx.cond rfl (fun hb => ?_) (fun hb => ?_)
    · replace hh := if_t hb hh
      refine AEx.skip ?_
      refine AEx.seq ?_
      refine AEx.block ?_
      refine AEx.seq ?_
      refine AEx.regionN rfl rfl ?_
      iterate 3 refine AOps.q hC rfl trivial ?_
      obtain ⟨x3, hx3, hh⟩ := bind_some hh
      refine AOps.i hC rfl (idx_nat hx3) (ApiType.idx hx3) rfl ?_
      refine AOps.q hC rfl trivial ?_
      obtain ⟨x4, hx4, hh⟩ := bind_some hh
      refine AOps.c rfl rfl (ih0 _ _ hx4) ?_
      refine AOps.nil ?_
      refine AEx.cond rfl (fun hb => ?_) (fun hb => ?_)
      · replace hh := if_t hb hh
        refine AEx.seq ?_
        refine AEx.regionN rfl rfl ?_
        refine AOps.q hC rfl trivial ?_
        refine AOps.nil ?_
        refine AEx.ret ?_
        obtain rfl := Option.some.inj hh
        exact ⟨_, _, [], rfl, .rfl, trivial, rfl, rfl, rfl, rfl⟩
      · replace hh := if_f hb hh
        refine AEx.skip ?_
        refine AEx.regionN rfl rfl ?_
        iterate 3 refine AOps.q hC rfl trivial ?_
        refine AOps.nil ?_
        refine ALoop.wk ?_ (ih2 _ _ _ hh)
        exact ⟨⟨⟨.rfl, rfl⟩, ⟨⟨.rfl, rfl⟩, trivial⟩⟩, ⟨⟨rfl, .refl _, rfl⟩, trivial⟩, rfl⟩
    · replace hh := if_f hb hh
      refine AEx.exit ?_
      refine AEx.seq ?_
      refine AEx.regionN rfl rfl ?_
      refine AOps.q hC rfl trivial ?_
      refine AOps.nil ?_
      refine AEx.ret ?_
      obtain rfl := Option.some.inj hh
      exact ⟨_, _, [], rfl, .rfl, trivial, rfl, rfl, rfl, rfl⟩
  · intro g1 g4 ih1 ih4 t i res hh
    refine ALoop.unroll ?_
    refine AEx.seq ?_
    refine AEx.seq ?_
    refine AEx.regionN rfl rfl ?_
    iterate 3 refine AOps.q hC rfl trivial ?_
    refine AOps.qe hC rfl trivial (estr.lenA _) ?_
    refine AOps.q hC rfl trivial ?_
    refine AOps.nil ?_
    refine AEx.cond rfl (fun hb => ?_) (fun hb => ?_)
    · replace hh := if_t hb hh
      refine AEx.skip ?_
      refine AEx.seq ?_
      refine AEx.block ?_
      refine AEx.seq ?_
      refine AEx.regionN rfl rfl ?_
      refine AOps.q hC rfl trivial ?_
      refine AOps.nil ?_
      refine AEx.block ?_
      refine AEx.ofLoop ?_
      refine ALoop.wk ?_ (ih4 _ _ _ _ hh)
      exact ⟨⟨⟨.rfl, rfl⟩, ⟨⟨.rfl, rfl⟩, ⟨⟨.rfl, rfl⟩, trivial⟩⟩⟩, ⟨⟨rfl, .refl _, rfl⟩, trivial⟩, rfl⟩
    · replace hh := if_f hb hh
      refine AEx.exit ?_
      refine AEx.wk ?_ (ih1 _ _ hh)
      exact ⟨⟨⟨.rfl, rfl⟩, trivial⟩, ⟨⟨rfl, .refl _, rfl⟩, trivial⟩, rfl⟩
  · intro g3 g4 ih3 ih4 t i1 k res hh
    refine ALoop.unroll ?_
    refine AEx.seq ?_
    refine AEx.seq ?_
    refine AEx.regionN rfl rfl ?_
    iterate 3 refine AOps.q hC rfl trivial ?_
    refine AOps.nil ?_
    refine AEx.cond rfl (fun hb => ?_) (fun hb => ?_)
    · replace hh := if_t hb hh
      refine AEx.skip ?_
      refine AEx.seq ?_
      refine AEx.block ?_
      refine AEx.seq ?_
      refine AEx.draw hC 11 rfl rfl rfl ?_
      refine AQ.q hC rfl trivial ?_
      refine AQ.q hC rfl trivial ?_
      refine AQ.q hC rfl trivial ?_
      obtain ⟨x1, hx1, hh⟩ := bind_some hh
      refine AQ.i hC rfl (idx_nat hx1) (estr.idx hx1) rfl ?_
      refine AQ.q hC rfl trivial ?_
      refine AQ.q hC rfl trivial ?_
      refine AQ.q hC rfl trivial ?_
      refine AQ.q hC rfl trivial ?_
      obtain ⟨x2, hx2, hh⟩ := bind_some hh
      refine AQ.i hC rfl (idx_nat hx2) (estr.idx hx2) rfl ?_
      refine AQ.q hC rfl trivial ?_
      refine AQ.q hC rfl trivial ?_
      refine AQ.nil ?_
      refine AOps.nil ?_
      refine AEx.cond rfl (fun hb => ?_) (fun hb => ?_)
      · replace hh := if_t hb hh
        refine AEx.seq ?_
        refine AEx.regionN rfl rfl ?_
        refine AOps.q hC rfl trivial ?_
        refine AOps.nil ?_
        refine AEx.ret ?_
        obtain rfl := Option.some.inj hh
        exact ⟨_, _, [], rfl, .rfl, trivial, rfl, rfl, rfl, rfl⟩
      · replace hh := if_f hb hh
        refine AEx.skip ?_
        refine AEx.regionN rfl rfl ?_
        iterate 3 refine AOps.q hC rfl trivial ?_
        refine AOps.nil ?_
        refine ALoop.wk ?_ (ih4 _ _ _ _ hh)
        exact ⟨⟨⟨.rfl, rfl⟩, ⟨⟨.rfl, rfl⟩, ⟨⟨.rfl, rfl⟩, trivial⟩⟩⟩, ⟨⟨rfl, .refl _, rfl⟩, trivial⟩, rfl⟩
    · replace hh := if_f hb hh
      refine AEx.exit ?_
      refine AEx.regionN rfl rfl ?_
      iterate 3 refine AOps.q hC rfl trivial ?_
      refine AOps.nil ?_
      refine ALoop.wk ?_ (ih3 _ _ _ hh)
      exact ⟨⟨⟨.rfl, rfl⟩, ⟨⟨.rfl, rfl⟩, trivial⟩⟩, ⟨⟨rfl, .refl _, rfl⟩, trivial⟩, rfl⟩
theorem ref12_doubled_ok {t : ApiType} {res : Bool} (hh : ref12_doubled t = some res) : ACall C 62 [.agg (ApiType.cells t)] [] (fun x H' => H' = [] ∧ x = .d (.bool res)) := (ref12_doubled_grp).1 _ _ hh
theorem ref12_doubled_j2_ok {t : ApiType} {res : Bool} (hh : ref12_doubled_j2 t = some res) : AEx (Fx.mk C 45 0) (sr (sr (bodyOf Tryd.f62))) (mkEnv [(1, .ref 0 0)]) [.row (ApiType.cells t) 27] (Am.Ends (Fx.mk C 45 0) Tryd.f62.results.toList (fun x H' => H' = [] ∧ x = .d (.bool res))) := (ref12_doubled_grp).2.1 _ _ hh
theorem ref12_doubled_l4_ok {t : ApiType} {i2 : Int} {res : Bool} (hh : ref12_doubled_l4 t i2 = some res) : ALoop (Fx.mk C 45 0) (lo (bk (sr (sl (sr (sr (bodyOf Tryd.f62))))))) (mkEnv [(1, .ref 0 0), (5, .d (.int .i64 i2))]) [.row (ApiType.cells t) 27] (Am.InBlock 4 (Am.Then (Fx.mk C 45 0) (sr (sr (sr (bodyOf Tryd.f62)))) (Am.Ends (Fx.mk C 45 0) Tryd.f62.results.toList (fun x H' => H' = [] ∧ x = .d (.bool res))))) := (ref12_doubled_grp).2.2.1 _ _ _ hh
theorem ref12_doubled_l1_ok {t : ApiType} {i : Int} {res : Bool} (hh : ref12_doubled_l1 t i = some res) : ALoop (Fx.mk C 45 0) (lo (bk (sr (ca (sr (sl (sr (bodyOf Tryd.f62)))))))) (mkEnv [(1, .ref 0 0), (3, .d (.int .i64 i))]) [.row (ApiType.cells t) 27] (Am.InBlock 0 (Am.Then (Fx.mk C 45 0) (sr (sr (bodyOf Tryd.f62))) (Am.Ends (Fx.mk C 45 0) Tryd.f62.results.toList (fun x H' => H' = [] ∧ x = .d (.bool res))))) := (ref12_doubled_grp).2.2.2.1 _ _ _ hh
theorem ref12_doubled_l3_ok {t : ApiType} {i1 : Int} {k : Int} {res : Bool} (hh : ref12_doubled_l3 t i1 k = some res) : ALoop (Fx.mk C 45 0) (lo (bk (sr (bk (sl (sr (lo (bk (sr (ca (sr (sl (sr (bodyOf Tryd.f62)))))))))))))) (mkEnv [(1, .ref 0 0), (3, .d (.int .i64 i1)), (4, .d (.int .i64 k))]) [.row (ApiType.cells t) 27] (Am.InBlock 2 (Am.InBlock 1 (Am.Then (Fx.mk C 45 0) (sr (sr (lo (bk (sr (ca (sr (sl (sr (bodyOf Tryd.f62)))))))))) (Am.Again (Fx.mk C 45 0) (lo (bk (sr (ca (sr (sl (sr (bodyOf Tryd.f62)))))))) (Am.InBlock 0 (Am.Then (Fx.mk C 45 0) (sr (sr (bodyOf Tryd.f62))) (Am.Ends (Fx.mk C 45 0) Tryd.f62.results.toList (fun x H' => H' = [] ∧ x = .d (.bool res))))))))) := (ref12_doubled_grp).2.2.2.2 _ _ _ _ hh
end Go.Proofs.YtonilfkaecbjnaaDoor
