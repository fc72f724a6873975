/- What the functions compute, and that they do: printed by gen.py. -/
import Derived.Test.YtonilfkaecbjnaaDoorDg3
set_option maxRecDepth 100000
set_option maxHeartbeats 4000000
set_option linter.unusedVariables false
namespace Go.Proofs.YtonilfkaecbjnaaDoor
open Go.Am
def ref10_zeroType (t : ApiType) : Option Bool :=
  ref10_EqualType t (ApiType.mk 0 0 0 0 [] [] []) >>= fun x1 =>
  some x1
theorem ref10_zeroType_ok {t : ApiType} {res : Bool} (hh : ref10_zeroType t = some res) : ACall C 136 [.agg (ApiType.cells t)] [] (fun x H' => H' = [] ∧ x = .d (.bool res)) := by
  unfold ref10_zeroType at hh
  refine ACall.intro hC Tryd.func136 rfl rfl rfl ?_
  refine AEx.seq ?_
  refine AEx.regionN rfl rfl ?_
  refine AOps.n hC rfl ?_
  refine AOps.q hC rfl trivial ?_
  refine AOps.nil ?_
  refine AEx.seq ?_
  refine AEx.regionN rfl rfl ?_
  iterate 2 refine AOps.q hC rfl trivial ?_
  obtain ⟨x1, hx1, hh⟩ := bind_some hh
  refine AOps.c rfl rfl (ref10_EqualType_ok hx1) ?_
  refine AOps.q hC rfl trivial ?_
  refine AOps.nil ?_
  refine AEx.ret ?_
  obtain rfl := Option.some.inj hh
  exact ⟨_, _, [], rfl, .rfl, trivial, rfl, rfl, rfl, rfl⟩
mutual
def ref10_typeNodes (t : ApiType) : Option Int :=
  ref10_typeNodes_l1 t 1 0
  partial_fixpoint
def ref10_typeNodes_l1 (t : ApiType) (n : Int) (i : Int) : Option Int :=
  if (decide (i < ((t.Of).length : Int))) = true then
    idx t.Of i >>= fun x1 =>
    ref10_typeNodes x1 >>= fun x2 =>
    ref10_typeNodes_l1 t (IntKind.i64.wrap (n + x2)) (IntKind.i64.wrap (i + 1))
  else
    some n
  partial_fixpoint
end
theorem ref10_typeNodes_grp : (∀ (t : ApiType) (res : Int), ref10_typeNodes t = some res → ACall C 137 [.agg (ApiType.cells t)] [] (fun x H' => H' = [] ∧ x = .d (.int .i64 res))) ∧
    (∀ (t : ApiType) (n : Int) (i : Int) (res : Int), ref10_typeNodes_l1 t n i = some res → ALoop (Fx.mk C 21 0) (lo (bk (sr (sl (sr (sr (bodyOf Tryd.f137))))))) (mkEnv [(1, .ref 0 0), (3, .d (.int .i64 n)), (4, .d (.int .i64 i))]) [.row (ApiType.cells t) 27] (Am.InBlock 0 (Am.Then (Fx.mk C 21 0) (sr (sr (sr (bodyOf Tryd.f137)))) (Am.Ends (Fx.mk C 21 0) Tryd.f137.results.toList (fun x H' => H' = [] ∧ x = .d (.int .i64 res)))))) := by
  refine ref10_typeNodes.mutual_partial_correctness (fun t res => ACall C 137 [.agg (ApiType.cells t)] [] (fun x H' => H' = [] ∧ x = .d (.int .i64 res)))
    (fun t n i res => ALoop (Fx.mk C 21 0) (lo (bk (sr (sl (sr (sr (bodyOf Tryd.f137))))))) (mkEnv [(1, .ref 0 0), (3, .d (.int .i64 n)), (4, .d (.int .i64 i))]) [.row (ApiType.cells t) 27] (Am.InBlock 0 (Am.Then (Fx.mk C 21 0) (sr (sr (sr (bodyOf Tryd.f137)))) (Am.Ends (Fx.mk C 21 0) Tryd.f137.results.toList (fun x H' => H' = [] ∧ x = .d (.int .i64 res)))))) ?_ ?_
  · intro g1 ih1 t res hh
    refine ACall.intro hC Tryd.func137 rfl rfl rfl ?_
    refine AEx.seq ?_
    refine AEx.regionN rfl rfl ?_
    refine AOps.n hC rfl ?_
    refine AOps.q hC rfl trivial ?_
    refine AOps.nil ?_
    refine AEx.seq ?_
    refine AEx.regionN rfl rfl ?_
    refine AOps.q hC rfl trivial ?_
    refine AOps.nil ?_
    refine AEx.seq ?_
    refine AEx.seq ?_
    refine AEx.regionN rfl rfl ?_
    refine AOps.q hC rfl trivial ?_
    refine AOps.nil ?_
    refine AEx.block ?_
    refine AEx.ofLoop ?_
    refine ALoop.wk ?_ (ih1 _ _ _ _ hh)
    exact ⟨⟨⟨.rfl, rfl⟩, ⟨⟨.rfl, rfl⟩, ⟨⟨.rfl, rfl⟩, trivial⟩⟩⟩, ⟨⟨rfl, .refl _, rfl⟩, trivial⟩, rfl⟩
  · intro g0 g1 ih0 ih1 t n i res hh
    refine ALoop.unroll ?_
    refine AEx.seq ?_
    refine AEx.seq ?_
    refine AEx.regionN rfl rfl ?_
    iterate 3 refine AOps.q hC rfl trivial ?_
    refine AOps.qe hC rfl trivial (ApiType.lenA _) ?_
    refine AOps.q hC rfl trivial ?_
    refine AOps.nil ?_
    refine AEx.cond rfl (fun hb => ?_) (fun hb => ?_)
    · replace hh := if_t hb hh
      refine AEx.skip ?_
      refine AEx.seq ?_
      refine AEx.block ?_
      refine AEx.regionN rfl rfl ?_
      iterate 4 refine AOps.q hC rfl trivial ?_
      obtain ⟨x1, hx1, hh⟩ := bind_some hh
      refine AOps.i hC rfl (idx_nat hx1) (ApiType.idx hx1) rfl ?_
      refine AOps.q hC rfl trivial ?_
      obtain ⟨x2, hx2, hh⟩ := bind_some hh
      refine AOps.c rfl rfl (ih0 _ _ hx2) ?_
      iterate 2 refine AOps.q hC rfl trivial ?_
      refine AOps.nil ?_
      refine AEx.regionN rfl rfl ?_
      iterate 3 refine AOps.q hC rfl trivial ?_
      refine AOps.nil ?_
      refine ALoop.wk ?_ (ih1 _ _ _ _ hh)
      exact ⟨⟨⟨.rfl, rfl⟩, ⟨⟨.rfl, rfl⟩, ⟨⟨.rfl, rfl⟩, trivial⟩⟩⟩, ⟨⟨rfl, .refl _, rfl⟩, trivial⟩, rfl⟩
    · replace hh := if_f hb hh
      refine AEx.exit ?_
      refine AEx.seq ?_
      refine AEx.regionN rfl rfl ?_
      iterate 2 refine AOps.q hC rfl trivial ?_
      refine AOps.nil ?_
      refine AEx.ret ?_
      obtain rfl := Option.some.inj hh
      exact ⟨_, _, [], rfl, .rfl, trivial, rfl, rfl, rfl, rfl⟩
theorem ref10_typeNodes_ok {t : ApiType} {res : Int} (hh : ref10_typeNodes t = some res) : ACall C 137 [.agg (ApiType.cells t)] [] (fun x H' => H' = [] ∧ x = .d (.int .i64 res)) := (ref10_typeNodes_grp).1 _ _ hh
theorem ref10_typeNodes_l1_ok {t : ApiType} {n : Int} {i : Int} {res : Int} (hh : ref10_typeNodes_l1 t n i = some res) : ALoop (Fx.mk C 21 0) (lo (bk (sr (sl (sr (sr (bodyOf Tryd.f137))))))) (mkEnv [(1, .ref 0 0), (3, .d (.int .i64 n)), (4, .d (.int .i64 i))]) [.row (ApiType.cells t) 27] (Am.InBlock 0 (Am.Then (Fx.mk C 21 0) (sr (sr (sr (bodyOf Tryd.f137)))) (Am.Ends (Fx.mk C 21 0) Tryd.f137.results.toList (fun x H' => H' = [] ∧ x = .d (.int .i64 res))))) := (ref10_typeNodes_grp).2 _ _ _ _ hh
mutual
def ref10_typeDepth (t : ApiType) : Option Int :=
  ref10_typeDepth_l1 t 0 0
  partial_fixpoint
def ref10_typeDepth_l1 (t : ApiType) (d : Int) (i : Int) : Option Int :=
  if (decide (i < ((t.Of).length : Int))) = true then
    idx t.Of i >>= fun x1 =>
    ref10_typeDepth x1 >>= fun x2 =>
    if (decide (x2 > d)) = true then
      ref10_typeDepth_l1 t x2 (IntKind.i64.wrap (i + 1))
    else
      ref10_typeDepth_l1 t d (IntKind.i64.wrap (i + 1))
  else
    some (IntKind.i64.wrap (d + 1))
  partial_fixpoint
end
theorem ref10_typeDepth_grp : (∀ (t : ApiType) (res : Int), ref10_typeDepth t = some res → ACall C 139 [.agg (ApiType.cells t)] [] (fun x H' => H' = [] ∧ x = .d (.int .i64 res))) ∧
    (∀ (t : ApiType) (d : Int) (i : Int) (res : Int), ref10_typeDepth_l1 t d i = some res → ALoop (Fx.mk C 25 0) (lo (bk (sr (sl (sr (sr (bodyOf Tryd.f139))))))) (mkEnv [(1, .ref 0 0), (3, .d (.int .i64 d)), (4, .d (.int .i64 i))]) [.row (ApiType.cells t) 27] (Am.InBlock 0 (Am.Then (Fx.mk C 25 0) (sr (sr (sr (bodyOf Tryd.f139)))) (Am.Ends (Fx.mk C 25 0) Tryd.f139.results.toList (fun x H' => H' = [] ∧ x = .d (.int .i64 res)))))) := by
  refine ref10_typeDepth.mutual_partial_correctness (fun t res => ACall C 139 [.agg (ApiType.cells t)] [] (fun x H' => H' = [] ∧ x = .d (.int .i64 res)))
    (fun t d i res => ALoop (Fx.mk C 25 0) (lo (bk (sr (sl (sr (sr (bodyOf Tryd.f139))))))) (mkEnv [(1, .ref 0 0), (3, .d (.int .i64 d)), (4, .d (.int .i64 i))]) [.row (ApiType.cells t) 27] (Am.InBlock 0 (Am.Then (Fx.mk C 25 0) (sr (sr (sr (bodyOf Tryd.f139)))) (Am.Ends (Fx.mk C 25 0) Tryd.f139.results.toList (fun x H' => H' = [] ∧ x = .d (.int .i64 res)))))) ?_ ?_
  · intro g1 ih1 t res hh
    refine ACall.intro hC Tryd.func139 rfl rfl rfl ?_
    refine AEx.seq ?_
    refine AEx.regionN rfl rfl ?_
    refine AOps.n hC rfl ?_
    refine AOps.q hC rfl trivial ?_
    refine AOps.nil ?_
    refine AEx.seq ?_
    refine AEx.regionN rfl rfl ?_
    refine AOps.q hC rfl trivial ?_
    refine AOps.nil ?_
    refine AEx.seq ?_
    refine AEx.seq ?_
    refine AEx.regionN rfl rfl ?_
    refine AOps.q hC rfl trivial ?_
    refine AOps.nil ?_
    refine AEx.block ?_
    refine AEx.ofLoop ?_
    refine ALoop.wk ?_ (ih1 _ _ _ _ hh)
    exact ⟨⟨⟨.rfl, rfl⟩, ⟨⟨.rfl, rfl⟩, ⟨⟨.rfl, rfl⟩, trivial⟩⟩⟩, ⟨⟨rfl, .refl _, rfl⟩, trivial⟩, rfl⟩
  · intro g0 g1 ih0 ih1 t d i res hh
    refine ALoop.unroll ?_
    refine AEx.seq ?_
    refine AEx.seq ?_
    refine AEx.regionN rfl rfl ?_
    iterate 3 refine AOps.q hC rfl trivial ?_
    refine AOps.qe hC rfl trivial (ApiType.lenA _) ?_
    refine AOps.q hC rfl trivial ?_
    refine AOps.nil ?_
    refine AEx.cond rfl (fun hb => ?_) (fun hb => ?_)
    · replace hh := if_t hb hh
      refine AEx.skip ?_
      refine AEx.seq ?_
      refine AEx.block ?_
      refine AEx.seq ?_
      refine AEx.regionN rfl rfl ?_
      iterate 3 refine AOps.q hC rfl trivial ?_
      obtain ⟨x1, hx1, hh⟩ := bind_some hh
      refine AOps.i hC rfl (idx_nat hx1) (ApiType.idx hx1) rfl ?_
      refine AOps.q hC rfl trivial ?_
      obtain ⟨x2, hx2, hh⟩ := bind_some hh
      refine AOps.c rfl rfl (ih0 _ _ hx2) ?_
      refine AOps.q hC rfl trivial ?_
      refine AOps.nil ?_
      refine AEx.seq ?_
      refine AEx.regionN rfl rfl ?_
      iterate 3 refine AOps.q hC rfl trivial ?_
      refine AOps.nil ?_
      refine AEx.cond rfl (fun hb => ?_) (fun hb => ?_)
      · replace hh := if_t hb hh
        refine AEx.regionN rfl rfl ?_
        iterate 2 refine AOps.q hC rfl trivial ?_
        refine AOps.nil ?_
        refine AEx.regionN rfl rfl ?_
        iterate 3 refine AOps.q hC rfl trivial ?_
        refine AOps.nil ?_
        refine ALoop.wk ?_ (ih1 _ _ _ _ hh)
        exact ⟨⟨⟨.rfl, rfl⟩, ⟨⟨.rfl, rfl⟩, ⟨⟨.rfl, rfl⟩, trivial⟩⟩⟩, ⟨⟨rfl, .refl _, rfl⟩, trivial⟩, rfl⟩
      · replace hh := if_f hb hh
        refine AEx.skip ?_
        refine AEx.regionN rfl rfl ?_
        iterate 3 refine AOps.q hC rfl trivial ?_
        refine AOps.nil ?_
        refine ALoop.wk ?_ (ih1 _ _ _ _ hh)
        exact ⟨⟨⟨.rfl, rfl⟩, ⟨⟨.rfl, rfl⟩, ⟨⟨.rfl, rfl⟩, trivial⟩⟩⟩, ⟨⟨rfl, .refl _, rfl⟩, trivial⟩, rfl⟩
    · replace hh := if_f hb hh
      refine AEx.exit ?_
      refine AEx.seq ?_
      refine AEx.regionN rfl rfl ?_
      iterate 3 refine AOps.q hC rfl trivial ?_
      refine AOps.nil ?_
      refine AEx.ret ?_
      obtain rfl := Option.some.inj hh
      exact ⟨_, _, [], rfl, .rfl, trivial, rfl, rfl, rfl, rfl⟩
theorem ref10_typeDepth_ok {t : ApiType} {res : Int} (hh : ref10_typeDepth t = some res) : ACall C 139 [.agg (ApiType.cells t)] [] (fun x H' => H' = [] ∧ x = .d (.int .i64 res)) := (ref10_typeDepth_grp).1 _ _ hh
theorem ref10_typeDepth_l1_ok {t : ApiType} {d : Int} {i : Int} {res : Int} (hh : ref10_typeDepth_l1 t d i = some res) : ALoop (Fx.mk C 25 0) (lo (bk (sr (sl (sr (sr (bodyOf Tryd.f139))))))) (mkEnv [(1, .ref 0 0), (3, .d (.int .i64 d)), (4, .d (.int .i64 i))]) [.row (ApiType.cells t) 27] (Am.InBlock 0 (Am.Then (Fx.mk C 25 0) (sr (sr (sr (bodyOf Tryd.f139)))) (Am.Ends (Fx.mk C 25 0) Tryd.f139.results.toList (fun x H' => H' = [] ∧ x = .d (.int .i64 res))))) := (ref10_typeDepth_grp).2 _ _ _ _ hh
def ref10_size_deeper (s : Keyholeref10Size) (d : Int) : Option Keyholeref10Size :=
  if (decide (d > s.depth)) = true then
    some (Keyholeref10Size.mk s.nodes d)
  else
    some s
theorem ref10_size_deeper_ok {s : Keyholeref10Size} {d : Int} {res : Keyholeref10Size} (hh : ref10_size_deeper s d = some res) : ACall C 138 [.agg (Keyholeref10Size.cells s), .d (.int .i64 d)] [] (fun x H' => H' = [] ∧ x = .agg (Keyholeref10Size.cells res)) := by
  unfold ref10_size_deeper at hh
  refine ACall.intro hC Tryd.func138 rfl rfl rfl ?_
  refine AEx.seq ?_
  refine AEx.regionN rfl rfl ?_
  refine AOps.n hC rfl ?_
  refine AOps.n hC rfl ?_
  refine AOps.nil ?_
  refine AEx.seq ?_
  refine AEx.seq ?_
  refine AEx.regionN rfl rfl ?_
  iterate 4 refine AOps.q hC rfl trivial ?_
  refine AOps.nil ?_
  refine AEx.cond rfl (fun hb => ?_) (fun hb => ?_)
  · replace hh := if_t hb hh
    refine AEx.regionN rfl rfl ?_
    iterate 2 refine AOps.q hC rfl trivial ?_
    refine AOps.s hC rfl ?_
    refine AOps.nil ?_
    refine AEx.seq ?_
    refine AEx.regionN rfl rfl ?_
    refine AOps.q hC rfl trivial ?_
    refine AOps.s hC rfl ?_
    refine AOps.nil ?_
    refine AEx.ret ?_
    obtain rfl := Option.some.inj hh
    exact ⟨_, _, [], rfl, .rfl, trivial, rfl, rfl, rfl, rfl⟩
  · replace hh := if_f hb hh
    refine AEx.skip ?_
    refine AEx.seq ?_
    refine AEx.regionN rfl rfl ?_
    refine AOps.q hC rfl trivial ?_
    refine AOps.s hC rfl ?_
    refine AOps.nil ?_
    refine AEx.ret ?_
    obtain rfl := Option.some.inj hh
    exact ⟨_, _, [], rfl, .rfl, trivial, rfl, rfl, rfl, rfl⟩
def ref10_addType (s : Keyholeref10Size) (t : ApiType) (used : Bool) : Option Keyholeref10Size :=
  (if (!used) = true then ref10_zeroType t else some default) >>= fun x1 =>
  if (bif (!used) then x1 else false) = true then
    some s
  else
    ref10_typeNodes t >>= fun x2 =>
    ref10_typeDepth t >>= fun x3 =>
    ref10_size_deeper (Keyholeref10Size.mk (IntKind.i64.wrap (s.nodes + x2)) s.depth) x3 >>= fun x4 =>
    some x4
theorem ref10_addType_ok {s : Keyholeref10Size} {t : ApiType} {used : Bool} {res : Keyholeref10Size} (hh : ref10_addType s t used = some res) : ACall C 106 [.agg (Keyholeref10Size.cells s), .agg (ApiType.cells t), .d (.bool used)] [] (fun x H' => H' = [] ∧ x = .agg (Keyholeref10Size.cells res)) := by
  unfold ref10_addType at hh
  refine ACall.intro hC Tryd.func106 rfl rfl rfl ?_
  refine AEx.seq ?_
  refine AEx.regionN rfl rfl ?_
  refine AOps.n hC rfl ?_
  refine AOps.n hC rfl ?_
  refine AOps.n hC rfl ?_
  refine AOps.nil ?_
  refine AEx.seq ?_
  refine AEx.seq ?_
  refine AEx.regionG 6 rfl ?_
  refine AG.q hC rfl ?_ ?_
  · intro hg; refine And.intro ?_ ?_ <;> repeat' (first | exact True.intro | exact hg | exact and_l hg | exact and_l (and_l hg) | refine And.intro ?_ ?_)
  refine AG.q hC rfl ?_ ?_
  · intro hg; refine And.intro ?_ ?_ <;> repeat' (first | exact True.intro | exact hg | exact and_l hg | exact and_l (and_l hg) | refine And.intro ?_ ?_)
  refine AG.q hC rfl ?_ ?_
  · intro hg; refine And.intro ?_ ?_ <;> repeat' (first | exact True.intro | exact hg | exact and_l hg | exact and_l (and_l hg) | refine And.intro ?_ ?_)
  refine AG.q hC rfl ?_ ?_
  · intro hg; refine And.intro ?_ ?_ <;> repeat' (first | exact True.intro | exact hg | exact and_l hg | exact and_l (and_l hg) | refine And.intro ?_ ?_)
  obtain ⟨x1, hx1, hh⟩ := bind_some hh
  refine AG.c rfl rfl (by intro hg; repeat' (first | exact True.intro | exact hg | exact and_l hg | exact and_l (and_l hg) | refine And.intro ?_ ?_)) (fun hw => ref10_zeroType_ok (if_t hw hx1)) ?_
  refine AG.p hC rfl ?_ ?_
  · intro hg; refine And.intro ?_ (And.intro ?_ ?_) <;> first | exact True.intro | exact fun _ => True.intro | exact And.intro hg True.intro | exact fun h' => And.intro (wb_f h') True.intro | exact fun h' => And.intro (wb_t h') True.intro | exact fun h' => And.intro (and_f hg h') True.intro | exact fun h' => And.intro (and_t hg h') True.intro | exact And.intro (and_l hg) True.intro
  refine AG.nil ?_
  refine AOps.nil ?_
  refine AEx.cond rfl (fun hb => ?_) (fun hb => ?_)
  · replace hh := if_t hb hh
    refine AEx.seq ?_
    refine AEx.regionN rfl rfl ?_
    refine AOps.q hC rfl trivial ?_
    refine AOps.s hC rfl ?_
    refine AOps.nil ?_
    refine AEx.ret ?_
    obtain rfl := Option.some.inj hh
    exact ⟨_, _, [], rfl, .rfl, trivial, rfl, rfl, rfl, rfl⟩
  · replace hh := if_f hb hh
    refine AEx.skip ?_
    refine AEx.seq ?_
    refine AEx.draw hC 6 rfl rfl rfl ?_
    refine AQ.q hC rfl trivial ?_
    refine AQ.q hC rfl trivial ?_
    refine AQ.q hC rfl trivial ?_
    obtain ⟨x2, hx2, hh⟩ := bind_some hh
    refine AQ.c rfl rfl (ref10_typeNodes_ok hx2) ?_
    refine AQ.q hC rfl trivial ?_
    refine AQ.q hC rfl trivial ?_
    refine AQ.nil ?_
    refine AOps.s hC rfl ?_
    refine AOps.nil ?_
    refine AEx.seq ?_
    refine AEx.draw hC 4 rfl rfl rfl ?_
    refine AQ.q hC rfl trivial ?_
    refine AQ.q hC rfl trivial ?_
    obtain ⟨x3, hx3, hh⟩ := bind_some hh
    refine AQ.c rfl rfl (ref10_typeDepth_ok hx3) ?_
    obtain ⟨x4, hx4, hh⟩ := bind_some hh
    refine AQ.c rfl rfl (ref10_size_deeper_ok hx4) ?_
    refine AQ.nil ?_
    refine AOps.s hC rfl ?_
    refine AOps.nil ?_
    refine AEx.ret ?_
    obtain rfl := Option.some.inj hh
    exact ⟨_, _, [], rfl, .rfl, trivial, rfl, rfl, rfl, rfl⟩
mutual
def ref10_typeForm (t : ApiType) : Option Bool :=
  if (bif (decide (t.Kind < 0)) then true else (decide (t.Kind > 4))) = true then
    some false
  else
    if (bif (bif (bif (bif (t.Kind != 1) then (bif (t.Low != 0) then true else (t.High != 0)) else false) then true else (bif (t.Kind != 2) then (t.Size != 0) else false)) then true else (bif (t.Kind != 4) then (!(t.Name == [])) else false)) then true else (bif (t.Kind != 3) then (((t.Names).length : Int) != 0) else false)) = true then
      some false
    else
      if (bif (bif (bif (t.Kind == 2) then (((t.Of).length : Int) != 1) else false) then true else (bif (t.Kind == 3) then (bif (decide (((t.Of).length : Int) < 1)) then true else (((t.Of).length : Int) != ((t.Names).length : Int))) else false)) then true else (bif (bif (t.Kind != 2) then (t.Kind != 3) else false) then (((t.Of).length : Int) != 0) else false)) = true then
        some false
      else
        ref10_typeForm_l1 t 0
  partial_fixpoint
def ref10_typeForm_l1 (t : ApiType) (i : Int) : Option Bool :=
  if (decide (i < ((t.Of).length : Int))) = true then
    idx t.Of i >>= fun x1 =>
    ref10_typeForm x1 >>= fun x2 =>
    if (!x2) = true then
      some false
    else
      ref10_typeForm_l1 t (IntKind.i64.wrap (i + 1))
  else
    some true
  partial_fixpoint
end
theorem ref10_typeForm_grp : (∀ (t : ApiType) (res : Bool), ref10_typeForm t = some res → ACall C 107 [.agg (ApiType.cells t)] [] (fun x H' => H' = [] ∧ x = .d (.bool res))) ∧
    (∀ (t : ApiType) (i : Int) (res : Bool), ref10_typeForm_l1 t i = some res → ALoop (Fx.mk C 115 0) (lo (bk (sr (sl (sr (sr (sr (sr (bodyOf Tryd.f107))))))))) (mkEnv [(1, .ref 0 0), (3, .d (.int .i64 i))]) [.row (ApiType.cells t) 27] (Am.InBlock 0 (Am.Then (Fx.mk C 115 0) (sr (sr (sr (sr (sr (bodyOf Tryd.f107)))))) (Am.Ends (Fx.mk C 115 0) Tryd.f107.results.toList (fun x H' => H' = [] ∧ x = .d (.bool res)))))) := by
  refine ref10_typeForm.mutual_partial_correctness (fun t res => ACall C 107 [.agg (ApiType.cells t)] [] (fun x H' => H' = [] ∧ x = .d (.bool res)))
    (fun t i res => ALoop (Fx.mk C 115 0) (lo (bk (sr (sl (sr (sr (sr (sr (bodyOf Tryd.f107))))))))) (mkEnv [(1, .ref 0 0), (3, .d (.int .i64 i))]) [.row (ApiType.cells t) 27] (Am.InBlock 0 (Am.Then (Fx.mk C 115 0) (sr (sr (sr (sr (sr (bodyOf Tryd.f107)))))) (Am.Ends (Fx.mk C 115 0) Tryd.f107.results.toList (fun x H' => H' = [] ∧ x = .d (.bool res)))))) ?_ ?_
  · intro g1 ih1 t res hh
    refine ACall.intro hC Tryd.func107 rfl rfl rfl ?_
    refine AEx.seq ?_
    refine AEx.regionN rfl rfl ?_
    refine AOps.n hC rfl ?_
    refine AOps.q hC rfl trivial ?_
    refine AOps.nil ?_
    refine AEx.seq ?_
    refine AEx.seq ?_
    refine AEx.regionG 8 rfl ?_
    refine AG.q hC rfl ?_ ?_
    · intro hg; refine And.intro ?_ ?_ <;> repeat' (first | exact True.intro | exact hg | exact and_l hg | exact and_l (and_l hg) | refine And.intro ?_ ?_)
    refine AG.q hC rfl ?_ ?_
    · intro hg; refine And.intro ?_ ?_ <;> repeat' (first | exact True.intro | exact hg | exact and_l hg | exact and_l (and_l hg) | refine And.intro ?_ ?_)
    refine AG.q hC rfl ?_ ?_
    · intro hg; refine And.intro ?_ ?_ <;> repeat' (first | exact True.intro | exact hg | exact and_l hg | exact and_l (and_l hg) | refine And.intro ?_ ?_)
    refine AG.q hC rfl ?_ ?_
    · intro hg; refine And.intro ?_ ?_ <;> repeat' (first | exact True.intro | exact hg | exact and_l hg | exact and_l (and_l hg) | refine And.intro ?_ ?_)
    refine AG.q hC rfl ?_ ?_
    · intro hg; refine And.intro ?_ ?_ <;> repeat' (first | exact True.intro | exact hg | exact and_l hg | exact and_l (and_l hg) | refine And.intro ?_ ?_)
    refine AG.q hC rfl ?_ ?_
    · intro hg; refine And.intro ?_ ?_ <;> repeat' (first | exact True.intro | exact hg | exact and_l hg | exact and_l (and_l hg) | refine And.intro ?_ ?_)
    refine AG.q hC rfl ?_ ?_
    · intro hg; refine And.intro ?_ ?_ <;> repeat' (first | exact True.intro | exact hg | exact and_l hg | exact and_l (and_l hg) | refine And.intro ?_ ?_)
    refine AG.p hC rfl ?_ ?_
    · intro hg; refine And.intro ?_ (And.intro ?_ ?_) <;> first | exact True.intro | exact fun _ => True.intro | exact And.intro hg True.intro | exact fun h' => And.intro (wb_f h') True.intro | exact fun h' => And.intro (wb_t h') True.intro | exact fun h' => And.intro (and_f hg h') True.intro | exact fun h' => And.intro (and_t hg h') True.intro | exact And.intro (and_l hg) True.intro
    refine AG.nil ?_
    refine AOps.nil ?_
    refine AEx.cond rfl (fun hb => ?_) (fun hb => ?_)
    · replace hh := if_t hb hh
      refine AEx.seq ?_
      refine AEx.regionN rfl rfl ?_
      refine AOps.q hC rfl trivial ?_
      refine AOps.nil ?_
      refine AEx.ret ?_
      obtain rfl := Option.some.inj hh
      exact ⟨_, _, [], rfl, .rfl, trivial, rfl, rfl, rfl, rfl⟩
    · replace hh := if_f hb hh
      refine AEx.skip ?_
      refine AEx.seq ?_
      refine AEx.seq ?_
      refine AEx.regionG 44 rfl ?_
      refine AG.q hC rfl ?_ ?_
      · intro hg; refine And.intro ?_ ?_ <;> repeat' (first | exact True.intro | exact hg | exact and_l hg | exact and_l (and_l hg) | refine And.intro ?_ ?_)
      refine AG.q hC rfl ?_ ?_
      · intro hg; refine And.intro ?_ ?_ <;> repeat' (first | exact True.intro | exact hg | exact and_l hg | exact and_l (and_l hg) | refine And.intro ?_ ?_)
      refine AG.q hC rfl ?_ ?_
      · intro hg; refine And.intro ?_ ?_ <;> repeat' (first | exact True.intro | exact hg | exact and_l hg | exact and_l (and_l hg) | refine And.intro ?_ ?_)
      refine AG.q hC rfl ?_ ?_
      · intro hg; refine And.intro ?_ ?_ <;> repeat' (first | exact True.intro | exact hg | exact and_l hg | exact and_l (and_l hg) | refine And.intro ?_ ?_)
      refine AG.q hC rfl ?_ ?_
      · intro hg; refine And.intro ?_ ?_ <;> repeat' (first | exact True.intro | exact hg | exact and_l hg | exact and_l (and_l hg) | refine And.intro ?_ ?_)
      refine AG.q hC rfl ?_ ?_
      · intro hg; refine And.intro ?_ ?_ <;> repeat' (first | exact True.intro | exact hg | exact and_l hg | exact and_l (and_l hg) | refine And.intro ?_ ?_)
      refine AG.q hC rfl ?_ ?_
      · intro hg; refine And.intro ?_ ?_ <;> repeat' (first | exact True.intro | exact hg | exact and_l hg | exact and_l (and_l hg) | refine And.intro ?_ ?_)
      refine AG.q hC rfl ?_ ?_
      · intro hg; refine And.intro ?_ ?_ <;> repeat' (first | exact True.intro | exact hg | exact and_l hg | exact and_l (and_l hg) | refine And.intro ?_ ?_)
      refine AG.q hC rfl ?_ ?_
      · intro hg; refine And.intro ?_ ?_ <;> repeat' (first | exact True.intro | exact hg | exact and_l hg | exact and_l (and_l hg) | refine And.intro ?_ ?_)
      refine AG.q hC rfl ?_ ?_
      · intro hg; refine And.intro ?_ ?_ <;> repeat' (first | exact True.intro | exact hg | exact and_l hg | exact and_l (and_l hg) | refine And.intro ?_ ?_)
      refine AG.q hC rfl ?_ ?_
      · intro hg; refine And.intro ?_ ?_ <;> repeat' (first | exact True.intro | exact hg | exact and_l hg | exact and_l (and_l hg) | refine And.intro ?_ ?_)
      refine AG.p hC rfl ?_ ?_
      · intro hg; refine And.intro ?_ (And.intro ?_ ?_) <;> first | exact True.intro | exact fun _ => True.intro | exact And.intro hg True.intro | exact fun h' => And.intro (wb_f h') True.intro | exact fun h' => And.intro (wb_t h') True.intro | exact fun h' => And.intro (and_f hg h') True.intro | exact fun h' => And.intro (and_t hg h') True.intro | exact And.intro (and_l hg) True.intro
      refine AG.p hC rfl ?_ ?_
      · intro hg; refine And.intro ?_ (And.intro ?_ ?_) <;> first | exact True.intro | exact fun _ => True.intro | exact And.intro hg True.intro | exact fun h' => And.intro (wb_f h') True.intro | exact fun h' => And.intro (wb_t h') True.intro | exact fun h' => And.intro (and_f hg h') True.intro | exact fun h' => And.intro (and_t hg h') True.intro | exact And.intro (and_l hg) True.intro
      refine AG.q hC rfl ?_ ?_
      · intro hg; refine And.intro ?_ ?_ <;> repeat' (first | exact True.intro | exact hg | exact and_l hg | exact and_l (and_l hg) | refine And.intro ?_ ?_)
      refine AG.q hC rfl ?_ ?_
      · intro hg; refine And.intro ?_ ?_ <;> repeat' (first | exact True.intro | exact hg | exact and_l hg | exact and_l (and_l hg) | refine And.intro ?_ ?_)
      refine AG.q hC rfl ?_ ?_
      · intro hg; refine And.intro ?_ ?_ <;> repeat' (first | exact True.intro | exact hg | exact and_l hg | exact and_l (and_l hg) | refine And.intro ?_ ?_)
      refine AG.q hC rfl ?_ ?_
      · intro hg; refine And.intro ?_ ?_ <;> repeat' (first | exact True.intro | exact hg | exact and_l hg | exact and_l (and_l hg) | refine And.intro ?_ ?_)
      refine AG.q hC rfl ?_ ?_
      · intro hg; refine And.intro ?_ ?_ <;> repeat' (first | exact True.intro | exact hg | exact and_l hg | exact and_l (and_l hg) | refine And.intro ?_ ?_)
      refine AG.q hC rfl ?_ ?_
      · intro hg; refine And.intro ?_ ?_ <;> repeat' (first | exact True.intro | exact hg | exact and_l hg | exact and_l (and_l hg) | refine And.intro ?_ ?_)
      refine AG.q hC rfl ?_ ?_
      · intro hg; refine And.intro ?_ ?_ <;> repeat' (first | exact True.intro | exact hg | exact and_l hg | exact and_l (and_l hg) | refine And.intro ?_ ?_)
      refine AG.q hC rfl ?_ ?_
      · intro hg; refine And.intro ?_ ?_ <;> repeat' (first | exact True.intro | exact hg | exact and_l hg | exact and_l (and_l hg) | refine And.intro ?_ ?_)
      refine AG.p hC rfl ?_ ?_
      · intro hg; refine And.intro ?_ (And.intro ?_ ?_) <;> first | exact True.intro | exact fun _ => True.intro | exact And.intro hg True.intro | exact fun h' => And.intro (wb_f h') True.intro | exact fun h' => And.intro (wb_t h') True.intro | exact fun h' => And.intro (and_f hg h') True.intro | exact fun h' => And.intro (and_t hg h') True.intro | exact And.intro (and_l hg) True.intro
      refine AG.p hC rfl ?_ ?_
      · intro hg; refine And.intro ?_ (And.intro ?_ ?_) <;> first | exact True.intro | exact fun _ => True.intro | exact And.intro hg True.intro | exact fun h' => And.intro (wb_f h') True.intro | exact fun h' => And.intro (wb_t h') True.intro | exact fun h' => And.intro (and_f hg h') True.intro | exact fun h' => And.intro (and_t hg h') True.intro | exact And.intro (and_l hg) True.intro
      refine AG.q hC rfl ?_ ?_
      · intro hg; refine And.intro ?_ ?_ <;> repeat' (first | exact True.intro | exact hg | exact and_l hg | exact and_l (and_l hg) | refine And.intro ?_ ?_)
      refine AG.q hC rfl ?_ ?_
      · intro hg; refine And.intro ?_ ?_ <;> repeat' (first | exact True.intro | exact hg | exact and_l hg | exact and_l (and_l hg) | refine And.intro ?_ ?_)
      refine AG.q hC rfl ?_ ?_
      · intro hg; refine And.intro ?_ ?_ <;> repeat' (first | exact True.intro | exact hg | exact and_l hg | exact and_l (and_l hg) | refine And.intro ?_ ?_)
      refine AG.q hC rfl ?_ ?_
      · intro hg; refine And.intro ?_ ?_ <;> repeat' (first | exact True.intro | exact hg | exact and_l hg | exact and_l (and_l hg) | refine And.intro ?_ ?_)
      refine AG.q hC rfl ?_ ?_
      · intro hg; refine And.intro ?_ ?_ <;> repeat' (first | exact True.intro | exact hg | exact and_l hg | exact and_l (and_l hg) | refine And.intro ?_ ?_)
      refine AG.q hC rfl ?_ ?_
      · intro hg; refine And.intro ?_ ?_ <;> repeat' (first | exact True.intro | exact hg | exact and_l hg | exact and_l (and_l hg) | refine And.intro ?_ ?_)
      refine AG.q hC rfl ?_ ?_
      · intro hg; refine And.intro ?_ ?_ <;> repeat' (first | exact True.intro | exact hg | exact and_l hg | exact and_l (and_l hg) | refine And.intro ?_ ?_)
      refine AG.q hC rfl ?_ ?_
      · intro hg; refine And.intro ?_ ?_ <;> repeat' (first | exact True.intro | exact hg | exact and_l hg | exact and_l (and_l hg) | refine And.intro ?_ ?_)
      refine AG.p hC rfl ?_ ?_
      · intro hg; refine And.intro ?_ (And.intro ?_ ?_) <;> first | exact True.intro | exact fun _ => True.intro | exact And.intro hg True.intro | exact fun h' => And.intro (wb_f h') True.intro | exact fun h' => And.intro (wb_t h') True.intro | exact fun h' => And.intro (and_f hg h') True.intro | exact fun h' => And.intro (and_t hg h') True.intro | exact And.intro (and_l hg) True.intro
      refine AG.p hC rfl ?_ ?_
      · intro hg; refine And.intro ?_ (And.intro ?_ ?_) <;> first | exact True.intro | exact fun _ => True.intro | exact And.intro hg True.intro | exact fun h' => And.intro (wb_f h') True.intro | exact fun h' => And.intro (wb_t h') True.intro | exact fun h' => And.intro (and_f hg h') True.intro | exact fun h' => And.intro (and_t hg h') True.intro | exact And.intro (and_l hg) True.intro
      refine AG.q hC rfl ?_ ?_
      · intro hg; refine And.intro ?_ ?_ <;> repeat' (first | exact True.intro | exact hg | exact and_l hg | exact and_l (and_l hg) | refine And.intro ?_ ?_)
      refine AG.q hC rfl ?_ ?_
      · intro hg; refine And.intro ?_ ?_ <;> repeat' (first | exact True.intro | exact hg | exact and_l hg | exact and_l (and_l hg) | refine And.intro ?_ ?_)
      refine AG.q hC rfl ?_ ?_
      · intro hg; refine And.intro ?_ ?_ <;> repeat' (first | exact True.intro | exact hg | exact and_l hg | exact and_l (and_l hg) | refine And.intro ?_ ?_)
      refine AG.q hC rfl ?_ ?_
      · intro hg; refine And.intro ?_ ?_ <;> repeat' (first | exact True.intro | exact hg | exact and_l hg | exact and_l (and_l hg) | refine And.intro ?_ ?_)
      refine AG.q hC rfl ?_ ?_
      · intro hg; refine And.intro ?_ ?_ <;> repeat' (first | exact True.intro | exact hg | exact and_l hg | exact and_l (and_l hg) | refine And.intro ?_ ?_)
      refine AG.q hC rfl ?_ ?_
      · intro hg; refine And.intro ?_ ?_ <;> repeat' (first | exact True.intro | exact hg | exact and_l hg | exact and_l (and_l hg) | refine And.intro ?_ ?_)
      refine AG.q hC rfl ?_ ?_
      · intro hg; refine And.intro ?_ ?_ <;> repeat' (first | exact True.intro | exact hg | exact and_l hg | exact and_l (and_l hg) | refine And.intro ?_ ?_)
      refine AG.qe hC rfl ?_ (estr.lenA _) ?_
      · intro hg; refine And.intro ?_ ?_ <;> repeat' (first | exact True.intro | exact hg | exact and_l hg | exact and_l (and_l hg) | refine And.intro ?_ ?_)
      refine AG.q hC rfl ?_ ?_
      · intro hg; refine And.intro ?_ ?_ <;> repeat' (first | exact True.intro | exact hg | exact and_l hg | exact and_l (and_l hg) | refine And.intro ?_ ?_)
      refine AG.p hC rfl ?_ ?_
      · intro hg; refine And.intro ?_ (And.intro ?_ ?_) <;> first | exact True.intro | exact fun _ => True.intro | exact And.intro hg True.intro | exact fun h' => And.intro (wb_f h') True.intro | exact fun h' => And.intro (wb_t h') True.intro | exact fun h' => And.intro (and_f hg h') True.intro | exact fun h' => And.intro (and_t hg h') True.intro | exact And.intro (and_l hg) True.intro
      refine AG.p hC rfl ?_ ?_
      · intro hg; refine And.intro ?_ (And.intro ?_ ?_) <;> first | exact True.intro | exact fun _ => True.intro | exact And.intro hg True.intro | exact fun h' => And.intro (wb_f h') True.intro | exact fun h' => And.intro (wb_t h') True.intro | exact fun h' => And.intro (and_f hg h') True.intro | exact fun h' => And.intro (and_t hg h') True.intro | exact And.intro (and_l hg) True.intro
      refine AG.nil ?_
      refine AOps.nil ?_
      refine AEx.cond rfl (fun hb => ?_) (fun hb => ?_)
      · replace hh := if_t hb hh
        refine AEx.seq ?_
        refine AEx.regionN rfl rfl ?_
        refine AOps.q hC rfl trivial ?_
        refine AOps.nil ?_
        refine AEx.ret ?_
        obtain rfl := Option.some.inj hh
        exact ⟨_, _, [], rfl, .rfl, trivial, rfl, rfl, rfl, rfl⟩
      · replace hh := if_f hb hh
        refine AEx.skip ?_
        refine AEx.seq ?_
        refine AEx.seq ?_
        refine AEx.regionG 45 rfl ?_
        refine AG.q hC rfl ?_ ?_
        · intro hg; refine And.intro ?_ ?_ <;> repeat' (first | exact True.intro | exact hg | exact and_l hg | exact and_l (and_l hg) | refine And.intro ?_ ?_)
        refine AG.q hC rfl ?_ ?_
        · intro hg; refine And.intro ?_ ?_ <;> repeat' (first | exact True.intro | exact hg | exact and_l hg | exact and_l (and_l hg) | refine And.intro ?_ ?_)
        refine AG.q hC rfl ?_ ?_
        · intro hg; refine And.intro ?_ ?_ <;> repeat' (first | exact True.intro | exact hg | exact and_l hg | exact and_l (and_l hg) | refine And.intro ?_ ?_)
        refine AG.q hC rfl ?_ ?_
        · intro hg; refine And.intro ?_ ?_ <;> repeat' (first | exact True.intro | exact hg | exact and_l hg | exact and_l (and_l hg) | refine And.intro ?_ ?_)
        refine AG.q hC rfl ?_ ?_
        · intro hg; refine And.intro ?_ ?_ <;> repeat' (first | exact True.intro | exact hg | exact and_l hg | exact and_l (and_l hg) | refine And.intro ?_ ?_)
        refine AG.q hC rfl ?_ ?_
        · intro hg; refine And.intro ?_ ?_ <;> repeat' (first | exact True.intro | exact hg | exact and_l hg | exact and_l (and_l hg) | refine And.intro ?_ ?_)
        refine AG.qe hC rfl ?_ (ApiType.lenA _) ?_
        · intro hg; refine And.intro ?_ ?_ <;> repeat' (first | exact True.intro | exact hg | exact and_l hg | exact and_l (and_l hg) | refine And.intro ?_ ?_)
        refine AG.q hC rfl ?_ ?_
        · intro hg; refine And.intro ?_ ?_ <;> repeat' (first | exact True.intro | exact hg | exact and_l hg | exact and_l (and_l hg) | refine And.intro ?_ ?_)
        refine AG.p hC rfl ?_ ?_
        · intro hg; refine And.intro ?_ (And.intro ?_ ?_) <;> first | exact True.intro | exact fun _ => True.intro | exact And.intro hg True.intro | exact fun h' => And.intro (wb_f h') True.intro | exact fun h' => And.intro (wb_t h') True.intro | exact fun h' => And.intro (and_f hg h') True.intro | exact fun h' => And.intro (and_t hg h') True.intro | exact And.intro (and_l hg) True.intro
        refine AG.q hC rfl ?_ ?_
        · intro hg; refine And.intro ?_ ?_ <;> repeat' (first | exact True.intro | exact hg | exact and_l hg | exact and_l (and_l hg) | refine And.intro ?_ ?_)
        refine AG.q hC rfl ?_ ?_
        · intro hg; refine And.intro ?_ ?_ <;> repeat' (first | exact True.intro | exact hg | exact and_l hg | exact and_l (and_l hg) | refine And.intro ?_ ?_)
        refine AG.q hC rfl ?_ ?_
        · intro hg; refine And.intro ?_ ?_ <;> repeat' (first | exact True.intro | exact hg | exact and_l hg | exact and_l (and_l hg) | refine And.intro ?_ ?_)
        refine AG.q hC rfl ?_ ?_
        · intro hg; refine And.intro ?_ ?_ <;> repeat' (first | exact True.intro | exact hg | exact and_l hg | exact and_l (and_l hg) | refine And.intro ?_ ?_)
        refine AG.q hC rfl ?_ ?_
        · intro hg; refine And.intro ?_ ?_ <;> repeat' (first | exact True.intro | exact hg | exact and_l hg | exact and_l (and_l hg) | refine And.intro ?_ ?_)
        refine AG.q hC rfl ?_ ?_
        · intro hg; refine And.intro ?_ ?_ <;> repeat' (first | exact True.intro | exact hg | exact and_l hg | exact and_l (and_l hg) | refine And.intro ?_ ?_)
        refine AG.q hC rfl ?_ ?_
        · intro hg; refine And.intro ?_ ?_ <;> repeat' (first | exact True.intro | exact hg | exact and_l hg | exact and_l (and_l hg) | refine And.intro ?_ ?_)
        refine AG.qe hC rfl ?_ (ApiType.lenA _) ?_
        · intro hg; refine And.intro ?_ ?_ <;> repeat' (first | exact True.intro | exact hg | exact and_l hg | exact and_l (and_l hg) | refine And.intro ?_ ?_)
        refine AG.q hC rfl ?_ ?_
        · intro hg; refine And.intro ?_ ?_ <;> repeat' (first | exact True.intro | exact hg | exact and_l hg | exact and_l (and_l hg) | refine And.intro ?_ ?_)
        refine AG.q hC rfl ?_ ?_
        · intro hg; refine And.intro ?_ ?_ <;> repeat' (first | exact True.intro | exact hg | exact and_l hg | exact and_l (and_l hg) | refine And.intro ?_ ?_)
        refine AG.q hC rfl ?_ ?_
        · intro hg; refine And.intro ?_ ?_ <;> repeat' (first | exact True.intro | exact hg | exact and_l hg | exact and_l (and_l hg) | refine And.intro ?_ ?_)
        refine AG.q hC rfl ?_ ?_
        · intro hg; refine And.intro ?_ ?_ <;> repeat' (first | exact True.intro | exact hg | exact and_l hg | exact and_l (and_l hg) | refine And.intro ?_ ?_)
        refine AG.qe hC rfl ?_ (ApiType.lenA _) ?_
        · intro hg; refine And.intro ?_ ?_ <;> repeat' (first | exact True.intro | exact hg | exact and_l hg | exact and_l (and_l hg) | refine And.intro ?_ ?_)
        refine AG.q hC rfl ?_ ?_
        · intro hg; refine And.intro ?_ ?_ <;> repeat' (first | exact True.intro | exact hg | exact and_l hg | exact and_l (and_l hg) | refine And.intro ?_ ?_)
        refine AG.q hC rfl ?_ ?_
        · intro hg; refine And.intro ?_ ?_ <;> repeat' (first | exact True.intro | exact hg | exact and_l hg | exact and_l (and_l hg) | refine And.intro ?_ ?_)
        refine AG.qe hC rfl ?_ (estr.lenA _) ?_
        · intro hg; refine And.intro ?_ ?_ <;> repeat' (first | exact True.intro | exact hg | exact and_l hg | exact and_l (and_l hg) | refine And.intro ?_ ?_)
        refine AG.q hC rfl ?_ ?_
        · intro hg; refine And.intro ?_ ?_ <;> repeat' (first | exact True.intro | exact hg | exact and_l hg | exact and_l (and_l hg) | refine And.intro ?_ ?_)
        refine AG.p hC rfl ?_ ?_
        · intro hg; refine And.intro ?_ (And.intro ?_ ?_) <;> first | exact True.intro | exact fun _ => True.intro | exact And.intro hg True.intro | exact fun h' => And.intro (wb_f h') True.intro | exact fun h' => And.intro (wb_t h') True.intro | exact fun h' => And.intro (and_f hg h') True.intro | exact fun h' => And.intro (and_t hg h') True.intro | exact And.intro (and_l hg) True.intro
        refine AG.p hC rfl ?_ ?_
        · intro hg; refine And.intro ?_ (And.intro ?_ ?_) <;> first | exact True.intro | exact fun _ => True.intro | exact And.intro hg True.intro | exact fun h' => And.intro (wb_f h') True.intro | exact fun h' => And.intro (wb_t h') True.intro | exact fun h' => And.intro (and_f hg h') True.intro | exact fun h' => And.intro (and_t hg h') True.intro | exact And.intro (and_l hg) True.intro
        refine AG.p hC rfl ?_ ?_
        · intro hg; refine And.intro ?_ (And.intro ?_ ?_) <;> first | exact True.intro | exact fun _ => True.intro | exact And.intro hg True.intro | exact fun h' => And.intro (wb_f h') True.intro | exact fun h' => And.intro (wb_t h') True.intro | exact fun h' => And.intro (and_f hg h') True.intro | exact fun h' => And.intro (and_t hg h') True.intro | exact And.intro (and_l hg) True.intro
        refine AG.q hC rfl ?_ ?_
        · intro hg; refine And.intro ?_ ?_ <;> repeat' (first | exact True.intro | exact hg | exact and_l hg | exact and_l (and_l hg) | refine And.intro ?_ ?_)
        refine AG.q hC rfl ?_ ?_
        · intro hg; refine And.intro ?_ ?_ <;> repeat' (first | exact True.intro | exact hg | exact and_l hg | exact and_l (and_l hg) | refine And.intro ?_ ?_)
        refine AG.q hC rfl ?_ ?_
        · intro hg; refine And.intro ?_ ?_ <;> repeat' (first | exact True.intro | exact hg | exact and_l hg | exact and_l (and_l hg) | refine And.intro ?_ ?_)
        refine AG.q hC rfl ?_ ?_
        · intro hg; refine And.intro ?_ ?_ <;> repeat' (first | exact True.intro | exact hg | exact and_l hg | exact and_l (and_l hg) | refine And.intro ?_ ?_)
        refine AG.q hC rfl ?_ ?_
        · intro hg; refine And.intro ?_ ?_ <;> repeat' (first | exact True.intro | exact hg | exact and_l hg | exact and_l (and_l hg) | refine And.intro ?_ ?_)
        refine AG.q hC rfl ?_ ?_
        · intro hg; refine And.intro ?_ ?_ <;> repeat' (first | exact True.intro | exact hg | exact and_l hg | exact and_l (and_l hg) | refine And.intro ?_ ?_)
        refine AG.q hC rfl ?_ ?_
        · intro hg; refine And.intro ?_ ?_ <;> repeat' (first | exact True.intro | exact hg | exact and_l hg | exact and_l (and_l hg) | refine And.intro ?_ ?_)
        refine AG.q hC rfl ?_ ?_
        · intro hg; refine And.intro ?_ ?_ <;> repeat' (first | exact True.intro | exact hg | exact and_l hg | exact and_l (and_l hg) | refine And.intro ?_ ?_)
        refine AG.p hC rfl ?_ ?_
        · intro hg; refine And.intro ?_ (And.intro ?_ ?_) <;> first | exact True.intro | exact fun _ => True.intro | exact And.intro hg True.intro | exact fun h' => And.intro (wb_f h') True.intro | exact fun h' => And.intro (wb_t h') True.intro | exact fun h' => And.intro (and_f hg h') True.intro | exact fun h' => And.intro (and_t hg h') True.intro | exact And.intro (and_l hg) True.intro
        refine AG.q hC rfl ?_ ?_
        · intro hg; refine And.intro ?_ ?_ <;> repeat' (first | exact True.intro | exact hg | exact and_l hg | exact and_l (and_l hg) | refine And.intro ?_ ?_)
        refine AG.q hC rfl ?_ ?_
        · intro hg; refine And.intro ?_ ?_ <;> repeat' (first | exact True.intro | exact hg | exact and_l hg | exact and_l (and_l hg) | refine And.intro ?_ ?_)
        refine AG.q hC rfl ?_ ?_
        · intro hg; refine And.intro ?_ ?_ <;> repeat' (first | exact True.intro | exact hg | exact and_l hg | exact and_l (and_l hg) | refine And.intro ?_ ?_)
        refine AG.qe hC rfl ?_ (ApiType.lenA _) ?_
        · intro hg; refine And.intro ?_ ?_ <;> repeat' (first | exact True.intro | exact hg | exact and_l hg | exact and_l (and_l hg) | refine And.intro ?_ ?_)
        refine AG.q hC rfl ?_ ?_
        · intro hg; refine And.intro ?_ ?_ <;> repeat' (first | exact True.intro | exact hg | exact and_l hg | exact and_l (and_l hg) | refine And.intro ?_ ?_)
        refine AG.p hC rfl ?_ ?_
        · intro hg; refine And.intro ?_ (And.intro ?_ ?_) <;> first | exact True.intro | exact fun _ => True.intro | exact And.intro hg True.intro | exact fun h' => And.intro (wb_f h') True.intro | exact fun h' => And.intro (wb_t h') True.intro | exact fun h' => And.intro (and_f hg h') True.intro | exact fun h' => And.intro (and_t hg h') True.intro | exact And.intro (and_l hg) True.intro
        refine AG.p hC rfl ?_ ?_
        · intro hg; refine And.intro ?_ (And.intro ?_ ?_) <;> first | exact True.intro | exact fun _ => True.intro | exact And.intro hg True.intro | exact fun h' => And.intro (wb_f h') True.intro | exact fun h' => And.intro (wb_t h') True.intro | exact fun h' => And.intro (and_f hg h') True.intro | exact fun h' => And.intro (and_t hg h') True.intro | exact And.intro (and_l hg) True.intro
        refine AG.nil ?_
        refine AOps.nil ?_
        refine AEx.cond rfl (fun hb => ?_) (fun hb => ?_)
        · replace hh := if_t hb hh
          refine AEx.seq ?_
          refine AEx.regionN rfl rfl ?_
          refine AOps.q hC rfl trivial ?_
          refine AOps.nil ?_
          refine AEx.ret ?_
          obtain rfl := Option.some.inj hh
          exact ⟨_, _, [], rfl, .rfl, trivial, rfl, rfl, rfl, rfl⟩
        · replace hh := if_f hb hh
          refine AEx.skip ?_
          refine AEx.seq ?_
          refine AEx.seq ?_
          refine AEx.regionN rfl rfl ?_
          refine AOps.q hC rfl trivial ?_
          refine AOps.nil ?_
          refine AEx.block ?_
          refine AEx.ofLoop ?_
          refine ALoop.wk ?_ (ih1 _ _ _ hh)
          exact ⟨⟨⟨.rfl, rfl⟩, ⟨⟨.rfl, rfl⟩, trivial⟩⟩, ⟨⟨rfl, .refl _, rfl⟩, trivial⟩, rfl⟩
  · intro g0 g1 ih0 ih1 t i res hh
    refine ALoop.unroll ?_
    refine AEx.seq ?_
    refine AEx.seq ?_
    refine AEx.regionN rfl rfl ?_
    iterate 3 refine AOps.q hC rfl trivial ?_
    refine AOps.qe hC rfl trivial (ApiType.lenA _) ?_
    refine AOps.q hC rfl trivial ?_
    refine AOps.nil ?_
    refine AEx.cond rfl (fun hb => ?_) (fun hb => ?_)
    · replace hh := if_t hb hh
      refine AEx.skip ?_
      refine AEx.seq ?_
      refine AEx.block ?_
      refine AEx.seq ?_
      refine AEx.regionN rfl rfl ?_
      iterate 3 refine AOps.q hC rfl trivial ?_
      obtain ⟨x1, hx1, hh⟩ := bind_some hh
      refine AOps.i hC rfl (idx_nat hx1) (ApiType.idx hx1) rfl ?_
      refine AOps.q hC rfl trivial ?_
      obtain ⟨x2, hx2, hh⟩ := bind_some hh
      refine AOps.c rfl rfl (ih0 _ _ hx2) ?_
      refine AOps.q hC rfl trivial ?_
      refine AOps.nil ?_
      refine AEx.cond rfl (fun hb => ?_) (fun hb => ?_)
      · replace hh := if_t hb hh
        refine AEx.seq ?_
        refine AEx.regionN rfl rfl ?_
        refine AOps.q hC rfl trivial ?_
        refine AOps.nil ?_
        refine AEx.ret ?_
        obtain rfl := Option.some.inj hh
        exact ⟨_, _, [], rfl, .rfl, trivial, rfl, rfl, rfl, rfl⟩
      · replace hh := if_f hb hh
        refine AEx.skip ?_
        refine AEx.regionN rfl rfl ?_
        iterate 3 refine AOps.q hC rfl trivial ?_
        refine AOps.nil ?_
        refine ALoop.wk ?_ (ih1 _ _ _ hh)
        exact ⟨⟨⟨.rfl, rfl⟩, ⟨⟨.rfl, rfl⟩, trivial⟩⟩, ⟨⟨rfl, .refl _, rfl⟩, trivial⟩, rfl⟩
    · replace hh := if_f hb hh
      refine AEx.exit ?_
      refine AEx.seq ?_
      refine AEx.regionN rfl rfl ?_
      refine AOps.q hC rfl trivial ?_
      refine AOps.nil ?_
      refine AEx.ret ?_
      obtain rfl := Option.some.inj hh
      exact ⟨_, _, [], rfl, .rfl, trivial, rfl, rfl, rfl, rfl⟩
theorem ref10_typeForm_ok {t : ApiType} {res : Bool} (hh : ref10_typeForm t = some res) : ACall C 107 [.agg (ApiType.cells t)] [] (fun x H' => H' = [] ∧ x = .d (.bool res)) := (ref10_typeForm_grp).1 _ _ hh
theorem ref10_typeForm_l1_ok {t : ApiType} {i : Int} {res : Bool} (hh : ref10_typeForm_l1 t i = some res) : ALoop (Fx.mk C 115 0) (lo (bk (sr (sl (sr (sr (sr (sr (bodyOf Tryd.f107))))))))) (mkEnv [(1, .ref 0 0), (3, .d (.int .i64 i))]) [.row (ApiType.cells t) 27] (Am.InBlock 0 (Am.Then (Fx.mk C 115 0) (sr (sr (sr (sr (sr (bodyOf Tryd.f107)))))) (Am.Ends (Fx.mk C 115 0) Tryd.f107.results.toList (fun x H' => H' = [] ∧ x = .d (.bool res))))) := (ref10_typeForm_grp).2 _ _ _ hh
mutual
def ref10_typeNames (t : ApiType) : Option Bool :=
  (if (t.Kind == 4) = true then ref10_IsName t.Name else some default) >>= fun x1 =>
  if (bif (t.Kind == 4) then (!x1) else false) = true then
    some false
  else
    ref10_typeNames_l1 t 0
  partial_fixpoint
def ref10_typeNames_l1 (t : ApiType) (i : Int) : Option Bool :=
  if (decide (i < ((t.Names).length : Int))) = true then
    idx t.Names i >>= fun x2 =>
    ref10_IsName x2 >>= fun x3 =>
    if (!x3) = true then
      some false
    else
      ref10_typeNames_l1 t (IntKind.i64.wrap (i + 1))
  else
    ref10_typeNames_l2 t 0
  partial_fixpoint
def ref10_typeNames_l2 (t : ApiType) (i1 : Int) : Option Bool :=
  if (decide (i1 < ((t.Of).length : Int))) = true then
    idx t.Of i1 >>= fun x4 =>
    ref10_typeNames x4 >>= fun x5 =>
    if (!x5) = true then
      some false
    else
      ref10_typeNames_l2 t (IntKind.i64.wrap (i1 + 1))
  else
    some true
  partial_fixpoint
end
theorem ref10_typeNames_grp : (∀ (t : ApiType) (res : Bool), ref10_typeNames t = some res → ACall C 108 [.agg (ApiType.cells t)] [] (fun x H' => H' = [] ∧ x = .d (.bool res))) ∧
    (∀ (t : ApiType) (i : Int) (res : Bool), ref10_typeNames_l1 t i = some res → ALoop (Fx.mk C 42 0) (lo (bk (sr (sl (sr (sr (bodyOf Tryd.f108))))))) (mkEnv [(1, .ref 0 0), (3, .d (.int .i64 i))]) [.row (ApiType.cells t) 27] (Am.InBlock 0 (Am.Then (Fx.mk C 42 0) (sr (sr (sr (bodyOf Tryd.f108)))) (Am.Ends (Fx.mk C 42 0) Tryd.f108.results.toList (fun x H' => H' = [] ∧ x = .d (.bool res)))))) ∧
    (∀ (t : ApiType) (i1 : Int) (res : Bool), ref10_typeNames_l2 t i1 = some res → ALoop (Fx.mk C 42 0) (lo (bk (sr (sl (sr (sr (sr (bodyOf Tryd.f108)))))))) (mkEnv [(1, .ref 0 0), (4, .d (.int .i64 i1))]) [.row (ApiType.cells t) 27] (Am.InBlock 2 (Am.Then (Fx.mk C 42 0) (sr (sr (sr (sr (bodyOf Tryd.f108))))) (Am.Ends (Fx.mk C 42 0) Tryd.f108.results.toList (fun x H' => H' = [] ∧ x = .d (.bool res)))))) := by
  refine ref10_typeNames.mutual_partial_correctness (fun t res => ACall C 108 [.agg (ApiType.cells t)] [] (fun x H' => H' = [] ∧ x = .d (.bool res)))
    (fun t i res => ALoop (Fx.mk C 42 0) (lo (bk (sr (sl (sr (sr (bodyOf Tryd.f108))))))) (mkEnv [(1, .ref 0 0), (3, .d (.int .i64 i))]) [.row (ApiType.cells t) 27] (Am.InBlock 0 (Am.Then (Fx.mk C 42 0) (sr (sr (sr (bodyOf Tryd.f108)))) (Am.Ends (Fx.mk C 42 0) Tryd.f108.results.toList (fun x H' => H' = [] ∧ x = .d (.bool res))))))
    (fun t i1 res => ALoop (Fx.mk C 42 0) (lo (bk (sr (sl (sr (sr (sr (bodyOf Tryd.f108)))))))) (mkEnv [(1, .ref 0 0), (4, .d (.int .i64 i1))]) [.row (ApiType.cells t) 27] (Am.InBlock 2 (Am.Then (Fx.mk C 42 0) (sr (sr (sr (sr (bodyOf Tryd.f108))))) (Am.Ends (Fx.mk C 42 0) Tryd.f108.results.toList (fun x H' => H' = [] ∧ x = .d (.bool res)))))) ?_ ?_ ?_
  · intro g1 ih1 t res hh
    refine ACall.intro hC Tryd.func108 rfl rfl rfl ?_
    refine AEx.seq ?_
    refine AEx.regionN rfl rfl ?_
    refine AOps.n hC rfl ?_
    refine AOps.q hC rfl trivial ?_
    refine AOps.nil ?_
    refine AEx.seq ?_
    refine AEx.seq ?_
    refine AEx.regionG 9 rfl ?_
    refine AG.q hC rfl ?_ ?_
    · intro hg; refine And.intro ?_ ?_ <;> repeat' (first | exact True.intro | exact hg | exact and_l hg | exact and_l (and_l hg) | refine And.intro ?_ ?_)
    refine AG.q hC rfl ?_ ?_
    · intro hg; refine And.intro ?_ ?_ <;> repeat' (first | exact True.intro | exact hg | exact and_l hg | exact and_l (and_l hg) | refine And.intro ?_ ?_)
    refine AG.q hC rfl ?_ ?_
    · intro hg; refine And.intro ?_ ?_ <;> repeat' (first | exact True.intro | exact hg | exact and_l hg | exact and_l (and_l hg) | refine And.intro ?_ ?_)
    refine AG.q hC rfl ?_ ?_
    · intro hg; refine And.intro ?_ ?_ <;> repeat' (first | exact True.intro | exact hg | exact and_l hg | exact and_l (and_l hg) | refine And.intro ?_ ?_)
    refine AG.q hC rfl ?_ ?_
    · intro hg; refine And.intro ?_ ?_ <;> repeat' (first | exact True.intro | exact hg | exact and_l hg | exact and_l (and_l hg) | refine And.intro ?_ ?_)
    refine AG.q hC rfl ?_ ?_
    · intro hg; refine And.intro ?_ ?_ <;> repeat' (first | exact True.intro | exact hg | exact and_l hg | exact and_l (and_l hg) | refine And.intro ?_ ?_)
    obtain ⟨x1, hx1, hh⟩ := bind_some hh
    refine AG.c rfl rfl (by intro hg; repeat' (first | exact True.intro | exact hg | exact and_l hg | exact and_l (and_l hg) | refine And.intro ?_ ?_)) (fun hw => ref10_IsName_ok (if_t hw hx1)) ?_
    refine AG.q hC rfl ?_ ?_
    · intro hg; refine And.intro ?_ ?_ <;> repeat' (first | exact True.intro | exact hg | exact and_l hg | exact and_l (and_l hg) | refine And.intro ?_ ?_)
    refine AG.p hC rfl ?_ ?_
    · intro hg; refine And.intro ?_ (And.intro ?_ ?_) <;> first | exact True.intro | exact fun _ => True.intro | exact And.intro hg True.intro | exact fun h' => And.intro (wb_f h') True.intro | exact fun h' => And.intro (wb_t h') True.intro | exact fun h' => And.intro (and_f hg h') True.intro | exact fun h' => And.intro (and_t hg h') True.intro | exact And.intro (and_l hg) True.intro
    refine AG.nil ?_
    refine AOps.nil ?_
    refine AEx.cond rfl (fun hb => ?_) (fun hb => ?_)
    · replace hh := if_t hb hh
      refine AEx.seq ?_
      refine AEx.regionN rfl rfl ?_
      refine AOps.q hC rfl trivial ?_
      refine AOps.nil ?_
      refine AEx.ret ?_
      obtain rfl := Option.some.inj hh
      exact ⟨_, _, [], rfl, .rfl, trivial, rfl, rfl, rfl, rfl⟩
    · replace hh := if_f hb hh
      refine AEx.skip ?_
      refine AEx.seq ?_
      refine AEx.seq ?_
      refine AEx.regionN rfl rfl ?_
      refine AOps.q hC rfl trivial ?_
      refine AOps.nil ?_
      refine AEx.block ?_
      refine AEx.ofLoop ?_
      refine ALoop.wk ?_ (ih1 _ _ _ hh)
      exact ⟨⟨⟨.rfl, rfl⟩, ⟨⟨.rfl, rfl⟩, trivial⟩⟩, ⟨⟨rfl, .refl _, rfl⟩, trivial⟩, rfl⟩
  · intro g1 g2 ih1 ih2 t i res hh
    refine ALoop.unroll ?_
    refine AEx.seq ?_
    refine AEx.seq ?_
    refine AEx.regionN rfl rfl ?_
    iterate 3 refine AOps.q hC rfl trivial ?_
    refine AOps.qe hC rfl trivial (estr.lenA _) ?_
    refine AOps.q hC rfl trivial ?_
    refine AOps.nil ?_
    refine AEx.cond rfl (fun hb => ?_) (fun hb => ?_)
    · replace hh := if_t hb hh
      refine AEx.skip ?_
      refine AEx.seq ?_
      refine AEx.block ?_
      refine AEx.seq ?_
      refine AEx.regionN rfl rfl ?_
      iterate 3 refine AOps.q hC rfl trivial ?_
      obtain ⟨x2, hx2, hh⟩ := bind_some hh
      refine AOps.i hC rfl (idx_nat hx2) (estr.idx hx2) rfl ?_
      refine AOps.q hC rfl trivial ?_
      obtain ⟨x3, hx3, hh⟩ := bind_some hh
      refine AOps.c rfl rfl (ref10_IsName_ok hx3) ?_
      refine AOps.q hC rfl trivial ?_
      refine AOps.nil ?_
      refine AEx.cond rfl (fun hb => ?_) (fun hb => ?_)
      · replace hh := if_t hb hh
        refine AEx.seq ?_
        refine AEx.regionN rfl rfl ?_
        refine AOps.q hC rfl trivial ?_
        refine AOps.nil ?_
        refine AEx.ret ?_
        obtain rfl := Option.some.inj hh
        exact ⟨_, _, [], rfl, .rfl, trivial, rfl, rfl, rfl, rfl⟩
      · replace hh := if_f hb hh
        refine AEx.skip ?_
        refine AEx.regionN rfl rfl ?_
        iterate 3 refine AOps.q hC rfl trivial ?_
        refine AOps.nil ?_
        refine ALoop.wk ?_ (ih1 _ _ _ hh)
        exact ⟨⟨⟨.rfl, rfl⟩, ⟨⟨.rfl, rfl⟩, trivial⟩⟩, ⟨⟨rfl, .refl _, rfl⟩, trivial⟩, rfl⟩
    · replace hh := if_f hb hh
      refine AEx.exit ?_
      refine AEx.seq ?_
      refine AEx.seq ?_
      refine AEx.regionN rfl rfl ?_
      refine AOps.q hC rfl trivial ?_
      refine AOps.nil ?_
      refine AEx.block ?_
      refine AEx.ofLoop ?_
      refine ALoop.wk ?_ (ih2 _ _ _ hh)
      exact ⟨⟨⟨.rfl, rfl⟩, ⟨⟨.rfl, rfl⟩, trivial⟩⟩, ⟨⟨rfl, .refl _, rfl⟩, trivial⟩, rfl⟩
  · intro g0 g2 ih0 ih2 t i1 res hh
    refine ALoop.unroll ?_
    refine AEx.seq ?_
    refine AEx.seq ?_
    refine AEx.regionN rfl rfl ?_
    iterate 3 refine AOps.q hC rfl trivial ?_
    refine AOps.qe hC rfl trivial (ApiType.lenA _) ?_
    refine AOps.q hC rfl trivial ?_
    refine AOps.nil ?_
    refine AEx.cond rfl (fun hb => ?_) (fun hb => ?_)
    · replace hh := if_t hb hh
      refine AEx.skip ?_
      refine AEx.seq ?_
      refine AEx.block ?_
      refine AEx.seq ?_
      refine AEx.regionN rfl rfl ?_
      iterate 3 refine AOps.q hC rfl trivial ?_
      obtain ⟨x4, hx4, hh⟩ := bind_some hh
      refine AOps.i hC rfl (idx_nat hx4) (ApiType.idx hx4) rfl ?_
      refine AOps.q hC rfl trivial ?_
      obtain ⟨x5, hx5, hh⟩ := bind_some hh
      refine AOps.c rfl rfl (ih0 _ _ hx5) ?_
      refine AOps.q hC rfl trivial ?_
      refine AOps.nil ?_
      refine AEx.cond rfl (fun hb => ?_) (fun hb => ?_)
      · replace hh := if_t hb hh
        refine AEx.seq ?_
        refine AEx.regionN rfl rfl ?_
        refine AOps.q hC rfl trivial ?_
        refine AOps.nil ?_
        refine AEx.ret ?_
        obtain rfl := Option.some.inj hh
        exact ⟨_, _, [], rfl, .rfl, trivial, rfl, rfl, rfl, rfl⟩
      · replace hh := if_f hb hh
        refine AEx.skip ?_
        refine AEx.regionN rfl rfl ?_
        iterate 3 refine AOps.q hC rfl trivial ?_
        refine AOps.nil ?_
        refine ALoop.wk ?_ (ih2 _ _ _ hh)
        exact ⟨⟨⟨.rfl, rfl⟩, ⟨⟨.rfl, rfl⟩, trivial⟩⟩, ⟨⟨rfl, .refl _, rfl⟩, trivial⟩, rfl⟩
    · replace hh := if_f hb hh
      refine AEx.exit ?_
      refine AEx.seq ?_
      refine AEx.regionN rfl rfl ?_
      refine AOps.q hC rfl trivial ?_
      refine AOps.nil ?_
      refine AEx.ret ?_
      obtain rfl := Option.some.inj hh
      exact ⟨_, _, [], rfl, .rfl, trivial, rfl, rfl, rfl, rfl⟩
theorem ref10_typeNames_ok {t : ApiType} {res : Bool} (hh : ref10_typeNames t = some res) : ACall C 108 [.agg (ApiType.cells t)] [] (fun x H' => H' = [] ∧ x = .d (.bool res)) := (ref10_typeNames_grp).1 _ _ hh
theorem ref10_typeNames_l1_ok {t : ApiType} {i : Int} {res : Bool} (hh : ref10_typeNames_l1 t i = some res) : ALoop (Fx.mk C 42 0) (lo (bk (sr (sl (sr (sr (bodyOf Tryd.f108))))))) (mkEnv [(1, .ref 0 0), (3, .d (.int .i64 i))]) [.row (ApiType.cells t) 27] (Am.InBlock 0 (Am.Then (Fx.mk C 42 0) (sr (sr (sr (bodyOf Tryd.f108)))) (Am.Ends (Fx.mk C 42 0) Tryd.f108.results.toList (fun x H' => H' = [] ∧ x = .d (.bool res))))) := (ref10_typeNames_grp).2.1 _ _ _ hh
theorem ref10_typeNames_l2_ok {t : ApiType} {i1 : Int} {res : Bool} (hh : ref10_typeNames_l2 t i1 = some res) : ALoop (Fx.mk C 42 0) (lo (bk (sr (sl (sr (sr (sr (bodyOf Tryd.f108)))))))) (mkEnv [(1, .ref 0 0), (4, .d (.int .i64 i1))]) [.row (ApiType.cells t) 27] (Am.InBlock 2 (Am.Then (Fx.mk C 42 0) (sr (sr (sr (sr (bodyOf Tryd.f108))))) (Am.Ends (Fx.mk C 42 0) Tryd.f108.results.toList (fun x H' => H' = [] ∧ x = .d (.bool res))))) := (ref10_typeNames_grp).2.2 _ _ _ hh
def ref10_within (n : Int) : Option Bool :=
  some (bif (decide (n ≥ (-1048576))) then (decide (n ≤ 1048576)) else false)
theorem ref10_within_ok {n : Int} {res : Bool} (hh : ref10_within n = some res) : ACall C 140 [.d (.int .i64 n)] [] (fun x H' => H' = [] ∧ x = .d (.bool res)) := by
  unfold ref10_within at hh
  refine ACall.intro hC Tryd.func140 rfl rfl rfl ?_
  refine AEx.seq ?_
  refine AEx.regionN rfl rfl ?_
  refine AOps.q hC rfl trivial ?_
  refine AOps.nil ?_
  refine AEx.seq ?_
  refine AEx.regionG 7 rfl ?_
  refine AG.q hC rfl ?_ ?_
  · intro hg; refine And.intro ?_ ?_ <;> repeat' (first | exact True.intro | exact hg | exact and_l hg | exact and_l (and_l hg) | refine And.intro ?_ ?_)
  refine AG.q hC rfl ?_ ?_
  · intro hg; refine And.intro ?_ ?_ <;> repeat' (first | exact True.intro | exact hg | exact and_l hg | exact and_l (and_l hg) | refine And.intro ?_ ?_)
  refine AG.q hC rfl ?_ ?_
  · intro hg; refine And.intro ?_ ?_ <;> repeat' (first | exact True.intro | exact hg | exact and_l hg | exact and_l (and_l hg) | refine And.intro ?_ ?_)
  refine AG.q hC rfl ?_ ?_
  · intro hg; refine And.intro ?_ ?_ <;> repeat' (first | exact True.intro | exact hg | exact and_l hg | exact and_l (and_l hg) | refine And.intro ?_ ?_)
  refine AG.q hC rfl ?_ ?_
  · intro hg; refine And.intro ?_ ?_ <;> repeat' (first | exact True.intro | exact hg | exact and_l hg | exact and_l (and_l hg) | refine And.intro ?_ ?_)
  refine AG.p hC rfl ?_ ?_
  · intro hg; refine And.intro ?_ (And.intro ?_ ?_) <;> first | exact True.intro | exact fun _ => True.intro | exact And.intro hg True.intro | exact fun h' => And.intro (wb_f h') True.intro | exact fun h' => And.intro (wb_t h') True.intro | exact fun h' => And.intro (and_f hg h') True.intro | exact fun h' => And.intro (and_t hg h') True.intro | exact And.intro (and_l hg) True.intro
  refine AG.q hC rfl ?_ ?_
  · intro hg; refine And.intro ?_ ?_ <;> repeat' (first | exact True.intro | exact hg | exact and_l hg | exact and_l (and_l hg) | refine And.intro ?_ ?_)
  refine AG.nil ?_
  refine AOps.nil ?_
  refine AEx.ret ?_
  obtain rfl := Option.some.inj hh
  exact ⟨_, _, [], rfl, .rfl, trivial, rfl, rfl, rfl, rfl⟩
mutual
def ref10_typeNumbers (t : ApiType) : Option Bool :=
  (if (t.Kind == 1) = true then ref10_within t.Low else some default) >>= fun x1 =>
  (if ((t.Kind == 1) && (!(!x1))) = true then ref10_within t.High else some default) >>= fun x2 =>
  if (bif (bif (bif (t.Kind == 1) then (bif (bif (!x1) then true else (!x2)) then true else (decide (t.Low > t.High))) else false) then true else (bif (t.Kind == 2) then (bif (decide (t.Size < 1)) then true else (decide (t.Size > 32))) else false)) then true else (decide (((t.Of).length : Int) > 32))) = true then
    some false
  else
    ref10_typeNumbers_l1 t 0
  partial_fixpoint
def ref10_typeNumbers_l1 (t : ApiType) (i : Int) : Option Bool :=
  if (decide (i < ((t.Of).length : Int))) = true then
    idx t.Of i >>= fun x3 =>
    ref10_typeNumbers x3 >>= fun x4 =>
    if (!x4) = true then
      some false
    else
      ref10_typeNumbers_l1 t (IntKind.i64.wrap (i + 1))
  else
    some true
  partial_fixpoint
end
theorem ref10_typeNumbers_grp : (∀ (t : ApiType) (res : Bool), ref10_typeNumbers t = some res → ACall C 109 [.agg (ApiType.cells t)] [] (fun x H' => H' = [] ∧ x = .d (.bool res))) ∧
    (∀ (t : ApiType) (i : Int) (res : Bool), ref10_typeNumbers_l1 t i = some res → ALoop (Fx.mk C 61 0) (lo (bk (sr (sl (sr (sr (bodyOf Tryd.f109))))))) (mkEnv [(1, .ref 0 0), (3, .d (.int .i64 i))]) [.row (ApiType.cells t) 27] (Am.InBlock 0 (Am.Then (Fx.mk C 61 0) (sr (sr (sr (bodyOf Tryd.f109)))) (Am.Ends (Fx.mk C 61 0) Tryd.f109.results.toList (fun x H' => H' = [] ∧ x = .d (.bool res)))))) := by
  refine ref10_typeNumbers.mutual_partial_correctness (fun t res => ACall C 109 [.agg (ApiType.cells t)] [] (fun x H' => H' = [] ∧ x = .d (.bool res)))
    (fun t i res => ALoop (Fx.mk C 61 0) (lo (bk (sr (sl (sr (sr (bodyOf Tryd.f109))))))) (mkEnv [(1, .ref 0 0), (3, .d (.int .i64 i))]) [.row (ApiType.cells t) 27] (Am.InBlock 0 (Am.Then (Fx.mk C 61 0) (sr (sr (sr (bodyOf Tryd.f109)))) (Am.Ends (Fx.mk C 61 0) Tryd.f109.results.toList (fun x H' => H' = [] ∧ x = .d (.bool res)))))) ?_ ?_
  · intro g1 ih1 t res hh
    refine ACall.intro hC Tryd.func109 rfl rfl rfl ?_
    refine AEx.seq ?_
    refine AEx.regionN rfl rfl ?_
    refine AOps.n hC rfl ?_
    refine AOps.q hC rfl trivial ?_
    refine AOps.nil ?_
    refine AEx.seq ?_
    refine AEx.seq ?_
    refine AEx.regionG 43 rfl ?_
    refine AG.q hC rfl ?_ ?_
    · intro hg; refine And.intro ?_ ?_ <;> repeat' (first | exact True.intro | exact hg | exact and_l hg | exact and_l (and_l hg) | refine And.intro ?_ ?_)
    refine AG.q hC rfl ?_ ?_
    · intro hg; refine And.intro ?_ ?_ <;> repeat' (first | exact True.intro | exact hg | exact and_l hg | exact and_l (and_l hg) | refine And.intro ?_ ?_)
    refine AG.q hC rfl ?_ ?_
    · intro hg; refine And.intro ?_ ?_ <;> repeat' (first | exact True.intro | exact hg | exact and_l hg | exact and_l (and_l hg) | refine And.intro ?_ ?_)
    refine AG.q hC rfl ?_ ?_
    · intro hg; refine And.intro ?_ ?_ <;> repeat' (first | exact True.intro | exact hg | exact and_l hg | exact and_l (and_l hg) | refine And.intro ?_ ?_)
    refine AG.q hC rfl ?_ ?_
    · intro hg; refine And.intro ?_ ?_ <;> repeat' (first | exact True.intro | exact hg | exact and_l hg | exact and_l (and_l hg) | refine And.intro ?_ ?_)
    refine AG.q hC rfl ?_ ?_
    · intro hg; refine And.intro ?_ ?_ <;> repeat' (first | exact True.intro | exact hg | exact and_l hg | exact and_l (and_l hg) | refine And.intro ?_ ?_)
    obtain ⟨x1, hx1, hh⟩ := bind_some hh
    refine AG.c rfl rfl (by intro hg; repeat' (first | exact True.intro | exact hg | exact and_l hg | exact and_l (and_l hg) | refine And.intro ?_ ?_)) (fun hw => ref10_within_ok (if_t hw hx1)) ?_
    refine AG.q hC rfl ?_ ?_
    · intro hg; refine And.intro ?_ ?_ <;> repeat' (first | exact True.intro | exact hg | exact and_l hg | exact and_l (and_l hg) | refine And.intro ?_ ?_)
    refine AG.q hC rfl ?_ ?_
    · intro hg; refine And.intro ?_ ?_ <;> repeat' (first | exact True.intro | exact hg | exact and_l hg | exact and_l (and_l hg) | refine And.intro ?_ ?_)
    refine AG.q hC rfl ?_ ?_
    · intro hg; refine And.intro ?_ ?_ <;> repeat' (first | exact True.intro | exact hg | exact and_l hg | exact and_l (and_l hg) | refine And.intro ?_ ?_)
    refine AG.q hC rfl ?_ ?_
    · intro hg; refine And.intro ?_ ?_ <;> repeat' (first | exact True.intro | exact hg | exact and_l hg | exact and_l (and_l hg) | refine And.intro ?_ ?_)
    obtain ⟨x2, hx2, hh⟩ := bind_some hh
    refine AG.c rfl rfl (by intro hg; repeat' (first | exact True.intro | exact hg | exact and_l hg | exact and_l (and_l hg) | refine And.intro ?_ ?_)) (fun hw => ref10_within_ok (if_t hw hx2)) ?_
    refine AG.q hC rfl ?_ ?_
    · intro hg; refine And.intro ?_ ?_ <;> repeat' (first | exact True.intro | exact hg | exact and_l hg | exact and_l (and_l hg) | refine And.intro ?_ ?_)
    refine AG.p hC rfl ?_ ?_
    · intro hg; refine And.intro ?_ (And.intro ?_ ?_) <;> first | exact True.intro | exact fun _ => True.intro | exact And.intro hg True.intro | exact fun h' => And.intro (wb_f h') True.intro | exact fun h' => And.intro (wb_t h') True.intro | exact fun h' => And.intro (and_f hg h') True.intro | exact fun h' => And.intro (and_t hg h') True.intro | exact And.intro (and_l hg) True.intro
    refine AG.q hC rfl ?_ ?_
    · intro hg; refine And.intro ?_ ?_ <;> repeat' (first | exact True.intro | exact hg | exact and_l hg | exact and_l (and_l hg) | refine And.intro ?_ ?_)
    refine AG.q hC rfl ?_ ?_
    · intro hg; refine And.intro ?_ ?_ <;> repeat' (first | exact True.intro | exact hg | exact and_l hg | exact and_l (and_l hg) | refine And.intro ?_ ?_)
    refine AG.q hC rfl ?_ ?_
    · intro hg; refine And.intro ?_ ?_ <;> repeat' (first | exact True.intro | exact hg | exact and_l hg | exact and_l (and_l hg) | refine And.intro ?_ ?_)
    refine AG.q hC rfl ?_ ?_
    · intro hg; refine And.intro ?_ ?_ <;> repeat' (first | exact True.intro | exact hg | exact and_l hg | exact and_l (and_l hg) | refine And.intro ?_ ?_)
    refine AG.q hC rfl ?_ ?_
    · intro hg; refine And.intro ?_ ?_ <;> repeat' (first | exact True.intro | exact hg | exact and_l hg | exact and_l (and_l hg) | refine And.intro ?_ ?_)
    refine AG.q hC rfl ?_ ?_
    · intro hg; refine And.intro ?_ ?_ <;> repeat' (first | exact True.intro | exact hg | exact and_l hg | exact and_l (and_l hg) | refine And.intro ?_ ?_)
    refine AG.p hC rfl ?_ ?_
    · intro hg; refine And.intro ?_ (And.intro ?_ ?_) <;> first | exact True.intro | exact fun _ => True.intro | exact And.intro hg True.intro | exact fun h' => And.intro (wb_f h') True.intro | exact fun h' => And.intro (wb_t h') True.intro | exact fun h' => And.intro (and_f hg h') True.intro | exact fun h' => And.intro (and_t hg h') True.intro | exact And.intro (and_l hg) True.intro
    refine AG.p hC rfl ?_ ?_
    · intro hg; refine And.intro ?_ (And.intro ?_ ?_) <;> first | exact True.intro | exact fun _ => True.intro | exact And.intro hg True.intro | exact fun h' => And.intro (wb_f h') True.intro | exact fun h' => And.intro (wb_t h') True.intro | exact fun h' => And.intro (and_f hg h') True.intro | exact fun h' => And.intro (and_t hg h') True.intro | exact And.intro (and_l hg) True.intro
    refine AG.q hC rfl ?_ ?_
    · intro hg; refine And.intro ?_ ?_ <;> repeat' (first | exact True.intro | exact hg | exact and_l hg | exact and_l (and_l hg) | refine And.intro ?_ ?_)
    refine AG.q hC rfl ?_ ?_
    · intro hg; refine And.intro ?_ ?_ <;> repeat' (first | exact True.intro | exact hg | exact and_l hg | exact and_l (and_l hg) | refine And.intro ?_ ?_)
    refine AG.q hC rfl ?_ ?_
    · intro hg; refine And.intro ?_ ?_ <;> repeat' (first | exact True.intro | exact hg | exact and_l hg | exact and_l (and_l hg) | refine And.intro ?_ ?_)
    refine AG.q hC rfl ?_ ?_
    · intro hg; refine And.intro ?_ ?_ <;> repeat' (first | exact True.intro | exact hg | exact and_l hg | exact and_l (and_l hg) | refine And.intro ?_ ?_)
    refine AG.q hC rfl ?_ ?_
    · intro hg; refine And.intro ?_ ?_ <;> repeat' (first | exact True.intro | exact hg | exact and_l hg | exact and_l (and_l hg) | refine And.intro ?_ ?_)
    refine AG.q hC rfl ?_ ?_
    · intro hg; refine And.intro ?_ ?_ <;> repeat' (first | exact True.intro | exact hg | exact and_l hg | exact and_l (and_l hg) | refine And.intro ?_ ?_)
    refine AG.q hC rfl ?_ ?_
    · intro hg; refine And.intro ?_ ?_ <;> repeat' (first | exact True.intro | exact hg | exact and_l hg | exact and_l (and_l hg) | refine And.intro ?_ ?_)
    refine AG.q hC rfl ?_ ?_
    · intro hg; refine And.intro ?_ ?_ <;> repeat' (first | exact True.intro | exact hg | exact and_l hg | exact and_l (and_l hg) | refine And.intro ?_ ?_)
    refine AG.q hC rfl ?_ ?_
    · intro hg; refine And.intro ?_ ?_ <;> repeat' (first | exact True.intro | exact hg | exact and_l hg | exact and_l (and_l hg) | refine And.intro ?_ ?_)
    refine AG.q hC rfl ?_ ?_
    · intro hg; refine And.intro ?_ ?_ <;> repeat' (first | exact True.intro | exact hg | exact and_l hg | exact and_l (and_l hg) | refine And.intro ?_ ?_)
    refine AG.q hC rfl ?_ ?_
    · intro hg; refine And.intro ?_ ?_ <;> repeat' (first | exact True.intro | exact hg | exact and_l hg | exact and_l (and_l hg) | refine And.intro ?_ ?_)
    refine AG.q hC rfl ?_ ?_
    · intro hg; refine And.intro ?_ ?_ <;> repeat' (first | exact True.intro | exact hg | exact and_l hg | exact and_l (and_l hg) | refine And.intro ?_ ?_)
    refine AG.p hC rfl ?_ ?_
    · intro hg; refine And.intro ?_ (And.intro ?_ ?_) <;> first | exact True.intro | exact fun _ => True.intro | exact And.intro hg True.intro | exact fun h' => And.intro (wb_f h') True.intro | exact fun h' => And.intro (wb_t h') True.intro | exact fun h' => And.intro (and_f hg h') True.intro | exact fun h' => And.intro (and_t hg h') True.intro | exact And.intro (and_l hg) True.intro
    refine AG.p hC rfl ?_ ?_
    · intro hg; refine And.intro ?_ (And.intro ?_ ?_) <;> first | exact True.intro | exact fun _ => True.intro | exact And.intro hg True.intro | exact fun h' => And.intro (wb_f h') True.intro | exact fun h' => And.intro (wb_t h') True.intro | exact fun h' => And.intro (and_f hg h') True.intro | exact fun h' => And.intro (and_t hg h') True.intro | exact And.intro (and_l hg) True.intro
    refine AG.p hC rfl ?_ ?_
    · intro hg; refine And.intro ?_ (And.intro ?_ ?_) <;> first | exact True.intro | exact fun _ => True.intro | exact And.intro hg True.intro | exact fun h' => And.intro (wb_f h') True.intro | exact fun h' => And.intro (wb_t h') True.intro | exact fun h' => And.intro (and_f hg h') True.intro | exact fun h' => And.intro (and_t hg h') True.intro | exact And.intro (and_l hg) True.intro
    refine AG.q hC rfl ?_ ?_
    · intro hg; refine And.intro ?_ ?_ <;> repeat' (first | exact True.intro | exact hg | exact and_l hg | exact and_l (and_l hg) | refine And.intro ?_ ?_)
    refine AG.q hC rfl ?_ ?_
    · intro hg; refine And.intro ?_ ?_ <;> repeat' (first | exact True.intro | exact hg | exact and_l hg | exact and_l (and_l hg) | refine And.intro ?_ ?_)
    refine AG.q hC rfl ?_ ?_
    · intro hg; refine And.intro ?_ ?_ <;> repeat' (first | exact True.intro | exact hg | exact and_l hg | exact and_l (and_l hg) | refine And.intro ?_ ?_)
    refine AG.qe hC rfl ?_ (ApiType.lenA _) ?_
    · intro hg; refine And.intro ?_ ?_ <;> repeat' (first | exact True.intro | exact hg | exact and_l hg | exact and_l (and_l hg) | refine And.intro ?_ ?_)
    refine AG.q hC rfl ?_ ?_
    · intro hg; refine And.intro ?_ ?_ <;> repeat' (first | exact True.intro | exact hg | exact and_l hg | exact and_l (and_l hg) | refine And.intro ?_ ?_)
    refine AG.p hC rfl ?_ ?_
    · intro hg; refine And.intro ?_ (And.intro ?_ ?_) <;> first | exact True.intro | exact fun _ => True.intro | exact And.intro hg True.intro | exact fun h' => And.intro (wb_f h') True.intro | exact fun h' => And.intro (wb_t h') True.intro | exact fun h' => And.intro (and_f hg h') True.intro | exact fun h' => And.intro (and_t hg h') True.intro | exact And.intro (and_l hg) True.intro
    refine AG.nil ?_
    refine AOps.nil ?_
    refine AEx.cond rfl (fun hb => ?_) (fun hb => ?_)
    · replace hh := if_t hb hh
      refine AEx.seq ?_
      refine AEx.regionN rfl rfl ?_
      refine AOps.q hC rfl trivial ?_
      refine AOps.nil ?_
      refine AEx.ret ?_
      obtain rfl := Option.some.inj hh
      exact ⟨_, _, [], rfl, .rfl, trivial, rfl, rfl, rfl, rfl⟩
    · replace hh := if_f hb hh
      refine AEx.skip ?_
      refine AEx.seq ?_
      refine AEx.seq ?_
      refine AEx.regionN rfl rfl ?_
      refine AOps.q hC rfl trivial ?_
      refine AOps.nil ?_
      refine AEx.block ?_
      refine AEx.ofLoop ?_
      refine ALoop.wk ?_ (ih1 _ _ _ hh)
      exact ⟨⟨⟨.rfl, rfl⟩, ⟨⟨.rfl, rfl⟩, trivial⟩⟩, ⟨⟨rfl, .refl _, rfl⟩, trivial⟩, rfl⟩
  · intro g0 g1 ih0 ih1 t i res hh
    refine ALoop.unroll ?_
    refine AEx.seq ?_
    refine AEx.seq ?_
    refine AEx.regionN rfl rfl ?_
    iterate 3 refine AOps.q hC rfl trivial ?_
    refine AOps.qe hC rfl trivial (ApiType.lenA _) ?_
    refine AOps.q hC rfl trivial ?_
    refine AOps.nil ?_
    refine AEx.cond rfl (fun hb => ?_) (fun hb => ?_)
    · replace hh := if_t hb hh
      refine AEx.skip ?_
      refine AEx.seq ?_
      refine AEx.block ?_
      refine AEx.seq ?_
      refine AEx.regionN rfl rfl ?_
      iterate 3 refine AOps.q hC rfl trivial ?_
      obtain ⟨x3, hx3, hh⟩ := bind_some hh
      refine AOps.i hC rfl (idx_nat hx3) (ApiType.idx hx3) rfl ?_
      refine AOps.q hC rfl trivial ?_
      obtain ⟨x4, hx4, hh⟩ := bind_some hh
      refine AOps.c rfl rfl (ih0 _ _ hx4) ?_
      refine AOps.q hC rfl trivial ?_
      refine AOps.nil ?_
      refine AEx.cond rfl (fun hb => ?_) (fun hb => ?_)
      · replace hh := if_t hb hh
        refine AEx.seq ?_
        refine AEx.regionN rfl rfl ?_
        refine AOps.q hC rfl trivial ?_
        refine AOps.nil ?_
        refine AEx.ret ?_
        obtain rfl := Option.some.inj hh
        exact ⟨_, _, [], rfl, .rfl, trivial, rfl, rfl, rfl, rfl⟩
      · replace hh := if_f hb hh
        refine AEx.skip ?_
        refine AEx.regionN rfl rfl ?_
        iterate 3 refine AOps.q hC rfl trivial ?_
        refine AOps.nil ?_
        refine ALoop.wk ?_ (ih1 _ _ _ hh)
        exact ⟨⟨⟨.rfl, rfl⟩, ⟨⟨.rfl, rfl⟩, trivial⟩⟩, ⟨⟨rfl, .refl _, rfl⟩, trivial⟩, rfl⟩
    · replace hh := if_f hb hh
      refine AEx.exit ?_
      refine AEx.seq ?_
      refine AEx.regionN rfl rfl ?_
      refine AOps.q hC rfl trivial ?_
      refine AOps.nil ?_
      refine AEx.ret ?_
      obtain rfl := Option.some.inj hh
      exact ⟨_, _, [], rfl, .rfl, trivial, rfl, rfl, rfl, rfl⟩
theorem ref10_typeNumbers_ok {t : ApiType} {res : Bool} (hh : ref10_typeNumbers t = some res) : ACall C 109 [.agg (ApiType.cells t)] [] (fun x H' => H' = [] ∧ x = .d (.bool res)) := (ref10_typeNumbers_grp).1 _ _ hh
theorem ref10_typeNumbers_l1_ok {t : ApiType} {i : Int} {res : Bool} (hh : ref10_typeNumbers_l1 t i = some res) : ALoop (Fx.mk C 61 0) (lo (bk (sr (sl (sr (sr (bodyOf Tryd.f109))))))) (mkEnv [(1, .ref 0 0), (3, .d (.int .i64 i))]) [.row (ApiType.cells t) 27] (Am.InBlock 0 (Am.Then (Fx.mk C 61 0) (sr (sr (sr (bodyOf Tryd.f109)))) (Am.Ends (Fx.mk C 61 0) Tryd.f109.results.toList (fun x H' => H' = [] ∧ x = .d (.bool res))))) := (ref10_typeNumbers_grp).2 _ _ _ hh
end Go.Proofs.YtonilfkaecbjnaaDoor
