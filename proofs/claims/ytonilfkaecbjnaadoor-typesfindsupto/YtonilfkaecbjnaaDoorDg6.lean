/- What the functions compute, and that they do: printed by gen.py. -/
import Derived.Test.YtonilfkaecbjnaaDoorDg5
set_option maxRecDepth 100000
set_option maxHeartbeats 4000000
set_option linter.unusedVariables false
namespace Go.Proofs.YtonilfkaecbjnaaDoor
open Go.Am
def types_each_1_v3_l1 (path : Str) (t : ApiType) (s1 : Str) (o1 : Int) (o4 : ApiType) (o5 : Int) (o6 : Bool) (v25 : Int) : Option (Bool × Int × ApiType × Int × Bool) :=
  if (decide (v25 < t.Size)) = true then
    if (decide (path.length + 1 ≤ maxLen)) = true then
      X_Itoa v25 >>= fun x2 =>
      if (decide ((path ++ [46]).length + x2.length ≤ maxLen)) = true then
        idx t.Of 0 >>= fun x3 =>
        types_each_1_v4 ((path ++ [46]) ++ x2) x3 o1 s1 o4 o5 o6 >>= fun x4 =>
        if (!x4.1) = true then
          some (false, x4.2.1, x4.2.2.1, x4.2.2.2.1, x4.2.2.2.2)
        else
          types_each_1_v3_l1 path t s1 x4.2.1 x4.2.2.1 x4.2.2.2.1 x4.2.2.2.2 (IntKind.i64.wrap (v25 + 1))
      else none
    else none
  else
    some (true, o1, o4, o5, o6)
  partial_fixpoint
theorem types_each_1_v3_l1_grp (path : Str) (t : ApiType) (s1 : Str) : (∀ (o1 : Int) (o4 : ApiType) (o5 : Int) (o6 : Bool) (v25 : Int) (res : Bool × Int × ApiType × Int × Bool), types_each_1_v3_l1 path t s1 o1 o4 o5 o6 v25 = some res → ALoop (Fx.mk C 64 7) (lo (bk (sr (ca (sr (bk (sr (sl (sr (sr (bodyOf Tryd.f98))))))))))) (mkEnv [(0, .d (.str path)), (4, .ref 2 0), (6, .ref 7 0), (24, .d (.int .i64 t.Size)), (25, .d (.int .i64 v25))]) [.row [.clo 67 [.ref 3 0, .ref 4 0, .ref 5 0, .ref 6 0]] 88, .row [.d (.int .i64 o1)] 3, .row [.clo 98 [.ref 0 0, .ref 1 0, .ref 2 0]] 119, .row [.d (.str s1)] 9, .row (ApiType.cells o4) 27, .row [.d (.int .i64 o5)] 3, .row [.d (.bool o6)] 4, .row (ApiType.cells t) 27] (Am.InBlock 1 (Am.InBlock 0 (Am.Then (Fx.mk C 64 7) (sr (sr (sr (bodyOf Tryd.f98)))) (Am.Ends (Fx.mk C 64 7) Tryd.f98.results.toList (fun x H' => H' = [.row [.clo 67 [.ref 3 0, .ref 4 0, .ref 5 0, .ref 6 0]] 88, .row [.d (.int .i64 res.2.1)] 3, .row [.clo 98 [.ref 0 0, .ref 1 0, .ref 2 0]] 119, .row [.d (.str s1)] 9, .row (ApiType.cells res.2.2.1) 27, .row [.d (.int .i64 res.2.2.2.1)] 3, .row [.d (.bool res.2.2.2.2)] 4] ∧ x = .d (.bool res.1))))))) := by
  refine types_each_1_v3_l1.partial_correctness path
    t
    s1
    (fun o1 o4 o5 o6 v25 res => ALoop (Fx.mk C 64 7) (lo (bk (sr (ca (sr (bk (sr (sl (sr (sr (bodyOf Tryd.f98))))))))))) (mkEnv [(0, .d (.str path)), (4, .ref 2 0), (6, .ref 7 0), (24, .d (.int .i64 t.Size)), (25, .d (.int .i64 v25))]) [.row [.clo 67 [.ref 3 0, .ref 4 0, .ref 5 0, .ref 6 0]] 88, .row [.d (.int .i64 o1)] 3, .row [.clo 98 [.ref 0 0, .ref 1 0, .ref 2 0]] 119, .row [.d (.str s1)] 9, .row (ApiType.cells o4) 27, .row [.d (.int .i64 o5)] 3, .row [.d (.bool o6)] 4, .row (ApiType.cells t) 27] (Am.InBlock 1 (Am.InBlock 0 (Am.Then (Fx.mk C 64 7) (sr (sr (sr (bodyOf Tryd.f98)))) (Am.Ends (Fx.mk C 64 7) Tryd.f98.results.toList (fun x H' => H' = [.row [.clo 67 [.ref 3 0, .ref 4 0, .ref 5 0, .ref 6 0]] 88, .row [.d (.int .i64 res.2.1)] 3, .row [.clo 98 [.ref 0 0, .ref 1 0, .ref 2 0]] 119, .row [.d (.str s1)] 9, .row (ApiType.cells res.2.2.1) 27, .row [.d (.int .i64 res.2.2.2.1)] 3, .row [.d (.bool res.2.2.2.2)] 4] ∧ x = .d (.bool res.1))))))) ?_
  · intro g0 ih0 o1 o4 o5 o6 v25 res hh
    refine ALoop.unroll ?_
    refine AEx.seq ?_
    refine AEx.regionN rfl rfl ?_
    refine AOps.q hC rfl trivial ?_
    refine AOps.nil ?_
    refine AEx.seq ?_
    refine AEx.cond rfl (fun hb => ?_) (fun hb => ?_)
    · replace hh := if_t hb hh
      refine AEx.skip ?_
      refine AEx.seq ?_
      refine AEx.block ?_
      refine AEx.seq ?_
      refine AEx.regionN rfl rfl ?_
      iterate 2 refine AOps.q hC rfl trivial ?_
      refine AOps.nil ?_
      refine AEx.seq ?_
      refine AEx.draw hC 10 rfl rfl rfl ?_
      refine AQ.q hC rfl trivial ?_
      refine AQ.q hC rfl trivial ?_
      obtain ⟨c15, hh⟩ := asrt_some hh
      refine AQ.q hC rfl c15 ?_
      refine AQ.q hC rfl trivial ?_
      obtain ⟨x2, hx2, hh⟩ := bind_some hh
      refine AQ.c rfl rfl (X_Itoa_ok hx2) ?_
      obtain ⟨c16, hh⟩ := asrt_some hh
      refine AQ.q hC rfl c16 ?_
      refine AQ.q hC rfl trivial ?_
      refine AQ.q hC rfl trivial ?_
      obtain ⟨x3, hx3, hh⟩ := bind_some hh
      refine AQ.i hC rfl (idx_nat hx3) (ApiType.idx hx3) rfl ?_
      refine AQ.q hC rfl trivial ?_
      refine AQ.nil ?_
      obtain ⟨x4, hx4, hh⟩ := bind_some hh
      refine AOps.g [0, 1, 2, 3, 4, 5, 6] rfl (types_each_1_v4_ok hx4) ⟨.rfl, ⟨.rfl, ⟨.rfl, ⟨.rfl, ⟨.rfl, trivial⟩⟩⟩⟩⟩ rfl ⟨rfl, ⟨rfl, ⟨rfl, ⟨rfl, ⟨rfl, ⟨rfl, ⟨rfl, trivial⟩⟩⟩⟩⟩⟩⟩ rfl rfl ?_
      refine AOps.q hC rfl trivial ?_
      refine AOps.nil ?_
      refine AEx.cond rfl (fun hb => ?_) (fun hb => ?_)
      · replace hh := if_t hb hh
        refine AEx.seq ?_
        refine AEx.regionN rfl rfl ?_
        refine AOps.q hC rfl trivial ?_
        refine AOps.nil ?_
        refine AEx.ret ?_
        obtain rfl := Option.some.inj hh
        exact ⟨_, _, [.row [.clo 67 [.ref 3 0, .ref 4 0, .ref 5 0, .ref 6 0]] 88, .row [.d (.int .i64 x4.2.1)] 3, .row [.clo 98 [.ref 0 0, .ref 1 0, .ref 2 0]] 119, .row [.d (.str s1)] 9, .row (ApiType.cells x4.2.2.1) 27, .row [.d (.int .i64 x4.2.2.2.1)] 3, .row [.d (.bool x4.2.2.2.2)] 4], rfl, .rfl, ⟨⟨rfl, .refl _, rfl⟩, ⟨⟨rfl, .refl _, rfl⟩, ⟨⟨rfl, .refl _, rfl⟩, ⟨⟨rfl, .refl _, rfl⟩, ⟨⟨rfl, .refl _, rfl⟩, ⟨⟨rfl, .refl _, rfl⟩, ⟨⟨rfl, .refl _, rfl⟩, trivial⟩⟩⟩⟩⟩⟩⟩, rfl, rfl, rfl, rfl⟩
      · replace hh := if_f hb hh
        refine AEx.skip ?_
        refine AEx.regionN rfl rfl ?_
        iterate 2 refine AOps.q hC rfl trivial ?_
        refine AOps.nil ?_
        refine ALoop.wk ?_ (ih0 _ _ _ _ _ _ hh)
        exact ⟨⟨⟨.rfl, rfl⟩, ⟨⟨.rfl, rfl⟩, ⟨⟨.rfl, rfl⟩, ⟨⟨.rfl, rfl⟩, ⟨⟨.rfl, rfl⟩, trivial⟩⟩⟩⟩⟩, ⟨⟨rfl, .refl _, rfl⟩, ⟨⟨rfl, .refl _, rfl⟩, ⟨⟨rfl, .refl _, rfl⟩, ⟨⟨rfl, .refl _, rfl⟩, ⟨⟨rfl, .refl _, rfl⟩, ⟨⟨rfl, .refl _, rfl⟩, ⟨⟨rfl, .refl _, rfl⟩, ⟨⟨rfl, .refl _, rfl⟩, trivial⟩⟩⟩⟩⟩⟩⟩⟩, rfl⟩
    · replace hh := if_f hb hh
      refine AEx.exit ?_
      refine AEx.seq ?_
      refine AEx.regionN rfl rfl ?_
      refine AOps.q hC rfl trivial ?_
      refine AOps.nil ?_
      refine AEx.ret ?_
      obtain rfl := Option.some.inj hh
      exact ⟨_, _, [.row [.clo 67 [.ref 3 0, .ref 4 0, .ref 5 0, .ref 6 0]] 88, .row [.d (.int .i64 o1)] 3, .row [.clo 98 [.ref 0 0, .ref 1 0, .ref 2 0]] 119, .row [.d (.str s1)] 9, .row (ApiType.cells o4) 27, .row [.d (.int .i64 o5)] 3, .row [.d (.bool o6)] 4], rfl, .rfl, ⟨⟨rfl, .refl _, rfl⟩, ⟨⟨rfl, .refl _, rfl⟩, ⟨⟨rfl, .refl _, rfl⟩, ⟨⟨rfl, .refl _, rfl⟩, ⟨⟨rfl, .refl _, rfl⟩, ⟨⟨rfl, .refl _, rfl⟩, ⟨⟨rfl, .refl _, rfl⟩, trivial⟩⟩⟩⟩⟩⟩⟩, rfl, rfl, rfl, rfl⟩
theorem types_each_1_v3_l1_ok {path : Str} {t : ApiType} {s1 : Str} {o1 : Int} {o4 : ApiType} {o5 : Int} {o6 : Bool} {v25 : Int} {res : Bool × Int × ApiType × Int × Bool} (hh : types_each_1_v3_l1 path t s1 o1 o4 o5 o6 v25 = some res) : ALoop (Fx.mk C 64 7) (lo (bk (sr (ca (sr (bk (sr (sl (sr (sr (bodyOf Tryd.f98))))))))))) (mkEnv [(0, .d (.str path)), (4, .ref 2 0), (6, .ref 7 0), (24, .d (.int .i64 t.Size)), (25, .d (.int .i64 v25))]) [.row [.clo 67 [.ref 3 0, .ref 4 0, .ref 5 0, .ref 6 0]] 88, .row [.d (.int .i64 o1)] 3, .row [.clo 98 [.ref 0 0, .ref 1 0, .ref 2 0]] 119, .row [.d (.str s1)] 9, .row (ApiType.cells o4) 27, .row [.d (.int .i64 o5)] 3, .row [.d (.bool o6)] 4, .row (ApiType.cells t) 27] (Am.InBlock 1 (Am.InBlock 0 (Am.Then (Fx.mk C 64 7) (sr (sr (sr (bodyOf Tryd.f98)))) (Am.Ends (Fx.mk C 64 7) Tryd.f98.results.toList (fun x H' => H' = [.row [.clo 67 [.ref 3 0, .ref 4 0, .ref 5 0, .ref 6 0]] 88, .row [.d (.int .i64 res.2.1)] 3, .row [.clo 98 [.ref 0 0, .ref 1 0, .ref 2 0]] 119, .row [.d (.str s1)] 9, .row (ApiType.cells res.2.2.1) 27, .row [.d (.int .i64 res.2.2.2.1)] 3, .row [.d (.bool res.2.2.2.2)] 4] ∧ x = .d (.bool res.1)))))) := (types_each_1_v3_l1_grp path t s1) _ _ _ _ _ _ hh
def types_each_1_v3_l2 (path : Str) (t : ApiType) (s1 : Str) (o11 : Int) (o41 : ApiType) (o51 : Int) (o61 : Bool) (v46 : Int) : Option (Bool × Int × ApiType × Int × Bool) :=
  if (decide (v46 < ((t.Of).length : Int))) = true then
    idx t.Of v46 >>= fun x5 =>
    if (decide (path.length + 1 ≤ maxLen)) = true then
      idx t.Names v46 >>= fun x6 =>
      if (decide ((path ++ [46]).length + x6.length ≤ maxLen)) = true then
        types_each_1_v4 ((path ++ [46]) ++ x6) x5 o11 s1 o41 o51 o61 >>= fun x7 =>
        if (!x7.1) = true then
          some (false, x7.2.1, x7.2.2.1, x7.2.2.2.1, x7.2.2.2.2)
        else
          types_each_1_v3_l2 path t s1 x7.2.1 x7.2.2.1 x7.2.2.2.1 x7.2.2.2.2 (IntKind.i64.wrap (v46 + 1))
      else none
    else none
  else
    some (true, o11, o41, o51, o61)
  partial_fixpoint
theorem types_each_1_v3_l2_grp (path : Str) (t : ApiType) (s1 : Str) : (∀ (o11 : Int) (o41 : ApiType) (o51 : Int) (o61 : Bool) (v46 : Int) (res : Bool × Int × ApiType × Int × Bool), types_each_1_v3_l2 path t s1 o11 o41 o51 o61 v46 = some res → ALoop (Fx.mk C 64 7) (lo (bk (sr (ca (sr (cb (sr (bk (sr (sl (sr (sr (bodyOf Tryd.f98))))))))))))) (mkEnv [(0, .d (.str path)), (4, .ref 2 0), (6, .ref 7 0), (44, .d (.sl (ApiType.rows t.Of))), (45, .d (.int .i64 ((t.Of).length : Int))), (46, .d (.int .i64 v46))]) [.row [.clo 67 [.ref 3 0, .ref 4 0, .ref 5 0, .ref 6 0]] 88, .row [.d (.int .i64 o11)] 3, .row [.clo 98 [.ref 0 0, .ref 1 0, .ref 2 0]] 119, .row [.d (.str s1)] 9, .row (ApiType.cells o41) 27, .row [.d (.int .i64 o51)] 3, .row [.d (.bool o61)] 4, .row (ApiType.cells t) 27] (Am.InBlock 3 (Am.InBlock 0 (Am.Then (Fx.mk C 64 7) (sr (sr (sr (bodyOf Tryd.f98)))) (Am.Ends (Fx.mk C 64 7) Tryd.f98.results.toList (fun x H' => H' = [.row [.clo 67 [.ref 3 0, .ref 4 0, .ref 5 0, .ref 6 0]] 88, .row [.d (.int .i64 res.2.1)] 3, .row [.clo 98 [.ref 0 0, .ref 1 0, .ref 2 0]] 119, .row [.d (.str s1)] 9, .row (ApiType.cells res.2.2.1) 27, .row [.d (.int .i64 res.2.2.2.1)] 3, .row [.d (.bool res.2.2.2.2)] 4] ∧ x = .d (.bool res.1))))))) := by
  refine types_each_1_v3_l2.partial_correctness path
    t
    s1
    (fun o11 o41 o51 o61 v46 res => ALoop (Fx.mk C 64 7) (lo (bk (sr (ca (sr (cb (sr (bk (sr (sl (sr (sr (bodyOf Tryd.f98))))))))))))) (mkEnv [(0, .d (.str path)), (4, .ref 2 0), (6, .ref 7 0), (44, .d (.sl (ApiType.rows t.Of))), (45, .d (.int .i64 ((t.Of).length : Int))), (46, .d (.int .i64 v46))]) [.row [.clo 67 [.ref 3 0, .ref 4 0, .ref 5 0, .ref 6 0]] 88, .row [.d (.int .i64 o11)] 3, .row [.clo 98 [.ref 0 0, .ref 1 0, .ref 2 0]] 119, .row [.d (.str s1)] 9, .row (ApiType.cells o41) 27, .row [.d (.int .i64 o51)] 3, .row [.d (.bool o61)] 4, .row (ApiType.cells t) 27] (Am.InBlock 3 (Am.InBlock 0 (Am.Then (Fx.mk C 64 7) (sr (sr (sr (bodyOf Tryd.f98)))) (Am.Ends (Fx.mk C 64 7) Tryd.f98.results.toList (fun x H' => H' = [.row [.clo 67 [.ref 3 0, .ref 4 0, .ref 5 0, .ref 6 0]] 88, .row [.d (.int .i64 res.2.1)] 3, .row [.clo 98 [.ref 0 0, .ref 1 0, .ref 2 0]] 119, .row [.d (.str s1)] 9, .row (ApiType.cells res.2.2.1) 27, .row [.d (.int .i64 res.2.2.2.1)] 3, .row [.d (.bool res.2.2.2.2)] 4] ∧ x = .d (.bool res.1))))))) ?_
  · intro g0 ih0 o11 o41 o51 o61 v46 res hh
    refine ALoop.unroll ?_
    refine AEx.seq ?_
    refine AEx.regionN rfl rfl ?_
    refine AOps.q hC rfl trivial ?_
    refine AOps.nil ?_
    refine AEx.seq ?_
    refine AEx.cond rfl (fun hb => ?_) (fun hb => ?_)
    · replace hh := if_t hb hh
      refine AEx.skip ?_
      refine AEx.seq ?_
      refine AEx.block ?_
      refine AEx.seq ?_
      refine AEx.regionN rfl rfl ?_
      refine AOps.q hC rfl trivial ?_
      obtain ⟨x5, hx5, hh⟩ := bind_some hh
      refine AOps.i hC rfl (idx_nat hx5) (ApiType.idx hx5) rfl ?_
      refine AOps.q hC rfl trivial ?_
      refine AOps.nf hC rfl ?_
      refine AOps.q hC rfl trivial ?_
      refine AOps.s hC rfl ?_
      refine AOps.nil ?_
      refine AEx.seq ?_
      refine AEx.draw hC 10 rfl rfl rfl ?_
      refine AQ.q hC rfl trivial ?_
      refine AQ.q hC rfl trivial ?_
      obtain ⟨c17, hh⟩ := asrt_some hh
      refine AQ.q hC rfl c17 ?_
      refine AQ.q hC rfl trivial ?_
      refine AQ.q hC rfl trivial ?_
      refine AQ.q hC rfl trivial ?_
      obtain ⟨x6, hx6, hh⟩ := bind_some hh
      refine AQ.i hC rfl (idx_nat hx6) (estr.idx hx6) rfl ?_
      refine AQ.q hC rfl trivial ?_
      obtain ⟨c18, hh⟩ := asrt_some hh
      refine AQ.q hC rfl c18 ?_
      refine AQ.q hC rfl trivial ?_
      refine AQ.nil ?_
      obtain ⟨x7, hx7, hh⟩ := bind_some hh
      refine AOps.g [0, 1, 2, 3, 4, 5, 6] rfl (types_each_1_v4_ok hx7) ⟨.rfl, ⟨.rfl, ⟨.rfl, ⟨.rfl, ⟨.rfl, trivial⟩⟩⟩⟩⟩ rfl ⟨rfl, ⟨rfl, ⟨rfl, ⟨rfl, ⟨rfl, ⟨rfl, ⟨rfl, trivial⟩⟩⟩⟩⟩⟩⟩ rfl rfl ?_
      refine AOps.q hC rfl trivial ?_
      refine AOps.nil ?_
      refine AEx.cond rfl (fun hb => ?_) (fun hb => ?_)
      · replace hh := if_t hb hh
        refine AEx.seq ?_
        refine AEx.regionN rfl rfl ?_
        refine AOps.q hC rfl trivial ?_
        refine AOps.nil ?_
        refine AEx.ret ?_
        obtain rfl := Option.some.inj hh
        exact ⟨_, _, [.row [.clo 67 [.ref 3 0, .ref 4 0, .ref 5 0, .ref 6 0]] 88, .row [.d (.int .i64 x7.2.1)] 3, .row [.clo 98 [.ref 0 0, .ref 1 0, .ref 2 0]] 119, .row [.d (.str s1)] 9, .row (ApiType.cells x7.2.2.1) 27, .row [.d (.int .i64 x7.2.2.2.1)] 3, .row [.d (.bool x7.2.2.2.2)] 4], rfl, .rfl, ⟨⟨rfl, .refl _, rfl⟩, ⟨⟨rfl, .refl _, rfl⟩, ⟨⟨rfl, .refl _, rfl⟩, ⟨⟨rfl, .refl _, rfl⟩, ⟨⟨rfl, .refl _, rfl⟩, ⟨⟨rfl, .refl _, rfl⟩, ⟨⟨rfl, .refl _, rfl⟩, trivial⟩⟩⟩⟩⟩⟩⟩, rfl, rfl, rfl, rfl⟩
      · replace hh := if_f hb hh
        refine AEx.skip ?_
        refine AEx.regionN rfl rfl ?_
        iterate 2 refine AOps.q hC rfl trivial ?_
        refine AOps.nil ?_
        refine ALoop.wk ?_ (ih0 _ _ _ _ _ _ hh)
        exact ⟨⟨⟨.rfl, rfl⟩, ⟨⟨.rfl, rfl⟩, ⟨⟨.rfl, rfl⟩, ⟨⟨.rfl, rfl⟩, ⟨⟨.rfl, rfl⟩, ⟨⟨.rfl, rfl⟩, trivial⟩⟩⟩⟩⟩⟩, ⟨⟨rfl, .refl _, rfl⟩, ⟨⟨rfl, .refl _, rfl⟩, ⟨⟨rfl, .refl _, rfl⟩, ⟨⟨rfl, .refl _, rfl⟩, ⟨⟨rfl, .refl _, rfl⟩, ⟨⟨rfl, .refl _, rfl⟩, ⟨⟨rfl, .refl _, rfl⟩, ⟨⟨rfl, .refl _, rfl⟩, trivial⟩⟩⟩⟩⟩⟩⟩⟩, rfl⟩
    · replace hh := if_f hb hh
      refine AEx.exit ?_
      refine AEx.seq ?_
      refine AEx.regionN rfl rfl ?_
      refine AOps.q hC rfl trivial ?_
      refine AOps.nil ?_
      refine AEx.ret ?_
      obtain rfl := Option.some.inj hh
      exact ⟨_, _, [.row [.clo 67 [.ref 3 0, .ref 4 0, .ref 5 0, .ref 6 0]] 88, .row [.d (.int .i64 o11)] 3, .row [.clo 98 [.ref 0 0, .ref 1 0, .ref 2 0]] 119, .row [.d (.str s1)] 9, .row (ApiType.cells o41) 27, .row [.d (.int .i64 o51)] 3, .row [.d (.bool o61)] 4], rfl, .rfl, ⟨⟨rfl, .refl _, rfl⟩, ⟨⟨rfl, .refl _, rfl⟩, ⟨⟨rfl, .refl _, rfl⟩, ⟨⟨rfl, .refl _, rfl⟩, ⟨⟨rfl, .refl _, rfl⟩, ⟨⟨rfl, .refl _, rfl⟩, ⟨⟨rfl, .refl _, rfl⟩, trivial⟩⟩⟩⟩⟩⟩⟩, rfl, rfl, rfl, rfl⟩
theorem types_each_1_v3_l2_ok {path : Str} {t : ApiType} {s1 : Str} {o11 : Int} {o41 : ApiType} {o51 : Int} {o61 : Bool} {v46 : Int} {res : Bool × Int × ApiType × Int × Bool} (hh : types_each_1_v3_l2 path t s1 o11 o41 o51 o61 v46 = some res) : ALoop (Fx.mk C 64 7) (lo (bk (sr (ca (sr (cb (sr (bk (sr (sl (sr (sr (bodyOf Tryd.f98))))))))))))) (mkEnv [(0, .d (.str path)), (4, .ref 2 0), (6, .ref 7 0), (44, .d (.sl (ApiType.rows t.Of))), (45, .d (.int .i64 ((t.Of).length : Int))), (46, .d (.int .i64 v46))]) [.row [.clo 67 [.ref 3 0, .ref 4 0, .ref 5 0, .ref 6 0]] 88, .row [.d (.int .i64 o11)] 3, .row [.clo 98 [.ref 0 0, .ref 1 0, .ref 2 0]] 119, .row [.d (.str s1)] 9, .row (ApiType.cells o41) 27, .row [.d (.int .i64 o51)] 3, .row [.d (.bool o61)] 4, .row (ApiType.cells t) 27] (Am.InBlock 3 (Am.InBlock 0 (Am.Then (Fx.mk C 64 7) (sr (sr (sr (bodyOf Tryd.f98)))) (Am.Ends (Fx.mk C 64 7) Tryd.f98.results.toList (fun x H' => H' = [.row [.clo 67 [.ref 3 0, .ref 4 0, .ref 5 0, .ref 6 0]] 88, .row [.d (.int .i64 res.2.1)] 3, .row [.clo 98 [.ref 0 0, .ref 1 0, .ref 2 0]] 119, .row [.d (.str s1)] 9, .row (ApiType.cells res.2.2.1) 27, .row [.d (.int .i64 res.2.2.2.1)] 3, .row [.d (.bool res.2.2.2.2)] 4] ∧ x = .d (.bool res.1)))))) := (types_each_1_v3_l2_grp path t s1) _ _ _ _ _ _ hh
def types_each_1_v3 (path : Str) (t : ApiType) (s : Int) (s1 : Str) (apiType : ApiType) (s2 : Int) (s3 : Bool) : Option (Bool × Int × ApiType × Int × Bool) :=
  types_Find_1 path s t s1 apiType s2 s3 >>= fun x1 =>
  if (!x1.1) = true then
    some (false, s, x1.2.1, x1.2.2.1, x1.2.2.2)
  else
    if (t.Kind == 2) = true then
      types_each_1_v3_l1 path t s1 s x1.2.1 x1.2.2.1 x1.2.2.2 0
    else
      if (t.Kind == 3) = true then
        types_each_1_v3_l2 path t s1 s x1.2.1 x1.2.2.1 x1.2.2.2 0
      else
        some (true, (IntKind.i64.wrap (s + 1)), x1.2.1, x1.2.2.1, x1.2.2.2)
theorem types_each_1_v3_ok {path : Str} {t : ApiType} {s : Int} {s1 : Str} {apiType : ApiType} {s2 : Int} {s3 : Bool} {res : Bool × Int × ApiType × Int × Bool} (hh : types_each_1_v3 path t s s1 apiType s2 s3 = some res) : ACall C 98 [.d (.str path), .agg (ApiType.cells t), .ref 0 0, .ref 1 0, .ref 2 0] [.row [.clo 67 [.ref 3 0, .ref 4 0, .ref 5 0, .ref 6 0]] 88, .row [.d (.int .i64 s)] 3, .row [.clo 98 [.ref 0 0, .ref 1 0, .ref 2 0]] 119, .row [.d (.str s1)] 9, .row [.d (.int .i64 apiType.Kind), .d (.int .i64 apiType.Low), .d (.int .i64 apiType.High), .d (.int .i64 apiType.Size), .d (.str apiType.Name), .full (estr.rows apiType.Names), .full (ApiType.rows apiType.Of)] 27, .row [.d (.int .i64 s2)] 3, .row [.d (.bool s3)] 4] (fun x H' => H' = [.row [.clo 67 [.ref 3 0, .ref 4 0, .ref 5 0, .ref 6 0]] 88, .row [.d (.int .i64 res.2.1)] 3, .row [.clo 98 [.ref 0 0, .ref 1 0, .ref 2 0]] 119, .row [.d (.str s1)] 9, .row (ApiType.cells res.2.2.1) 27, .row [.d (.int .i64 res.2.2.2.1)] 3, .row [.d (.bool res.2.2.2.2)] 4] ∧ x = .d (.bool res.1)) := by
  unfold types_each_1_v3 at hh
  refine ACall.intro hC Tryd.func98 rfl rfl rfl ?_
  refine AEx.seq ?_
  refine AEx.regionN rfl rfl ?_
  refine AOps.n hC rfl ?_
  refine AOps.q hC rfl trivial ?_
  refine AOps.nil ?_
  refine AEx.seq ?_
  refine AEx.seq ?_
  refine AEx.regionN rfl rfl ?_
  iterate 4 refine AOps.q hC rfl trivial ?_
  obtain ⟨x1, hx1, hh⟩ := bind_some hh
  refine AOps.g [3, 4, 5, 6] rfl (types_Find_1_ok hx1) ⟨.rfl, ⟨.rfl, ⟨.rfl, ⟨.rfl, ⟨.rfl, ⟨.rfl, ⟨.rfl, trivial⟩⟩⟩⟩⟩⟩⟩ rfl ⟨rfl, ⟨rfl, ⟨rfl, ⟨rfl, trivial⟩⟩⟩⟩ rfl rfl ?_
  refine AOps.q hC rfl trivial ?_
  refine AOps.nil ?_
  refine AEx.cond rfl (fun hb => ?_) (fun hb => ?_)
  · replace hh := if_t hb hh
    refine AEx.seq ?_
    refine AEx.regionN rfl rfl ?_
    refine AOps.q hC rfl trivial ?_
    refine AOps.nil ?_
    refine AEx.ret ?_
    obtain rfl := Option.some.inj hh
    exact ⟨_, _, [.row [.clo 67 [.ref 3 0, .ref 4 0, .ref 5 0, .ref 6 0]] 88, .row [.d (.int .i64 s)] 3, .row [.clo 98 [.ref 0 0, .ref 1 0, .ref 2 0]] 119, .row [.d (.str s1)] 9, .row (ApiType.cells x1.2.1) 27, .row [.d (.int .i64 x1.2.2.1)] 3, .row [.d (.bool x1.2.2.2)] 4], rfl, .rfl, ⟨⟨rfl, .refl _, rfl⟩, ⟨⟨rfl, .refl _, rfl⟩, ⟨⟨rfl, .refl _, rfl⟩, ⟨⟨rfl, .refl _, rfl⟩, ⟨⟨rfl, .refl _, rfl⟩, ⟨⟨rfl, .refl _, rfl⟩, ⟨⟨rfl, .refl _, rfl⟩, trivial⟩⟩⟩⟩⟩⟩⟩, rfl, rfl, rfl, rfl⟩
  · replace hh := if_f hb hh
    refine AEx.skip ?_
    refine AEx.seq ?_
    refine AEx.seq ?_
    refine AEx.regionN rfl rfl ?_
    iterate 2 refine AOps.q hC rfl trivial ?_
    refine AOps.nil ?_
    refine AEx.block ?_
    refine AEx.seq ?_
    refine AEx.regionN rfl rfl ?_
    iterate 2 refine AOps.q hC rfl trivial ?_
    refine AOps.nil ?_
    refine AEx.cond rfl (fun hb => ?_) (fun hb => ?_)
    · replace hh := if_t hb hh
      refine AEx.seq ?_
      refine AEx.regionN rfl rfl ?_
      iterate 3 refine AOps.q hC rfl trivial ?_
      refine AOps.nil ?_
      refine AEx.block ?_
      refine AEx.ofLoop ?_
      refine ALoop.wk ?_ (types_each_1_v3_l1_ok hh)
      exact ⟨⟨⟨.rfl, rfl⟩, ⟨⟨.rfl, rfl⟩, ⟨⟨.rfl, rfl⟩, ⟨⟨.rfl, rfl⟩, ⟨⟨.rfl, rfl⟩, trivial⟩⟩⟩⟩⟩, ⟨⟨rfl, .refl _, rfl⟩, ⟨⟨rfl, .refl _, rfl⟩, ⟨⟨rfl, .refl _, rfl⟩, ⟨⟨rfl, .refl _, rfl⟩, ⟨⟨rfl, .refl _, rfl⟩, ⟨⟨rfl, .refl _, rfl⟩, ⟨⟨rfl, .refl _, rfl⟩, ⟨⟨rfl, .refl _, rfl⟩, trivial⟩⟩⟩⟩⟩⟩⟩⟩, rfl⟩
    · replace hh := if_f hb hh
      refine AEx.seq ?_
      refine AEx.regionN rfl rfl ?_
      iterate 2 refine AOps.q hC rfl trivial ?_
      refine AOps.nil ?_
      refine AEx.cond rfl (fun hb => ?_) (fun hb => ?_)
      · replace hh := if_t hb hh
        refine AEx.seq ?_
        refine AEx.regionN rfl rfl ?_
        iterate 2 refine AOps.q hC rfl trivial ?_
        refine AOps.qe hC rfl trivial (ApiType.lenA _) ?_
        refine AOps.q hC rfl trivial ?_
        refine AOps.nil ?_
        refine AEx.block ?_
        refine AEx.ofLoop ?_
        refine ALoop.wk ?_ (types_each_1_v3_l2_ok hh)
        exact ⟨⟨⟨.rfl, rfl⟩, ⟨⟨.rfl, rfl⟩, ⟨⟨.rfl, rfl⟩, ⟨⟨.rfl, rfl⟩, ⟨⟨.rfl, rfl⟩, ⟨⟨.rfl, rfl⟩, trivial⟩⟩⟩⟩⟩⟩, ⟨⟨rfl, .refl _, rfl⟩, ⟨⟨rfl, .refl _, rfl⟩, ⟨⟨rfl, .refl _, rfl⟩, ⟨⟨rfl, .refl _, rfl⟩, ⟨⟨rfl, .refl _, rfl⟩, ⟨⟨rfl, .refl _, rfl⟩, ⟨⟨rfl, .refl _, rfl⟩, ⟨⟨rfl, .refl _, rfl⟩, trivial⟩⟩⟩⟩⟩⟩⟩⟩, rfl⟩
      · replace hh := if_f hb hh
        refine AEx.regionN rfl rfl ?_
        iterate 2 refine AOps.q hC rfl trivial ?_
        refine AOps.s hC rfl ?_
        refine AOps.nil ?_
        refine AEx.seq ?_
        refine AEx.regionN rfl rfl ?_
        refine AOps.q hC rfl trivial ?_
        refine AOps.nil ?_
        refine AEx.ret ?_
        obtain rfl := Option.some.inj hh
        exact ⟨_, _, [.row [.clo 67 [.ref 3 0, .ref 4 0, .ref 5 0, .ref 6 0]] 88, .row [.d (.int .i64 (IntKind.i64.wrap (s + 1)))] 3, .row [.clo 98 [.ref 0 0, .ref 1 0, .ref 2 0]] 119, .row [.d (.str s1)] 9, .row (ApiType.cells x1.2.1) 27, .row [.d (.int .i64 x1.2.2.1)] 3, .row [.d (.bool x1.2.2.2)] 4], rfl, .rfl, ⟨⟨rfl, .refl _, rfl⟩, ⟨⟨rfl, .refl _, rfl⟩, ⟨⟨rfl, .refl _, rfl⟩, ⟨⟨rfl, .refl _, rfl⟩, ⟨⟨rfl, .refl _, rfl⟩, ⟨⟨rfl, .refl _, rfl⟩, ⟨⟨rfl, .refl _, rfl⟩, trivial⟩⟩⟩⟩⟩⟩⟩, rfl, rfl, rfl, rfl⟩
def types_each_v3 (t : ApiType) (s : Str) (apiType : ApiType) (s1 : Int) (s2 : Bool) : Option (ApiType × Int × Bool) :=
  types_each_1_v3 [] t 0 s apiType s1 s2 >>= fun x1 =>
  some (x1.2.2.1, x1.2.2.2.1, x1.2.2.2.2)
theorem types_each_v3_ok {t : ApiType} {s : Str} {apiType : ApiType} {s1 : Int} {s2 : Bool} {res : ApiType × Int × Bool} (hh : types_each_v3 t s apiType s1 s2 = some res) : ACall C 54 [.agg (ApiType.cells t), .clo 67 [.ref 0 0, .ref 1 0, .ref 2 0, .ref 3 0]] [.row [.d (.str s)] 9, .row [.d (.int .i64 apiType.Kind), .d (.int .i64 apiType.Low), .d (.int .i64 apiType.High), .d (.int .i64 apiType.Size), .d (.str apiType.Name), .full (estr.rows apiType.Names), .full (ApiType.rows apiType.Of)] 27, .row [.d (.int .i64 s1)] 3, .row [.d (.bool s2)] 4] (fun x H' => H' = [.row [.d (.str s)] 9, .row (ApiType.cells res.1) 27, .row [.d (.int .i64 res.2.1)] 3, .row [.d (.bool res.2.2)] 4] ∧ x = .tup []) := by
  unfold types_each_v3 at hh
  refine ACall.intro hC Tryd.func54 rfl rfl rfl ?_
  refine AEx.seq ?_
  refine AEx.regionN rfl rfl ?_
  refine AOps.n hC rfl ?_
  refine AOps.n hC rfl ?_
  refine AOps.nil ?_
  refine AEx.seq ?_
  refine AEx.regionN rfl rfl ?_
  refine AOps.n hC rfl ?_
  refine AOps.s hC rfl ?_
  refine AOps.nil ?_
  refine AEx.seq ?_
  refine AEx.regionN rfl rfl ?_
  refine AOps.n hC rfl ?_
  refine AOps.nil ?_
  refine AEx.seq ?_
  refine AEx.regionN rfl rfl ?_
  refine AOps.q hC rfl trivial ?_
  refine AOps.s hC rfl ?_
  refine AOps.nil ?_
  refine AEx.regionN rfl rfl ?_
  iterate 2 refine AOps.q hC rfl trivial ?_
  obtain ⟨x1, hx1, hh⟩ := bind_some hh
  refine AOps.g [5, 6, 7, 0, 1, 2, 3] rfl (types_each_1_v3_ok hx1) ⟨.rfl, ⟨.rfl, ⟨.rfl, ⟨.rfl, ⟨.rfl, trivial⟩⟩⟩⟩⟩ rfl ⟨rfl, ⟨rfl, ⟨rfl, ⟨rfl, ⟨rfl, ⟨rfl, ⟨rfl, trivial⟩⟩⟩⟩⟩⟩⟩ rfl rfl ?_
  refine AOps.nil ?_
  obtain rfl := Option.some.inj hh
  exact ⟨_, _, [.row [.d (.str s)] 9, .row (ApiType.cells x1.2.2.1) 27, .row [.d (.int .i64 x1.2.2.2.1)] 3, .row [.d (.bool x1.2.2.2.2)] 4], rfl, .rfl, ⟨⟨rfl, .refl _, rfl⟩, ⟨⟨rfl, .refl _, rfl⟩, ⟨⟨rfl, .refl _, rfl⟩, ⟨⟨rfl, .refl _, rfl⟩, trivial⟩⟩⟩⟩, rfl, rfl, rfl, rfl⟩
def types_Find (t : ApiType) (path : Str) : Option (ApiType × Int × Int) :=
  types_Check t >>= fun x1 =>
  if (x1 != 0) = true then
    some ((ApiType.mk 0 0 0 0 [] [] []), 0, x1)
  else
    types_each_v3 t path (ApiType.mk 0 0 0 0 [] [] []) 0 false >>= fun x2 =>
    if (!x2.2.2) = true then
      some ((ApiType.mk 0 0 0 0 [] [] []), 0, 7)
    else
      some (x2.1, x2.2.1, 0)
theorem types_Find_ok {t : ApiType} {path : Str} {res : ApiType × Int × Int} (hh : types_Find t path = some res) : ACall C 35 [.agg (ApiType.cells t), .d (.str path)] [] (fun x H' => H' = [] ∧ x = .tup [.agg (ApiType.cells res.1), .d (.int .i64 res.2.1), .d (.int .i64 res.2.2)]) := by
  unfold types_Find at hh
  refine ACall.intro hC Tryd.func35 rfl rfl rfl ?_
  refine AEx.seq ?_
  refine AEx.regionN rfl rfl ?_
  refine AOps.n hC rfl ?_
  refine AOps.n hC rfl ?_
  refine AOps.nf hC rfl ?_
  iterate 2 refine AOps.q hC rfl trivial ?_
  refine AOps.nil ?_
  refine AEx.seq ?_
  refine AEx.seq ?_
  refine AEx.regionN rfl rfl ?_
  refine AOps.q hC rfl trivial ?_
  obtain ⟨x1, hx1, hh⟩ := bind_some hh
  refine AOps.c rfl rfl (types_Check_ok hx1) ?_
  refine AOps.q hC rfl trivial ?_
  refine AOps.nil ?_
  refine AEx.seq ?_
  refine AEx.regionN rfl rfl ?_
  iterate 2 refine AOps.q hC rfl trivial ?_
  refine AOps.nil ?_
  refine AEx.cond rfl (fun hb => ?_) (fun hb => ?_)
  · replace hh := if_t hb hh
    refine AEx.seq ?_
    refine AEx.regionN rfl rfl ?_
    iterate 2 refine AOps.q hC rfl trivial ?_
    refine AOps.s hC rfl ?_
    iterate 2 refine AOps.q hC rfl trivial ?_
    refine AOps.nil ?_
    refine AEx.ret ?_
    obtain rfl := Option.some.inj hh
    exact ⟨_, _, [], rfl, .rfl, trivial, rfl, rfl, rfl, rfl⟩
  · replace hh := if_f hb hh
    refine AEx.skip ?_
    refine AEx.seq ?_
    refine AEx.regionN rfl rfl ?_
    refine AOps.nf hC rfl ?_
    refine AOps.nil ?_
    refine AEx.seq ?_
    refine AEx.regionN rfl rfl ?_
    refine AOps.n hC rfl ?_
    refine AOps.n hC rfl ?_
    refine AOps.s hC rfl ?_
    refine AOps.s hC rfl ?_
    refine AOps.nil ?_
    refine AEx.seq ?_
    refine AEx.regionN rfl rfl ?_
    iterate 2 refine AOps.q hC rfl trivial ?_
    obtain ⟨x2, hx2, hh⟩ := bind_some hh
    refine AOps.g [1, 3, 4, 5] rfl (types_each_v3_ok hx2) ⟨.rfl, ⟨.rfl, trivial⟩⟩ rfl ⟨rfl, ⟨rfl, ⟨rfl, ⟨rfl, trivial⟩⟩⟩⟩ rfl rfl ?_
    refine AOps.nil ?_
    refine AEx.seq ?_
    refine AEx.seq ?_
    refine AEx.regionN rfl rfl ?_
    iterate 2 refine AOps.q hC rfl trivial ?_
    refine AOps.nil ?_
    refine AEx.cond rfl (fun hb => ?_) (fun hb => ?_)
    · replace hh := if_t hb hh
      refine AEx.seq ?_
      refine AEx.regionN rfl rfl ?_
      refine AOps.q hC rfl trivial ?_
      refine AOps.s hC rfl ?_
      iterate 2 refine AOps.q hC rfl trivial ?_
      refine AOps.nil ?_
      refine AEx.ret ?_
      obtain rfl := Option.some.inj hh
      exact ⟨_, _, [], rfl, .rfl, trivial, rfl, rfl, rfl, rfl⟩
    · replace hh := if_f hb hh
      refine AEx.skip ?_
      refine AEx.seq ?_
      refine AEx.drawE hC ?_
      refine ADraw.step rfl (j0 := 0) (js := [1]) (by kernel_rfl) ⟨⟨_, rfl, ?_⟩, ⟨_, rfl, ?_⟩, trivial⟩
      · refine AOps.q hC rfl trivial ?_
        refine AOps.nil ?_
        refine ADraw.step rfl (j0 := 1) (js := [2]) (by kernel_rfl) ⟨⟨_, rfl, ?_⟩, ⟨_, rfl, ?_⟩, trivial⟩
        · refine AOps.q hC rfl trivial ?_
          refine AOps.nil ?_
          refine ADraw.step rfl (j0 := 2) (js := []) (by kernel_rfl) ⟨⟨_, rfl, ?_⟩, trivial⟩
          refine AOps.s hC rfl ?_
          refine AOps.nil ?_
          refine ADraw.step rfl (j0 := 3) (js := []) (by kernel_rfl) ⟨⟨_, rfl, ?_⟩, trivial⟩
          refine AOps.q hC rfl trivial ?_
          refine AOps.nil ?_
          refine ADraw.step rfl (j0 := 4) (js := []) (by kernel_rfl) ⟨⟨_, rfl, ?_⟩, trivial⟩
          refine AOps.q hC rfl trivial ?_
          refine AOps.nil ?_
          refine ADraw.nil (by kernel_rfl) ?_
          refine AEx.ret ?_
          obtain rfl := Option.some.inj hh
          exact ⟨_, _, [], rfl, .rfl, trivial, rfl, rfl, rfl, rfl⟩
        · refine AOps.s hC rfl ?_
          refine AOps.nil ?_
          refine ADraw.step rfl (j0 := 1) (js := []) (by kernel_rfl) ⟨⟨_, rfl, ?_⟩, trivial⟩
          refine AOps.q hC rfl trivial ?_
          refine AOps.nil ?_
          refine ADraw.step rfl (j0 := 3) (js := []) (by kernel_rfl) ⟨⟨_, rfl, ?_⟩, trivial⟩
          refine AOps.q hC rfl trivial ?_
          refine AOps.nil ?_
          refine ADraw.step rfl (j0 := 4) (js := []) (by kernel_rfl) ⟨⟨_, rfl, ?_⟩, trivial⟩
          refine AOps.q hC rfl trivial ?_
          refine AOps.nil ?_
          refine ADraw.nil (by kernel_rfl) ?_
          refine AEx.ret ?_
          obtain rfl := Option.some.inj hh
          exact ⟨_, _, [], rfl, .rfl, trivial, rfl, rfl, rfl, rfl⟩
      · refine AOps.q hC rfl trivial ?_
        refine AOps.nil ?_
        refine ADraw.step rfl (j0 := 0) (js := []) (by kernel_rfl) ⟨⟨_, rfl, ?_⟩, trivial⟩
        refine AOps.q hC rfl trivial ?_
        refine AOps.nil ?_
        refine ADraw.step rfl (j0 := 2) (js := []) (by kernel_rfl) ⟨⟨_, rfl, ?_⟩, trivial⟩
        refine AOps.s hC rfl ?_
        refine AOps.nil ?_
        refine ADraw.step rfl (j0 := 3) (js := []) (by kernel_rfl) ⟨⟨_, rfl, ?_⟩, trivial⟩
        refine AOps.q hC rfl trivial ?_
        refine AOps.nil ?_
        refine ADraw.step rfl (j0 := 4) (js := []) (by kernel_rfl) ⟨⟨_, rfl, ?_⟩, trivial⟩
        refine AOps.q hC rfl trivial ?_
        refine AOps.nil ?_
        refine ADraw.nil (by kernel_rfl) ?_
        refine AEx.ret ?_
        obtain rfl := Option.some.inj hh
        exact ⟨_, _, [], rfl, .rfl, trivial, rfl, rfl, rfl, rfl⟩
mutual
def ref12_find (t : ApiType) (atV : Str) (path : Str) (firstV : Int) : Option (ApiType × Int × Bool) :=
  if (atV == path) = true then
    some (t, firstV, true)
  else
    if (t.Kind == 2) = true then
      ref12_find_j1 t atV path firstV t.Size
    else
      ref12_find_j1 t atV path firstV ((t.Of).length : Int)
  partial_fixpoint
def ref12_find_j1 (t : ApiType) (atV : Str) (path : Str) (firstV : Int) (n : Int) : Option (ApiType × Int × Bool) :=
  ref12_find_l2 t atV path firstV n 0
  partial_fixpoint
def ref12_find_l2 (t : ApiType) (atV : Str) (path : Str) (firstV1 : Int) (n : Int) (i : Int) : Option (ApiType × Int × Bool) :=
  if (decide (i < n)) = true then
    if (t.Kind == 2) = true then
      idx t.Of 0 >>= fun x1 =>
      ref12_number i >>= fun x2 =>
      ref12_find_j3 t atV path x1 firstV1 n i x2
    else
      idx t.Of i >>= fun x3 =>
      idx t.Names i >>= fun x4 =>
      ref12_find_j3 t atV path x3 firstV1 n i x4
  else
    some ((ApiType.mk 0 0 0 0 [] [] []), 0, false)
  partial_fixpoint
def ref12_find_j3 (t : ApiType) (atV : Str) (path : Str) (o2 : ApiType) (firstV2 : Int) (n : Int) (i1 : Int) (name : Str) : Option (ApiType × Int × Bool) :=
  if (decide (atV.length + 1 ≤ maxLen)) = true then
    if (decide ((atV ++ [46]).length + name.length ≤ maxLen)) = true then
      ref12_find o2 ((atV ++ [46]) ++ name) path firstV2 >>= fun x5 =>
      if x5.2.2 = true then
        some (x5.1, x5.2.1, true)
      else
        ref12_count o2 >>= fun x6 =>
        ref12_find_l2 t atV path (IntKind.i64.wrap (firstV2 + x6)) n (IntKind.i64.wrap (i1 + 1))
    else none
  else none
  partial_fixpoint
end
theorem ref12_find_grp (path : Str) : (∀ (t : ApiType) (atV : Str) (firstV : Int) (res : ApiType × Int × Bool), ref12_find t atV path firstV = some res → ACall C 69 [.agg (ApiType.cells t), .d (.str atV), .d (.str path), .d (.int .i64 firstV)] [] (fun x H' => H' = [] ∧ x = .tup [.agg (ApiType.cells res.1), .d (.int .i64 res.2.1), .d (.bool res.2.2)])) ∧
    (∀ (t : ApiType) (atV : Str) (firstV : Int) (n : Int) (res : ApiType × Int × Bool), ref12_find_j1 t atV path firstV n = some res → AEx (Fx.mk C 76 0) (sr (sr (sr (sr (bodyOf Tryd.f69))))) (mkEnv [(1, .d (.str atV)), (2, .d (.str path)), (3, .d (.int .i64 firstV)), (4, .ref 0 0), (8, .ref 1 0), (11, .d (.int .i64 n))]) [.row (ApiType.cells t) 27, .row [.d (.int .i64 0), .d (.int .i64 0), .d (.int .i64 0), .d (.int .i64 0), .d (.str []), .full (estr.rows []), .full (ApiType.rows [])] 27] (Am.Ends (Fx.mk C 76 0) Tryd.f69.results.toList (fun x H' => H' = [] ∧ x = .tup [.agg (ApiType.cells res.1), .d (.int .i64 res.2.1), .d (.bool res.2.2)]))) ∧
    (∀ (t : ApiType) (atV : Str) (firstV1 : Int) (n : Int) (i : Int) (res : ApiType × Int × Bool), ref12_find_l2 t atV path firstV1 n i = some res → ALoop (Fx.mk C 76 0) (lo (bk (sr (sl (sr (sr (sr (sr (bodyOf Tryd.f69))))))))) (mkEnv [(1, .d (.str atV)), (2, .d (.str path)), (3, .d (.int .i64 firstV1)), (4, .ref 0 0), (8, .ref 1 0), (11, .d (.int .i64 n)), (12, .d (.int .i64 i))]) [.row (ApiType.cells t) 27, .row [.d (.int .i64 0), .d (.int .i64 0), .d (.int .i64 0), .d (.int .i64 0), .d (.str []), .full (estr.rows []), .full (ApiType.rows [])] 27] (Am.InBlock 0 (Am.Then (Fx.mk C 76 0) (sr (sr (sr (sr (sr (bodyOf Tryd.f69)))))) (Am.Ends (Fx.mk C 76 0) Tryd.f69.results.toList (fun x H' => H' = [] ∧ x = .tup [.agg (ApiType.cells res.1), .d (.int .i64 res.2.1), .d (.bool res.2.2)]))))) ∧
    (∀ (t : ApiType) (atV : Str) (o2 : ApiType) (firstV2 : Int) (n : Int) (i1 : Int) (name : Str) (res : ApiType × Int × Bool), ref12_find_j3 t atV path o2 firstV2 n i1 name = some res → AEx (Fx.mk C 76 0) (sr (sr (sr (bk (sl (sr (lo (bk (sr (sl (sr (sr (sr (sr (bodyOf Tryd.f69))))))))))))))) (mkEnv [(1, .d (.str atV)), (2, .d (.str path)), (3, .d (.int .i64 firstV2)), (4, .ref 0 0), (8, .ref 1 0), (11, .d (.int .i64 n)), (12, .d (.int .i64 i1)), (13, .ref 2 0), (14, .d (.str name))]) [.row (ApiType.cells t) 27, .row [.d (.int .i64 0), .d (.int .i64 0), .d (.int .i64 0), .d (.int .i64 0), .d (.str []), .full (estr.rows []), .full (ApiType.rows [])] 27, .row (ApiType.cells o2) 27] (Am.InBlock 1 (Am.Then (Fx.mk C 76 0) (sr (sr (lo (bk (sr (sl (sr (sr (sr (sr (bodyOf Tryd.f69))))))))))) (Am.Again (Fx.mk C 76 0) (lo (bk (sr (sl (sr (sr (sr (sr (bodyOf Tryd.f69))))))))) (Am.InBlock 0 (Am.Then (Fx.mk C 76 0) (sr (sr (sr (sr (sr (bodyOf Tryd.f69)))))) (Am.Ends (Fx.mk C 76 0) Tryd.f69.results.toList (fun x H' => H' = [] ∧ x = .tup [.agg (ApiType.cells res.1), .d (.int .i64 res.2.1), .d (.bool res.2.2)])))))))) := by
  refine ref12_find.mutual_partial_correctness path
    (fun t atV firstV res => ACall C 69 [.agg (ApiType.cells t), .d (.str atV), .d (.str path), .d (.int .i64 firstV)] [] (fun x H' => H' = [] ∧ x = .tup [.agg (ApiType.cells res.1), .d (.int .i64 res.2.1), .d (.bool res.2.2)]))
    (fun t atV firstV n res => AEx (Fx.mk C 76 0) (sr (sr (sr (sr (bodyOf Tryd.f69))))) (mkEnv [(1, .d (.str atV)), (2, .d (.str path)), (3, .d (.int .i64 firstV)), (4, .ref 0 0), (8, .ref 1 0), (11, .d (.int .i64 n))]) [.row (ApiType.cells t) 27, .row [.d (.int .i64 0), .d (.int .i64 0), .d (.int .i64 0), .d (.int .i64 0), .d (.str []), .full (estr.rows []), .full (ApiType.rows [])] 27] (Am.Ends (Fx.mk C 76 0) Tryd.f69.results.toList (fun x H' => H' = [] ∧ x = .tup [.agg (ApiType.cells res.1), .d (.int .i64 res.2.1), .d (.bool res.2.2)])))
    (fun t atV firstV1 n i res => ALoop (Fx.mk C 76 0) (lo (bk (sr (sl (sr (sr (sr (sr (bodyOf Tryd.f69))))))))) (mkEnv [(1, .d (.str atV)), (2, .d (.str path)), (3, .d (.int .i64 firstV1)), (4, .ref 0 0), (8, .ref 1 0), (11, .d (.int .i64 n)), (12, .d (.int .i64 i))]) [.row (ApiType.cells t) 27, .row [.d (.int .i64 0), .d (.int .i64 0), .d (.int .i64 0), .d (.int .i64 0), .d (.str []), .full (estr.rows []), .full (ApiType.rows [])] 27] (Am.InBlock 0 (Am.Then (Fx.mk C 76 0) (sr (sr (sr (sr (sr (bodyOf Tryd.f69)))))) (Am.Ends (Fx.mk C 76 0) Tryd.f69.results.toList (fun x H' => H' = [] ∧ x = .tup [.agg (ApiType.cells res.1), .d (.int .i64 res.2.1), .d (.bool res.2.2)])))))
    (fun t atV o2 firstV2 n i1 name res => AEx (Fx.mk C 76 0) (sr (sr (sr (bk (sl (sr (lo (bk (sr (sl (sr (sr (sr (sr (bodyOf Tryd.f69))))))))))))))) (mkEnv [(1, .d (.str atV)), (2, .d (.str path)), (3, .d (.int .i64 firstV2)), (4, .ref 0 0), (8, .ref 1 0), (11, .d (.int .i64 n)), (12, .d (.int .i64 i1)), (13, .ref 2 0), (14, .d (.str name))]) [.row (ApiType.cells t) 27, .row [.d (.int .i64 0), .d (.int .i64 0), .d (.int .i64 0), .d (.int .i64 0), .d (.str []), .full (estr.rows []), .full (ApiType.rows [])] 27, .row (ApiType.cells o2) 27] (Am.InBlock 1 (Am.Then (Fx.mk C 76 0) (sr (sr (lo (bk (sr (sl (sr (sr (sr (sr (bodyOf Tryd.f69))))))))))) (Am.Again (Fx.mk C 76 0) (lo (bk (sr (sl (sr (sr (sr (sr (bodyOf Tryd.f69))))))))) (Am.InBlock 0 (Am.Then (Fx.mk C 76 0) (sr (sr (sr (sr (sr (bodyOf Tryd.f69)))))) (Am.Ends (Fx.mk C 76 0) Tryd.f69.results.toList (fun x H' => H' = [] ∧ x = .tup [.agg (ApiType.cells res.1), .d (.int .i64 res.2.1), .d (.bool res.2.2)])))))))) ?_ ?_ ?_ ?_
  · intro g1 ih1 t atV firstV res hh
    refine ACall.intro hC Tryd.func69 rfl rfl rfl ?_
    refine AEx.seq ?_
    refine AEx.regionN rfl rfl ?_
    refine AOps.n hC rfl ?_
    refine AOps.nf hC rfl ?_
    iterate 2 refine AOps.q hC rfl trivial ?_
    refine AOps.nil ?_
    refine AEx.seq ?_
    refine AEx.seq ?_
    refine AEx.regionN rfl rfl ?_
    iterate 3 refine AOps.q hC rfl trivial ?_
    refine AOps.nil ?_
    refine AEx.cond rfl (fun hb => ?_) (fun hb => ?_)
    · replace hh := if_t hb hh
      refine AEx.seq ?_
      refine AEx.regionN rfl rfl ?_
      iterate 2 refine AOps.q hC rfl trivial ?_
      refine AOps.s hC rfl ?_
      iterate 2 refine AOps.q hC rfl trivial ?_
      refine AOps.nil ?_
      refine AEx.ret ?_
      obtain rfl := Option.some.inj hh
      exact ⟨_, _, [], rfl, .rfl, trivial, rfl, rfl, rfl, rfl⟩
    · replace hh := if_f hb hh
      refine AEx.skip ?_
      refine AEx.seq ?_
      refine AEx.regionN rfl rfl ?_
      iterate 2 refine AOps.q hC rfl trivial ?_
      refine AOps.qe hC rfl trivial (ApiType.lenA _) ?_
      refine AOps.q hC rfl trivial ?_
      refine AOps.nil ?_
      refine AEx.seq ?_
      refine AEx.seq ?_
      refine AEx.regionN rfl rfl ?_
      iterate 3 refine AOps.q hC rfl trivial ?_
      refine AOps.nil ?_
      refine AEx.cond rfl (fun hb => ?_) (fun hb => ?_)
      · replace hh := if_t hb hh
        refine AEx.regionN rfl rfl ?_
        iterate 3 refine AOps.q hC rfl trivial ?_
        refine AOps.nil ?_
        refine AEx.wk ?_ (ih1 _ _ _ _ _ hh)
        exact ⟨⟨⟨.rfl, rfl⟩, ⟨⟨.rfl, rfl⟩, ⟨⟨.rfl, rfl⟩, ⟨⟨.rfl, rfl⟩, ⟨⟨.rfl, rfl⟩, ⟨⟨.rfl, rfl⟩, trivial⟩⟩⟩⟩⟩⟩, ⟨⟨rfl, .refl _, rfl⟩, ⟨⟨rfl, .refl _, rfl⟩, trivial⟩⟩, rfl⟩
      · replace hh := if_f hb hh
        refine AEx.skip ?_
        refine AEx.wk ?_ (ih1 _ _ _ _ _ hh)
        exact ⟨⟨⟨.rfl, rfl⟩, ⟨⟨.rfl, rfl⟩, ⟨⟨.rfl, rfl⟩, ⟨⟨.rfl, rfl⟩, ⟨⟨.rfl, rfl⟩, ⟨⟨.rfl, rfl⟩, trivial⟩⟩⟩⟩⟩⟩, ⟨⟨rfl, .refl _, rfl⟩, ⟨⟨rfl, .refl _, rfl⟩, trivial⟩⟩, rfl⟩
  · intro g2 ih2 t atV firstV n res hh
    refine AEx.seq ?_
    refine AEx.seq ?_
    refine AEx.regionN rfl rfl ?_
    refine AOps.q hC rfl trivial ?_
    refine AOps.nil ?_
    refine AEx.block ?_
    refine AEx.ofLoop ?_
    refine ALoop.wk ?_ (ih2 _ _ _ _ _ _ hh)
    exact ⟨⟨⟨.rfl, rfl⟩, ⟨⟨.rfl, rfl⟩, ⟨⟨.rfl, rfl⟩, ⟨⟨.rfl, rfl⟩, ⟨⟨.rfl, rfl⟩, ⟨⟨.rfl, rfl⟩, ⟨⟨.rfl, rfl⟩, trivial⟩⟩⟩⟩⟩⟩⟩, ⟨⟨rfl, .refl _, rfl⟩, ⟨⟨rfl, .refl _, rfl⟩, trivial⟩⟩, rfl⟩
  · intro g3 ih3 t atV firstV1 n i res hh
    refine ALoop.unroll ?_
    refine AEx.seq ?_
    refine AEx.seq ?_
    refine AEx.regionN rfl rfl ?_
    iterate 3 refine AOps.q hC rfl trivial ?_
    refine AOps.nil ?_
    refine AEx.cond rfl (fun hb => ?_) (fun hb => ?_)
    · replace hh := if_t hb hh
      refine AEx.skip ?_
      refine AEx.seq ?_
      refine AEx.block ?_
      refine AEx.seq ?_
      refine AEx.regionN rfl rfl ?_
      refine AOps.q hC rfl trivial ?_
      refine AOps.nf hC rfl ?_
      refine AOps.s hC rfl ?_
      refine AOps.nil ?_
      refine AEx.seq ?_
      refine AEx.regionN rfl rfl ?_
      refine AOps.q hC rfl trivial ?_
      refine AOps.nil ?_
      refine AEx.seq ?_
      refine AEx.seq ?_
      refine AEx.regionN rfl rfl ?_
      iterate 3 refine AOps.q hC rfl trivial ?_
      refine AOps.nil ?_
      refine AEx.cond rfl (fun hb => ?_) (fun hb => ?_)
      · replace hh := if_t hb hh
        refine AEx.seq ?_
        refine AEx.regionN rfl rfl ?_
        iterate 2 refine AOps.q hC rfl trivial ?_
        obtain ⟨x1, hx1, hh⟩ := bind_some hh
        refine AOps.i hC rfl (idx_nat hx1) (ApiType.idx hx1) rfl ?_
        refine AOps.q hC rfl trivial ?_
        refine AOps.s hC rfl ?_
        refine AOps.nil ?_
        refine AEx.regionN rfl rfl ?_
        refine AOps.q hC rfl trivial ?_
        obtain ⟨x2, hx2, hh⟩ := bind_some hh
        refine AOps.c rfl rfl (ref12_number_ok hx2) ?_
        refine AOps.q hC rfl trivial ?_
        refine AOps.nil ?_
        refine AEx.wk ?_ (ih3 _ _ _ _ _ _ _ _ hh)
        exact ⟨⟨⟨.rfl, rfl⟩, ⟨⟨.rfl, rfl⟩, ⟨⟨.rfl, rfl⟩, ⟨⟨.rfl, rfl⟩, ⟨⟨.rfl, rfl⟩, ⟨⟨.rfl, rfl⟩, ⟨⟨.rfl, rfl⟩, ⟨⟨.rfl, rfl⟩, ⟨⟨.rfl, rfl⟩, trivial⟩⟩⟩⟩⟩⟩⟩⟩⟩, ⟨⟨rfl, .refl _, rfl⟩, ⟨⟨rfl, .refl _, rfl⟩, ⟨⟨rfl, .refl _, rfl⟩, trivial⟩⟩⟩, rfl⟩
      · replace hh := if_f hb hh
        refine AEx.seq ?_
        refine AEx.regionN rfl rfl ?_
        iterate 3 refine AOps.q hC rfl trivial ?_
        obtain ⟨x3, hx3, hh⟩ := bind_some hh
        refine AOps.i hC rfl (idx_nat hx3) (ApiType.idx hx3) rfl ?_
        refine AOps.q hC rfl trivial ?_
        refine AOps.s hC rfl ?_
        refine AOps.nil ?_
        refine AEx.regionN rfl rfl ?_
        iterate 3 refine AOps.q hC rfl trivial ?_
        obtain ⟨x4, hx4, hh⟩ := bind_some hh
        refine AOps.i hC rfl (idx_nat hx4) (estr.idx hx4) rfl ?_
        iterate 2 refine AOps.q hC rfl trivial ?_
        refine AOps.nil ?_
        refine AEx.wk ?_ (ih3 _ _ _ _ _ _ _ _ hh)
        exact ⟨⟨⟨.rfl, rfl⟩, ⟨⟨.rfl, rfl⟩, ⟨⟨.rfl, rfl⟩, ⟨⟨.rfl, rfl⟩, ⟨⟨.rfl, rfl⟩, ⟨⟨.rfl, rfl⟩, ⟨⟨.rfl, rfl⟩, ⟨⟨.rfl, rfl⟩, ⟨⟨.rfl, rfl⟩, trivial⟩⟩⟩⟩⟩⟩⟩⟩⟩, ⟨⟨rfl, .refl _, rfl⟩, ⟨⟨rfl, .refl _, rfl⟩, ⟨⟨rfl, .refl _, rfl⟩, trivial⟩⟩⟩, rfl⟩
    · replace hh := if_f hb hh
      refine AEx.exit ?_
      refine AEx.seq ?_
      refine AEx.regionN rfl rfl ?_
      refine AOps.q hC rfl trivial ?_
      refine AOps.s hC rfl ?_
      iterate 2 refine AOps.q hC rfl trivial ?_
      refine AOps.nil ?_
      refine AEx.ret ?_
      obtain rfl := Option.some.inj hh
      exact ⟨_, _, [], rfl, .rfl, trivial, rfl, rfl, rfl, rfl⟩
  · intro g0 g2 ih0 ih2 t atV o2 firstV2 n i1 name res hh
    refine AEx.seq ?_
    refine AEx.regionN rfl rfl ?_
    iterate 2 refine AOps.q hC rfl trivial ?_
    obtain ⟨c9, hh⟩ := asrt_some hh
    refine AOps.q hC rfl c9 ?_
    refine AOps.q hC rfl trivial ?_
    obtain ⟨c10, hh⟩ := asrt_some hh
    refine AOps.q hC rfl c10 ?_
    iterate 2 refine AOps.q hC rfl trivial ?_
    obtain ⟨x5, hx5, hh⟩ := bind_some hh
    refine AOps.c rfl rfl (ih0 _ _ _ _ hx5) ?_
    iterate 4 refine AOps.q hC rfl trivial ?_
    refine AOps.nf hC rfl ?_
    refine AOps.s hC rfl ?_
    iterate 2 refine AOps.q hC rfl trivial ?_
    refine AOps.nil ?_
    refine AEx.seq ?_
    refine AEx.seq ?_
    refine AEx.regionN rfl rfl ?_
    refine AOps.q hC rfl trivial ?_
    refine AOps.nil ?_
    refine AEx.cond rfl (fun hb => ?_) (fun hb => ?_)
    · replace hh := if_t hb hh
      refine AEx.seq ?_
      refine AEx.regionN rfl rfl ?_
      iterate 2 refine AOps.q hC rfl trivial ?_
      refine AOps.s hC rfl ?_
      iterate 2 refine AOps.q hC rfl trivial ?_
      refine AOps.nil ?_
      refine AEx.ret ?_
      obtain rfl := Option.some.inj hh
      exact ⟨_, _, [], rfl, .rfl, trivial, rfl, rfl, rfl, rfl⟩
    · replace hh := if_f hb hh
      refine AEx.skip ?_
      refine AEx.regionN rfl rfl ?_
      iterate 2 refine AOps.q hC rfl trivial ?_
      obtain ⟨x6, hx6, hh⟩ := bind_some hh
      refine AOps.c rfl rfl (ref12_count_ok hx6) ?_
      iterate 2 refine AOps.q hC rfl trivial ?_
      refine AOps.nil ?_
      refine AEx.regionN rfl rfl ?_
      iterate 3 refine AOps.q hC rfl trivial ?_
      refine AOps.nil ?_
      refine ALoop.wk ?_ (ih2 _ _ _ _ _ _ hh)
      exact ⟨⟨⟨.rfl, rfl⟩, ⟨⟨.rfl, rfl⟩, ⟨⟨.rfl, rfl⟩, ⟨⟨.rfl, rfl⟩, ⟨⟨.rfl, rfl⟩, ⟨⟨.rfl, rfl⟩, ⟨⟨.rfl, rfl⟩, trivial⟩⟩⟩⟩⟩⟩⟩, ⟨⟨rfl, .refl _, rfl⟩, ⟨⟨rfl, .refl _, rfl⟩, trivial⟩⟩, rfl⟩
theorem ref12_find_ok {t : ApiType} {atV : Str} {path : Str} {firstV : Int} {res : ApiType × Int × Bool} (hh : ref12_find t atV path firstV = some res) : ACall C 69 [.agg (ApiType.cells t), .d (.str atV), .d (.str path), .d (.int .i64 firstV)] [] (fun x H' => H' = [] ∧ x = .tup [.agg (ApiType.cells res.1), .d (.int .i64 res.2.1), .d (.bool res.2.2)]) := (ref12_find_grp path).1 _ _ _ _ hh
theorem ref12_find_j1_ok {t : ApiType} {atV : Str} {path : Str} {firstV : Int} {n : Int} {res : ApiType × Int × Bool} (hh : ref12_find_j1 t atV path firstV n = some res) : AEx (Fx.mk C 76 0) (sr (sr (sr (sr (bodyOf Tryd.f69))))) (mkEnv [(1, .d (.str atV)), (2, .d (.str path)), (3, .d (.int .i64 firstV)), (4, .ref 0 0), (8, .ref 1 0), (11, .d (.int .i64 n))]) [.row (ApiType.cells t) 27, .row [.d (.int .i64 0), .d (.int .i64 0), .d (.int .i64 0), .d (.int .i64 0), .d (.str []), .full (estr.rows []), .full (ApiType.rows [])] 27] (Am.Ends (Fx.mk C 76 0) Tryd.f69.results.toList (fun x H' => H' = [] ∧ x = .tup [.agg (ApiType.cells res.1), .d (.int .i64 res.2.1), .d (.bool res.2.2)])) := (ref12_find_grp path).2.1 _ _ _ _ _ hh
theorem ref12_find_l2_ok {t : ApiType} {atV : Str} {path : Str} {firstV1 : Int} {n : Int} {i : Int} {res : ApiType × Int × Bool} (hh : ref12_find_l2 t atV path firstV1 n i = some res) : ALoop (Fx.mk C 76 0) (lo (bk (sr (sl (sr (sr (sr (sr (bodyOf Tryd.f69))))))))) (mkEnv [(1, .d (.str atV)), (2, .d (.str path)), (3, .d (.int .i64 firstV1)), (4, .ref 0 0), (8, .ref 1 0), (11, .d (.int .i64 n)), (12, .d (.int .i64 i))]) [.row (ApiType.cells t) 27, .row [.d (.int .i64 0), .d (.int .i64 0), .d (.int .i64 0), .d (.int .i64 0), .d (.str []), .full (estr.rows []), .full (ApiType.rows [])] 27] (Am.InBlock 0 (Am.Then (Fx.mk C 76 0) (sr (sr (sr (sr (sr (bodyOf Tryd.f69)))))) (Am.Ends (Fx.mk C 76 0) Tryd.f69.results.toList (fun x H' => H' = [] ∧ x = .tup [.agg (ApiType.cells res.1), .d (.int .i64 res.2.1), .d (.bool res.2.2)])))) := (ref12_find_grp path).2.2.1 _ _ _ _ _ _ hh
theorem ref12_find_j3_ok {t : ApiType} {atV : Str} {path : Str} {o2 : ApiType} {firstV2 : Int} {n : Int} {i1 : Int} {name : Str} {res : ApiType × Int × Bool} (hh : ref12_find_j3 t atV path o2 firstV2 n i1 name = some res) : AEx (Fx.mk C 76 0) (sr (sr (sr (bk (sl (sr (lo (bk (sr (sl (sr (sr (sr (sr (bodyOf Tryd.f69))))))))))))))) (mkEnv [(1, .d (.str atV)), (2, .d (.str path)), (3, .d (.int .i64 firstV2)), (4, .ref 0 0), (8, .ref 1 0), (11, .d (.int .i64 n)), (12, .d (.int .i64 i1)), (13, .ref 2 0), (14, .d (.str name))]) [.row (ApiType.cells t) 27, .row [.d (.int .i64 0), .d (.int .i64 0), .d (.int .i64 0), .d (.int .i64 0), .d (.str []), .full (estr.rows []), .full (ApiType.rows [])] 27, .row (ApiType.cells o2) 27] (Am.InBlock 1 (Am.Then (Fx.mk C 76 0) (sr (sr (lo (bk (sr (sl (sr (sr (sr (sr (bodyOf Tryd.f69))))))))))) (Am.Again (Fx.mk C 76 0) (lo (bk (sr (sl (sr (sr (sr (sr (bodyOf Tryd.f69))))))))) (Am.InBlock 0 (Am.Then (Fx.mk C 76 0) (sr (sr (sr (sr (sr (bodyOf Tryd.f69)))))) (Am.Ends (Fx.mk C 76 0) Tryd.f69.results.toList (fun x H' => H' = [] ∧ x = .tup [.agg (ApiType.cells res.1), .d (.int .i64 res.2.1), .d (.bool res.2.2)]))))))) := (ref12_find_grp path).2.2.2 _ _ _ _ _ _ _ _ hh
def ref12_Find (t : ApiType) (path : Str) : Option (ApiType × Int × Int) :=
  ref12_Check t >>= fun x1 =>
  if (x1 != 0) = true then
    some ((ApiType.mk 0 0 0 0 [] [] []), 0, x1)
  else
    ref12_find t [] path 0 >>= fun x2 =>
    if (!x2.2.2) = true then
      some ((ApiType.mk 0 0 0 0 [] [] []), 0, 7)
    else
      some (x2.1, x2.2.1, 0)
theorem ref12_Find_ok {t : ApiType} {path : Str} {res : ApiType × Int × Int} (hh : ref12_Find t path = some res) : ACall C 36 [.agg (ApiType.cells t), .d (.str path)] [] (fun x H' => H' = [] ∧ x = .tup [.agg (ApiType.cells res.1), .d (.int .i64 res.2.1), .d (.int .i64 res.2.2)]) := by
  unfold ref12_Find at hh
  refine ACall.intro hC Tryd.func36 rfl rfl rfl ?_
  refine AEx.seq ?_
  refine AEx.regionN rfl rfl ?_
  refine AOps.n hC rfl ?_
  refine AOps.nf hC rfl ?_
  iterate 2 refine AOps.q hC rfl trivial ?_
  refine AOps.nil ?_
  refine AEx.seq ?_
  refine AEx.regionN rfl rfl ?_
  refine AOps.q hC rfl trivial ?_
  obtain ⟨x1, hx1, hh⟩ := bind_some hh
  refine AOps.c rfl rfl (ref12_Check_ok hx1) ?_
  refine AOps.q hC rfl trivial ?_
  refine AOps.nil ?_
  refine AEx.seq ?_
  refine AEx.seq ?_
  refine AEx.regionN rfl rfl ?_
  iterate 2 refine AOps.q hC rfl trivial ?_
  refine AOps.nil ?_
  refine AEx.cond rfl (fun hb => ?_) (fun hb => ?_)
  · replace hh := if_t hb hh
    refine AEx.seq ?_
    refine AEx.regionN rfl rfl ?_
    iterate 2 refine AOps.q hC rfl trivial ?_
    refine AOps.s hC rfl ?_
    iterate 2 refine AOps.q hC rfl trivial ?_
    refine AOps.nil ?_
    refine AEx.ret ?_
    obtain rfl := Option.some.inj hh
    exact ⟨_, _, [], rfl, .rfl, trivial, rfl, rfl, rfl, rfl⟩
  · replace hh := if_f hb hh
    refine AEx.skip ?_
    refine AEx.seq ?_
    refine AEx.regionN rfl rfl ?_
    iterate 2 refine AOps.q hC rfl trivial ?_
    obtain ⟨x2, hx2, hh⟩ := bind_some hh
    refine AOps.c rfl rfl (ref12_find_ok hx2) ?_
    iterate 4 refine AOps.q hC rfl trivial ?_
    refine AOps.nf hC rfl ?_
    refine AOps.s hC rfl ?_
    iterate 2 refine AOps.q hC rfl trivial ?_
    refine AOps.nil ?_
    refine AEx.seq ?_
    refine AEx.seq ?_
    refine AEx.regionN rfl rfl ?_
    iterate 2 refine AOps.q hC rfl trivial ?_
    refine AOps.nil ?_
    refine AEx.cond rfl (fun hb => ?_) (fun hb => ?_)
    · replace hh := if_t hb hh
      refine AEx.seq ?_
      refine AEx.regionN rfl rfl ?_
      refine AOps.q hC rfl trivial ?_
      refine AOps.s hC rfl ?_
      iterate 2 refine AOps.q hC rfl trivial ?_
      refine AOps.nil ?_
      refine AEx.ret ?_
      obtain rfl := Option.some.inj hh
      exact ⟨_, _, [], rfl, .rfl, trivial, rfl, rfl, rfl, rfl⟩
    · replace hh := if_f hb hh
      refine AEx.skip ?_
      refine AEx.seq ?_
      refine AEx.regionN rfl rfl ?_
      iterate 2 refine AOps.q hC rfl trivial ?_
      refine AOps.s hC rfl ?_
      iterate 2 refine AOps.q hC rfl trivial ?_
      refine AOps.nil ?_
      refine AEx.ret ?_
      obtain rfl := Option.some.inj hh
      exact ⟨_, _, [], rfl, .rfl, trivial, rfl, rfl, rfl, rfl⟩
def law12_TypesFinds (t : ApiType) (path : Str) : Option Bool :=
  law12_known >>= fun x1 =>
  if (!x1) = true then
    some false
  else
    law12_few t >>= fun x2 =>
    if (!x2) = true then
      some true
    else
      types_Find t path >>= fun x3 =>
      ref12_Find t path >>= fun x4 =>
      ref10_EqualType x3.1 x4.1 >>= fun x5 =>
      some (bif (bif x5 then (x3.2.1 == x4.2.1) else false) then (x3.2.2 == x4.2.2) else false)
theorem law12_TypesFinds_ok {t : ApiType} {path : Str} {res : Bool} (hh : law12_TypesFinds t path = some res) : ACall C 9 [.agg (ApiType.cells t), .d (.str path)] [] (fun x H' => H' = [] ∧ x = .d (.bool res)) := by
  unfold law12_TypesFinds at hh
  refine ACall.intro hC Tryd.func9 rfl rfl rfl ?_
  refine AEx.seq ?_
  refine AEx.regionN rfl rfl ?_
  refine AOps.n hC rfl ?_
  refine AOps.q hC rfl trivial ?_
  refine AOps.nil ?_
  refine AEx.seq ?_
  refine AEx.seq ?_
  refine AEx.regionN rfl rfl ?_
  obtain ⟨x1, hx1, hh⟩ := bind_some hh
  refine AOps.c rfl rfl (law12_known_ok hx1) ?_
  refine AOps.q hC rfl trivial ?_
  refine AOps.nil ?_
  refine AEx.cond rfl (fun hb => ?_) (fun hb => ?_)
  · replace hh := if_t hb hh
    refine AEx.seq ?_
    refine AEx.regionN rfl rfl ?_
    refine AOps.q hC rfl trivial ?_
    refine AOps.nil ?_
    refine AEx.ret ?_
    obtain rfl := Option.some.inj hh
    exact ⟨_, _, [], rfl, .rfl, trivial, rfl, rfl, rfl, rfl⟩
  · replace hh := if_f hb hh
    refine AEx.skip ?_
    refine AEx.seq ?_
    refine AEx.seq ?_
    refine AEx.regionN rfl rfl ?_
    refine AOps.q hC rfl trivial ?_
    obtain ⟨x2, hx2, hh⟩ := bind_some hh
    refine AOps.c rfl rfl (law12_few_ok hx2) ?_
    refine AOps.q hC rfl trivial ?_
    refine AOps.nil ?_
    refine AEx.cond rfl (fun hb => ?_) (fun hb => ?_)
    · replace hh := if_t hb hh
      refine AEx.seq ?_
      refine AEx.regionN rfl rfl ?_
      refine AOps.q hC rfl trivial ?_
      refine AOps.nil ?_
      refine AEx.ret ?_
      obtain rfl := Option.some.inj hh
      exact ⟨_, _, [], rfl, .rfl, trivial, rfl, rfl, rfl, rfl⟩
    · replace hh := if_f hb hh
      refine AEx.skip ?_
      refine AEx.seq ?_
      refine AEx.regionN rfl rfl ?_
      iterate 2 refine AOps.q hC rfl trivial ?_
      obtain ⟨x3, hx3, hh⟩ := bind_some hh
      refine AOps.c rfl rfl (types_Find_ok hx3) ?_
      iterate 4 refine AOps.q hC rfl trivial ?_
      refine AOps.nf hC rfl ?_
      refine AOps.s hC rfl ?_
      iterate 2 refine AOps.q hC rfl trivial ?_
      refine AOps.nil ?_
      refine AEx.seq ?_
      refine AEx.regionN rfl rfl ?_
      iterate 2 refine AOps.q hC rfl trivial ?_
      obtain ⟨x4, hx4, hh⟩ := bind_some hh
      refine AOps.c rfl rfl (ref12_Find_ok hx4) ?_
      iterate 4 refine AOps.q hC rfl trivial ?_
      refine AOps.nf hC rfl ?_
      refine AOps.s hC rfl ?_
      iterate 2 refine AOps.q hC rfl trivial ?_
      refine AOps.nil ?_
      refine AEx.seq ?_
      refine AEx.regionG 14 rfl ?_
      refine AG.q hC rfl ?_ ?_
      · intro hg; refine And.intro ?_ ?_ <;> repeat' (first | exact True.intro | exact hg | exact and_l hg | exact and_l (and_l hg) | refine And.intro ?_ ?_)
      refine AG.q hC rfl ?_ ?_
      · intro hg; refine And.intro ?_ ?_ <;> repeat' (first | exact True.intro | exact hg | exact and_l hg | exact and_l (and_l hg) | refine And.intro ?_ ?_)
      obtain ⟨x5, hx5, hh⟩ := bind_some hh
      refine AG.c rfl rfl (by intro hg; repeat' (first | exact True.intro | exact hg | exact and_l hg | exact and_l (and_l hg) | refine And.intro ?_ ?_)) (fun _ => ref10_EqualType_ok hx5) ?_
      refine AG.q hC rfl ?_ ?_
      · intro hg; refine And.intro ?_ ?_ <;> repeat' (first | exact True.intro | exact hg | exact and_l hg | exact and_l (and_l hg) | refine And.intro ?_ ?_)
      refine AG.q hC rfl ?_ ?_
      · intro hg; refine And.intro ?_ ?_ <;> repeat' (first | exact True.intro | exact hg | exact and_l hg | exact and_l (and_l hg) | refine And.intro ?_ ?_)
      refine AG.q hC rfl ?_ ?_
      · intro hg; refine And.intro ?_ ?_ <;> repeat' (first | exact True.intro | exact hg | exact and_l hg | exact and_l (and_l hg) | refine And.intro ?_ ?_)
      refine AG.q hC rfl ?_ ?_
      · intro hg; refine And.intro ?_ ?_ <;> repeat' (first | exact True.intro | exact hg | exact and_l hg | exact and_l (and_l hg) | refine And.intro ?_ ?_)
      refine AG.p hC rfl ?_ ?_
      · intro hg; refine And.intro ?_ (And.intro ?_ ?_) <;> first | exact True.intro | exact fun _ => True.intro | exact And.intro hg True.intro | exact fun h' => And.intro (wb_f h') True.intro | exact fun h' => And.intro (wb_t h') True.intro | exact fun h' => And.intro (and_f hg h') True.intro | exact fun h' => And.intro (and_t hg h') True.intro | exact And.intro (and_l hg) True.intro
      refine AG.q hC rfl ?_ ?_
      · intro hg; refine And.intro ?_ ?_ <;> repeat' (first | exact True.intro | exact hg | exact and_l hg | exact and_l (and_l hg) | refine And.intro ?_ ?_)
      refine AG.q hC rfl ?_ ?_
      · intro hg; refine And.intro ?_ ?_ <;> repeat' (first | exact True.intro | exact hg | exact and_l hg | exact and_l (and_l hg) | refine And.intro ?_ ?_)
      refine AG.q hC rfl ?_ ?_
      · intro hg; refine And.intro ?_ ?_ <;> repeat' (first | exact True.intro | exact hg | exact and_l hg | exact and_l (and_l hg) | refine And.intro ?_ ?_)
      refine AG.q hC rfl ?_ ?_
      · intro hg; refine And.intro ?_ ?_ <;> repeat' (first | exact True.intro | exact hg | exact and_l hg | exact and_l (and_l hg) | refine And.intro ?_ ?_)
      refine AG.p hC rfl ?_ ?_
      · intro hg; refine And.intro ?_ (And.intro ?_ ?_) <;> first | exact True.intro | exact fun _ => True.intro | exact And.intro hg True.intro | exact fun h' => And.intro (wb_f h') True.intro | exact fun h' => And.intro (wb_t h') True.intro | exact fun h' => And.intro (and_f hg h') True.intro | exact fun h' => And.intro (and_t hg h') True.intro | exact And.intro (and_l hg) True.intro
      refine AG.q hC rfl ?_ ?_
      · intro hg; refine And.intro ?_ ?_ <;> repeat' (first | exact True.intro | exact hg | exact and_l hg | exact and_l (and_l hg) | refine And.intro ?_ ?_)
      refine AG.nil ?_
      refine AOps.nil ?_
      refine AEx.ret ?_
      obtain rfl := Option.some.inj hh
      exact ⟨_, _, [], rfl, .rfl, trivial, rfl, rfl, rfl, rfl⟩
end Go.Proofs.YtonilfkaecbjnaaDoor
