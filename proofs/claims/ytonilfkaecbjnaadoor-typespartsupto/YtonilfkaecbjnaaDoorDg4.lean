/- What the functions compute, and that they do: printed by gen.py. -/
import Derived.Test.YtonilfkaecbjnaaDoorDg3
set_option maxRecDepth 100000
set_option maxHeartbeats 4000000
set_option linter.unusedVariables false
namespace Go.Proofs.YtonilfkaecbjnaaDoor
open Go.Am
def types_each_1_v3_l1 (path : Str) (t : ApiType) (s1 : Str) (o1 : Int) (o4 : ApiType) (o5 : Int) (o6 : Bool) (v25 : Int) : Option (Bool × Int × ApiType × Int × Bool) :=
  if (decide (v25 < t.Size)) = true then
    if (decide (path.length + 1 ≤ maxLen)) = true then
      X_Itoa v25 >>= fun x2 =>
      if (decide ((path ++ [46]).length + x2.length ≤ maxLen)) = true then
        idx t.Of 0 >>= fun x3 =>
        types_each_1_v4 ((path ++ [46]) ++ x2) x3 o1 s1 o4 o5 o6 >>= fun x4 =>
        if (!x4.1) = true then
          some (false, x4.2.1, x4.2.2.1, x4.2.2.2.1, x4.2.2.2.2)
        else
          types_each_1_v3_l1 path t s1 x4.2.1 x4.2.2.1 x4.2.2.2.1 x4.2.2.2.2 (IntKind.i64.wrap (v25 + 1))
      else none
    else none
  else
    some (true, o1, o4, o5, o6)
  partial_fixpoint
theorem types_each_1_v3_l1_grp (path : Str) (t : ApiType) (s1 : Str) : (∀ (o1 : Int) (o4 : ApiType) (o5 : Int) (o6 : Bool) (v25 : Int) (res : Bool × Int × ApiType × Int × Bool), types_each_1_v3_l1 path t s1 o1 o4 o5 o6 v25 = some res → ALoop (Fx.mk C 64 7) (lo (bk (sr (ca (sr (bk (sr (sl (sr (sr (bodyOf Tryd.f98))))))))))) (mkEnv [(0, .d (.str path)), (4, .ref 2 0), (6, .ref 7 0), (24, .d (.int .i64 t.Size)), (25, .d (.int .i64 v25))]) [.row [.clo 67 [.ref 3 0, .ref 4 0, .ref 5 0, .ref 6 0]] 88, .row [.d (.int .i64 o1)] 3, .row [.clo 98 [.ref 0 0, .ref 1 0, .ref 2 0]] 119, .row [.d (.str s1)] 9, .row (ApiType.cells o4) 27, .row [.d (.int .i64 o5)] 3, .row [.d (.bool o6)] 4, .row (ApiType.cells t) 27] (Am.InBlock 1 (Am.InBlock 0 (Am.Then (Fx.mk C 64 7) (sr (sr (sr (bodyOf Tryd.f98)))) (Am.Ends (Fx.mk C 64 7) Tryd.f98.results.toList (fun x H' => H' = [.row [.clo 67 [.ref 3 0, .ref 4 0, .ref 5 0, .ref 6 0]] 88, .row [.d (.int .i64 res.2.1)] 3, .row [.clo 98 [.ref 0 0, .ref 1 0, .ref 2 0]] 119, .row [.d (.str s1)] 9, .row (ApiType.cells res.2.2.1) 27, .row [.d (.int .i64 res.2.2.2.1)] 3, .row [.d (.bool res.2.2.2.2)] 4] ∧ x = .d (.bool res.1))))))) := by
  refine types_each_1_v3_l1.partial_correctness path
    t
    s1
    (fun o1 o4 o5 o6 v25 res => ALoop (Fx.mk C 64 7) (lo (bk (sr (ca (sr (bk (sr (sl (sr (sr (bodyOf Tryd.f98))))))))))) (mkEnv [(0, .d (.str path)), (4, .ref 2 0), (6, .ref 7 0), (24, .d (.int .i64 t.Size)), (25, .d (.int .i64 v25))]) [.row [.clo 67 [.ref 3 0, .ref 4 0, .ref 5 0, .ref 6 0]] 88, .row [.d (.int .i64 o1)] 3, .row [.clo 98 [.ref 0 0, .ref 1 0, .ref 2 0]] 119, .row [.d (.str s1)] 9, .row (ApiType.cells o4) 27, .row [.d (.int .i64 o5)] 3, .row [.d (.bool o6)] 4, .row (ApiType.cells t) 27] (Am.InBlock 1 (Am.InBlock 0 (Am.Then (Fx.mk C 64 7) (sr (sr (sr (bodyOf Tryd.f98)))) (Am.Ends (Fx.mk C 64 7) Tryd.f98.results.toList (fun x H' => H' = [.row [.clo 67 [.ref 3 0, .ref 4 0, .ref 5 0, .ref 6 0]] 88, .row [.d (.int .i64 res.2.1)] 3, .row [.clo 98 [.ref 0 0, .ref 1 0, .ref 2 0]] 119, .row [.d (.str s1)] 9, .row (ApiType.cells res.2.2.1) 27, .row [.d (.int .i64 res.2.2.2.1)] 3, .row [.d (.bool res.2.2.2.2)] 4] ∧ x = .d (.bool res.1))))))) ?_
  · intro g0 ih0 o1 o4 o5 o6 v25 res hh
    refine ALoop.unroll ?_
    refine AEx.seq ?_
    refine AEx.regionN rfl rfl ?_
    refine AOps.q hC rfl trivial ?_
    refine AOps.nil ?_
    refine AEx.seq ?_
    refine AEx.cond rfl (fun hb => ?_) (fun hb => ?_)
    · replace hh := if_t hb hh
      refine AEx.skip ?_
      refine AEx.seq ?_
      refine AEx.block ?_
      refine AEx.seq ?_
      refine AEx.regionN rfl rfl ?_
      iterate 2 refine AOps.q hC rfl trivial ?_
      refine AOps.nil ?_
      refine AEx.seq ?_
      refine AEx.draw hC 10 rfl rfl rfl ?_
      refine AQ.q hC rfl trivial ?_
      refine AQ.q hC rfl trivial ?_
      obtain ⟨c15, hh⟩ := asrt_some hh
      refine AQ.q hC rfl c15 ?_
      refine AQ.q hC rfl trivial ?_
      obtain ⟨x2, hx2, hh⟩ := bind_some hh
      refine AQ.c rfl rfl (X_Itoa_ok hx2) ?_
      obtain ⟨c16, hh⟩ := asrt_some hh
      refine AQ.q hC rfl c16 ?_
      refine AQ.q hC rfl trivial ?_
      refine AQ.q hC rfl trivial ?_
      obtain ⟨x3, hx3, hh⟩ := bind_some hh
      refine AQ.i hC rfl (idx_nat hx3) (ApiType.idx hx3) rfl ?_
      refine AQ.q hC rfl trivial ?_
      refine AQ.nil ?_
      obtain ⟨x4, hx4, hh⟩ := bind_some hh
      refine AOps.g [0, 1, 2, 3, 4, 5, 6] rfl (types_each_1_v4_ok hx4) ⟨.rfl, ⟨.rfl, ⟨.rfl, ⟨.rfl, ⟨.rfl, trivial⟩⟩⟩⟩⟩ rfl ⟨rfl, ⟨rfl, ⟨rfl, ⟨rfl, ⟨rfl, ⟨rfl, ⟨rfl, trivial⟩⟩⟩⟩⟩⟩⟩ rfl rfl ?_
      refine AOps.q hC rfl trivial ?_
      refine AOps.nil ?_
      refine AEx.cond rfl (fun hb => ?_) (fun hb => ?_)
      · replace hh := if_t hb hh
        refine AEx.seq ?_
        refine AEx.regionN rfl rfl ?_
        refine AOps.q hC rfl trivial ?_
        refine AOps.nil ?_
        refine AEx.ret ?_
        obtain rfl := Option.some.inj hh
        exact ⟨_, _, [.row [.clo 67 [.ref 3 0, .ref 4 0, .ref 5 0, .ref 6 0]] 88, .row [.d (.int .i64 x4.2.1)] 3, .row [.clo 98 [.ref 0 0, .ref 1 0, .ref 2 0]] 119, .row [.d (.str s1)] 9, .row (ApiType.cells x4.2.2.1) 27, .row [.d (.int .i64 x4.2.2.2.1)] 3, .row [.d (.bool x4.2.2.2.2)] 4], rfl, .rfl, ⟨⟨rfl, .refl _, rfl⟩, ⟨⟨rfl, .refl _, rfl⟩, ⟨⟨rfl, .refl _, rfl⟩, ⟨⟨rfl, .refl _, rfl⟩, ⟨⟨rfl, .refl _, rfl⟩, ⟨⟨rfl, .refl _, rfl⟩, ⟨⟨rfl, .refl _, rfl⟩, trivial⟩⟩⟩⟩⟩⟩⟩, rfl, rfl, rfl, rfl⟩
      · replace hh := if_f hb hh
        refine AEx.skip ?_
        refine AEx.regionN rfl rfl ?_
        iterate 2 refine AOps.q hC rfl trivial ?_
        refine AOps.nil ?_
        refine ALoop.wk ?_ (ih0 _ _ _ _ _ _ hh)
        exact ⟨⟨⟨.rfl, rfl⟩, ⟨⟨.rfl, rfl⟩, ⟨⟨.rfl, rfl⟩, ⟨⟨.rfl, rfl⟩, ⟨⟨.rfl, rfl⟩, trivial⟩⟩⟩⟩⟩, ⟨⟨rfl, .refl _, rfl⟩, ⟨⟨rfl, .refl _, rfl⟩, ⟨⟨rfl, .refl _, rfl⟩, ⟨⟨rfl, .refl _, rfl⟩, ⟨⟨rfl, .refl _, rfl⟩, ⟨⟨rfl, .refl _, rfl⟩, ⟨⟨rfl, .refl _, rfl⟩, ⟨⟨rfl, .refl _, rfl⟩, trivial⟩⟩⟩⟩⟩⟩⟩⟩, rfl⟩
    · replace hh := if_f hb hh
      refine AEx.exit ?_
      refine AEx.seq ?_
      refine AEx.regionN rfl rfl ?_
      refine AOps.q hC rfl trivial ?_
      refine AOps.nil ?_
      refine AEx.ret ?_
      obtain rfl := Option.some.inj hh
      exact ⟨_, _, [.row [.clo 67 [.ref 3 0, .ref 4 0, .ref 5 0, .ref 6 0]] 88, .row [.d (.int .i64 o1)] 3, .row [.clo 98 [.ref 0 0, .ref 1 0, .ref 2 0]] 119, .row [.d (.str s1)] 9, .row (ApiType.cells o4) 27, .row [.d (.int .i64 o5)] 3, .row [.d (.bool o6)] 4], rfl, .rfl, ⟨⟨rfl, .refl _, rfl⟩, ⟨⟨rfl, .refl _, rfl⟩, ⟨⟨rfl, .refl _, rfl⟩, ⟨⟨rfl, .refl _, rfl⟩, ⟨⟨rfl, .refl _, rfl⟩, ⟨⟨rfl, .refl _, rfl⟩, ⟨⟨rfl, .refl _, rfl⟩, trivial⟩⟩⟩⟩⟩⟩⟩, rfl, rfl, rfl, rfl⟩
theorem types_each_1_v3_l1_ok {path : Str} {t : ApiType} {s1 : Str} {o1 : Int} {o4 : ApiType} {o5 : Int} {o6 : Bool} {v25 : Int} {res : Bool × Int × ApiType × Int × Bool} (hh : types_each_1_v3_l1 path t s1 o1 o4 o5 o6 v25 = some res) : ALoop (Fx.mk C 64 7) (lo (bk (sr (ca (sr (bk (sr (sl (sr (sr (bodyOf Tryd.f98))))))))))) (mkEnv [(0, .d (.str path)), (4, .ref 2 0), (6, .ref 7 0), (24, .d (.int .i64 t.Size)), (25, .d (.int .i64 v25))]) [.row [.clo 67 [.ref 3 0, .ref 4 0, .ref 5 0, .ref 6 0]] 88, .row [.d (.int .i64 o1)] 3, .row [.clo 98 [.ref 0 0, .ref 1 0, .ref 2 0]] 119, .row [.d (.str s1)] 9, .row (ApiType.cells o4) 27, .row [.d (.int .i64 o5)] 3, .row [.d (.bool o6)] 4, .row (ApiType.cells t) 27] (Am.InBlock 1 (Am.InBlock 0 (Am.Then (Fx.mk C 64 7) (sr (sr (sr (bodyOf Tryd.f98)))) (Am.Ends (Fx.mk C 64 7) Tryd.f98.results.toList (fun x H' => H' = [.row [.clo 67 [.ref 3 0, .ref 4 0, .ref 5 0, .ref 6 0]] 88, .row [.d (.int .i64 res.2.1)] 3, .row [.clo 98 [.ref 0 0, .ref 1 0, .ref 2 0]] 119, .row [.d (.str s1)] 9, .row (ApiType.cells res.2.2.1) 27, .row [.d (.int .i64 res.2.2.2.1)] 3, .row [.d (.bool res.2.2.2.2)] 4] ∧ x = .d (.bool res.1)))))) := (types_each_1_v3_l1_grp path t s1) _ _ _ _ _ _ hh
def types_each_1_v3_l2 (path : Str) (t : ApiType) (s1 : Str) (o11 : Int) (o41 : ApiType) (o51 : Int) (o61 : Bool) (v46 : Int) : Option (Bool × Int × ApiType × Int × Bool) :=
  if (decide (v46 < ((t.Of).length : Int))) = true then
    idx t.Of v46 >>= fun x5 =>
    if (decide (path.length + 1 ≤ maxLen)) = true then
      idx t.Names v46 >>= fun x6 =>
      if (decide ((path ++ [46]).length + x6.length ≤ maxLen)) = true then
        types_each_1_v4 ((path ++ [46]) ++ x6) x5 o11 s1 o41 o51 o61 >>= fun x7 =>
        if (!x7.1) = true then
          some (false, x7.2.1, x7.2.2.1, x7.2.2.2.1, x7.2.2.2.2)
        else
          types_each_1_v3_l2 path t s1 x7.2.1 x7.2.2.1 x7.2.2.2.1 x7.2.2.2.2 (IntKind.i64.wrap (v46 + 1))
      else none
    else none
  else
    some (true, o11, o41, o51, o61)
  partial_fixpoint
theorem types_each_1_v3_l2_grp (path : Str) (t : ApiType) (s1 : Str) : (∀ (o11 : Int) (o41 : ApiType) (o51 : Int) (o61 : Bool) (v46 : Int) (res : Bool × Int × ApiType × Int × Bool), types_each_1_v3_l2 path t s1 o11 o41 o51 o61 v46 = some res → ALoop (Fx.mk C 64 7) (lo (bk (sr (ca (sr (cb (sr (bk (sr (sl (sr (sr (bodyOf Tryd.f98))))))))))))) (mkEnv [(0, .d (.str path)), (4, .ref 2 0), (6, .ref 7 0), (44, .d (.sl (ApiType.rows t.Of))), (45, .d (.int .i64 ((t.Of).length : Int))), (46, .d (.int .i64 v46))]) [.row [.clo 67 [.ref 3 0, .ref 4 0, .ref 5 0, .ref 6 0]] 88, .row [.d (.int .i64 o11)] 3, .row [.clo 98 [.ref 0 0, .ref 1 0, .ref 2 0]] 119, .row [.d (.str s1)] 9, .row (ApiType.cells o41) 27, .row [.d (.int .i64 o51)] 3, .row [.d (.bool o61)] 4, .row (ApiType.cells t) 27] (Am.InBlock 3 (Am.InBlock 0 (Am.Then (Fx.mk C 64 7) (sr (sr (sr (bodyOf Tryd.f98)))) (Am.Ends (Fx.mk C 64 7) Tryd.f98.results.toList (fun x H' => H' = [.row [.clo 67 [.ref 3 0, .ref 4 0, .ref 5 0, .ref 6 0]] 88, .row [.d (.int .i64 res.2.1)] 3, .row [.clo 98 [.ref 0 0, .ref 1 0, .ref 2 0]] 119, .row [.d (.str s1)] 9, .row (ApiType.cells res.2.2.1) 27, .row [.d (.int .i64 res.2.2.2.1)] 3, .row [.d (.bool res.2.2.2.2)] 4] ∧ x = .d (.bool res.1))))))) := by
  refine types_each_1_v3_l2.partial_correctness path
    t
    s1
    (fun o11 o41 o51 o61 v46 res => ALoop (Fx.mk C 64 7) (lo (bk (sr (ca (sr (cb (sr (bk (sr (sl (sr (sr (bodyOf Tryd.f98))))))))))))) (mkEnv [(0, .d (.str path)), (4, .ref 2 0), (6, .ref 7 0), (44, .d (.sl (ApiType.rows t.Of))), (45, .d (.int .i64 ((t.Of).length : Int))), (46, .d (.int .i64 v46))]) [.row [.clo 67 [.ref 3 0, .ref 4 0, .ref 5 0, .ref 6 0]] 88, .row [.d (.int .i64 o11)] 3, .row [.clo 98 [.ref 0 0, .ref 1 0, .ref 2 0]] 119, .row [.d (.str s1)] 9, .row (ApiType.cells o41) 27, .row [.d (.int .i64 o51)] 3, .row [.d (.bool o61)] 4, .row (ApiType.cells t) 27] (Am.InBlock 3 (Am.InBlock 0 (Am.Then (Fx.mk C 64 7) (sr (sr (sr (bodyOf Tryd.f98)))) (Am.Ends (Fx.mk C 64 7) Tryd.f98.results.toList (fun x H' => H' = [.row [.clo 67 [.ref 3 0, .ref 4 0, .ref 5 0, .ref 6 0]] 88, .row [.d (.int .i64 res.2.1)] 3, .row [.clo 98 [.ref 0 0, .ref 1 0, .ref 2 0]] 119, .row [.d (.str s1)] 9, .row (ApiType.cells res.2.2.1) 27, .row [.d (.int .i64 res.2.2.2.1)] 3, .row [.d (.bool res.2.2.2.2)] 4] ∧ x = .d (.bool res.1))))))) ?_
  · intro g0 ih0 o11 o41 o51 o61 v46 res hh
    refine ALoop.unroll ?_
    refine AEx.seq ?_
    refine AEx.regionN rfl rfl ?_
    refine AOps.q hC rfl trivial ?_
    refine AOps.nil ?_
    refine AEx.seq ?_
    refine AEx.cond rfl (fun hb => ?_) (fun hb => ?_)
    · replace hh := if_t hb hh
      refine AEx.skip ?_
      refine AEx.seq ?_
      refine AEx.block ?_
      refine AEx.seq ?_
      refine AEx.regionN rfl rfl ?_
      refine AOps.q hC rfl trivial ?_
      obtain ⟨x5, hx5, hh⟩ := bind_some hh
      refine AOps.i hC rfl (idx_nat hx5) (ApiType.idx hx5) rfl ?_
      refine AOps.q hC rfl trivial ?_
      refine AOps.nf hC rfl ?_
      refine AOps.q hC rfl trivial ?_
      refine AOps.s hC rfl ?_
      refine AOps.nil ?_
      refine AEx.seq ?_
      refine AEx.draw hC 10 rfl rfl rfl ?_
      refine AQ.q hC rfl trivial ?_
      refine AQ.q hC rfl trivial ?_
      obtain ⟨c17, hh⟩ := asrt_some hh
      refine AQ.q hC rfl c17 ?_
      refine AQ.q hC rfl trivial ?_
      refine AQ.q hC rfl trivial ?_
      refine AQ.q hC rfl trivial ?_
      obtain ⟨x6, hx6, hh⟩ := bind_some hh
      refine AQ.i hC rfl (idx_nat hx6) (estr.idx hx6) rfl ?_
      refine AQ.q hC rfl trivial ?_
      obtain ⟨c18, hh⟩ := asrt_some hh
      refine AQ.q hC rfl c18 ?_
      refine AQ.q hC rfl trivial ?_
      refine AQ.nil ?_
      obtain ⟨x7, hx7, hh⟩ := bind_some hh
      refine AOps.g [0, 1, 2, 3, 4, 5, 6] rfl (types_each_1_v4_ok hx7) ⟨.rfl, ⟨.rfl, ⟨.rfl, ⟨.rfl, ⟨.rfl, trivial⟩⟩⟩⟩⟩ rfl ⟨rfl, ⟨rfl, ⟨rfl, ⟨rfl, ⟨rfl, ⟨rfl, ⟨rfl, trivial⟩⟩⟩⟩⟩⟩⟩ rfl rfl ?_
      refine AOps.q hC rfl trivial ?_
      refine AOps.nil ?_
      refine AEx.cond rfl (fun hb => ?_) (fun hb => ?_)
      · replace hh := if_t hb hh
        refine AEx.seq ?_
        refine AEx.regionN rfl rfl ?_
        refine AOps.q hC rfl trivial ?_
        refine AOps.nil ?_
        refine AEx.ret ?_
        obtain rfl := Option.some.inj hh
        exact ⟨_, _, [.row [.clo 67 [.ref 3 0, .ref 4 0, .ref 5 0, .ref 6 0]] 88, .row [.d (.int .i64 x7.2.1)] 3, .row [.clo 98 [.ref 0 0, .ref 1 0, .ref 2 0]] 119, .row [.d (.str s1)] 9, .row (ApiType.cells x7.2.2.1) 27, .row [.d (.int .i64 x7.2.2.2.1)] 3, .row [.d (.bool x7.2.2.2.2)] 4], rfl, .rfl, ⟨⟨rfl, .refl _, rfl⟩, ⟨⟨rfl, .refl _, rfl⟩, ⟨⟨rfl, .refl _, rfl⟩, ⟨⟨rfl, .refl _, rfl⟩, ⟨⟨rfl, .refl _, rfl⟩, ⟨⟨rfl, .refl _, rfl⟩, ⟨⟨rfl, .refl _, rfl⟩, trivial⟩⟩⟩⟩⟩⟩⟩, rfl, rfl, rfl, rfl⟩
      · replace hh := if_f hb hh
        refine AEx.skip ?_
        refine AEx.regionN rfl rfl ?_
        iterate 2 refine AOps.q hC rfl trivial ?_
        refine AOps.nil ?_
        refine ALoop.wk ?_ (ih0 _ _ _ _ _ _ hh)
        exact ⟨⟨⟨.rfl, rfl⟩, ⟨⟨.rfl, rfl⟩, ⟨⟨.rfl, rfl⟩, ⟨⟨.rfl, rfl⟩, ⟨⟨.rfl, rfl⟩, ⟨⟨.rfl, rfl⟩, trivial⟩⟩⟩⟩⟩⟩, ⟨⟨rfl, .refl _, rfl⟩, ⟨⟨rfl, .refl _, rfl⟩, ⟨⟨rfl, .refl _, rfl⟩, ⟨⟨rfl, .refl _, rfl⟩, ⟨⟨rfl, .refl _, rfl⟩, ⟨⟨rfl, .refl _, rfl⟩, ⟨⟨rfl, .refl _, rfl⟩, ⟨⟨rfl, .refl _, rfl⟩, trivial⟩⟩⟩⟩⟩⟩⟩⟩, rfl⟩
    · replace hh := if_f hb hh
      refine AEx.exit ?_
      refine AEx.seq ?_
      refine AEx.regionN rfl rfl ?_
      refine AOps.q hC rfl trivial ?_
      refine AOps.nil ?_
      refine AEx.ret ?_
      obtain rfl := Option.some.inj hh
      exact ⟨_, _, [.row [.clo 67 [.ref 3 0, .ref 4 0, .ref 5 0, .ref 6 0]] 88, .row [.d (.int .i64 o11)] 3, .row [.clo 98 [.ref 0 0, .ref 1 0, .ref 2 0]] 119, .row [.d (.str s1)] 9, .row (ApiType.cells o41) 27, .row [.d (.int .i64 o51)] 3, .row [.d (.bool o61)] 4], rfl, .rfl, ⟨⟨rfl, .refl _, rfl⟩, ⟨⟨rfl, .refl _, rfl⟩, ⟨⟨rfl, .refl _, rfl⟩, ⟨⟨rfl, .refl _, rfl⟩, ⟨⟨rfl, .refl _, rfl⟩, ⟨⟨rfl, .refl _, rfl⟩, ⟨⟨rfl, .refl _, rfl⟩, trivial⟩⟩⟩⟩⟩⟩⟩, rfl, rfl, rfl, rfl⟩
theorem types_each_1_v3_l2_ok {path : Str} {t : ApiType} {s1 : Str} {o11 : Int} {o41 : ApiType} {o51 : Int} {o61 : Bool} {v46 : Int} {res : Bool × Int × ApiType × Int × Bool} (hh : types_each_1_v3_l2 path t s1 o11 o41 o51 o61 v46 = some res) : ALoop (Fx.mk C 64 7) (lo (bk (sr (ca (sr (cb (sr (bk (sr (sl (sr (sr (bodyOf Tryd.f98))))))))))))) (mkEnv [(0, .d (.str path)), (4, .ref 2 0), (6, .ref 7 0), (44, .d (.sl (ApiType.rows t.Of))), (45, .d (.int .i64 ((t.Of).length : Int))), (46, .d (.int .i64 v46))]) [.row [.clo 67 [.ref 3 0, .ref 4 0, .ref 5 0, .ref 6 0]] 88, .row [.d (.int .i64 o11)] 3, .row [.clo 98 [.ref 0 0, .ref 1 0, .ref 2 0]] 119, .row [.d (.str s1)] 9, .row (ApiType.cells o41) 27, .row [.d (.int .i64 o51)] 3, .row [.d (.bool o61)] 4, .row (ApiType.cells t) 27] (Am.InBlock 3 (Am.InBlock 0 (Am.Then (Fx.mk C 64 7) (sr (sr (sr (bodyOf Tryd.f98)))) (Am.Ends (Fx.mk C 64 7) Tryd.f98.results.toList (fun x H' => H' = [.row [.clo 67 [.ref 3 0, .ref 4 0, .ref 5 0, .ref 6 0]] 88, .row [.d (.int .i64 res.2.1)] 3, .row [.clo 98 [.ref 0 0, .ref 1 0, .ref 2 0]] 119, .row [.d (.str s1)] 9, .row (ApiType.cells res.2.2.1) 27, .row [.d (.int .i64 res.2.2.2.1)] 3, .row [.d (.bool res.2.2.2.2)] 4] ∧ x = .d (.bool res.1)))))) := (types_each_1_v3_l2_grp path t s1) _ _ _ _ _ _ hh
def types_each_1_v3 (path : Str) (t : ApiType) (s : Int) (s1 : Str) (apiType : ApiType) (s2 : Int) (s3 : Bool) : Option (Bool × Int × ApiType × Int × Bool) :=
  types_Find_1 path s t s1 apiType s2 s3 >>= fun x1 =>
  if (!x1.1) = true then
    some (false, s, x1.2.1, x1.2.2.1, x1.2.2.2)
  else
    if (t.Kind == 2) = true then
      types_each_1_v3_l1 path t s1 s x1.2.1 x1.2.2.1 x1.2.2.2 0
    else
      if (t.Kind == 3) = true then
        types_each_1_v3_l2 path t s1 s x1.2.1 x1.2.2.1 x1.2.2.2 0
      else
        some (true, (IntKind.i64.wrap (s + 1)), x1.2.1, x1.2.2.1, x1.2.2.2)
theorem types_each_1_v3_ok {path : Str} {t : ApiType} {s : Int} {s1 : Str} {apiType : ApiType} {s2 : Int} {s3 : Bool} {res : Bool × Int × ApiType × Int × Bool} (hh : types_each_1_v3 path t s s1 apiType s2 s3 = some res) : ACall C 98 [.d (.str path), .agg (ApiType.cells t), .ref 0 0, .ref 1 0, .ref 2 0] [.row [.clo 67 [.ref 3 0, .ref 4 0, .ref 5 0, .ref 6 0]] 88, .row [.d (.int .i64 s)] 3, .row [.clo 98 [.ref 0 0, .ref 1 0, .ref 2 0]] 119, .row [.d (.str s1)] 9, .row [.d (.int .i64 apiType.Kind), .d (.int .i64 apiType.Low), .d (.int .i64 apiType.High), .d (.int .i64 apiType.Size), .d (.str apiType.Name), .full (estr.rows apiType.Names), .full (ApiType.rows apiType.Of)] 27, .row [.d (.int .i64 s2)] 3, .row [.d (.bool s3)] 4] (fun x H' => H' = [.row [.clo 67 [.ref 3 0, .ref 4 0, .ref 5 0, .ref 6 0]] 88, .row [.d (.int .i64 res.2.1)] 3, .row [.clo 98 [.ref 0 0, .ref 1 0, .ref 2 0]] 119, .row [.d (.str s1)] 9, .row (ApiType.cells res.2.2.1) 27, .row [.d (.int .i64 res.2.2.2.1)] 3, .row [.d (.bool res.2.2.2.2)] 4] ∧ x = .d (.bool res.1)) := by
  unfold types_each_1_v3 at hh
  refine ACall.intro hC Tryd.func98 rfl rfl rfl ?_
  refine AEx.seq ?_
  refine AEx.regionN rfl rfl ?_
  refine AOps.n hC rfl ?_
  refine AOps.q hC rfl trivial ?_
  refine AOps.nil ?_
  refine AEx.seq ?_
  refine AEx.seq ?_
  refine AEx.regionN rfl rfl ?_
  iterate 4 refine AOps.q hC rfl trivial ?_
  obtain ⟨x1, hx1, hh⟩ := bind_some hh
  refine AOps.g [3, 4, 5, 6] rfl (types_Find_1_ok hx1) ⟨.rfl, ⟨.rfl, ⟨.rfl, ⟨.rfl, ⟨.rfl, ⟨.rfl, ⟨.rfl, trivial⟩⟩⟩⟩⟩⟩⟩ rfl ⟨rfl, ⟨rfl, ⟨rfl, ⟨rfl, trivial⟩⟩⟩⟩ rfl rfl ?_
  refine AOps.q hC rfl trivial ?_
  refine AOps.nil ?_
  refine AEx.cond rfl (fun hb => ?_) (fun hb => ?_)
  · replace hh := if_t hb hh
    refine AEx.seq ?_
    refine AEx.regionN rfl rfl ?_
    refine AOps.q hC rfl trivial ?_
    refine AOps.nil ?_
    refine AEx.ret ?_
    obtain rfl := Option.some.inj hh
    exact ⟨_, _, [.row [.clo 67 [.ref 3 0, .ref 4 0, .ref 5 0, .ref 6 0]] 88, .row [.d (.int .i64 s)] 3, .row [.clo 98 [.ref 0 0, .ref 1 0, .ref 2 0]] 119, .row [.d (.str s1)] 9, .row (ApiType.cells x1.2.1) 27, .row [.d (.int .i64 x1.2.2.1)] 3, .row [.d (.bool x1.2.2.2)] 4], rfl, .rfl, ⟨⟨rfl, .refl _, rfl⟩, ⟨⟨rfl, .refl _, rfl⟩, ⟨⟨rfl, .refl _, rfl⟩, ⟨⟨rfl, .refl _, rfl⟩, ⟨⟨rfl, .refl _, rfl⟩, ⟨⟨rfl, .refl _, rfl⟩, ⟨⟨rfl, .refl _, rfl⟩, trivial⟩⟩⟩⟩⟩⟩⟩, rfl, rfl, rfl, rfl⟩
  · replace hh := if_f hb hh
    refine AEx.skip ?_
    refine AEx.seq ?_
    refine AEx.seq ?_
    refine AEx.regionN rfl rfl ?_
    iterate 2 refine AOps.q hC rfl trivial ?_
    refine AOps.nil ?_
    refine AEx.block ?_
    refine AEx.seq ?_
    refine AEx.regionN rfl rfl ?_
    iterate 2 refine AOps.q hC rfl trivial ?_
    refine AOps.nil ?_
    refine AEx.cond rfl (fun hb => ?_) (fun hb => ?_)
    · replace hh := if_t hb hh
      refine AEx.seq ?_
      refine AEx.regionN rfl rfl ?_
      iterate 3 refine AOps.q hC rfl trivial ?_
      refine AOps.nil ?_
      refine AEx.block ?_
      refine AEx.ofLoop ?_
      refine ALoop.wk ?_ (types_each_1_v3_l1_ok hh)
      exact ⟨⟨⟨.rfl, rfl⟩, ⟨⟨.rfl, rfl⟩, ⟨⟨.rfl, rfl⟩, ⟨⟨.rfl, rfl⟩, ⟨⟨.rfl, rfl⟩, trivial⟩⟩⟩⟩⟩, ⟨⟨rfl, .refl _, rfl⟩, ⟨⟨rfl, .refl _, rfl⟩, ⟨⟨rfl, .refl _, rfl⟩, ⟨⟨rfl, .refl _, rfl⟩, ⟨⟨rfl, .refl _, rfl⟩, ⟨⟨rfl, .refl _, rfl⟩, ⟨⟨rfl, .refl _, rfl⟩, ⟨⟨rfl, .refl _, rfl⟩, trivial⟩⟩⟩⟩⟩⟩⟩⟩, rfl⟩
    · replace hh := if_f hb hh
      refine AEx.seq ?_
      refine AEx.regionN rfl rfl ?_
      iterate 2 refine AOps.q hC rfl trivial ?_
      refine AOps.nil ?_
      refine AEx.cond rfl (fun hb => ?_) (fun hb => ?_)
      · replace hh := if_t hb hh
        refine AEx.seq ?_
        refine AEx.regionN rfl rfl ?_
        iterate 2 refine AOps.q hC rfl trivial ?_
        refine AOps.qe hC rfl trivial (ApiType.lenA _) ?_
        refine AOps.q hC rfl trivial ?_
        refine AOps.nil ?_
        refine AEx.block ?_
        refine AEx.ofLoop ?_
        refine ALoop.wk ?_ (types_each_1_v3_l2_ok hh)
        exact ⟨⟨⟨.rfl, rfl⟩, ⟨⟨.rfl, rfl⟩, ⟨⟨.rfl, rfl⟩, ⟨⟨.rfl, rfl⟩, ⟨⟨.rfl, rfl⟩, ⟨⟨.rfl, rfl⟩, trivial⟩⟩⟩⟩⟩⟩, ⟨⟨rfl, .refl _, rfl⟩, ⟨⟨rfl, .refl _, rfl⟩, ⟨⟨rfl, .refl _, rfl⟩, ⟨⟨rfl, .refl _, rfl⟩, ⟨⟨rfl, .refl _, rfl⟩, ⟨⟨rfl, .refl _, rfl⟩, ⟨⟨rfl, .refl _, rfl⟩, ⟨⟨rfl, .refl _, rfl⟩, trivial⟩⟩⟩⟩⟩⟩⟩⟩, rfl⟩
      · replace hh := if_f hb hh
        refine AEx.regionN rfl rfl ?_
        iterate 2 refine AOps.q hC rfl trivial ?_
        refine AOps.s hC rfl ?_
        refine AOps.nil ?_
        refine AEx.seq ?_
        refine AEx.regionN rfl rfl ?_
        refine AOps.q hC rfl trivial ?_
        refine AOps.nil ?_
        refine AEx.ret ?_
        obtain rfl := Option.some.inj hh
        exact ⟨_, _, [.row [.clo 67 [.ref 3 0, .ref 4 0, .ref 5 0, .ref 6 0]] 88, .row [.d (.int .i64 (IntKind.i64.wrap (s + 1)))] 3, .row [.clo 98 [.ref 0 0, .ref 1 0, .ref 2 0]] 119, .row [.d (.str s1)] 9, .row (ApiType.cells x1.2.1) 27, .row [.d (.int .i64 x1.2.2.1)] 3, .row [.d (.bool x1.2.2.2)] 4], rfl, .rfl, ⟨⟨rfl, .refl _, rfl⟩, ⟨⟨rfl, .refl _, rfl⟩, ⟨⟨rfl, .refl _, rfl⟩, ⟨⟨rfl, .refl _, rfl⟩, ⟨⟨rfl, .refl _, rfl⟩, ⟨⟨rfl, .refl _, rfl⟩, ⟨⟨rfl, .refl _, rfl⟩, trivial⟩⟩⟩⟩⟩⟩⟩, rfl, rfl, rfl, rfl⟩
def types_each_v3 (t : ApiType) (s : Str) (apiType : ApiType) (s1 : Int) (s2 : Bool) : Option (ApiType × Int × Bool) :=
  types_each_1_v3 [] t 0 s apiType s1 s2 >>= fun x1 =>
  some (x1.2.2.1, x1.2.2.2.1, x1.2.2.2.2)
theorem types_each_v3_ok {t : ApiType} {s : Str} {apiType : ApiType} {s1 : Int} {s2 : Bool} {res : ApiType × Int × Bool} (hh : types_each_v3 t s apiType s1 s2 = some res) : ACall C 54 [.agg (ApiType.cells t), .clo 67 [.ref 0 0, .ref 1 0, .ref 2 0, .ref 3 0]] [.row [.d (.str s)] 9, .row [.d (.int .i64 apiType.Kind), .d (.int .i64 apiType.Low), .d (.int .i64 apiType.High), .d (.int .i64 apiType.Size), .d (.str apiType.Name), .full (estr.rows apiType.Names), .full (ApiType.rows apiType.Of)] 27, .row [.d (.int .i64 s1)] 3, .row [.d (.bool s2)] 4] (fun x H' => H' = [.row [.d (.str s)] 9, .row (ApiType.cells res.1) 27, .row [.d (.int .i64 res.2.1)] 3, .row [.d (.bool res.2.2)] 4] ∧ x = .tup []) := by
  unfold types_each_v3 at hh
  refine ACall.intro hC Tryd.func54 rfl rfl rfl ?_
  refine AEx.seq ?_
  refine AEx.regionN rfl rfl ?_
  refine AOps.n hC rfl ?_
  refine AOps.n hC rfl ?_
  refine AOps.nil ?_
  refine AEx.seq ?_
  refine AEx.regionN rfl rfl ?_
  refine AOps.n hC rfl ?_
  refine AOps.s hC rfl ?_
  refine AOps.nil ?_
  refine AEx.seq ?_
  refine AEx.regionN rfl rfl ?_
  refine AOps.n hC rfl ?_
  refine AOps.nil ?_
  refine AEx.seq ?_
  refine AEx.regionN rfl rfl ?_
  refine AOps.q hC rfl trivial ?_
  refine AOps.s hC rfl ?_
  refine AOps.nil ?_
  refine AEx.regionN rfl rfl ?_
  iterate 2 refine AOps.q hC rfl trivial ?_
  obtain ⟨x1, hx1, hh⟩ := bind_some hh
  refine AOps.g [5, 6, 7, 0, 1, 2, 3] rfl (types_each_1_v3_ok hx1) ⟨.rfl, ⟨.rfl, ⟨.rfl, ⟨.rfl, ⟨.rfl, trivial⟩⟩⟩⟩⟩ rfl ⟨rfl, ⟨rfl, ⟨rfl, ⟨rfl, ⟨rfl, ⟨rfl, ⟨rfl, trivial⟩⟩⟩⟩⟩⟩⟩ rfl rfl ?_
  refine AOps.nil ?_
  obtain rfl := Option.some.inj hh
  exact ⟨_, _, [.row [.d (.str s)] 9, .row (ApiType.cells x1.2.2.1) 27, .row [.d (.int .i64 x1.2.2.2.1)] 3, .row [.d (.bool x1.2.2.2.2)] 4], rfl, .rfl, ⟨⟨rfl, .refl _, rfl⟩, ⟨⟨rfl, .refl _, rfl⟩, ⟨⟨rfl, .refl _, rfl⟩, ⟨⟨rfl, .refl _, rfl⟩, trivial⟩⟩⟩⟩, rfl, rfl, rfl, rfl⟩
def types_Find (t : ApiType) (path : Str) : Option (ApiType × Int × Int) :=
  types_Check t >>= fun x1 =>
  if (x1 != 0) = true then
    some ((ApiType.mk 0 0 0 0 [] [] []), 0, x1)
  else
    types_each_v3 t path (ApiType.mk 0 0 0 0 [] [] []) 0 false >>= fun x2 =>
    if (!x2.2.2) = true then
      some ((ApiType.mk 0 0 0 0 [] [] []), 0, 7)
    else
      some (x2.1, x2.2.1, 0)
theorem types_Find_ok {t : ApiType} {path : Str} {res : ApiType × Int × Int} (hh : types_Find t path = some res) : ACall C 35 [.agg (ApiType.cells t), .d (.str path)] [] (fun x H' => H' = [] ∧ x = .tup [.agg (ApiType.cells res.1), .d (.int .i64 res.2.1), .d (.int .i64 res.2.2)]) := by
  unfold types_Find at hh
  refine ACall.intro hC Tryd.func35 rfl rfl rfl ?_
  refine AEx.seq ?_
  refine AEx.regionN rfl rfl ?_
  refine AOps.n hC rfl ?_
  refine AOps.n hC rfl ?_
  refine AOps.nf hC rfl ?_
  iterate 2 refine AOps.q hC rfl trivial ?_
  refine AOps.nil ?_
  refine AEx.seq ?_
  refine AEx.seq ?_
  refine AEx.regionN rfl rfl ?_
  refine AOps.q hC rfl trivial ?_
  obtain ⟨x1, hx1, hh⟩ := bind_some hh
  refine AOps.c rfl rfl (types_Check_ok hx1) ?_
  refine AOps.q hC rfl trivial ?_
  refine AOps.nil ?_
  refine AEx.seq ?_
  refine AEx.regionN rfl rfl ?_
  iterate 2 refine AOps.q hC rfl trivial ?_
  refine AOps.nil ?_
  refine AEx.cond rfl (fun hb => ?_) (fun hb => ?_)
  · replace hh := if_t hb hh
    refine AEx.seq ?_
    refine AEx.regionN rfl rfl ?_
    iterate 2 refine AOps.q hC rfl trivial ?_
    refine AOps.s hC rfl ?_
    iterate 2 refine AOps.q hC rfl trivial ?_
    refine AOps.nil ?_
    refine AEx.ret ?_
    obtain rfl := Option.some.inj hh
    exact ⟨_, _, [], rfl, .rfl, trivial, rfl, rfl, rfl, rfl⟩
  · replace hh := if_f hb hh
    refine AEx.skip ?_
    refine AEx.seq ?_
    refine AEx.regionN rfl rfl ?_
    refine AOps.nf hC rfl ?_
    refine AOps.nil ?_
    refine AEx.seq ?_
    refine AEx.regionN rfl rfl ?_
    refine AOps.n hC rfl ?_
    refine AOps.n hC rfl ?_
    refine AOps.s hC rfl ?_
    refine AOps.s hC rfl ?_
    refine AOps.nil ?_
    refine AEx.seq ?_
    refine AEx.regionN rfl rfl ?_
    iterate 2 refine AOps.q hC rfl trivial ?_
    obtain ⟨x2, hx2, hh⟩ := bind_some hh
    refine AOps.g [1, 3, 4, 5] rfl (types_each_v3_ok hx2) ⟨.rfl, ⟨.rfl, trivial⟩⟩ rfl ⟨rfl, ⟨rfl, ⟨rfl, ⟨rfl, trivial⟩⟩⟩⟩ rfl rfl ?_
    refine AOps.nil ?_
    refine AEx.seq ?_
    refine AEx.seq ?_
    refine AEx.regionN rfl rfl ?_
    iterate 2 refine AOps.q hC rfl trivial ?_
    refine AOps.nil ?_
    refine AEx.cond rfl (fun hb => ?_) (fun hb => ?_)
    · replace hh := if_t hb hh
      refine AEx.seq ?_
      refine AEx.regionN rfl rfl ?_
      refine AOps.q hC rfl trivial ?_
      refine AOps.s hC rfl ?_
      iterate 2 refine AOps.q hC rfl trivial ?_
      refine AOps.nil ?_
      refine AEx.ret ?_
      obtain rfl := Option.some.inj hh
      exact ⟨_, _, [], rfl, .rfl, trivial, rfl, rfl, rfl, rfl⟩
    · replace hh := if_f hb hh
      refine AEx.skip ?_
      refine AEx.seq ?_
      refine AEx.drawE hC ?_
      refine ADraw.step rfl (j0 := 0) (js := [1]) (by kernel_rfl) ⟨⟨_, rfl, ?_⟩, ⟨_, rfl, ?_⟩, trivial⟩
      · refine AOps.q hC rfl trivial ?_
        refine AOps.nil ?_
        refine ADraw.step rfl (j0 := 1) (js := [2]) (by kernel_rfl) ⟨⟨_, rfl, ?_⟩, ⟨_, rfl, ?_⟩, trivial⟩
        · refine AOps.q hC rfl trivial ?_
          refine AOps.nil ?_
          refine ADraw.step rfl (j0 := 2) (js := []) (by kernel_rfl) ⟨⟨_, rfl, ?_⟩, trivial⟩
          refine AOps.s hC rfl ?_
          refine AOps.nil ?_
          refine ADraw.step rfl (j0 := 3) (js := []) (by kernel_rfl) ⟨⟨_, rfl, ?_⟩, trivial⟩
          refine AOps.q hC rfl trivial ?_
          refine AOps.nil ?_
          refine ADraw.step rfl (j0 := 4) (js := []) (by kernel_rfl) ⟨⟨_, rfl, ?_⟩, trivial⟩
          refine AOps.q hC rfl trivial ?_
          refine AOps.nil ?_
          refine ADraw.nil (by kernel_rfl) ?_
          refine AEx.ret ?_
          obtain rfl := Option.some.inj hh
          exact ⟨_, _, [], rfl, .rfl, trivial, rfl, rfl, rfl, rfl⟩
        · refine AOps.s hC rfl ?_
          refine AOps.nil ?_
          refine ADraw.step rfl (j0 := 1) (js := []) (by kernel_rfl) ⟨⟨_, rfl, ?_⟩, trivial⟩
          refine AOps.q hC rfl trivial ?_
          refine AOps.nil ?_
          refine ADraw.step rfl (j0 := 3) (js := []) (by kernel_rfl) ⟨⟨_, rfl, ?_⟩, trivial⟩
          refine AOps.q hC rfl trivial ?_
          refine AOps.nil ?_
          refine ADraw.step rfl (j0 := 4) (js := []) (by kernel_rfl) ⟨⟨_, rfl, ?_⟩, trivial⟩
          refine AOps.q hC rfl trivial ?_
          refine AOps.nil ?_
          refine ADraw.nil (by kernel_rfl) ?_
          refine AEx.ret ?_
          obtain rfl := Option.some.inj hh
          exact ⟨_, _, [], rfl, .rfl, trivial, rfl, rfl, rfl, rfl⟩
      · refine AOps.q hC rfl trivial ?_
        refine AOps.nil ?_
        refine ADraw.step rfl (j0 := 0) (js := []) (by kernel_rfl) ⟨⟨_, rfl, ?_⟩, trivial⟩
        refine AOps.q hC rfl trivial ?_
        refine AOps.nil ?_
        refine ADraw.step rfl (j0 := 2) (js := []) (by kernel_rfl) ⟨⟨_, rfl, ?_⟩, trivial⟩
        refine AOps.s hC rfl ?_
        refine AOps.nil ?_
        refine ADraw.step rfl (j0 := 3) (js := []) (by kernel_rfl) ⟨⟨_, rfl, ?_⟩, trivial⟩
        refine AOps.q hC rfl trivial ?_
        refine AOps.nil ?_
        refine ADraw.step rfl (j0 := 4) (js := []) (by kernel_rfl) ⟨⟨_, rfl, ?_⟩, trivial⟩
        refine AOps.q hC rfl trivial ?_
        refine AOps.nil ?_
        refine ADraw.nil (by kernel_rfl) ?_
        refine AEx.ret ?_
        obtain rfl := Option.some.inj hh
        exact ⟨_, _, [], rfl, .rfl, trivial, rfl, rfl, rfl, rfl⟩
def law12_TypesParts_l2 (x3 : List ApiScalar × Int) (x9 : Str) (x10 : ApiType × Int × Int) (x11 : List ApiScalar × Int) (v153 : Int) : Option Bool :=
  if (decide (v153 < ((x11.1).length : Int))) = true then
    idx x11.1 v153 >>= fun x12 =>
    if (decide (x9.length + x12.Path.length ≤ maxLen)) = true then
      idx x3.1 (IntKind.i64.wrap (x10.2.1 + v153)) >>= fun x13 =>
      if (!(bif ((x9 ++ x12.Path) == x13.Path) then (bif (x12.Bool == x13.Bool) then (bif (x12.Low == x13.Low) then (bif (x12.High == x13.High) then true else false) else false) else false) else false)) = true then
        some false
      else
        law12_TypesParts_l2 x3 x9 x10 x11 (IntKind.i64.wrap (v153 + 1))
    else none
  else
    some true
  partial_fixpoint
theorem law12_TypesParts_l2_grp (x3 : List ApiScalar × Int) (x9 : Str) (x10 : ApiType × Int × Int) (x11 : List ApiScalar × Int) : (∀ (v153 : Int) (res : Bool), law12_TypesParts_l2 x3 x9 x10 x11 v153 = some res → ALoop (Fx.mk C 172 0) (lo (bk (sr (sl (sr (sr (sr (sr (sr (sr (sr (sr (sr (sr (sr (bodyOf Tryd.f10)))))))))))))))) (mkEnv [(5, .d (.sl (ApiScalar.rows x3.1))), (12, .d (.str x9)), (14, .d (.int .i64 x10.2.1)), (151, .d (.sl (ApiScalar.rows x11.1))), (152, .d (.int .i64 ((x11.1).length : Int))), (153, .d (.int .i64 v153))]) [] (Am.InBlock 2 (Am.Then (Fx.mk C 172 0) (sr (sr (sr (sr (sr (sr (sr (sr (sr (sr (sr (sr (bodyOf Tryd.f10))))))))))))) (Am.Ends (Fx.mk C 172 0) Tryd.f10.results.toList (fun x H' => H' = [] ∧ x = .d (.bool res)))))) := by
  refine law12_TypesParts_l2.partial_correctness x3
    x9
    x10
    x11
    (fun v153 res => ALoop (Fx.mk C 172 0) (lo (bk (sr (sl (sr (sr (sr (sr (sr (sr (sr (sr (sr (sr (sr (bodyOf Tryd.f10)))))))))))))))) (mkEnv [(5, .d (.sl (ApiScalar.rows x3.1))), (12, .d (.str x9)), (14, .d (.int .i64 x10.2.1)), (151, .d (.sl (ApiScalar.rows x11.1))), (152, .d (.int .i64 ((x11.1).length : Int))), (153, .d (.int .i64 v153))]) [] (Am.InBlock 2 (Am.Then (Fx.mk C 172 0) (sr (sr (sr (sr (sr (sr (sr (sr (sr (sr (sr (sr (bodyOf Tryd.f10))))))))))))) (Am.Ends (Fx.mk C 172 0) Tryd.f10.results.toList (fun x H' => H' = [] ∧ x = .d (.bool res)))))) ?_
  · intro g0 ih0 v153 res hh
    refine ALoop.unroll ?_
    refine AEx.seq ?_
    refine AEx.regionN rfl rfl ?_
    refine AOps.q hC rfl trivial ?_
    refine AOps.nil ?_
    refine AEx.seq ?_
    refine AEx.cond rfl (fun hb => ?_) (fun hb => ?_)
    · replace hh := if_t hb hh
      refine AEx.skip ?_
      refine AEx.seq ?_
      refine AEx.block ?_
      refine AEx.seq ?_
      refine AEx.regionN rfl rfl ?_
      refine AOps.q hC rfl trivial ?_
      obtain ⟨x12, hx12, hh⟩ := bind_some hh
      refine AOps.i hC rfl (idx_nat hx12) (ApiScalar.idx hx12) rfl ?_
      refine AOps.q hC rfl trivial ?_
      refine AOps.n hC rfl ?_
      refine AOps.q hC rfl trivial ?_
      refine AOps.s hC rfl ?_
      refine AOps.nil ?_
      refine AEx.seq ?_
      refine AEx.regionN rfl rfl ?_
      iterate 3 refine AOps.q hC rfl trivial ?_
      obtain ⟨c8, hh⟩ := asrt_some hh
      refine AOps.q hC rfl c8 ?_
      refine AOps.q hC rfl trivial ?_
      refine AOps.s hC rfl ?_
      refine AOps.nil ?_
      refine AEx.seq ?_
      refine AEx.draw hC 8 rfl rfl rfl ?_
      refine AQ.q hC rfl trivial ?_
      refine AQ.q hC rfl trivial ?_
      refine AQ.q hC rfl trivial ?_
      refine AQ.q hC rfl trivial ?_
      refine AQ.q hC rfl trivial ?_
      obtain ⟨x13, hx13, hh⟩ := bind_some hh
      refine AQ.i hC rfl (idx_nat hx13) (ApiScalar.idx hx13) rfl ?_
      refine AQ.q hC rfl trivial ?_
      refine AQ.se hC rfl (by kernel_rfl) ?_
      refine AQ.nil ?_
      refine AOps.nil ?_
      refine AEx.cond rfl (fun hb => ?_) (fun hb => ?_)
      · replace hh := if_t hb hh
        refine AEx.seq ?_
        refine AEx.regionN rfl rfl ?_
        refine AOps.q hC rfl trivial ?_
        refine AOps.nil ?_
        refine AEx.ret ?_
        obtain rfl := Option.some.inj hh
        exact ⟨_, _, [], rfl, .rfl, trivial, rfl, rfl, rfl, rfl⟩
      · replace hh := if_f hb hh
        refine AEx.skip ?_
        refine AEx.regionN rfl rfl ?_
        iterate 2 refine AOps.q hC rfl trivial ?_
        refine AOps.nil ?_
        refine ALoop.wk ?_ (ih0 _ _ hh)
        exact ⟨⟨⟨.rfl, rfl⟩, ⟨⟨.rfl, rfl⟩, ⟨⟨.rfl, rfl⟩, ⟨⟨.rfl, rfl⟩, ⟨⟨.rfl, rfl⟩, ⟨⟨.rfl, rfl⟩, trivial⟩⟩⟩⟩⟩⟩, trivial, rfl⟩
    · replace hh := if_f hb hh
      refine AEx.exit ?_
      refine AEx.seq ?_
      refine AEx.regionN rfl rfl ?_
      refine AOps.q hC rfl trivial ?_
      refine AOps.nil ?_
      refine AEx.ret ?_
      obtain rfl := Option.some.inj hh
      exact ⟨_, _, [], rfl, .rfl, trivial, rfl, rfl, rfl, rfl⟩
theorem law12_TypesParts_l2_ok {x3 : List ApiScalar × Int} {x9 : Str} {x10 : ApiType × Int × Int} {x11 : List ApiScalar × Int} {v153 : Int} {res : Bool} (hh : law12_TypesParts_l2 x3 x9 x10 x11 v153 = some res) : ALoop (Fx.mk C 172 0) (lo (bk (sr (sl (sr (sr (sr (sr (sr (sr (sr (sr (sr (sr (sr (bodyOf Tryd.f10)))))))))))))))) (mkEnv [(5, .d (.sl (ApiScalar.rows x3.1))), (12, .d (.str x9)), (14, .d (.int .i64 x10.2.1)), (151, .d (.sl (ApiScalar.rows x11.1))), (152, .d (.int .i64 ((x11.1).length : Int))), (153, .d (.int .i64 v153))]) [] (Am.InBlock 2 (Am.Then (Fx.mk C 172 0) (sr (sr (sr (sr (sr (sr (sr (sr (sr (sr (sr (sr (bodyOf Tryd.f10))))))))))))) (Am.Ends (Fx.mk C 172 0) Tryd.f10.results.toList (fun x H' => H' = [] ∧ x = .d (.bool res))))) := (law12_TypesParts_l2_grp x3 x9 x10 x11) _ _ hh
def law12_TypesParts_l1 (t : ApiType) (pick : Int) (x3 : List ApiScalar × Int) (v47 : Int) : Option Bool :=
  if (decide (v47 < ((x3.1).length : Int))) = true then
    idx x3.1 v47 >>= fun x5 =>
    types_Find t x5.Path >>= fun x6 =>
    if (bif (bif (bif (x6.2.2 != 0) then true else (x6.2.1 != v47)) then true else (!(x5.Bool == (x6.1.Kind == 0)))) then true else (bif (!x5.Bool) then (bif (bif (x6.1.Kind != 1) then true else (x6.1.Low != x5.Low)) then true else (x6.1.High != x5.High)) else false)) = true then
      some false
    else
      law12_TypesParts_l1 t pick x3 (IntKind.i64.wrap (v47 + 1))
  else
    if (decide (((x3.1).length : Int) ≠ 0)) = true then
      idx x3.1 (Int.tmod (IntKind.i64.wrap pick) ((x3.1).length : Int)) >>= fun x7 =>
      X_LastIndex x7.Path [46] >>= fun x8 =>
      slc x7.Path 0 (max 0 x8) >>= fun x9 =>
      types_Find t x9 >>= fun x10 =>
      types_Scalars x10.1 >>= fun x11 =>
      if (bif (bif (bif (bif (x10.2.2 != 0) then true else (x11.2 != 0)) then true else (decide (x10.2.1 < 0))) then true else (decide (x10.2.1 > ((x3.1).length : Int)))) then true else (decide (((x11.1).length : Int) > (IntKind.i64.wrap (((x3.1).length : Int) - x10.2.1))))) = true then
        some false
      else
        law12_TypesParts_l2 x3 x9 x10 x11 0
    else none
  partial_fixpoint
theorem law12_TypesParts_l1_grp (t : ApiType) (pick : Int) (x3 : List ApiScalar × Int) : (∀ (v47 : Int) (res : Bool), law12_TypesParts_l1 t pick x3 v47 = some res → ALoop (Fx.mk C 172 0) (lo (bk (sr (sl (sr (sr (sr (sr (sr (bodyOf Tryd.f10)))))))))) (mkEnv [(1, .d (.int .u8 pick)), (2, .ref 0 0), (5, .d (.sl (ApiScalar.rows x3.1))), (45, .d (.sl (ApiScalar.rows x3.1))), (46, .d (.int .i64 ((x3.1).length : Int))), (47, .d (.int .i64 v47))]) [.row (ApiType.cells t) 27] (Am.InBlock 0 (Am.Then (Fx.mk C 172 0) (sr (sr (sr (sr (sr (sr (bodyOf Tryd.f10))))))) (Am.Ends (Fx.mk C 172 0) Tryd.f10.results.toList (fun x H' => H' = [] ∧ x = .d (.bool res)))))) := by
  refine law12_TypesParts_l1.partial_correctness t
    pick
    x3
    (fun v47 res => ALoop (Fx.mk C 172 0) (lo (bk (sr (sl (sr (sr (sr (sr (sr (bodyOf Tryd.f10)))))))))) (mkEnv [(1, .d (.int .u8 pick)), (2, .ref 0 0), (5, .d (.sl (ApiScalar.rows x3.1))), (45, .d (.sl (ApiScalar.rows x3.1))), (46, .d (.int .i64 ((x3.1).length : Int))), (47, .d (.int .i64 v47))]) [.row (ApiType.cells t) 27] (Am.InBlock 0 (Am.Then (Fx.mk C 172 0) (sr (sr (sr (sr (sr (sr (bodyOf Tryd.f10))))))) (Am.Ends (Fx.mk C 172 0) Tryd.f10.results.toList (fun x H' => H' = [] ∧ x = .d (.bool res)))))) ?_
  · intro g0 ih0 v47 res hh
    refine ALoop.unroll ?_
    refine AEx.seq ?_
    refine AEx.regionN rfl rfl ?_
    refine AOps.q hC rfl trivial ?_
    refine AOps.nil ?_
    refine AEx.seq ?_
    refine AEx.cond rfl (fun hb => ?_) (fun hb => ?_)
    · replace hh := if_t hb hh
      refine AEx.skip ?_
      refine AEx.seq ?_
      refine AEx.block ?_
      refine AEx.seq ?_
      refine AEx.regionN rfl rfl ?_
      refine AOps.q hC rfl trivial ?_
      obtain ⟨x5, hx5, hh⟩ := bind_some hh
      refine AOps.i hC rfl (idx_nat hx5) (ApiScalar.idx hx5) rfl ?_
      refine AOps.q hC rfl trivial ?_
      refine AOps.n hC rfl ?_
      refine AOps.q hC rfl trivial ?_
      refine AOps.s hC rfl ?_
      refine AOps.nil ?_
      refine AEx.seq ?_
      refine AEx.regionN rfl rfl ?_
      iterate 3 refine AOps.q hC rfl trivial ?_
      obtain ⟨x6, hx6, hh⟩ := bind_some hh
      refine AOps.c rfl rfl (types_Find_ok hx6) ?_
      iterate 4 refine AOps.q hC rfl trivial ?_
      refine AOps.nf hC rfl ?_
      refine AOps.s hC rfl ?_
      iterate 2 refine AOps.q hC rfl trivial ?_
      refine AOps.nil ?_
      refine AEx.seq ?_
      refine AEx.regionG 39 rfl ?_
      refine AG.q hC rfl ?_ ?_
      · intro hg; refine And.intro ?_ ?_ <;> repeat' (first | exact True.intro | exact hg | exact and_l hg | exact and_l (and_l hg) | refine And.intro ?_ ?_)
      refine AG.q hC rfl ?_ ?_
      · intro hg; refine And.intro ?_ ?_ <;> repeat' (first | exact True.intro | exact hg | exact and_l hg | exact and_l (and_l hg) | refine And.intro ?_ ?_)
      refine AG.q hC rfl ?_ ?_
      · intro hg; refine And.intro ?_ ?_ <;> repeat' (first | exact True.intro | exact hg | exact and_l hg | exact and_l (and_l hg) | refine And.intro ?_ ?_)
      refine AG.q hC rfl ?_ ?_
      · intro hg; refine And.intro ?_ ?_ <;> repeat' (first | exact True.intro | exact hg | exact and_l hg | exact and_l (and_l hg) | refine And.intro ?_ ?_)
      refine AG.q hC rfl ?_ ?_
      · intro hg; refine And.intro ?_ ?_ <;> repeat' (first | exact True.intro | exact hg | exact and_l hg | exact and_l (and_l hg) | refine And.intro ?_ ?_)
      refine AG.q hC rfl ?_ ?_
      · intro hg; refine And.intro ?_ ?_ <;> repeat' (first | exact True.intro | exact hg | exact and_l hg | exact and_l (and_l hg) | refine And.intro ?_ ?_)
      refine AG.p hC rfl ?_ ?_
      · intro hg; refine And.intro ?_ (And.intro ?_ ?_) <;> first | exact True.intro | exact fun _ => True.intro | exact And.intro hg True.intro | exact fun h' => And.intro (wb_f h') True.intro | exact fun h' => And.intro (wb_t h') True.intro | exact fun h' => And.intro (and_f hg h') True.intro | exact fun h' => And.intro (and_t hg h') True.intro | exact And.intro (and_l hg) True.intro
      refine AG.q hC rfl ?_ ?_
      · intro hg; refine And.intro ?_ ?_ <;> repeat' (first | exact True.intro | exact hg | exact and_l hg | exact and_l (and_l hg) | refine And.intro ?_ ?_)
      refine AG.q hC rfl ?_ ?_
      · intro hg; refine And.intro ?_ ?_ <;> repeat' (first | exact True.intro | exact hg | exact and_l hg | exact and_l (and_l hg) | refine And.intro ?_ ?_)
      refine AG.q hC rfl ?_ ?_
      · intro hg; refine And.intro ?_ ?_ <;> repeat' (first | exact True.intro | exact hg | exact and_l hg | exact and_l (and_l hg) | refine And.intro ?_ ?_)
      refine AG.q hC rfl ?_ ?_
      · intro hg; refine And.intro ?_ ?_ <;> repeat' (first | exact True.intro | exact hg | exact and_l hg | exact and_l (and_l hg) | refine And.intro ?_ ?_)
      refine AG.q hC rfl ?_ ?_
      · intro hg; refine And.intro ?_ ?_ <;> repeat' (first | exact True.intro | exact hg | exact and_l hg | exact and_l (and_l hg) | refine And.intro ?_ ?_)
      refine AG.q hC rfl ?_ ?_
      · intro hg; refine And.intro ?_ ?_ <;> repeat' (first | exact True.intro | exact hg | exact and_l hg | exact and_l (and_l hg) | refine And.intro ?_ ?_)
      refine AG.q hC rfl ?_ ?_
      · intro hg; refine And.intro ?_ ?_ <;> repeat' (first | exact True.intro | exact hg | exact and_l hg | exact and_l (and_l hg) | refine And.intro ?_ ?_)
      refine AG.p hC rfl ?_ ?_
      · intro hg; refine And.intro ?_ (And.intro ?_ ?_) <;> first | exact True.intro | exact fun _ => True.intro | exact And.intro hg True.intro | exact fun h' => And.intro (wb_f h') True.intro | exact fun h' => And.intro (wb_t h') True.intro | exact fun h' => And.intro (and_f hg h') True.intro | exact fun h' => And.intro (and_t hg h') True.intro | exact And.intro (and_l hg) True.intro
      refine AG.q hC rfl ?_ ?_
      · intro hg; refine And.intro ?_ ?_ <;> repeat' (first | exact True.intro | exact hg | exact and_l hg | exact and_l (and_l hg) | refine And.intro ?_ ?_)
      refine AG.q hC rfl ?_ ?_
      · intro hg; refine And.intro ?_ ?_ <;> repeat' (first | exact True.intro | exact hg | exact and_l hg | exact and_l (and_l hg) | refine And.intro ?_ ?_)
      refine AG.q hC rfl ?_ ?_
      · intro hg; refine And.intro ?_ ?_ <;> repeat' (first | exact True.intro | exact hg | exact and_l hg | exact and_l (and_l hg) | refine And.intro ?_ ?_)
      refine AG.q hC rfl ?_ ?_
      · intro hg; refine And.intro ?_ ?_ <;> repeat' (first | exact True.intro | exact hg | exact and_l hg | exact and_l (and_l hg) | refine And.intro ?_ ?_)
      refine AG.q hC rfl ?_ ?_
      · intro hg; refine And.intro ?_ ?_ <;> repeat' (first | exact True.intro | exact hg | exact and_l hg | exact and_l (and_l hg) | refine And.intro ?_ ?_)
      refine AG.q hC rfl ?_ ?_
      · intro hg; refine And.intro ?_ ?_ <;> repeat' (first | exact True.intro | exact hg | exact and_l hg | exact and_l (and_l hg) | refine And.intro ?_ ?_)
      refine AG.q hC rfl ?_ ?_
      · intro hg; refine And.intro ?_ ?_ <;> repeat' (first | exact True.intro | exact hg | exact and_l hg | exact and_l (and_l hg) | refine And.intro ?_ ?_)
      refine AG.q hC rfl ?_ ?_
      · intro hg; refine And.intro ?_ ?_ <;> repeat' (first | exact True.intro | exact hg | exact and_l hg | exact and_l (and_l hg) | refine And.intro ?_ ?_)
      refine AG.q hC rfl ?_ ?_
      · intro hg; refine And.intro ?_ ?_ <;> repeat' (first | exact True.intro | exact hg | exact and_l hg | exact and_l (and_l hg) | refine And.intro ?_ ?_)
      refine AG.q hC rfl ?_ ?_
      · intro hg; refine And.intro ?_ ?_ <;> repeat' (first | exact True.intro | exact hg | exact and_l hg | exact and_l (and_l hg) | refine And.intro ?_ ?_)
      refine AG.q hC rfl ?_ ?_
      · intro hg; refine And.intro ?_ ?_ <;> repeat' (first | exact True.intro | exact hg | exact and_l hg | exact and_l (and_l hg) | refine And.intro ?_ ?_)
      refine AG.q hC rfl ?_ ?_
      · intro hg; refine And.intro ?_ ?_ <;> repeat' (first | exact True.intro | exact hg | exact and_l hg | exact and_l (and_l hg) | refine And.intro ?_ ?_)
      refine AG.q hC rfl ?_ ?_
      · intro hg; refine And.intro ?_ ?_ <;> repeat' (first | exact True.intro | exact hg | exact and_l hg | exact and_l (and_l hg) | refine And.intro ?_ ?_)
      refine AG.q hC rfl ?_ ?_
      · intro hg; refine And.intro ?_ ?_ <;> repeat' (first | exact True.intro | exact hg | exact and_l hg | exact and_l (and_l hg) | refine And.intro ?_ ?_)
      refine AG.p hC rfl ?_ ?_
      · intro hg; refine And.intro ?_ (And.intro ?_ ?_) <;> first | exact True.intro | exact fun _ => True.intro | exact And.intro hg True.intro | exact fun h' => And.intro (wb_f h') True.intro | exact fun h' => And.intro (wb_t h') True.intro | exact fun h' => And.intro (and_f hg h') True.intro | exact fun h' => And.intro (and_t hg h') True.intro | exact And.intro (and_l hg) True.intro
      refine AG.q hC rfl ?_ ?_
      · intro hg; refine And.intro ?_ ?_ <;> repeat' (first | exact True.intro | exact hg | exact and_l hg | exact and_l (and_l hg) | refine And.intro ?_ ?_)
      refine AG.q hC rfl ?_ ?_
      · intro hg; refine And.intro ?_ ?_ <;> repeat' (first | exact True.intro | exact hg | exact and_l hg | exact and_l (and_l hg) | refine And.intro ?_ ?_)
      refine AG.q hC rfl ?_ ?_
      · intro hg; refine And.intro ?_ ?_ <;> repeat' (first | exact True.intro | exact hg | exact and_l hg | exact and_l (and_l hg) | refine And.intro ?_ ?_)
      refine AG.q hC rfl ?_ ?_
      · intro hg; refine And.intro ?_ ?_ <;> repeat' (first | exact True.intro | exact hg | exact and_l hg | exact and_l (and_l hg) | refine And.intro ?_ ?_)
      refine AG.q hC rfl ?_ ?_
      · intro hg; refine And.intro ?_ ?_ <;> repeat' (first | exact True.intro | exact hg | exact and_l hg | exact and_l (and_l hg) | refine And.intro ?_ ?_)
      refine AG.q hC rfl ?_ ?_
      · intro hg; refine And.intro ?_ ?_ <;> repeat' (first | exact True.intro | exact hg | exact and_l hg | exact and_l (and_l hg) | refine And.intro ?_ ?_)
      refine AG.p hC rfl ?_ ?_
      · intro hg; refine And.intro ?_ (And.intro ?_ ?_) <;> first | exact True.intro | exact fun _ => True.intro | exact And.intro hg True.intro | exact fun h' => And.intro (wb_f h') True.intro | exact fun h' => And.intro (wb_t h') True.intro | exact fun h' => And.intro (and_f hg h') True.intro | exact fun h' => And.intro (and_t hg h') True.intro | exact And.intro (and_l hg) True.intro
      refine AG.p hC rfl ?_ ?_
      · intro hg; refine And.intro ?_ (And.intro ?_ ?_) <;> first | exact True.intro | exact fun _ => True.intro | exact And.intro hg True.intro | exact fun h' => And.intro (wb_f h') True.intro | exact fun h' => And.intro (wb_t h') True.intro | exact fun h' => And.intro (and_f hg h') True.intro | exact fun h' => And.intro (and_t hg h') True.intro | exact And.intro (and_l hg) True.intro
      refine AG.p hC rfl ?_ ?_
      · intro hg; refine And.intro ?_ (And.intro ?_ ?_) <;> first | exact True.intro | exact fun _ => True.intro | exact And.intro hg True.intro | exact fun h' => And.intro (wb_f h') True.intro | exact fun h' => And.intro (wb_t h') True.intro | exact fun h' => And.intro (and_f hg h') True.intro | exact fun h' => And.intro (and_t hg h') True.intro | exact And.intro (and_l hg) True.intro
      refine AG.nil ?_
      refine AOps.nil ?_
      refine AEx.cond rfl (fun hb => ?_) (fun hb => ?_)
      · replace hh := if_t hb hh
        refine AEx.seq ?_
        refine AEx.regionN rfl rfl ?_
        refine AOps.q hC rfl trivial ?_
        refine AOps.nil ?_
        refine AEx.ret ?_
        obtain rfl := Option.some.inj hh
        exact ⟨_, _, [], rfl, .rfl, trivial, rfl, rfl, rfl, rfl⟩
      · replace hh := if_f hb hh
        refine AEx.skip ?_
        refine AEx.regionN rfl rfl ?_
        iterate 2 refine AOps.q hC rfl trivial ?_
        refine AOps.nil ?_
        refine ALoop.wk ?_ (ih0 _ _ hh)
        exact ⟨⟨⟨.rfl, rfl⟩, ⟨⟨.rfl, rfl⟩, ⟨⟨.rfl, rfl⟩, ⟨⟨.rfl, rfl⟩, ⟨⟨.rfl, rfl⟩, ⟨⟨.rfl, rfl⟩, trivial⟩⟩⟩⟩⟩⟩, ⟨⟨rfl, .refl _, rfl⟩, trivial⟩, rfl⟩
    · replace hh := if_f hb hh
      refine AEx.exit ?_
      refine AEx.seq ?_
      refine AEx.regionN rfl rfl ?_
      iterate 4 refine AOps.q hC rfl trivial ?_
      refine AOps.qe hC rfl trivial (ApiScalar.lenA _) ?_
      obtain ⟨c7, hh⟩ := asrt_some hh
      refine AOps.q hC rfl c7 ?_
      obtain ⟨x7, hx7, hh⟩ := bind_some hh
      refine AOps.i hC rfl (idx_nat hx7) (ApiScalar.idx hx7) rfl ?_
      iterate 3 refine AOps.q hC rfl trivial ?_
      refine AOps.nil ?_
      refine AEx.seq ?_
      refine AEx.regionN rfl rfl ?_
      iterate 2 refine AOps.q hC rfl trivial ?_
      obtain ⟨x8, hx8, hh⟩ := bind_some hh
      refine AOps.c rfl rfl (X_LastIndex_ok hx8) ?_
      refine AOps.q hC rfl trivial ?_
      obtain ⟨x9, hx9, hh⟩ := bind_some hh
      refine AOps.lx hC rfl hx9 ?_
      refine AOps.q hC rfl trivial ?_
      refine AOps.nil ?_
      refine AEx.seq ?_
      refine AEx.regionN rfl rfl ?_
      iterate 2 refine AOps.q hC rfl trivial ?_
      obtain ⟨x10, hx10, hh⟩ := bind_some hh
      refine AOps.c rfl rfl (types_Find_ok hx10) ?_
      iterate 4 refine AOps.q hC rfl trivial ?_
      refine AOps.nf hC rfl ?_
      refine AOps.s hC rfl ?_
      iterate 2 refine AOps.q hC rfl trivial ?_
      refine AOps.nil ?_
      refine AEx.seq ?_
      refine AEx.regionN rfl rfl ?_
      refine AOps.q hC rfl trivial ?_
      obtain ⟨x11, hx11, hh⟩ := bind_some hh
      refine AOps.c rfl rfl (types_Scalars_ok hx11) ?_
      iterate 5 refine AOps.q hC rfl trivial ?_
      refine AOps.nil ?_
      refine AEx.seq ?_
      refine AEx.seq ?_
      refine AEx.regionG 25 rfl ?_
      refine AG.q hC rfl ?_ ?_
      · intro hg; refine And.intro ?_ ?_ <;> repeat' (first | exact True.intro | exact hg | exact and_l hg | exact and_l (and_l hg) | refine And.intro ?_ ?_)
      refine AG.q hC rfl ?_ ?_
      · intro hg; refine And.intro ?_ ?_ <;> repeat' (first | exact True.intro | exact hg | exact and_l hg | exact and_l (and_l hg) | refine And.intro ?_ ?_)
      refine AG.q hC rfl ?_ ?_
      · intro hg; refine And.intro ?_ ?_ <;> repeat' (first | exact True.intro | exact hg | exact and_l hg | exact and_l (and_l hg) | refine And.intro ?_ ?_)
      refine AG.q hC rfl ?_ ?_
      · intro hg; refine And.intro ?_ ?_ <;> repeat' (first | exact True.intro | exact hg | exact and_l hg | exact and_l (and_l hg) | refine And.intro ?_ ?_)
      refine AG.q hC rfl ?_ ?_
      · intro hg; refine And.intro ?_ ?_ <;> repeat' (first | exact True.intro | exact hg | exact and_l hg | exact and_l (and_l hg) | refine And.intro ?_ ?_)
      refine AG.p hC rfl ?_ ?_
      · intro hg; refine And.intro ?_ (And.intro ?_ ?_) <;> first | exact True.intro | exact fun _ => True.intro | exact And.intro hg True.intro | exact fun h' => And.intro (wb_f h') True.intro | exact fun h' => And.intro (wb_t h') True.intro | exact fun h' => And.intro (and_f hg h') True.intro | exact fun h' => And.intro (and_t hg h') True.intro | exact And.intro (and_l hg) True.intro
      refine AG.q hC rfl ?_ ?_
      · intro hg; refine And.intro ?_ ?_ <;> repeat' (first | exact True.intro | exact hg | exact and_l hg | exact and_l (and_l hg) | refine And.intro ?_ ?_)
      refine AG.q hC rfl ?_ ?_
      · intro hg; refine And.intro ?_ ?_ <;> repeat' (first | exact True.intro | exact hg | exact and_l hg | exact and_l (and_l hg) | refine And.intro ?_ ?_)
      refine AG.q hC rfl ?_ ?_
      · intro hg; refine And.intro ?_ ?_ <;> repeat' (first | exact True.intro | exact hg | exact and_l hg | exact and_l (and_l hg) | refine And.intro ?_ ?_)
      refine AG.p hC rfl ?_ ?_
      · intro hg; refine And.intro ?_ (And.intro ?_ ?_) <;> first | exact True.intro | exact fun _ => True.intro | exact And.intro hg True.intro | exact fun h' => And.intro (wb_f h') True.intro | exact fun h' => And.intro (wb_t h') True.intro | exact fun h' => And.intro (and_f hg h') True.intro | exact fun h' => And.intro (and_t hg h') True.intro | exact And.intro (and_l hg) True.intro
      refine AG.q hC rfl ?_ ?_
      · intro hg; refine And.intro ?_ ?_ <;> repeat' (first | exact True.intro | exact hg | exact and_l hg | exact and_l (and_l hg) | refine And.intro ?_ ?_)
      refine AG.q hC rfl ?_ ?_
      · intro hg; refine And.intro ?_ ?_ <;> repeat' (first | exact True.intro | exact hg | exact and_l hg | exact and_l (and_l hg) | refine And.intro ?_ ?_)
      refine AG.q hC rfl ?_ ?_
      · intro hg; refine And.intro ?_ ?_ <;> repeat' (first | exact True.intro | exact hg | exact and_l hg | exact and_l (and_l hg) | refine And.intro ?_ ?_)
      refine AG.qe hC rfl ?_ (ApiScalar.lenA _) ?_
      · intro hg; refine And.intro ?_ ?_ <;> repeat' (first | exact True.intro | exact hg | exact and_l hg | exact and_l (and_l hg) | refine And.intro ?_ ?_)
      refine AG.q hC rfl ?_ ?_
      · intro hg; refine And.intro ?_ ?_ <;> repeat' (first | exact True.intro | exact hg | exact and_l hg | exact and_l (and_l hg) | refine And.intro ?_ ?_)
      refine AG.p hC rfl ?_ ?_
      · intro hg; refine And.intro ?_ (And.intro ?_ ?_) <;> first | exact True.intro | exact fun _ => True.intro | exact And.intro hg True.intro | exact fun h' => And.intro (wb_f h') True.intro | exact fun h' => And.intro (wb_t h') True.intro | exact fun h' => And.intro (and_f hg h') True.intro | exact fun h' => And.intro (and_t hg h') True.intro | exact And.intro (and_l hg) True.intro
      refine AG.q hC rfl ?_ ?_
      · intro hg; refine And.intro ?_ ?_ <;> repeat' (first | exact True.intro | exact hg | exact and_l hg | exact and_l (and_l hg) | refine And.intro ?_ ?_)
      refine AG.q hC rfl ?_ ?_
      · intro hg; refine And.intro ?_ ?_ <;> repeat' (first | exact True.intro | exact hg | exact and_l hg | exact and_l (and_l hg) | refine And.intro ?_ ?_)
      refine AG.qe hC rfl ?_ (ApiScalar.lenA _) ?_
      · intro hg; refine And.intro ?_ ?_ <;> repeat' (first | exact True.intro | exact hg | exact and_l hg | exact and_l (and_l hg) | refine And.intro ?_ ?_)
      refine AG.q hC rfl ?_ ?_
      · intro hg; refine And.intro ?_ ?_ <;> repeat' (first | exact True.intro | exact hg | exact and_l hg | exact and_l (and_l hg) | refine And.intro ?_ ?_)
      refine AG.qe hC rfl ?_ (ApiScalar.lenA _) ?_
      · intro hg; refine And.intro ?_ ?_ <;> repeat' (first | exact True.intro | exact hg | exact and_l hg | exact and_l (and_l hg) | refine And.intro ?_ ?_)
      refine AG.q hC rfl ?_ ?_
      · intro hg; refine And.intro ?_ ?_ <;> repeat' (first | exact True.intro | exact hg | exact and_l hg | exact and_l (and_l hg) | refine And.intro ?_ ?_)
      refine AG.q hC rfl ?_ ?_
      · intro hg; refine And.intro ?_ ?_ <;> repeat' (first | exact True.intro | exact hg | exact and_l hg | exact and_l (and_l hg) | refine And.intro ?_ ?_)
      refine AG.q hC rfl ?_ ?_
      · intro hg; refine And.intro ?_ ?_ <;> repeat' (first | exact True.intro | exact hg | exact and_l hg | exact and_l (and_l hg) | refine And.intro ?_ ?_)
      refine AG.p hC rfl ?_ ?_
      · intro hg; refine And.intro ?_ (And.intro ?_ ?_) <;> first | exact True.intro | exact fun _ => True.intro | exact And.intro hg True.intro | exact fun h' => And.intro (wb_f h') True.intro | exact fun h' => And.intro (wb_t h') True.intro | exact fun h' => And.intro (and_f hg h') True.intro | exact fun h' => And.intro (and_t hg h') True.intro | exact And.intro (and_l hg) True.intro
      refine AG.nil ?_
      refine AOps.nil ?_
      refine AEx.cond rfl (fun hb => ?_) (fun hb => ?_)
      · replace hh := if_t hb hh
        refine AEx.seq ?_
        refine AEx.regionN rfl rfl ?_
        refine AOps.q hC rfl trivial ?_
        refine AOps.nil ?_
        refine AEx.ret ?_
        obtain rfl := Option.some.inj hh
        exact ⟨_, _, [], rfl, .rfl, trivial, rfl, rfl, rfl, rfl⟩
      · replace hh := if_f hb hh
        refine AEx.skip ?_
        refine AEx.seq ?_
        refine AEx.seq ?_
        refine AEx.regionN rfl rfl ?_
        refine AOps.q hC rfl trivial ?_
        refine AOps.qe hC rfl trivial (ApiScalar.lenA _) ?_
        refine AOps.q hC rfl trivial ?_
        refine AOps.nil ?_
        refine AEx.block ?_
        refine AEx.ofLoop ?_
        refine ALoop.wk ?_ (law12_TypesParts_l2_ok hh)
        exact ⟨⟨⟨.rfl, rfl⟩, ⟨⟨.rfl, rfl⟩, ⟨⟨.rfl, rfl⟩, ⟨⟨.rfl, rfl⟩, ⟨⟨.rfl, rfl⟩, ⟨⟨.rfl, rfl⟩, trivial⟩⟩⟩⟩⟩⟩, trivial, rfl⟩
theorem law12_TypesParts_l1_ok {t : ApiType} {pick : Int} {x3 : List ApiScalar × Int} {v47 : Int} {res : Bool} (hh : law12_TypesParts_l1 t pick x3 v47 = some res) : ALoop (Fx.mk C 172 0) (lo (bk (sr (sl (sr (sr (sr (sr (sr (bodyOf Tryd.f10)))))))))) (mkEnv [(1, .d (.int .u8 pick)), (2, .ref 0 0), (5, .d (.sl (ApiScalar.rows x3.1))), (45, .d (.sl (ApiScalar.rows x3.1))), (46, .d (.int .i64 ((x3.1).length : Int))), (47, .d (.int .i64 v47))]) [.row (ApiType.cells t) 27] (Am.InBlock 0 (Am.Then (Fx.mk C 172 0) (sr (sr (sr (sr (sr (sr (bodyOf Tryd.f10))))))) (Am.Ends (Fx.mk C 172 0) Tryd.f10.results.toList (fun x H' => H' = [] ∧ x = .d (.bool res))))) := (law12_TypesParts_l1_grp t pick x3) _ _ hh
def law12_TypesParts (t : ApiType) (pick : Int) : Option Bool :=
  law12_known >>= fun x1 =>
  if (!x1) = true then
    some false
  else
    law12_few t >>= fun x2 =>
    if (!x2) = true then
      some true
    else
      types_Scalars t >>= fun x3 =>
      if (bif (x3.2 != 0) then true else (((x3.1).length : Int) == 0)) = true then
        (if (x3.2 != 0) = true then types_Check t else some default) >>= fun x4 =>
        some (bif (x3.2 != 0) then (x3.2 == x4) else false)
      else
        law12_TypesParts_l1 t pick x3 0
theorem law12_TypesParts_ok {t : ApiType} {pick : Int} {res : Bool} (hh : law12_TypesParts t pick = some res) : ACall C 10 [.agg (ApiType.cells t), .d (.int .u8 pick)] [] (fun x H' => H' = [] ∧ x = .d (.bool res)) := by
  unfold law12_TypesParts at hh
  refine ACall.intro hC Tryd.func10 rfl rfl rfl ?_
  refine AEx.seq ?_
  refine AEx.regionN rfl rfl ?_
  refine AOps.n hC rfl ?_
  refine AOps.q hC rfl trivial ?_
  refine AOps.nil ?_
  refine AEx.seq ?_
  refine AEx.seq ?_
  refine AEx.regionN rfl rfl ?_
  obtain ⟨x1, hx1, hh⟩ := bind_some hh
  refine AOps.c rfl rfl (law12_known_ok hx1) ?_
  refine AOps.q hC rfl trivial ?_
  refine AOps.nil ?_
  refine AEx.cond rfl (fun hb => ?_) (fun hb => ?_)
  · replace hh := if_t hb hh
    refine AEx.seq ?_
    refine AEx.regionN rfl rfl ?_
    refine AOps.q hC rfl trivial ?_
    refine AOps.nil ?_
    refine AEx.ret ?_
    obtain rfl := Option.some.inj hh
    exact ⟨_, _, [], rfl, .rfl, trivial, rfl, rfl, rfl, rfl⟩
  · replace hh := if_f hb hh
    refine AEx.skip ?_
    refine AEx.seq ?_
    refine AEx.seq ?_
    refine AEx.regionN rfl rfl ?_
    refine AOps.q hC rfl trivial ?_
    obtain ⟨x2, hx2, hh⟩ := bind_some hh
    refine AOps.c rfl rfl (law12_few_ok hx2) ?_
    refine AOps.q hC rfl trivial ?_
    refine AOps.nil ?_
    refine AEx.cond rfl (fun hb => ?_) (fun hb => ?_)
    · replace hh := if_t hb hh
      refine AEx.seq ?_
      refine AEx.regionN rfl rfl ?_
      refine AOps.q hC rfl trivial ?_
      refine AOps.nil ?_
      refine AEx.ret ?_
      obtain rfl := Option.some.inj hh
      exact ⟨_, _, [], rfl, .rfl, trivial, rfl, rfl, rfl, rfl⟩
    · replace hh := if_f hb hh
      refine AEx.skip ?_
      refine AEx.seq ?_
      refine AEx.regionN rfl rfl ?_
      refine AOps.q hC rfl trivial ?_
      obtain ⟨x3, hx3, hh⟩ := bind_some hh
      refine AOps.c rfl rfl (types_Scalars_ok hx3) ?_
      iterate 5 refine AOps.q hC rfl trivial ?_
      refine AOps.nil ?_
      refine AEx.seq ?_
      refine AEx.seq ?_
      refine AEx.regionG 7 rfl ?_
      refine AG.q hC rfl ?_ ?_
      · intro hg; refine And.intro ?_ ?_ <;> repeat' (first | exact True.intro | exact hg | exact and_l hg | exact and_l (and_l hg) | refine And.intro ?_ ?_)
      refine AG.q hC rfl ?_ ?_
      · intro hg; refine And.intro ?_ ?_ <;> repeat' (first | exact True.intro | exact hg | exact and_l hg | exact and_l (and_l hg) | refine And.intro ?_ ?_)
      refine AG.q hC rfl ?_ ?_
      · intro hg; refine And.intro ?_ ?_ <;> repeat' (first | exact True.intro | exact hg | exact and_l hg | exact and_l (and_l hg) | refine And.intro ?_ ?_)
      refine AG.q hC rfl ?_ ?_
      · intro hg; refine And.intro ?_ ?_ <;> repeat' (first | exact True.intro | exact hg | exact and_l hg | exact and_l (and_l hg) | refine And.intro ?_ ?_)
      refine AG.qe hC rfl ?_ (ApiScalar.lenA _) ?_
      · intro hg; refine And.intro ?_ ?_ <;> repeat' (first | exact True.intro | exact hg | exact and_l hg | exact and_l (and_l hg) | refine And.intro ?_ ?_)
      refine AG.q hC rfl ?_ ?_
      · intro hg; refine And.intro ?_ ?_ <;> repeat' (first | exact True.intro | exact hg | exact and_l hg | exact and_l (and_l hg) | refine And.intro ?_ ?_)
      refine AG.p hC rfl ?_ ?_
      · intro hg; refine And.intro ?_ (And.intro ?_ ?_) <;> first | exact True.intro | exact fun _ => True.intro | exact And.intro hg True.intro | exact fun h' => And.intro (wb_f h') True.intro | exact fun h' => And.intro (wb_t h') True.intro | exact fun h' => And.intro (and_f hg h') True.intro | exact fun h' => And.intro (and_t hg h') True.intro | exact And.intro (and_l hg) True.intro
      refine AG.nil ?_
      refine AOps.nil ?_
      refine AEx.cond rfl (fun hb => ?_) (fun hb => ?_)
      · replace hh := if_t hb hh
        refine AEx.seq ?_
        refine AEx.regionG 9 rfl ?_
        refine AG.q hC rfl ?_ ?_
        · intro hg; refine And.intro ?_ ?_ <;> repeat' (first | exact True.intro | exact hg | exact and_l hg | exact and_l (and_l hg) | refine And.intro ?_ ?_)
        refine AG.q hC rfl ?_ ?_
        · intro hg; refine And.intro ?_ ?_ <;> repeat' (first | exact True.intro | exact hg | exact and_l hg | exact and_l (and_l hg) | refine And.intro ?_ ?_)
        refine AG.q hC rfl ?_ ?_
        · intro hg; refine And.intro ?_ ?_ <;> repeat' (first | exact True.intro | exact hg | exact and_l hg | exact and_l (and_l hg) | refine And.intro ?_ ?_)
        refine AG.q hC rfl ?_ ?_
        · intro hg; refine And.intro ?_ ?_ <;> repeat' (first | exact True.intro | exact hg | exact and_l hg | exact and_l (and_l hg) | refine And.intro ?_ ?_)
        refine AG.q hC rfl ?_ ?_
        · intro hg; refine And.intro ?_ ?_ <;> repeat' (first | exact True.intro | exact hg | exact and_l hg | exact and_l (and_l hg) | refine And.intro ?_ ?_)
        obtain ⟨x4, hx4, hh⟩ := bind_some hh
        refine AG.c rfl rfl (by intro hg; repeat' (first | exact True.intro | exact hg | exact and_l hg | exact and_l (and_l hg) | refine And.intro ?_ ?_)) (fun hw => types_Check_ok (if_t hw hx4)) ?_
        refine AG.q hC rfl ?_ ?_
        · intro hg; refine And.intro ?_ ?_ <;> repeat' (first | exact True.intro | exact hg | exact and_l hg | exact and_l (and_l hg) | refine And.intro ?_ ?_)
        refine AG.p hC rfl ?_ ?_
        · intro hg; refine And.intro ?_ (And.intro ?_ ?_) <;> first | exact True.intro | exact fun _ => True.intro | exact And.intro hg True.intro | exact fun h' => And.intro (wb_f h') True.intro | exact fun h' => And.intro (wb_t h') True.intro | exact fun h' => And.intro (and_f hg h') True.intro | exact fun h' => And.intro (and_t hg h') True.intro | exact And.intro (and_l hg) True.intro
        refine AG.q hC rfl ?_ ?_
        · intro hg; refine And.intro ?_ ?_ <;> repeat' (first | exact True.intro | exact hg | exact and_l hg | exact and_l (and_l hg) | refine And.intro ?_ ?_)
        refine AG.nil ?_
        refine AOps.nil ?_
        refine AEx.ret ?_
        obtain rfl := Option.some.inj hh
        exact ⟨_, _, [], rfl, .rfl, trivial, rfl, rfl, rfl, rfl⟩
      · replace hh := if_f hb hh
        refine AEx.skip ?_
        refine AEx.seq ?_
        refine AEx.seq ?_
        refine AEx.regionN rfl rfl ?_
        refine AOps.q hC rfl trivial ?_
        refine AOps.qe hC rfl trivial (ApiScalar.lenA _) ?_
        refine AOps.q hC rfl trivial ?_
        refine AOps.nil ?_
        refine AEx.block ?_
        refine AEx.ofLoop ?_
        refine ALoop.wk ?_ (law12_TypesParts_l1_ok hh)
        exact ⟨⟨⟨.rfl, rfl⟩, ⟨⟨.rfl, rfl⟩, ⟨⟨.rfl, rfl⟩, ⟨⟨.rfl, rfl⟩, ⟨⟨.rfl, rfl⟩, ⟨⟨.rfl, rfl⟩, trivial⟩⟩⟩⟩⟩⟩, ⟨⟨rfl, .refl _, rfl⟩, trivial⟩, rfl⟩
end Go.Proofs.YtonilfkaecbjnaaDoor
