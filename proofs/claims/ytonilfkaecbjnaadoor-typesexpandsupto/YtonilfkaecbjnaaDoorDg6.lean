/- What the functions compute, and that they do: printed by gen.py. -/
import Derived.Test.YtonilfkaecbjnaaDoorDg5
set_option maxRecDepth 100000
set_option maxHeartbeats 4000000
set_option linter.unusedVariables false
namespace Go.Proofs.YtonilfkaecbjnaaDoor
open Go.Am
mutual
def ref12_depth (t : ApiType) : Option Int :=
  ref12_depth_l1 t 0 0
  partial_fixpoint
def ref12_depth_l1 (t : ApiType) (d : Int) (i : Int) : Option Int :=
  if (decide (i < ((t.Of).length : Int))) = true then
    idx t.Of i >>= fun x1 =>
    ref12_depth x1 >>= fun x2 =>
    if (decide (x2 > d)) = true then
      ref12_depth_l1 t x2 (IntKind.i64.wrap (i + 1))
    else
      ref12_depth_l1 t d (IntKind.i64.wrap (i + 1))
  else
    some (IntKind.i64.wrap (d + 1))
  partial_fixpoint
end
theorem ref12_depth_grp : (∀ (t : ApiType) (res : Int), ref12_depth t = some res → ACall C 97 [.agg (ApiType.cells t)] [] (fun x H' => H' = [] ∧ x = .d (.int .i64 res))) ∧
    (∀ (t : ApiType) (d : Int) (i : Int) (res : Int), ref12_depth_l1 t d i = some res → ALoop (Fx.mk C 25 0) (lo (bk (sr (sl (sr (sr (bodyOf Tryd.f97))))))) (mkEnv [(1, .ref 0 0), (3, .d (.int .i64 d)), (4, .d (.int .i64 i))]) [.row (ApiType.cells t) 27] (Am.InBlock 0 (Am.Then (Fx.mk C 25 0) (sr (sr (sr (bodyOf Tryd.f97)))) (Am.Ends (Fx.mk C 25 0) Tryd.f97.results.toList (fun x H' => H' = [] ∧ x = .d (.int .i64 res)))))) := by
  refine ref12_depth.mutual_partial_correctness (fun t res => ACall C 97 [.agg (ApiType.cells t)] [] (fun x H' => H' = [] ∧ x = .d (.int .i64 res)))
    (fun t d i res => ALoop (Fx.mk C 25 0) (lo (bk (sr (sl (sr (sr (bodyOf Tryd.f97))))))) (mkEnv [(1, .ref 0 0), (3, .d (.int .i64 d)), (4, .d (.int .i64 i))]) [.row (ApiType.cells t) 27] (Am.InBlock 0 (Am.Then (Fx.mk C 25 0) (sr (sr (sr (bodyOf Tryd.f97)))) (Am.Ends (Fx.mk C 25 0) Tryd.f97.results.toList (fun x H' => H' = [] ∧ x = .d (.int .i64 res)))))) ?_ ?_
  · intro g1 ih1 t res hh
    refine ACall.intro hC Tryd.func97 rfl rfl rfl ?_
    refine AEx.seq ?_
    refine AEx.regionN rfl rfl ?_
    refine AOps.n hC rfl ?_
    refine AOps.q hC rfl trivial ?_
    refine AOps.nil ?_
    refine AEx.seq ?_
    refine AEx.regionN rfl rfl ?_
    refine AOps.q hC rfl trivial ?_
    refine AOps.nil ?_
    refine AEx.seq ?_
    refine AEx.seq ?_
    refine AEx.regionN rfl rfl ?_
    refine AOps.q hC rfl trivial ?_
    refine AOps.nil ?_
    refine AEx.block ?_
    refine AEx.ofLoop ?_
    refine ALoop.wk ?_ (ih1 _ _ _ _ hh)
    exact ⟨⟨⟨.rfl, rfl⟩, ⟨⟨.rfl, rfl⟩, ⟨⟨.rfl, rfl⟩, trivial⟩⟩⟩, ⟨⟨rfl, .refl _, rfl⟩, trivial⟩, rfl⟩
  · intro g0 g1 ih0 ih1 t d i res hh
    refine ALoop.unroll ?_
    refine AEx.seq ?_
    refine AEx.seq ?_
    refine AEx.regionN rfl rfl ?_
    iterate 3 refine AOps.q hC rfl trivial ?_
    refine AOps.qe hC rfl trivial (ApiType.lenA _) ?_
    refine AOps.q hC rfl trivial ?_
    refine AOps.nil ?_
    refine AEx.cond rfl (fun hb => ?_) (fun hb => ?_)
    · replace hh := if_t hb hh
      refine AEx.skip ?_
      refine AEx.seq ?_
      refine AEx.block ?_
      refine AEx.seq ?_
      refine AEx.regionN rfl rfl ?_
      iterate 3 refine AOps.q hC rfl trivial ?_
      obtain ⟨x1, hx1, hh⟩ := bind_some hh
      refine AOps.i hC rfl (idx_nat hx1) (ApiType.idx hx1) rfl ?_
      refine AOps.q hC rfl trivial ?_
      obtain ⟨x2, hx2, hh⟩ := bind_some hh
      refine AOps.c rfl rfl (ih0 _ _ hx2) ?_
      refine AOps.q hC rfl trivial ?_
      refine AOps.nil ?_
      refine AEx.seq ?_
      refine AEx.regionN rfl rfl ?_
      iterate 3 refine AOps.q hC rfl trivial ?_
      refine AOps.nil ?_
      refine AEx.cond rfl (fun hb => ?_) (fun hb => ?_)
      · replace hh := if_t hb hh
        refine AEx.regionN rfl rfl ?_
        iterate 2 refine AOps.q hC rfl trivial ?_
        refine AOps.nil ?_
        refine AEx.regionN rfl rfl ?_
        iterate 3 refine AOps.q hC rfl trivial ?_
        refine AOps.nil ?_
        refine ALoop.wk ?_ (ih1 _ _ _ _ hh)
        exact ⟨⟨⟨.rfl, rfl⟩, ⟨⟨.rfl, rfl⟩, ⟨⟨.rfl, rfl⟩, trivial⟩⟩⟩, ⟨⟨rfl, .refl _, rfl⟩, trivial⟩, rfl⟩
      · replace hh := if_f hb hh
        refine AEx.skip ?_
        refine AEx.regionN rfl rfl ?_
        iterate 3 refine AOps.q hC rfl trivial ?_
        refine AOps.nil ?_
        refine ALoop.wk ?_ (ih1 _ _ _ _ hh)
        exact ⟨⟨⟨.rfl, rfl⟩, ⟨⟨.rfl, rfl⟩, ⟨⟨.rfl, rfl⟩, trivial⟩⟩⟩, ⟨⟨rfl, .refl _, rfl⟩, trivial⟩, rfl⟩
    · replace hh := if_f hb hh
      refine AEx.exit ?_
      refine AEx.seq ?_
      refine AEx.regionN rfl rfl ?_
      iterate 3 refine AOps.q hC rfl trivial ?_
      refine AOps.nil ?_
      refine AEx.ret ?_
      obtain rfl := Option.some.inj hh
      exact ⟨_, _, [], rfl, .rfl, trivial, rfl, rfl, rfl, rfl⟩
theorem ref12_depth_ok {t : ApiType} {res : Int} (hh : ref12_depth t = some res) : ACall C 97 [.agg (ApiType.cells t)] [] (fun x H' => H' = [] ∧ x = .d (.int .i64 res)) := (ref12_depth_grp).1 _ _ hh
theorem ref12_depth_l1_ok {t : ApiType} {d : Int} {i : Int} {res : Int} (hh : ref12_depth_l1 t d i = some res) : ALoop (Fx.mk C 25 0) (lo (bk (sr (sl (sr (sr (bodyOf Tryd.f97))))))) (mkEnv [(1, .ref 0 0), (3, .d (.int .i64 d)), (4, .d (.int .i64 i))]) [.row (ApiType.cells t) 27] (Am.InBlock 0 (Am.Then (Fx.mk C 25 0) (sr (sr (sr (bodyOf Tryd.f97)))) (Am.Ends (Fx.mk C 25 0) Tryd.f97.results.toList (fun x H' => H' = [] ∧ x = .d (.int .i64 res))))) := (ref12_depth_grp).2 _ _ _ _ hh
mutual
def ref12_count (t : ApiType) : Option Int :=
  if (t.Kind == 2) = true then
    idx t.Of 0 >>= fun x1 =>
    ref12_count x1 >>= fun x3 =>
    ref12_count_j1 t (IntKind.i64.wrap (t.Size * x3))
  else
    ref12_count_j1 t 1
  partial_fixpoint
def ref12_count_j1 (t : ApiType) (n : Int) : Option Int :=
  if (t.Kind == 3) = true then
    ref12_count_l2 t 0 0
  else
    if (decide (n > 32)) = true then
      some 33
    else
      some n
  partial_fixpoint
def ref12_count_l2 (t : ApiType) (n1 : Int) (i : Int) : Option Int :=
  if (decide (i < ((t.Of).length : Int))) = true then
    idx t.Of i >>= fun x2 =>
    ref12_count x2 >>= fun x4 =>
    ref12_count_l2 t (IntKind.i64.wrap (n1 + x4)) (IntKind.i64.wrap (i + 1))
  else
    if (decide (n1 > 32)) = true then
      some 33
    else
      some n1
  partial_fixpoint
end
theorem ref12_count_grp : (∀ (t : ApiType) (res : Int), ref12_count t = some res → ACall C 63 [.agg (ApiType.cells t)] [] (fun x H' => H' = [] ∧ x = .d (.int .i64 res))) ∧
    (∀ (t : ApiType) (n : Int) (res : Int), ref12_count_j1 t n = some res → AEx (Fx.mk C 37 0) (sr (sr (sr (bodyOf Tryd.f63)))) (mkEnv [(1, .ref 0 0), (3, .d (.int .i64 n))]) [.row (ApiType.cells t) 27] (Am.Ends (Fx.mk C 37 0) Tryd.f63.results.toList (fun x H' => H' = [] ∧ x = .d (.int .i64 res)))) ∧
    (∀ (t : ApiType) (n1 : Int) (i : Int) (res : Int), ref12_count_l2 t n1 i = some res → ALoop (Fx.mk C 37 0) (lo (bk (sr (sr (ca (sr (sl (sr (sr (sr (bodyOf Tryd.f63))))))))))) (mkEnv [(1, .ref 0 0), (3, .d (.int .i64 n1)), (4, .d (.int .i64 i))]) [.row (ApiType.cells t) 27] (Am.InBlock 0 (Am.Then (Fx.mk C 37 0) (sr (sr (sr (sr (bodyOf Tryd.f63))))) (Am.Ends (Fx.mk C 37 0) Tryd.f63.results.toList (fun x H' => H' = [] ∧ x = .d (.int .i64 res)))))) := by
  refine ref12_count.mutual_partial_correctness (fun t res => ACall C 63 [.agg (ApiType.cells t)] [] (fun x H' => H' = [] ∧ x = .d (.int .i64 res)))
    (fun t n res => AEx (Fx.mk C 37 0) (sr (sr (sr (bodyOf Tryd.f63)))) (mkEnv [(1, .ref 0 0), (3, .d (.int .i64 n))]) [.row (ApiType.cells t) 27] (Am.Ends (Fx.mk C 37 0) Tryd.f63.results.toList (fun x H' => H' = [] ∧ x = .d (.int .i64 res))))
    (fun t n1 i res => ALoop (Fx.mk C 37 0) (lo (bk (sr (sr (ca (sr (sl (sr (sr (sr (bodyOf Tryd.f63))))))))))) (mkEnv [(1, .ref 0 0), (3, .d (.int .i64 n1)), (4, .d (.int .i64 i))]) [.row (ApiType.cells t) 27] (Am.InBlock 0 (Am.Then (Fx.mk C 37 0) (sr (sr (sr (sr (bodyOf Tryd.f63))))) (Am.Ends (Fx.mk C 37 0) Tryd.f63.results.toList (fun x H' => H' = [] ∧ x = .d (.int .i64 res)))))) ?_ ?_ ?_
  · intro g0 g1 ih0 ih1 t res hh
    refine ACall.intro hC Tryd.func63 rfl rfl rfl ?_
    refine AEx.seq ?_
    refine AEx.regionN rfl rfl ?_
    refine AOps.n hC rfl ?_
    refine AOps.q hC rfl trivial ?_
    refine AOps.nil ?_
    refine AEx.seq ?_
    refine AEx.regionN rfl rfl ?_
    refine AOps.q hC rfl trivial ?_
    refine AOps.nil ?_
    refine AEx.seq ?_
    refine AEx.seq ?_
    refine AEx.regionN rfl rfl ?_
    iterate 3 refine AOps.q hC rfl trivial ?_
    refine AOps.nil ?_
    refine AEx.cond rfl (fun hb => ?_) (fun hb => ?_)
    · replace hh := if_t hb hh
      refine AEx.draw hC 9 rfl rfl rfl ?_
      refine AQ.q hC rfl trivial ?_
      refine AQ.q hC rfl trivial ?_
      refine AQ.q hC rfl trivial ?_
      refine AQ.q hC rfl trivial ?_
      obtain ⟨x1, hx1, hh⟩ := bind_some hh
      refine AQ.i hC rfl (idx_nat hx1) (ApiType.idx hx1) rfl ?_
      refine AQ.q hC rfl trivial ?_
      obtain ⟨x3, hx3, hh⟩ := bind_some hh
      refine AQ.c rfl rfl (ih0 _ _ hx3) ?_
      refine AQ.q hC rfl trivial ?_
      refine AQ.q hC rfl trivial ?_
      refine AQ.nil ?_
      refine AOps.nil ?_
      refine AEx.wk ?_ (ih1 _ _ _ hh)
      exact ⟨⟨⟨.rfl, rfl⟩, ⟨⟨.rfl, rfl⟩, trivial⟩⟩, ⟨⟨rfl, .refl _, rfl⟩, trivial⟩, rfl⟩
    · replace hh := if_f hb hh
      refine AEx.skip ?_
      refine AEx.wk ?_ (ih1 _ _ _ hh)
      exact ⟨⟨⟨.rfl, rfl⟩, ⟨⟨.rfl, rfl⟩, trivial⟩⟩, ⟨⟨rfl, .refl _, rfl⟩, trivial⟩, rfl⟩
  · intro g2 ih2 t n res hh
    refine AEx.seq ?_
    refine AEx.seq ?_
    refine AEx.regionN rfl rfl ?_
    iterate 3 refine AOps.q hC rfl trivial ?_
    refine AOps.nil ?_
    refine AEx.cond rfl (fun hb => ?_) (fun hb => ?_)
    · replace hh := if_t hb hh
      refine AEx.seq ?_
      refine AEx.regionN rfl rfl ?_
      refine AOps.q hC rfl trivial ?_
      refine AOps.nil ?_
      refine AEx.seq ?_
      refine AEx.regionN rfl rfl ?_
      refine AOps.q hC rfl trivial ?_
      refine AOps.nil ?_
      refine AEx.block ?_
      refine AEx.ofLoop ?_
      refine ALoop.wk ?_ (ih2 _ _ _ _ hh)
      exact ⟨⟨⟨.rfl, rfl⟩, ⟨⟨.rfl, rfl⟩, ⟨⟨.rfl, rfl⟩, trivial⟩⟩⟩, ⟨⟨rfl, .refl _, rfl⟩, trivial⟩, rfl⟩
    · replace hh := if_f hb hh
      refine AEx.skip ?_
      refine AEx.seq ?_
      refine AEx.seq ?_
      refine AEx.regionN rfl rfl ?_
      iterate 2 refine AOps.q hC rfl trivial ?_
      refine AOps.nil ?_
      refine AEx.cond rfl (fun hb => ?_) (fun hb => ?_)
      · replace hh := if_t hb hh
        refine AEx.seq ?_
        refine AEx.regionN rfl rfl ?_
        refine AOps.q hC rfl trivial ?_
        refine AOps.nil ?_
        refine AEx.ret ?_
        obtain rfl := Option.some.inj hh
        exact ⟨_, _, [], rfl, .rfl, trivial, rfl, rfl, rfl, rfl⟩
      · replace hh := if_f hb hh
        refine AEx.skip ?_
        refine AEx.seq ?_
        refine AEx.regionN rfl rfl ?_
        iterate 2 refine AOps.q hC rfl trivial ?_
        refine AOps.nil ?_
        refine AEx.ret ?_
        obtain rfl := Option.some.inj hh
        exact ⟨_, _, [], rfl, .rfl, trivial, rfl, rfl, rfl, rfl⟩
  · intro g0 g2 ih0 ih2 t n1 i res hh
    refine ALoop.unroll ?_
    refine AEx.seq ?_
    refine AEx.seq ?_
    refine AEx.regionN rfl rfl ?_
    iterate 3 refine AOps.q hC rfl trivial ?_
    refine AOps.qe hC rfl trivial (ApiType.lenA _) ?_
    refine AOps.q hC rfl trivial ?_
    refine AOps.nil ?_
    refine AEx.cond rfl (fun hb => ?_) (fun hb => ?_)
    · replace hh := if_t hb hh
      refine AEx.skip ?_
      refine AEx.seq ?_
      refine AEx.block ?_
      refine AEx.regionN rfl rfl ?_
      iterate 4 refine AOps.q hC rfl trivial ?_
      obtain ⟨x2, hx2, hh⟩ := bind_some hh
      refine AOps.i hC rfl (idx_nat hx2) (ApiType.idx hx2) rfl ?_
      refine AOps.q hC rfl trivial ?_
      obtain ⟨x4, hx4, hh⟩ := bind_some hh
      refine AOps.c rfl rfl (ih0 _ _ hx4) ?_
      iterate 2 refine AOps.q hC rfl trivial ?_
      refine AOps.nil ?_
      refine AEx.regionN rfl rfl ?_
      iterate 3 refine AOps.q hC rfl trivial ?_
      refine AOps.nil ?_
      refine ALoop.wk ?_ (ih2 _ _ _ _ hh)
      exact ⟨⟨⟨.rfl, rfl⟩, ⟨⟨.rfl, rfl⟩, ⟨⟨.rfl, rfl⟩, trivial⟩⟩⟩, ⟨⟨rfl, .refl _, rfl⟩, trivial⟩, rfl⟩
    · replace hh := if_f hb hh
      refine AEx.exit ?_
      refine AEx.seq ?_
      refine AEx.seq ?_
      refine AEx.regionN rfl rfl ?_
      iterate 2 refine AOps.q hC rfl trivial ?_
      refine AOps.nil ?_
      refine AEx.cond rfl (fun hb => ?_) (fun hb => ?_)
      · replace hh := if_t hb hh
        refine AEx.seq ?_
        refine AEx.regionN rfl rfl ?_
        refine AOps.q hC rfl trivial ?_
        refine AOps.nil ?_
        refine AEx.ret ?_
        obtain rfl := Option.some.inj hh
        exact ⟨_, _, [], rfl, .rfl, trivial, rfl, rfl, rfl, rfl⟩
      · replace hh := if_f hb hh
        refine AEx.skip ?_
        refine AEx.seq ?_
        refine AEx.regionN rfl rfl ?_
        iterate 2 refine AOps.q hC rfl trivial ?_
        refine AOps.nil ?_
        refine AEx.ret ?_
        obtain rfl := Option.some.inj hh
        exact ⟨_, _, [], rfl, .rfl, trivial, rfl, rfl, rfl, rfl⟩
theorem ref12_count_ok {t : ApiType} {res : Int} (hh : ref12_count t = some res) : ACall C 63 [.agg (ApiType.cells t)] [] (fun x H' => H' = [] ∧ x = .d (.int .i64 res)) := (ref12_count_grp).1 _ _ hh
theorem ref12_count_j1_ok {t : ApiType} {n : Int} {res : Int} (hh : ref12_count_j1 t n = some res) : AEx (Fx.mk C 37 0) (sr (sr (sr (bodyOf Tryd.f63)))) (mkEnv [(1, .ref 0 0), (3, .d (.int .i64 n))]) [.row (ApiType.cells t) 27] (Am.Ends (Fx.mk C 37 0) Tryd.f63.results.toList (fun x H' => H' = [] ∧ x = .d (.int .i64 res))) := (ref12_count_grp).2.1 _ _ _ hh
theorem ref12_count_l2_ok {t : ApiType} {n1 : Int} {i : Int} {res : Int} (hh : ref12_count_l2 t n1 i = some res) : ALoop (Fx.mk C 37 0) (lo (bk (sr (sr (ca (sr (sl (sr (sr (sr (bodyOf Tryd.f63))))))))))) (mkEnv [(1, .ref 0 0), (3, .d (.int .i64 n1)), (4, .d (.int .i64 i))]) [.row (ApiType.cells t) 27] (Am.InBlock 0 (Am.Then (Fx.mk C 37 0) (sr (sr (sr (sr (bodyOf Tryd.f63))))) (Am.Ends (Fx.mk C 37 0) Tryd.f63.results.toList (fun x H' => H' = [] ∧ x = .d (.int .i64 res))))) := (ref12_count_grp).2.2 _ _ _ _ hh
def ref12_expand (known : List ApiDecl) (t : ApiType) : Option (ApiType × Int) :=
  ref10_CheckType t >>= fun x1 =>
  if (x1 != 0) = true then
    some ((ApiType.mk 0 0 0 0 [] [] []), x1)
  else
    ref12_replace known t >>= fun x2 =>
    if (!x2.2) = true then
      some ((ApiType.mk 0 0 0 0 [] [] []), 7)
    else
      ref12_doubled x2.1 >>= fun x3 =>
      if x3 = true then
        some ((ApiType.mk 0 0 0 0 [] [] []), 8)
      else
        ref12_depth x2.1 >>= fun x4 =>
        (if (!(decide (x4 > 12))) = true then ref12_count x2.1 else some default) >>= fun x5 =>
        if (bif (decide (x4 > 12)) then true else (decide (x5 > 32))) = true then
          some ((ApiType.mk 0 0 0 0 [] [] []), 4)
        else
          some (x2.1, 0)
theorem ref12_expand_ok {known : List ApiDecl} {t : ApiType} {res : ApiType × Int} (hh : ref12_expand known t = some res) : ACall C 53 [.d (.sl (ApiDecl.rows known)), .agg (ApiType.cells t)] [] (fun x H' => H' = [] ∧ x = .tup [.agg (ApiType.cells res.1), .d (.int .i64 res.2)]) := by
  unfold ref12_expand at hh
  refine ACall.intro hC Tryd.func53 rfl rfl rfl ?_
  refine AEx.seq ?_
  refine AEx.regionN rfl rfl ?_
  refine AOps.n hC rfl ?_
  refine AOps.nf hC rfl ?_
  refine AOps.q hC rfl trivial ?_
  refine AOps.nil ?_
  refine AEx.seq ?_
  refine AEx.regionN rfl rfl ?_
  refine AOps.q hC rfl trivial ?_
  obtain ⟨x1, hx1, hh⟩ := bind_some hh
  refine AOps.c rfl rfl (ref10_CheckType_ok hx1) ?_
  refine AOps.q hC rfl trivial ?_
  refine AOps.nil ?_
  refine AEx.seq ?_
  refine AEx.seq ?_
  refine AEx.regionN rfl rfl ?_
  iterate 2 refine AOps.q hC rfl trivial ?_
  refine AOps.nil ?_
  refine AEx.cond rfl (fun hb => ?_) (fun hb => ?_)
  · replace hh := if_t hb hh
    refine AEx.seq ?_
    refine AEx.regionN rfl rfl ?_
    iterate 2 refine AOps.q hC rfl trivial ?_
    refine AOps.s hC rfl ?_
    refine AOps.q hC rfl trivial ?_
    refine AOps.nil ?_
    refine AEx.ret ?_
    obtain rfl := Option.some.inj hh
    exact ⟨_, _, [], rfl, .rfl, trivial, rfl, rfl, rfl, rfl⟩
  · replace hh := if_f hb hh
    refine AEx.skip ?_
    refine AEx.seq ?_
    refine AEx.regionN rfl rfl ?_
    iterate 2 refine AOps.q hC rfl trivial ?_
    obtain ⟨x2, hx2, hh⟩ := bind_some hh
    refine AOps.c rfl rfl (ref12_replace_ok hx2) ?_
    iterate 3 refine AOps.q hC rfl trivial ?_
    refine AOps.nf hC rfl ?_
    refine AOps.s hC rfl ?_
    refine AOps.q hC rfl trivial ?_
    refine AOps.nil ?_
    refine AEx.seq ?_
    refine AEx.seq ?_
    refine AEx.regionN rfl rfl ?_
    iterate 2 refine AOps.q hC rfl trivial ?_
    refine AOps.nil ?_
    refine AEx.cond rfl (fun hb => ?_) (fun hb => ?_)
    · replace hh := if_t hb hh
      refine AEx.seq ?_
      refine AEx.regionN rfl rfl ?_
      refine AOps.q hC rfl trivial ?_
      refine AOps.s hC rfl ?_
      refine AOps.q hC rfl trivial ?_
      refine AOps.nil ?_
      refine AEx.ret ?_
      obtain rfl := Option.some.inj hh
      exact ⟨_, _, [], rfl, .rfl, trivial, rfl, rfl, rfl, rfl⟩
    · replace hh := if_f hb hh
      refine AEx.skip ?_
      refine AEx.seq ?_
      refine AEx.seq ?_
      refine AEx.regionN rfl rfl ?_
      refine AOps.q hC rfl trivial ?_
      obtain ⟨x3, hx3, hh⟩ := bind_some hh
      refine AOps.c rfl rfl (ref12_doubled_ok hx3) ?_
      refine AOps.nil ?_
      refine AEx.cond rfl (fun hb => ?_) (fun hb => ?_)
      · replace hh := if_t hb hh
        refine AEx.seq ?_
        refine AEx.regionN rfl rfl ?_
        refine AOps.q hC rfl trivial ?_
        refine AOps.s hC rfl ?_
        refine AOps.q hC rfl trivial ?_
        refine AOps.nil ?_
        refine AEx.ret ?_
        obtain rfl := Option.some.inj hh
        exact ⟨_, _, [], rfl, .rfl, trivial, rfl, rfl, rfl, rfl⟩
      · replace hh := if_f hb hh
        refine AEx.skip ?_
        refine AEx.seq ?_
        refine AEx.seq ?_
        refine AEx.regionG 8 rfl ?_
        refine AG.q hC rfl ?_ ?_
        · intro hg; refine And.intro ?_ ?_ <;> repeat' (first | exact True.intro | exact hg | exact and_l hg | exact and_l (and_l hg) | refine And.intro ?_ ?_)
        obtain ⟨x4, hx4, hh⟩ := bind_some hh
        refine AG.c rfl rfl (by intro hg; repeat' (first | exact True.intro | exact hg | exact and_l hg | exact and_l (and_l hg) | refine And.intro ?_ ?_)) (fun _ => ref12_depth_ok hx4) ?_
        refine AG.q hC rfl ?_ ?_
        · intro hg; refine And.intro ?_ ?_ <;> repeat' (first | exact True.intro | exact hg | exact and_l hg | exact and_l (and_l hg) | refine And.intro ?_ ?_)
        refine AG.q hC rfl ?_ ?_
        · intro hg; refine And.intro ?_ ?_ <;> repeat' (first | exact True.intro | exact hg | exact and_l hg | exact and_l (and_l hg) | refine And.intro ?_ ?_)
        refine AG.q hC rfl ?_ ?_
        · intro hg; refine And.intro ?_ ?_ <;> repeat' (first | exact True.intro | exact hg | exact and_l hg | exact and_l (and_l hg) | refine And.intro ?_ ?_)
        obtain ⟨x5, hx5, hh⟩ := bind_some hh
        refine AG.c rfl rfl (by intro hg; repeat' (first | exact True.intro | exact hg | exact and_l hg | exact and_l (and_l hg) | refine And.intro ?_ ?_)) (fun hw => ref12_count_ok (if_t hw hx5)) ?_
        refine AG.q hC rfl ?_ ?_
        · intro hg; refine And.intro ?_ ?_ <;> repeat' (first | exact True.intro | exact hg | exact and_l hg | exact and_l (and_l hg) | refine And.intro ?_ ?_)
        refine AG.p hC rfl ?_ ?_
        · intro hg; refine And.intro ?_ (And.intro ?_ ?_) <;> first | exact True.intro | exact fun _ => True.intro | exact And.intro hg True.intro | exact fun h' => And.intro (wb_f h') True.intro | exact fun h' => And.intro (wb_t h') True.intro | exact fun h' => And.intro (and_f hg h') True.intro | exact fun h' => And.intro (and_t hg h') True.intro | exact And.intro (and_l hg) True.intro
        refine AG.nil ?_
        refine AOps.nil ?_
        refine AEx.cond rfl (fun hb => ?_) (fun hb => ?_)
        · replace hh := if_t hb hh
          refine AEx.seq ?_
          refine AEx.regionN rfl rfl ?_
          refine AOps.q hC rfl trivial ?_
          refine AOps.s hC rfl ?_
          refine AOps.q hC rfl trivial ?_
          refine AOps.nil ?_
          refine AEx.ret ?_
          obtain rfl := Option.some.inj hh
          exact ⟨_, _, [], rfl, .rfl, trivial, rfl, rfl, rfl, rfl⟩
        · replace hh := if_f hb hh
          refine AEx.skip ?_
          refine AEx.seq ?_
          refine AEx.regionN rfl rfl ?_
          refine AOps.q hC rfl trivial ?_
          refine AOps.s hC rfl ?_
          refine AOps.q hC rfl trivial ?_
          refine AOps.nil ?_
          refine AEx.ret ?_
          obtain rfl := Option.some.inj hh
          exact ⟨_, _, [], rfl, .rfl, trivial, rfl, rfl, rfl, rfl⟩
mutual
def ref12_Known_l1 (decls : List ApiDecl) (known : List ApiDecl) (i : Int) : Option (List ApiDecl × Int) :=
  if (decide (i < ((decls).length : Int))) = true then
    idx decls i >>= fun x1 =>
    if (x1.Kind != 0) = true then
      ref12_Known_l1 decls known (IntKind.i64.wrap (i + 1))
    else
      ref10_IsName x1.Name >>= fun x2 =>
      if (!x2) = true then
        some ([], 7)
      else
        ref12_Known_l2 decls x1 known i 0
  else
    some (known, 0)
  partial_fixpoint
def ref12_Known_l2 (decls : List ApiDecl) (x1 : ApiDecl) (known1 : List ApiDecl) (i : Int) (k : Int) : Option (List ApiDecl × Int) :=
  if (decide (k < ((known1).length : Int))) = true then
    idx known1 k >>= fun x3 =>
    if (x3.Name == x1.Name) = true then
      some ([], 8)
    else
      ref12_Known_l2 decls x1 known1 i (IntKind.i64.wrap (k + 1))
  else
    ref12_expand known1 x1.TypeV >>= fun x4 =>
    if (x4.2 != 0) = true then
      some ([], x4.2)
    else
      if (decide ((known1.length + 1) * 257 ≤ 140737488355328)) = true then
        ref12_Known_l1 decls (known1 ++ [(ApiDecl.mk 0 x1.Name x4.1 0 (ApiExpr.mk 0 0 [] []) [] [] [])]) (IntKind.i64.wrap (i + 1))
      else none
  partial_fixpoint
end
theorem ref12_Known_l1_grp (decls : List ApiDecl) : (∀ (known : List ApiDecl) (i : Int) (res : List ApiDecl × Int), ref12_Known_l1 decls known i = some res → ALoop (Fx.mk C 59 0) (lo (bk (sr (sl (sr (sr (bodyOf Tryd.f52))))))) (mkEnv [(0, .d (.sl (ApiDecl.rows decls))), (4, .osl 0 (ApiDecl.rows known)), (5, .d (.int .i64 i))]) [.tok 59 17] (Am.InBlock 0 (Am.Then (Fx.mk C 59 0) (sr (sr (sr (bodyOf Tryd.f52)))) (Am.Ends (Fx.mk C 59 0) Tryd.f52.results.toList (fun x H' => H' = [] ∧ x = .tup [.d (.sl (ApiDecl.rows res.1)), .d (.int .i64 res.2)]))))) ∧
    (∀ (x1 : ApiDecl) (known1 : List ApiDecl) (i : Int) (k : Int) (res : List ApiDecl × Int), ref12_Known_l2 decls x1 known1 i k = some res → ALoop (Fx.mk C 59 0) (lo (bk (sr (sl (sr (sr (sr (bk (sl (sr (lo (bk (sr (sl (sr (sr (bodyOf Tryd.f52))))))))))))))))) (mkEnv [(0, .d (.sl (ApiDecl.rows decls))), (4, .osl 0 (ApiDecl.rows known1)), (5, .d (.int .i64 i)), (6, .ref 1 0), (7, .d (.int .i64 k))]) [.tok 59 17, .row (ApiDecl.cells x1) 59] (Am.InBlock 2 (Am.Then (Fx.mk C 59 0) (sr (sr (sr (sr (bk (sl (sr (lo (bk (sr (sl (sr (sr (bodyOf Tryd.f52)))))))))))))) (Am.InBlock 1 (Am.Then (Fx.mk C 59 0) (sr (sr (lo (bk (sr (sl (sr (sr (bodyOf Tryd.f52))))))))) (Am.Again (Fx.mk C 59 0) (lo (bk (sr (sl (sr (sr (bodyOf Tryd.f52))))))) (Am.InBlock 0 (Am.Then (Fx.mk C 59 0) (sr (sr (sr (bodyOf Tryd.f52)))) (Am.Ends (Fx.mk C 59 0) Tryd.f52.results.toList (fun x H' => H' = [] ∧ x = .tup [.d (.sl (ApiDecl.rows res.1)), .d (.int .i64 res.2)])))))))))) := by
  refine ref12_Known_l1.mutual_partial_correctness decls
    (fun known i res => ALoop (Fx.mk C 59 0) (lo (bk (sr (sl (sr (sr (bodyOf Tryd.f52))))))) (mkEnv [(0, .d (.sl (ApiDecl.rows decls))), (4, .osl 0 (ApiDecl.rows known)), (5, .d (.int .i64 i))]) [.tok 59 17] (Am.InBlock 0 (Am.Then (Fx.mk C 59 0) (sr (sr (sr (bodyOf Tryd.f52)))) (Am.Ends (Fx.mk C 59 0) Tryd.f52.results.toList (fun x H' => H' = [] ∧ x = .tup [.d (.sl (ApiDecl.rows res.1)), .d (.int .i64 res.2)])))))
    (fun x1 known1 i k res => ALoop (Fx.mk C 59 0) (lo (bk (sr (sl (sr (sr (sr (bk (sl (sr (lo (bk (sr (sl (sr (sr (bodyOf Tryd.f52))))))))))))))))) (mkEnv [(0, .d (.sl (ApiDecl.rows decls))), (4, .osl 0 (ApiDecl.rows known1)), (5, .d (.int .i64 i)), (6, .ref 1 0), (7, .d (.int .i64 k))]) [.tok 59 17, .row (ApiDecl.cells x1) 59] (Am.InBlock 2 (Am.Then (Fx.mk C 59 0) (sr (sr (sr (sr (bk (sl (sr (lo (bk (sr (sl (sr (sr (bodyOf Tryd.f52)))))))))))))) (Am.InBlock 1 (Am.Then (Fx.mk C 59 0) (sr (sr (lo (bk (sr (sl (sr (sr (bodyOf Tryd.f52))))))))) (Am.Again (Fx.mk C 59 0) (lo (bk (sr (sl (sr (sr (bodyOf Tryd.f52))))))) (Am.InBlock 0 (Am.Then (Fx.mk C 59 0) (sr (sr (sr (bodyOf Tryd.f52)))) (Am.Ends (Fx.mk C 59 0) Tryd.f52.results.toList (fun x H' => H' = [] ∧ x = .tup [.d (.sl (ApiDecl.rows res.1)), .d (.int .i64 res.2)])))))))))) ?_ ?_
  · intro g0 g1 ih0 ih1 known i res hh
    refine ALoop.unroll ?_
    refine AEx.seq ?_
    refine AEx.seq ?_
    refine AEx.regionN rfl rfl ?_
    iterate 2 refine AOps.q hC rfl trivial ?_
    refine AOps.qe hC rfl trivial (ApiDecl.lenA _) ?_
    refine AOps.q hC rfl trivial ?_
    refine AOps.nil ?_
    refine AEx.cond rfl (fun hb => ?_) (fun hb => ?_)
    · replace hh := if_t hb hh
      refine AEx.skip ?_
      refine AEx.seq ?_
      refine AEx.block ?_
      refine AEx.seq ?_
      refine AEx.regionN rfl rfl ?_
      iterate 2 refine AOps.q hC rfl trivial ?_
      obtain ⟨x1, hx1, hh⟩ := bind_some hh
      refine AOps.i hC rfl (idx_nat hx1) (ApiDecl.idx hx1) rfl ?_
      refine AOps.q hC rfl trivial ?_
      refine AOps.nf hC rfl ?_
      refine AOps.s hC rfl ?_
      refine AOps.nil ?_
      refine AEx.seq ?_
      refine AEx.seq ?_
      refine AEx.regionN rfl rfl ?_
      iterate 3 refine AOps.q hC rfl trivial ?_
      refine AOps.nil ?_
      refine AEx.cond rfl (fun hb => ?_) (fun hb => ?_)
      · replace hh := if_t hb hh
        refine AEx.exit ?_
        refine AEx.regionN rfl rfl ?_
        iterate 3 refine AOps.q hC rfl trivial ?_
        refine AOps.nil ?_
        refine ALoop.wk ?_ (ih0 _ _ _ hh)
        exact ⟨⟨⟨.rfl, rfl⟩, ⟨⟨.rfl, rfl⟩, ⟨⟨.rfl, rfl⟩, trivial⟩⟩⟩, ⟨rfl, trivial⟩, rfl⟩
      · replace hh := if_f hb hh
        refine AEx.skip ?_
        refine AEx.seq ?_
        refine AEx.seq ?_
        refine AEx.regionN rfl rfl ?_
        iterate 2 refine AOps.q hC rfl trivial ?_
        obtain ⟨x2, hx2, hh⟩ := bind_some hh
        refine AOps.c rfl rfl (ref10_IsName_ok hx2) ?_
        refine AOps.q hC rfl trivial ?_
        refine AOps.nil ?_
        refine AEx.cond rfl (fun hb => ?_) (fun hb => ?_)
        · replace hh := if_t hb hh
          refine AEx.seq ?_
          refine AEx.regionN rfl rfl ?_
          iterate 2 refine AOps.q hC rfl trivial ?_
          refine AOps.nil ?_
          refine AEx.ret ?_
          obtain rfl := Option.some.inj hh
          exact ⟨_, .tup [.d (.sl (ApiDecl.rows [])), .d (.int .i64 7)], [], rfl, (.tupL ⟨.full, ⟨.rfl, trivial⟩⟩), trivial, rfl, rfl, rfl, rfl⟩
        · replace hh := if_f hb hh
          refine AEx.skip ?_
          refine AEx.seq ?_
          refine AEx.seq ?_
          refine AEx.regionN rfl rfl ?_
          refine AOps.q hC rfl trivial ?_
          refine AOps.nil ?_
          refine AEx.block ?_
          refine AEx.ofLoop ?_
          refine ALoop.wk ?_ (ih1 _ _ _ _ _ hh)
          exact ⟨⟨⟨.rfl, rfl⟩, ⟨⟨.rfl, rfl⟩, ⟨⟨.rfl, rfl⟩, ⟨⟨.rfl, rfl⟩, ⟨⟨.rfl, rfl⟩, trivial⟩⟩⟩⟩⟩, ⟨rfl, ⟨⟨rfl, .refl _, rfl⟩, trivial⟩⟩, rfl⟩
    · replace hh := if_f hb hh
      refine AEx.exit ?_
      refine AEx.seq ?_
      refine AEx.regionN rfl rfl ?_
      iterate 3 refine AOps.q hC rfl trivial ?_
      refine AOps.nil ?_
      refine AEx.ret ?_
      obtain rfl := Option.some.inj hh
      exact ⟨_, .tup [.d (.sl (ApiDecl.rows known)), .d (.int .i64 0)], [], rfl, (.tupL ⟨.osl, ⟨.rfl, trivial⟩⟩), trivial, rfl, rfl, rfl, rfl⟩
  · intro g0 g1 ih0 ih1 x1 known1 i k res hh
    refine ALoop.unroll ?_
    refine AEx.seq ?_
    refine AEx.seq ?_
    refine AEx.regionN rfl rfl ?_
    iterate 2 refine AOps.q hC rfl trivial ?_
    refine AOps.qe hC rfl trivial (ApiDecl.lenA _) ?_
    refine AOps.q hC rfl trivial ?_
    refine AOps.nil ?_
    refine AEx.cond rfl (fun hb => ?_) (fun hb => ?_)
    · replace hh := if_t hb hh
      refine AEx.skip ?_
      refine AEx.seq ?_
      refine AEx.block ?_
      refine AEx.seq ?_
      refine AEx.draw hC 8 rfl rfl rfl ?_
      refine AQ.q hC rfl trivial ?_
      refine AQ.q hC rfl trivial ?_
      obtain ⟨x3, hx3, hh⟩ := bind_some hh
      refine AQ.i hC rfl (idx_nat hx3) (ApiDecl.idx hx3) rfl ?_
      refine AQ.q hC rfl trivial ?_
      refine AQ.q hC rfl trivial ?_
      refine AQ.q hC rfl trivial ?_
      refine AQ.q hC rfl trivial ?_
      refine AQ.q hC rfl trivial ?_
      refine AQ.nil ?_
      refine AOps.nil ?_
      refine AEx.cond rfl (fun hb => ?_) (fun hb => ?_)
      · replace hh := if_t hb hh
        refine AEx.seq ?_
        refine AEx.regionN rfl rfl ?_
        iterate 2 refine AOps.q hC rfl trivial ?_
        refine AOps.nil ?_
        refine AEx.ret ?_
        obtain rfl := Option.some.inj hh
        exact ⟨_, .tup [.d (.sl (ApiDecl.rows [])), .d (.int .i64 8)], [], rfl, (.tupL ⟨.full, ⟨.rfl, trivial⟩⟩), trivial, rfl, rfl, rfl, rfl⟩
      · replace hh := if_f hb hh
        refine AEx.skip ?_
        refine AEx.regionN rfl rfl ?_
        iterate 3 refine AOps.q hC rfl trivial ?_
        refine AOps.nil ?_
        refine ALoop.wk ?_ (ih1 _ _ _ _ _ hh)
        exact ⟨⟨⟨.rfl, rfl⟩, ⟨⟨.rfl, rfl⟩, ⟨⟨.rfl, rfl⟩, ⟨⟨.rfl, rfl⟩, ⟨⟨.rfl, rfl⟩, trivial⟩⟩⟩⟩⟩, ⟨rfl, ⟨⟨rfl, .refl _, rfl⟩, trivial⟩⟩, rfl⟩
    · replace hh := if_f hb hh
      refine AEx.exit ?_
      refine AEx.seq ?_
      refine AEx.regionN rfl rfl ?_
      iterate 3 refine AOps.q hC rfl trivial ?_
      obtain ⟨x4, hx4, hh⟩ := bind_some hh
      refine AOps.cl rfl (ref12_expand_ok hx4) ⟨.osl, ⟨.rfl, trivial⟩⟩ rfl ?_
      iterate 3 refine AOps.q hC rfl trivial ?_
      refine AOps.nf hC rfl ?_
      refine AOps.s hC rfl ?_
      refine AOps.q hC rfl trivial ?_
      refine AOps.nil ?_
      refine AEx.seq ?_
      refine AEx.seq ?_
      refine AEx.regionN rfl rfl ?_
      iterate 2 refine AOps.q hC rfl trivial ?_
      refine AOps.nil ?_
      refine AEx.cond rfl (fun hb => ?_) (fun hb => ?_)
      · replace hh := if_t hb hh
        refine AEx.seq ?_
        refine AEx.regionN rfl rfl ?_
        iterate 3 refine AOps.q hC rfl trivial ?_
        refine AOps.nil ?_
        refine AEx.ret ?_
        obtain rfl := Option.some.inj hh
        exact ⟨_, .tup [.d (.sl (ApiDecl.rows [])), .d (.int .i64 x4.2)], [], rfl, (.tupL ⟨.full, ⟨.rfl, trivial⟩⟩), trivial, rfl, rfl, rfl, rfl⟩
      · replace hh := if_f hb hh
        refine AEx.skip ?_
        refine AEx.regionN rfl rfl ?_
        iterate 5 refine AOps.q hC rfl trivial ?_
        refine AOps.be hC rfl (ApiDecl.rows_map [(ApiDecl.mk 0 x1.Name x4.1 0 (ApiExpr.mk 0 0 [] []) [] [] [])]).symm ?_
        obtain ⟨c5, hh⟩ := asrt_some hh
        refine AOps.ap hC rfl (rs := ApiDecl.rows (known1 ++ [(ApiDecl.mk 0 x1.Name x4.1 0 (ApiExpr.mk 0 0 [] []) [] [] [])])) (ApiDecl.app known1 [(ApiDecl.mk 0 x1.Name x4.1 0 (ApiExpr.mk 0 0 [] []) [] [] [])]) (ApiDecl.sz known1) (ApiDecl.sz [(ApiDecl.mk 0 x1.Name x4.1 0 (ApiExpr.mk 0 0 [] []) [] [] [])]) (room_of (ApiDecl.len known1) (ApiDecl.len [(ApiDecl.mk 0 x1.Name x4.1 0 (ApiExpr.mk 0 0 [] []) [] [] [])]) c5) ?_
        refine AOps.q hC rfl trivial ?_
        refine AOps.nil ?_
        refine AEx.regionN rfl rfl ?_
        iterate 3 refine AOps.q hC rfl trivial ?_
        refine AOps.nil ?_
        refine ALoop.wk ?_ (ih0 _ _ _ hh)
        exact ⟨⟨⟨.rfl, rfl⟩, ⟨⟨.rfl, rfl⟩, ⟨⟨.rfl, rfl⟩, trivial⟩⟩⟩, ⟨rfl, trivial⟩, rfl⟩
theorem ref12_Known_l1_ok {decls : List ApiDecl} {known : List ApiDecl} {i : Int} {res : List ApiDecl × Int} (hh : ref12_Known_l1 decls known i = some res) : ALoop (Fx.mk C 59 0) (lo (bk (sr (sl (sr (sr (bodyOf Tryd.f52))))))) (mkEnv [(0, .d (.sl (ApiDecl.rows decls))), (4, .osl 0 (ApiDecl.rows known)), (5, .d (.int .i64 i))]) [.tok 59 17] (Am.InBlock 0 (Am.Then (Fx.mk C 59 0) (sr (sr (sr (bodyOf Tryd.f52)))) (Am.Ends (Fx.mk C 59 0) Tryd.f52.results.toList (fun x H' => H' = [] ∧ x = .tup [.d (.sl (ApiDecl.rows res.1)), .d (.int .i64 res.2)])))) := (ref12_Known_l1_grp decls).1 _ _ _ hh
theorem ref12_Known_l2_ok {decls : List ApiDecl} {x1 : ApiDecl} {known1 : List ApiDecl} {i : Int} {k : Int} {res : List ApiDecl × Int} (hh : ref12_Known_l2 decls x1 known1 i k = some res) : ALoop (Fx.mk C 59 0) (lo (bk (sr (sl (sr (sr (sr (bk (sl (sr (lo (bk (sr (sl (sr (sr (bodyOf Tryd.f52))))))))))))))))) (mkEnv [(0, .d (.sl (ApiDecl.rows decls))), (4, .osl 0 (ApiDecl.rows known1)), (5, .d (.int .i64 i)), (6, .ref 1 0), (7, .d (.int .i64 k))]) [.tok 59 17, .row (ApiDecl.cells x1) 59] (Am.InBlock 2 (Am.Then (Fx.mk C 59 0) (sr (sr (sr (sr (bk (sl (sr (lo (bk (sr (sl (sr (sr (bodyOf Tryd.f52)))))))))))))) (Am.InBlock 1 (Am.Then (Fx.mk C 59 0) (sr (sr (lo (bk (sr (sl (sr (sr (bodyOf Tryd.f52))))))))) (Am.Again (Fx.mk C 59 0) (lo (bk (sr (sl (sr (sr (bodyOf Tryd.f52))))))) (Am.InBlock 0 (Am.Then (Fx.mk C 59 0) (sr (sr (sr (bodyOf Tryd.f52)))) (Am.Ends (Fx.mk C 59 0) Tryd.f52.results.toList (fun x H' => H' = [] ∧ x = .tup [.d (.sl (ApiDecl.rows res.1)), .d (.int .i64 res.2)]))))))))) := (ref12_Known_l1_grp decls).2 _ _ _ _ _ hh
def ref12_Known (decls : List ApiDecl) : Option (List ApiDecl × Int) :=
  ref12_Known_l1 decls [] 0
theorem ref12_Known_ok {decls : List ApiDecl} {res : List ApiDecl × Int} (hh : ref12_Known decls = some res) : ACall C 52 [.d (.sl (ApiDecl.rows decls))] [] (fun x H' => H' = [] ∧ x = .tup [.d (.sl (ApiDecl.rows res.1)), .d (.int .i64 res.2)]) := by
  unfold ref12_Known at hh
  refine ACall.intro hC Tryd.func52 rfl rfl rfl ?_
  refine AEx.seq ?_
  refine AEx.regionN rfl rfl ?_
  iterate 2 refine AOps.q hC rfl trivial ?_
  refine AOps.nil ?_
  refine AEx.seq ?_
  refine AEx.regionN rfl rfl ?_
  refine AOps.q hC rfl trivial ?_
  refine AOps.tokE 4 59 17 rfl ?_
  refine AOps.nil ?_
  refine AEx.seq ?_
  refine AEx.seq ?_
  refine AEx.regionN rfl rfl ?_
  refine AOps.q hC rfl trivial ?_
  refine AOps.nil ?_
  refine AEx.block ?_
  refine AEx.ofLoop ?_
  refine ALoop.wk ?_ (ref12_Known_l1_ok hh)
  exact ⟨⟨⟨.rfl, rfl⟩, ⟨⟨.rfl, rfl⟩, ⟨⟨.rfl, rfl⟩, trivial⟩⟩⟩, ⟨rfl, trivial⟩, rfl⟩
def ref12_Expand (decls : List ApiDecl) (t : ApiType) : Option (ApiType × Int) :=
  ref12_Known decls >>= fun x1 =>
  if (x1.2 != 0) = true then
    some ((ApiType.mk 0 0 0 0 [] [] []), x1.2)
  else
    ref12_expand x1.1 t >>= fun x2 =>
    some (x2.1, x2.2)
theorem ref12_Expand_ok {decls : List ApiDecl} {t : ApiType} {res : ApiType × Int} (hh : ref12_Expand decls t = some res) : ACall C 17 [.d (.sl (ApiDecl.rows decls)), .agg (ApiType.cells t)] [] (fun x H' => H' = [] ∧ x = .tup [.agg (ApiType.cells res.1), .d (.int .i64 res.2)]) := by
  unfold ref12_Expand at hh
  refine ACall.intro hC Tryd.func17 rfl rfl rfl ?_
  refine AEx.seq ?_
  refine AEx.regionN rfl rfl ?_
  refine AOps.n hC rfl ?_
  refine AOps.nf hC rfl ?_
  refine AOps.q hC rfl trivial ?_
  refine AOps.nil ?_
  refine AEx.seq ?_
  refine AEx.regionN rfl rfl ?_
  refine AOps.q hC rfl trivial ?_
  obtain ⟨x1, hx1, hh⟩ := bind_some hh
  refine AOps.c rfl rfl (ref12_Known_ok hx1) ?_
  iterate 5 refine AOps.q hC rfl trivial ?_
  refine AOps.nil ?_
  refine AEx.seq ?_
  refine AEx.seq ?_
  refine AEx.regionN rfl rfl ?_
  iterate 2 refine AOps.q hC rfl trivial ?_
  refine AOps.nil ?_
  refine AEx.cond rfl (fun hb => ?_) (fun hb => ?_)
  · replace hh := if_t hb hh
    refine AEx.seq ?_
    refine AEx.regionN rfl rfl ?_
    iterate 2 refine AOps.q hC rfl trivial ?_
    refine AOps.s hC rfl ?_
    refine AOps.q hC rfl trivial ?_
    refine AOps.nil ?_
    refine AEx.ret ?_
    obtain rfl := Option.some.inj hh
    exact ⟨_, _, [], rfl, .rfl, trivial, rfl, rfl, rfl, rfl⟩
  · replace hh := if_f hb hh
    refine AEx.skip ?_
    refine AEx.seq ?_
    refine AEx.regionN rfl rfl ?_
    iterate 2 refine AOps.q hC rfl trivial ?_
    obtain ⟨x2, hx2, hh⟩ := bind_some hh
    refine AOps.c rfl rfl (ref12_expand_ok hx2) ?_
    iterate 2 refine AOps.q hC rfl trivial ?_
    refine AOps.s hC rfl ?_
    refine AOps.q hC rfl trivial ?_
    refine AOps.nil ?_
    refine AEx.ret ?_
    obtain rfl := Option.some.inj hh
    exact ⟨_, _, [], rfl, .rfl, trivial, rfl, rfl, rfl, rfl⟩
def law12_TypesExpands (decls : List ApiDecl) (t : ApiType) : Option Bool :=
  law12_known >>= fun x1 =>
  if (!x1) = true then
    some false
  else
    law12_fewDecls decls >>= fun x2 =>
    (if (!(!x2)) = true then law12_few t else some default) >>= fun x3 =>
    if (bif (!x2) then true else (!x3)) = true then
      some true
    else
      types_Expand decls t >>= fun x4 =>
      ref12_Expand decls t >>= fun x5 =>
      (if (x4.2 == x5.2) = true then ref10_EqualType x4.1 x5.1 else some default) >>= fun x6 =>
      some (bif (x4.2 == x5.2) then x6 else false)
theorem law12_TypesExpands_ok {decls : List ApiDecl} {t : ApiType} {res : Bool} (hh : law12_TypesExpands decls t = some res) : ACall C 3 [.d (.sl (ApiDecl.rows decls)), .agg (ApiType.cells t)] [] (fun x H' => H' = [] ∧ x = .d (.bool res)) := by
  unfold law12_TypesExpands at hh
  refine ACall.intro hC Tryd.func3 rfl rfl rfl ?_
  refine AEx.seq ?_
  refine AEx.regionN rfl rfl ?_
  refine AOps.n hC rfl ?_
  refine AOps.q hC rfl trivial ?_
  refine AOps.nil ?_
  refine AEx.seq ?_
  refine AEx.seq ?_
  refine AEx.regionN rfl rfl ?_
  obtain ⟨x1, hx1, hh⟩ := bind_some hh
  refine AOps.c rfl rfl (law12_known_ok hx1) ?_
  refine AOps.q hC rfl trivial ?_
  refine AOps.nil ?_
  refine AEx.cond rfl (fun hb => ?_) (fun hb => ?_)
  · replace hh := if_t hb hh
    refine AEx.seq ?_
    refine AEx.regionN rfl rfl ?_
    refine AOps.q hC rfl trivial ?_
    refine AOps.nil ?_
    refine AEx.ret ?_
    obtain rfl := Option.some.inj hh
    exact ⟨_, _, [], rfl, .rfl, trivial, rfl, rfl, rfl, rfl⟩
  · replace hh := if_f hb hh
    refine AEx.skip ?_
    refine AEx.seq ?_
    refine AEx.seq ?_
    refine AEx.regionG 8 rfl ?_
    refine AG.q hC rfl ?_ ?_
    · intro hg; refine And.intro ?_ ?_ <;> repeat' (first | exact True.intro | exact hg | exact and_l hg | exact and_l (and_l hg) | refine And.intro ?_ ?_)
    obtain ⟨x2, hx2, hh⟩ := bind_some hh
    refine AG.c rfl rfl (by intro hg; repeat' (first | exact True.intro | exact hg | exact and_l hg | exact and_l (and_l hg) | refine And.intro ?_ ?_)) (fun _ => law12_fewDecls_ok hx2) ?_
    refine AG.q hC rfl ?_ ?_
    · intro hg; refine And.intro ?_ ?_ <;> repeat' (first | exact True.intro | exact hg | exact and_l hg | exact and_l (and_l hg) | refine And.intro ?_ ?_)
    refine AG.q hC rfl ?_ ?_
    · intro hg; refine And.intro ?_ ?_ <;> repeat' (first | exact True.intro | exact hg | exact and_l hg | exact and_l (and_l hg) | refine And.intro ?_ ?_)
    refine AG.q hC rfl ?_ ?_
    · intro hg; refine And.intro ?_ ?_ <;> repeat' (first | exact True.intro | exact hg | exact and_l hg | exact and_l (and_l hg) | refine And.intro ?_ ?_)
    obtain ⟨x3, hx3, hh⟩ := bind_some hh
    refine AG.c rfl rfl (by intro hg; repeat' (first | exact True.intro | exact hg | exact and_l hg | exact and_l (and_l hg) | refine And.intro ?_ ?_)) (fun hw => law12_few_ok (if_t hw hx3)) ?_
    refine AG.q hC rfl ?_ ?_
    · intro hg; refine And.intro ?_ ?_ <;> repeat' (first | exact True.intro | exact hg | exact and_l hg | exact and_l (and_l hg) | refine And.intro ?_ ?_)
    refine AG.p hC rfl ?_ ?_
    · intro hg; refine And.intro ?_ (And.intro ?_ ?_) <;> first | exact True.intro | exact fun _ => True.intro | exact And.intro hg True.intro | exact fun h' => And.intro (wb_f h') True.intro | exact fun h' => And.intro (wb_t h') True.intro | exact fun h' => And.intro (and_f hg h') True.intro | exact fun h' => And.intro (and_t hg h') True.intro | exact And.intro (and_l hg) True.intro
    refine AG.nil ?_
    refine AOps.nil ?_
    refine AEx.cond rfl (fun hb => ?_) (fun hb => ?_)
    · replace hh := if_t hb hh
      refine AEx.seq ?_
      refine AEx.regionN rfl rfl ?_
      refine AOps.q hC rfl trivial ?_
      refine AOps.nil ?_
      refine AEx.ret ?_
      obtain rfl := Option.some.inj hh
      exact ⟨_, _, [], rfl, .rfl, trivial, rfl, rfl, rfl, rfl⟩
    · replace hh := if_f hb hh
      refine AEx.skip ?_
      refine AEx.seq ?_
      refine AEx.regionN rfl rfl ?_
      iterate 2 refine AOps.q hC rfl trivial ?_
      obtain ⟨x4, hx4, hh⟩ := bind_some hh
      refine AOps.c rfl rfl (types_Expand_ok hx4) ?_
      iterate 3 refine AOps.q hC rfl trivial ?_
      refine AOps.nf hC rfl ?_
      refine AOps.s hC rfl ?_
      refine AOps.q hC rfl trivial ?_
      refine AOps.nil ?_
      refine AEx.seq ?_
      refine AEx.regionN rfl rfl ?_
      iterate 2 refine AOps.q hC rfl trivial ?_
      obtain ⟨x5, hx5, hh⟩ := bind_some hh
      refine AOps.c rfl rfl (ref12_Expand_ok hx5) ?_
      iterate 3 refine AOps.q hC rfl trivial ?_
      refine AOps.nf hC rfl ?_
      refine AOps.s hC rfl ?_
      refine AOps.q hC rfl trivial ?_
      refine AOps.nil ?_
      refine AEx.seq ?_
      refine AEx.regionG 9 rfl ?_
      refine AG.q hC rfl ?_ ?_
      · intro hg; refine And.intro ?_ ?_ <;> repeat' (first | exact True.intro | exact hg | exact and_l hg | exact and_l (and_l hg) | refine And.intro ?_ ?_)
      refine AG.q hC rfl ?_ ?_
      · intro hg; refine And.intro ?_ ?_ <;> repeat' (first | exact True.intro | exact hg | exact and_l hg | exact and_l (and_l hg) | refine And.intro ?_ ?_)
      refine AG.q hC rfl ?_ ?_
      · intro hg; refine And.intro ?_ ?_ <;> repeat' (first | exact True.intro | exact hg | exact and_l hg | exact and_l (and_l hg) | refine And.intro ?_ ?_)
      refine AG.q hC rfl ?_ ?_
      · intro hg; refine And.intro ?_ ?_ <;> repeat' (first | exact True.intro | exact hg | exact and_l hg | exact and_l (and_l hg) | refine And.intro ?_ ?_)
      refine AG.q hC rfl ?_ ?_
      · intro hg; refine And.intro ?_ ?_ <;> repeat' (first | exact True.intro | exact hg | exact and_l hg | exact and_l (and_l hg) | refine And.intro ?_ ?_)
      refine AG.q hC rfl ?_ ?_
      · intro hg; refine And.intro ?_ ?_ <;> repeat' (first | exact True.intro | exact hg | exact and_l hg | exact and_l (and_l hg) | refine And.intro ?_ ?_)
      obtain ⟨x6, hx6, hh⟩ := bind_some hh
      refine AG.c rfl rfl (by intro hg; repeat' (first | exact True.intro | exact hg | exact and_l hg | exact and_l (and_l hg) | refine And.intro ?_ ?_)) (fun hw => ref10_EqualType_ok (if_t hw hx6)) ?_
      refine AG.p hC rfl ?_ ?_
      · intro hg; refine And.intro ?_ (And.intro ?_ ?_) <;> first | exact True.intro | exact fun _ => True.intro | exact And.intro hg True.intro | exact fun h' => And.intro (wb_f h') True.intro | exact fun h' => And.intro (wb_t h') True.intro | exact fun h' => And.intro (and_f hg h') True.intro | exact fun h' => And.intro (and_t hg h') True.intro | exact And.intro (and_l hg) True.intro
      refine AG.q hC rfl ?_ ?_
      · intro hg; refine And.intro ?_ ?_ <;> repeat' (first | exact True.intro | exact hg | exact and_l hg | exact and_l (and_l hg) | refine And.intro ?_ ?_)
      refine AG.nil ?_
      refine AOps.nil ?_
      refine AEx.ret ?_
      obtain rfl := Option.some.inj hh
      exact ⟨_, _, [], rfl, .rfl, trivial, rfl, rfl, rfl, rfl⟩
end Go.Proofs.YtonilfkaecbjnaaDoor
