/- What the functions compute, and that they do: printed by gen.py. -/
import Derived.Test.YtonilfkaecbjnaaDoorDg1
set_option maxRecDepth 100000
set_option maxHeartbeats 4000000
set_option linter.unusedVariables false
namespace Go.Proofs.YtonilfkaecbjnaaDoor
open Go.Am
def types_Expand (decls : List ApiDecl) (t : ApiType) : Option (ApiType × Int) :=
  types_Expand_l1 decls t [] 0
theorem types_Expand_ok {decls : List ApiDecl} {t : ApiType} {res : ApiType × Int} (hh : types_Expand decls t = some res) : ACall C 16 [.d (.sl (ApiDecl.rows decls)), .agg (ApiType.cells t)] [] (fun x H' => H' = [] ∧ x = .tup [.agg (ApiType.cells res.1), .d (.int .i64 res.2)]) := by
  unfold types_Expand at hh
  refine ACall.intro hC Tryd.func16 rfl rfl rfl ?_
  refine AEx.seq ?_
  refine AEx.regionN rfl rfl ?_
  refine AOps.n hC rfl ?_
  refine AOps.nf hC rfl ?_
  refine AOps.q hC rfl trivial ?_
  refine AOps.nil ?_
  refine AEx.seq ?_
  refine AEx.regionN rfl rfl ?_
  refine AOps.w rfl ?_
  refine AOps.q hC rfl trivial ?_
  refine AOps.nil ?_
  refine AEx.seq ?_
  refine AEx.seq ?_
  refine AEx.regionN rfl rfl ?_
  refine AOps.q hC rfl trivial ?_
  refine AOps.qe hC rfl trivial (ApiDecl.lenA _) ?_
  refine AOps.q hC rfl trivial ?_
  refine AOps.nil ?_
  refine AEx.block ?_
  refine AEx.ofLoop ?_
  refine ALoop.wk ?_ (types_Expand_l1_ok hh)
  exact ⟨⟨⟨.rfl, rfl⟩, ⟨⟨.rfl, rfl⟩, ⟨⟨.rfl, rfl⟩, ⟨⟨.rfl, rfl⟩, ⟨⟨.rfl, rfl⟩, ⟨⟨.rfl, rfl⟩, trivial⟩⟩⟩⟩⟩⟩, ⟨⟨rfl, .refl _, rfl⟩, ⟨⟨rfl, .refl _, rfl⟩, ⟨rfl, trivial⟩⟩⟩, rfl⟩
mutual
def types_named (t : ApiType) : Option Bool :=
  (if (!(t.Kind == 4)) = true then slices_ContainsFunc_api_Type_api_Type_v2 t.Of else some default) >>= fun x1 =>
  some (bif (t.Kind == 4) then true else x1)
  partial_fixpoint
def slices_ContainsFunc_api_Type_api_Type_v2 (s : List ApiType) : Option Bool :=
  slices_IndexFunc_api_Type_api_Type_v2 s >>= fun x1 =>
  some (decide (x1 ≥ 0))
  partial_fixpoint
def slices_IndexFunc_api_Type_api_Type_v2 (s : List ApiType) : Option Int :=
  slices_IndexFunc_api_Type_api_Type_v2_l1 s 0
  partial_fixpoint
def slices_IndexFunc_api_Type_api_Type_v2_l1 (s : List ApiType) (v8 : Int) : Option Int :=
  if (decide (v8 < ((s).length : Int))) = true then
    idx s v8 >>= fun x1 =>
    types_named x1 >>= fun x2 =>
    if x2 = true then
      some v8
    else
      slices_IndexFunc_api_Type_api_Type_v2_l1 s (IntKind.i64.wrap (v8 + 1))
  else
    some (-1)
  partial_fixpoint
end
theorem types_named_grp : (∀ (t : ApiType) (res : Bool), types_named t = some res → ACall C 104 [.agg (ApiType.cells t)] [] (fun x H' => H' = [] ∧ x = .d (.bool res))) ∧
    (∀ (s : List ApiType) (res : Bool), slices_ContainsFunc_api_Type_api_Type_v2 s = some res → ACall C 129 [.d (.sl (ApiType.rows s)), .clo 104 []] [] (fun x H' => H' = [] ∧ x = .d (.bool res))) ∧
    (∀ (s : List ApiType) (res : Int), slices_IndexFunc_api_Type_api_Type_v2 s = some res → ACall C 161 [.d (.sl (ApiType.rows s)), .clo 104 []] [] (fun x H' => H' = [] ∧ x = .d (.int .i64 res))) ∧
    (∀ (s : List ApiType) (v8 : Int) (res : Int), slices_IndexFunc_api_Type_api_Type_v2_l1 s v8 = some res → ALoop (Fx.mk C 19 0) (lo (bk (sr (sl (sr (bodyOf Tryd.f161)))))) (mkEnv [(0, .d (.sl (ApiType.rows s))), (1, .clo 104 []), (7, .d (.int .i64 ((s).length : Int))), (8, .d (.int .i64 v8))]) [] (Am.InBlock 0 (Am.Then (Fx.mk C 19 0) (sr (sr (bodyOf Tryd.f161))) (Am.Ends (Fx.mk C 19 0) Tryd.f161.results.toList (fun x H' => H' = [] ∧ x = .d (.int .i64 res)))))) := by
  refine types_named.mutual_partial_correctness (fun t res => ACall C 104 [.agg (ApiType.cells t)] [] (fun x H' => H' = [] ∧ x = .d (.bool res)))
    (fun s res => ACall C 129 [.d (.sl (ApiType.rows s)), .clo 104 []] [] (fun x H' => H' = [] ∧ x = .d (.bool res)))
    (fun s res => ACall C 161 [.d (.sl (ApiType.rows s)), .clo 104 []] [] (fun x H' => H' = [] ∧ x = .d (.int .i64 res)))
    (fun s v8 res => ALoop (Fx.mk C 19 0) (lo (bk (sr (sl (sr (bodyOf Tryd.f161)))))) (mkEnv [(0, .d (.sl (ApiType.rows s))), (1, .clo 104 []), (7, .d (.int .i64 ((s).length : Int))), (8, .d (.int .i64 v8))]) [] (Am.InBlock 0 (Am.Then (Fx.mk C 19 0) (sr (sr (bodyOf Tryd.f161))) (Am.Ends (Fx.mk C 19 0) Tryd.f161.results.toList (fun x H' => H' = [] ∧ x = .d (.int .i64 res)))))) ?_ ?_ ?_ ?_
  · intro g1 ih1 t res hh
    refine ACall.intro hC Tryd.func104 rfl rfl rfl ?_
    refine AEx.seq ?_
    refine AEx.regionN rfl rfl ?_
    refine AOps.n hC rfl ?_
    refine AOps.q hC rfl trivial ?_
    refine AOps.nil ?_
    refine AEx.seq ?_
    refine AEx.regionG 9 rfl ?_
    refine AG.q hC rfl ?_ ?_
    · intro hg; refine And.intro ?_ ?_ <;> repeat' (first | exact True.intro | exact hg | exact and_l hg | exact and_l (and_l hg) | refine And.intro ?_ ?_)
    refine AG.q hC rfl ?_ ?_
    · intro hg; refine And.intro ?_ ?_ <;> repeat' (first | exact True.intro | exact hg | exact and_l hg | exact and_l (and_l hg) | refine And.intro ?_ ?_)
    refine AG.q hC rfl ?_ ?_
    · intro hg; refine And.intro ?_ ?_ <;> repeat' (first | exact True.intro | exact hg | exact and_l hg | exact and_l (and_l hg) | refine And.intro ?_ ?_)
    refine AG.q hC rfl ?_ ?_
    · intro hg; refine And.intro ?_ ?_ <;> repeat' (first | exact True.intro | exact hg | exact and_l hg | exact and_l (and_l hg) | refine And.intro ?_ ?_)
    refine AG.q hC rfl ?_ ?_
    · intro hg; refine And.intro ?_ ?_ <;> repeat' (first | exact True.intro | exact hg | exact and_l hg | exact and_l (and_l hg) | refine And.intro ?_ ?_)
    refine AG.q hC rfl ?_ ?_
    · intro hg; refine And.intro ?_ ?_ <;> repeat' (first | exact True.intro | exact hg | exact and_l hg | exact and_l (and_l hg) | refine And.intro ?_ ?_)
    obtain ⟨x1, hx1, hh⟩ := bind_some hh
    refine AG.c rfl rfl (by intro hg; repeat' (first | exact True.intro | exact hg | exact and_l hg | exact and_l (and_l hg) | refine And.intro ?_ ?_)) (fun hw => ih1 _ _ (if_t hw hx1)) ?_
    refine AG.p hC rfl ?_ ?_
    · intro hg; refine And.intro ?_ (And.intro ?_ ?_) <;> first | exact True.intro | exact fun _ => True.intro | exact And.intro hg True.intro | exact fun h' => And.intro (wb_f h') True.intro | exact fun h' => And.intro (wb_t h') True.intro | exact fun h' => And.intro (and_f hg h') True.intro | exact fun h' => And.intro (and_t hg h') True.intro | exact And.intro (and_l hg) True.intro
    refine AG.q hC rfl ?_ ?_
    · intro hg; refine And.intro ?_ ?_ <;> repeat' (first | exact True.intro | exact hg | exact and_l hg | exact and_l (and_l hg) | refine And.intro ?_ ?_)
    refine AG.nil ?_
    refine AOps.nil ?_
    refine AEx.ret ?_
    obtain rfl := Option.some.inj hh
    exact ⟨_, _, [], rfl, .rfl, trivial, rfl, rfl, rfl, rfl⟩
  · intro g2 ih2 s res hh
    refine ACall.intro hC Tryd.func129 rfl rfl rfl ?_
    refine AEx.seq ?_
    refine AEx.regionN rfl rfl ?_
    refine AOps.q hC rfl trivial ?_
    refine AOps.nil ?_
    refine AEx.seq ?_
    refine AEx.regionN rfl rfl ?_
    iterate 2 refine AOps.q hC rfl trivial ?_
    obtain ⟨x1, hx1, hh⟩ := bind_some hh
    refine AOps.c rfl rfl (ih2 _ _ hx1) ?_
    iterate 2 refine AOps.q hC rfl trivial ?_
    refine AOps.nil ?_
    refine AEx.ret ?_
    obtain rfl := Option.some.inj hh
    exact ⟨_, _, [], rfl, .rfl, trivial, rfl, rfl, rfl, rfl⟩
  · intro g3 ih3 s res hh
    refine ACall.intro hC Tryd.func161 rfl rfl rfl ?_
    refine AEx.seq ?_
    refine AEx.regionN rfl rfl ?_
    refine AOps.q hC rfl trivial ?_
    refine AOps.nil ?_
    refine AEx.seq ?_
    refine AEx.seq ?_
    refine AEx.regionN rfl rfl ?_
    refine AOps.q hC rfl trivial ?_
    refine AOps.qe hC rfl trivial (ApiType.lenA _) ?_
    refine AOps.q hC rfl trivial ?_
    refine AOps.nil ?_
    refine AEx.block ?_
    refine AEx.ofLoop ?_
    refine ALoop.wk ?_ (ih3 _ _ _ hh)
    exact ⟨⟨⟨.rfl, rfl⟩, ⟨⟨.rfl, rfl⟩, ⟨⟨.rfl, rfl⟩, ⟨⟨.rfl, rfl⟩, trivial⟩⟩⟩⟩, trivial, rfl⟩
  · intro g0 g3 ih0 ih3 s v8 res hh
    refine ALoop.unroll ?_
    refine AEx.seq ?_
    refine AEx.regionN rfl rfl ?_
    refine AOps.q hC rfl trivial ?_
    refine AOps.nil ?_
    refine AEx.seq ?_
    refine AEx.cond rfl (fun hb => ?_) (fun hb => ?_)
    · replace hh := if_t hb hh
      refine AEx.skip ?_
      refine AEx.seq ?_
      refine AEx.block ?_
      refine AEx.seq ?_
      refine AEx.regionN rfl rfl ?_
      iterate 2 refine AOps.q hC rfl trivial ?_
      refine AOps.nil ?_
      refine AEx.seq ?_
      refine AEx.regionN rfl rfl ?_
      iterate 3 refine AOps.q hC rfl trivial ?_
      obtain ⟨x1, hx1, hh⟩ := bind_some hh
      refine AOps.i hC rfl (idx_nat hx1) (ApiType.idx hx1) rfl ?_
      refine AOps.q hC rfl trivial ?_
      obtain ⟨x2, hx2, hh⟩ := bind_some hh
      refine AOps.c rfl rfl (ih0 _ _ hx2) ?_
      refine AOps.nil ?_
      refine AEx.cond rfl (fun hb => ?_) (fun hb => ?_)
      · replace hh := if_t hb hh
        refine AEx.seq ?_
        refine AEx.regionN rfl rfl ?_
        iterate 2 refine AOps.q hC rfl trivial ?_
        refine AOps.nil ?_
        refine AEx.ret ?_
        obtain rfl := Option.some.inj hh
        exact ⟨_, _, [], rfl, .rfl, trivial, rfl, rfl, rfl, rfl⟩
      · replace hh := if_f hb hh
        refine AEx.skip ?_
        refine AEx.regionN rfl rfl ?_
        iterate 2 refine AOps.q hC rfl trivial ?_
        refine AOps.nil ?_
        refine ALoop.wk ?_ (ih3 _ _ _ hh)
        exact ⟨⟨⟨.rfl, rfl⟩, ⟨⟨.rfl, rfl⟩, ⟨⟨.rfl, rfl⟩, ⟨⟨.rfl, rfl⟩, trivial⟩⟩⟩⟩, trivial, rfl⟩
    · replace hh := if_f hb hh
      refine AEx.exit ?_
      refine AEx.seq ?_
      refine AEx.regionN rfl rfl ?_
      refine AOps.q hC rfl trivial ?_
      refine AOps.nil ?_
      refine AEx.ret ?_
      obtain rfl := Option.some.inj hh
      exact ⟨_, _, [], rfl, .rfl, trivial, rfl, rfl, rfl, rfl⟩
theorem types_named_ok {t : ApiType} {res : Bool} (hh : types_named t = some res) : ACall C 104 [.agg (ApiType.cells t)] [] (fun x H' => H' = [] ∧ x = .d (.bool res)) := (types_named_grp).1 _ _ hh
theorem slices_ContainsFunc_api_Type_api_Type_v2_ok {s : List ApiType} {res : Bool} (hh : slices_ContainsFunc_api_Type_api_Type_v2 s = some res) : ACall C 129 [.d (.sl (ApiType.rows s)), .clo 104 []] [] (fun x H' => H' = [] ∧ x = .d (.bool res)) := (types_named_grp).2.1 _ _ hh
theorem slices_IndexFunc_api_Type_api_Type_v2_ok {s : List ApiType} {res : Int} (hh : slices_IndexFunc_api_Type_api_Type_v2 s = some res) : ACall C 161 [.d (.sl (ApiType.rows s)), .clo 104 []] [] (fun x H' => H' = [] ∧ x = .d (.int .i64 res)) := (types_named_grp).2.2.1 _ _ hh
theorem slices_IndexFunc_api_Type_api_Type_v2_l1_ok {s : List ApiType} {v8 : Int} {res : Int} (hh : slices_IndexFunc_api_Type_api_Type_v2_l1 s v8 = some res) : ALoop (Fx.mk C 19 0) (lo (bk (sr (sl (sr (bodyOf Tryd.f161)))))) (mkEnv [(0, .d (.sl (ApiType.rows s))), (1, .clo 104 []), (7, .d (.int .i64 ((s).length : Int))), (8, .d (.int .i64 v8))]) [] (Am.InBlock 0 (Am.Then (Fx.mk C 19 0) (sr (sr (bodyOf Tryd.f161))) (Am.Ends (Fx.mk C 19 0) Tryd.f161.results.toList (fun x H' => H' = [] ∧ x = .d (.int .i64 res))))) := (types_named_grp).2.2.2 _ _ _ hh
def types_plain (t : ApiType) : Option Int :=
  types_named t >>= fun x1 =>
  if x1 = true then
    some 7
  else
    types_twice t >>= fun x2 =>
    if x2 = true then
      some 8
    else
      types_count t >>= fun x3 =>
      if (decide (x3 > 32)) = true then
        some 4
      else
        some 0
theorem types_plain_ok {t : ApiType} {res : Int} (hh : types_plain t = some res) : ACall C 59 [.agg (ApiType.cells t)] [] (fun x H' => H' = [] ∧ x = .d (.int .i64 res)) := by
  unfold types_plain at hh
  refine ACall.intro hC Tryd.func59 rfl rfl rfl ?_
  refine AEx.seq ?_
  refine AEx.regionN rfl rfl ?_
  refine AOps.n hC rfl ?_
  refine AOps.q hC rfl trivial ?_
  refine AOps.nil ?_
  refine AEx.seq ?_
  refine AEx.seq ?_
  refine AEx.regionN rfl rfl ?_
  refine AOps.q hC rfl trivial ?_
  obtain ⟨x1, hx1, hh⟩ := bind_some hh
  refine AOps.c rfl rfl (types_named_ok hx1) ?_
  refine AOps.nil ?_
  refine AEx.cond rfl (fun hb => ?_) (fun hb => ?_)
  · replace hh := if_t hb hh
    refine AEx.seq ?_
    refine AEx.regionN rfl rfl ?_
    refine AOps.q hC rfl trivial ?_
    refine AOps.nil ?_
    refine AEx.ret ?_
    obtain rfl := Option.some.inj hh
    exact ⟨_, _, [], rfl, .rfl, trivial, rfl, rfl, rfl, rfl⟩
  · replace hh := if_f hb hh
    refine AEx.skip ?_
    refine AEx.seq ?_
    refine AEx.seq ?_
    refine AEx.regionN rfl rfl ?_
    refine AOps.q hC rfl trivial ?_
    obtain ⟨x2, hx2, hh⟩ := bind_some hh
    refine AOps.c rfl rfl (types_twice_ok hx2) ?_
    refine AOps.nil ?_
    refine AEx.cond rfl (fun hb => ?_) (fun hb => ?_)
    · replace hh := if_t hb hh
      refine AEx.seq ?_
      refine AEx.regionN rfl rfl ?_
      refine AOps.q hC rfl trivial ?_
      refine AOps.nil ?_
      refine AEx.ret ?_
      obtain rfl := Option.some.inj hh
      exact ⟨_, _, [], rfl, .rfl, trivial, rfl, rfl, rfl, rfl⟩
    · replace hh := if_f hb hh
      refine AEx.skip ?_
      refine AEx.seq ?_
      refine AEx.seq ?_
      refine AEx.regionN rfl rfl ?_
      refine AOps.q hC rfl trivial ?_
      obtain ⟨x3, hx3, hh⟩ := bind_some hh
      refine AOps.c rfl rfl (types_count_ok hx3) ?_
      refine AOps.q hC rfl trivial ?_
      refine AOps.nil ?_
      refine AEx.cond rfl (fun hb => ?_) (fun hb => ?_)
      · replace hh := if_t hb hh
        refine AEx.seq ?_
        refine AEx.regionN rfl rfl ?_
        refine AOps.q hC rfl trivial ?_
        refine AOps.nil ?_
        refine AEx.ret ?_
        obtain rfl := Option.some.inj hh
        exact ⟨_, _, [], rfl, .rfl, trivial, rfl, rfl, rfl, rfl⟩
      · replace hh := if_f hb hh
        refine AEx.skip ?_
        refine AEx.seq ?_
        refine AEx.regionN rfl rfl ?_
        refine AOps.q hC rfl trivial ?_
        refine AOps.nil ?_
        refine AEx.ret ?_
        obtain rfl := Option.some.inj hh
        exact ⟨_, _, [], rfl, .rfl, trivial, rfl, rfl, rfl, rfl⟩
def types_Check (t : ApiType) : Option Int :=
  syntax_CheckType t >>= fun x1 =>
  if (x1 != 0) = true then
    some x1
  else
    types_plain t >>= fun x2 =>
    some x2
theorem types_Check_ok {t : ApiType} {res : Int} (hh : types_Check t = some res) : ACall C 24 [.agg (ApiType.cells t)] [] (fun x H' => H' = [] ∧ x = .d (.int .i64 res)) := by
  unfold types_Check at hh
  refine ACall.intro hC Tryd.func24 rfl rfl rfl ?_
  refine AEx.seq ?_
  refine AEx.regionN rfl rfl ?_
  refine AOps.n hC rfl ?_
  refine AOps.q hC rfl trivial ?_
  refine AOps.nil ?_
  refine AEx.seq ?_
  refine AEx.seq ?_
  refine AEx.regionN rfl rfl ?_
  refine AOps.q hC rfl trivial ?_
  obtain ⟨x1, hx1, hh⟩ := bind_some hh
  refine AOps.c rfl rfl (syntax_CheckType_ok hx1) ?_
  refine AOps.q hC rfl trivial ?_
  refine AOps.nil ?_
  refine AEx.seq ?_
  refine AEx.regionN rfl rfl ?_
  iterate 2 refine AOps.q hC rfl trivial ?_
  refine AOps.nil ?_
  refine AEx.cond rfl (fun hb => ?_) (fun hb => ?_)
  · replace hh := if_t hb hh
    refine AEx.seq ?_
    refine AEx.regionN rfl rfl ?_
    iterate 2 refine AOps.q hC rfl trivial ?_
    refine AOps.nil ?_
    refine AEx.ret ?_
    obtain rfl := Option.some.inj hh
    exact ⟨_, _, [], rfl, .rfl, trivial, rfl, rfl, rfl, rfl⟩
  · replace hh := if_f hb hh
    refine AEx.skip ?_
    refine AEx.seq ?_
    refine AEx.regionN rfl rfl ?_
    refine AOps.q hC rfl trivial ?_
    obtain ⟨x2, hx2, hh⟩ := bind_some hh
    refine AOps.c rfl rfl (types_plain_ok hx2) ?_
    refine AOps.q hC rfl trivial ?_
    refine AOps.nil ?_
    refine AEx.ret ?_
    obtain rfl := Option.some.inj hh
    exact ⟨_, _, [], rfl, .rfl, trivial, rfl, rfl, rfl, rfl⟩
def strings_Clone (s : Str) : Option Str :=
  X_Clone s >>= fun x1 =>
  some x1
theorem strings_Clone_ok {s : Str} {res : Str} (hh : strings_Clone s = some res) : ACall C 56 [.d (.str s)] [] (fun x H' => H' = [] ∧ x = .d (.str res)) := by
  unfold strings_Clone at hh
  refine ACall.intro hC Tryd.func56 rfl rfl rfl ?_
  refine AEx.seq ?_
  refine AEx.regionN rfl rfl ?_
  refine AOps.q hC rfl trivial ?_
  refine AOps.nil ?_
  refine AEx.seq ?_
  refine AEx.regionN rfl rfl ?_
  refine AOps.q hC rfl trivial ?_
  obtain ⟨x1, hx1, hh⟩ := bind_some hh
  refine AOps.c rfl rfl (X_Clone_ok hx1) ?_
  refine AOps.q hC rfl trivial ?_
  refine AOps.nil ?_
  refine AEx.ret ?_
  obtain rfl := Option.some.inj hh
  exact ⟨_, _, [], rfl, .rfl, trivial, rfl, rfl, rfl, rfl⟩
def types_Scalars_1_v2 (path : Str) (a1 : Int) (x : ApiType) (s : List ApiScalar) : Option (Bool × List ApiScalar) :=
  if (x.Kind == 0) = true then
    strings_Clone path >>= fun x1 =>
    if (decide ((s.length + 1) * 41 ≤ 140737488355328)) = true then
      some (true, (s ++ [(ApiScalar.mk x1 true 0 1)]))
    else none
  else
    if (x.Kind == 1) = true then
      strings_Clone path >>= fun x2 =>
      if (decide ((s.length + 1) * 41 ≤ 140737488355328)) = true then
        some (true, (s ++ [(ApiScalar.mk x2 false x.Low x.High)]))
      else none
    else
      some (true, s)
theorem types_Scalars_1_v2_ok {path : Str} {a1 : Int} {x : ApiType} {s : List ApiScalar} {res : Bool × List ApiScalar} (hh : types_Scalars_1_v2 path a1 x s = some res) : ACall C 55 [.d (.str path), .d (.int .i64 a1), .agg (ApiType.cells x), .ref 0 0] [.row [.osl 1 (ApiScalar.rows s)] 36, .tok 43 4] (fun x H' => H' = [.row [.osl 1 (ApiScalar.rows res.2)] 36, .tok 43 4] ∧ x = .d (.bool res.1)) := by
  unfold types_Scalars_1_v2 at hh
  refine ACall.intro hC Tryd.func55 rfl rfl rfl ?_
  refine AEx.seq ?_
  refine AEx.regionN rfl rfl ?_
  refine AOps.n hC rfl ?_
  refine AOps.q hC rfl trivial ?_
  refine AOps.nil ?_
  refine AEx.seq ?_
  refine AEx.seq ?_
  refine AEx.regionN rfl rfl ?_
  iterate 2 refine AOps.q hC rfl trivial ?_
  refine AOps.nil ?_
  refine AEx.block ?_
  refine AEx.seq ?_
  refine AEx.regionN rfl rfl ?_
  iterate 2 refine AOps.q hC rfl trivial ?_
  refine AOps.nil ?_
  refine AEx.cond rfl (fun hb => ?_) (fun hb => ?_)
  · replace hh := if_t hb hh
    refine AEx.draw hC 5 rfl rfl rfl ?_
    refine AQ.q hC rfl trivial ?_
    refine AQ.q hC rfl trivial ?_
    obtain ⟨x1, hx1, hh⟩ := bind_some hh
    refine AQ.c rfl rfl (strings_Clone_ok hx1) ?_
    refine AQ.q hC rfl trivial ?_
    refine AQ.be hC rfl (ApiScalar.rows_map [(ApiScalar.mk x1 true 0 1)]).symm ?_
    refine AQ.nil ?_
    obtain ⟨c5, hh⟩ := asrt_some hh
    refine AOps.ap hC rfl (rs := ApiScalar.rows (s ++ [(ApiScalar.mk x1 true 0 1)])) (ApiScalar.app s [(ApiScalar.mk x1 true 0 1)]) (ApiScalar.sz s) (ApiScalar.sz [(ApiScalar.mk x1 true 0 1)]) (room_of (ApiScalar.len s) (ApiScalar.len [(ApiScalar.mk x1 true 0 1)]) c5) ?_
    refine AOps.s hC rfl ?_
    refine AOps.nil ?_
    refine AEx.seq ?_
    refine AEx.regionN rfl rfl ?_
    refine AOps.q hC rfl trivial ?_
    refine AOps.nil ?_
    refine AEx.ret ?_
    obtain rfl := Option.some.inj hh
    exact ⟨_, _, [.row [.osl 1 (ApiScalar.rows (s ++ [(ApiScalar.mk x1 true 0 1)]))] 36, .tok 43 4], rfl, .rfl, ⟨⟨rfl, .refl _, rfl⟩, ⟨rfl, trivial⟩⟩, rfl, rfl, rfl, rfl⟩
  · replace hh := if_f hb hh
    refine AEx.seq ?_
    refine AEx.regionN rfl rfl ?_
    iterate 2 refine AOps.q hC rfl trivial ?_
    refine AOps.nil ?_
    refine AEx.cond rfl (fun hb => ?_) (fun hb => ?_)
    · replace hh := if_t hb hh
      refine AEx.draw hC 9 rfl rfl rfl ?_
      refine AQ.q hC rfl trivial ?_
      refine AQ.q hC rfl trivial ?_
      obtain ⟨x2, hx2, hh⟩ := bind_some hh
      refine AQ.c rfl rfl (strings_Clone_ok hx2) ?_
      refine AQ.q hC rfl trivial ?_
      refine AQ.q hC rfl trivial ?_
      refine AQ.q hC rfl trivial ?_
      refine AQ.q hC rfl trivial ?_
      refine AQ.q hC rfl trivial ?_
      refine AQ.be hC rfl (ApiScalar.rows_map [(ApiScalar.mk x2 false x.Low x.High)]).symm ?_
      refine AQ.nil ?_
      obtain ⟨c6, hh⟩ := asrt_some hh
      refine AOps.ap hC rfl (rs := ApiScalar.rows (s ++ [(ApiScalar.mk x2 false x.Low x.High)])) (ApiScalar.app s [(ApiScalar.mk x2 false x.Low x.High)]) (ApiScalar.sz s) (ApiScalar.sz [(ApiScalar.mk x2 false x.Low x.High)]) (room_of (ApiScalar.len s) (ApiScalar.len [(ApiScalar.mk x2 false x.Low x.High)]) c6) ?_
      refine AOps.s hC rfl ?_
      refine AOps.nil ?_
      refine AEx.seq ?_
      refine AEx.regionN rfl rfl ?_
      refine AOps.q hC rfl trivial ?_
      refine AOps.nil ?_
      refine AEx.ret ?_
      obtain rfl := Option.some.inj hh
      exact ⟨_, _, [.row [.osl 1 (ApiScalar.rows (s ++ [(ApiScalar.mk x2 false x.Low x.High)]))] 36, .tok 43 4], rfl, .rfl, ⟨⟨rfl, .refl _, rfl⟩, ⟨rfl, trivial⟩⟩, rfl, rfl, rfl, rfl⟩
    · replace hh := if_f hb hh
      refine AEx.skip ?_
      refine AEx.seq ?_
      refine AEx.regionN rfl rfl ?_
      refine AOps.q hC rfl trivial ?_
      refine AOps.nil ?_
      refine AEx.ret ?_
      obtain rfl := Option.some.inj hh
      exact ⟨_, _, [.row [.osl 1 (ApiScalar.rows s)] 36, .tok 43 4], rfl, .rfl, ⟨⟨rfl, .refl _, rfl⟩, ⟨rfl, trivial⟩⟩, rfl, rfl, rfl, rfl⟩
mutual
def types_each_1_v2 (path : Str) (t : ApiType) (s : Int) (s1 : List ApiScalar) : Option (Bool × Int × List ApiScalar) :=
  types_Scalars_1_v2 path s t s1 >>= fun x1 =>
  if (!x1.1) = true then
    some (false, s, x1.2)
  else
    if (t.Kind == 2) = true then
      types_each_1_v2_l1 path t s x1.2 0
    else
      if (t.Kind == 3) = true then
        types_each_1_v2_l2 path t s x1.2 0
      else
        some (true, (IntKind.i64.wrap (s + 1)), x1.2)
  partial_fixpoint
def types_each_1_v2_l2 (path : Str) (t : ApiType) (o11 : Int) (o31 : List ApiScalar) (v46 : Int) : Option (Bool × Int × List ApiScalar) :=
  if (decide (v46 < ((t.Of).length : Int))) = true then
    idx t.Of v46 >>= fun x4 =>
    if (decide (path.length + 1 ≤ maxLen)) = true then
      idx t.Names v46 >>= fun x5 =>
      if (decide ((path ++ [46]).length + x5.length ≤ maxLen)) = true then
        types_each_1_v2 ((path ++ [46]) ++ x5) x4 o11 o31 >>= fun x7 =>
        if (!x7.1) = true then
          some (false, x7.2.1, x7.2.2)
        else
          types_each_1_v2_l2 path t x7.2.1 x7.2.2 (IntKind.i64.wrap (v46 + 1))
      else none
    else none
  else
    some (true, o11, o31)
  partial_fixpoint
def types_each_1_v2_l1 (path : Str) (t : ApiType) (o1 : Int) (o3 : List ApiScalar) (v25 : Int) : Option (Bool × Int × List ApiScalar) :=
  if (decide (v25 < t.Size)) = true then
    if (decide (path.length + 1 ≤ maxLen)) = true then
      X_Itoa v25 >>= fun x2 =>
      if (decide ((path ++ [46]).length + x2.length ≤ maxLen)) = true then
        idx t.Of 0 >>= fun x3 =>
        types_each_1_v2 ((path ++ [46]) ++ x2) x3 o1 o3 >>= fun x6 =>
        if (!x6.1) = true then
          some (false, x6.2.1, x6.2.2)
        else
          types_each_1_v2_l1 path t x6.2.1 x6.2.2 (IntKind.i64.wrap (v25 + 1))
      else none
    else none
  else
    some (true, o1, o3)
  partial_fixpoint
end
theorem types_each_1_v2_grp : (∀ (path : Str) (t : ApiType) (s : Int) (s1 : List ApiScalar) (res : Bool × Int × List ApiScalar), types_each_1_v2 path t s s1 = some res → ACall C 98 [.d (.str path), .agg (ApiType.cells t), .ref 0 0, .ref 1 0, .ref 2 0] [.row [.clo 55 [.ref 3 0]] 88, .row [.d (.int .i64 s)] 3, .row [.clo 98 [.ref 0 0, .ref 1 0, .ref 2 0]] 119, .row [.osl 4 (ApiScalar.rows s1)] 36, .tok 43 4] (fun x H' => H' = [.row [.clo 55 [.ref 3 0]] 88, .row [.d (.int .i64 res.2.1)] 3, .row [.clo 98 [.ref 0 0, .ref 1 0, .ref 2 0]] 119, .row [.osl 4 (ApiScalar.rows res.2.2)] 36, .tok 43 4] ∧ x = .d (.bool res.1))) ∧
    (∀ (path : Str) (t : ApiType) (o11 : Int) (o31 : List ApiScalar) (v46 : Int) (res : Bool × Int × List ApiScalar), types_each_1_v2_l2 path t o11 o31 v46 = some res → ALoop (Fx.mk C 64 5) (lo (bk (sr (ca (sr (cb (sr (bk (sr (sl (sr (sr (bodyOf Tryd.f98))))))))))))) (mkEnv [(0, .d (.str path)), (4, .ref 2 0), (6, .ref 5 0), (44, .d (.sl (ApiType.rows t.Of))), (45, .d (.int .i64 ((t.Of).length : Int))), (46, .d (.int .i64 v46))]) [.row [.clo 55 [.ref 3 0]] 88, .row [.d (.int .i64 o11)] 3, .row [.clo 98 [.ref 0 0, .ref 1 0, .ref 2 0]] 119, .row [.osl 4 (ApiScalar.rows o31)] 36, .tok 43 4, .row (ApiType.cells t) 27] (Am.InBlock 3 (Am.InBlock 0 (Am.Then (Fx.mk C 64 5) (sr (sr (sr (bodyOf Tryd.f98)))) (Am.Ends (Fx.mk C 64 5) Tryd.f98.results.toList (fun x H' => H' = [.row [.clo 55 [.ref 3 0]] 88, .row [.d (.int .i64 res.2.1)] 3, .row [.clo 98 [.ref 0 0, .ref 1 0, .ref 2 0]] 119, .row [.osl 4 (ApiScalar.rows res.2.2)] 36, .tok 43 4] ∧ x = .d (.bool res.1))))))) ∧
    (∀ (path : Str) (t : ApiType) (o1 : Int) (o3 : List ApiScalar) (v25 : Int) (res : Bool × Int × List ApiScalar), types_each_1_v2_l1 path t o1 o3 v25 = some res → ALoop (Fx.mk C 64 5) (lo (bk (sr (ca (sr (bk (sr (sl (sr (sr (bodyOf Tryd.f98))))))))))) (mkEnv [(0, .d (.str path)), (4, .ref 2 0), (6, .ref 5 0), (24, .d (.int .i64 t.Size)), (25, .d (.int .i64 v25))]) [.row [.clo 55 [.ref 3 0]] 88, .row [.d (.int .i64 o1)] 3, .row [.clo 98 [.ref 0 0, .ref 1 0, .ref 2 0]] 119, .row [.osl 4 (ApiScalar.rows o3)] 36, .tok 43 4, .row (ApiType.cells t) 27] (Am.InBlock 1 (Am.InBlock 0 (Am.Then (Fx.mk C 64 5) (sr (sr (sr (bodyOf Tryd.f98)))) (Am.Ends (Fx.mk C 64 5) Tryd.f98.results.toList (fun x H' => H' = [.row [.clo 55 [.ref 3 0]] 88, .row [.d (.int .i64 res.2.1)] 3, .row [.clo 98 [.ref 0 0, .ref 1 0, .ref 2 0]] 119, .row [.osl 4 (ApiScalar.rows res.2.2)] 36, .tok 43 4] ∧ x = .d (.bool res.1))))))) := by
  refine types_each_1_v2.mutual_partial_correctness (fun path t s s1 res => ACall C 98 [.d (.str path), .agg (ApiType.cells t), .ref 0 0, .ref 1 0, .ref 2 0] [.row [.clo 55 [.ref 3 0]] 88, .row [.d (.int .i64 s)] 3, .row [.clo 98 [.ref 0 0, .ref 1 0, .ref 2 0]] 119, .row [.osl 4 (ApiScalar.rows s1)] 36, .tok 43 4] (fun x H' => H' = [.row [.clo 55 [.ref 3 0]] 88, .row [.d (.int .i64 res.2.1)] 3, .row [.clo 98 [.ref 0 0, .ref 1 0, .ref 2 0]] 119, .row [.osl 4 (ApiScalar.rows res.2.2)] 36, .tok 43 4] ∧ x = .d (.bool res.1)))
    (fun path t o11 o31 v46 res => ALoop (Fx.mk C 64 5) (lo (bk (sr (ca (sr (cb (sr (bk (sr (sl (sr (sr (bodyOf Tryd.f98))))))))))))) (mkEnv [(0, .d (.str path)), (4, .ref 2 0), (6, .ref 5 0), (44, .d (.sl (ApiType.rows t.Of))), (45, .d (.int .i64 ((t.Of).length : Int))), (46, .d (.int .i64 v46))]) [.row [.clo 55 [.ref 3 0]] 88, .row [.d (.int .i64 o11)] 3, .row [.clo 98 [.ref 0 0, .ref 1 0, .ref 2 0]] 119, .row [.osl 4 (ApiScalar.rows o31)] 36, .tok 43 4, .row (ApiType.cells t) 27] (Am.InBlock 3 (Am.InBlock 0 (Am.Then (Fx.mk C 64 5) (sr (sr (sr (bodyOf Tryd.f98)))) (Am.Ends (Fx.mk C 64 5) Tryd.f98.results.toList (fun x H' => H' = [.row [.clo 55 [.ref 3 0]] 88, .row [.d (.int .i64 res.2.1)] 3, .row [.clo 98 [.ref 0 0, .ref 1 0, .ref 2 0]] 119, .row [.osl 4 (ApiScalar.rows res.2.2)] 36, .tok 43 4] ∧ x = .d (.bool res.1)))))))
    (fun path t o1 o3 v25 res => ALoop (Fx.mk C 64 5) (lo (bk (sr (ca (sr (bk (sr (sl (sr (sr (bodyOf Tryd.f98))))))))))) (mkEnv [(0, .d (.str path)), (4, .ref 2 0), (6, .ref 5 0), (24, .d (.int .i64 t.Size)), (25, .d (.int .i64 v25))]) [.row [.clo 55 [.ref 3 0]] 88, .row [.d (.int .i64 o1)] 3, .row [.clo 98 [.ref 0 0, .ref 1 0, .ref 2 0]] 119, .row [.osl 4 (ApiScalar.rows o3)] 36, .tok 43 4, .row (ApiType.cells t) 27] (Am.InBlock 1 (Am.InBlock 0 (Am.Then (Fx.mk C 64 5) (sr (sr (sr (bodyOf Tryd.f98)))) (Am.Ends (Fx.mk C 64 5) Tryd.f98.results.toList (fun x H' => H' = [.row [.clo 55 [.ref 3 0]] 88, .row [.d (.int .i64 res.2.1)] 3, .row [.clo 98 [.ref 0 0, .ref 1 0, .ref 2 0]] 119, .row [.osl 4 (ApiScalar.rows res.2.2)] 36, .tok 43 4] ∧ x = .d (.bool res.1))))))) ?_ ?_ ?_
  · intro g1 g2 ih1 ih2 path t s s1 res hh
    refine ACall.intro hC Tryd.func98 rfl rfl rfl ?_
    refine AEx.seq ?_
    refine AEx.regionN rfl rfl ?_
    refine AOps.n hC rfl ?_
    refine AOps.q hC rfl trivial ?_
    refine AOps.nil ?_
    refine AEx.seq ?_
    refine AEx.seq ?_
    refine AEx.regionN rfl rfl ?_
    iterate 4 refine AOps.q hC rfl trivial ?_
    obtain ⟨x1, hx1, hh⟩ := bind_some hh
    refine AOps.g [3, 4] rfl (types_Scalars_1_v2_ok hx1) ⟨.rfl, ⟨.rfl, ⟨.rfl, ⟨.rfl, trivial⟩⟩⟩⟩ rfl ⟨rfl, ⟨rfl, trivial⟩⟩ rfl rfl ?_
    refine AOps.q hC rfl trivial ?_
    refine AOps.nil ?_
    refine AEx.cond rfl (fun hb => ?_) (fun hb => ?_)
    · replace hh := if_t hb hh
      refine AEx.seq ?_
      refine AEx.regionN rfl rfl ?_
      refine AOps.q hC rfl trivial ?_
      refine AOps.nil ?_
      refine AEx.ret ?_
      obtain rfl := Option.some.inj hh
      exact ⟨_, _, [.row [.clo 55 [.ref 3 0]] 88, .row [.d (.int .i64 s)] 3, .row [.clo 98 [.ref 0 0, .ref 1 0, .ref 2 0]] 119, .row [.osl 4 (ApiScalar.rows x1.2)] 36, .tok 43 4], rfl, .rfl, ⟨⟨rfl, .refl _, rfl⟩, ⟨⟨rfl, .refl _, rfl⟩, ⟨⟨rfl, .refl _, rfl⟩, ⟨⟨rfl, .refl _, rfl⟩, ⟨rfl, trivial⟩⟩⟩⟩⟩, rfl, rfl, rfl, rfl⟩
    · replace hh := if_f hb hh
      refine AEx.skip ?_
      refine AEx.seq ?_
      refine AEx.seq ?_
      refine AEx.regionN rfl rfl ?_
      iterate 2 refine AOps.q hC rfl trivial ?_
      refine AOps.nil ?_
      refine AEx.block ?_
      refine AEx.seq ?_
      refine AEx.regionN rfl rfl ?_
      iterate 2 refine AOps.q hC rfl trivial ?_
      refine AOps.nil ?_
      refine AEx.cond rfl (fun hb => ?_) (fun hb => ?_)
      · replace hh := if_t hb hh
        refine AEx.seq ?_
        refine AEx.regionN rfl rfl ?_
        iterate 3 refine AOps.q hC rfl trivial ?_
        refine AOps.nil ?_
        refine AEx.block ?_
        refine AEx.ofLoop ?_
        refine ALoop.wk ?_ (ih2 _ _ _ _ _ _ hh)
        exact ⟨⟨⟨.rfl, rfl⟩, ⟨⟨.rfl, rfl⟩, ⟨⟨.rfl, rfl⟩, ⟨⟨.rfl, rfl⟩, ⟨⟨.rfl, rfl⟩, trivial⟩⟩⟩⟩⟩, ⟨⟨rfl, .refl _, rfl⟩, ⟨⟨rfl, .refl _, rfl⟩, ⟨⟨rfl, .refl _, rfl⟩, ⟨⟨rfl, .refl _, rfl⟩, ⟨rfl, ⟨⟨rfl, .refl _, rfl⟩, trivial⟩⟩⟩⟩⟩⟩, rfl⟩
      · replace hh := if_f hb hh
        refine AEx.seq ?_
        refine AEx.regionN rfl rfl ?_
        iterate 2 refine AOps.q hC rfl trivial ?_
        refine AOps.nil ?_
        refine AEx.cond rfl (fun hb => ?_) (fun hb => ?_)
        · replace hh := if_t hb hh
          refine AEx.seq ?_
          refine AEx.regionN rfl rfl ?_
          iterate 2 refine AOps.q hC rfl trivial ?_
          refine AOps.qe hC rfl trivial (ApiType.lenA _) ?_
          refine AOps.q hC rfl trivial ?_
          refine AOps.nil ?_
          refine AEx.block ?_
          refine AEx.ofLoop ?_
          refine ALoop.wk ?_ (ih1 _ _ _ _ _ _ hh)
          exact ⟨⟨⟨.rfl, rfl⟩, ⟨⟨.rfl, rfl⟩, ⟨⟨.rfl, rfl⟩, ⟨⟨.rfl, rfl⟩, ⟨⟨.rfl, rfl⟩, ⟨⟨.rfl, rfl⟩, trivial⟩⟩⟩⟩⟩⟩, ⟨⟨rfl, .refl _, rfl⟩, ⟨⟨rfl, .refl _, rfl⟩, ⟨⟨rfl, .refl _, rfl⟩, ⟨⟨rfl, .refl _, rfl⟩, ⟨rfl, ⟨⟨rfl, .refl _, rfl⟩, trivial⟩⟩⟩⟩⟩⟩, rfl⟩
        · replace hh := if_f hb hh
          refine AEx.regionN rfl rfl ?_
          iterate 2 refine AOps.q hC rfl trivial ?_
          refine AOps.s hC rfl ?_
          refine AOps.nil ?_
          refine AEx.seq ?_
          refine AEx.regionN rfl rfl ?_
          refine AOps.q hC rfl trivial ?_
          refine AOps.nil ?_
          refine AEx.ret ?_
          obtain rfl := Option.some.inj hh
          exact ⟨_, _, [.row [.clo 55 [.ref 3 0]] 88, .row [.d (.int .i64 (IntKind.i64.wrap (s + 1)))] 3, .row [.clo 98 [.ref 0 0, .ref 1 0, .ref 2 0]] 119, .row [.osl 4 (ApiScalar.rows x1.2)] 36, .tok 43 4], rfl, .rfl, ⟨⟨rfl, .refl _, rfl⟩, ⟨⟨rfl, .refl _, rfl⟩, ⟨⟨rfl, .refl _, rfl⟩, ⟨⟨rfl, .refl _, rfl⟩, ⟨rfl, trivial⟩⟩⟩⟩⟩, rfl, rfl, rfl, rfl⟩
  · intro g0 g1 ih0 ih1 path t o11 o31 v46 res hh
    refine ALoop.unroll ?_
    refine AEx.seq ?_
    refine AEx.regionN rfl rfl ?_
    refine AOps.q hC rfl trivial ?_
    refine AOps.nil ?_
    refine AEx.seq ?_
    refine AEx.cond rfl (fun hb => ?_) (fun hb => ?_)
    · replace hh := if_t hb hh
      refine AEx.skip ?_
      refine AEx.seq ?_
      refine AEx.block ?_
      refine AEx.seq ?_
      refine AEx.regionN rfl rfl ?_
      refine AOps.q hC rfl trivial ?_
      obtain ⟨x4, hx4, hh⟩ := bind_some hh
      refine AOps.i hC rfl (idx_nat hx4) (ApiType.idx hx4) rfl ?_
      refine AOps.q hC rfl trivial ?_
      refine AOps.nf hC rfl ?_
      refine AOps.q hC rfl trivial ?_
      refine AOps.s hC rfl ?_
      refine AOps.nil ?_
      refine AEx.seq ?_
      refine AEx.draw hC 10 rfl rfl rfl ?_
      refine AQ.q hC rfl trivial ?_
      refine AQ.q hC rfl trivial ?_
      obtain ⟨c17, hh⟩ := asrt_some hh
      refine AQ.q hC rfl c17 ?_
      refine AQ.q hC rfl trivial ?_
      refine AQ.q hC rfl trivial ?_
      refine AQ.q hC rfl trivial ?_
      obtain ⟨x5, hx5, hh⟩ := bind_some hh
      refine AQ.i hC rfl (idx_nat hx5) (estr.idx hx5) rfl ?_
      refine AQ.q hC rfl trivial ?_
      obtain ⟨c18, hh⟩ := asrt_some hh
      refine AQ.q hC rfl c18 ?_
      refine AQ.q hC rfl trivial ?_
      refine AQ.nil ?_
      obtain ⟨x7, hx7, hh⟩ := bind_some hh
      refine AOps.g [0, 1, 2, 3, 4] rfl (ih0 _ _ _ _ _ hx7) ⟨.rfl, ⟨.rfl, ⟨.rfl, ⟨.rfl, ⟨.rfl, trivial⟩⟩⟩⟩⟩ rfl ⟨rfl, ⟨rfl, ⟨rfl, ⟨rfl, ⟨rfl, trivial⟩⟩⟩⟩⟩ rfl rfl ?_
      refine AOps.q hC rfl trivial ?_
      refine AOps.nil ?_
      refine AEx.cond rfl (fun hb => ?_) (fun hb => ?_)
      · replace hh := if_t hb hh
        refine AEx.seq ?_
        refine AEx.regionN rfl rfl ?_
        refine AOps.q hC rfl trivial ?_
        refine AOps.nil ?_
        refine AEx.ret ?_
        obtain rfl := Option.some.inj hh
        exact ⟨_, _, [.row [.clo 55 [.ref 3 0]] 88, .row [.d (.int .i64 x7.2.1)] 3, .row [.clo 98 [.ref 0 0, .ref 1 0, .ref 2 0]] 119, .row [.osl 4 (ApiScalar.rows x7.2.2)] 36, .tok 43 4], rfl, .rfl, ⟨⟨rfl, .refl _, rfl⟩, ⟨⟨rfl, .refl _, rfl⟩, ⟨⟨rfl, .refl _, rfl⟩, ⟨⟨rfl, .refl _, rfl⟩, ⟨rfl, trivial⟩⟩⟩⟩⟩, rfl, rfl, rfl, rfl⟩
      · replace hh := if_f hb hh
        refine AEx.skip ?_
        refine AEx.regionN rfl rfl ?_
        iterate 2 refine AOps.q hC rfl trivial ?_
        refine AOps.nil ?_
        refine ALoop.wk ?_ (ih1 _ _ _ _ _ _ hh)
        exact ⟨⟨⟨.rfl, rfl⟩, ⟨⟨.rfl, rfl⟩, ⟨⟨.rfl, rfl⟩, ⟨⟨.rfl, rfl⟩, ⟨⟨.rfl, rfl⟩, ⟨⟨.rfl, rfl⟩, trivial⟩⟩⟩⟩⟩⟩, ⟨⟨rfl, .refl _, rfl⟩, ⟨⟨rfl, .refl _, rfl⟩, ⟨⟨rfl, .refl _, rfl⟩, ⟨⟨rfl, .refl _, rfl⟩, ⟨rfl, ⟨⟨rfl, .refl _, rfl⟩, trivial⟩⟩⟩⟩⟩⟩, rfl⟩
    · replace hh := if_f hb hh
      refine AEx.exit ?_
      refine AEx.seq ?_
      refine AEx.regionN rfl rfl ?_
      refine AOps.q hC rfl trivial ?_
      refine AOps.nil ?_
      refine AEx.ret ?_
      obtain rfl := Option.some.inj hh
      exact ⟨_, _, [.row [.clo 55 [.ref 3 0]] 88, .row [.d (.int .i64 o11)] 3, .row [.clo 98 [.ref 0 0, .ref 1 0, .ref 2 0]] 119, .row [.osl 4 (ApiScalar.rows o31)] 36, .tok 43 4], rfl, .rfl, ⟨⟨rfl, .refl _, rfl⟩, ⟨⟨rfl, .refl _, rfl⟩, ⟨⟨rfl, .refl _, rfl⟩, ⟨⟨rfl, .refl _, rfl⟩, ⟨rfl, trivial⟩⟩⟩⟩⟩, rfl, rfl, rfl, rfl⟩
  · intro g0 g2 ih0 ih2 path t o1 o3 v25 res hh
    refine ALoop.unroll ?_
    refine AEx.seq ?_
    refine AEx.regionN rfl rfl ?_
    refine AOps.q hC rfl trivial ?_
    refine AOps.nil ?_
    refine AEx.seq ?_
    refine AEx.cond rfl (fun hb => ?_) (fun hb => ?_)
    · replace hh := if_t hb hh
      refine AEx.skip ?_
      refine AEx.seq ?_
      refine AEx.block ?_
      refine AEx.seq ?_
      refine AEx.regionN rfl rfl ?_
      iterate 2 refine AOps.q hC rfl trivial ?_
      refine AOps.nil ?_
      refine AEx.seq ?_
      refine AEx.draw hC 10 rfl rfl rfl ?_
      refine AQ.q hC rfl trivial ?_
      refine AQ.q hC rfl trivial ?_
      obtain ⟨c15, hh⟩ := asrt_some hh
      refine AQ.q hC rfl c15 ?_
      refine AQ.q hC rfl trivial ?_
      obtain ⟨x2, hx2, hh⟩ := bind_some hh
      refine AQ.c rfl rfl (X_Itoa_ok hx2) ?_
      obtain ⟨c16, hh⟩ := asrt_some hh
      refine AQ.q hC rfl c16 ?_
      refine AQ.q hC rfl trivial ?_
      refine AQ.q hC rfl trivial ?_
      obtain ⟨x3, hx3, hh⟩ := bind_some hh
      refine AQ.i hC rfl (idx_nat hx3) (ApiType.idx hx3) rfl ?_
      refine AQ.q hC rfl trivial ?_
      refine AQ.nil ?_
      obtain ⟨x6, hx6, hh⟩ := bind_some hh
      refine AOps.g [0, 1, 2, 3, 4] rfl (ih0 _ _ _ _ _ hx6) ⟨.rfl, ⟨.rfl, ⟨.rfl, ⟨.rfl, ⟨.rfl, trivial⟩⟩⟩⟩⟩ rfl ⟨rfl, ⟨rfl, ⟨rfl, ⟨rfl, ⟨rfl, trivial⟩⟩⟩⟩⟩ rfl rfl ?_
      refine AOps.q hC rfl trivial ?_
      refine AOps.nil ?_
      refine AEx.cond rfl (fun hb => ?_) (fun hb => ?_)
      · replace hh := if_t hb hh
        refine AEx.seq ?_
        refine AEx.regionN rfl rfl ?_
        refine AOps.q hC rfl trivial ?_
        refine AOps.nil ?_
        refine AEx.ret ?_
        obtain rfl := Option.some.inj hh
        exact ⟨_, _, [.row [.clo 55 [.ref 3 0]] 88, .row [.d (.int .i64 x6.2.1)] 3, .row [.clo 98 [.ref 0 0, .ref 1 0, .ref 2 0]] 119, .row [.osl 4 (ApiScalar.rows x6.2.2)] 36, .tok 43 4], rfl, .rfl, ⟨⟨rfl, .refl _, rfl⟩, ⟨⟨rfl, .refl _, rfl⟩, ⟨⟨rfl, .refl _, rfl⟩, ⟨⟨rfl, .refl _, rfl⟩, ⟨rfl, trivial⟩⟩⟩⟩⟩, rfl, rfl, rfl, rfl⟩
      · replace hh := if_f hb hh
        refine AEx.skip ?_
        refine AEx.regionN rfl rfl ?_
        iterate 2 refine AOps.q hC rfl trivial ?_
        refine AOps.nil ?_
        refine ALoop.wk ?_ (ih2 _ _ _ _ _ _ hh)
        exact ⟨⟨⟨.rfl, rfl⟩, ⟨⟨.rfl, rfl⟩, ⟨⟨.rfl, rfl⟩, ⟨⟨.rfl, rfl⟩, ⟨⟨.rfl, rfl⟩, trivial⟩⟩⟩⟩⟩, ⟨⟨rfl, .refl _, rfl⟩, ⟨⟨rfl, .refl _, rfl⟩, ⟨⟨rfl, .refl _, rfl⟩, ⟨⟨rfl, .refl _, rfl⟩, ⟨rfl, ⟨⟨rfl, .refl _, rfl⟩, trivial⟩⟩⟩⟩⟩⟩, rfl⟩
    · replace hh := if_f hb hh
      refine AEx.exit ?_
      refine AEx.seq ?_
      refine AEx.regionN rfl rfl ?_
      refine AOps.q hC rfl trivial ?_
      refine AOps.nil ?_
      refine AEx.ret ?_
      obtain rfl := Option.some.inj hh
      exact ⟨_, _, [.row [.clo 55 [.ref 3 0]] 88, .row [.d (.int .i64 o1)] 3, .row [.clo 98 [.ref 0 0, .ref 1 0, .ref 2 0]] 119, .row [.osl 4 (ApiScalar.rows o3)] 36, .tok 43 4], rfl, .rfl, ⟨⟨rfl, .refl _, rfl⟩, ⟨⟨rfl, .refl _, rfl⟩, ⟨⟨rfl, .refl _, rfl⟩, ⟨⟨rfl, .refl _, rfl⟩, ⟨rfl, trivial⟩⟩⟩⟩⟩, rfl, rfl, rfl, rfl⟩
theorem types_each_1_v2_ok {path : Str} {t : ApiType} {s : Int} {s1 : List ApiScalar} {res : Bool × Int × List ApiScalar} (hh : types_each_1_v2 path t s s1 = some res) : ACall C 98 [.d (.str path), .agg (ApiType.cells t), .ref 0 0, .ref 1 0, .ref 2 0] [.row [.clo 55 [.ref 3 0]] 88, .row [.d (.int .i64 s)] 3, .row [.clo 98 [.ref 0 0, .ref 1 0, .ref 2 0]] 119, .row [.osl 4 (ApiScalar.rows s1)] 36, .tok 43 4] (fun x H' => H' = [.row [.clo 55 [.ref 3 0]] 88, .row [.d (.int .i64 res.2.1)] 3, .row [.clo 98 [.ref 0 0, .ref 1 0, .ref 2 0]] 119, .row [.osl 4 (ApiScalar.rows res.2.2)] 36, .tok 43 4] ∧ x = .d (.bool res.1)) := (types_each_1_v2_grp).1 _ _ _ _ _ hh
theorem types_each_1_v2_l2_ok {path : Str} {t : ApiType} {o11 : Int} {o31 : List ApiScalar} {v46 : Int} {res : Bool × Int × List ApiScalar} (hh : types_each_1_v2_l2 path t o11 o31 v46 = some res) : ALoop (Fx.mk C 64 5) (lo (bk (sr (ca (sr (cb (sr (bk (sr (sl (sr (sr (bodyOf Tryd.f98))))))))))))) (mkEnv [(0, .d (.str path)), (4, .ref 2 0), (6, .ref 5 0), (44, .d (.sl (ApiType.rows t.Of))), (45, .d (.int .i64 ((t.Of).length : Int))), (46, .d (.int .i64 v46))]) [.row [.clo 55 [.ref 3 0]] 88, .row [.d (.int .i64 o11)] 3, .row [.clo 98 [.ref 0 0, .ref 1 0, .ref 2 0]] 119, .row [.osl 4 (ApiScalar.rows o31)] 36, .tok 43 4, .row (ApiType.cells t) 27] (Am.InBlock 3 (Am.InBlock 0 (Am.Then (Fx.mk C 64 5) (sr (sr (sr (bodyOf Tryd.f98)))) (Am.Ends (Fx.mk C 64 5) Tryd.f98.results.toList (fun x H' => H' = [.row [.clo 55 [.ref 3 0]] 88, .row [.d (.int .i64 res.2.1)] 3, .row [.clo 98 [.ref 0 0, .ref 1 0, .ref 2 0]] 119, .row [.osl 4 (ApiScalar.rows res.2.2)] 36, .tok 43 4] ∧ x = .d (.bool res.1)))))) := (types_each_1_v2_grp).2.1 _ _ _ _ _ _ hh
theorem types_each_1_v2_l1_ok {path : Str} {t : ApiType} {o1 : Int} {o3 : List ApiScalar} {v25 : Int} {res : Bool × Int × List ApiScalar} (hh : types_each_1_v2_l1 path t o1 o3 v25 = some res) : ALoop (Fx.mk C 64 5) (lo (bk (sr (ca (sr (bk (sr (sl (sr (sr (bodyOf Tryd.f98))))))))))) (mkEnv [(0, .d (.str path)), (4, .ref 2 0), (6, .ref 5 0), (24, .d (.int .i64 t.Size)), (25, .d (.int .i64 v25))]) [.row [.clo 55 [.ref 3 0]] 88, .row [.d (.int .i64 o1)] 3, .row [.clo 98 [.ref 0 0, .ref 1 0, .ref 2 0]] 119, .row [.osl 4 (ApiScalar.rows o3)] 36, .tok 43 4, .row (ApiType.cells t) 27] (Am.InBlock 1 (Am.InBlock 0 (Am.Then (Fx.mk C 64 5) (sr (sr (sr (bodyOf Tryd.f98)))) (Am.Ends (Fx.mk C 64 5) Tryd.f98.results.toList (fun x H' => H' = [.row [.clo 55 [.ref 3 0]] 88, .row [.d (.int .i64 res.2.1)] 3, .row [.clo 98 [.ref 0 0, .ref 1 0, .ref 2 0]] 119, .row [.osl 4 (ApiScalar.rows res.2.2)] 36, .tok 43 4] ∧ x = .d (.bool res.1)))))) := (types_each_1_v2_grp).2.2 _ _ _ _ _ _ hh
def types_each_v2 (t : ApiType) (s : List ApiScalar) : Option (List ApiScalar) :=
  types_each_1_v2 [] t 0 s >>= fun x1 =>
  some x1.2.2
theorem types_each_v2_ok {t : ApiType} {s : List ApiScalar} {res : List ApiScalar} (hh : types_each_v2 t s = some res) : ACall C 54 [.agg (ApiType.cells t), .clo 55 [.ref 0 0]] [.row [.osl 1 (ApiScalar.rows s)] 36, .tok 43 4] (fun x H' => H' = [.row [.osl 1 (ApiScalar.rows res)] 36, .tok 43 4] ∧ x = .tup []) := by
  unfold types_each_v2 at hh
  refine ACall.intro hC Tryd.func54 rfl rfl rfl ?_
  refine AEx.seq ?_
  refine AEx.regionN rfl rfl ?_
  refine AOps.n hC rfl ?_
  refine AOps.n hC rfl ?_
  refine AOps.nil ?_
  refine AEx.seq ?_
  refine AEx.regionN rfl rfl ?_
  refine AOps.n hC rfl ?_
  refine AOps.s hC rfl ?_
  refine AOps.nil ?_
  refine AEx.seq ?_
  refine AEx.regionN rfl rfl ?_
  refine AOps.n hC rfl ?_
  refine AOps.nil ?_
  refine AEx.seq ?_
  refine AEx.regionN rfl rfl ?_
  refine AOps.q hC rfl trivial ?_
  refine AOps.s hC rfl ?_
  refine AOps.nil ?_
  refine AEx.regionN rfl rfl ?_
  iterate 2 refine AOps.q hC rfl trivial ?_
  obtain ⟨x1, hx1, hh⟩ := bind_some hh
  refine AOps.g [3, 4, 5, 0, 1] rfl (types_each_1_v2_ok hx1) ⟨.rfl, ⟨.rfl, ⟨.rfl, ⟨.rfl, ⟨.rfl, trivial⟩⟩⟩⟩⟩ rfl ⟨rfl, ⟨rfl, ⟨rfl, ⟨rfl, ⟨rfl, trivial⟩⟩⟩⟩⟩ rfl rfl ?_
  refine AOps.nil ?_
  obtain rfl := Option.some.inj hh
  exact ⟨_, _, [.row [.osl 1 (ApiScalar.rows x1.2.2)] 36, .tok 43 4], rfl, .rfl, ⟨⟨rfl, .refl _, rfl⟩, ⟨rfl, trivial⟩⟩, rfl, rfl, rfl, rfl⟩
def types_Scalars (t : ApiType) : Option (List ApiScalar × Int) :=
  types_Check t >>= fun x1 =>
  if (x1 != 0) = true then
    some ([], x1)
  else
    types_each_v2 t [] >>= fun x2 =>
    some (x2, 0)
theorem types_Scalars_ok {t : ApiType} {res : List ApiScalar × Int} (hh : types_Scalars t = some res) : ACall C 19 [.agg (ApiType.cells t)] [] (fun x H' => H' = [] ∧ x = .tup [.d (.sl (ApiScalar.rows res.1)), .d (.int .i64 res.2)]) := by
  unfold types_Scalars at hh
  refine ACall.intro hC Tryd.func19 rfl rfl rfl ?_
  refine AEx.seq ?_
  refine AEx.regionN rfl rfl ?_
  refine AOps.n hC rfl ?_
  iterate 2 refine AOps.q hC rfl trivial ?_
  refine AOps.nil ?_
  refine AEx.seq ?_
  refine AEx.seq ?_
  refine AEx.regionN rfl rfl ?_
  refine AOps.q hC rfl trivial ?_
  obtain ⟨x1, hx1, hh⟩ := bind_some hh
  refine AOps.c rfl rfl (types_Check_ok hx1) ?_
  refine AOps.q hC rfl trivial ?_
  refine AOps.nil ?_
  refine AEx.seq ?_
  refine AEx.regionN rfl rfl ?_
  iterate 2 refine AOps.q hC rfl trivial ?_
  refine AOps.nil ?_
  refine AEx.cond rfl (fun hb => ?_) (fun hb => ?_)
  · replace hh := if_t hb hh
    refine AEx.seq ?_
    refine AEx.regionN rfl rfl ?_
    iterate 3 refine AOps.q hC rfl trivial ?_
    refine AOps.nil ?_
    refine AEx.ret ?_
    obtain rfl := Option.some.inj hh
    exact ⟨_, .tup [.d (.sl (ApiScalar.rows [])), .d (.int .i64 x1)], [], rfl, (.tupL ⟨.full, ⟨.rfl, trivial⟩⟩), trivial, rfl, rfl, rfl, rfl⟩
  · replace hh := if_f hb hh
    refine AEx.skip ?_
    refine AEx.seq ?_
    refine AEx.regionN rfl rfl ?_
    refine AOps.nf hC rfl ?_
    refine AOps.tokC 1 0 43 4 rfl rfl rfl rfl rfl ?_
    refine AOps.nil ?_
    refine AEx.seq ?_
    refine AEx.regionN rfl rfl ?_
    iterate 2 refine AOps.q hC rfl trivial ?_
    obtain ⟨x2, hx2, hh⟩ := bind_some hh
    refine AOps.g [1, 2] rfl (types_each_v2_ok hx2) ⟨.rfl, ⟨.rfl, trivial⟩⟩ rfl ⟨rfl, ⟨rfl, trivial⟩⟩ rfl rfl ?_
    refine AOps.nil ?_
    refine AEx.seq ?_
    refine AEx.regionN rfl rfl ?_
    iterate 3 refine AOps.q hC rfl trivial ?_
    refine AOps.nil ?_
    refine AEx.ret ?_
    obtain rfl := Option.some.inj hh
    exact ⟨_, .tup [.d (.sl (ApiScalar.rows x2)), .d (.int .i64 0)], [], rfl, (.tupL ⟨.osl, ⟨.rfl, trivial⟩⟩), trivial, rfl, rfl, rfl, rfl⟩
def types_Values_l1 (n : Int) (x1 : List ApiScalar × Int) (v20 : Int) : Option (Int × Int) :=
  if (decide (v20 < ((x1.1).length : Int))) = true then
    idx x1.1 v20 >>= fun x2 =>
    if (decide ((IntKind.i64.wrap ((IntKind.i64.wrap (x2.High - x2.Low)) + 1)) ≠ 0)) = true then
      if (decide (n > (IntKind.i64.wrap (Int.tdiv 1099511627776 (IntKind.i64.wrap ((IntKind.i64.wrap (x2.High - x2.Low)) + 1)))))) = true then
        some (0, 4)
      else
        types_Values_l1 (IntKind.i64.wrap (n * (IntKind.i64.wrap ((IntKind.i64.wrap (x2.High - x2.Low)) + 1)))) x1 (IntKind.i64.wrap (v20 + 1))
    else none
  else
    some (n, 0)
  partial_fixpoint
theorem types_Values_l1_grp (x1 : List ApiScalar × Int) : (∀ (n : Int) (v20 : Int) (res : Int × Int), types_Values_l1 n x1 v20 = some res → ALoop (Fx.mk C 39 0) (lo (bk (sr (sl (sr (sr (sr (sr (bodyOf Tryd.f21))))))))) (mkEnv [(6, .d (.int .i64 n)), (18, .d (.sl (ApiScalar.rows x1.1))), (19, .d (.int .i64 ((x1.1).length : Int))), (20, .d (.int .i64 v20))]) [] (Am.InBlock 0 (Am.Then (Fx.mk C 39 0) (sr (sr (sr (sr (sr (bodyOf Tryd.f21)))))) (Am.Ends (Fx.mk C 39 0) Tryd.f21.results.toList (fun x H' => H' = [] ∧ x = .tup [.d (.int .i64 res.1), .d (.int .i64 res.2)]))))) := by
  refine types_Values_l1.partial_correctness x1
    (fun n v20 res => ALoop (Fx.mk C 39 0) (lo (bk (sr (sl (sr (sr (sr (sr (bodyOf Tryd.f21))))))))) (mkEnv [(6, .d (.int .i64 n)), (18, .d (.sl (ApiScalar.rows x1.1))), (19, .d (.int .i64 ((x1.1).length : Int))), (20, .d (.int .i64 v20))]) [] (Am.InBlock 0 (Am.Then (Fx.mk C 39 0) (sr (sr (sr (sr (sr (bodyOf Tryd.f21)))))) (Am.Ends (Fx.mk C 39 0) Tryd.f21.results.toList (fun x H' => H' = [] ∧ x = .tup [.d (.int .i64 res.1), .d (.int .i64 res.2)]))))) ?_
  · intro g0 ih0 n v20 res hh
    refine ALoop.unroll ?_
    refine AEx.seq ?_
    refine AEx.regionN rfl rfl ?_
    refine AOps.q hC rfl trivial ?_
    refine AOps.nil ?_
    refine AEx.seq ?_
    refine AEx.cond rfl (fun hb => ?_) (fun hb => ?_)
    · replace hh := if_t hb hh
      refine AEx.skip ?_
      refine AEx.seq ?_
      refine AEx.block ?_
      refine AEx.seq ?_
      refine AEx.regionN rfl rfl ?_
      obtain ⟨x2, hx2, hh⟩ := bind_some hh
      refine AOps.i hC rfl (idx_nat hx2) (ApiScalar.idx hx2) rfl ?_
      refine AOps.q hC rfl trivial ?_
      refine AOps.n hC rfl ?_
      refine AOps.s hC rfl ?_
      refine AOps.nil ?_
      refine AEx.seq ?_
      refine AEx.regionN rfl rfl ?_
      iterate 7 refine AOps.q hC rfl trivial ?_
      refine AOps.nil ?_
      refine AEx.seq ?_
      refine AEx.seq ?_
      refine AEx.regionN rfl rfl ?_
      iterate 2 refine AOps.q hC rfl trivial ?_
      obtain ⟨c4, hh⟩ := asrt_some hh
      refine AOps.q hC rfl c4 ?_
      refine AOps.q hC rfl trivial ?_
      refine AOps.nil ?_
      refine AEx.cond rfl (fun hb => ?_) (fun hb => ?_)
      · replace hh := if_t hb hh
        refine AEx.seq ?_
        refine AEx.regionN rfl rfl ?_
        iterate 2 refine AOps.q hC rfl trivial ?_
        refine AOps.nil ?_
        refine AEx.ret ?_
        obtain rfl := Option.some.inj hh
        exact ⟨_, _, [], rfl, .rfl, trivial, rfl, rfl, rfl, rfl⟩
      · replace hh := if_f hb hh
        refine AEx.skip ?_
        refine AEx.regionN rfl rfl ?_
        iterate 4 refine AOps.q hC rfl trivial ?_
        refine AOps.nil ?_
        refine AEx.regionN rfl rfl ?_
        iterate 2 refine AOps.q hC rfl trivial ?_
        refine AOps.nil ?_
        refine ALoop.wk ?_ (ih0 _ _ _ hh)
        exact ⟨⟨⟨.rfl, rfl⟩, ⟨⟨.rfl, rfl⟩, ⟨⟨.rfl, rfl⟩, ⟨⟨.rfl, rfl⟩, trivial⟩⟩⟩⟩, trivial, rfl⟩
    · replace hh := if_f hb hh
      refine AEx.exit ?_
      refine AEx.seq ?_
      refine AEx.regionN rfl rfl ?_
      iterate 3 refine AOps.q hC rfl trivial ?_
      refine AOps.nil ?_
      refine AEx.ret ?_
      obtain rfl := Option.some.inj hh
      exact ⟨_, _, [], rfl, .rfl, trivial, rfl, rfl, rfl, rfl⟩
theorem types_Values_l1_ok {n : Int} {x1 : List ApiScalar × Int} {v20 : Int} {res : Int × Int} (hh : types_Values_l1 n x1 v20 = some res) : ALoop (Fx.mk C 39 0) (lo (bk (sr (sl (sr (sr (sr (sr (bodyOf Tryd.f21))))))))) (mkEnv [(6, .d (.int .i64 n)), (18, .d (.sl (ApiScalar.rows x1.1))), (19, .d (.int .i64 ((x1.1).length : Int))), (20, .d (.int .i64 v20))]) [] (Am.InBlock 0 (Am.Then (Fx.mk C 39 0) (sr (sr (sr (sr (sr (bodyOf Tryd.f21)))))) (Am.Ends (Fx.mk C 39 0) Tryd.f21.results.toList (fun x H' => H' = [] ∧ x = .tup [.d (.int .i64 res.1), .d (.int .i64 res.2)])))) := (types_Values_l1_grp x1) _ _ _ hh
def types_Values (t : ApiType) : Option (Int × Int) :=
  types_Scalars t >>= fun x1 =>
  if (x1.2 != 0) = true then
    some (0, x1.2)
  else
    types_Values_l1 1 x1 0
theorem types_Values_ok {t : ApiType} {res : Int × Int} (hh : types_Values t = some res) : ACall C 21 [.agg (ApiType.cells t)] [] (fun x H' => H' = [] ∧ x = .tup [.d (.int .i64 res.1), .d (.int .i64 res.2)]) := by
  unfold types_Values at hh
  refine ACall.intro hC Tryd.func21 rfl rfl rfl ?_
  refine AEx.seq ?_
  refine AEx.regionN rfl rfl ?_
  refine AOps.n hC rfl ?_
  iterate 2 refine AOps.q hC rfl trivial ?_
  refine AOps.nil ?_
  refine AEx.seq ?_
  refine AEx.regionN rfl rfl ?_
  refine AOps.q hC rfl trivial ?_
  obtain ⟨x1, hx1, hh⟩ := bind_some hh
  refine AOps.c rfl rfl (types_Scalars_ok hx1) ?_
  iterate 5 refine AOps.q hC rfl trivial ?_
  refine AOps.nil ?_
  refine AEx.seq ?_
  refine AEx.seq ?_
  refine AEx.regionN rfl rfl ?_
  iterate 2 refine AOps.q hC rfl trivial ?_
  refine AOps.nil ?_
  refine AEx.cond rfl (fun hb => ?_) (fun hb => ?_)
  · replace hh := if_t hb hh
    refine AEx.seq ?_
    refine AEx.regionN rfl rfl ?_
    iterate 3 refine AOps.q hC rfl trivial ?_
    refine AOps.nil ?_
    refine AEx.ret ?_
    obtain rfl := Option.some.inj hh
    exact ⟨_, _, [], rfl, .rfl, trivial, rfl, rfl, rfl, rfl⟩
  · replace hh := if_f hb hh
    refine AEx.skip ?_
    refine AEx.seq ?_
    refine AEx.regionN rfl rfl ?_
    refine AOps.q hC rfl trivial ?_
    refine AOps.nil ?_
    refine AEx.seq ?_
    refine AEx.seq ?_
    refine AEx.regionN rfl rfl ?_
    refine AOps.q hC rfl trivial ?_
    refine AOps.qe hC rfl trivial (ApiScalar.lenA _) ?_
    refine AOps.q hC rfl trivial ?_
    refine AOps.nil ?_
    refine AEx.block ?_
    refine AEx.ofLoop ?_
    refine ALoop.wk ?_ (types_Values_l1_ok hh)
    exact ⟨⟨⟨.rfl, rfl⟩, ⟨⟨.rfl, rfl⟩, ⟨⟨.rfl, rfl⟩, ⟨⟨.rfl, rfl⟩, trivial⟩⟩⟩⟩, trivial, rfl⟩
def types_Clamp_l1 (list : List Int) (a1 : List Int) (x1 : List ApiScalar × Int) (v29 : Int) : Option (List Int × Int) :=
  if (decide (v29 < ((x1.1).length : Int))) = true then
    idx x1.1 v29 >>= fun x2 =>
    idx list v29 >>= fun x3 =>
    if (decide (0 ≤ v29 ∧ v29 < (((list).length : Int).toNat : Int))) = true then
      if (decide (v29.toNat < a1.length)) = true then
        types_Clamp_l1 list (a1.set v29.toNat (min (max x3 x2.Low) x2.High)) x1 (IntKind.i64.wrap (v29 + 1))
      else none
    else none
  else
    if (decide (a1.length = ((list).length : Int).toNat)) = true then
      some (a1, 0)
    else none
  partial_fixpoint
theorem types_Clamp_l1_grp (list : List Int) (x1 : List ApiScalar × Int) : (∀ (a1 : List Int) (v29 : Int) (res : List Int × Int), types_Clamp_l1 list a1 x1 v29 = some res → ALoop (Fx.mk C 49 0) (lo (bk (sr (sl (sr (sr (sr (sr (sr (bodyOf Tryd.f25)))))))))) (mkEnv [(1, .d (.sl (ei64.rows list))), (8, .rsl 1 0 ((list).length : Int).toNat ((list).length : Int).toNat), (27, .d (.sl (ApiScalar.rows x1.1))), (28, .d (.int .i64 ((x1.1).length : Int))), (29, .d (.int .i64 v29))]) [.dead, .row (ei64.cells a1) 3] (Am.InBlock 0 (Am.Then (Fx.mk C 49 0) (sr (sr (sr (sr (sr (sr (bodyOf Tryd.f25))))))) (Am.Ends (Fx.mk C 49 0) Tryd.f25.results.toList (fun x H' => H' = [] ∧ x = .tup [.d (.sl (ei64.rows res.1)), .d (.int .i64 res.2)]))))) := by
  refine types_Clamp_l1.partial_correctness list
    x1
    (fun a1 v29 res => ALoop (Fx.mk C 49 0) (lo (bk (sr (sl (sr (sr (sr (sr (sr (bodyOf Tryd.f25)))))))))) (mkEnv [(1, .d (.sl (ei64.rows list))), (8, .rsl 1 0 ((list).length : Int).toNat ((list).length : Int).toNat), (27, .d (.sl (ApiScalar.rows x1.1))), (28, .d (.int .i64 ((x1.1).length : Int))), (29, .d (.int .i64 v29))]) [.dead, .row (ei64.cells a1) 3] (Am.InBlock 0 (Am.Then (Fx.mk C 49 0) (sr (sr (sr (sr (sr (sr (bodyOf Tryd.f25))))))) (Am.Ends (Fx.mk C 49 0) Tryd.f25.results.toList (fun x H' => H' = [] ∧ x = .tup [.d (.sl (ei64.rows res.1)), .d (.int .i64 res.2)]))))) ?_
  · intro g0 ih0 a1 v29 res hh
    refine ALoop.unroll ?_
    refine AEx.seq ?_
    refine AEx.regionN rfl rfl ?_
    refine AOps.q hC rfl trivial ?_
    refine AOps.nil ?_
    refine AEx.seq ?_
    refine AEx.cond rfl (fun hb => ?_) (fun hb => ?_)
    · replace hh := if_t hb hh
      refine AEx.skip ?_
      refine AEx.seq ?_
      refine AEx.block ?_
      refine AEx.seq ?_
      refine AEx.regionN rfl rfl ?_
      refine AOps.q hC rfl trivial ?_
      obtain ⟨x2, hx2, hh⟩ := bind_some hh
      refine AOps.i hC rfl (idx_nat hx2) (ApiScalar.idx hx2) rfl ?_
      refine AOps.q hC rfl trivial ?_
      refine AOps.n hC rfl ?_
      refine AOps.q hC rfl trivial ?_
      refine AOps.s hC rfl ?_
      refine AOps.nil ?_
      refine AEx.draw hC 13 rfl rfl rfl ?_
      refine AQ.q hC rfl trivial ?_
      refine AQ.q hC rfl trivial ?_
      refine AQ.q hC rfl trivial ?_
      refine AQ.q hC rfl trivial ?_
      obtain ⟨x3, hx3, hh⟩ := bind_some hh
      refine AQ.i hC rfl (idx_nat hx3) (ei64.idx hx3) rfl ?_
      refine AQ.q hC rfl trivial ?_
      refine AQ.q hC rfl trivial ?_
      refine AQ.q hC rfl trivial ?_
      refine AQ.q hC rfl trivial ?_
      refine AQ.q hC rfl trivial ?_
      refine AQ.q hC rfl trivial ?_
      refine AQ.q hC rfl trivial ?_
      obtain ⟨c13, hh⟩ := asrt_some hh
      refine AQ.q hC rfl c13 ?_
      refine AQ.nil ?_
      obtain ⟨c14, hh⟩ := asrt_some hh
      refine AOps.sx hC rfl (cells_lt c14) (cells_set c14) rfl ?_
      refine AOps.nil ?_
      refine AEx.regionN rfl rfl ?_
      iterate 2 refine AOps.q hC rfl trivial ?_
      refine AOps.nil ?_
      refine ALoop.wk ?_ (ih0 _ _ _ hh)
      exact ⟨⟨⟨.rfl, rfl⟩, ⟨⟨.rfl, rfl⟩, ⟨⟨.rfl, rfl⟩, ⟨⟨.rfl, rfl⟩, ⟨⟨.rfl, rfl⟩, trivial⟩⟩⟩⟩⟩, ⟨trivial, ⟨⟨rfl, .refl _, names_map _ _ _⟩, trivial⟩⟩, rfl⟩
    · replace hh := if_f hb hh
      refine AEx.exit ?_
      refine AEx.seq ?_
      refine AEx.regionN rfl rfl ?_
      iterate 3 refine AOps.q hC rfl trivial ?_
      refine AOps.nil ?_
      obtain ⟨c15, hh⟩ := asrt_some hh
      refine AEx.fz 4 1 (f := ei64.leaf) rfl rfl c15 rfl ?_
      refine AEx.ret ?_
      obtain rfl := Option.some.inj hh
      exact ⟨_, _, [], rfl, .rfl, trivial, rfl, rfl, rfl, rfl⟩
theorem types_Clamp_l1_ok {list : List Int} {a1 : List Int} {x1 : List ApiScalar × Int} {v29 : Int} {res : List Int × Int} (hh : types_Clamp_l1 list a1 x1 v29 = some res) : ALoop (Fx.mk C 49 0) (lo (bk (sr (sl (sr (sr (sr (sr (sr (bodyOf Tryd.f25)))))))))) (mkEnv [(1, .d (.sl (ei64.rows list))), (8, .rsl 1 0 ((list).length : Int).toNat ((list).length : Int).toNat), (27, .d (.sl (ApiScalar.rows x1.1))), (28, .d (.int .i64 ((x1.1).length : Int))), (29, .d (.int .i64 v29))]) [.dead, .row (ei64.cells a1) 3] (Am.InBlock 0 (Am.Then (Fx.mk C 49 0) (sr (sr (sr (sr (sr (sr (bodyOf Tryd.f25))))))) (Am.Ends (Fx.mk C 49 0) Tryd.f25.results.toList (fun x H' => H' = [] ∧ x = .tup [.d (.sl (ei64.rows res.1)), .d (.int .i64 res.2)])))) := (types_Clamp_l1_grp list x1) _ _ _ hh
def types_Clamp (t : ApiType) (list : List Int) : Option (List Int × Int) :=
  types_Scalars t >>= fun x1 =>
  if (x1.2 != 0) = true then
    some ([], x1.2)
  else
    if (((x1.1).length : Int) != ((list).length : Int)) = true then
      some ([], 2)
    else
      if (decide (0 ≤ ((list).length : Int) ∧ ((list).length : Int).toNat * 8 ≤ 140737488355328)) = true then
        types_Clamp_l1 list (List.replicate ((list).length : Int).toNat 0) x1 0
      else none
theorem types_Clamp_ok {t : ApiType} {list : List Int} {res : List Int × Int} (hh : types_Clamp t list = some res) : ACall C 25 [.agg (ApiType.cells t), .d (.sl (ei64.rows list))] [] (fun x H' => H' = [] ∧ x = .tup [.d (.sl (ei64.rows res.1)), .d (.int .i64 res.2)]) := by
  unfold types_Clamp at hh
  refine ACall.intro hC Tryd.func25 rfl rfl rfl ?_
  refine AEx.seq ?_
  refine AEx.regionN rfl rfl ?_
  refine AOps.n hC rfl ?_
  iterate 2 refine AOps.q hC rfl trivial ?_
  refine AOps.nil ?_
  refine AEx.seq ?_
  refine AEx.regionN rfl rfl ?_
  refine AOps.q hC rfl trivial ?_
  obtain ⟨x1, hx1, hh⟩ := bind_some hh
  refine AOps.c rfl rfl (types_Scalars_ok hx1) ?_
  iterate 5 refine AOps.q hC rfl trivial ?_
  refine AOps.nil ?_
  refine AEx.seq ?_
  refine AEx.seq ?_
  refine AEx.regionN rfl rfl ?_
  iterate 2 refine AOps.q hC rfl trivial ?_
  refine AOps.nil ?_
  refine AEx.cond rfl (fun hb => ?_) (fun hb => ?_)
  · replace hh := if_t hb hh
    refine AEx.seq ?_
    refine AEx.regionN rfl rfl ?_
    iterate 3 refine AOps.q hC rfl trivial ?_
    refine AOps.nil ?_
    refine AEx.ret ?_
    obtain rfl := Option.some.inj hh
    exact ⟨_, .tup [.d (.sl (ei64.rows [])), .d (.int .i64 x1.2)], [], rfl, (.tupL ⟨.full, ⟨.rfl, trivial⟩⟩), trivial, rfl, rfl, rfl, rfl⟩
  · replace hh := if_f hb hh
    refine AEx.skip ?_
    refine AEx.seq ?_
    refine AEx.seq ?_
    refine AEx.regionN rfl rfl ?_
    refine AOps.q hC rfl trivial ?_
    refine AOps.qe hC rfl trivial (ApiScalar.lenA _) ?_
    refine AOps.q hC rfl trivial ?_
    refine AOps.qe hC rfl trivial (ei64.lenA _) ?_
    refine AOps.q hC rfl trivial ?_
    refine AOps.nil ?_
    refine AEx.cond rfl (fun hb => ?_) (fun hb => ?_)
    · replace hh := if_t hb hh
      refine AEx.seq ?_
      refine AEx.regionN rfl rfl ?_
      iterate 2 refine AOps.q hC rfl trivial ?_
      refine AOps.nil ?_
      refine AEx.ret ?_
      obtain rfl := Option.some.inj hh
      exact ⟨_, .tup [.d (.sl (ei64.rows [])), .d (.int .i64 2)], [], rfl, (.tupL ⟨.full, ⟨.rfl, trivial⟩⟩), trivial, rfl, rfl, rfl, rfl⟩
    · replace hh := if_f hb hh
      refine AEx.skip ?_
      refine AEx.seq ?_
      refine AEx.regionN rfl rfl ?_
      refine AOps.q hC rfl trivial ?_
      refine AOps.qe hC rfl trivial (ei64.lenA _) ?_
      obtain ⟨c12, hh⟩ := asrt_some hh
      refine AOps.mk hC rfl rfl c12 (cs := ei64.cells _) (cells_rep _ _ ei64.zero) rfl ?_
      refine AOps.q hC rfl trivial ?_
      refine AOps.nil ?_
      refine AEx.seq ?_
      refine AEx.seq ?_
      refine AEx.regionN rfl rfl ?_
      refine AOps.q hC rfl trivial ?_
      refine AOps.qe hC rfl trivial (ApiScalar.lenA _) ?_
      refine AOps.q hC rfl trivial ?_
      refine AOps.nil ?_
      refine AEx.block ?_
      refine AEx.ofLoop ?_
      refine ALoop.wk ?_ (types_Clamp_l1_ok hh)
      exact ⟨⟨⟨.rfl, rfl⟩, ⟨⟨.rfl, rfl⟩, ⟨⟨.rfl, rfl⟩, ⟨⟨.rfl, rfl⟩, ⟨⟨.rfl, rfl⟩, trivial⟩⟩⟩⟩⟩, ⟨trivial, ⟨⟨rfl, .refl _, names_map _ _ _⟩, trivial⟩⟩, rfl⟩
def slices_Equal_int_int_l1 (s1 : List Int) (s2 : List Int) (v13 : Int) : Option Bool :=
  if (decide (v13 < ((s1).length : Int))) = true then
    idx s1 v13 >>= fun x1 =>
    idx s2 v13 >>= fun x2 =>
    if (x1 != x2) = true then
      some false
    else
      slices_Equal_int_int_l1 s1 s2 (IntKind.i64.wrap (v13 + 1))
  else
    some true
  partial_fixpoint
theorem slices_Equal_int_int_l1_grp (s1 : List Int) (s2 : List Int) : (∀ (v13 : Int) (res : Bool), slices_Equal_int_int_l1 s1 s2 v13 = some res → ALoop (Fx.mk C 26 0) (lo (bk (sr (sl (sr (sr (bodyOf Tryd.f29))))))) (mkEnv [(0, .d (.sl (ei64.rows s1))), (1, .d (.sl (ei64.rows s2))), (12, .d (.int .i64 ((s1).length : Int))), (13, .d (.int .i64 v13))]) [] (Am.InBlock 0 (Am.Then (Fx.mk C 26 0) (sr (sr (sr (bodyOf Tryd.f29)))) (Am.Ends (Fx.mk C 26 0) Tryd.f29.results.toList (fun x H' => H' = [] ∧ x = .d (.bool res)))))) := by
  refine slices_Equal_int_int_l1.partial_correctness s1
    s2
    (fun v13 res => ALoop (Fx.mk C 26 0) (lo (bk (sr (sl (sr (sr (bodyOf Tryd.f29))))))) (mkEnv [(0, .d (.sl (ei64.rows s1))), (1, .d (.sl (ei64.rows s2))), (12, .d (.int .i64 ((s1).length : Int))), (13, .d (.int .i64 v13))]) [] (Am.InBlock 0 (Am.Then (Fx.mk C 26 0) (sr (sr (sr (bodyOf Tryd.f29)))) (Am.Ends (Fx.mk C 26 0) Tryd.f29.results.toList (fun x H' => H' = [] ∧ x = .d (.bool res)))))) ?_
  · intro g0 ih0 v13 res hh
    refine ALoop.unroll ?_
    refine AEx.seq ?_
    refine AEx.regionN rfl rfl ?_
    refine AOps.q hC rfl trivial ?_
    refine AOps.nil ?_
    refine AEx.seq ?_
    refine AEx.cond rfl (fun hb => ?_) (fun hb => ?_)
    · replace hh := if_t hb hh
      refine AEx.skip ?_
      refine AEx.seq ?_
      refine AEx.block ?_
      refine AEx.seq ?_
      refine AEx.regionN rfl rfl ?_
      iterate 2 refine AOps.q hC rfl trivial ?_
      refine AOps.nil ?_
      refine AEx.seq ?_
      refine AEx.draw hC 9 rfl rfl rfl ?_
      refine AQ.q hC rfl trivial ?_
      refine AQ.q hC rfl trivial ?_
      obtain ⟨x1, hx1, hh⟩ := bind_some hh
      refine AQ.i hC rfl (idx_nat hx1) (ei64.idx hx1) rfl ?_
      refine AQ.q hC rfl trivial ?_
      refine AQ.q hC rfl trivial ?_
      refine AQ.q hC rfl trivial ?_
      obtain ⟨x2, hx2, hh⟩ := bind_some hh
      refine AQ.i hC rfl (idx_nat hx2) (ei64.idx hx2) rfl ?_
      refine AQ.q hC rfl trivial ?_
      refine AQ.q hC rfl trivial ?_
      refine AQ.nil ?_
      refine AOps.nil ?_
      refine AEx.cond rfl (fun hb => ?_) (fun hb => ?_)
      · replace hh := if_t hb hh
        refine AEx.seq ?_
        refine AEx.regionN rfl rfl ?_
        refine AOps.q hC rfl trivial ?_
        refine AOps.nil ?_
        refine AEx.ret ?_
        obtain rfl := Option.some.inj hh
        exact ⟨_, _, [], rfl, .rfl, trivial, rfl, rfl, rfl, rfl⟩
      · replace hh := if_f hb hh
        refine AEx.skip ?_
        refine AEx.regionN rfl rfl ?_
        iterate 2 refine AOps.q hC rfl trivial ?_
        refine AOps.nil ?_
        refine ALoop.wk ?_ (ih0 _ _ hh)
        exact ⟨⟨⟨.rfl, rfl⟩, ⟨⟨.rfl, rfl⟩, ⟨⟨.rfl, rfl⟩, ⟨⟨.rfl, rfl⟩, trivial⟩⟩⟩⟩, trivial, rfl⟩
    · replace hh := if_f hb hh
      refine AEx.exit ?_
      refine AEx.seq ?_
      refine AEx.regionN rfl rfl ?_
      refine AOps.q hC rfl trivial ?_
      refine AOps.nil ?_
      refine AEx.ret ?_
      obtain rfl := Option.some.inj hh
      exact ⟨_, _, [], rfl, .rfl, trivial, rfl, rfl, rfl, rfl⟩
theorem slices_Equal_int_int_l1_ok {s1 : List Int} {s2 : List Int} {v13 : Int} {res : Bool} (hh : slices_Equal_int_int_l1 s1 s2 v13 = some res) : ALoop (Fx.mk C 26 0) (lo (bk (sr (sl (sr (sr (bodyOf Tryd.f29))))))) (mkEnv [(0, .d (.sl (ei64.rows s1))), (1, .d (.sl (ei64.rows s2))), (12, .d (.int .i64 ((s1).length : Int))), (13, .d (.int .i64 v13))]) [] (Am.InBlock 0 (Am.Then (Fx.mk C 26 0) (sr (sr (sr (bodyOf Tryd.f29)))) (Am.Ends (Fx.mk C 26 0) Tryd.f29.results.toList (fun x H' => H' = [] ∧ x = .d (.bool res))))) := (slices_Equal_int_int_l1_grp s1 s2) _ _ hh
end Go.Proofs.YtonilfkaecbjnaaDoor
