/- What the functions compute, and that they do: printed by gen.py. -/
import Derived.Test.YtonilfkaecbjnaaDoorDg3
set_option maxRecDepth 100000
set_option maxHeartbeats 4000000
set_option linter.unusedVariables false
namespace Go.Proofs.YtonilfkaecbjnaaDoor
open Go.Am
def slices_Equal_string_string (s1 : List Str) (s2 : List Str) : Option Bool :=
  if (((s1).length : Int) != ((s2).length : Int)) = true then
    some false
  else
    slices_Equal_string_string_l1 s1 s2 0
theorem slices_Equal_string_string_ok {s1 : List Str} {s2 : List Str} {res : Bool} (hh : slices_Equal_string_string s1 s2 = some res) : ACall C 64 [.d (.sl (estr.rows s1)), .d (.sl (estr.rows s2))] [] (fun x H' => H' = [] ∧ x = .d (.bool res)) := by
  unfold slices_Equal_string_string at hh
  refine ACall.intro hC Tryd.func64 rfl rfl rfl ?_
  refine AEx.seq ?_
  refine AEx.regionN rfl rfl ?_
  refine AOps.q hC rfl trivial ?_
  refine AOps.nil ?_
  refine AEx.seq ?_
  refine AEx.seq ?_
  refine AEx.regionN rfl rfl ?_
  refine AOps.q hC rfl trivial ?_
  refine AOps.qe hC rfl trivial (estr.lenA _) ?_
  refine AOps.q hC rfl trivial ?_
  refine AOps.qe hC rfl trivial (estr.lenA _) ?_
  refine AOps.q hC rfl trivial ?_
  refine AOps.nil ?_
  refine AEx.cond rfl (fun hb => ?_) (fun hb => ?_)
  · replace hh := if_t hb hh
    refine AEx.seq ?_
    refine AEx.regionN rfl rfl ?_
    refine AOps.q hC rfl trivial ?_
    refine AOps.nil ?_
    refine AEx.ret ?_
    obtain rfl := Option.some.inj hh
    exact ⟨_, _, [], rfl, .rfl, trivial, rfl, rfl, rfl, rfl⟩
  · replace hh := if_f hb hh
    refine AEx.skip ?_
    refine AEx.seq ?_
    refine AEx.seq ?_
    refine AEx.regionN rfl rfl ?_
    refine AOps.q hC rfl trivial ?_
    refine AOps.qe hC rfl trivial (estr.lenA _) ?_
    refine AOps.q hC rfl trivial ?_
    refine AOps.nil ?_
    refine AEx.block ?_
    refine AEx.ofLoop ?_
    refine ALoop.wk ?_ (slices_Equal_string_string_l1_ok hh)
    exact ⟨⟨⟨.rfl, rfl⟩, ⟨⟨.rfl, rfl⟩, ⟨⟨.rfl, rfl⟩, ⟨⟨.rfl, rfl⟩, trivial⟩⟩⟩⟩, trivial, rfl⟩
mutual
def types_Equal (a : ApiType) (b : ApiType) : Option Bool :=
  (if (bif (bif (bif (bif (a.Kind == b.Kind) then (a.Low == b.Low) else false) then (a.High == b.High) else false) then (a.Size == b.Size) else false) then (a.Name == b.Name) else false) = true then slices_Equal_string_string a.Names b.Names else some default) >>= fun x1 =>
  (if (bif (bif (bif (bif (bif (a.Kind == b.Kind) then (a.Low == b.Low) else false) then (a.High == b.High) else false) then (a.Size == b.Size) else false) then (a.Name == b.Name) else false) then x1 else false) = true then slices_EqualFunc_api_Type_api_Type_api_Type_api_Type a.Of b.Of else some default) >>= fun x2 =>
  some (bif (bif (bif (bif (bif (bif (a.Kind == b.Kind) then (a.Low == b.Low) else false) then (a.High == b.High) else false) then (a.Size == b.Size) else false) then (a.Name == b.Name) else false) then x1 else false) then x2 else false)
  partial_fixpoint
def slices_EqualFunc_api_Type_api_Type_api_Type_api_Type (s1 : List ApiType) (s2 : List ApiType) : Option Bool :=
  if (((s1).length : Int) != ((s2).length : Int)) = true then
    some false
  else
    slices_EqualFunc_api_Type_api_Type_api_Type_api_Type_l1 s1 s2 0
  partial_fixpoint
def slices_EqualFunc_api_Type_api_Type_api_Type_api_Type_l1 (s1 : List ApiType) (s2 : List ApiType) (v17 : Int) : Option Bool :=
  if (decide (v17 < ((s1).length : Int))) = true then
    idx s1 v17 >>= fun x1 =>
    idx s2 v17 >>= fun x2 =>
    types_Equal x1 x2 >>= fun x3 =>
    if (!x3) = true then
      some false
    else
      slices_EqualFunc_api_Type_api_Type_api_Type_api_Type_l1 s1 s2 (IntKind.i64.wrap (v17 + 1))
  else
    some true
  partial_fixpoint
end
theorem types_Equal_grp : (∀ (a : ApiType) (b : ApiType) (res : Bool), types_Equal a b = some res → ACall C 31 [.agg (ApiType.cells a), .agg (ApiType.cells b)] [] (fun x H' => H' = [] ∧ x = .d (.bool res))) ∧
    (∀ (s1 : List ApiType) (s2 : List ApiType) (res : Bool), slices_EqualFunc_api_Type_api_Type_api_Type_api_Type s1 s2 = some res → ACall C 65 [.d (.sl (ApiType.rows s1)), .d (.sl (ApiType.rows s2)), .clo 31 []] [] (fun x H' => H' = [] ∧ x = .d (.bool res))) ∧
    (∀ (s1 : List ApiType) (s2 : List ApiType) (v17 : Int) (res : Bool), slices_EqualFunc_api_Type_api_Type_api_Type_api_Type_l1 s1 s2 v17 = some res → ALoop (Fx.mk C 32 0) (lo (bk (sr (sl (sr (sr (bodyOf Tryd.f65))))))) (mkEnv [(1, .d (.sl (ApiType.rows s2))), (2, .clo 31 []), (15, .d (.sl (ApiType.rows s1))), (16, .d (.int .i64 ((s1).length : Int))), (17, .d (.int .i64 v17))]) [] (Am.InBlock 0 (Am.Then (Fx.mk C 32 0) (sr (sr (sr (bodyOf Tryd.f65)))) (Am.Ends (Fx.mk C 32 0) Tryd.f65.results.toList (fun x H' => H' = [] ∧ x = .d (.bool res)))))) := by
  refine types_Equal.mutual_partial_correctness (fun a b res => ACall C 31 [.agg (ApiType.cells a), .agg (ApiType.cells b)] [] (fun x H' => H' = [] ∧ x = .d (.bool res)))
    (fun s1 s2 res => ACall C 65 [.d (.sl (ApiType.rows s1)), .d (.sl (ApiType.rows s2)), .clo 31 []] [] (fun x H' => H' = [] ∧ x = .d (.bool res)))
    (fun s1 s2 v17 res => ALoop (Fx.mk C 32 0) (lo (bk (sr (sl (sr (sr (bodyOf Tryd.f65))))))) (mkEnv [(1, .d (.sl (ApiType.rows s2))), (2, .clo 31 []), (15, .d (.sl (ApiType.rows s1))), (16, .d (.int .i64 ((s1).length : Int))), (17, .d (.int .i64 v17))]) [] (Am.InBlock 0 (Am.Then (Fx.mk C 32 0) (sr (sr (sr (bodyOf Tryd.f65)))) (Am.Ends (Fx.mk C 32 0) Tryd.f65.results.toList (fun x H' => H' = [] ∧ x = .d (.bool res)))))) ?_ ?_ ?_
  · intro g1 ih1 a b res hh
    refine ACall.intro hC Tryd.func31 rfl rfl rfl ?_
    refine AEx.seq ?_
    refine AEx.regionN rfl rfl ?_
    refine AOps.n hC rfl ?_
    refine AOps.n hC rfl ?_
    refine AOps.q hC rfl trivial ?_
    refine AOps.nil ?_
    refine AEx.seq ?_
    refine AEx.regionG 48 rfl ?_
    refine AG.q hC rfl ?_ ?_
    · intro hg; refine And.intro ?_ ?_ <;> repeat' (first | exact True.intro | exact hg | exact and_l hg | exact and_l (and_l hg) | refine And.intro ?_ ?_)
    refine AG.q hC rfl ?_ ?_
    · intro hg; refine And.intro ?_ ?_ <;> repeat' (first | exact True.intro | exact hg | exact and_l hg | exact and_l (and_l hg) | refine And.intro ?_ ?_)
    refine AG.q hC rfl ?_ ?_
    · intro hg; refine And.intro ?_ ?_ <;> repeat' (first | exact True.intro | exact hg | exact and_l hg | exact and_l (and_l hg) | refine And.intro ?_ ?_)
    refine AG.q hC rfl ?_ ?_
    · intro hg; refine And.intro ?_ ?_ <;> repeat' (first | exact True.intro | exact hg | exact and_l hg | exact and_l (and_l hg) | refine And.intro ?_ ?_)
    refine AG.q hC rfl ?_ ?_
    · intro hg; refine And.intro ?_ ?_ <;> repeat' (first | exact True.intro | exact hg | exact and_l hg | exact and_l (and_l hg) | refine And.intro ?_ ?_)
    refine AG.q hC rfl ?_ ?_
    · intro hg; refine And.intro ?_ ?_ <;> repeat' (first | exact True.intro | exact hg | exact and_l hg | exact and_l (and_l hg) | refine And.intro ?_ ?_)
    refine AG.q hC rfl ?_ ?_
    · intro hg; refine And.intro ?_ ?_ <;> repeat' (first | exact True.intro | exact hg | exact and_l hg | exact and_l (and_l hg) | refine And.intro ?_ ?_)
    refine AG.q hC rfl ?_ ?_
    · intro hg; refine And.intro ?_ ?_ <;> repeat' (first | exact True.intro | exact hg | exact and_l hg | exact and_l (and_l hg) | refine And.intro ?_ ?_)
    refine AG.q hC rfl ?_ ?_
    · intro hg; refine And.intro ?_ ?_ <;> repeat' (first | exact True.intro | exact hg | exact and_l hg | exact and_l (and_l hg) | refine And.intro ?_ ?_)
    refine AG.q hC rfl ?_ ?_
    · intro hg; refine And.intro ?_ ?_ <;> repeat' (first | exact True.intro | exact hg | exact and_l hg | exact and_l (and_l hg) | refine And.intro ?_ ?_)
    refine AG.q hC rfl ?_ ?_
    · intro hg; refine And.intro ?_ ?_ <;> repeat' (first | exact True.intro | exact hg | exact and_l hg | exact and_l (and_l hg) | refine And.intro ?_ ?_)
    refine AG.p hC rfl ?_ ?_
    · intro hg; refine And.intro ?_ (And.intro ?_ ?_) <;> first | exact True.intro | exact fun _ => True.intro | exact And.intro hg True.intro | exact fun h' => And.intro (wb_f h') True.intro | exact fun h' => And.intro (wb_t h') True.intro | exact fun h' => And.intro (and_f hg h') True.intro | exact fun h' => And.intro (and_t hg h') True.intro | exact And.intro (and_l hg) True.intro
    refine AG.q hC rfl ?_ ?_
    · intro hg; refine And.intro ?_ ?_ <;> repeat' (first | exact True.intro | exact hg | exact and_l hg | exact and_l (and_l hg) | refine And.intro ?_ ?_)
    refine AG.q hC rfl ?_ ?_
    · intro hg; refine And.intro ?_ ?_ <;> repeat' (first | exact True.intro | exact hg | exact and_l hg | exact and_l (and_l hg) | refine And.intro ?_ ?_)
    refine AG.q hC rfl ?_ ?_
    · intro hg; refine And.intro ?_ ?_ <;> repeat' (first | exact True.intro | exact hg | exact and_l hg | exact and_l (and_l hg) | refine And.intro ?_ ?_)
    refine AG.q hC rfl ?_ ?_
    · intro hg; refine And.intro ?_ ?_ <;> repeat' (first | exact True.intro | exact hg | exact and_l hg | exact and_l (and_l hg) | refine And.intro ?_ ?_)
    refine AG.q hC rfl ?_ ?_
    · intro hg; refine And.intro ?_ ?_ <;> repeat' (first | exact True.intro | exact hg | exact and_l hg | exact and_l (and_l hg) | refine And.intro ?_ ?_)
    refine AG.q hC rfl ?_ ?_
    · intro hg; refine And.intro ?_ ?_ <;> repeat' (first | exact True.intro | exact hg | exact and_l hg | exact and_l (and_l hg) | refine And.intro ?_ ?_)
    refine AG.p hC rfl ?_ ?_
    · intro hg; refine And.intro ?_ (And.intro ?_ ?_) <;> first | exact True.intro | exact fun _ => True.intro | exact And.intro hg True.intro | exact fun h' => And.intro (wb_f h') True.intro | exact fun h' => And.intro (wb_t h') True.intro | exact fun h' => And.intro (and_f hg h') True.intro | exact fun h' => And.intro (and_t hg h') True.intro | exact And.intro (and_l hg) True.intro
    refine AG.q hC rfl ?_ ?_
    · intro hg; refine And.intro ?_ ?_ <;> repeat' (first | exact True.intro | exact hg | exact and_l hg | exact and_l (and_l hg) | refine And.intro ?_ ?_)
    refine AG.q hC rfl ?_ ?_
    · intro hg; refine And.intro ?_ ?_ <;> repeat' (first | exact True.intro | exact hg | exact and_l hg | exact and_l (and_l hg) | refine And.intro ?_ ?_)
    refine AG.q hC rfl ?_ ?_
    · intro hg; refine And.intro ?_ ?_ <;> repeat' (first | exact True.intro | exact hg | exact and_l hg | exact and_l (and_l hg) | refine And.intro ?_ ?_)
    refine AG.q hC rfl ?_ ?_
    · intro hg; refine And.intro ?_ ?_ <;> repeat' (first | exact True.intro | exact hg | exact and_l hg | exact and_l (and_l hg) | refine And.intro ?_ ?_)
    refine AG.q hC rfl ?_ ?_
    · intro hg; refine And.intro ?_ ?_ <;> repeat' (first | exact True.intro | exact hg | exact and_l hg | exact and_l (and_l hg) | refine And.intro ?_ ?_)
    refine AG.q hC rfl ?_ ?_
    · intro hg; refine And.intro ?_ ?_ <;> repeat' (first | exact True.intro | exact hg | exact and_l hg | exact and_l (and_l hg) | refine And.intro ?_ ?_)
    refine AG.p hC rfl ?_ ?_
    · intro hg; refine And.intro ?_ (And.intro ?_ ?_) <;> first | exact True.intro | exact fun _ => True.intro | exact And.intro hg True.intro | exact fun h' => And.intro (wb_f h') True.intro | exact fun h' => And.intro (wb_t h') True.intro | exact fun h' => And.intro (and_f hg h') True.intro | exact fun h' => And.intro (and_t hg h') True.intro | exact And.intro (and_l hg) True.intro
    refine AG.q hC rfl ?_ ?_
    · intro hg; refine And.intro ?_ ?_ <;> repeat' (first | exact True.intro | exact hg | exact and_l hg | exact and_l (and_l hg) | refine And.intro ?_ ?_)
    refine AG.q hC rfl ?_ ?_
    · intro hg; refine And.intro ?_ ?_ <;> repeat' (first | exact True.intro | exact hg | exact and_l hg | exact and_l (and_l hg) | refine And.intro ?_ ?_)
    refine AG.q hC rfl ?_ ?_
    · intro hg; refine And.intro ?_ ?_ <;> repeat' (first | exact True.intro | exact hg | exact and_l hg | exact and_l (and_l hg) | refine And.intro ?_ ?_)
    refine AG.q hC rfl ?_ ?_
    · intro hg; refine And.intro ?_ ?_ <;> repeat' (first | exact True.intro | exact hg | exact and_l hg | exact and_l (and_l hg) | refine And.intro ?_ ?_)
    refine AG.q hC rfl ?_ ?_
    · intro hg; refine And.intro ?_ ?_ <;> repeat' (first | exact True.intro | exact hg | exact and_l hg | exact and_l (and_l hg) | refine And.intro ?_ ?_)
    refine AG.q hC rfl ?_ ?_
    · intro hg; refine And.intro ?_ ?_ <;> repeat' (first | exact True.intro | exact hg | exact and_l hg | exact and_l (and_l hg) | refine And.intro ?_ ?_)
    refine AG.p hC rfl ?_ ?_
    · intro hg; refine And.intro ?_ (And.intro ?_ ?_) <;> first | exact True.intro | exact fun _ => True.intro | exact And.intro hg True.intro | exact fun h' => And.intro (wb_f h') True.intro | exact fun h' => And.intro (wb_t h') True.intro | exact fun h' => And.intro (and_f hg h') True.intro | exact fun h' => And.intro (and_t hg h') True.intro | exact And.intro (and_l hg) True.intro
    refine AG.q hC rfl ?_ ?_
    · intro hg; refine And.intro ?_ ?_ <;> repeat' (first | exact True.intro | exact hg | exact and_l hg | exact and_l (and_l hg) | refine And.intro ?_ ?_)
    refine AG.q hC rfl ?_ ?_
    · intro hg; refine And.intro ?_ ?_ <;> repeat' (first | exact True.intro | exact hg | exact and_l hg | exact and_l (and_l hg) | refine And.intro ?_ ?_)
    refine AG.q hC rfl ?_ ?_
    · intro hg; refine And.intro ?_ ?_ <;> repeat' (first | exact True.intro | exact hg | exact and_l hg | exact and_l (and_l hg) | refine And.intro ?_ ?_)
    refine AG.q hC rfl ?_ ?_
    · intro hg; refine And.intro ?_ ?_ <;> repeat' (first | exact True.intro | exact hg | exact and_l hg | exact and_l (and_l hg) | refine And.intro ?_ ?_)
    refine AG.q hC rfl ?_ ?_
    · intro hg; refine And.intro ?_ ?_ <;> repeat' (first | exact True.intro | exact hg | exact and_l hg | exact and_l (and_l hg) | refine And.intro ?_ ?_)
    obtain ⟨x1, hx1, hh⟩ := bind_some hh
    refine AG.c rfl rfl (by intro hg; repeat' (first | exact True.intro | exact hg | exact and_l hg | exact and_l (and_l hg) | refine And.intro ?_ ?_)) (fun hw => slices_Equal_string_string_ok (if_t hw hx1)) ?_
    refine AG.p hC rfl ?_ ?_
    · intro hg; refine And.intro ?_ (And.intro ?_ ?_) <;> first | exact True.intro | exact fun _ => True.intro | exact And.intro hg True.intro | exact fun h' => And.intro (wb_f h') True.intro | exact fun h' => And.intro (wb_t h') True.intro | exact fun h' => And.intro (and_f hg h') True.intro | exact fun h' => And.intro (and_t hg h') True.intro | exact And.intro (and_l hg) True.intro
    refine AG.q hC rfl ?_ ?_
    · intro hg; refine And.intro ?_ ?_ <;> repeat' (first | exact True.intro | exact hg | exact and_l hg | exact and_l (and_l hg) | refine And.intro ?_ ?_)
    refine AG.q hC rfl ?_ ?_
    · intro hg; refine And.intro ?_ ?_ <;> repeat' (first | exact True.intro | exact hg | exact and_l hg | exact and_l (and_l hg) | refine And.intro ?_ ?_)
    refine AG.q hC rfl ?_ ?_
    · intro hg; refine And.intro ?_ ?_ <;> repeat' (first | exact True.intro | exact hg | exact and_l hg | exact and_l (and_l hg) | refine And.intro ?_ ?_)
    refine AG.q hC rfl ?_ ?_
    · intro hg; refine And.intro ?_ ?_ <;> repeat' (first | exact True.intro | exact hg | exact and_l hg | exact and_l (and_l hg) | refine And.intro ?_ ?_)
    refine AG.q hC rfl ?_ ?_
    · intro hg; refine And.intro ?_ ?_ <;> repeat' (first | exact True.intro | exact hg | exact and_l hg | exact and_l (and_l hg) | refine And.intro ?_ ?_)
    obtain ⟨x2, hx2, hh⟩ := bind_some hh
    refine AG.c rfl rfl (by intro hg; repeat' (first | exact True.intro | exact hg | exact and_l hg | exact and_l (and_l hg) | refine And.intro ?_ ?_)) (fun hw => ih1 _ _ _ (if_t hw hx2)) ?_
    refine AG.p hC rfl ?_ ?_
    · intro hg; refine And.intro ?_ (And.intro ?_ ?_) <;> first | exact True.intro | exact fun _ => True.intro | exact And.intro hg True.intro | exact fun h' => And.intro (wb_f h') True.intro | exact fun h' => And.intro (wb_t h') True.intro | exact fun h' => And.intro (and_f hg h') True.intro | exact fun h' => And.intro (and_t hg h') True.intro | exact And.intro (and_l hg) True.intro
    refine AG.q hC rfl ?_ ?_
    · intro hg; refine And.intro ?_ ?_ <;> repeat' (first | exact True.intro | exact hg | exact and_l hg | exact and_l (and_l hg) | refine And.intro ?_ ?_)
    refine AG.nil ?_
    refine AOps.nil ?_
    refine AEx.ret ?_
    obtain rfl := Option.some.inj hh
    exact ⟨_, _, [], rfl, .rfl, trivial, rfl, rfl, rfl, rfl⟩
  · intro g2 ih2 s1 s2 res hh
    refine ACall.intro hC Tryd.func65 rfl rfl rfl ?_
    refine AEx.seq ?_
    refine AEx.regionN rfl rfl ?_
    refine AOps.q hC rfl trivial ?_
    refine AOps.nil ?_
    refine AEx.seq ?_
    refine AEx.seq ?_
    refine AEx.regionN rfl rfl ?_
    refine AOps.q hC rfl trivial ?_
    refine AOps.qe hC rfl trivial (ApiType.lenA _) ?_
    refine AOps.q hC rfl trivial ?_
    refine AOps.qe hC rfl trivial (ApiType.lenA _) ?_
    refine AOps.q hC rfl trivial ?_
    refine AOps.nil ?_
    refine AEx.cond rfl (fun hb => ?_) (fun hb => ?_)
    · replace hh := if_t hb hh
      refine AEx.seq ?_
      refine AEx.regionN rfl rfl ?_
      refine AOps.q hC rfl trivial ?_
      refine AOps.nil ?_
      refine AEx.ret ?_
      obtain rfl := Option.some.inj hh
      exact ⟨_, _, [], rfl, .rfl, trivial, rfl, rfl, rfl, rfl⟩
    · replace hh := if_f hb hh
      refine AEx.skip ?_
      refine AEx.seq ?_
      refine AEx.seq ?_
      refine AEx.regionN rfl rfl ?_
      refine AOps.q hC rfl trivial ?_
      refine AOps.qe hC rfl trivial (ApiType.lenA _) ?_
      refine AOps.q hC rfl trivial ?_
      refine AOps.nil ?_
      refine AEx.block ?_
      refine AEx.ofLoop ?_
      refine ALoop.wk ?_ (ih2 _ _ _ _ hh)
      exact ⟨⟨⟨.rfl, rfl⟩, ⟨⟨.rfl, rfl⟩, ⟨⟨.rfl, rfl⟩, ⟨⟨.rfl, rfl⟩, ⟨⟨.rfl, rfl⟩, trivial⟩⟩⟩⟩⟩, trivial, rfl⟩
  · intro g0 g2 ih0 ih2 s1 s2 v17 res hh
    refine ALoop.unroll ?_
    refine AEx.seq ?_
    refine AEx.regionN rfl rfl ?_
    refine AOps.q hC rfl trivial ?_
    refine AOps.nil ?_
    refine AEx.seq ?_
    refine AEx.cond rfl (fun hb => ?_) (fun hb => ?_)
    · replace hh := if_t hb hh
      refine AEx.skip ?_
      refine AEx.seq ?_
      refine AEx.block ?_
      refine AEx.seq ?_
      refine AEx.regionN rfl rfl ?_
      refine AOps.q hC rfl trivial ?_
      obtain ⟨x1, hx1, hh⟩ := bind_some hh
      refine AOps.i hC rfl (idx_nat hx1) (ApiType.idx hx1) rfl ?_
      refine AOps.q hC rfl trivial ?_
      refine AOps.nf hC rfl ?_
      refine AOps.q hC rfl trivial ?_
      refine AOps.s hC rfl ?_
      refine AOps.nil ?_
      refine AEx.seq ?_
      refine AEx.regionN rfl rfl ?_
      iterate 2 refine AOps.q hC rfl trivial ?_
      obtain ⟨x2, hx2, hh⟩ := bind_some hh
      refine AOps.i hC rfl (idx_nat hx2) (ApiType.idx hx2) rfl ?_
      refine AOps.q hC rfl trivial ?_
      refine AOps.nf hC rfl ?_
      refine AOps.s hC rfl ?_
      refine AOps.nil ?_
      refine AEx.seq ?_
      refine AEx.regionN rfl rfl ?_
      iterate 3 refine AOps.q hC rfl trivial ?_
      obtain ⟨x3, hx3, hh⟩ := bind_some hh
      refine AOps.c rfl rfl (ih0 _ _ _ hx3) ?_
      refine AOps.q hC rfl trivial ?_
      refine AOps.nil ?_
      refine AEx.cond rfl (fun hb => ?_) (fun hb => ?_)
      · replace hh := if_t hb hh
        refine AEx.seq ?_
        refine AEx.regionN rfl rfl ?_
        refine AOps.q hC rfl trivial ?_
        refine AOps.nil ?_
        refine AEx.ret ?_
        obtain rfl := Option.some.inj hh
        exact ⟨_, _, [], rfl, .rfl, trivial, rfl, rfl, rfl, rfl⟩
      · replace hh := if_f hb hh
        refine AEx.skip ?_
        refine AEx.regionN rfl rfl ?_
        iterate 2 refine AOps.q hC rfl trivial ?_
        refine AOps.nil ?_
        refine ALoop.wk ?_ (ih2 _ _ _ _ hh)
        exact ⟨⟨⟨.rfl, rfl⟩, ⟨⟨.rfl, rfl⟩, ⟨⟨.rfl, rfl⟩, ⟨⟨.rfl, rfl⟩, ⟨⟨.rfl, rfl⟩, trivial⟩⟩⟩⟩⟩, trivial, rfl⟩
    · replace hh := if_f hb hh
      refine AEx.exit ?_
      refine AEx.seq ?_
      refine AEx.regionN rfl rfl ?_
      refine AOps.q hC rfl trivial ?_
      refine AOps.nil ?_
      refine AEx.ret ?_
      obtain rfl := Option.some.inj hh
      exact ⟨_, _, [], rfl, .rfl, trivial, rfl, rfl, rfl, rfl⟩
theorem types_Equal_ok {a : ApiType} {b : ApiType} {res : Bool} (hh : types_Equal a b = some res) : ACall C 31 [.agg (ApiType.cells a), .agg (ApiType.cells b)] [] (fun x H' => H' = [] ∧ x = .d (.bool res)) := (types_Equal_grp).1 _ _ _ hh
theorem slices_EqualFunc_api_Type_api_Type_api_Type_api_Type_ok {s1 : List ApiType} {s2 : List ApiType} {res : Bool} (hh : slices_EqualFunc_api_Type_api_Type_api_Type_api_Type s1 s2 = some res) : ACall C 65 [.d (.sl (ApiType.rows s1)), .d (.sl (ApiType.rows s2)), .clo 31 []] [] (fun x H' => H' = [] ∧ x = .d (.bool res)) := (types_Equal_grp).2.1 _ _ _ hh
theorem slices_EqualFunc_api_Type_api_Type_api_Type_api_Type_l1_ok {s1 : List ApiType} {s2 : List ApiType} {v17 : Int} {res : Bool} (hh : slices_EqualFunc_api_Type_api_Type_api_Type_api_Type_l1 s1 s2 v17 = some res) : ALoop (Fx.mk C 32 0) (lo (bk (sr (sl (sr (sr (bodyOf Tryd.f65))))))) (mkEnv [(1, .d (.sl (ApiType.rows s2))), (2, .clo 31 []), (15, .d (.sl (ApiType.rows s1))), (16, .d (.int .i64 ((s1).length : Int))), (17, .d (.int .i64 v17))]) [] (Am.InBlock 0 (Am.Then (Fx.mk C 32 0) (sr (sr (sr (bodyOf Tryd.f65)))) (Am.Ends (Fx.mk C 32 0) Tryd.f65.results.toList (fun x H' => H' = [] ∧ x = .d (.bool res))))) := (types_Equal_grp).2.2 _ _ _ _ hh
def law12_TypesExpanded_1 (d : ApiDecl) : Option Bool :=
  some (d.Name == [117, 110, 117, 115, 101, 100, 110, 97, 109, 101])
theorem law12_TypesExpanded_1_ok {d : ApiDecl} {res : Bool} (hh : law12_TypesExpanded_1 d = some res) : ACall C 34 [.agg (ApiDecl.cells d)] [] (fun x H' => H' = [] ∧ x = .d (.bool res)) := by
  unfold law12_TypesExpanded_1 at hh
  refine ACall.intro hC Tryd.func34 rfl rfl rfl ?_
  refine AEx.seq ?_
  refine AEx.regionN rfl rfl ?_
  refine AOps.n hC rfl ?_
  refine AOps.q hC rfl trivial ?_
  refine AOps.nil ?_
  refine AEx.seq ?_
  refine AEx.regionN rfl rfl ?_
  iterate 4 refine AOps.q hC rfl trivial ?_
  refine AOps.nil ?_
  refine AEx.ret ?_
  obtain rfl := Option.some.inj hh
  exact ⟨_, _, [], rfl, .rfl, trivial, rfl, rfl, rfl, rfl⟩
def slices_IndexFunc_api_Decl_api_Decl_v2_l1 (s : List ApiDecl) (v8 : Int) : Option Int :=
  if (decide (v8 < ((s).length : Int))) = true then
    idx s v8 >>= fun x1 =>
    law12_TypesExpanded_1 x1 >>= fun x2 =>
    if x2 = true then
      some v8
    else
      slices_IndexFunc_api_Decl_api_Decl_v2_l1 s (IntKind.i64.wrap (v8 + 1))
  else
    some (-1)
  partial_fixpoint
theorem slices_IndexFunc_api_Decl_api_Decl_v2_l1_grp (s : List ApiDecl) : (∀ (v8 : Int) (res : Int), slices_IndexFunc_api_Decl_api_Decl_v2_l1 s v8 = some res → ALoop (Fx.mk C 19 0) (lo (bk (sr (sl (sr (bodyOf Tryd.f66)))))) (mkEnv [(0, .d (.sl (ApiDecl.rows s))), (1, .clo 34 []), (7, .d (.int .i64 ((s).length : Int))), (8, .d (.int .i64 v8))]) [] (Am.InBlock 0 (Am.Then (Fx.mk C 19 0) (sr (sr (bodyOf Tryd.f66))) (Am.Ends (Fx.mk C 19 0) Tryd.f66.results.toList (fun x H' => H' = [] ∧ x = .d (.int .i64 res)))))) := by
  refine slices_IndexFunc_api_Decl_api_Decl_v2_l1.partial_correctness s
    (fun v8 res => ALoop (Fx.mk C 19 0) (lo (bk (sr (sl (sr (bodyOf Tryd.f66)))))) (mkEnv [(0, .d (.sl (ApiDecl.rows s))), (1, .clo 34 []), (7, .d (.int .i64 ((s).length : Int))), (8, .d (.int .i64 v8))]) [] (Am.InBlock 0 (Am.Then (Fx.mk C 19 0) (sr (sr (bodyOf Tryd.f66))) (Am.Ends (Fx.mk C 19 0) Tryd.f66.results.toList (fun x H' => H' = [] ∧ x = .d (.int .i64 res)))))) ?_
  · intro g0 ih0 v8 res hh
    refine ALoop.unroll ?_
    refine AEx.seq ?_
    refine AEx.regionN rfl rfl ?_
    refine AOps.q hC rfl trivial ?_
    refine AOps.nil ?_
    refine AEx.seq ?_
    refine AEx.cond rfl (fun hb => ?_) (fun hb => ?_)
    · replace hh := if_t hb hh
      refine AEx.skip ?_
      refine AEx.seq ?_
      refine AEx.block ?_
      refine AEx.seq ?_
      refine AEx.regionN rfl rfl ?_
      iterate 2 refine AOps.q hC rfl trivial ?_
      refine AOps.nil ?_
      refine AEx.seq ?_
      refine AEx.regionN rfl rfl ?_
      iterate 3 refine AOps.q hC rfl trivial ?_
      obtain ⟨x1, hx1, hh⟩ := bind_some hh
      refine AOps.i hC rfl (idx_nat hx1) (ApiDecl.idx hx1) rfl ?_
      refine AOps.q hC rfl trivial ?_
      obtain ⟨x2, hx2, hh⟩ := bind_some hh
      refine AOps.c rfl rfl (law12_TypesExpanded_1_ok hx2) ?_
      refine AOps.nil ?_
      refine AEx.cond rfl (fun hb => ?_) (fun hb => ?_)
      · replace hh := if_t hb hh
        refine AEx.seq ?_
        refine AEx.regionN rfl rfl ?_
        iterate 2 refine AOps.q hC rfl trivial ?_
        refine AOps.nil ?_
        refine AEx.ret ?_
        obtain rfl := Option.some.inj hh
        exact ⟨_, _, [], rfl, .rfl, trivial, rfl, rfl, rfl, rfl⟩
      · replace hh := if_f hb hh
        refine AEx.skip ?_
        refine AEx.regionN rfl rfl ?_
        iterate 2 refine AOps.q hC rfl trivial ?_
        refine AOps.nil ?_
        refine ALoop.wk ?_ (ih0 _ _ hh)
        exact ⟨⟨⟨.rfl, rfl⟩, ⟨⟨.rfl, rfl⟩, ⟨⟨.rfl, rfl⟩, ⟨⟨.rfl, rfl⟩, trivial⟩⟩⟩⟩, trivial, rfl⟩
    · replace hh := if_f hb hh
      refine AEx.exit ?_
      refine AEx.seq ?_
      refine AEx.regionN rfl rfl ?_
      refine AOps.q hC rfl trivial ?_
      refine AOps.nil ?_
      refine AEx.ret ?_
      obtain rfl := Option.some.inj hh
      exact ⟨_, _, [], rfl, .rfl, trivial, rfl, rfl, rfl, rfl⟩
theorem slices_IndexFunc_api_Decl_api_Decl_v2_l1_ok {s : List ApiDecl} {v8 : Int} {res : Int} (hh : slices_IndexFunc_api_Decl_api_Decl_v2_l1 s v8 = some res) : ALoop (Fx.mk C 19 0) (lo (bk (sr (sl (sr (bodyOf Tryd.f66)))))) (mkEnv [(0, .d (.sl (ApiDecl.rows s))), (1, .clo 34 []), (7, .d (.int .i64 ((s).length : Int))), (8, .d (.int .i64 v8))]) [] (Am.InBlock 0 (Am.Then (Fx.mk C 19 0) (sr (sr (bodyOf Tryd.f66))) (Am.Ends (Fx.mk C 19 0) Tryd.f66.results.toList (fun x H' => H' = [] ∧ x = .d (.int .i64 res))))) := (slices_IndexFunc_api_Decl_api_Decl_v2_l1_grp s) _ _ hh
def slices_IndexFunc_api_Decl_api_Decl_v2 (s : List ApiDecl) : Option Int :=
  slices_IndexFunc_api_Decl_api_Decl_v2_l1 s 0
theorem slices_IndexFunc_api_Decl_api_Decl_v2_ok {s : List ApiDecl} {res : Int} (hh : slices_IndexFunc_api_Decl_api_Decl_v2 s = some res) : ACall C 66 [.d (.sl (ApiDecl.rows s)), .clo 34 []] [] (fun x H' => H' = [] ∧ x = .d (.int .i64 res)) := by
  unfold slices_IndexFunc_api_Decl_api_Decl_v2 at hh
  refine ACall.intro hC Tryd.func66 rfl rfl rfl ?_
  refine AEx.seq ?_
  refine AEx.regionN rfl rfl ?_
  refine AOps.q hC rfl trivial ?_
  refine AOps.nil ?_
  refine AEx.seq ?_
  refine AEx.seq ?_
  refine AEx.regionN rfl rfl ?_
  refine AOps.q hC rfl trivial ?_
  refine AOps.qe hC rfl trivial (ApiDecl.lenA _) ?_
  refine AOps.q hC rfl trivial ?_
  refine AOps.nil ?_
  refine AEx.block ?_
  refine AEx.ofLoop ?_
  refine ALoop.wk ?_ (slices_IndexFunc_api_Decl_api_Decl_v2_l1_ok hh)
  exact ⟨⟨⟨.rfl, rfl⟩, ⟨⟨.rfl, rfl⟩, ⟨⟨.rfl, rfl⟩, ⟨⟨.rfl, rfl⟩, trivial⟩⟩⟩⟩, trivial, rfl⟩
def slices_ContainsFunc_api_Decl_api_Decl_v2 (s : List ApiDecl) : Option Bool :=
  slices_IndexFunc_api_Decl_api_Decl_v2 s >>= fun x1 =>
  some (decide (x1 ≥ 0))
theorem slices_ContainsFunc_api_Decl_api_Decl_v2_ok {s : List ApiDecl} {res : Bool} (hh : slices_ContainsFunc_api_Decl_api_Decl_v2 s = some res) : ACall C 33 [.d (.sl (ApiDecl.rows s)), .clo 34 []] [] (fun x H' => H' = [] ∧ x = .d (.bool res)) := by
  unfold slices_ContainsFunc_api_Decl_api_Decl_v2 at hh
  refine ACall.intro hC Tryd.func33 rfl rfl rfl ?_
  refine AEx.seq ?_
  refine AEx.regionN rfl rfl ?_
  refine AOps.q hC rfl trivial ?_
  refine AOps.nil ?_
  refine AEx.seq ?_
  refine AEx.regionN rfl rfl ?_
  iterate 2 refine AOps.q hC rfl trivial ?_
  obtain ⟨x1, hx1, hh⟩ := bind_some hh
  refine AOps.c rfl rfl (slices_IndexFunc_api_Decl_api_Decl_v2_ok hx1) ?_
  iterate 2 refine AOps.q hC rfl trivial ?_
  refine AOps.nil ?_
  refine AEx.ret ?_
  obtain rfl := Option.some.inj hh
  exact ⟨_, _, [], rfl, .rfl, trivial, rfl, rfl, rfl, rfl⟩
def law12_TypesExpanded_j1 (decls : List ApiDecl) (t : ApiType) (more : ApiType) (x5 : ApiType × Int) (x10 : List ApiDecl) : Option Bool :=
  slices_ContainsFunc_api_Decl_api_Decl_v2 decls >>= fun x11 =>
  if x11 = true then
    some true
  else
    types_Expand decls more >>= fun x12 =>
    types_Expand (x10 ++ [(ApiDecl.mk 0 [117, 110, 117, 115, 101, 100, 110, 97, 109, 101] more 0 (ApiExpr.mk 0 0 [] []) [] [] [])]) t >>= fun x13 =>
    (if ((!(bif (x12.2 != 0) then (x13.2 == x12.2) else false)) && (bif (x12.2 == 0) then (x13.2 == 0) else false)) = true then types_Equal x5.1 x13.1 else some default) >>= fun x14 =>
    some (bif (bif (x12.2 != 0) then (x13.2 == x12.2) else false) then true else (bif (bif (x12.2 == 0) then (x13.2 == 0) else false) then x14 else false))
theorem law12_TypesExpanded_j1_ok {decls : List ApiDecl} {t : ApiType} {more : ApiType} {x5 : ApiType × Int} {x10 : List ApiDecl} {res : Bool} (hh : law12_TypesExpanded_j1 decls t more x5 x10 = some res) : AEx (Fx.mk C 101 0) (sr (sr (sr (sr (sr (sr (sr (sr (bodyOf Tryd.f8))))))))) (mkEnv [(0, .d (.sl (ApiDecl.rows decls))), (4, .ref 0 0), (5, .ref 1 0), (7, .ref 2 0), (11, .osl 4 (ApiDecl.rows (x10 ++ [(ApiDecl.mk 0 [117, 110, 117, 115, 101, 100, 110, 97, 109, 101] more 0 (ApiExpr.mk 0 0 [] []) [] [] [])])))]) [.row (ApiType.cells t) 27, .row (ApiType.cells more) 27, .row (ApiType.cells x5.1) 27, .dead, .tok 59 17] (Am.Ends (Fx.mk C 101 0) Tryd.f8.results.toList (fun x H' => H' = [] ∧ x = .d (.bool res))) := by
  unfold law12_TypesExpanded_j1 at hh
  refine AEx.seq ?_
  refine AEx.seq ?_
  refine AEx.regionN rfl rfl ?_
  refine AOps.q hC rfl trivial ?_
  obtain ⟨x11, hx11, hh⟩ := bind_some hh
  refine AOps.c rfl rfl (slices_ContainsFunc_api_Decl_api_Decl_v2_ok hx11) ?_
  refine AOps.nil ?_
  refine AEx.cond rfl (fun hb => ?_) (fun hb => ?_)
  · replace hh := if_t hb hh
    refine AEx.seq ?_
    refine AEx.regionN rfl rfl ?_
    refine AOps.q hC rfl trivial ?_
    refine AOps.nil ?_
    refine AEx.ret ?_
    obtain rfl := Option.some.inj hh
    exact ⟨_, _, [], rfl, .rfl, trivial, rfl, rfl, rfl, rfl⟩
  · replace hh := if_f hb hh
    refine AEx.skip ?_
    refine AEx.seq ?_
    refine AEx.regionN rfl rfl ?_
    iterate 2 refine AOps.q hC rfl trivial ?_
    obtain ⟨x12, hx12, hh⟩ := bind_some hh
    refine AOps.c rfl rfl (types_Expand_ok hx12) ?_
    iterate 3 refine AOps.q hC rfl trivial ?_
    refine AOps.nf hC rfl ?_
    refine AOps.s hC rfl ?_
    refine AOps.q hC rfl trivial ?_
    refine AOps.nil ?_
    refine AEx.seq ?_
    refine AEx.regionN rfl rfl ?_
    iterate 2 refine AOps.q hC rfl trivial ?_
    obtain ⟨x13, hx13, hh⟩ := bind_some hh
    refine AOps.cl rfl (types_Expand_ok hx13) ⟨.osl, ⟨.rfl, trivial⟩⟩ rfl ?_
    iterate 3 refine AOps.q hC rfl trivial ?_
    refine AOps.nf hC rfl ?_
    refine AOps.s hC rfl ?_
    refine AOps.q hC rfl trivial ?_
    refine AOps.nil ?_
    refine AEx.seq ?_
    refine AEx.regionG 21 rfl ?_
    refine AG.q hC rfl ?_ ?_
    · intro hg; refine And.intro ?_ ?_ <;> repeat' (first | exact True.intro | exact hg | exact and_l hg | exact and_l (and_l hg) | refine And.intro ?_ ?_)
    refine AG.q hC rfl ?_ ?_
    · intro hg; refine And.intro ?_ ?_ <;> repeat' (first | exact True.intro | exact hg | exact and_l hg | exact and_l (and_l hg) | refine And.intro ?_ ?_)
    refine AG.q hC rfl ?_ ?_
    · intro hg; refine And.intro ?_ ?_ <;> repeat' (first | exact True.intro | exact hg | exact and_l hg | exact and_l (and_l hg) | refine And.intro ?_ ?_)
    refine AG.q hC rfl ?_ ?_
    · intro hg; refine And.intro ?_ ?_ <;> repeat' (first | exact True.intro | exact hg | exact and_l hg | exact and_l (and_l hg) | refine And.intro ?_ ?_)
    refine AG.q hC rfl ?_ ?_
    · intro hg; refine And.intro ?_ ?_ <;> repeat' (first | exact True.intro | exact hg | exact and_l hg | exact and_l (and_l hg) | refine And.intro ?_ ?_)
    refine AG.q hC rfl ?_ ?_
    · intro hg; refine And.intro ?_ ?_ <;> repeat' (first | exact True.intro | exact hg | exact and_l hg | exact and_l (and_l hg) | refine And.intro ?_ ?_)
    refine AG.p hC rfl ?_ ?_
    · intro hg; refine And.intro ?_ (And.intro ?_ ?_) <;> first | exact True.intro | exact fun _ => True.intro | exact And.intro hg True.intro | exact fun h' => And.intro (wb_f h') True.intro | exact fun h' => And.intro (wb_t h') True.intro | exact fun h' => And.intro (and_f hg h') True.intro | exact fun h' => And.intro (and_t hg h') True.intro | exact And.intro (and_l hg) True.intro
    refine AG.q hC rfl ?_ ?_
    · intro hg; refine And.intro ?_ ?_ <;> repeat' (first | exact True.intro | exact hg | exact and_l hg | exact and_l (and_l hg) | refine And.intro ?_ ?_)
    refine AG.q hC rfl ?_ ?_
    · intro hg; refine And.intro ?_ ?_ <;> repeat' (first | exact True.intro | exact hg | exact and_l hg | exact and_l (and_l hg) | refine And.intro ?_ ?_)
    refine AG.q hC rfl ?_ ?_
    · intro hg; refine And.intro ?_ ?_ <;> repeat' (first | exact True.intro | exact hg | exact and_l hg | exact and_l (and_l hg) | refine And.intro ?_ ?_)
    refine AG.q hC rfl ?_ ?_
    · intro hg; refine And.intro ?_ ?_ <;> repeat' (first | exact True.intro | exact hg | exact and_l hg | exact and_l (and_l hg) | refine And.intro ?_ ?_)
    refine AG.q hC rfl ?_ ?_
    · intro hg; refine And.intro ?_ ?_ <;> repeat' (first | exact True.intro | exact hg | exact and_l hg | exact and_l (and_l hg) | refine And.intro ?_ ?_)
    refine AG.q hC rfl ?_ ?_
    · intro hg; refine And.intro ?_ ?_ <;> repeat' (first | exact True.intro | exact hg | exact and_l hg | exact and_l (and_l hg) | refine And.intro ?_ ?_)
    refine AG.p hC rfl ?_ ?_
    · intro hg; refine And.intro ?_ (And.intro ?_ ?_) <;> first | exact True.intro | exact fun _ => True.intro | exact And.intro hg True.intro | exact fun h' => And.intro (wb_f h') True.intro | exact fun h' => And.intro (wb_t h') True.intro | exact fun h' => And.intro (and_f hg h') True.intro | exact fun h' => And.intro (and_t hg h') True.intro | exact And.intro (and_l hg) True.intro
    refine AG.q hC rfl ?_ ?_
    · intro hg; refine And.intro ?_ ?_ <;> repeat' (first | exact True.intro | exact hg | exact and_l hg | exact and_l (and_l hg) | refine And.intro ?_ ?_)
    refine AG.q hC rfl ?_ ?_
    · intro hg; refine And.intro ?_ ?_ <;> repeat' (first | exact True.intro | exact hg | exact and_l hg | exact and_l (and_l hg) | refine And.intro ?_ ?_)
    refine AG.q hC rfl ?_ ?_
    · intro hg; refine And.intro ?_ ?_ <;> repeat' (first | exact True.intro | exact hg | exact and_l hg | exact and_l (and_l hg) | refine And.intro ?_ ?_)
    obtain ⟨x14, hx14, hh⟩ := bind_some hh
    refine AG.c rfl rfl (by intro hg; repeat' (first | exact True.intro | exact hg | exact and_l hg | exact and_l (and_l hg) | refine And.intro ?_ ?_)) (fun hw => types_Equal_ok (if_t hw hx14)) ?_
    refine AG.p hC rfl ?_ ?_
    · intro hg; refine And.intro ?_ (And.intro ?_ ?_) <;> first | exact True.intro | exact fun _ => True.intro | exact And.intro hg True.intro | exact fun h' => And.intro (wb_f h') True.intro | exact fun h' => And.intro (wb_t h') True.intro | exact fun h' => And.intro (and_f hg h') True.intro | exact fun h' => And.intro (and_t hg h') True.intro | exact And.intro (and_l hg) True.intro
    refine AG.p hC rfl ?_ ?_
    · intro hg; refine And.intro ?_ (And.intro ?_ ?_) <;> first | exact True.intro | exact fun _ => True.intro | exact And.intro hg True.intro | exact fun h' => And.intro (wb_f h') True.intro | exact fun h' => And.intro (wb_t h') True.intro | exact fun h' => And.intro (and_f hg h') True.intro | exact fun h' => And.intro (and_t hg h') True.intro | exact And.intro (and_l hg) True.intro
    refine AG.q hC rfl ?_ ?_
    · intro hg; refine And.intro ?_ ?_ <;> repeat' (first | exact True.intro | exact hg | exact and_l hg | exact and_l (and_l hg) | refine And.intro ?_ ?_)
    refine AG.nil ?_
    refine AOps.nil ?_
    refine AEx.ret ?_
    obtain rfl := Option.some.inj hh
    exact ⟨_, _, [], rfl, .rfl, trivial, rfl, rfl, rfl, rfl⟩
def law12_TypesExpanded (decls : List ApiDecl) (t : ApiType) (more : ApiType) : Option Bool :=
  law12_known >>= fun x1 =>
  if (!x1) = true then
    some false
  else
    law12_fewDecls decls >>= fun x2 =>
    (if (!(!x2)) = true then law12_few t else some default) >>= fun x3 =>
    (if (!(bif (!x2) then true else (!x3))) = true then law12_few more else some default) >>= fun x4 =>
    if (bif (bif (!x2) then true else (!x3)) then true else (!x4)) = true then
      some true
    else
      types_Expand decls t >>= fun x5 =>
      if (x5.2 != 0) = true then
        ref10_EqualType x5.1 (ApiType.mk 0 0 0 0 [] [] []) >>= fun x6 =>
        some x6
      else
        types_Expand decls x5.1 >>= fun x7 =>
        types_Check x5.1 >>= fun x8 =>
        (if (!(bif (x8 != 0) then true else (x7.2 != 0))) = true then types_Equal x5.1 x7.1 else some default) >>= fun x9 =>
        if (bif (bif (x8 != 0) then true else (x7.2 != 0)) then true else (!x9)) = true then
          some false
        else
          slices_Clone_api_Decl_api_Decl decls >>= fun x10 =>
          if (decide ((x10.length + 1) * 257 ≤ 140737488355328)) = true then
            law12_TypesExpanded_j1 decls t more x5 x10
          else none
theorem law12_TypesExpanded_ok {decls : List ApiDecl} {t : ApiType} {more : ApiType} {res : Bool} (hh : law12_TypesExpanded decls t more = some res) : ACall C 8 [.d (.sl (ApiDecl.rows decls)), .agg (ApiType.cells t), .agg (ApiType.cells more)] [] (fun x H' => H' = [] ∧ x = .d (.bool res)) := by
  unfold law12_TypesExpanded at hh
  refine ACall.intro hC Tryd.func8 rfl rfl rfl ?_
  refine AEx.seq ?_
  refine AEx.regionN rfl rfl ?_
  refine AOps.n hC rfl ?_
  refine AOps.n hC rfl ?_
  refine AOps.q hC rfl trivial ?_
  refine AOps.nil ?_
  refine AEx.seq ?_
  refine AEx.seq ?_
  refine AEx.regionN rfl rfl ?_
  obtain ⟨x1, hx1, hh⟩ := bind_some hh
  refine AOps.c rfl rfl (law12_known_ok hx1) ?_
  refine AOps.q hC rfl trivial ?_
  refine AOps.nil ?_
  refine AEx.cond rfl (fun hb => ?_) (fun hb => ?_)
  · replace hh := if_t hb hh
    refine AEx.seq ?_
    refine AEx.regionN rfl rfl ?_
    refine AOps.q hC rfl trivial ?_
    refine AOps.nil ?_
    refine AEx.ret ?_
    obtain rfl := Option.some.inj hh
    exact ⟨_, _, [], rfl, .rfl, trivial, rfl, rfl, rfl, rfl⟩
  · replace hh := if_f hb hh
    refine AEx.skip ?_
    refine AEx.seq ?_
    refine AEx.seq ?_
    refine AEx.regionG 13 rfl ?_
    refine AG.q hC rfl ?_ ?_
    · intro hg; refine And.intro ?_ ?_ <;> repeat' (first | exact True.intro | exact hg | exact and_l hg | exact and_l (and_l hg) | refine And.intro ?_ ?_)
    obtain ⟨x2, hx2, hh⟩ := bind_some hh
    refine AG.c rfl rfl (by intro hg; repeat' (first | exact True.intro | exact hg | exact and_l hg | exact and_l (and_l hg) | refine And.intro ?_ ?_)) (fun _ => law12_fewDecls_ok hx2) ?_
    refine AG.q hC rfl ?_ ?_
    · intro hg; refine And.intro ?_ ?_ <;> repeat' (first | exact True.intro | exact hg | exact and_l hg | exact and_l (and_l hg) | refine And.intro ?_ ?_)
    refine AG.q hC rfl ?_ ?_
    · intro hg; refine And.intro ?_ ?_ <;> repeat' (first | exact True.intro | exact hg | exact and_l hg | exact and_l (and_l hg) | refine And.intro ?_ ?_)
    refine AG.q hC rfl ?_ ?_
    · intro hg; refine And.intro ?_ ?_ <;> repeat' (first | exact True.intro | exact hg | exact and_l hg | exact and_l (and_l hg) | refine And.intro ?_ ?_)
    obtain ⟨x3, hx3, hh⟩ := bind_some hh
    refine AG.c rfl rfl (by intro hg; repeat' (first | exact True.intro | exact hg | exact and_l hg | exact and_l (and_l hg) | refine And.intro ?_ ?_)) (fun hw => law12_few_ok (if_t hw hx3)) ?_
    refine AG.q hC rfl ?_ ?_
    · intro hg; refine And.intro ?_ ?_ <;> repeat' (first | exact True.intro | exact hg | exact and_l hg | exact and_l (and_l hg) | refine And.intro ?_ ?_)
    refine AG.p hC rfl ?_ ?_
    · intro hg; refine And.intro ?_ (And.intro ?_ ?_) <;> first | exact True.intro | exact fun _ => True.intro | exact And.intro hg True.intro | exact fun h' => And.intro (wb_f h') True.intro | exact fun h' => And.intro (wb_t h') True.intro | exact fun h' => And.intro (and_f hg h') True.intro | exact fun h' => And.intro (and_t hg h') True.intro | exact And.intro (and_l hg) True.intro
    refine AG.q hC rfl ?_ ?_
    · intro hg; refine And.intro ?_ ?_ <;> repeat' (first | exact True.intro | exact hg | exact and_l hg | exact and_l (and_l hg) | refine And.intro ?_ ?_)
    refine AG.q hC rfl ?_ ?_
    · intro hg; refine And.intro ?_ ?_ <;> repeat' (first | exact True.intro | exact hg | exact and_l hg | exact and_l (and_l hg) | refine And.intro ?_ ?_)
    obtain ⟨x4, hx4, hh⟩ := bind_some hh
    refine AG.c rfl rfl (by intro hg; repeat' (first | exact True.intro | exact hg | exact and_l hg | exact and_l (and_l hg) | refine And.intro ?_ ?_)) (fun hw => law12_few_ok (if_t hw hx4)) ?_
    refine AG.q hC rfl ?_ ?_
    · intro hg; refine And.intro ?_ ?_ <;> repeat' (first | exact True.intro | exact hg | exact and_l hg | exact and_l (and_l hg) | refine And.intro ?_ ?_)
    refine AG.p hC rfl ?_ ?_
    · intro hg; refine And.intro ?_ (And.intro ?_ ?_) <;> first | exact True.intro | exact fun _ => True.intro | exact And.intro hg True.intro | exact fun h' => And.intro (wb_f h') True.intro | exact fun h' => And.intro (wb_t h') True.intro | exact fun h' => And.intro (and_f hg h') True.intro | exact fun h' => And.intro (and_t hg h') True.intro | exact And.intro (and_l hg) True.intro
    refine AG.nil ?_
    refine AOps.nil ?_
    refine AEx.cond rfl (fun hb => ?_) (fun hb => ?_)
    · replace hh := if_t hb hh
      refine AEx.seq ?_
      refine AEx.regionN rfl rfl ?_
      refine AOps.q hC rfl trivial ?_
      refine AOps.nil ?_
      refine AEx.ret ?_
      obtain rfl := Option.some.inj hh
      exact ⟨_, _, [], rfl, .rfl, trivial, rfl, rfl, rfl, rfl⟩
    · replace hh := if_f hb hh
      refine AEx.skip ?_
      refine AEx.seq ?_
      refine AEx.regionN rfl rfl ?_
      iterate 2 refine AOps.q hC rfl trivial ?_
      obtain ⟨x5, hx5, hh⟩ := bind_some hh
      refine AOps.c rfl rfl (types_Expand_ok hx5) ?_
      iterate 3 refine AOps.q hC rfl trivial ?_
      refine AOps.nf hC rfl ?_
      refine AOps.s hC rfl ?_
      refine AOps.q hC rfl trivial ?_
      refine AOps.nil ?_
      refine AEx.seq ?_
      refine AEx.seq ?_
      refine AEx.regionN rfl rfl ?_
      iterate 2 refine AOps.q hC rfl trivial ?_
      refine AOps.nil ?_
      refine AEx.cond rfl (fun hb => ?_) (fun hb => ?_)
      · replace hh := if_t hb hh
        refine AEx.seq ?_
        refine AEx.regionN rfl rfl ?_
        iterate 2 refine AOps.q hC rfl trivial ?_
        obtain ⟨x6, hx6, hh⟩ := bind_some hh
        refine AOps.c rfl rfl (ref10_EqualType_ok hx6) ?_
        refine AOps.q hC rfl trivial ?_
        refine AOps.nil ?_
        refine AEx.ret ?_
        obtain rfl := Option.some.inj hh
        exact ⟨_, _, [], rfl, .rfl, trivial, rfl, rfl, rfl, rfl⟩
      · replace hh := if_f hb hh
        refine AEx.skip ?_
        refine AEx.seq ?_
        refine AEx.regionN rfl rfl ?_
        iterate 2 refine AOps.q hC rfl trivial ?_
        obtain ⟨x7, hx7, hh⟩ := bind_some hh
        refine AOps.c rfl rfl (types_Expand_ok hx7) ?_
        iterate 3 refine AOps.q hC rfl trivial ?_
        refine AOps.nf hC rfl ?_
        refine AOps.s hC rfl ?_
        refine AOps.q hC rfl trivial ?_
        refine AOps.nil ?_
        refine AEx.seq ?_
        refine AEx.seq ?_
        refine AEx.regionG 13 rfl ?_
        refine AG.q hC rfl ?_ ?_
        · intro hg; refine And.intro ?_ ?_ <;> repeat' (first | exact True.intro | exact hg | exact and_l hg | exact and_l (and_l hg) | refine And.intro ?_ ?_)
        obtain ⟨x8, hx8, hh⟩ := bind_some hh
        refine AG.c rfl rfl (by intro hg; repeat' (first | exact True.intro | exact hg | exact and_l hg | exact and_l (and_l hg) | refine And.intro ?_ ?_)) (fun _ => types_Check_ok hx8) ?_
        refine AG.q hC rfl ?_ ?_
        · intro hg; refine And.intro ?_ ?_ <;> repeat' (first | exact True.intro | exact hg | exact and_l hg | exact and_l (and_l hg) | refine And.intro ?_ ?_)
        refine AG.q hC rfl ?_ ?_
        · intro hg; refine And.intro ?_ ?_ <;> repeat' (first | exact True.intro | exact hg | exact and_l hg | exact and_l (and_l hg) | refine And.intro ?_ ?_)
        refine AG.q hC rfl ?_ ?_
        · intro hg; refine And.intro ?_ ?_ <;> repeat' (first | exact True.intro | exact hg | exact and_l hg | exact and_l (and_l hg) | refine And.intro ?_ ?_)
        refine AG.q hC rfl ?_ ?_
        · intro hg; refine And.intro ?_ ?_ <;> repeat' (first | exact True.intro | exact hg | exact and_l hg | exact and_l (and_l hg) | refine And.intro ?_ ?_)
        refine AG.p hC rfl ?_ ?_
        · intro hg; refine And.intro ?_ (And.intro ?_ ?_) <;> first | exact True.intro | exact fun _ => True.intro | exact And.intro hg True.intro | exact fun h' => And.intro (wb_f h') True.intro | exact fun h' => And.intro (wb_t h') True.intro | exact fun h' => And.intro (and_f hg h') True.intro | exact fun h' => And.intro (and_t hg h') True.intro | exact And.intro (and_l hg) True.intro
        refine AG.q hC rfl ?_ ?_
        · intro hg; refine And.intro ?_ ?_ <;> repeat' (first | exact True.intro | exact hg | exact and_l hg | exact and_l (and_l hg) | refine And.intro ?_ ?_)
        refine AG.q hC rfl ?_ ?_
        · intro hg; refine And.intro ?_ ?_ <;> repeat' (first | exact True.intro | exact hg | exact and_l hg | exact and_l (and_l hg) | refine And.intro ?_ ?_)
        refine AG.q hC rfl ?_ ?_
        · intro hg; refine And.intro ?_ ?_ <;> repeat' (first | exact True.intro | exact hg | exact and_l hg | exact and_l (and_l hg) | refine And.intro ?_ ?_)
        obtain ⟨x9, hx9, hh⟩ := bind_some hh
        refine AG.c rfl rfl (by intro hg; repeat' (first | exact True.intro | exact hg | exact and_l hg | exact and_l (and_l hg) | refine And.intro ?_ ?_)) (fun hw => types_Equal_ok (if_t hw hx9)) ?_
        refine AG.q hC rfl ?_ ?_
        · intro hg; refine And.intro ?_ ?_ <;> repeat' (first | exact True.intro | exact hg | exact and_l hg | exact and_l (and_l hg) | refine And.intro ?_ ?_)
        refine AG.p hC rfl ?_ ?_
        · intro hg; refine And.intro ?_ (And.intro ?_ ?_) <;> first | exact True.intro | exact fun _ => True.intro | exact And.intro hg True.intro | exact fun h' => And.intro (wb_f h') True.intro | exact fun h' => And.intro (wb_t h') True.intro | exact fun h' => And.intro (and_f hg h') True.intro | exact fun h' => And.intro (and_t hg h') True.intro | exact And.intro (and_l hg) True.intro
        refine AG.nil ?_
        refine AOps.nil ?_
        refine AEx.cond rfl (fun hb => ?_) (fun hb => ?_)
        · replace hh := if_t hb hh
          refine AEx.seq ?_
          refine AEx.regionN rfl rfl ?_
          refine AOps.q hC rfl trivial ?_
          refine AOps.nil ?_
          refine AEx.ret ?_
          obtain rfl := Option.some.inj hh
          exact ⟨_, _, [], rfl, .rfl, trivial, rfl, rfl, rfl, rfl⟩
        · replace hh := if_f hb hh
          refine AEx.skip ?_
          refine AEx.seq ?_
          obtain ⟨x10, hx10, hh⟩ := bind_some hh
          obtain ⟨c3, hh⟩ := asrt_some hh
          refine AEx.drawE hC ?_
          refine ADraw.step rfl (j0 := 0) (js := [2]) (by kernel_rfl) ⟨⟨_, rfl, ?_⟩, ⟨_, rfl, ?_⟩, trivial⟩
          · refine AOps.q hC rfl trivial ?_
            refine AOps.nil ?_
            refine ADraw.step rfl (j0 := 1) (js := [2]) (by kernel_rfl) ⟨⟨_, rfl, ?_⟩, ⟨_, rfl, ?_⟩, trivial⟩
            · refine AOps.g [] rfl (slices_Clone_api_Decl_api_Decl_ok hx10) ⟨.rfl, trivial⟩ rfl trivial rfl rfl ?_
              refine AOps.nil ?_
              refine ADraw.step rfl (j0 := 2) (js := []) (by kernel_rfl) ⟨⟨_, rfl, ?_⟩, trivial⟩
              refine AOps.q hC rfl trivial ?_
              refine AOps.nil ?_
              refine ADraw.step rfl (j0 := 3) (js := []) (by kernel_rfl) ⟨⟨_, rfl, ?_⟩, trivial⟩
              refine AOps.q hC rfl trivial ?_
              refine AOps.nil ?_
              refine ADraw.step rfl (j0 := 4) (js := []) (by kernel_rfl) ⟨⟨_, rfl, ?_⟩, trivial⟩
              refine AOps.be hC rfl (ApiDecl.rows_map [(ApiDecl.mk 0 [117, 110, 117, 115, 101, 100, 110, 97, 109, 101] more 0 (ApiExpr.mk 0 0 [] []) [] [] [])]).symm ?_
              refine AOps.nil ?_
              refine ADraw.step rfl (j0 := 5) (js := []) (by kernel_rfl) ⟨⟨_, rfl, ?_⟩, trivial⟩
              refine AOps.ap hC rfl (rs := ApiDecl.rows (x10 ++ [(ApiDecl.mk 0 [117, 110, 117, 115, 101, 100, 110, 97, 109, 101] more 0 (ApiExpr.mk 0 0 [] []) [] [] [])])) (ApiDecl.app x10 [(ApiDecl.mk 0 [117, 110, 117, 115, 101, 100, 110, 97, 109, 101] more 0 (ApiExpr.mk 0 0 [] []) [] [] [])]) (ApiDecl.sz x10) (ApiDecl.sz [(ApiDecl.mk 0 [117, 110, 117, 115, 101, 100, 110, 97, 109, 101] more 0 (ApiExpr.mk 0 0 [] []) [] [] [])]) (room_of (ApiDecl.len x10) (ApiDecl.len [(ApiDecl.mk 0 [117, 110, 117, 115, 101, 100, 110, 97, 109, 101] more 0 (ApiExpr.mk 0 0 [] []) [] [] [])]) c3) ?_
              refine AOps.nil ?_
              refine ADraw.step rfl (j0 := 6) (js := []) (by kernel_rfl) ⟨⟨_, rfl, ?_⟩, trivial⟩
              refine AOps.q hC rfl trivial ?_
              refine AOps.nil ?_
              refine ADraw.nil (by kernel_rfl) ?_
              refine AEx.wk ?_ (law12_TypesExpanded_j1_ok hh)
              exact ⟨⟨⟨.rfl, rfl⟩, ⟨⟨.rfl, rfl⟩, ⟨⟨.rfl, rfl⟩, ⟨⟨.rfl, rfl⟩, ⟨⟨.rfl, rfl⟩, trivial⟩⟩⟩⟩⟩, ⟨⟨rfl, .refl _, rfl⟩, ⟨⟨rfl, .refl _, rfl⟩, ⟨⟨rfl, .refl _, rfl⟩, ⟨trivial, ⟨rfl, trivial⟩⟩⟩⟩⟩, rfl⟩
            · refine AOps.q hC rfl trivial ?_
              refine AOps.nil ?_
              refine ADraw.step rfl (j0 := 1) (js := [3]) (by kernel_rfl) ⟨⟨_, rfl, ?_⟩, ⟨_, rfl, ?_⟩, trivial⟩
              · refine AOps.g [] rfl (slices_Clone_api_Decl_api_Decl_ok hx10) ⟨.rfl, trivial⟩ rfl trivial rfl rfl ?_
                refine AOps.nil ?_
                refine ADraw.step rfl (j0 := 3) (js := []) (by kernel_rfl) ⟨⟨_, rfl, ?_⟩, trivial⟩
                refine AOps.q hC rfl trivial ?_
                refine AOps.nil ?_
                refine ADraw.step rfl (j0 := 4) (js := []) (by kernel_rfl) ⟨⟨_, rfl, ?_⟩, trivial⟩
                refine AOps.be hC rfl (ApiDecl.rows_map [(ApiDecl.mk 0 [117, 110, 117, 115, 101, 100, 110, 97, 109, 101] more 0 (ApiExpr.mk 0 0 [] []) [] [] [])]).symm ?_
                refine AOps.nil ?_
                refine ADraw.step rfl (j0 := 5) (js := []) (by kernel_rfl) ⟨⟨_, rfl, ?_⟩, trivial⟩
                refine AOps.ap hC rfl (rs := ApiDecl.rows (x10 ++ [(ApiDecl.mk 0 [117, 110, 117, 115, 101, 100, 110, 97, 109, 101] more 0 (ApiExpr.mk 0 0 [] []) [] [] [])])) (ApiDecl.app x10 [(ApiDecl.mk 0 [117, 110, 117, 115, 101, 100, 110, 97, 109, 101] more 0 (ApiExpr.mk 0 0 [] []) [] [] [])]) (ApiDecl.sz x10) (ApiDecl.sz [(ApiDecl.mk 0 [117, 110, 117, 115, 101, 100, 110, 97, 109, 101] more 0 (ApiExpr.mk 0 0 [] []) [] [] [])]) (room_of (ApiDecl.len x10) (ApiDecl.len [(ApiDecl.mk 0 [117, 110, 117, 115, 101, 100, 110, 97, 109, 101] more 0 (ApiExpr.mk 0 0 [] []) [] [] [])]) c3) ?_
                refine AOps.nil ?_
                refine ADraw.step rfl (j0 := 6) (js := []) (by kernel_rfl) ⟨⟨_, rfl, ?_⟩, trivial⟩
                refine AOps.q hC rfl trivial ?_
                refine AOps.nil ?_
                refine ADraw.nil (by kernel_rfl) ?_
                refine AEx.wk ?_ (law12_TypesExpanded_j1_ok hh)
                exact ⟨⟨⟨.rfl, rfl⟩, ⟨⟨.rfl, rfl⟩, ⟨⟨.rfl, rfl⟩, ⟨⟨.rfl, rfl⟩, ⟨⟨.rfl, rfl⟩, trivial⟩⟩⟩⟩⟩, ⟨⟨rfl, .refl _, rfl⟩, ⟨⟨rfl, .refl _, rfl⟩, ⟨⟨rfl, .refl _, rfl⟩, ⟨trivial, ⟨rfl, trivial⟩⟩⟩⟩⟩, rfl⟩
              · refine AOps.q hC rfl trivial ?_
                refine AOps.nil ?_
                refine ADraw.step rfl (j0 := 1) (js := [4]) (by kernel_rfl) ⟨⟨_, rfl, ?_⟩, ⟨_, rfl, ?_⟩, trivial⟩
                · refine AOps.g [] rfl (slices_Clone_api_Decl_api_Decl_ok hx10) ⟨.rfl, trivial⟩ rfl trivial rfl rfl ?_
                  refine AOps.nil ?_
                  refine ADraw.step rfl (j0 := 4) (js := []) (by kernel_rfl) ⟨⟨_, rfl, ?_⟩, trivial⟩
                  refine AOps.be hC rfl (ApiDecl.rows_map [(ApiDecl.mk 0 [117, 110, 117, 115, 101, 100, 110, 97, 109, 101] more 0 (ApiExpr.mk 0 0 [] []) [] [] [])]).symm ?_
                  refine AOps.nil ?_
                  refine ADraw.step rfl (j0 := 5) (js := []) (by kernel_rfl) ⟨⟨_, rfl, ?_⟩, trivial⟩
                  refine AOps.ap hC rfl (rs := ApiDecl.rows (x10 ++ [(ApiDecl.mk 0 [117, 110, 117, 115, 101, 100, 110, 97, 109, 101] more 0 (ApiExpr.mk 0 0 [] []) [] [] [])])) (ApiDecl.app x10 [(ApiDecl.mk 0 [117, 110, 117, 115, 101, 100, 110, 97, 109, 101] more 0 (ApiExpr.mk 0 0 [] []) [] [] [])]) (ApiDecl.sz x10) (ApiDecl.sz [(ApiDecl.mk 0 [117, 110, 117, 115, 101, 100, 110, 97, 109, 101] more 0 (ApiExpr.mk 0 0 [] []) [] [] [])]) (room_of (ApiDecl.len x10) (ApiDecl.len [(ApiDecl.mk 0 [117, 110, 117, 115, 101, 100, 110, 97, 109, 101] more 0 (ApiExpr.mk 0 0 [] []) [] [] [])]) c3) ?_
                  refine AOps.nil ?_
                  refine ADraw.step rfl (j0 := 6) (js := []) (by kernel_rfl) ⟨⟨_, rfl, ?_⟩, trivial⟩
                  refine AOps.q hC rfl trivial ?_
                  refine AOps.nil ?_
                  refine ADraw.nil (by kernel_rfl) ?_
                  refine AEx.wk ?_ (law12_TypesExpanded_j1_ok hh)
                  exact ⟨⟨⟨.rfl, rfl⟩, ⟨⟨.rfl, rfl⟩, ⟨⟨.rfl, rfl⟩, ⟨⟨.rfl, rfl⟩, ⟨⟨.rfl, rfl⟩, trivial⟩⟩⟩⟩⟩, ⟨⟨rfl, .refl _, rfl⟩, ⟨⟨rfl, .refl _, rfl⟩, ⟨⟨rfl, .refl _, rfl⟩, ⟨trivial, ⟨rfl, trivial⟩⟩⟩⟩⟩, rfl⟩
                · refine AOps.be hC rfl (ApiDecl.rows_map [(ApiDecl.mk 0 [117, 110, 117, 115, 101, 100, 110, 97, 109, 101] more 0 (ApiExpr.mk 0 0 [] []) [] [] [])]).symm ?_
                  refine AOps.nil ?_
                  refine ADraw.step rfl (j0 := 1) (js := []) (by kernel_rfl) ⟨⟨_, rfl, ?_⟩, trivial⟩
                  refine AOps.g [] rfl (slices_Clone_api_Decl_api_Decl_ok hx10) ⟨.rfl, trivial⟩ rfl trivial rfl rfl ?_
                  refine AOps.nil ?_
                  refine ADraw.step rfl (j0 := 5) (js := []) (by kernel_rfl) ⟨⟨_, rfl, ?_⟩, trivial⟩
                  refine AOps.ap hC rfl (rs := ApiDecl.rows (x10 ++ [(ApiDecl.mk 0 [117, 110, 117, 115, 101, 100, 110, 97, 109, 101] more 0 (ApiExpr.mk 0 0 [] []) [] [] [])])) (ApiDecl.app x10 [(ApiDecl.mk 0 [117, 110, 117, 115, 101, 100, 110, 97, 109, 101] more 0 (ApiExpr.mk 0 0 [] []) [] [] [])]) (ApiDecl.sz x10) (ApiDecl.sz [(ApiDecl.mk 0 [117, 110, 117, 115, 101, 100, 110, 97, 109, 101] more 0 (ApiExpr.mk 0 0 [] []) [] [] [])]) (room_of (ApiDecl.len x10) (ApiDecl.len [(ApiDecl.mk 0 [117, 110, 117, 115, 101, 100, 110, 97, 109, 101] more 0 (ApiExpr.mk 0 0 [] []) [] [] [])]) c3) ?_
                  refine AOps.nil ?_
                  refine ADraw.step rfl (j0 := 6) (js := []) (by kernel_rfl) ⟨⟨_, rfl, ?_⟩, trivial⟩
                  refine AOps.q hC rfl trivial ?_
                  refine AOps.nil ?_
                  refine ADraw.nil (by kernel_rfl) ?_
                  refine AEx.wk ?_ (law12_TypesExpanded_j1_ok hh)
                  exact ⟨⟨⟨.rfl, rfl⟩, ⟨⟨.rfl, rfl⟩, ⟨⟨.rfl, rfl⟩, ⟨⟨.rfl, rfl⟩, ⟨⟨.rfl, rfl⟩, trivial⟩⟩⟩⟩⟩, ⟨⟨rfl, .refl _, rfl⟩, ⟨⟨rfl, .refl _, rfl⟩, ⟨⟨rfl, .refl _, rfl⟩, ⟨trivial, ⟨rfl, trivial⟩⟩⟩⟩⟩, rfl⟩
          · refine AOps.q hC rfl trivial ?_
            refine AOps.nil ?_
            refine ADraw.step rfl (j0 := 0) (js := [3]) (by kernel_rfl) ⟨⟨_, rfl, ?_⟩, ⟨_, rfl, ?_⟩, trivial⟩
            · refine AOps.q hC rfl trivial ?_
              refine AOps.nil ?_
              refine ADraw.step rfl (j0 := 1) (js := [3]) (by kernel_rfl) ⟨⟨_, rfl, ?_⟩, ⟨_, rfl, ?_⟩, trivial⟩
              · refine AOps.g [] rfl (slices_Clone_api_Decl_api_Decl_ok hx10) ⟨.rfl, trivial⟩ rfl trivial rfl rfl ?_
                refine AOps.nil ?_
                refine ADraw.step rfl (j0 := 3) (js := []) (by kernel_rfl) ⟨⟨_, rfl, ?_⟩, trivial⟩
                refine AOps.q hC rfl trivial ?_
                refine AOps.nil ?_
                refine ADraw.step rfl (j0 := 4) (js := []) (by kernel_rfl) ⟨⟨_, rfl, ?_⟩, trivial⟩
                refine AOps.be hC rfl (ApiDecl.rows_map [(ApiDecl.mk 0 [117, 110, 117, 115, 101, 100, 110, 97, 109, 101] more 0 (ApiExpr.mk 0 0 [] []) [] [] [])]).symm ?_
                refine AOps.nil ?_
                refine ADraw.step rfl (j0 := 5) (js := []) (by kernel_rfl) ⟨⟨_, rfl, ?_⟩, trivial⟩
                refine AOps.ap hC rfl (rs := ApiDecl.rows (x10 ++ [(ApiDecl.mk 0 [117, 110, 117, 115, 101, 100, 110, 97, 109, 101] more 0 (ApiExpr.mk 0 0 [] []) [] [] [])])) (ApiDecl.app x10 [(ApiDecl.mk 0 [117, 110, 117, 115, 101, 100, 110, 97, 109, 101] more 0 (ApiExpr.mk 0 0 [] []) [] [] [])]) (ApiDecl.sz x10) (ApiDecl.sz [(ApiDecl.mk 0 [117, 110, 117, 115, 101, 100, 110, 97, 109, 101] more 0 (ApiExpr.mk 0 0 [] []) [] [] [])]) (room_of (ApiDecl.len x10) (ApiDecl.len [(ApiDecl.mk 0 [117, 110, 117, 115, 101, 100, 110, 97, 109, 101] more 0 (ApiExpr.mk 0 0 [] []) [] [] [])]) c3) ?_
                refine AOps.nil ?_
                refine ADraw.step rfl (j0 := 6) (js := []) (by kernel_rfl) ⟨⟨_, rfl, ?_⟩, trivial⟩
                refine AOps.q hC rfl trivial ?_
                refine AOps.nil ?_
                refine ADraw.nil (by kernel_rfl) ?_
                refine AEx.wk ?_ (law12_TypesExpanded_j1_ok hh)
                exact ⟨⟨⟨.rfl, rfl⟩, ⟨⟨.rfl, rfl⟩, ⟨⟨.rfl, rfl⟩, ⟨⟨.rfl, rfl⟩, ⟨⟨.rfl, rfl⟩, trivial⟩⟩⟩⟩⟩, ⟨⟨rfl, .refl _, rfl⟩, ⟨⟨rfl, .refl _, rfl⟩, ⟨⟨rfl, .refl _, rfl⟩, ⟨trivial, ⟨rfl, trivial⟩⟩⟩⟩⟩, rfl⟩
              · refine AOps.q hC rfl trivial ?_
                refine AOps.nil ?_
                refine ADraw.step rfl (j0 := 1) (js := [4]) (by kernel_rfl) ⟨⟨_, rfl, ?_⟩, ⟨_, rfl, ?_⟩, trivial⟩
                · refine AOps.g [] rfl (slices_Clone_api_Decl_api_Decl_ok hx10) ⟨.rfl, trivial⟩ rfl trivial rfl rfl ?_
                  refine AOps.nil ?_
                  refine ADraw.step rfl (j0 := 4) (js := []) (by kernel_rfl) ⟨⟨_, rfl, ?_⟩, trivial⟩
                  refine AOps.be hC rfl (ApiDecl.rows_map [(ApiDecl.mk 0 [117, 110, 117, 115, 101, 100, 110, 97, 109, 101] more 0 (ApiExpr.mk 0 0 [] []) [] [] [])]).symm ?_
                  refine AOps.nil ?_
                  refine ADraw.step rfl (j0 := 5) (js := []) (by kernel_rfl) ⟨⟨_, rfl, ?_⟩, trivial⟩
                  refine AOps.ap hC rfl (rs := ApiDecl.rows (x10 ++ [(ApiDecl.mk 0 [117, 110, 117, 115, 101, 100, 110, 97, 109, 101] more 0 (ApiExpr.mk 0 0 [] []) [] [] [])])) (ApiDecl.app x10 [(ApiDecl.mk 0 [117, 110, 117, 115, 101, 100, 110, 97, 109, 101] more 0 (ApiExpr.mk 0 0 [] []) [] [] [])]) (ApiDecl.sz x10) (ApiDecl.sz [(ApiDecl.mk 0 [117, 110, 117, 115, 101, 100, 110, 97, 109, 101] more 0 (ApiExpr.mk 0 0 [] []) [] [] [])]) (room_of (ApiDecl.len x10) (ApiDecl.len [(ApiDecl.mk 0 [117, 110, 117, 115, 101, 100, 110, 97, 109, 101] more 0 (ApiExpr.mk 0 0 [] []) [] [] [])]) c3) ?_
                  refine AOps.nil ?_
                  refine ADraw.step rfl (j0 := 6) (js := []) (by kernel_rfl) ⟨⟨_, rfl, ?_⟩, trivial⟩
                  refine AOps.q hC rfl trivial ?_
                  refine AOps.nil ?_
                  refine ADraw.nil (by kernel_rfl) ?_
                  refine AEx.wk ?_ (law12_TypesExpanded_j1_ok hh)
                  exact ⟨⟨⟨.rfl, rfl⟩, ⟨⟨.rfl, rfl⟩, ⟨⟨.rfl, rfl⟩, ⟨⟨.rfl, rfl⟩, ⟨⟨.rfl, rfl⟩, trivial⟩⟩⟩⟩⟩, ⟨⟨rfl, .refl _, rfl⟩, ⟨⟨rfl, .refl _, rfl⟩, ⟨⟨rfl, .refl _, rfl⟩, ⟨trivial, ⟨rfl, trivial⟩⟩⟩⟩⟩, rfl⟩
                · refine AOps.be hC rfl (ApiDecl.rows_map [(ApiDecl.mk 0 [117, 110, 117, 115, 101, 100, 110, 97, 109, 101] more 0 (ApiExpr.mk 0 0 [] []) [] [] [])]).symm ?_
                  refine AOps.nil ?_
                  refine ADraw.step rfl (j0 := 1) (js := []) (by kernel_rfl) ⟨⟨_, rfl, ?_⟩, trivial⟩
                  refine AOps.g [] rfl (slices_Clone_api_Decl_api_Decl_ok hx10) ⟨.rfl, trivial⟩ rfl trivial rfl rfl ?_
                  refine AOps.nil ?_
                  refine ADraw.step rfl (j0 := 5) (js := []) (by kernel_rfl) ⟨⟨_, rfl, ?_⟩, trivial⟩
                  refine AOps.ap hC rfl (rs := ApiDecl.rows (x10 ++ [(ApiDecl.mk 0 [117, 110, 117, 115, 101, 100, 110, 97, 109, 101] more 0 (ApiExpr.mk 0 0 [] []) [] [] [])])) (ApiDecl.app x10 [(ApiDecl.mk 0 [117, 110, 117, 115, 101, 100, 110, 97, 109, 101] more 0 (ApiExpr.mk 0 0 [] []) [] [] [])]) (ApiDecl.sz x10) (ApiDecl.sz [(ApiDecl.mk 0 [117, 110, 117, 115, 101, 100, 110, 97, 109, 101] more 0 (ApiExpr.mk 0 0 [] []) [] [] [])]) (room_of (ApiDecl.len x10) (ApiDecl.len [(ApiDecl.mk 0 [117, 110, 117, 115, 101, 100, 110, 97, 109, 101] more 0 (ApiExpr.mk 0 0 [] []) [] [] [])]) c3) ?_
                  refine AOps.nil ?_
                  refine ADraw.step rfl (j0 := 6) (js := []) (by kernel_rfl) ⟨⟨_, rfl, ?_⟩, trivial⟩
                  refine AOps.q hC rfl trivial ?_
                  refine AOps.nil ?_
                  refine ADraw.nil (by kernel_rfl) ?_
                  refine AEx.wk ?_ (law12_TypesExpanded_j1_ok hh)
                  exact ⟨⟨⟨.rfl, rfl⟩, ⟨⟨.rfl, rfl⟩, ⟨⟨.rfl, rfl⟩, ⟨⟨.rfl, rfl⟩, ⟨⟨.rfl, rfl⟩, trivial⟩⟩⟩⟩⟩, ⟨⟨rfl, .refl _, rfl⟩, ⟨⟨rfl, .refl _, rfl⟩, ⟨⟨rfl, .refl _, rfl⟩, ⟨trivial, ⟨rfl, trivial⟩⟩⟩⟩⟩, rfl⟩
            · refine AOps.q hC rfl trivial ?_
              refine AOps.nil ?_
              refine ADraw.step rfl (j0 := 0) (js := [4]) (by kernel_rfl) ⟨⟨_, rfl, ?_⟩, ⟨_, rfl, ?_⟩, trivial⟩
              · refine AOps.q hC rfl trivial ?_
                refine AOps.nil ?_
                refine ADraw.step rfl (j0 := 1) (js := [4]) (by kernel_rfl) ⟨⟨_, rfl, ?_⟩, ⟨_, rfl, ?_⟩, trivial⟩
                · refine AOps.g [] rfl (slices_Clone_api_Decl_api_Decl_ok hx10) ⟨.rfl, trivial⟩ rfl trivial rfl rfl ?_
                  refine AOps.nil ?_
                  refine ADraw.step rfl (j0 := 4) (js := []) (by kernel_rfl) ⟨⟨_, rfl, ?_⟩, trivial⟩
                  refine AOps.be hC rfl (ApiDecl.rows_map [(ApiDecl.mk 0 [117, 110, 117, 115, 101, 100, 110, 97, 109, 101] more 0 (ApiExpr.mk 0 0 [] []) [] [] [])]).symm ?_
                  refine AOps.nil ?_
                  refine ADraw.step rfl (j0 := 5) (js := []) (by kernel_rfl) ⟨⟨_, rfl, ?_⟩, trivial⟩
                  refine AOps.ap hC rfl (rs := ApiDecl.rows (x10 ++ [(ApiDecl.mk 0 [117, 110, 117, 115, 101, 100, 110, 97, 109, 101] more 0 (ApiExpr.mk 0 0 [] []) [] [] [])])) (ApiDecl.app x10 [(ApiDecl.mk 0 [117, 110, 117, 115, 101, 100, 110, 97, 109, 101] more 0 (ApiExpr.mk 0 0 [] []) [] [] [])]) (ApiDecl.sz x10) (ApiDecl.sz [(ApiDecl.mk 0 [117, 110, 117, 115, 101, 100, 110, 97, 109, 101] more 0 (ApiExpr.mk 0 0 [] []) [] [] [])]) (room_of (ApiDecl.len x10) (ApiDecl.len [(ApiDecl.mk 0 [117, 110, 117, 115, 101, 100, 110, 97, 109, 101] more 0 (ApiExpr.mk 0 0 [] []) [] [] [])]) c3) ?_
                  refine AOps.nil ?_
                  refine ADraw.step rfl (j0 := 6) (js := []) (by kernel_rfl) ⟨⟨_, rfl, ?_⟩, trivial⟩
                  refine AOps.q hC rfl trivial ?_
                  refine AOps.nil ?_
                  refine ADraw.nil (by kernel_rfl) ?_
                  refine AEx.wk ?_ (law12_TypesExpanded_j1_ok hh)
                  exact ⟨⟨⟨.rfl, rfl⟩, ⟨⟨.rfl, rfl⟩, ⟨⟨.rfl, rfl⟩, ⟨⟨.rfl, rfl⟩, ⟨⟨.rfl, rfl⟩, trivial⟩⟩⟩⟩⟩, ⟨⟨rfl, .refl _, rfl⟩, ⟨⟨rfl, .refl _, rfl⟩, ⟨⟨rfl, .refl _, rfl⟩, ⟨trivial, ⟨rfl, trivial⟩⟩⟩⟩⟩, rfl⟩
                · refine AOps.be hC rfl (ApiDecl.rows_map [(ApiDecl.mk 0 [117, 110, 117, 115, 101, 100, 110, 97, 109, 101] more 0 (ApiExpr.mk 0 0 [] []) [] [] [])]).symm ?_
                  refine AOps.nil ?_
                  refine ADraw.step rfl (j0 := 1) (js := []) (by kernel_rfl) ⟨⟨_, rfl, ?_⟩, trivial⟩
                  refine AOps.g [] rfl (slices_Clone_api_Decl_api_Decl_ok hx10) ⟨.rfl, trivial⟩ rfl trivial rfl rfl ?_
                  refine AOps.nil ?_
                  refine ADraw.step rfl (j0 := 5) (js := []) (by kernel_rfl) ⟨⟨_, rfl, ?_⟩, trivial⟩
                  refine AOps.ap hC rfl (rs := ApiDecl.rows (x10 ++ [(ApiDecl.mk 0 [117, 110, 117, 115, 101, 100, 110, 97, 109, 101] more 0 (ApiExpr.mk 0 0 [] []) [] [] [])])) (ApiDecl.app x10 [(ApiDecl.mk 0 [117, 110, 117, 115, 101, 100, 110, 97, 109, 101] more 0 (ApiExpr.mk 0 0 [] []) [] [] [])]) (ApiDecl.sz x10) (ApiDecl.sz [(ApiDecl.mk 0 [117, 110, 117, 115, 101, 100, 110, 97, 109, 101] more 0 (ApiExpr.mk 0 0 [] []) [] [] [])]) (room_of (ApiDecl.len x10) (ApiDecl.len [(ApiDecl.mk 0 [117, 110, 117, 115, 101, 100, 110, 97, 109, 101] more 0 (ApiExpr.mk 0 0 [] []) [] [] [])]) c3) ?_
                  refine AOps.nil ?_
                  refine ADraw.step rfl (j0 := 6) (js := []) (by kernel_rfl) ⟨⟨_, rfl, ?_⟩, trivial⟩
                  refine AOps.q hC rfl trivial ?_
                  refine AOps.nil ?_
                  refine ADraw.nil (by kernel_rfl) ?_
                  refine AEx.wk ?_ (law12_TypesExpanded_j1_ok hh)
                  exact ⟨⟨⟨.rfl, rfl⟩, ⟨⟨.rfl, rfl⟩, ⟨⟨.rfl, rfl⟩, ⟨⟨.rfl, rfl⟩, ⟨⟨.rfl, rfl⟩, trivial⟩⟩⟩⟩⟩, ⟨⟨rfl, .refl _, rfl⟩, ⟨⟨rfl, .refl _, rfl⟩, ⟨⟨rfl, .refl _, rfl⟩, ⟨trivial, ⟨rfl, trivial⟩⟩⟩⟩⟩, rfl⟩
              · refine AOps.be hC rfl (ApiDecl.rows_map [(ApiDecl.mk 0 [117, 110, 117, 115, 101, 100, 110, 97, 109, 101] more 0 (ApiExpr.mk 0 0 [] []) [] [] [])]).symm ?_
                refine AOps.nil ?_
                refine ADraw.step rfl (j0 := 0) (js := []) (by kernel_rfl) ⟨⟨_, rfl, ?_⟩, trivial⟩
                refine AOps.q hC rfl trivial ?_
                refine AOps.nil ?_
                refine ADraw.step rfl (j0 := 1) (js := []) (by kernel_rfl) ⟨⟨_, rfl, ?_⟩, trivial⟩
                refine AOps.g [] rfl (slices_Clone_api_Decl_api_Decl_ok hx10) ⟨.rfl, trivial⟩ rfl trivial rfl rfl ?_
                refine AOps.nil ?_
                refine ADraw.step rfl (j0 := 5) (js := []) (by kernel_rfl) ⟨⟨_, rfl, ?_⟩, trivial⟩
                refine AOps.ap hC rfl (rs := ApiDecl.rows (x10 ++ [(ApiDecl.mk 0 [117, 110, 117, 115, 101, 100, 110, 97, 109, 101] more 0 (ApiExpr.mk 0 0 [] []) [] [] [])])) (ApiDecl.app x10 [(ApiDecl.mk 0 [117, 110, 117, 115, 101, 100, 110, 97, 109, 101] more 0 (ApiExpr.mk 0 0 [] []) [] [] [])]) (ApiDecl.sz x10) (ApiDecl.sz [(ApiDecl.mk 0 [117, 110, 117, 115, 101, 100, 110, 97, 109, 101] more 0 (ApiExpr.mk 0 0 [] []) [] [] [])]) (room_of (ApiDecl.len x10) (ApiDecl.len [(ApiDecl.mk 0 [117, 110, 117, 115, 101, 100, 110, 97, 109, 101] more 0 (ApiExpr.mk 0 0 [] []) [] [] [])]) c3) ?_
                refine AOps.nil ?_
                refine ADraw.step rfl (j0 := 6) (js := []) (by kernel_rfl) ⟨⟨_, rfl, ?_⟩, trivial⟩
                refine AOps.q hC rfl trivial ?_
                refine AOps.nil ?_
                refine ADraw.nil (by kernel_rfl) ?_
                refine AEx.wk ?_ (law12_TypesExpanded_j1_ok hh)
                exact ⟨⟨⟨.rfl, rfl⟩, ⟨⟨.rfl, rfl⟩, ⟨⟨.rfl, rfl⟩, ⟨⟨.rfl, rfl⟩, ⟨⟨.rfl, rfl⟩, trivial⟩⟩⟩⟩⟩, ⟨⟨rfl, .refl _, rfl⟩, ⟨⟨rfl, .refl _, rfl⟩, ⟨⟨rfl, .refl _, rfl⟩, ⟨trivial, ⟨rfl, trivial⟩⟩⟩⟩⟩, rfl⟩
end Go.Proofs.YtonilfkaecbjnaaDoor
