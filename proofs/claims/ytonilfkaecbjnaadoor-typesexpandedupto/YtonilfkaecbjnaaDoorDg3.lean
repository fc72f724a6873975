/- What the functions compute, and that they do: printed by gen.py. -/
import Derived.Test.YtonilfkaecbjnaaDoorDg2
set_option maxRecDepth 100000
set_option maxHeartbeats 4000000
set_option linter.unusedVariables false
namespace Go.Proofs.YtonilfkaecbjnaaDoor
open Go.Am
def slices_Equal_int_int (s1 : List Int) (s2 : List Int) : Option Bool :=
  if (((s1).length : Int) != ((s2).length : Int)) = true then
    some false
  else
    slices_Equal_int_int_l1 s1 s2 0
theorem slices_Equal_int_int_ok {s1 : List Int} {s2 : List Int} {res : Bool} (hh : slices_Equal_int_int s1 s2 = some res) : ACall C 29 [.d (.sl (ei64.rows s1)), .d (.sl (ei64.rows s2))] [] (fun x H' => H' = [] ∧ x = .d (.bool res)) := by
  unfold slices_Equal_int_int at hh
  refine ACall.intro hC Tryd.func29 rfl rfl rfl ?_
  refine AEx.seq ?_
  refine AEx.regionN rfl rfl ?_
  refine AOps.q hC rfl trivial ?_
  refine AOps.nil ?_
  refine AEx.seq ?_
  refine AEx.seq ?_
  refine AEx.regionN rfl rfl ?_
  refine AOps.q hC rfl trivial ?_
  refine AOps.qe hC rfl trivial (ei64.lenA _) ?_
  refine AOps.q hC rfl trivial ?_
  refine AOps.qe hC rfl trivial (ei64.lenA _) ?_
  refine AOps.q hC rfl trivial ?_
  refine AOps.nil ?_
  refine AEx.cond rfl (fun hb => ?_) (fun hb => ?_)
  · replace hh := if_t hb hh
    refine AEx.seq ?_
    refine AEx.regionN rfl rfl ?_
    refine AOps.q hC rfl trivial ?_
    refine AOps.nil ?_
    refine AEx.ret ?_
    obtain rfl := Option.some.inj hh
    exact ⟨_, _, [], rfl, .rfl, trivial, rfl, rfl, rfl, rfl⟩
  · replace hh := if_f hb hh
    refine AEx.skip ?_
    refine AEx.seq ?_
    refine AEx.seq ?_
    refine AEx.regionN rfl rfl ?_
    refine AOps.q hC rfl trivial ?_
    refine AOps.qe hC rfl trivial (ei64.lenA _) ?_
    refine AOps.q hC rfl trivial ?_
    refine AOps.nil ?_
    refine AEx.block ?_
    refine AEx.ofLoop ?_
    refine ALoop.wk ?_ (slices_Equal_int_int_l1_ok hh)
    exact ⟨⟨⟨.rfl, rfl⟩, ⟨⟨.rfl, rfl⟩, ⟨⟨.rfl, rfl⟩, ⟨⟨.rfl, rfl⟩, trivial⟩⟩⟩⟩, trivial, rfl⟩
def types_Contains (t : ApiType) (list : List Int) : Option Bool :=
  types_Clamp t list >>= fun x1 =>
  (if (x1.2 == 0) = true then slices_Equal_int_int x1.1 list else some default) >>= fun x2 =>
  some (bif (x1.2 == 0) then x2 else false)
theorem types_Contains_ok {t : ApiType} {list : List Int} {res : Bool} (hh : types_Contains t list = some res) : ACall C 27 [.agg (ApiType.cells t), .d (.sl (ei64.rows list))] [] (fun x H' => H' = [] ∧ x = .d (.bool res)) := by
  unfold types_Contains at hh
  refine ACall.intro hC Tryd.func27 rfl rfl rfl ?_
  refine AEx.seq ?_
  refine AEx.regionN rfl rfl ?_
  refine AOps.n hC rfl ?_
  refine AOps.q hC rfl trivial ?_
  refine AOps.nil ?_
  refine AEx.seq ?_
  refine AEx.regionN rfl rfl ?_
  iterate 2 refine AOps.q hC rfl trivial ?_
  obtain ⟨x1, hx1, hh⟩ := bind_some hh
  refine AOps.c rfl rfl (types_Clamp_ok hx1) ?_
  iterate 5 refine AOps.q hC rfl trivial ?_
  refine AOps.nil ?_
  refine AEx.seq ?_
  refine AEx.regionG 8 rfl ?_
  refine AG.q hC rfl ?_ ?_
  · intro hg; refine And.intro ?_ ?_ <;> repeat' (first | exact True.intro | exact hg | exact and_l hg | exact and_l (and_l hg) | refine And.intro ?_ ?_)
  refine AG.q hC rfl ?_ ?_
  · intro hg; refine And.intro ?_ ?_ <;> repeat' (first | exact True.intro | exact hg | exact and_l hg | exact and_l (and_l hg) | refine And.intro ?_ ?_)
  refine AG.q hC rfl ?_ ?_
  · intro hg; refine And.intro ?_ ?_ <;> repeat' (first | exact True.intro | exact hg | exact and_l hg | exact and_l (and_l hg) | refine And.intro ?_ ?_)
  refine AG.q hC rfl ?_ ?_
  · intro hg; refine And.intro ?_ ?_ <;> repeat' (first | exact True.intro | exact hg | exact and_l hg | exact and_l (and_l hg) | refine And.intro ?_ ?_)
  refine AG.q hC rfl ?_ ?_
  · intro hg; refine And.intro ?_ ?_ <;> repeat' (first | exact True.intro | exact hg | exact and_l hg | exact and_l (and_l hg) | refine And.intro ?_ ?_)
  obtain ⟨x2, hx2, hh⟩ := bind_some hh
  refine AG.c rfl rfl (by intro hg; repeat' (first | exact True.intro | exact hg | exact and_l hg | exact and_l (and_l hg) | refine And.intro ?_ ?_)) (fun hw => slices_Equal_int_int_ok (if_t hw hx2)) ?_
  refine AG.p hC rfl ?_ ?_
  · intro hg; refine And.intro ?_ (And.intro ?_ ?_) <;> first | exact True.intro | exact fun _ => True.intro | exact And.intro hg True.intro | exact fun h' => And.intro (wb_f h') True.intro | exact fun h' => And.intro (wb_t h') True.intro | exact fun h' => And.intro (and_f hg h') True.intro | exact fun h' => And.intro (and_t hg h') True.intro | exact And.intro (and_l hg) True.intro
  refine AG.q hC rfl ?_ ?_
  · intro hg; refine And.intro ?_ ?_ <;> repeat' (first | exact True.intro | exact hg | exact and_l hg | exact and_l (and_l hg) | refine And.intro ?_ ?_)
  refine AG.nil ?_
  refine AOps.nil ?_
  refine AEx.ret ?_
  obtain rfl := Option.some.inj hh
  exact ⟨_, _, [], rfl, .rfl, trivial, rfl, rfl, rfl, rfl⟩
def law12_known : Option Bool :=
  types_Expand [(ApiDecl.mk 0 [98, 105, 116] (ApiType.mk 0 0 0 0 [] [] []) 0 (ApiExpr.mk 0 0 [] []) [] [] []), (ApiDecl.mk 0 [112, 97, 105, 114] (ApiType.mk 3 0 0 0 [] [[97], [98]] [(ApiType.mk 4 0 0 0 [98, 105, 116] [] []), (ApiType.mk 1 1 3 0 [] [] [])]) 0 (ApiExpr.mk 0 0 [] []) [] [] [])] (ApiType.mk 2 0 0 2 [] [] [(ApiType.mk 4 0 0 0 [112, 97, 105, 114] [] [])]) >>= fun x1 =>
  types_Scalars x1.1 >>= fun x2 =>
  types_Values x1.1 >>= fun x3 =>
  types_Clamp x1.1 [5, 0, (-1), 2] >>= fun x4 =>
  (if (bif ((IntKind.i64.wrap ((IntKind.i64.wrap ((IntKind.i64.wrap (x1.2 + x2.2)) + x3.2)) + x4.2)) == 0) then (((x2.1).length : Int) == 4) else false) = true then idx x2.1 2 else some default) >>= fun x5 =>
  (if (bif (bif (bif ((IntKind.i64.wrap ((IntKind.i64.wrap ((IntKind.i64.wrap (x1.2 + x2.2)) + x3.2)) + x4.2)) == 0) then (((x2.1).length : Int) == 4) else false) then (bif (x5.Path == [46, 49, 46, 97]) then (bif (x5.Bool == true) then (bif (x5.Low == 0) then (bif (x5.High == 1) then true else false) else false) else false) else false) else false) then (x3.1 == 36) else false) = true then slices_Equal_int_int x4.1 [1, 1, 0, 2] else some default) >>= fun x6 =>
  (if (bif (bif (bif (bif ((IntKind.i64.wrap ((IntKind.i64.wrap ((IntKind.i64.wrap (x1.2 + x2.2)) + x3.2)) + x4.2)) == 0) then (((x2.1).length : Int) == 4) else false) then (bif (x5.Path == [46, 49, 46, 97]) then (bif (x5.Bool == true) then (bif (x5.Low == 0) then (bif (x5.High == 1) then true else false) else false) else false) else false) else false) then (x3.1 == 36) else false) then x6 else false) = true then types_Contains x1.1 x4.1 else some default) >>= fun x7 =>
  (if (bif (bif (bif (bif (bif ((IntKind.i64.wrap ((IntKind.i64.wrap ((IntKind.i64.wrap (x1.2 + x2.2)) + x3.2)) + x4.2)) == 0) then (((x2.1).length : Int) == 4) else false) then (bif (x5.Path == [46, 49, 46, 97]) then (bif (x5.Bool == true) then (bif (x5.Low == 0) then (bif (x5.High == 1) then true else false) else false) else false) else false) else false) then (x3.1 == 36) else false) then x6 else false) then x7 else false) = true then types_Check (ApiType.mk 4 0 0 0 [112, 97, 105, 114] [] []) else some default) >>= fun x8 =>
  some (bif (bif (bif (bif (bif (bif ((IntKind.i64.wrap ((IntKind.i64.wrap ((IntKind.i64.wrap (x1.2 + x2.2)) + x3.2)) + x4.2)) == 0) then (((x2.1).length : Int) == 4) else false) then (bif (x5.Path == [46, 49, 46, 97]) then (bif (x5.Bool == true) then (bif (x5.Low == 0) then (bif (x5.High == 1) then true else false) else false) else false) else false) else false) then (x3.1 == 36) else false) then x6 else false) then x7 else false) then (x8 == 7) else false)
theorem law12_known_ok {res : Bool} (hh : law12_known = some res) : ACall C 13 [] [] (fun x H' => H' = [] ∧ x = .d (.bool res)) := by
  unfold law12_known at hh
  refine ACall.intro hC Tryd.func13 rfl rfl rfl ?_
  refine AEx.seq ?_
  refine AEx.regionN rfl rfl ?_
  refine AOps.q hC rfl trivial ?_
  refine AOps.nil ?_
  refine AEx.seq ?_
  refine AEx.regionN rfl rfl ?_
  refine AOps.q hC rfl trivial ?_
  refine AOps.be hC rfl (estr.rows_map [[97], [98]]).symm ?_
  iterate 2 refine AOps.q hC rfl trivial ?_
  refine AOps.be hC rfl (ApiType.rows_map [(ApiType.mk 4 0 0 0 [98, 105, 116] [] []), (ApiType.mk 1 1 3 0 [] [] [])]).symm ?_
  iterate 2 refine AOps.q hC rfl trivial ?_
  refine AOps.be hC rfl (ApiDecl.rows_map [(ApiDecl.mk 0 [98, 105, 116] (ApiType.mk 0 0 0 0 [] [] []) 0 (ApiExpr.mk 0 0 [] []) [] [] []), (ApiDecl.mk 0 [112, 97, 105, 114] (ApiType.mk 3 0 0 0 [] [[97], [98]] [(ApiType.mk 4 0 0 0 [98, 105, 116] [] []), (ApiType.mk 1 1 3 0 [] [] [])]) 0 (ApiExpr.mk 0 0 [] []) [] [] [])]).symm ?_
  refine AOps.q hC rfl trivial ?_
  refine AOps.nil ?_
  refine AEx.seq ?_
  refine AEx.regionN rfl rfl ?_
  iterate 2 refine AOps.q hC rfl trivial ?_
  refine AOps.be hC rfl (ApiType.rows_map [(ApiType.mk 4 0 0 0 [112, 97, 105, 114] [] [])]).symm ?_
  refine AOps.q hC rfl trivial ?_
  obtain ⟨x1, hx1, hh⟩ := bind_some hh
  refine AOps.cl rfl (types_Expand_ok hx1) ⟨.full, ⟨(.aggL ⟨.rfl, ⟨.rfl, ⟨.rfl, ⟨.rfl, ⟨.rfl, ⟨.rfl, ⟨.full, trivial⟩⟩⟩⟩⟩⟩⟩), trivial⟩⟩ rfl ?_
  iterate 3 refine AOps.q hC rfl trivial ?_
  refine AOps.nf hC rfl ?_
  refine AOps.s hC rfl ?_
  refine AOps.q hC rfl trivial ?_
  refine AOps.nil ?_
  refine AEx.seq ?_
  refine AEx.regionN rfl rfl ?_
  refine AOps.q hC rfl trivial ?_
  obtain ⟨x2, hx2, hh⟩ := bind_some hh
  refine AOps.c rfl rfl (types_Scalars_ok hx2) ?_
  iterate 5 refine AOps.q hC rfl trivial ?_
  refine AOps.nil ?_
  refine AEx.seq ?_
  refine AEx.regionN rfl rfl ?_
  refine AOps.q hC rfl trivial ?_
  obtain ⟨x3, hx3, hh⟩ := bind_some hh
  refine AOps.c rfl rfl (types_Values_ok hx3) ?_
  iterate 5 refine AOps.q hC rfl trivial ?_
  refine AOps.nil ?_
  refine AEx.seq ?_
  refine AEx.regionN rfl rfl ?_
  refine AOps.q hC rfl trivial ?_
  refine AOps.be hC rfl (ei64.rows_map [5, 0, (-1), 2]).symm ?_
  obtain ⟨x4, hx4, hh⟩ := bind_some hh
  refine AOps.cl rfl (types_Clamp_ok hx4) ⟨.rfl, ⟨.full, trivial⟩⟩ rfl ?_
  iterate 5 refine AOps.q hC rfl trivial ?_
  refine AOps.nil ?_
  refine AEx.seq ?_
  refine AEx.regionG 40 rfl ?_
  refine AG.q hC rfl ?_ ?_
  · intro hg; refine And.intro ?_ ?_ <;> repeat' (first | exact True.intro | exact hg | exact and_l hg | exact and_l (and_l hg) | refine And.intro ?_ ?_)
  refine AG.q hC rfl ?_ ?_
  · intro hg; refine And.intro ?_ ?_ <;> repeat' (first | exact True.intro | exact hg | exact and_l hg | exact and_l (and_l hg) | refine And.intro ?_ ?_)
  refine AG.q hC rfl ?_ ?_
  · intro hg; refine And.intro ?_ ?_ <;> repeat' (first | exact True.intro | exact hg | exact and_l hg | exact and_l (and_l hg) | refine And.intro ?_ ?_)
  refine AG.q hC rfl ?_ ?_
  · intro hg; refine And.intro ?_ ?_ <;> repeat' (first | exact True.intro | exact hg | exact and_l hg | exact and_l (and_l hg) | refine And.intro ?_ ?_)
  refine AG.q hC rfl ?_ ?_
  · intro hg; refine And.intro ?_ ?_ <;> repeat' (first | exact True.intro | exact hg | exact and_l hg | exact and_l (and_l hg) | refine And.intro ?_ ?_)
  refine AG.q hC rfl ?_ ?_
  · intro hg; refine And.intro ?_ ?_ <;> repeat' (first | exact True.intro | exact hg | exact and_l hg | exact and_l (and_l hg) | refine And.intro ?_ ?_)
  refine AG.q hC rfl ?_ ?_
  · intro hg; refine And.intro ?_ ?_ <;> repeat' (first | exact True.intro | exact hg | exact and_l hg | exact and_l (and_l hg) | refine And.intro ?_ ?_)
  refine AG.q hC rfl ?_ ?_
  · intro hg; refine And.intro ?_ ?_ <;> repeat' (first | exact True.intro | exact hg | exact and_l hg | exact and_l (and_l hg) | refine And.intro ?_ ?_)
  refine AG.q hC rfl ?_ ?_
  · intro hg; refine And.intro ?_ ?_ <;> repeat' (first | exact True.intro | exact hg | exact and_l hg | exact and_l (and_l hg) | refine And.intro ?_ ?_)
  refine AG.q hC rfl ?_ ?_
  · intro hg; refine And.intro ?_ ?_ <;> repeat' (first | exact True.intro | exact hg | exact and_l hg | exact and_l (and_l hg) | refine And.intro ?_ ?_)
  refine AG.qe hC rfl ?_ (ApiScalar.lenA _) ?_
  · intro hg; refine And.intro ?_ ?_ <;> repeat' (first | exact True.intro | exact hg | exact and_l hg | exact and_l (and_l hg) | refine And.intro ?_ ?_)
  refine AG.q hC rfl ?_ ?_
  · intro hg; refine And.intro ?_ ?_ <;> repeat' (first | exact True.intro | exact hg | exact and_l hg | exact and_l (and_l hg) | refine And.intro ?_ ?_)
  refine AG.p hC rfl ?_ ?_
  · intro hg; refine And.intro ?_ (And.intro ?_ ?_) <;> first | exact True.intro | exact fun _ => True.intro | exact And.intro hg True.intro | exact fun h' => And.intro (wb_f h') True.intro | exact fun h' => And.intro (wb_t h') True.intro | exact fun h' => And.intro (and_f hg h') True.intro | exact fun h' => And.intro (and_t hg h') True.intro | exact And.intro (and_l hg) True.intro
  refine AG.q hC rfl ?_ ?_
  · intro hg; refine And.intro ?_ ?_ <;> repeat' (first | exact True.intro | exact hg | exact and_l hg | exact and_l (and_l hg) | refine And.intro ?_ ?_)
  refine AG.q hC rfl ?_ ?_
  · intro hg; refine And.intro ?_ ?_ <;> repeat' (first | exact True.intro | exact hg | exact and_l hg | exact and_l (and_l hg) | refine And.intro ?_ ?_)
  obtain ⟨x5, hx5, hh⟩ := bind_some hh
  refine AG.i hC rfl rfl (by intro hg; repeat' (first | exact True.intro | exact hg | exact and_l hg | exact and_l (and_l hg) | refine And.intro ?_ ?_)) (fun hw => ⟨idx_nat (if_t hw hx5), ApiScalar.idx (if_t hw hx5), rfl⟩) ?_
  refine AG.q hC rfl ?_ ?_
  · intro hg; refine And.intro ?_ ?_ <;> repeat' (first | exact True.intro | exact hg | exact and_l hg | exact and_l (and_l hg) | refine And.intro ?_ ?_)
  refine AG.q hC rfl ?_ ?_
  · intro hg; refine And.intro ?_ ?_ <;> repeat' (first | exact True.intro | exact hg | exact and_l hg | exact and_l (and_l hg) | refine And.intro ?_ ?_)
  refine AG.se hC rfl rfl (by kernel_rfl) (by intro hg; repeat' (first | exact True.intro | exact hg | exact and_l hg | exact and_l (and_l hg) | refine And.intro ?_ ?_)) ?_
  refine AG.p hC rfl ?_ ?_
  · intro hg; refine And.intro ?_ (And.intro ?_ ?_) <;> first | exact True.intro | exact fun _ => True.intro | exact And.intro hg True.intro | exact fun h' => And.intro (wb_f h') True.intro | exact fun h' => And.intro (wb_t h') True.intro | exact fun h' => And.intro (and_f hg h') True.intro | exact fun h' => And.intro (and_t hg h') True.intro | exact And.intro (and_l hg) True.intro
  refine AG.q hC rfl ?_ ?_
  · intro hg; refine And.intro ?_ ?_ <;> repeat' (first | exact True.intro | exact hg | exact and_l hg | exact and_l (and_l hg) | refine And.intro ?_ ?_)
  refine AG.q hC rfl ?_ ?_
  · intro hg; refine And.intro ?_ ?_ <;> repeat' (first | exact True.intro | exact hg | exact and_l hg | exact and_l (and_l hg) | refine And.intro ?_ ?_)
  refine AG.q hC rfl ?_ ?_
  · intro hg; refine And.intro ?_ ?_ <;> repeat' (first | exact True.intro | exact hg | exact and_l hg | exact and_l (and_l hg) | refine And.intro ?_ ?_)
  refine AG.p hC rfl ?_ ?_
  · intro hg; refine And.intro ?_ (And.intro ?_ ?_) <;> first | exact True.intro | exact fun _ => True.intro | exact And.intro hg True.intro | exact fun h' => And.intro (wb_f h') True.intro | exact fun h' => And.intro (wb_t h') True.intro | exact fun h' => And.intro (and_f hg h') True.intro | exact fun h' => And.intro (and_t hg h') True.intro | exact And.intro (and_l hg) True.intro
  refine AG.q hC rfl ?_ ?_
  · intro hg; refine And.intro ?_ ?_ <;> repeat' (first | exact True.intro | exact hg | exact and_l hg | exact and_l (and_l hg) | refine And.intro ?_ ?_)
  refine AG.q hC rfl ?_ ?_
  · intro hg; refine And.intro ?_ ?_ <;> repeat' (first | exact True.intro | exact hg | exact and_l hg | exact and_l (and_l hg) | refine And.intro ?_ ?_)
  refine AG.bx hC rfl rfl (ei64.rows_map [1, 1, 0, 2]).symm (by intro hg; repeat' (first | exact True.intro | exact hg | exact and_l hg | exact and_l (and_l hg) | refine And.intro ?_ ?_)) ?_
  obtain ⟨x6, hx6, hh⟩ := bind_some hh
  refine AG.cl rfl (fun hw => slices_Equal_int_int_ok (if_t hw hx6)) ⟨.rfl, ⟨.full, trivial⟩⟩ rfl (by intro hg; repeat' (first | exact True.intro | exact hg | exact and_l hg | exact and_l (and_l hg) | refine And.intro ?_ ?_)) ?_
  refine AG.p hC rfl ?_ ?_
  · intro hg; refine And.intro ?_ (And.intro ?_ ?_) <;> first | exact True.intro | exact fun _ => True.intro | exact And.intro hg True.intro | exact fun h' => And.intro (wb_f h') True.intro | exact fun h' => And.intro (wb_t h') True.intro | exact fun h' => And.intro (and_f hg h') True.intro | exact fun h' => And.intro (and_t hg h') True.intro | exact And.intro (and_l hg) True.intro
  refine AG.q hC rfl ?_ ?_
  · intro hg; refine And.intro ?_ ?_ <;> repeat' (first | exact True.intro | exact hg | exact and_l hg | exact and_l (and_l hg) | refine And.intro ?_ ?_)
  refine AG.q hC rfl ?_ ?_
  · intro hg; refine And.intro ?_ ?_ <;> repeat' (first | exact True.intro | exact hg | exact and_l hg | exact and_l (and_l hg) | refine And.intro ?_ ?_)
  refine AG.q hC rfl ?_ ?_
  · intro hg; refine And.intro ?_ ?_ <;> repeat' (first | exact True.intro | exact hg | exact and_l hg | exact and_l (and_l hg) | refine And.intro ?_ ?_)
  obtain ⟨x7, hx7, hh⟩ := bind_some hh
  refine AG.c rfl rfl (by intro hg; repeat' (first | exact True.intro | exact hg | exact and_l hg | exact and_l (and_l hg) | refine And.intro ?_ ?_)) (fun hw => types_Contains_ok (if_t hw hx7)) ?_
  refine AG.p hC rfl ?_ ?_
  · intro hg; refine And.intro ?_ (And.intro ?_ ?_) <;> first | exact True.intro | exact fun _ => True.intro | exact And.intro hg True.intro | exact fun h' => And.intro (wb_f h') True.intro | exact fun h' => And.intro (wb_t h') True.intro | exact fun h' => And.intro (and_f hg h') True.intro | exact fun h' => And.intro (and_t hg h') True.intro | exact And.intro (and_l hg) True.intro
  refine AG.q hC rfl ?_ ?_
  · intro hg; refine And.intro ?_ ?_ <;> repeat' (first | exact True.intro | exact hg | exact and_l hg | exact and_l (and_l hg) | refine And.intro ?_ ?_)
  refine AG.q hC rfl ?_ ?_
  · intro hg; refine And.intro ?_ ?_ <;> repeat' (first | exact True.intro | exact hg | exact and_l hg | exact and_l (and_l hg) | refine And.intro ?_ ?_)
  obtain ⟨x8, hx8, hh⟩ := bind_some hh
  refine AG.c rfl rfl (by intro hg; repeat' (first | exact True.intro | exact hg | exact and_l hg | exact and_l (and_l hg) | refine And.intro ?_ ?_)) (fun hw => types_Check_ok (if_t hw hx8)) ?_
  refine AG.q hC rfl ?_ ?_
  · intro hg; refine And.intro ?_ ?_ <;> repeat' (first | exact True.intro | exact hg | exact and_l hg | exact and_l (and_l hg) | refine And.intro ?_ ?_)
  refine AG.p hC rfl ?_ ?_
  · intro hg; refine And.intro ?_ (And.intro ?_ ?_) <;> first | exact True.intro | exact fun _ => True.intro | exact And.intro hg True.intro | exact fun h' => And.intro (wb_f h') True.intro | exact fun h' => And.intro (wb_t h') True.intro | exact fun h' => And.intro (and_f hg h') True.intro | exact fun h' => And.intro (and_t hg h') True.intro | exact And.intro (and_l hg) True.intro
  refine AG.q hC rfl ?_ ?_
  · intro hg; refine And.intro ?_ ?_ <;> repeat' (first | exact True.intro | exact hg | exact and_l hg | exact and_l (and_l hg) | refine And.intro ?_ ?_)
  refine AG.nil ?_
  refine AOps.nil ?_
  refine AEx.ret ?_
  obtain rfl := Option.some.inj hh
  exact ⟨_, _, [], rfl, .rfl, trivial, rfl, rfl, rfl, rfl⟩
mutual
def law12_left (t : ApiType) (n : Int) : Option Int :=
  law12_left_l1 t (IntKind.i64.wrap (n - (IntKind.i64.wrap (1 + (min ((t.Names).length : Int) (IntKind.i64.wrap (n + 1))))))) 0
  partial_fixpoint
def law12_left_l1 (t : ApiType) (n1 : Int) (i : Int) : Option Int :=
  if (bif (decide (i < ((t.Of).length : Int))) then (decide (n1 ≥ 0)) else false) = true then
    idx t.Of i >>= fun x1 =>
    law12_left x1 n1 >>= fun x2 =>
    law12_left_l1 t x2 (IntKind.i64.wrap (i + 1))
  else
    some n1
  partial_fixpoint
end
theorem law12_left_grp : (∀ (t : ApiType) (n : Int) (res : Int), law12_left t n = some res → ACall C 50 [.agg (ApiType.cells t), .d (.int .i64 n)] [] (fun x H' => H' = [] ∧ x = .d (.int .i64 res))) ∧
    (∀ (t : ApiType) (n1 : Int) (i : Int) (res : Int), law12_left_l1 t n1 i = some res → ALoop (Fx.mk C 34 0) (lo (bk (sr (sl (sr (sr (bodyOf Tryd.f50))))))) (mkEnv [(1, .d (.int .i64 n1)), (2, .ref 0 0), (5, .d (.int .i64 i))]) [.row (ApiType.cells t) 27] (Am.InBlock 0 (Am.Then (Fx.mk C 34 0) (sr (sr (sr (bodyOf Tryd.f50)))) (Am.Ends (Fx.mk C 34 0) Tryd.f50.results.toList (fun x H' => H' = [] ∧ x = .d (.int .i64 res)))))) := by
  refine law12_left.mutual_partial_correctness (fun t n res => ACall C 50 [.agg (ApiType.cells t), .d (.int .i64 n)] [] (fun x H' => H' = [] ∧ x = .d (.int .i64 res)))
    (fun t n1 i res => ALoop (Fx.mk C 34 0) (lo (bk (sr (sl (sr (sr (bodyOf Tryd.f50))))))) (mkEnv [(1, .d (.int .i64 n1)), (2, .ref 0 0), (5, .d (.int .i64 i))]) [.row (ApiType.cells t) 27] (Am.InBlock 0 (Am.Then (Fx.mk C 34 0) (sr (sr (sr (bodyOf Tryd.f50)))) (Am.Ends (Fx.mk C 34 0) Tryd.f50.results.toList (fun x H' => H' = [] ∧ x = .d (.int .i64 res)))))) ?_ ?_
  · intro g1 ih1 t n res hh
    refine ACall.intro hC Tryd.func50 rfl rfl rfl ?_
    refine AEx.seq ?_
    refine AEx.regionN rfl rfl ?_
    refine AOps.n hC rfl ?_
    refine AOps.q hC rfl trivial ?_
    refine AOps.nil ?_
    refine AEx.seq ?_
    refine AEx.regionN rfl rfl ?_
    iterate 3 refine AOps.q hC rfl trivial ?_
    refine AOps.qe hC rfl trivial (estr.lenA _) ?_
    iterate 6 refine AOps.q hC rfl trivial ?_
    refine AOps.nil ?_
    refine AEx.seq ?_
    refine AEx.seq ?_
    refine AEx.regionN rfl rfl ?_
    refine AOps.q hC rfl trivial ?_
    refine AOps.nil ?_
    refine AEx.block ?_
    refine AEx.ofLoop ?_
    refine ALoop.wk ?_ (ih1 _ _ _ _ hh)
    exact ⟨⟨⟨.rfl, rfl⟩, ⟨⟨.rfl, rfl⟩, ⟨⟨.rfl, rfl⟩, trivial⟩⟩⟩, ⟨⟨rfl, .refl _, rfl⟩, trivial⟩, rfl⟩
  · intro g0 g1 ih0 ih1 t n1 i res hh
    refine ALoop.unroll ?_
    refine AEx.seq ?_
    refine AEx.seq ?_
    refine AEx.regionG 9 rfl ?_
    refine AG.q hC rfl ?_ ?_
    · intro hg; refine And.intro ?_ ?_ <;> repeat' (first | exact True.intro | exact hg | exact and_l hg | exact and_l (and_l hg) | refine And.intro ?_ ?_)
    refine AG.q hC rfl ?_ ?_
    · intro hg; refine And.intro ?_ ?_ <;> repeat' (first | exact True.intro | exact hg | exact and_l hg | exact and_l (and_l hg) | refine And.intro ?_ ?_)
    refine AG.q hC rfl ?_ ?_
    · intro hg; refine And.intro ?_ ?_ <;> repeat' (first | exact True.intro | exact hg | exact and_l hg | exact and_l (and_l hg) | refine And.intro ?_ ?_)
    refine AG.qe hC rfl ?_ (ApiType.lenA _) ?_
    · intro hg; refine And.intro ?_ ?_ <;> repeat' (first | exact True.intro | exact hg | exact and_l hg | exact and_l (and_l hg) | refine And.intro ?_ ?_)
    refine AG.q hC rfl ?_ ?_
    · intro hg; refine And.intro ?_ ?_ <;> repeat' (first | exact True.intro | exact hg | exact and_l hg | exact and_l (and_l hg) | refine And.intro ?_ ?_)
    refine AG.q hC rfl ?_ ?_
    · intro hg; refine And.intro ?_ ?_ <;> repeat' (first | exact True.intro | exact hg | exact and_l hg | exact and_l (and_l hg) | refine And.intro ?_ ?_)
    refine AG.q hC rfl ?_ ?_
    · intro hg; refine And.intro ?_ ?_ <;> repeat' (first | exact True.intro | exact hg | exact and_l hg | exact and_l (and_l hg) | refine And.intro ?_ ?_)
    refine AG.q hC rfl ?_ ?_
    · intro hg; refine And.intro ?_ ?_ <;> repeat' (first | exact True.intro | exact hg | exact and_l hg | exact and_l (and_l hg) | refine And.intro ?_ ?_)
    refine AG.p hC rfl ?_ ?_
    · intro hg; refine And.intro ?_ (And.intro ?_ ?_) <;> first | exact True.intro | exact fun _ => True.intro | exact And.intro hg True.intro | exact fun h' => And.intro (wb_f h') True.intro | exact fun h' => And.intro (wb_t h') True.intro | exact fun h' => And.intro (and_f hg h') True.intro | exact fun h' => And.intro (and_t hg h') True.intro | exact And.intro (and_l hg) True.intro
    refine AG.nil ?_
    refine AOps.nil ?_
    refine AEx.cond rfl (fun hb => ?_) (fun hb => ?_)
    · replace hh := if_t hb hh
      refine AEx.skip ?_
      refine AEx.seq ?_
      refine AEx.block ?_
      refine AEx.regionN rfl rfl ?_
      iterate 3 refine AOps.q hC rfl trivial ?_
      obtain ⟨x1, hx1, hh⟩ := bind_some hh
      refine AOps.i hC rfl (idx_nat hx1) (ApiType.idx hx1) rfl ?_
      iterate 2 refine AOps.q hC rfl trivial ?_
      obtain ⟨x2, hx2, hh⟩ := bind_some hh
      refine AOps.c rfl rfl (ih0 _ _ _ hx2) ?_
      refine AOps.q hC rfl trivial ?_
      refine AOps.nil ?_
      refine AEx.regionN rfl rfl ?_
      iterate 3 refine AOps.q hC rfl trivial ?_
      refine AOps.nil ?_
      refine ALoop.wk ?_ (ih1 _ _ _ _ hh)
      exact ⟨⟨⟨.rfl, rfl⟩, ⟨⟨.rfl, rfl⟩, ⟨⟨.rfl, rfl⟩, trivial⟩⟩⟩, ⟨⟨rfl, .refl _, rfl⟩, trivial⟩, rfl⟩
    · replace hh := if_f hb hh
      refine AEx.exit ?_
      refine AEx.seq ?_
      refine AEx.regionN rfl rfl ?_
      iterate 2 refine AOps.q hC rfl trivial ?_
      refine AOps.nil ?_
      refine AEx.ret ?_
      obtain rfl := Option.some.inj hh
      exact ⟨_, _, [], rfl, .rfl, trivial, rfl, rfl, rfl, rfl⟩
theorem law12_left_ok {t : ApiType} {n : Int} {res : Int} (hh : law12_left t n = some res) : ACall C 50 [.agg (ApiType.cells t), .d (.int .i64 n)] [] (fun x H' => H' = [] ∧ x = .d (.int .i64 res)) := (law12_left_grp).1 _ _ _ hh
theorem law12_left_l1_ok {t : ApiType} {n1 : Int} {i : Int} {res : Int} (hh : law12_left_l1 t n1 i = some res) : ALoop (Fx.mk C 34 0) (lo (bk (sr (sl (sr (sr (bodyOf Tryd.f50))))))) (mkEnv [(1, .d (.int .i64 n1)), (2, .ref 0 0), (5, .d (.int .i64 i))]) [.row (ApiType.cells t) 27] (Am.InBlock 0 (Am.Then (Fx.mk C 34 0) (sr (sr (sr (bodyOf Tryd.f50)))) (Am.Ends (Fx.mk C 34 0) Tryd.f50.results.toList (fun x H' => H' = [] ∧ x = .d (.int .i64 res))))) := (law12_left_grp).2 _ _ _ _ hh
def law12_few (t : ApiType) : Option Bool :=
  law12_left t 200 >>= fun x1 =>
  some (decide (x1 ≥ 0))
theorem law12_few_ok {t : ApiType} {res : Bool} (hh : law12_few t = some res) : ACall C 15 [.agg (ApiType.cells t)] [] (fun x H' => H' = [] ∧ x = .d (.bool res)) := by
  unfold law12_few at hh
  refine ACall.intro hC Tryd.func15 rfl rfl rfl ?_
  refine AEx.seq ?_
  refine AEx.regionN rfl rfl ?_
  refine AOps.n hC rfl ?_
  refine AOps.q hC rfl trivial ?_
  refine AOps.nil ?_
  refine AEx.seq ?_
  refine AEx.regionN rfl rfl ?_
  refine AOps.q hC rfl trivial ?_
  obtain ⟨x1, hx1, hh⟩ := bind_some hh
  refine AOps.c rfl rfl (law12_left_ok hx1) ?_
  iterate 2 refine AOps.q hC rfl trivial ?_
  refine AOps.nil ?_
  refine AEx.ret ?_
  obtain rfl := Option.some.inj hh
  exact ⟨_, _, [], rfl, .rfl, trivial, rfl, rfl, rfl, rfl⟩
def law12_fewDecls_1 (d : ApiDecl) : Option Bool :=
  law12_few d.TypeV >>= fun x1 =>
  some (!x1)
theorem law12_fewDecls_1_ok {d : ApiDecl} {res : Bool} (hh : law12_fewDecls_1 d = some res) : ACall C 49 [.agg (ApiDecl.cells d)] [] (fun x H' => H' = [] ∧ x = .d (.bool res)) := by
  unfold law12_fewDecls_1 at hh
  refine ACall.intro hC Tryd.func49 rfl rfl rfl ?_
  refine AEx.seq ?_
  refine AEx.regionN rfl rfl ?_
  refine AOps.n hC rfl ?_
  refine AOps.q hC rfl trivial ?_
  refine AOps.nil ?_
  refine AEx.seq ?_
  refine AEx.regionN rfl rfl ?_
  iterate 2 refine AOps.q hC rfl trivial ?_
  obtain ⟨x1, hx1, hh⟩ := bind_some hh
  refine AOps.c rfl rfl (law12_few_ok hx1) ?_
  iterate 2 refine AOps.q hC rfl trivial ?_
  refine AOps.nil ?_
  refine AEx.ret ?_
  obtain rfl := Option.some.inj hh
  exact ⟨_, _, [], rfl, .rfl, trivial, rfl, rfl, rfl, rfl⟩
def slices_IndexFunc_api_Decl_api_Decl_l1 (s : List ApiDecl) (v8 : Int) : Option Int :=
  if (decide (v8 < ((s).length : Int))) = true then
    idx s v8 >>= fun x1 =>
    law12_fewDecls_1 x1 >>= fun x2 =>
    if x2 = true then
      some v8
    else
      slices_IndexFunc_api_Decl_api_Decl_l1 s (IntKind.i64.wrap (v8 + 1))
  else
    some (-1)
  partial_fixpoint
theorem slices_IndexFunc_api_Decl_api_Decl_l1_grp (s : List ApiDecl) : (∀ (v8 : Int) (res : Int), slices_IndexFunc_api_Decl_api_Decl_l1 s v8 = some res → ALoop (Fx.mk C 19 0) (lo (bk (sr (sl (sr (bodyOf Tryd.f66)))))) (mkEnv [(0, .d (.sl (ApiDecl.rows s))), (1, .clo 49 []), (7, .d (.int .i64 ((s).length : Int))), (8, .d (.int .i64 v8))]) [] (Am.InBlock 0 (Am.Then (Fx.mk C 19 0) (sr (sr (bodyOf Tryd.f66))) (Am.Ends (Fx.mk C 19 0) Tryd.f66.results.toList (fun x H' => H' = [] ∧ x = .d (.int .i64 res)))))) := by
  refine slices_IndexFunc_api_Decl_api_Decl_l1.partial_correctness s
    (fun v8 res => ALoop (Fx.mk C 19 0) (lo (bk (sr (sl (sr (bodyOf Tryd.f66)))))) (mkEnv [(0, .d (.sl (ApiDecl.rows s))), (1, .clo 49 []), (7, .d (.int .i64 ((s).length : Int))), (8, .d (.int .i64 v8))]) [] (Am.InBlock 0 (Am.Then (Fx.mk C 19 0) (sr (sr (bodyOf Tryd.f66))) (Am.Ends (Fx.mk C 19 0) Tryd.f66.results.toList (fun x H' => H' = [] ∧ x = .d (.int .i64 res)))))) ?_
  · intro g0 ih0 v8 res hh
    refine ALoop.unroll ?_
    refine AEx.seq ?_
    refine AEx.regionN rfl rfl ?_
    refine AOps.q hC rfl trivial ?_
    refine AOps.nil ?_
    refine AEx.seq ?_
    refine AEx.cond rfl (fun hb => ?_) (fun hb => ?_)
    · replace hh := if_t hb hh
      refine AEx.skip ?_
      refine AEx.seq ?_
      refine AEx.block ?_
      refine AEx.seq ?_
      refine AEx.regionN rfl rfl ?_
      iterate 2 refine AOps.q hC rfl trivial ?_
      refine AOps.nil ?_
      refine AEx.seq ?_
      refine AEx.regionN rfl rfl ?_
      iterate 3 refine AOps.q hC rfl trivial ?_
      obtain ⟨x1, hx1, hh⟩ := bind_some hh
      refine AOps.i hC rfl (idx_nat hx1) (ApiDecl.idx hx1) rfl ?_
      refine AOps.q hC rfl trivial ?_
      obtain ⟨x2, hx2, hh⟩ := bind_some hh
      refine AOps.c rfl rfl (law12_fewDecls_1_ok hx2) ?_
      refine AOps.nil ?_
      refine AEx.cond rfl (fun hb => ?_) (fun hb => ?_)
      · replace hh := if_t hb hh
        refine AEx.seq ?_
        refine AEx.regionN rfl rfl ?_
        iterate 2 refine AOps.q hC rfl trivial ?_
        refine AOps.nil ?_
        refine AEx.ret ?_
        obtain rfl := Option.some.inj hh
        exact ⟨_, _, [], rfl, .rfl, trivial, rfl, rfl, rfl, rfl⟩
      · replace hh := if_f hb hh
        refine AEx.skip ?_
        refine AEx.regionN rfl rfl ?_
        iterate 2 refine AOps.q hC rfl trivial ?_
        refine AOps.nil ?_
        refine ALoop.wk ?_ (ih0 _ _ hh)
        exact ⟨⟨⟨.rfl, rfl⟩, ⟨⟨.rfl, rfl⟩, ⟨⟨.rfl, rfl⟩, ⟨⟨.rfl, rfl⟩, trivial⟩⟩⟩⟩, trivial, rfl⟩
    · replace hh := if_f hb hh
      refine AEx.exit ?_
      refine AEx.seq ?_
      refine AEx.regionN rfl rfl ?_
      refine AOps.q hC rfl trivial ?_
      refine AOps.nil ?_
      refine AEx.ret ?_
      obtain rfl := Option.some.inj hh
      exact ⟨_, _, [], rfl, .rfl, trivial, rfl, rfl, rfl, rfl⟩
theorem slices_IndexFunc_api_Decl_api_Decl_l1_ok {s : List ApiDecl} {v8 : Int} {res : Int} (hh : slices_IndexFunc_api_Decl_api_Decl_l1 s v8 = some res) : ALoop (Fx.mk C 19 0) (lo (bk (sr (sl (sr (bodyOf Tryd.f66)))))) (mkEnv [(0, .d (.sl (ApiDecl.rows s))), (1, .clo 49 []), (7, .d (.int .i64 ((s).length : Int))), (8, .d (.int .i64 v8))]) [] (Am.InBlock 0 (Am.Then (Fx.mk C 19 0) (sr (sr (bodyOf Tryd.f66))) (Am.Ends (Fx.mk C 19 0) Tryd.f66.results.toList (fun x H' => H' = [] ∧ x = .d (.int .i64 res))))) := (slices_IndexFunc_api_Decl_api_Decl_l1_grp s) _ _ hh
def slices_IndexFunc_api_Decl_api_Decl (s : List ApiDecl) : Option Int :=
  slices_IndexFunc_api_Decl_api_Decl_l1 s 0
theorem slices_IndexFunc_api_Decl_api_Decl_ok {s : List ApiDecl} {res : Int} (hh : slices_IndexFunc_api_Decl_api_Decl s = some res) : ACall C 66 [.d (.sl (ApiDecl.rows s)), .clo 49 []] [] (fun x H' => H' = [] ∧ x = .d (.int .i64 res)) := by
  unfold slices_IndexFunc_api_Decl_api_Decl at hh
  refine ACall.intro hC Tryd.func66 rfl rfl rfl ?_
  refine AEx.seq ?_
  refine AEx.regionN rfl rfl ?_
  refine AOps.q hC rfl trivial ?_
  refine AOps.nil ?_
  refine AEx.seq ?_
  refine AEx.seq ?_
  refine AEx.regionN rfl rfl ?_
  refine AOps.q hC rfl trivial ?_
  refine AOps.qe hC rfl trivial (ApiDecl.lenA _) ?_
  refine AOps.q hC rfl trivial ?_
  refine AOps.nil ?_
  refine AEx.block ?_
  refine AEx.ofLoop ?_
  refine ALoop.wk ?_ (slices_IndexFunc_api_Decl_api_Decl_l1_ok hh)
  exact ⟨⟨⟨.rfl, rfl⟩, ⟨⟨.rfl, rfl⟩, ⟨⟨.rfl, rfl⟩, ⟨⟨.rfl, rfl⟩, trivial⟩⟩⟩⟩, trivial, rfl⟩
def slices_ContainsFunc_api_Decl_api_Decl (s : List ApiDecl) : Option Bool :=
  slices_IndexFunc_api_Decl_api_Decl s >>= fun x1 =>
  some (decide (x1 ≥ 0))
theorem slices_ContainsFunc_api_Decl_api_Decl_ok {s : List ApiDecl} {res : Bool} (hh : slices_ContainsFunc_api_Decl_api_Decl s = some res) : ACall C 33 [.d (.sl (ApiDecl.rows s)), .clo 49 []] [] (fun x H' => H' = [] ∧ x = .d (.bool res)) := by
  unfold slices_ContainsFunc_api_Decl_api_Decl at hh
  refine ACall.intro hC Tryd.func33 rfl rfl rfl ?_
  refine AEx.seq ?_
  refine AEx.regionN rfl rfl ?_
  refine AOps.q hC rfl trivial ?_
  refine AOps.nil ?_
  refine AEx.seq ?_
  refine AEx.regionN rfl rfl ?_
  iterate 2 refine AOps.q hC rfl trivial ?_
  obtain ⟨x1, hx1, hh⟩ := bind_some hh
  refine AOps.c rfl rfl (slices_IndexFunc_api_Decl_api_Decl_ok hx1) ?_
  iterate 2 refine AOps.q hC rfl trivial ?_
  refine AOps.nil ?_
  refine AEx.ret ?_
  obtain rfl := Option.some.inj hh
  exact ⟨_, _, [], rfl, .rfl, trivial, rfl, rfl, rfl, rfl⟩
def law12_fewDecls (decls : List ApiDecl) : Option Bool :=
  (if (decide (((decls).length : Int) ≤ 8)) = true then slices_ContainsFunc_api_Decl_api_Decl decls else some default) >>= fun x1 =>
  some (bif (decide (((decls).length : Int) ≤ 8)) then (!x1) else false)
theorem law12_fewDecls_ok {decls : List ApiDecl} {res : Bool} (hh : law12_fewDecls decls = some res) : ACall C 14 [.d (.sl (ApiDecl.rows decls))] [] (fun x H' => H' = [] ∧ x = .d (.bool res)) := by
  unfold law12_fewDecls at hh
  refine ACall.intro hC Tryd.func14 rfl rfl rfl ?_
  refine AEx.seq ?_
  refine AEx.regionN rfl rfl ?_
  refine AOps.q hC rfl trivial ?_
  refine AOps.nil ?_
  refine AEx.seq ?_
  refine AEx.regionG 9 rfl ?_
  refine AG.q hC rfl ?_ ?_
  · intro hg; refine And.intro ?_ ?_ <;> repeat' (first | exact True.intro | exact hg | exact and_l hg | exact and_l (and_l hg) | refine And.intro ?_ ?_)
  refine AG.qe hC rfl ?_ (ApiDecl.lenA _) ?_
  · intro hg; refine And.intro ?_ ?_ <;> repeat' (first | exact True.intro | exact hg | exact and_l hg | exact and_l (and_l hg) | refine And.intro ?_ ?_)
  refine AG.q hC rfl ?_ ?_
  · intro hg; refine And.intro ?_ ?_ <;> repeat' (first | exact True.intro | exact hg | exact and_l hg | exact and_l (and_l hg) | refine And.intro ?_ ?_)
  refine AG.q hC rfl ?_ ?_
  · intro hg; refine And.intro ?_ ?_ <;> repeat' (first | exact True.intro | exact hg | exact and_l hg | exact and_l (and_l hg) | refine And.intro ?_ ?_)
  refine AG.q hC rfl ?_ ?_
  · intro hg; refine And.intro ?_ ?_ <;> repeat' (first | exact True.intro | exact hg | exact and_l hg | exact and_l (and_l hg) | refine And.intro ?_ ?_)
  obtain ⟨x1, hx1, hh⟩ := bind_some hh
  refine AG.c rfl rfl (by intro hg; repeat' (first | exact True.intro | exact hg | exact and_l hg | exact and_l (and_l hg) | refine And.intro ?_ ?_)) (fun hw => slices_ContainsFunc_api_Decl_api_Decl_ok (if_t hw hx1)) ?_
  refine AG.q hC rfl ?_ ?_
  · intro hg; refine And.intro ?_ ?_ <;> repeat' (first | exact True.intro | exact hg | exact and_l hg | exact and_l (and_l hg) | refine And.intro ?_ ?_)
  refine AG.p hC rfl ?_ ?_
  · intro hg; refine And.intro ?_ (And.intro ?_ ?_) <;> first | exact True.intro | exact fun _ => True.intro | exact And.intro hg True.intro | exact fun h' => And.intro (wb_f h') True.intro | exact fun h' => And.intro (wb_t h') True.intro | exact fun h' => And.intro (and_f hg h') True.intro | exact fun h' => And.intro (and_t hg h') True.intro | exact And.intro (and_l hg) True.intro
  refine AG.q hC rfl ?_ ?_
  · intro hg; refine And.intro ?_ ?_ <;> repeat' (first | exact True.intro | exact hg | exact and_l hg | exact and_l (and_l hg) | refine And.intro ?_ ?_)
  refine AG.nil ?_
  refine AOps.nil ?_
  refine AEx.ret ?_
  obtain rfl := Option.some.inj hh
  exact ⟨_, _, [], rfl, .rfl, trivial, rfl, rfl, rfl, rfl⟩
mutual
def ref10_EqualType (a : ApiType) (b : ApiType) : Option Bool :=
  if (bif (bif (bif (bif (bif (bif (a.Kind != b.Kind) then true else (a.Low != b.Low)) then true else (a.High != b.High)) then true else (a.Size != b.Size)) then true else (!(a.Name == b.Name))) then true else (((a.Names).length : Int) != ((b.Names).length : Int))) then true else (((a.Of).length : Int) != ((b.Of).length : Int))) = true then
    some false
  else
    ref10_EqualType_l1 a b 0
  partial_fixpoint
def ref10_EqualType_l1 (a : ApiType) (b : ApiType) (i : Int) : Option Bool :=
  if (decide (i < ((a.Names).length : Int))) = true then
    idx a.Names i >>= fun x1 =>
    idx b.Names i >>= fun x2 =>
    if (!(x1 == x2)) = true then
      some false
    else
      ref10_EqualType_l1 a b (IntKind.i64.wrap (i + 1))
  else
    ref10_EqualType_l2 a b 0
  partial_fixpoint
def ref10_EqualType_l2 (a : ApiType) (b : ApiType) (i1 : Int) : Option Bool :=
  if (decide (i1 < ((a.Of).length : Int))) = true then
    idx a.Of i1 >>= fun x3 =>
    idx b.Of i1 >>= fun x4 =>
    ref10_EqualType x3 x4 >>= fun x5 =>
    if (!x5) = true then
      some false
    else
      ref10_EqualType_l2 a b (IntKind.i64.wrap (i1 + 1))
  else
    some true
  partial_fixpoint
end
theorem ref10_EqualType_grp : (∀ (a : ApiType) (b : ApiType) (res : Bool), ref10_EqualType a b = some res → ACall C 18 [.agg (ApiType.cells a), .agg (ApiType.cells b)] [] (fun x H' => H' = [] ∧ x = .d (.bool res))) ∧
    (∀ (a : ApiType) (b : ApiType) (i : Int) (res : Bool), ref10_EqualType_l1 a b i = some res → ALoop (Fx.mk C 95 0) (lo (bk (sr (sl (sr (sr (bodyOf Tryd.f18))))))) (mkEnv [(2, .ref 0 0), (3, .ref 1 0), (5, .d (.int .i64 i))]) [.row (ApiType.cells a) 27, .row (ApiType.cells b) 27] (Am.InBlock 0 (Am.Then (Fx.mk C 95 0) (sr (sr (sr (bodyOf Tryd.f18)))) (Am.Ends (Fx.mk C 95 0) Tryd.f18.results.toList (fun x H' => H' = [] ∧ x = .d (.bool res)))))) ∧
    (∀ (a : ApiType) (b : ApiType) (i1 : Int) (res : Bool), ref10_EqualType_l2 a b i1 = some res → ALoop (Fx.mk C 95 0) (lo (bk (sr (sl (sr (sr (sr (bodyOf Tryd.f18)))))))) (mkEnv [(2, .ref 0 0), (3, .ref 1 0), (6, .d (.int .i64 i1))]) [.row (ApiType.cells a) 27, .row (ApiType.cells b) 27] (Am.InBlock 2 (Am.Then (Fx.mk C 95 0) (sr (sr (sr (sr (bodyOf Tryd.f18))))) (Am.Ends (Fx.mk C 95 0) Tryd.f18.results.toList (fun x H' => H' = [] ∧ x = .d (.bool res)))))) := by
  refine ref10_EqualType.mutual_partial_correctness (fun a b res => ACall C 18 [.agg (ApiType.cells a), .agg (ApiType.cells b)] [] (fun x H' => H' = [] ∧ x = .d (.bool res)))
    (fun a b i res => ALoop (Fx.mk C 95 0) (lo (bk (sr (sl (sr (sr (bodyOf Tryd.f18))))))) (mkEnv [(2, .ref 0 0), (3, .ref 1 0), (5, .d (.int .i64 i))]) [.row (ApiType.cells a) 27, .row (ApiType.cells b) 27] (Am.InBlock 0 (Am.Then (Fx.mk C 95 0) (sr (sr (sr (bodyOf Tryd.f18)))) (Am.Ends (Fx.mk C 95 0) Tryd.f18.results.toList (fun x H' => H' = [] ∧ x = .d (.bool res))))))
    (fun a b i1 res => ALoop (Fx.mk C 95 0) (lo (bk (sr (sl (sr (sr (sr (bodyOf Tryd.f18)))))))) (mkEnv [(2, .ref 0 0), (3, .ref 1 0), (6, .d (.int .i64 i1))]) [.row (ApiType.cells a) 27, .row (ApiType.cells b) 27] (Am.InBlock 2 (Am.Then (Fx.mk C 95 0) (sr (sr (sr (sr (bodyOf Tryd.f18))))) (Am.Ends (Fx.mk C 95 0) Tryd.f18.results.toList (fun x H' => H' = [] ∧ x = .d (.bool res)))))) ?_ ?_ ?_
  · intro g1 ih1 a b res hh
    refine ACall.intro hC Tryd.func18 rfl rfl rfl ?_
    refine AEx.seq ?_
    refine AEx.regionN rfl rfl ?_
    refine AOps.n hC rfl ?_
    refine AOps.n hC rfl ?_
    refine AOps.q hC rfl trivial ?_
    refine AOps.nil ?_
    refine AEx.seq ?_
    refine AEx.seq ?_
    refine AEx.regionG 51 rfl ?_
    refine AG.q hC rfl ?_ ?_
    · intro hg; refine And.intro ?_ ?_ <;> repeat' (first | exact True.intro | exact hg | exact and_l hg | exact and_l (and_l hg) | refine And.intro ?_ ?_)
    refine AG.q hC rfl ?_ ?_
    · intro hg; refine And.intro ?_ ?_ <;> repeat' (first | exact True.intro | exact hg | exact and_l hg | exact and_l (and_l hg) | refine And.intro ?_ ?_)
    refine AG.q hC rfl ?_ ?_
    · intro hg; refine And.intro ?_ ?_ <;> repeat' (first | exact True.intro | exact hg | exact and_l hg | exact and_l (and_l hg) | refine And.intro ?_ ?_)
    refine AG.q hC rfl ?_ ?_
    · intro hg; refine And.intro ?_ ?_ <;> repeat' (first | exact True.intro | exact hg | exact and_l hg | exact and_l (and_l hg) | refine And.intro ?_ ?_)
    refine AG.q hC rfl ?_ ?_
    · intro hg; refine And.intro ?_ ?_ <;> repeat' (first | exact True.intro | exact hg | exact and_l hg | exact and_l (and_l hg) | refine And.intro ?_ ?_)
    refine AG.q hC rfl ?_ ?_
    · intro hg; refine And.intro ?_ ?_ <;> repeat' (first | exact True.intro | exact hg | exact and_l hg | exact and_l (and_l hg) | refine And.intro ?_ ?_)
    refine AG.q hC rfl ?_ ?_
    · intro hg; refine And.intro ?_ ?_ <;> repeat' (first | exact True.intro | exact hg | exact and_l hg | exact and_l (and_l hg) | refine And.intro ?_ ?_)
    refine AG.q hC rfl ?_ ?_
    · intro hg; refine And.intro ?_ ?_ <;> repeat' (first | exact True.intro | exact hg | exact and_l hg | exact and_l (and_l hg) | refine And.intro ?_ ?_)
    refine AG.q hC rfl ?_ ?_
    · intro hg; refine And.intro ?_ ?_ <;> repeat' (first | exact True.intro | exact hg | exact and_l hg | exact and_l (and_l hg) | refine And.intro ?_ ?_)
    refine AG.q hC rfl ?_ ?_
    · intro hg; refine And.intro ?_ ?_ <;> repeat' (first | exact True.intro | exact hg | exact and_l hg | exact and_l (and_l hg) | refine And.intro ?_ ?_)
    refine AG.q hC rfl ?_ ?_
    · intro hg; refine And.intro ?_ ?_ <;> repeat' (first | exact True.intro | exact hg | exact and_l hg | exact and_l (and_l hg) | refine And.intro ?_ ?_)
    refine AG.p hC rfl ?_ ?_
    · intro hg; refine And.intro ?_ (And.intro ?_ ?_) <;> first | exact True.intro | exact fun _ => True.intro | exact And.intro hg True.intro | exact fun h' => And.intro (wb_f h') True.intro | exact fun h' => And.intro (wb_t h') True.intro | exact fun h' => And.intro (and_f hg h') True.intro | exact fun h' => And.intro (and_t hg h') True.intro | exact And.intro (and_l hg) True.intro
    refine AG.q hC rfl ?_ ?_
    · intro hg; refine And.intro ?_ ?_ <;> repeat' (first | exact True.intro | exact hg | exact and_l hg | exact and_l (and_l hg) | refine And.intro ?_ ?_)
    refine AG.q hC rfl ?_ ?_
    · intro hg; refine And.intro ?_ ?_ <;> repeat' (first | exact True.intro | exact hg | exact and_l hg | exact and_l (and_l hg) | refine And.intro ?_ ?_)
    refine AG.q hC rfl ?_ ?_
    · intro hg; refine And.intro ?_ ?_ <;> repeat' (first | exact True.intro | exact hg | exact and_l hg | exact and_l (and_l hg) | refine And.intro ?_ ?_)
    refine AG.q hC rfl ?_ ?_
    · intro hg; refine And.intro ?_ ?_ <;> repeat' (first | exact True.intro | exact hg | exact and_l hg | exact and_l (and_l hg) | refine And.intro ?_ ?_)
    refine AG.q hC rfl ?_ ?_
    · intro hg; refine And.intro ?_ ?_ <;> repeat' (first | exact True.intro | exact hg | exact and_l hg | exact and_l (and_l hg) | refine And.intro ?_ ?_)
    refine AG.q hC rfl ?_ ?_
    · intro hg; refine And.intro ?_ ?_ <;> repeat' (first | exact True.intro | exact hg | exact and_l hg | exact and_l (and_l hg) | refine And.intro ?_ ?_)
    refine AG.p hC rfl ?_ ?_
    · intro hg; refine And.intro ?_ (And.intro ?_ ?_) <;> first | exact True.intro | exact fun _ => True.intro | exact And.intro hg True.intro | exact fun h' => And.intro (wb_f h') True.intro | exact fun h' => And.intro (wb_t h') True.intro | exact fun h' => And.intro (and_f hg h') True.intro | exact fun h' => And.intro (and_t hg h') True.intro | exact And.intro (and_l hg) True.intro
    refine AG.q hC rfl ?_ ?_
    · intro hg; refine And.intro ?_ ?_ <;> repeat' (first | exact True.intro | exact hg | exact and_l hg | exact and_l (and_l hg) | refine And.intro ?_ ?_)
    refine AG.q hC rfl ?_ ?_
    · intro hg; refine And.intro ?_ ?_ <;> repeat' (first | exact True.intro | exact hg | exact and_l hg | exact and_l (and_l hg) | refine And.intro ?_ ?_)
    refine AG.q hC rfl ?_ ?_
    · intro hg; refine And.intro ?_ ?_ <;> repeat' (first | exact True.intro | exact hg | exact and_l hg | exact and_l (and_l hg) | refine And.intro ?_ ?_)
    refine AG.q hC rfl ?_ ?_
    · intro hg; refine And.intro ?_ ?_ <;> repeat' (first | exact True.intro | exact hg | exact and_l hg | exact and_l (and_l hg) | refine And.intro ?_ ?_)
    refine AG.q hC rfl ?_ ?_
    · intro hg; refine And.intro ?_ ?_ <;> repeat' (first | exact True.intro | exact hg | exact and_l hg | exact and_l (and_l hg) | refine And.intro ?_ ?_)
    refine AG.q hC rfl ?_ ?_
    · intro hg; refine And.intro ?_ ?_ <;> repeat' (first | exact True.intro | exact hg | exact and_l hg | exact and_l (and_l hg) | refine And.intro ?_ ?_)
    refine AG.p hC rfl ?_ ?_
    · intro hg; refine And.intro ?_ (And.intro ?_ ?_) <;> first | exact True.intro | exact fun _ => True.intro | exact And.intro hg True.intro | exact fun h' => And.intro (wb_f h') True.intro | exact fun h' => And.intro (wb_t h') True.intro | exact fun h' => And.intro (and_f hg h') True.intro | exact fun h' => And.intro (and_t hg h') True.intro | exact And.intro (and_l hg) True.intro
    refine AG.q hC rfl ?_ ?_
    · intro hg; refine And.intro ?_ ?_ <;> repeat' (first | exact True.intro | exact hg | exact and_l hg | exact and_l (and_l hg) | refine And.intro ?_ ?_)
    refine AG.q hC rfl ?_ ?_
    · intro hg; refine And.intro ?_ ?_ <;> repeat' (first | exact True.intro | exact hg | exact and_l hg | exact and_l (and_l hg) | refine And.intro ?_ ?_)
    refine AG.q hC rfl ?_ ?_
    · intro hg; refine And.intro ?_ ?_ <;> repeat' (first | exact True.intro | exact hg | exact and_l hg | exact and_l (and_l hg) | refine And.intro ?_ ?_)
    refine AG.q hC rfl ?_ ?_
    · intro hg; refine And.intro ?_ ?_ <;> repeat' (first | exact True.intro | exact hg | exact and_l hg | exact and_l (and_l hg) | refine And.intro ?_ ?_)
    refine AG.q hC rfl ?_ ?_
    · intro hg; refine And.intro ?_ ?_ <;> repeat' (first | exact True.intro | exact hg | exact and_l hg | exact and_l (and_l hg) | refine And.intro ?_ ?_)
    refine AG.q hC rfl ?_ ?_
    · intro hg; refine And.intro ?_ ?_ <;> repeat' (first | exact True.intro | exact hg | exact and_l hg | exact and_l (and_l hg) | refine And.intro ?_ ?_)
    refine AG.p hC rfl ?_ ?_
    · intro hg; refine And.intro ?_ (And.intro ?_ ?_) <;> first | exact True.intro | exact fun _ => True.intro | exact And.intro hg True.intro | exact fun h' => And.intro (wb_f h') True.intro | exact fun h' => And.intro (wb_t h') True.intro | exact fun h' => And.intro (and_f hg h') True.intro | exact fun h' => And.intro (and_t hg h') True.intro | exact And.intro (and_l hg) True.intro
    refine AG.q hC rfl ?_ ?_
    · intro hg; refine And.intro ?_ ?_ <;> repeat' (first | exact True.intro | exact hg | exact and_l hg | exact and_l (and_l hg) | refine And.intro ?_ ?_)
    refine AG.q hC rfl ?_ ?_
    · intro hg; refine And.intro ?_ ?_ <;> repeat' (first | exact True.intro | exact hg | exact and_l hg | exact and_l (and_l hg) | refine And.intro ?_ ?_)
    refine AG.q hC rfl ?_ ?_
    · intro hg; refine And.intro ?_ ?_ <;> repeat' (first | exact True.intro | exact hg | exact and_l hg | exact and_l (and_l hg) | refine And.intro ?_ ?_)
    refine AG.qe hC rfl ?_ (estr.lenA _) ?_
    · intro hg; refine And.intro ?_ ?_ <;> repeat' (first | exact True.intro | exact hg | exact and_l hg | exact and_l (and_l hg) | refine And.intro ?_ ?_)
    refine AG.q hC rfl ?_ ?_
    · intro hg; refine And.intro ?_ ?_ <;> repeat' (first | exact True.intro | exact hg | exact and_l hg | exact and_l (and_l hg) | refine And.intro ?_ ?_)
    refine AG.q hC rfl ?_ ?_
    · intro hg; refine And.intro ?_ ?_ <;> repeat' (first | exact True.intro | exact hg | exact and_l hg | exact and_l (and_l hg) | refine And.intro ?_ ?_)
    refine AG.qe hC rfl ?_ (estr.lenA _) ?_
    · intro hg; refine And.intro ?_ ?_ <;> repeat' (first | exact True.intro | exact hg | exact and_l hg | exact and_l (and_l hg) | refine And.intro ?_ ?_)
    refine AG.q hC rfl ?_ ?_
    · intro hg; refine And.intro ?_ ?_ <;> repeat' (first | exact True.intro | exact hg | exact and_l hg | exact and_l (and_l hg) | refine And.intro ?_ ?_)
    refine AG.p hC rfl ?_ ?_
    · intro hg; refine And.intro ?_ (And.intro ?_ ?_) <;> first | exact True.intro | exact fun _ => True.intro | exact And.intro hg True.intro | exact fun h' => And.intro (wb_f h') True.intro | exact fun h' => And.intro (wb_t h') True.intro | exact fun h' => And.intro (and_f hg h') True.intro | exact fun h' => And.intro (and_t hg h') True.intro | exact And.intro (and_l hg) True.intro
    refine AG.q hC rfl ?_ ?_
    · intro hg; refine And.intro ?_ ?_ <;> repeat' (first | exact True.intro | exact hg | exact and_l hg | exact and_l (and_l hg) | refine And.intro ?_ ?_)
    refine AG.q hC rfl ?_ ?_
    · intro hg; refine And.intro ?_ ?_ <;> repeat' (first | exact True.intro | exact hg | exact and_l hg | exact and_l (and_l hg) | refine And.intro ?_ ?_)
    refine AG.q hC rfl ?_ ?_
    · intro hg; refine And.intro ?_ ?_ <;> repeat' (first | exact True.intro | exact hg | exact and_l hg | exact and_l (and_l hg) | refine And.intro ?_ ?_)
    refine AG.qe hC rfl ?_ (ApiType.lenA _) ?_
    · intro hg; refine And.intro ?_ ?_ <;> repeat' (first | exact True.intro | exact hg | exact and_l hg | exact and_l (and_l hg) | refine And.intro ?_ ?_)
    refine AG.q hC rfl ?_ ?_
    · intro hg; refine And.intro ?_ ?_ <;> repeat' (first | exact True.intro | exact hg | exact and_l hg | exact and_l (and_l hg) | refine And.intro ?_ ?_)
    refine AG.q hC rfl ?_ ?_
    · intro hg; refine And.intro ?_ ?_ <;> repeat' (first | exact True.intro | exact hg | exact and_l hg | exact and_l (and_l hg) | refine And.intro ?_ ?_)
    refine AG.qe hC rfl ?_ (ApiType.lenA _) ?_
    · intro hg; refine And.intro ?_ ?_ <;> repeat' (first | exact True.intro | exact hg | exact and_l hg | exact and_l (and_l hg) | refine And.intro ?_ ?_)
    refine AG.q hC rfl ?_ ?_
    · intro hg; refine And.intro ?_ ?_ <;> repeat' (first | exact True.intro | exact hg | exact and_l hg | exact and_l (and_l hg) | refine And.intro ?_ ?_)
    refine AG.p hC rfl ?_ ?_
    · intro hg; refine And.intro ?_ (And.intro ?_ ?_) <;> first | exact True.intro | exact fun _ => True.intro | exact And.intro hg True.intro | exact fun h' => And.intro (wb_f h') True.intro | exact fun h' => And.intro (wb_t h') True.intro | exact fun h' => And.intro (and_f hg h') True.intro | exact fun h' => And.intro (and_t hg h') True.intro | exact And.intro (and_l hg) True.intro
    refine AG.nil ?_
    refine AOps.nil ?_
    refine AEx.cond rfl (fun hb => ?_) (fun hb => ?_)
    · replace hh := if_t hb hh
      refine AEx.seq ?_
      refine AEx.regionN rfl rfl ?_
      refine AOps.q hC rfl trivial ?_
      refine AOps.nil ?_
      refine AEx.ret ?_
      obtain rfl := Option.some.inj hh
      exact ⟨_, _, [], rfl, .rfl, trivial, rfl, rfl, rfl, rfl⟩
    · replace hh := if_f hb hh
      refine AEx.skip ?_
      refine AEx.seq ?_
      refine AEx.seq ?_
      refine AEx.regionN rfl rfl ?_
      refine AOps.q hC rfl trivial ?_
      refine AOps.nil ?_
      refine AEx.block ?_
      refine AEx.ofLoop ?_
      refine ALoop.wk ?_ (ih1 _ _ _ _ hh)
      exact ⟨⟨⟨.rfl, rfl⟩, ⟨⟨.rfl, rfl⟩, ⟨⟨.rfl, rfl⟩, trivial⟩⟩⟩, ⟨⟨rfl, .refl _, rfl⟩, ⟨⟨rfl, .refl _, rfl⟩, trivial⟩⟩, rfl⟩
  · intro g1 g2 ih1 ih2 a b i res hh
    refine ALoop.unroll ?_
    refine AEx.seq ?_
    refine AEx.seq ?_
    refine AEx.regionN rfl rfl ?_
    iterate 3 refine AOps.q hC rfl trivial ?_
    refine AOps.qe hC rfl trivial (estr.lenA _) ?_
    refine AOps.q hC rfl trivial ?_
    refine AOps.nil ?_
    refine AEx.cond rfl (fun hb => ?_) (fun hb => ?_)
    · replace hh := if_t hb hh
      refine AEx.skip ?_
      refine AEx.seq ?_
      refine AEx.block ?_
      refine AEx.seq ?_
      refine AEx.draw hC 11 rfl rfl rfl ?_
      refine AQ.q hC rfl trivial ?_
      refine AQ.q hC rfl trivial ?_
      refine AQ.q hC rfl trivial ?_
      obtain ⟨x1, hx1, hh⟩ := bind_some hh
      refine AQ.i hC rfl (idx_nat hx1) (estr.idx hx1) rfl ?_
      refine AQ.q hC rfl trivial ?_
      refine AQ.q hC rfl trivial ?_
      refine AQ.q hC rfl trivial ?_
      refine AQ.q hC rfl trivial ?_
      obtain ⟨x2, hx2, hh⟩ := bind_some hh
      refine AQ.i hC rfl (idx_nat hx2) (estr.idx hx2) rfl ?_
      refine AQ.q hC rfl trivial ?_
      refine AQ.q hC rfl trivial ?_
      refine AQ.nil ?_
      refine AOps.nil ?_
      refine AEx.cond rfl (fun hb => ?_) (fun hb => ?_)
      · replace hh := if_t hb hh
        refine AEx.seq ?_
        refine AEx.regionN rfl rfl ?_
        refine AOps.q hC rfl trivial ?_
        refine AOps.nil ?_
        refine AEx.ret ?_
        obtain rfl := Option.some.inj hh
        exact ⟨_, _, [], rfl, .rfl, trivial, rfl, rfl, rfl, rfl⟩
      · replace hh := if_f hb hh
        refine AEx.skip ?_
        refine AEx.regionN rfl rfl ?_
        iterate 3 refine AOps.q hC rfl trivial ?_
        refine AOps.nil ?_
        refine ALoop.wk ?_ (ih1 _ _ _ _ hh)
        exact ⟨⟨⟨.rfl, rfl⟩, ⟨⟨.rfl, rfl⟩, ⟨⟨.rfl, rfl⟩, trivial⟩⟩⟩, ⟨⟨rfl, .refl _, rfl⟩, ⟨⟨rfl, .refl _, rfl⟩, trivial⟩⟩, rfl⟩
    · replace hh := if_f hb hh
      refine AEx.exit ?_
      refine AEx.seq ?_
      refine AEx.seq ?_
      refine AEx.regionN rfl rfl ?_
      refine AOps.q hC rfl trivial ?_
      refine AOps.nil ?_
      refine AEx.block ?_
      refine AEx.ofLoop ?_
      refine ALoop.wk ?_ (ih2 _ _ _ _ hh)
      exact ⟨⟨⟨.rfl, rfl⟩, ⟨⟨.rfl, rfl⟩, ⟨⟨.rfl, rfl⟩, trivial⟩⟩⟩, ⟨⟨rfl, .refl _, rfl⟩, ⟨⟨rfl, .refl _, rfl⟩, trivial⟩⟩, rfl⟩
  · intro g0 g2 ih0 ih2 a b i1 res hh
    refine ALoop.unroll ?_
    refine AEx.seq ?_
    refine AEx.seq ?_
    refine AEx.regionN rfl rfl ?_
    iterate 3 refine AOps.q hC rfl trivial ?_
    refine AOps.qe hC rfl trivial (ApiType.lenA _) ?_
    refine AOps.q hC rfl trivial ?_
    refine AOps.nil ?_
    refine AEx.cond rfl (fun hb => ?_) (fun hb => ?_)
    · replace hh := if_t hb hh
      refine AEx.skip ?_
      refine AEx.seq ?_
      refine AEx.block ?_
      refine AEx.seq ?_
      refine AEx.draw hC 12 rfl rfl rfl ?_
      refine AQ.q hC rfl trivial ?_
      refine AQ.q hC rfl trivial ?_
      refine AQ.q hC rfl trivial ?_
      obtain ⟨x3, hx3, hh⟩ := bind_some hh
      refine AQ.i hC rfl (idx_nat hx3) (ApiType.idx hx3) rfl ?_
      refine AQ.q hC rfl trivial ?_
      refine AQ.q hC rfl trivial ?_
      refine AQ.q hC rfl trivial ?_
      refine AQ.q hC rfl trivial ?_
      obtain ⟨x4, hx4, hh⟩ := bind_some hh
      refine AQ.i hC rfl (idx_nat hx4) (ApiType.idx hx4) rfl ?_
      refine AQ.q hC rfl trivial ?_
      obtain ⟨x5, hx5, hh⟩ := bind_some hh
      refine AQ.c rfl rfl (ih0 _ _ _ hx5) ?_
      refine AQ.q hC rfl trivial ?_
      refine AQ.nil ?_
      refine AOps.nil ?_
      refine AEx.cond rfl (fun hb => ?_) (fun hb => ?_)
      · replace hh := if_t hb hh
        refine AEx.seq ?_
        refine AEx.regionN rfl rfl ?_
        refine AOps.q hC rfl trivial ?_
        refine AOps.nil ?_
        refine AEx.ret ?_
        obtain rfl := Option.some.inj hh
        exact ⟨_, _, [], rfl, .rfl, trivial, rfl, rfl, rfl, rfl⟩
      · replace hh := if_f hb hh
        refine AEx.skip ?_
        refine AEx.regionN rfl rfl ?_
        iterate 3 refine AOps.q hC rfl trivial ?_
        refine AOps.nil ?_
        refine ALoop.wk ?_ (ih2 _ _ _ _ hh)
        exact ⟨⟨⟨.rfl, rfl⟩, ⟨⟨.rfl, rfl⟩, ⟨⟨.rfl, rfl⟩, trivial⟩⟩⟩, ⟨⟨rfl, .refl _, rfl⟩, ⟨⟨rfl, .refl _, rfl⟩, trivial⟩⟩, rfl⟩
    · replace hh := if_f hb hh
      refine AEx.exit ?_
      refine AEx.seq ?_
      refine AEx.regionN rfl rfl ?_
      refine AOps.q hC rfl trivial ?_
      refine AOps.nil ?_
      refine AEx.ret ?_
      obtain rfl := Option.some.inj hh
      exact ⟨_, _, [], rfl, .rfl, trivial, rfl, rfl, rfl, rfl⟩
theorem ref10_EqualType_ok {a : ApiType} {b : ApiType} {res : Bool} (hh : ref10_EqualType a b = some res) : ACall C 18 [.agg (ApiType.cells a), .agg (ApiType.cells b)] [] (fun x H' => H' = [] ∧ x = .d (.bool res)) := (ref10_EqualType_grp).1 _ _ _ hh
theorem ref10_EqualType_l1_ok {a : ApiType} {b : ApiType} {i : Int} {res : Bool} (hh : ref10_EqualType_l1 a b i = some res) : ALoop (Fx.mk C 95 0) (lo (bk (sr (sl (sr (sr (bodyOf Tryd.f18))))))) (mkEnv [(2, .ref 0 0), (3, .ref 1 0), (5, .d (.int .i64 i))]) [.row (ApiType.cells a) 27, .row (ApiType.cells b) 27] (Am.InBlock 0 (Am.Then (Fx.mk C 95 0) (sr (sr (sr (bodyOf Tryd.f18)))) (Am.Ends (Fx.mk C 95 0) Tryd.f18.results.toList (fun x H' => H' = [] ∧ x = .d (.bool res))))) := (ref10_EqualType_grp).2.1 _ _ _ _ hh
theorem ref10_EqualType_l2_ok {a : ApiType} {b : ApiType} {i1 : Int} {res : Bool} (hh : ref10_EqualType_l2 a b i1 = some res) : ALoop (Fx.mk C 95 0) (lo (bk (sr (sl (sr (sr (sr (bodyOf Tryd.f18)))))))) (mkEnv [(2, .ref 0 0), (3, .ref 1 0), (6, .d (.int .i64 i1))]) [.row (ApiType.cells a) 27, .row (ApiType.cells b) 27] (Am.InBlock 2 (Am.Then (Fx.mk C 95 0) (sr (sr (sr (sr (bodyOf Tryd.f18))))) (Am.Ends (Fx.mk C 95 0) Tryd.f18.results.toList (fun x H' => H' = [] ∧ x = .d (.bool res))))) := (ref10_EqualType_grp).2.2 _ _ _ _ hh
def slices_Equal_string_string_l1 (s1 : List Str) (s2 : List Str) (v13 : Int) : Option Bool :=
  if (decide (v13 < ((s1).length : Int))) = true then
    idx s1 v13 >>= fun x1 =>
    idx s2 v13 >>= fun x2 =>
    if (!(x1 == x2)) = true then
      some false
    else
      slices_Equal_string_string_l1 s1 s2 (IntKind.i64.wrap (v13 + 1))
  else
    some true
  partial_fixpoint
theorem slices_Equal_string_string_l1_grp (s1 : List Str) (s2 : List Str) : (∀ (v13 : Int) (res : Bool), slices_Equal_string_string_l1 s1 s2 v13 = some res → ALoop (Fx.mk C 26 0) (lo (bk (sr (sl (sr (sr (bodyOf Tryd.f64))))))) (mkEnv [(0, .d (.sl (estr.rows s1))), (1, .d (.sl (estr.rows s2))), (12, .d (.int .i64 ((s1).length : Int))), (13, .d (.int .i64 v13))]) [] (Am.InBlock 0 (Am.Then (Fx.mk C 26 0) (sr (sr (sr (bodyOf Tryd.f64)))) (Am.Ends (Fx.mk C 26 0) Tryd.f64.results.toList (fun x H' => H' = [] ∧ x = .d (.bool res)))))) := by
  refine slices_Equal_string_string_l1.partial_correctness s1
    s2
    (fun v13 res => ALoop (Fx.mk C 26 0) (lo (bk (sr (sl (sr (sr (bodyOf Tryd.f64))))))) (mkEnv [(0, .d (.sl (estr.rows s1))), (1, .d (.sl (estr.rows s2))), (12, .d (.int .i64 ((s1).length : Int))), (13, .d (.int .i64 v13))]) [] (Am.InBlock 0 (Am.Then (Fx.mk C 26 0) (sr (sr (sr (bodyOf Tryd.f64)))) (Am.Ends (Fx.mk C 26 0) Tryd.f64.results.toList (fun x H' => H' = [] ∧ x = .d (.bool res)))))) ?_
  · intro g0 ih0 v13 res hh
    refine ALoop.unroll ?_
    refine AEx.seq ?_
    refine AEx.regionN rfl rfl ?_
    refine AOps.q hC rfl trivial ?_
    refine AOps.nil ?_
    refine AEx.seq ?_
    refine AEx.cond rfl (fun hb => ?_) (fun hb => ?_)
    · replace hh := if_t hb hh
      refine AEx.skip ?_
      refine AEx.seq ?_
      refine AEx.block ?_
      refine AEx.seq ?_
      refine AEx.regionN rfl rfl ?_
      iterate 2 refine AOps.q hC rfl trivial ?_
      refine AOps.nil ?_
      refine AEx.seq ?_
      refine AEx.draw hC 9 rfl rfl rfl ?_
      refine AQ.q hC rfl trivial ?_
      refine AQ.q hC rfl trivial ?_
      obtain ⟨x1, hx1, hh⟩ := bind_some hh
      refine AQ.i hC rfl (idx_nat hx1) (estr.idx hx1) rfl ?_
      refine AQ.q hC rfl trivial ?_
      refine AQ.q hC rfl trivial ?_
      refine AQ.q hC rfl trivial ?_
      obtain ⟨x2, hx2, hh⟩ := bind_some hh
      refine AQ.i hC rfl (idx_nat hx2) (estr.idx hx2) rfl ?_
      refine AQ.q hC rfl trivial ?_
      refine AQ.q hC rfl trivial ?_
      refine AQ.nil ?_
      refine AOps.nil ?_
      refine AEx.cond rfl (fun hb => ?_) (fun hb => ?_)
      · replace hh := if_t hb hh
        refine AEx.seq ?_
        refine AEx.regionN rfl rfl ?_
        refine AOps.q hC rfl trivial ?_
        refine AOps.nil ?_
        refine AEx.ret ?_
        obtain rfl := Option.some.inj hh
        exact ⟨_, _, [], rfl, .rfl, trivial, rfl, rfl, rfl, rfl⟩
      · replace hh := if_f hb hh
        refine AEx.skip ?_
        refine AEx.regionN rfl rfl ?_
        iterate 2 refine AOps.q hC rfl trivial ?_
        refine AOps.nil ?_
        refine ALoop.wk ?_ (ih0 _ _ hh)
        exact ⟨⟨⟨.rfl, rfl⟩, ⟨⟨.rfl, rfl⟩, ⟨⟨.rfl, rfl⟩, ⟨⟨.rfl, rfl⟩, trivial⟩⟩⟩⟩, trivial, rfl⟩
    · replace hh := if_f hb hh
      refine AEx.exit ?_
      refine AEx.seq ?_
      refine AEx.regionN rfl rfl ?_
      refine AOps.q hC rfl trivial ?_
      refine AOps.nil ?_
      refine AEx.ret ?_
      obtain rfl := Option.some.inj hh
      exact ⟨_, _, [], rfl, .rfl, trivial, rfl, rfl, rfl, rfl⟩
theorem slices_Equal_string_string_l1_ok {s1 : List Str} {s2 : List Str} {v13 : Int} {res : Bool} (hh : slices_Equal_string_string_l1 s1 s2 v13 = some res) : ALoop (Fx.mk C 26 0) (lo (bk (sr (sl (sr (sr (bodyOf Tryd.f64))))))) (mkEnv [(0, .d (.sl (estr.rows s1))), (1, .d (.sl (estr.rows s2))), (12, .d (.int .i64 ((s1).length : Int))), (13, .d (.int .i64 v13))]) [] (Am.InBlock 0 (Am.Then (Fx.mk C 26 0) (sr (sr (sr (bodyOf Tryd.f64)))) (Am.Ends (Fx.mk C 26 0) Tryd.f64.results.toList (fun x H' => H' = [] ∧ x = .d (.bool res))))) := (slices_Equal_string_string_l1_grp s1 s2) _ _ hh
end Go.Proofs.YtonilfkaecbjnaaDoor
