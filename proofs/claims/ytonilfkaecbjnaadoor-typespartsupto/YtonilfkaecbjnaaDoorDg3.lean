/- What the functions compute, and that they do: printed by gen.py. -/
import Derived.Test.YtonilfkaecbjnaaDoorDg2
set_option maxRecDepth 100000
set_option maxHeartbeats 4000000
set_option linter.unusedVariables false
namespace Go.Proofs.YtonilfkaecbjnaaDoor
open Go.Am
def slices_Equal_int_int (s1 : List Int) (s2 : List Int) : Option Bool :=
  if (((s1).length : Int) != ((s2).length : Int)) = true then
    some false
  else
    slices_Equal_int_int_l1 s1 s2 0
theorem slices_Equal_int_int_ok {s1 : List Int} {s2 : List Int} {res : Bool} (hh : slices_Equal_int_int s1 s2 = some res) : ACall C 29 [.d (.sl (ei64.rows s1)), .d (.sl (ei64.rows s2))] [] (fun x H' => H' = [] ∧ x = .d (.bool res)) := by
  unfold slices_Equal_int_int at hh
  refine ACall.intro hC Tryd.func29 rfl rfl rfl ?_
  refine AEx.seq ?_
  refine AEx.regionN rfl rfl ?_
  refine AOps.q hC rfl trivial ?_
  refine AOps.nil ?_
  refine AEx.seq ?_
  refine AEx.seq ?_
  refine AEx.regionN rfl rfl ?_
  refine AOps.q hC rfl trivial ?_
  refine AOps.qe hC rfl trivial (ei64.lenA _) ?_
  refine AOps.q hC rfl trivial ?_
  refine AOps.qe hC rfl trivial (ei64.lenA _) ?_
  refine AOps.q hC rfl trivial ?_
  refine AOps.nil ?_
  refine AEx.cond rfl (fun hb => ?_) (fun hb => ?_)
  · replace hh := if_t hb hh
    refine AEx.seq ?_
    refine AEx.regionN rfl rfl ?_
    refine AOps.q hC rfl trivial ?_
    refine AOps.nil ?_
    refine AEx.ret ?_
    obtain rfl := Option.some.inj hh
    exact ⟨_, _, [], rfl, .rfl, trivial, rfl, rfl, rfl, rfl⟩
  · replace hh := if_f hb hh
    refine AEx.skip ?_
    refine AEx.seq ?_
    refine AEx.seq ?_
    refine AEx.regionN rfl rfl ?_
    refine AOps.q hC rfl trivial ?_
    refine AOps.qe hC rfl trivial (ei64.lenA _) ?_
    refine AOps.q hC rfl trivial ?_
    refine AOps.nil ?_
    refine AEx.block ?_
    refine AEx.ofLoop ?_
    refine ALoop.wk ?_ (slices_Equal_int_int_l1_ok hh)
    exact ⟨⟨⟨.rfl, rfl⟩, ⟨⟨.rfl, rfl⟩, ⟨⟨.rfl, rfl⟩, ⟨⟨.rfl, rfl⟩, trivial⟩⟩⟩⟩, trivial, rfl⟩
def types_Contains (t : ApiType) (list : List Int) : Option Bool :=
  types_Clamp t list >>= fun x1 =>
  (if (x1.2 == 0) = true then slices_Equal_int_int x1.1 list else some default) >>= fun x2 =>
  some (bif (x1.2 == 0) then x2 else false)
theorem types_Contains_ok {t : ApiType} {list : List Int} {res : Bool} (hh : types_Contains t list = some res) : ACall C 27 [.agg (ApiType.cells t), .d (.sl (ei64.rows list))] [] (fun x H' => H' = [] ∧ x = .d (.bool res)) := by
  unfold types_Contains at hh
  refine ACall.intro hC Tryd.func27 rfl rfl rfl ?_
  refine AEx.seq ?_
  refine AEx.regionN rfl rfl ?_
  refine AOps.n hC rfl ?_
  refine AOps.q hC rfl trivial ?_
  refine AOps.nil ?_
  refine AEx.seq ?_
  refine AEx.regionN rfl rfl ?_
  iterate 2 refine AOps.q hC rfl trivial ?_
  obtain ⟨x1, hx1, hh⟩ := bind_some hh
  refine AOps.c rfl rfl (types_Clamp_ok hx1) ?_
  iterate 5 refine AOps.q hC rfl trivial ?_
  refine AOps.nil ?_
  refine AEx.seq ?_
  refine AEx.regionG 8 rfl ?_
  refine AG.q hC rfl ?_ ?_
  · intro hg; refine And.intro ?_ ?_ <;> repeat' (first | exact True.intro | exact hg | exact and_l hg | exact and_l (and_l hg) | refine And.intro ?_ ?_)
  refine AG.q hC rfl ?_ ?_
  · intro hg; refine And.intro ?_ ?_ <;> repeat' (first | exact True.intro | exact hg | exact and_l hg | exact and_l (and_l hg) | refine And.intro ?_ ?_)
  refine AG.q hC rfl ?_ ?_
  · intro hg; refine And.intro ?_ ?_ <;> repeat' (first | exact True.intro | exact hg | exact and_l hg | exact and_l (and_l hg) | refine And.intro ?_ ?_)
  refine AG.q hC rfl ?_ ?_
  · intro hg; refine And.intro ?_ ?_ <;> repeat' (first | exact True.intro | exact hg | exact and_l hg | exact and_l (and_l hg) | refine And.intro ?_ ?_)
  refine AG.q hC rfl ?_ ?_
  · intro hg; refine And.intro ?_ ?_ <;> repeat' (first | exact True.intro | exact hg | exact and_l hg | exact and_l (and_l hg) | refine And.intro ?_ ?_)
  obtain ⟨x2, hx2, hh⟩ := bind_some hh
  refine AG.c rfl rfl (by intro hg; repeat' (first | exact True.intro | exact hg | exact and_l hg | exact and_l (and_l hg) | refine And.intro ?_ ?_)) (fun hw => slices_Equal_int_int_ok (if_t hw hx2)) ?_
  refine AG.p hC rfl ?_ ?_
  · intro hg; refine And.intro ?_ (And.intro ?_ ?_) <;> first | exact True.intro | exact fun _ => True.intro | exact And.intro hg True.intro | exact fun h' => And.intro (wb_f h') True.intro | exact fun h' => And.intro (wb_t h') True.intro | exact fun h' => And.intro (and_f hg h') True.intro | exact fun h' => And.intro (and_t hg h') True.intro | exact And.intro (and_l hg) True.intro
  refine AG.q hC rfl ?_ ?_
  · intro hg; refine And.intro ?_ ?_ <;> repeat' (first | exact True.intro | exact hg | exact and_l hg | exact and_l (and_l hg) | refine And.intro ?_ ?_)
  refine AG.nil ?_
  refine AOps.nil ?_
  refine AEx.ret ?_
  obtain rfl := Option.some.inj hh
  exact ⟨_, _, [], rfl, .rfl, trivial, rfl, rfl, rfl, rfl⟩
def law12_known : Option Bool :=
  types_Expand [(ApiDecl.mk 0 [98, 105, 116] (ApiType.mk 0 0 0 0 [] [] []) 0 (ApiExpr.mk 0 0 [] []) [] [] []), (ApiDecl.mk 0 [112, 97, 105, 114] (ApiType.mk 3 0 0 0 [] [[97], [98]] [(ApiType.mk 4 0 0 0 [98, 105, 116] [] []), (ApiType.mk 1 1 3 0 [] [] [])]) 0 (ApiExpr.mk 0 0 [] []) [] [] [])] (ApiType.mk 2 0 0 2 [] [] [(ApiType.mk 4 0 0 0 [112, 97, 105, 114] [] [])]) >>= fun x1 =>
  types_Scalars x1.1 >>= fun x2 =>
  types_Values x1.1 >>= fun x3 =>
  types_Clamp x1.1 [5, 0, (-1), 2] >>= fun x4 =>
  (if (bif ((IntKind.i64.wrap ((IntKind.i64.wrap ((IntKind.i64.wrap (x1.2 + x2.2)) + x3.2)) + x4.2)) == 0) then (((x2.1).length : Int) == 4) else false) = true then idx x2.1 2 else some default) >>= fun x5 =>
  (if (bif (bif (bif ((IntKind.i64.wrap ((IntKind.i64.wrap ((IntKind.i64.wrap (x1.2 + x2.2)) + x3.2)) + x4.2)) == 0) then (((x2.1).length : Int) == 4) else false) then (bif (x5.Path == [46, 49, 46, 97]) then (bif (x5.Bool == true) then (bif (x5.Low == 0) then (bif (x5.High == 1) then true else false) else false) else false) else false) else false) then (x3.1 == 36) else false) = true then slices_Equal_int_int x4.1 [1, 1, 0, 2] else some default) >>= fun x6 =>
  (if (bif (bif (bif (bif ((IntKind.i64.wrap ((IntKind.i64.wrap ((IntKind.i64.wrap (x1.2 + x2.2)) + x3.2)) + x4.2)) == 0) then (((x2.1).length : Int) == 4) else false) then (bif (x5.Path == [46, 49, 46, 97]) then (bif (x5.Bool == true) then (bif (x5.Low == 0) then (bif (x5.High == 1) then true else false) else false) else false) else false) else false) then (x3.1 == 36) else false) then x6 else false) = true then types_Contains x1.1 x4.1 else some default) >>= fun x7 =>
  (if (bif (bif (bif (bif (bif ((IntKind.i64.wrap ((IntKind.i64.wrap ((IntKind.i64.wrap (x1.2 + x2.2)) + x3.2)) + x4.2)) == 0) then (((x2.1).length : Int) == 4) else false) then (bif (x5.Path == [46, 49, 46, 97]) then (bif (x5.Bool == true) then (bif (x5.Low == 0) then (bif (x5.High == 1) then true else false) else false) else false) else false) else false) then (x3.1 == 36) else false) then x6 else false) then x7 else false) = true then types_Check (ApiType.mk 4 0 0 0 [112, 97, 105, 114] [] []) else some default) >>= fun x8 =>
  some (bif (bif (bif (bif (bif (bif ((IntKind.i64.wrap ((IntKind.i64.wrap ((IntKind.i64.wrap (x1.2 + x2.2)) + x3.2)) + x4.2)) == 0) then (((x2.1).length : Int) == 4) else false) then (bif (x5.Path == [46, 49, 46, 97]) then (bif (x5.Bool == true) then (bif (x5.Low == 0) then (bif (x5.High == 1) then true else false) else false) else false) else false) else false) then (x3.1 == 36) else false) then x6 else false) then x7 else false) then (x8 == 7) else false)
theorem law12_known_ok {res : Bool} (hh : law12_known = some res) : ACall C 13 [] [] (fun x H' => H' = [] ∧ x = .d (.bool res)) := by
  unfold law12_known at hh
  refine ACall.intro hC Tryd.func13 rfl rfl rfl ?_
  refine AEx.seq ?_
  refine AEx.regionN rfl rfl ?_
  refine AOps.q hC rfl trivial ?_
  refine AOps.nil ?_
  refine AEx.seq ?_
  refine AEx.regionN rfl rfl ?_
  refine AOps.q hC rfl trivial ?_
  refine AOps.be hC rfl (estr.rows_map [[97], [98]]).symm ?_
  iterate 2 refine AOps.q hC rfl trivial ?_
  refine AOps.be hC rfl (ApiType.rows_map [(ApiType.mk 4 0 0 0 [98, 105, 116] [] []), (ApiType.mk 1 1 3 0 [] [] [])]).symm ?_
  iterate 2 refine AOps.q hC rfl trivial ?_
  refine AOps.be hC rfl (ApiDecl.rows_map [(ApiDecl.mk 0 [98, 105, 116] (ApiType.mk 0 0 0 0 [] [] []) 0 (ApiExpr.mk 0 0 [] []) [] [] []), (ApiDecl.mk 0 [112, 97, 105, 114] (ApiType.mk 3 0 0 0 [] [[97], [98]] [(ApiType.mk 4 0 0 0 [98, 105, 116] [] []), (ApiType.mk 1 1 3 0 [] [] [])]) 0 (ApiExpr.mk 0 0 [] []) [] [] [])]).symm ?_
  refine AOps.q hC rfl trivial ?_
  refine AOps.nil ?_
  refine AEx.seq ?_
  refine AEx.regionN rfl rfl ?_
  iterate 2 refine AOps.q hC rfl trivial ?_
  refine AOps.be hC rfl (ApiType.rows_map [(ApiType.mk 4 0 0 0 [112, 97, 105, 114] [] [])]).symm ?_
  refine AOps.q hC rfl trivial ?_
  obtain ⟨x1, hx1, hh⟩ := bind_some hh
  refine AOps.cl rfl (types_Expand_ok hx1) ⟨.full, ⟨(.aggL ⟨.rfl, ⟨.rfl, ⟨.rfl, ⟨.rfl, ⟨.rfl, ⟨.rfl, ⟨.full, trivial⟩⟩⟩⟩⟩⟩⟩), trivial⟩⟩ rfl ?_
  iterate 3 refine AOps.q hC rfl trivial ?_
  refine AOps.nf hC rfl ?_
  refine AOps.s hC rfl ?_
  refine AOps.q hC rfl trivial ?_
  refine AOps.nil ?_
  refine AEx.seq ?_
  refine AEx.regionN rfl rfl ?_
  refine AOps.q hC rfl trivial ?_
  obtain ⟨x2, hx2, hh⟩ := bind_some hh
  refine AOps.c rfl rfl (types_Scalars_ok hx2) ?_
  iterate 5 refine AOps.q hC rfl trivial ?_
  refine AOps.nil ?_
  refine AEx.seq ?_
  refine AEx.regionN rfl rfl ?_
  refine AOps.q hC rfl trivial ?_
  obtain ⟨x3, hx3, hh⟩ := bind_some hh
  refine AOps.c rfl rfl (types_Values_ok hx3) ?_
  iterate 5 refine AOps.q hC rfl trivial ?_
  refine AOps.nil ?_
  refine AEx.seq ?_
  refine AEx.regionN rfl rfl ?_
  refine AOps.q hC rfl trivial ?_
  refine AOps.be hC rfl (ei64.rows_map [5, 0, (-1), 2]).symm ?_
  obtain ⟨x4, hx4, hh⟩ := bind_some hh
  refine AOps.cl rfl (types_Clamp_ok hx4) ⟨.rfl, ⟨.full, trivial⟩⟩ rfl ?_
  iterate 5 refine AOps.q hC rfl trivial ?_
  refine AOps.nil ?_
  refine AEx.seq ?_
  refine AEx.regionG 40 rfl ?_
  refine AG.q hC rfl ?_ ?_
  · intro hg; refine And.intro ?_ ?_ <;> repeat' (first | exact True.intro | exact hg | exact and_l hg | exact and_l (and_l hg) | refine And.intro ?_ ?_)
  refine AG.q hC rfl ?_ ?_
  · intro hg; refine And.intro ?_ ?_ <;> repeat' (first | exact True.intro | exact hg | exact and_l hg | exact and_l (and_l hg) | refine And.intro ?_ ?_)
  refine AG.q hC rfl ?_ ?_
  · intro hg; refine And.intro ?_ ?_ <;> repeat' (first | exact True.intro | exact hg | exact and_l hg | exact and_l (and_l hg) | refine And.intro ?_ ?_)
  refine AG.q hC rfl ?_ ?_
  · intro hg; refine And.intro ?_ ?_ <;> repeat' (first | exact True.intro | exact hg | exact and_l hg | exact and_l (and_l hg) | refine And.intro ?_ ?_)
  refine AG.q hC rfl ?_ ?_
  · intro hg; refine And.intro ?_ ?_ <;> repeat' (first | exact True.intro | exact hg | exact and_l hg | exact and_l (and_l hg) | refine And.intro ?_ ?_)
  refine AG.q hC rfl ?_ ?_
  · intro hg; refine And.intro ?_ ?_ <;> repeat' (first | exact True.intro | exact hg | exact and_l hg | exact and_l (and_l hg) | refine And.intro ?_ ?_)
  refine AG.q hC rfl ?_ ?_
  · intro hg; refine And.intro ?_ ?_ <;> repeat' (first | exact True.intro | exact hg | exact and_l hg | exact and_l (and_l hg) | refine And.intro ?_ ?_)
  refine AG.q hC rfl ?_ ?_
  · intro hg; refine And.intro ?_ ?_ <;> repeat' (first | exact True.intro | exact hg | exact and_l hg | exact and_l (and_l hg) | refine And.intro ?_ ?_)
  refine AG.q hC rfl ?_ ?_
  · intro hg; refine And.intro ?_ ?_ <;> repeat' (first | exact True.intro | exact hg | exact and_l hg | exact and_l (and_l hg) | refine And.intro ?_ ?_)
  refine AG.q hC rfl ?_ ?_
  · intro hg; refine And.intro ?_ ?_ <;> repeat' (first | exact True.intro | exact hg | exact and_l hg | exact and_l (and_l hg) | refine And.intro ?_ ?_)
  refine AG.qe hC rfl ?_ (ApiScalar.lenA _) ?_
  · intro hg; refine And.intro ?_ ?_ <;> repeat' (first | exact True.intro | exact hg | exact and_l hg | exact and_l (and_l hg) | refine And.intro ?_ ?_)
  refine AG.q hC rfl ?_ ?_
  · intro hg; refine And.intro ?_ ?_ <;> repeat' (first | exact True.intro | exact hg | exact and_l hg | exact and_l (and_l hg) | refine And.intro ?_ ?_)
  refine AG.p hC rfl ?_ ?_
  · intro hg; refine And.intro ?_ (And.intro ?_ ?_) <;> first | exact True.intro | exact fun _ => True.intro | exact And.intro hg True.intro | exact fun h' => And.intro (wb_f h') True.intro | exact fun h' => And.intro (wb_t h') True.intro | exact fun h' => And.intro (and_f hg h') True.intro | exact fun h' => And.intro (and_t hg h') True.intro | exact And.intro (and_l hg) True.intro
  refine AG.q hC rfl ?_ ?_
  · intro hg; refine And.intro ?_ ?_ <;> repeat' (first | exact True.intro | exact hg | exact and_l hg | exact and_l (and_l hg) | refine And.intro ?_ ?_)
  refine AG.q hC rfl ?_ ?_
  · intro hg; refine And.intro ?_ ?_ <;> repeat' (first | exact True.intro | exact hg | exact and_l hg | exact and_l (and_l hg) | refine And.intro ?_ ?_)
  obtain ⟨x5, hx5, hh⟩ := bind_some hh
  refine AG.i hC rfl rfl (by intro hg; repeat' (first | exact True.intro | exact hg | exact and_l hg | exact and_l (and_l hg) | refine And.intro ?_ ?_)) (fun hw => ⟨idx_nat (if_t hw hx5), ApiScalar.idx (if_t hw hx5), rfl⟩) ?_
  refine AG.q hC rfl ?_ ?_
  · intro hg; refine And.intro ?_ ?_ <;> repeat' (first | exact True.intro | exact hg | exact and_l hg | exact and_l (and_l hg) | refine And.intro ?_ ?_)
  refine AG.q hC rfl ?_ ?_
  · intro hg; refine And.intro ?_ ?_ <;> repeat' (first | exact True.intro | exact hg | exact and_l hg | exact and_l (and_l hg) | refine And.intro ?_ ?_)
  refine AG.se hC rfl rfl (by kernel_rfl) (by intro hg; repeat' (first | exact True.intro | exact hg | exact and_l hg | exact and_l (and_l hg) | refine And.intro ?_ ?_)) ?_
  refine AG.p hC rfl ?_ ?_
  · intro hg; refine And.intro ?_ (And.intro ?_ ?_) <;> first | exact True.intro | exact fun _ => True.intro | exact And.intro hg True.intro | exact fun h' => And.intro (wb_f h') True.intro | exact fun h' => And.intro (wb_t h') True.intro | exact fun h' => And.intro (and_f hg h') True.intro | exact fun h' => And.intro (and_t hg h') True.intro | exact And.intro (and_l hg) True.intro
  refine AG.q hC rfl ?_ ?_
  · intro hg; refine And.intro ?_ ?_ <;> repeat' (first | exact True.intro | exact hg | exact and_l hg | exact and_l (and_l hg) | refine And.intro ?_ ?_)
  refine AG.q hC rfl ?_ ?_
  · intro hg; refine And.intro ?_ ?_ <;> repeat' (first | exact True.intro | exact hg | exact and_l hg | exact and_l (and_l hg) | refine And.intro ?_ ?_)
  refine AG.q hC rfl ?_ ?_
  · intro hg; refine And.intro ?_ ?_ <;> repeat' (first | exact True.intro | exact hg | exact and_l hg | exact and_l (and_l hg) | refine And.intro ?_ ?_)
  refine AG.p hC rfl ?_ ?_
  · intro hg; refine And.intro ?_ (And.intro ?_ ?_) <;> first | exact True.intro | exact fun _ => True.intro | exact And.intro hg True.intro | exact fun h' => And.intro (wb_f h') True.intro | exact fun h' => And.intro (wb_t h') True.intro | exact fun h' => And.intro (and_f hg h') True.intro | exact fun h' => And.intro (and_t hg h') True.intro | exact And.intro (and_l hg) True.intro
  refine AG.q hC rfl ?_ ?_
  · intro hg; refine And.intro ?_ ?_ <;> repeat' (first | exact True.intro | exact hg | exact and_l hg | exact and_l (and_l hg) | refine And.intro ?_ ?_)
  refine AG.q hC rfl ?_ ?_
  · intro hg; refine And.intro ?_ ?_ <;> repeat' (first | exact True.intro | exact hg | exact and_l hg | exact and_l (and_l hg) | refine And.intro ?_ ?_)
  refine AG.bx hC rfl rfl (ei64.rows_map [1, 1, 0, 2]).symm (by intro hg; repeat' (first | exact True.intro | exact hg | exact and_l hg | exact and_l (and_l hg) | refine And.intro ?_ ?_)) ?_
  obtain ⟨x6, hx6, hh⟩ := bind_some hh
  refine AG.cl rfl (fun hw => slices_Equal_int_int_ok (if_t hw hx6)) ⟨.rfl, ⟨.full, trivial⟩⟩ rfl (by intro hg; repeat' (first | exact True.intro | exact hg | exact and_l hg | exact and_l (and_l hg) | refine And.intro ?_ ?_)) ?_
  refine AG.p hC rfl ?_ ?_
  · intro hg; refine And.intro ?_ (And.intro ?_ ?_) <;> first | exact True.intro | exact fun _ => True.intro | exact And.intro hg True.intro | exact fun h' => And.intro (wb_f h') True.intro | exact fun h' => And.intro (wb_t h') True.intro | exact fun h' => And.intro (and_f hg h') True.intro | exact fun h' => And.intro (and_t hg h') True.intro | exact And.intro (and_l hg) True.intro
  refine AG.q hC rfl ?_ ?_
  · intro hg; refine And.intro ?_ ?_ <;> repeat' (first | exact True.intro | exact hg | exact and_l hg | exact and_l (and_l hg) | refine And.intro ?_ ?_)
  refine AG.q hC rfl ?_ ?_
  · intro hg; refine And.intro ?_ ?_ <;> repeat' (first | exact True.intro | exact hg | exact and_l hg | exact and_l (and_l hg) | refine And.intro ?_ ?_)
  refine AG.q hC rfl ?_ ?_
  · intro hg; refine And.intro ?_ ?_ <;> repeat' (first | exact True.intro | exact hg | exact and_l hg | exact and_l (and_l hg) | refine And.intro ?_ ?_)
  obtain ⟨x7, hx7, hh⟩ := bind_some hh
  refine AG.c rfl rfl (by intro hg; repeat' (first | exact True.intro | exact hg | exact and_l hg | exact and_l (and_l hg) | refine And.intro ?_ ?_)) (fun hw => types_Contains_ok (if_t hw hx7)) ?_
  refine AG.p hC rfl ?_ ?_
  · intro hg; refine And.intro ?_ (And.intro ?_ ?_) <;> first | exact True.intro | exact fun _ => True.intro | exact And.intro hg True.intro | exact fun h' => And.intro (wb_f h') True.intro | exact fun h' => And.intro (wb_t h') True.intro | exact fun h' => And.intro (and_f hg h') True.intro | exact fun h' => And.intro (and_t hg h') True.intro | exact And.intro (and_l hg) True.intro
  refine AG.q hC rfl ?_ ?_
  · intro hg; refine And.intro ?_ ?_ <;> repeat' (first | exact True.intro | exact hg | exact and_l hg | exact and_l (and_l hg) | refine And.intro ?_ ?_)
  refine AG.q hC rfl ?_ ?_
  · intro hg; refine And.intro ?_ ?_ <;> repeat' (first | exact True.intro | exact hg | exact and_l hg | exact and_l (and_l hg) | refine And.intro ?_ ?_)
  obtain ⟨x8, hx8, hh⟩ := bind_some hh
  refine AG.c rfl rfl (by intro hg; repeat' (first | exact True.intro | exact hg | exact and_l hg | exact and_l (and_l hg) | refine And.intro ?_ ?_)) (fun hw => types_Check_ok (if_t hw hx8)) ?_
  refine AG.q hC rfl ?_ ?_
  · intro hg; refine And.intro ?_ ?_ <;> repeat' (first | exact True.intro | exact hg | exact and_l hg | exact and_l (and_l hg) | refine And.intro ?_ ?_)
  refine AG.p hC rfl ?_ ?_
  · intro hg; refine And.intro ?_ (And.intro ?_ ?_) <;> first | exact True.intro | exact fun _ => True.intro | exact And.intro hg True.intro | exact fun h' => And.intro (wb_f h') True.intro | exact fun h' => And.intro (wb_t h') True.intro | exact fun h' => And.intro (and_f hg h') True.intro | exact fun h' => And.intro (and_t hg h') True.intro | exact And.intro (and_l hg) True.intro
  refine AG.q hC rfl ?_ ?_
  · intro hg; refine And.intro ?_ ?_ <;> repeat' (first | exact True.intro | exact hg | exact and_l hg | exact and_l (and_l hg) | refine And.intro ?_ ?_)
  refine AG.nil ?_
  refine AOps.nil ?_
  refine AEx.ret ?_
  obtain rfl := Option.some.inj hh
  exact ⟨_, _, [], rfl, .rfl, trivial, rfl, rfl, rfl, rfl⟩
mutual
def law12_left (t : ApiType) (n : Int) : Option Int :=
  law12_left_l1 t (IntKind.i64.wrap (n - (IntKind.i64.wrap (1 + (min ((t.Names).length : Int) (IntKind.i64.wrap (n + 1))))))) 0
  partial_fixpoint
def law12_left_l1 (t : ApiType) (n1 : Int) (i : Int) : Option Int :=
  if (bif (decide (i < ((t.Of).length : Int))) then (decide (n1 ≥ 0)) else false) = true then
    idx t.Of i >>= fun x1 =>
    law12_left x1 n1 >>= fun x2 =>
    law12_left_l1 t x2 (IntKind.i64.wrap (i + 1))
  else
    some n1
  partial_fixpoint
end
theorem law12_left_grp : (∀ (t : ApiType) (n : Int) (res : Int), law12_left t n = some res → ACall C 50 [.agg (ApiType.cells t), .d (.int .i64 n)] [] (fun x H' => H' = [] ∧ x = .d (.int .i64 res))) ∧
    (∀ (t : ApiType) (n1 : Int) (i : Int) (res : Int), law12_left_l1 t n1 i = some res → ALoop (Fx.mk C 34 0) (lo (bk (sr (sl (sr (sr (bodyOf Tryd.f50))))))) (mkEnv [(1, .d (.int .i64 n1)), (2, .ref 0 0), (5, .d (.int .i64 i))]) [.row (ApiType.cells t) 27] (Am.InBlock 0 (Am.Then (Fx.mk C 34 0) (sr (sr (sr (bodyOf Tryd.f50)))) (Am.Ends (Fx.mk C 34 0) Tryd.f50.results.toList (fun x H' => H' = [] ∧ x = .d (.int .i64 res)))))) := by
  refine law12_left.mutual_partial_correctness (fun t n res => ACall C 50 [.agg (ApiType.cells t), .d (.int .i64 n)] [] (fun x H' => H' = [] ∧ x = .d (.int .i64 res)))
    (fun t n1 i res => ALoop (Fx.mk C 34 0) (lo (bk (sr (sl (sr (sr (bodyOf Tryd.f50))))))) (mkEnv [(1, .d (.int .i64 n1)), (2, .ref 0 0), (5, .d (.int .i64 i))]) [.row (ApiType.cells t) 27] (Am.InBlock 0 (Am.Then (Fx.mk C 34 0) (sr (sr (sr (bodyOf Tryd.f50)))) (Am.Ends (Fx.mk C 34 0) Tryd.f50.results.toList (fun x H' => H' = [] ∧ x = .d (.int .i64 res)))))) ?_ ?_
  · intro g1 ih1 t n res hh
    refine ACall.intro hC Tryd.func50 rfl rfl rfl ?_
    refine AEx.seq ?_
    refine AEx.regionN rfl rfl ?_
    refine AOps.n hC rfl ?_
    refine AOps.q hC rfl trivial ?_
    refine AOps.nil ?_
    refine AEx.seq ?_
    refine AEx.regionN rfl rfl ?_
    iterate 3 refine AOps.q hC rfl trivial ?_
    refine AOps.qe hC rfl trivial (estr.lenA _) ?_
    iterate 6 refine AOps.q hC rfl trivial ?_
    refine AOps.nil ?_
    refine AEx.seq ?_
    refine AEx.seq ?_
    refine AEx.regionN rfl rfl ?_
    refine AOps.q hC rfl trivial ?_
    refine AOps.nil ?_
    refine AEx.block ?_
    refine AEx.ofLoop ?_
    refine ALoop.wk ?_ (ih1 _ _ _ _ hh)
    exact ⟨⟨⟨.rfl, rfl⟩, ⟨⟨.rfl, rfl⟩, ⟨⟨.rfl, rfl⟩, trivial⟩⟩⟩, ⟨⟨rfl, .refl _, rfl⟩, trivial⟩, rfl⟩
  · intro g0 g1 ih0 ih1 t n1 i res hh
    refine ALoop.unroll ?_
    refine AEx.seq ?_
    refine AEx.seq ?_
    refine AEx.regionG 9 rfl ?_
    refine AG.q hC rfl ?_ ?_
    · intro hg; refine And.intro ?_ ?_ <;> repeat' (first | exact True.intro | exact hg | exact and_l hg | exact and_l (and_l hg) | refine And.intro ?_ ?_)
    refine AG.q hC rfl ?_ ?_
    · intro hg; refine And.intro ?_ ?_ <;> repeat' (first | exact True.intro | exact hg | exact and_l hg | exact and_l (and_l hg) | refine And.intro ?_ ?_)
    refine AG.q hC rfl ?_ ?_
    · intro hg; refine And.intro ?_ ?_ <;> repeat' (first | exact True.intro | exact hg | exact and_l hg | exact and_l (and_l hg) | refine And.intro ?_ ?_)
    refine AG.qe hC rfl ?_ (ApiType.lenA _) ?_
    · intro hg; refine And.intro ?_ ?_ <;> repeat' (first | exact True.intro | exact hg | exact and_l hg | exact and_l (and_l hg) | refine And.intro ?_ ?_)
    refine AG.q hC rfl ?_ ?_
    · intro hg; refine And.intro ?_ ?_ <;> repeat' (first | exact True.intro | exact hg | exact and_l hg | exact and_l (and_l hg) | refine And.intro ?_ ?_)
    refine AG.q hC rfl ?_ ?_
    · intro hg; refine And.intro ?_ ?_ <;> repeat' (first | exact True.intro | exact hg | exact and_l hg | exact and_l (and_l hg) | refine And.intro ?_ ?_)
    refine AG.q hC rfl ?_ ?_
    · intro hg; refine And.intro ?_ ?_ <;> repeat' (first | exact True.intro | exact hg | exact and_l hg | exact and_l (and_l hg) | refine And.intro ?_ ?_)
    refine AG.q hC rfl ?_ ?_
    · intro hg; refine And.intro ?_ ?_ <;> repeat' (first | exact True.intro | exact hg | exact and_l hg | exact and_l (and_l hg) | refine And.intro ?_ ?_)
    refine AG.p hC rfl ?_ ?_
    · intro hg; refine And.intro ?_ (And.intro ?_ ?_) <;> first | exact True.intro | exact fun _ => True.intro | exact And.intro hg True.intro | exact fun h' => And.intro (wb_f h') True.intro | exact fun h' => And.intro (wb_t h') True.intro | exact fun h' => And.intro (and_f hg h') True.intro | exact fun h' => And.intro (and_t hg h') True.intro | exact And.intro (and_l hg) True.intro
    refine AG.nil ?_
    refine AOps.nil ?_
    refine AEx.cond rfl (fun hb => ?_) (fun hb => ?_)
    · replace hh := if_t hb hh
      refine AEx.skip ?_
      refine AEx.seq ?_
      refine AEx.block ?_
      refine AEx.regionN rfl rfl ?_
      iterate 3 refine AOps.q hC rfl trivial ?_
      obtain ⟨x1, hx1, hh⟩ := bind_some hh
      refine AOps.i hC rfl (idx_nat hx1) (ApiType.idx hx1) rfl ?_
      iterate 2 refine AOps.q hC rfl trivial ?_
      obtain ⟨x2, hx2, hh⟩ := bind_some hh
      refine AOps.c rfl rfl (ih0 _ _ _ hx2) ?_
      refine AOps.q hC rfl trivial ?_
      refine AOps.nil ?_
      refine AEx.regionN rfl rfl ?_
      iterate 3 refine AOps.q hC rfl trivial ?_
      refine AOps.nil ?_
      refine ALoop.wk ?_ (ih1 _ _ _ _ hh)
      exact ⟨⟨⟨.rfl, rfl⟩, ⟨⟨.rfl, rfl⟩, ⟨⟨.rfl, rfl⟩, trivial⟩⟩⟩, ⟨⟨rfl, .refl _, rfl⟩, trivial⟩, rfl⟩
    · replace hh := if_f hb hh
      refine AEx.exit ?_
      refine AEx.seq ?_
      refine AEx.regionN rfl rfl ?_
      iterate 2 refine AOps.q hC rfl trivial ?_
      refine AOps.nil ?_
      refine AEx.ret ?_
      obtain rfl := Option.some.inj hh
      exact ⟨_, _, [], rfl, .rfl, trivial, rfl, rfl, rfl, rfl⟩
theorem law12_left_ok {t : ApiType} {n : Int} {res : Int} (hh : law12_left t n = some res) : ACall C 50 [.agg (ApiType.cells t), .d (.int .i64 n)] [] (fun x H' => H' = [] ∧ x = .d (.int .i64 res)) := (law12_left_grp).1 _ _ _ hh
theorem law12_left_l1_ok {t : ApiType} {n1 : Int} {i : Int} {res : Int} (hh : law12_left_l1 t n1 i = some res) : ALoop (Fx.mk C 34 0) (lo (bk (sr (sl (sr (sr (bodyOf Tryd.f50))))))) (mkEnv [(1, .d (.int .i64 n1)), (2, .ref 0 0), (5, .d (.int .i64 i))]) [.row (ApiType.cells t) 27] (Am.InBlock 0 (Am.Then (Fx.mk C 34 0) (sr (sr (sr (bodyOf Tryd.f50)))) (Am.Ends (Fx.mk C 34 0) Tryd.f50.results.toList (fun x H' => H' = [] ∧ x = .d (.int .i64 res))))) := (law12_left_grp).2 _ _ _ _ hh
def law12_few (t : ApiType) : Option Bool :=
  law12_left t 200 >>= fun x1 =>
  some (decide (x1 ≥ 0))
theorem law12_few_ok {t : ApiType} {res : Bool} (hh : law12_few t = some res) : ACall C 15 [.agg (ApiType.cells t)] [] (fun x H' => H' = [] ∧ x = .d (.bool res)) := by
  unfold law12_few at hh
  refine ACall.intro hC Tryd.func15 rfl rfl rfl ?_
  refine AEx.seq ?_
  refine AEx.regionN rfl rfl ?_
  refine AOps.n hC rfl ?_
  refine AOps.q hC rfl trivial ?_
  refine AOps.nil ?_
  refine AEx.seq ?_
  refine AEx.regionN rfl rfl ?_
  refine AOps.q hC rfl trivial ?_
  obtain ⟨x1, hx1, hh⟩ := bind_some hh
  refine AOps.c rfl rfl (law12_left_ok hx1) ?_
  iterate 2 refine AOps.q hC rfl trivial ?_
  refine AOps.nil ?_
  refine AEx.ret ?_
  obtain rfl := Option.some.inj hh
  exact ⟨_, _, [], rfl, .rfl, trivial, rfl, rfl, rfl, rfl⟩
mutual
def types_replaced_v2 (t : ApiType) : Option (ApiType × Bool) :=
  if (t.Kind == 4) = true then
    some none >>= fun x1 =>
    if (!x1.isSome) = true then
      some ((ApiType.mk 0 0 0 0 [] [] []), false)
    else
      types_replaced_v2_j1 (x1.getD ApiType.zero)
  else
    types_replaced_v2_j1 t
  partial_fixpoint
def types_replaced_v2_j1 (o0 : ApiType) : Option (ApiType × Bool) :=
  slices_Clone_string_string o0.Names >>= fun x2 =>
  types_replaced_v2_l2 o0 x2 [] 0
  partial_fixpoint
def types_replaced_v2_l2 (o0 : ApiType) (x2 : List Str) (o2_Of : List ApiType) (v36 : Int) : Option (ApiType × Bool) :=
  if (decide (v36 < ((o0.Of).length : Int))) = true then
    idx o0.Of v36 >>= fun x3 =>
    types_replaced_v2 x3 >>= fun x4 =>
    if (!x4.2) = true then
      some ((ApiType.mk 0 0 0 0 [] [] []), false)
    else
      if (decide ((o2_Of.length + 1) * 97 ≤ 140737488355328)) = true then
        types_replaced_v2_l2 o0 x2 (o2_Of ++ [x4.1]) (IntKind.i64.wrap (v36 + 1))
      else none
  else
    some ((ApiType.mk o0.Kind o0.Low o0.High o0.Size o0.Name x2 o2_Of), true)
  partial_fixpoint
end
theorem types_replaced_v2_grp : (∀ (t : ApiType) (res : ApiType × Bool), types_replaced_v2 t = some res → ACall C 68 [.d (.nilv .map), .agg (ApiType.cells t)] [] (fun x H' => H' = [] ∧ x = .tup [.agg (ApiType.cells res.1), .d (.bool res.2)])) ∧
    (∀ (o0 : ApiType) (res : ApiType × Bool), types_replaced_v2_j1 o0 = some res → AEx (Fx.mk C 57 0) (sr (sr (bodyOf Tryd.f68))) (mkEnv [(0, .d (.nilv .map)), (3, .ref 0 0), (4, .ref 1 0)]) [.row (ApiType.cells o0) 27, .row [.d (.int .i64 0), .d (.int .i64 0), .d (.int .i64 0), .d (.int .i64 0), .d (.str []), .full (estr.rows []), .full (ApiType.rows [])] 27] (Am.Ends (Fx.mk C 57 0) Tryd.f68.results.toList (fun x H' => H' = [] ∧ x = .tup [.agg (ApiType.cells res.1), .d (.bool res.2)]))) ∧
    (∀ (o0 : ApiType) (x2 : List Str) (o2_Of : List ApiType) (v36 : Int) (res : ApiType × Bool), types_replaced_v2_l2 o0 x2 o2_Of v36 = some res → ALoop (Fx.mk C 57 0) (lo (bk (sr (sl (sr (sr (sr (sr (sr (bodyOf Tryd.f68)))))))))) (mkEnv [(0, .d (.nilv .map)), (4, .ref 1 0), (8, .ref 2 0), (34, .d (.sl (ApiType.rows o0.Of))), (35, .d (.int .i64 ((o0.Of).length : Int))), (36, .d (.int .i64 v36))]) [.dead, .row [.d (.int .i64 0), .d (.int .i64 0), .d (.int .i64 0), .d (.int .i64 0), .d (.str []), .full (estr.rows []), .full (ApiType.rows [])] 27, .row [.d (.int .i64 o0.Kind), .d (.int .i64 o0.Low), .d (.int .i64 o0.High), .d (.int .i64 o0.Size), .d (.str o0.Name), .d (.sl (estr.rows x2)), .osl 3 (ApiType.rows o2_Of)] 27, .tok 27 7] (Am.InBlock 0 (Am.Then (Fx.mk C 57 0) (sr (sr (sr (sr (sr (sr (bodyOf Tryd.f68))))))) (Am.Ends (Fx.mk C 57 0) Tryd.f68.results.toList (fun x H' => H' = [] ∧ x = .tup [.agg (ApiType.cells res.1), .d (.bool res.2)]))))) := by
  refine types_replaced_v2.mutual_partial_correctness (fun t res => ACall C 68 [.d (.nilv .map), .agg (ApiType.cells t)] [] (fun x H' => H' = [] ∧ x = .tup [.agg (ApiType.cells res.1), .d (.bool res.2)]))
    (fun o0 res => AEx (Fx.mk C 57 0) (sr (sr (bodyOf Tryd.f68))) (mkEnv [(0, .d (.nilv .map)), (3, .ref 0 0), (4, .ref 1 0)]) [.row (ApiType.cells o0) 27, .row [.d (.int .i64 0), .d (.int .i64 0), .d (.int .i64 0), .d (.int .i64 0), .d (.str []), .full (estr.rows []), .full (ApiType.rows [])] 27] (Am.Ends (Fx.mk C 57 0) Tryd.f68.results.toList (fun x H' => H' = [] ∧ x = .tup [.agg (ApiType.cells res.1), .d (.bool res.2)])))
    (fun o0 x2 o2_Of v36 res => ALoop (Fx.mk C 57 0) (lo (bk (sr (sl (sr (sr (sr (sr (sr (bodyOf Tryd.f68)))))))))) (mkEnv [(0, .d (.nilv .map)), (4, .ref 1 0), (8, .ref 2 0), (34, .d (.sl (ApiType.rows o0.Of))), (35, .d (.int .i64 ((o0.Of).length : Int))), (36, .d (.int .i64 v36))]) [.dead, .row [.d (.int .i64 0), .d (.int .i64 0), .d (.int .i64 0), .d (.int .i64 0), .d (.str []), .full (estr.rows []), .full (ApiType.rows [])] 27, .row [.d (.int .i64 o0.Kind), .d (.int .i64 o0.Low), .d (.int .i64 o0.High), .d (.int .i64 o0.Size), .d (.str o0.Name), .d (.sl (estr.rows x2)), .osl 3 (ApiType.rows o2_Of)] 27, .tok 27 7] (Am.InBlock 0 (Am.Then (Fx.mk C 57 0) (sr (sr (sr (sr (sr (sr (bodyOf Tryd.f68))))))) (Am.Ends (Fx.mk C 57 0) Tryd.f68.results.toList (fun x H' => H' = [] ∧ x = .tup [.agg (ApiType.cells res.1), .d (.bool res.2)]))))) ?_ ?_ ?_
  · intro g1 ih1 t res hh
    refine ACall.intro hC Tryd.func68 rfl rfl rfl ?_
    refine AEx.seq ?_
    refine AEx.regionN rfl rfl ?_
    refine AOps.n hC rfl ?_
    refine AOps.nf hC rfl ?_
    refine AOps.q hC rfl trivial ?_
    refine AOps.nil ?_
    refine AEx.seq ?_
    refine AEx.seq ?_
    refine AEx.regionN rfl rfl ?_
    iterate 3 refine AOps.q hC rfl trivial ?_
    refine AOps.nil ?_
    refine AEx.cond rfl (fun hb => ?_) (fun hb => ?_)
    · replace hh := if_t hb hh
      refine AEx.seq ?_
      refine AEx.regionN rfl rfl ?_
      iterate 3 refine AOps.q hC rfl trivial ?_
      obtain ⟨x1, hx1, hh⟩ := bind_some hh
      refine AOps.mn hC rfl (ApiType.lkNT hx1) ?_
      iterate 3 refine AOps.q hC rfl trivial ?_
      refine AOps.nf hC rfl ?_
      refine AOps.s hC rfl ?_
      refine AOps.q hC rfl trivial ?_
      refine AOps.nil ?_
      refine AEx.seq ?_
      refine AEx.seq ?_
      refine AEx.regionN rfl rfl ?_
      iterate 2 refine AOps.q hC rfl trivial ?_
      refine AOps.nil ?_
      refine AEx.cond rfl (fun hb => ?_) (fun hb => ?_)
      · replace hh := if_t hb hh
        refine AEx.seq ?_
        refine AEx.regionN rfl rfl ?_
        refine AOps.q hC rfl trivial ?_
        refine AOps.s hC rfl ?_
        refine AOps.q hC rfl trivial ?_
        refine AOps.nil ?_
        refine AEx.ret ?_
        obtain rfl := Option.some.inj hh
        exact ⟨_, _, [], rfl, .rfl, trivial, rfl, rfl, rfl, rfl⟩
      · replace hh := if_f hb hh
        refine AEx.skip ?_
        refine AEx.regionN rfl rfl ?_
        refine AOps.q hC rfl trivial ?_
        refine AOps.s hC rfl ?_
        refine AOps.nil ?_
        refine AEx.wk ?_ (ih1 _ _ hh)
        exact ⟨⟨⟨.rfl, rfl⟩, ⟨⟨.rfl, rfl⟩, ⟨⟨.rfl, rfl⟩, trivial⟩⟩⟩, ⟨⟨rfl, .refl _, rfl⟩, ⟨⟨rfl, .refl _, rfl⟩, trivial⟩⟩, rfl⟩
    · replace hh := if_f hb hh
      refine AEx.skip ?_
      refine AEx.wk ?_ (ih1 _ _ hh)
      exact ⟨⟨⟨.rfl, rfl⟩, ⟨⟨.rfl, rfl⟩, ⟨⟨.rfl, rfl⟩, trivial⟩⟩⟩, ⟨⟨rfl, .refl _, rfl⟩, ⟨⟨rfl, .refl _, rfl⟩, trivial⟩⟩, rfl⟩
  · intro g2 ih2 o0 res hh
    refine AEx.seq ?_
    refine AEx.regionN rfl rfl ?_
    refine AOps.q hC rfl trivial ?_
    refine AOps.nf hC rfl ?_
    refine AOps.s hC rfl ?_
    refine AOps.nil ?_
    refine AEx.seq ?_
    refine AEx.regionN rfl rfl ?_
    iterate 2 refine AOps.q hC rfl trivial ?_
    obtain ⟨x2, hx2, hh⟩ := bind_some hh
    refine AOps.c rfl rfl (slices_Clone_string_string_ok hx2) ?_
    refine AOps.q hC rfl trivial ?_
    refine AOps.s hC rfl ?_
    refine AOps.nil ?_
    refine AEx.seq ?_
    refine AEx.regionN rfl rfl ?_
    refine AOps.q hC rfl trivial ?_
    refine AOps.s hC rfl ?_
    refine AOps.tokC 2 6 27 7 rfl rfl rfl rfl rfl ?_
    refine AOps.nil ?_
    refine AEx.seq ?_
    refine AEx.seq ?_
    refine AEx.regionN rfl rfl ?_
    iterate 2 refine AOps.q hC rfl trivial ?_
    refine AOps.qe hC rfl trivial (ApiType.lenA _) ?_
    refine AOps.q hC rfl trivial ?_
    refine AOps.nil ?_
    refine AEx.block ?_
    refine AEx.ofLoop ?_
    refine ALoop.wk ?_ (ih2 _ _ _ _ _ hh)
    exact ⟨⟨⟨.rfl, rfl⟩, ⟨⟨.rfl, rfl⟩, ⟨⟨.rfl, rfl⟩, ⟨⟨.rfl, rfl⟩, ⟨⟨.rfl, rfl⟩, ⟨⟨.rfl, rfl⟩, trivial⟩⟩⟩⟩⟩⟩, ⟨trivial, ⟨⟨rfl, .refl _, rfl⟩, ⟨⟨rfl, .refl _, rfl⟩, ⟨rfl, trivial⟩⟩⟩⟩, rfl⟩
  · intro g0 g2 ih0 ih2 o0 x2 o2_Of v36 res hh
    refine ALoop.unroll ?_
    refine AEx.seq ?_
    refine AEx.regionN rfl rfl ?_
    refine AOps.q hC rfl trivial ?_
    refine AOps.nil ?_
    refine AEx.seq ?_
    refine AEx.cond rfl (fun hb => ?_) (fun hb => ?_)
    · replace hh := if_t hb hh
      refine AEx.skip ?_
      refine AEx.seq ?_
      refine AEx.block ?_
      refine AEx.seq ?_
      refine AEx.regionN rfl rfl ?_
      obtain ⟨x3, hx3, hh⟩ := bind_some hh
      refine AOps.i hC rfl (idx_nat hx3) (ApiType.idx hx3) rfl ?_
      refine AOps.q hC rfl trivial ?_
      refine AOps.nf hC rfl ?_
      refine AOps.s hC rfl ?_
      refine AOps.nil ?_
      refine AEx.seq ?_
      refine AEx.regionN rfl rfl ?_
      iterate 2 refine AOps.q hC rfl trivial ?_
      obtain ⟨x4, hx4, hh⟩ := bind_some hh
      refine AOps.c rfl rfl (ih0 _ _ hx4) ?_
      iterate 3 refine AOps.q hC rfl trivial ?_
      refine AOps.nf hC rfl ?_
      refine AOps.s hC rfl ?_
      refine AOps.q hC rfl trivial ?_
      refine AOps.nil ?_
      refine AEx.seq ?_
      refine AEx.seq ?_
      refine AEx.regionN rfl rfl ?_
      iterate 2 refine AOps.q hC rfl trivial ?_
      refine AOps.nil ?_
      refine AEx.cond rfl (fun hb => ?_) (fun hb => ?_)
      · replace hh := if_t hb hh
        refine AEx.seq ?_
        refine AEx.regionN rfl rfl ?_
        refine AOps.q hC rfl trivial ?_
        refine AOps.s hC rfl ?_
        refine AOps.q hC rfl trivial ?_
        refine AOps.nil ?_
        refine AEx.ret ?_
        obtain rfl := Option.some.inj hh
        exact ⟨_, _, [], rfl, .rfl, trivial, rfl, rfl, rfl, rfl⟩
      · replace hh := if_f hb hh
        refine AEx.skip ?_
        refine AEx.regionN rfl rfl ?_
        iterate 3 refine AOps.q hC rfl trivial ?_
        refine AOps.be hC rfl (ApiType.rows_map [x4.1]).symm ?_
        obtain ⟨c4, hh⟩ := asrt_some hh
        refine AOps.ap hC rfl (rs := ApiType.rows (o2_Of ++ [x4.1])) (ApiType.app o2_Of [x4.1]) (ApiType.sz o2_Of) (ApiType.sz [x4.1]) (room_of (ApiType.len o2_Of) (ApiType.len [x4.1]) c4) ?_
        refine AOps.q hC rfl trivial ?_
        refine AOps.s hC rfl ?_
        refine AOps.nil ?_
        refine AEx.regionN rfl rfl ?_
        iterate 2 refine AOps.q hC rfl trivial ?_
        refine AOps.nil ?_
        refine ALoop.wk ?_ (ih2 _ _ _ _ _ hh)
        exact ⟨⟨⟨.rfl, rfl⟩, ⟨⟨.rfl, rfl⟩, ⟨⟨.rfl, rfl⟩, ⟨⟨.rfl, rfl⟩, ⟨⟨.rfl, rfl⟩, ⟨⟨.rfl, rfl⟩, trivial⟩⟩⟩⟩⟩⟩, ⟨trivial, ⟨⟨rfl, .refl _, rfl⟩, ⟨⟨rfl, .refl _, rfl⟩, ⟨rfl, trivial⟩⟩⟩⟩, rfl⟩
    · replace hh := if_f hb hh
      refine AEx.exit ?_
      refine AEx.seq ?_
      refine AEx.regionN rfl rfl ?_
      refine AOps.q hC rfl trivial ?_
      refine AOps.s hC rfl ?_
      refine AOps.q hC rfl trivial ?_
      refine AOps.nil ?_
      refine AEx.ret ?_
      obtain rfl := Option.some.inj hh
      exact ⟨_, .tup [.agg [.d (.int .i64 o0.Kind), .d (.int .i64 o0.Low), .d (.int .i64 o0.High), .d (.int .i64 o0.Size), .d (.str o0.Name), .d (.sl (estr.rows x2)), .d (.sl (ApiType.rows o2_Of))], .d (.bool true)], [], rfl, (.tupL ⟨(.aggL ⟨.rfl, ⟨.rfl, ⟨.rfl, ⟨.rfl, ⟨.rfl, ⟨.rfl, ⟨.osl, trivial⟩⟩⟩⟩⟩⟩⟩), ⟨.rfl, trivial⟩⟩), trivial, rfl, rfl, rfl, rfl⟩
theorem types_replaced_v2_ok {t : ApiType} {res : ApiType × Bool} (hh : types_replaced_v2 t = some res) : ACall C 68 [.d (.nilv .map), .agg (ApiType.cells t)] [] (fun x H' => H' = [] ∧ x = .tup [.agg (ApiType.cells res.1), .d (.bool res.2)]) := (types_replaced_v2_grp).1 _ _ hh
theorem types_replaced_v2_j1_ok {o0 : ApiType} {res : ApiType × Bool} (hh : types_replaced_v2_j1 o0 = some res) : AEx (Fx.mk C 57 0) (sr (sr (bodyOf Tryd.f68))) (mkEnv [(0, .d (.nilv .map)), (3, .ref 0 0), (4, .ref 1 0)]) [.row (ApiType.cells o0) 27, .row [.d (.int .i64 0), .d (.int .i64 0), .d (.int .i64 0), .d (.int .i64 0), .d (.str []), .full (estr.rows []), .full (ApiType.rows [])] 27] (Am.Ends (Fx.mk C 57 0) Tryd.f68.results.toList (fun x H' => H' = [] ∧ x = .tup [.agg (ApiType.cells res.1), .d (.bool res.2)])) := (types_replaced_v2_grp).2.1 _ _ hh
theorem types_replaced_v2_l2_ok {o0 : ApiType} {x2 : List Str} {o2_Of : List ApiType} {v36 : Int} {res : ApiType × Bool} (hh : types_replaced_v2_l2 o0 x2 o2_Of v36 = some res) : ALoop (Fx.mk C 57 0) (lo (bk (sr (sl (sr (sr (sr (sr (sr (bodyOf Tryd.f68)))))))))) (mkEnv [(0, .d (.nilv .map)), (4, .ref 1 0), (8, .ref 2 0), (34, .d (.sl (ApiType.rows o0.Of))), (35, .d (.int .i64 ((o0.Of).length : Int))), (36, .d (.int .i64 v36))]) [.dead, .row [.d (.int .i64 0), .d (.int .i64 0), .d (.int .i64 0), .d (.int .i64 0), .d (.str []), .full (estr.rows []), .full (ApiType.rows [])] 27, .row [.d (.int .i64 o0.Kind), .d (.int .i64 o0.Low), .d (.int .i64 o0.High), .d (.int .i64 o0.Size), .d (.str o0.Name), .d (.sl (estr.rows x2)), .osl 3 (ApiType.rows o2_Of)] 27, .tok 27 7] (Am.InBlock 0 (Am.Then (Fx.mk C 57 0) (sr (sr (sr (sr (sr (sr (bodyOf Tryd.f68))))))) (Am.Ends (Fx.mk C 57 0) Tryd.f68.results.toList (fun x H' => H' = [] ∧ x = .tup [.agg (ApiType.cells res.1), .d (.bool res.2)])))) := (types_replaced_v2_grp).2.2 _ _ _ _ _ hh
def types_Find_1 (p : Str) (firstV : Int) (x : ApiType) (s : Str) (apiType : ApiType) (s1 : Int) (s2 : Bool) : Option (Bool × ApiType × Int × Bool) :=
  if (p == s) = true then
    types_replaced_v2 x >>= fun x1 =>
    some (false, x1.1, firstV, true)
  else
    some ((!s2), apiType, s1, s2)
theorem types_Find_1_ok {p : Str} {firstV : Int} {x : ApiType} {s : Str} {apiType : ApiType} {s1 : Int} {s2 : Bool} {res : Bool × ApiType × Int × Bool} (hh : types_Find_1 p firstV x s apiType s1 s2 = some res) : ACall C 67 [.d (.str p), .d (.int .i64 firstV), .agg (ApiType.cells x), .ref 0 0, .ref 1 0, .ref 2 0, .ref 3 0] [.row [.d (.str s)] 9, .row [.d (.int .i64 apiType.Kind), .d (.int .i64 apiType.Low), .d (.int .i64 apiType.High), .d (.int .i64 apiType.Size), .d (.str apiType.Name), .full (estr.rows apiType.Names), .full (ApiType.rows apiType.Of)] 27, .row [.d (.int .i64 s1)] 3, .row [.d (.bool s2)] 4] (fun x H' => H' = [.row [.d (.str s)] 9, .row (ApiType.cells res.2.1) 27, .row [.d (.int .i64 res.2.2.1)] 3, .row [.d (.bool res.2.2.2)] 4] ∧ x = .d (.bool res.1)) := by
  unfold types_Find_1 at hh
  refine ACall.intro hC Tryd.func67 rfl rfl rfl ?_
  refine AEx.seq ?_
  refine AEx.regionN rfl rfl ?_
  refine AOps.n hC rfl ?_
  refine AOps.q hC rfl trivial ?_
  refine AOps.nil ?_
  refine AEx.seq ?_
  refine AEx.seq ?_
  refine AEx.regionN rfl rfl ?_
  iterate 3 refine AOps.q hC rfl trivial ?_
  refine AOps.nil ?_
  refine AEx.cond rfl (fun hb => ?_) (fun hb => ?_)
  · replace hh := if_t hb hh
    refine AEx.seq ?_
    refine AEx.regionN rfl rfl ?_
    refine AOps.q hC rfl trivial ?_
    obtain ⟨x1, hx1, hh⟩ := bind_some hh
    refine AOps.c rfl rfl (types_replaced_v2_ok hx1) ?_
    iterate 3 refine AOps.q hC rfl trivial ?_
    refine AOps.s hC rfl ?_
    refine AOps.nil ?_
    refine AEx.regionN rfl rfl ?_
    refine AOps.q hC rfl trivial ?_
    refine AOps.s hC rfl ?_
    refine AOps.s hC rfl ?_
    refine AOps.nil ?_
    refine AEx.seq ?_
    refine AEx.regionN rfl rfl ?_
    iterate 3 refine AOps.q hC rfl trivial ?_
    refine AOps.nil ?_
    refine AEx.ret ?_
    obtain rfl := Option.some.inj hh
    exact ⟨_, _, [.row [.d (.str s)] 9, .row (ApiType.cells x1.1) 27, .row [.d (.int .i64 firstV)] 3, .row [.d (.bool true)] 4], rfl, .rfl, ⟨⟨rfl, .refl _, rfl⟩, ⟨⟨rfl, .refl _, rfl⟩, ⟨⟨rfl, .refl _, rfl⟩, ⟨⟨rfl, .refl _, rfl⟩, trivial⟩⟩⟩⟩, rfl, rfl, rfl, rfl⟩
  · replace hh := if_f hb hh
    refine AEx.skip ?_
    refine AEx.seq ?_
    refine AEx.regionN rfl rfl ?_
    iterate 3 refine AOps.q hC rfl trivial ?_
    refine AOps.nil ?_
    refine AEx.ret ?_
    obtain rfl := Option.some.inj hh
    exact ⟨_, _, [.row [.d (.str s)] 9, .row (ApiType.cells apiType) 27, .row [.d (.int .i64 s1)] 3, .row [.d (.bool s2)] 4], rfl, .rfl, ⟨⟨rfl, .refl _, rfl⟩, ⟨⟨rfl, ⟨.rfl, ⟨.rfl, ⟨.rfl, ⟨.rfl, ⟨.rfl, ⟨.full, ⟨.full, trivial⟩⟩⟩⟩⟩⟩⟩, rfl⟩, ⟨⟨rfl, .refl _, rfl⟩, ⟨⟨rfl, .refl _, rfl⟩, trivial⟩⟩⟩⟩, rfl, rfl, rfl, rfl⟩
def types_Find_1_v2 (p : Str) (firstV : Int) (x : ApiType) (s : Str) (apiType : ApiType) (s1 : Int) (s2 : Bool) : Option (Bool × ApiType × Int × Bool) :=
  if (p == s) = true then
    types_replaced_v2 x >>= fun x1 =>
    some (false, x1.1, firstV, true)
  else
    some ((!s2), apiType, s1, s2)
theorem types_Find_1_v2_ok {p : Str} {firstV : Int} {x : ApiType} {s : Str} {apiType : ApiType} {s1 : Int} {s2 : Bool} {res : Bool × ApiType × Int × Bool} (hh : types_Find_1_v2 p firstV x s apiType s1 s2 = some res) : ACall C 67 [.d (.str p), .d (.int .i64 firstV), .agg (ApiType.cells x), .ref 0 0, .ref 1 0, .ref 2 0, .ref 3 0] [.row [.d (.str s)] 9, .row (ApiType.cells apiType) 27, .row [.d (.int .i64 s1)] 3, .row [.d (.bool s2)] 4] (fun x H' => H' = [.row [.d (.str s)] 9, .row (ApiType.cells res.2.1) 27, .row [.d (.int .i64 res.2.2.1)] 3, .row [.d (.bool res.2.2.2)] 4] ∧ x = .d (.bool res.1)) := by
  unfold types_Find_1_v2 at hh
  refine ACall.intro hC Tryd.func67 rfl rfl rfl ?_
  refine AEx.seq ?_
  refine AEx.regionN rfl rfl ?_
  refine AOps.n hC rfl ?_
  refine AOps.q hC rfl trivial ?_
  refine AOps.nil ?_
  refine AEx.seq ?_
  refine AEx.seq ?_
  refine AEx.regionN rfl rfl ?_
  iterate 3 refine AOps.q hC rfl trivial ?_
  refine AOps.nil ?_
  refine AEx.cond rfl (fun hb => ?_) (fun hb => ?_)
  · replace hh := if_t hb hh
    refine AEx.seq ?_
    refine AEx.regionN rfl rfl ?_
    refine AOps.q hC rfl trivial ?_
    obtain ⟨x1, hx1, hh⟩ := bind_some hh
    refine AOps.c rfl rfl (types_replaced_v2_ok hx1) ?_
    iterate 3 refine AOps.q hC rfl trivial ?_
    refine AOps.s hC rfl ?_
    refine AOps.nil ?_
    refine AEx.regionN rfl rfl ?_
    refine AOps.q hC rfl trivial ?_
    refine AOps.s hC rfl ?_
    refine AOps.s hC rfl ?_
    refine AOps.nil ?_
    refine AEx.seq ?_
    refine AEx.regionN rfl rfl ?_
    iterate 3 refine AOps.q hC rfl trivial ?_
    refine AOps.nil ?_
    refine AEx.ret ?_
    obtain rfl := Option.some.inj hh
    exact ⟨_, _, [.row [.d (.str s)] 9, .row (ApiType.cells x1.1) 27, .row [.d (.int .i64 firstV)] 3, .row [.d (.bool true)] 4], rfl, .rfl, ⟨⟨rfl, .refl _, rfl⟩, ⟨⟨rfl, .refl _, rfl⟩, ⟨⟨rfl, .refl _, rfl⟩, ⟨⟨rfl, .refl _, rfl⟩, trivial⟩⟩⟩⟩, rfl, rfl, rfl, rfl⟩
  · replace hh := if_f hb hh
    refine AEx.skip ?_
    refine AEx.seq ?_
    refine AEx.regionN rfl rfl ?_
    iterate 3 refine AOps.q hC rfl trivial ?_
    refine AOps.nil ?_
    refine AEx.ret ?_
    obtain rfl := Option.some.inj hh
    exact ⟨_, _, [.row [.d (.str s)] 9, .row (ApiType.cells apiType) 27, .row [.d (.int .i64 s1)] 3, .row [.d (.bool s2)] 4], rfl, .rfl, ⟨⟨rfl, .refl _, rfl⟩, ⟨⟨rfl, .refl _, rfl⟩, ⟨⟨rfl, .refl _, rfl⟩, ⟨⟨rfl, .refl _, rfl⟩, trivial⟩⟩⟩⟩, rfl, rfl, rfl, rfl⟩
mutual
def types_each_1_v4 (path : Str) (t : ApiType) (s : Int) (s1 : Str) (apiType : ApiType) (s2 : Int) (s3 : Bool) : Option (Bool × Int × ApiType × Int × Bool) :=
  types_Find_1_v2 path s t s1 apiType s2 s3 >>= fun x1 =>
  if (!x1.1) = true then
    some (false, s, x1.2.1, x1.2.2.1, x1.2.2.2)
  else
    if (t.Kind == 2) = true then
      types_each_1_v4_l1 path t s1 s x1.2.1 x1.2.2.1 x1.2.2.2 0
    else
      if (t.Kind == 3) = true then
        types_each_1_v4_l2 path t s1 s x1.2.1 x1.2.2.1 x1.2.2.2 0
      else
        some (true, (IntKind.i64.wrap (s + 1)), x1.2.1, x1.2.2.1, x1.2.2.2)
  partial_fixpoint
def types_each_1_v4_l2 (path : Str) (t : ApiType) (s1 : Str) (o11 : Int) (o41 : ApiType) (o51 : Int) (o61 : Bool) (v46 : Int) : Option (Bool × Int × ApiType × Int × Bool) :=
  if (decide (v46 < ((t.Of).length : Int))) = true then
    idx t.Of v46 >>= fun x4 =>
    if (decide (path.length + 1 ≤ maxLen)) = true then
      idx t.Names v46 >>= fun x5 =>
      if (decide ((path ++ [46]).length + x5.length ≤ maxLen)) = true then
        types_each_1_v4 ((path ++ [46]) ++ x5) x4 o11 s1 o41 o51 o61 >>= fun x7 =>
        if (!x7.1) = true then
          some (false, x7.2.1, x7.2.2.1, x7.2.2.2.1, x7.2.2.2.2)
        else
          types_each_1_v4_l2 path t s1 x7.2.1 x7.2.2.1 x7.2.2.2.1 x7.2.2.2.2 (IntKind.i64.wrap (v46 + 1))
      else none
    else none
  else
    some (true, o11, o41, o51, o61)
  partial_fixpoint
def types_each_1_v4_l1 (path : Str) (t : ApiType) (s1 : Str) (o1 : Int) (o4 : ApiType) (o5 : Int) (o6 : Bool) (v25 : Int) : Option (Bool × Int × ApiType × Int × Bool) :=
  if (decide (v25 < t.Size)) = true then
    if (decide (path.length + 1 ≤ maxLen)) = true then
      X_Itoa v25 >>= fun x2 =>
      if (decide ((path ++ [46]).length + x2.length ≤ maxLen)) = true then
        idx t.Of 0 >>= fun x3 =>
        types_each_1_v4 ((path ++ [46]) ++ x2) x3 o1 s1 o4 o5 o6 >>= fun x6 =>
        if (!x6.1) = true then
          some (false, x6.2.1, x6.2.2.1, x6.2.2.2.1, x6.2.2.2.2)
        else
          types_each_1_v4_l1 path t s1 x6.2.1 x6.2.2.1 x6.2.2.2.1 x6.2.2.2.2 (IntKind.i64.wrap (v25 + 1))
      else none
    else none
  else
    some (true, o1, o4, o5, o6)
  partial_fixpoint
end
theorem types_each_1_v4_grp (s1 : Str) : (∀ (path : Str) (t : ApiType) (s : Int) (apiType : ApiType) (s2 : Int) (s3 : Bool) (res : Bool × Int × ApiType × Int × Bool), types_each_1_v4 path t s s1 apiType s2 s3 = some res → ACall C 98 [.d (.str path), .agg (ApiType.cells t), .ref 0 0, .ref 1 0, .ref 2 0] [.row [.clo 67 [.ref 3 0, .ref 4 0, .ref 5 0, .ref 6 0]] 88, .row [.d (.int .i64 s)] 3, .row [.clo 98 [.ref 0 0, .ref 1 0, .ref 2 0]] 119, .row [.d (.str s1)] 9, .row (ApiType.cells apiType) 27, .row [.d (.int .i64 s2)] 3, .row [.d (.bool s3)] 4] (fun x H' => H' = [.row [.clo 67 [.ref 3 0, .ref 4 0, .ref 5 0, .ref 6 0]] 88, .row [.d (.int .i64 res.2.1)] 3, .row [.clo 98 [.ref 0 0, .ref 1 0, .ref 2 0]] 119, .row [.d (.str s1)] 9, .row (ApiType.cells res.2.2.1) 27, .row [.d (.int .i64 res.2.2.2.1)] 3, .row [.d (.bool res.2.2.2.2)] 4] ∧ x = .d (.bool res.1))) ∧
    (∀ (path : Str) (t : ApiType) (o11 : Int) (o41 : ApiType) (o51 : Int) (o61 : Bool) (v46 : Int) (res : Bool × Int × ApiType × Int × Bool), types_each_1_v4_l2 path t s1 o11 o41 o51 o61 v46 = some res → ALoop (Fx.mk C 64 7) (lo (bk (sr (ca (sr (cb (sr (bk (sr (sl (sr (sr (bodyOf Tryd.f98))))))))))))) (mkEnv [(0, .d (.str path)), (4, .ref 2 0), (6, .ref 7 0), (44, .d (.sl (ApiType.rows t.Of))), (45, .d (.int .i64 ((t.Of).length : Int))), (46, .d (.int .i64 v46))]) [.row [.clo 67 [.ref 3 0, .ref 4 0, .ref 5 0, .ref 6 0]] 88, .row [.d (.int .i64 o11)] 3, .row [.clo 98 [.ref 0 0, .ref 1 0, .ref 2 0]] 119, .row [.d (.str s1)] 9, .row (ApiType.cells o41) 27, .row [.d (.int .i64 o51)] 3, .row [.d (.bool o61)] 4, .row (ApiType.cells t) 27] (Am.InBlock 3 (Am.InBlock 0 (Am.Then (Fx.mk C 64 7) (sr (sr (sr (bodyOf Tryd.f98)))) (Am.Ends (Fx.mk C 64 7) Tryd.f98.results.toList (fun x H' => H' = [.row [.clo 67 [.ref 3 0, .ref 4 0, .ref 5 0, .ref 6 0]] 88, .row [.d (.int .i64 res.2.1)] 3, .row [.clo 98 [.ref 0 0, .ref 1 0, .ref 2 0]] 119, .row [.d (.str s1)] 9, .row (ApiType.cells res.2.2.1) 27, .row [.d (.int .i64 res.2.2.2.1)] 3, .row [.d (.bool res.2.2.2.2)] 4] ∧ x = .d (.bool res.1))))))) ∧
    (∀ (path : Str) (t : ApiType) (o1 : Int) (o4 : ApiType) (o5 : Int) (o6 : Bool) (v25 : Int) (res : Bool × Int × ApiType × Int × Bool), types_each_1_v4_l1 path t s1 o1 o4 o5 o6 v25 = some res → ALoop (Fx.mk C 64 7) (lo (bk (sr (ca (sr (bk (sr (sl (sr (sr (bodyOf Tryd.f98))))))))))) (mkEnv [(0, .d (.str path)), (4, .ref 2 0), (6, .ref 7 0), (24, .d (.int .i64 t.Size)), (25, .d (.int .i64 v25))]) [.row [.clo 67 [.ref 3 0, .ref 4 0, .ref 5 0, .ref 6 0]] 88, .row [.d (.int .i64 o1)] 3, .row [.clo 98 [.ref 0 0, .ref 1 0, .ref 2 0]] 119, .row [.d (.str s1)] 9, .row (ApiType.cells o4) 27, .row [.d (.int .i64 o5)] 3, .row [.d (.bool o6)] 4, .row (ApiType.cells t) 27] (Am.InBlock 1 (Am.InBlock 0 (Am.Then (Fx.mk C 64 7) (sr (sr (sr (bodyOf Tryd.f98)))) (Am.Ends (Fx.mk C 64 7) Tryd.f98.results.toList (fun x H' => H' = [.row [.clo 67 [.ref 3 0, .ref 4 0, .ref 5 0, .ref 6 0]] 88, .row [.d (.int .i64 res.2.1)] 3, .row [.clo 98 [.ref 0 0, .ref 1 0, .ref 2 0]] 119, .row [.d (.str s1)] 9, .row (ApiType.cells res.2.2.1) 27, .row [.d (.int .i64 res.2.2.2.1)] 3, .row [.d (.bool res.2.2.2.2)] 4] ∧ x = .d (.bool res.1))))))) := by
  refine types_each_1_v4.mutual_partial_correctness s1
    (fun path t s apiType s2 s3 res => ACall C 98 [.d (.str path), .agg (ApiType.cells t), .ref 0 0, .ref 1 0, .ref 2 0] [.row [.clo 67 [.ref 3 0, .ref 4 0, .ref 5 0, .ref 6 0]] 88, .row [.d (.int .i64 s)] 3, .row [.clo 98 [.ref 0 0, .ref 1 0, .ref 2 0]] 119, .row [.d (.str s1)] 9, .row (ApiType.cells apiType) 27, .row [.d (.int .i64 s2)] 3, .row [.d (.bool s3)] 4] (fun x H' => H' = [.row [.clo 67 [.ref 3 0, .ref 4 0, .ref 5 0, .ref 6 0]] 88, .row [.d (.int .i64 res.2.1)] 3, .row [.clo 98 [.ref 0 0, .ref 1 0, .ref 2 0]] 119, .row [.d (.str s1)] 9, .row (ApiType.cells res.2.2.1) 27, .row [.d (.int .i64 res.2.2.2.1)] 3, .row [.d (.bool res.2.2.2.2)] 4] ∧ x = .d (.bool res.1)))
    (fun path t o11 o41 o51 o61 v46 res => ALoop (Fx.mk C 64 7) (lo (bk (sr (ca (sr (cb (sr (bk (sr (sl (sr (sr (bodyOf Tryd.f98))))))))))))) (mkEnv [(0, .d (.str path)), (4, .ref 2 0), (6, .ref 7 0), (44, .d (.sl (ApiType.rows t.Of))), (45, .d (.int .i64 ((t.Of).length : Int))), (46, .d (.int .i64 v46))]) [.row [.clo 67 [.ref 3 0, .ref 4 0, .ref 5 0, .ref 6 0]] 88, .row [.d (.int .i64 o11)] 3, .row [.clo 98 [.ref 0 0, .ref 1 0, .ref 2 0]] 119, .row [.d (.str s1)] 9, .row (ApiType.cells o41) 27, .row [.d (.int .i64 o51)] 3, .row [.d (.bool o61)] 4, .row (ApiType.cells t) 27] (Am.InBlock 3 (Am.InBlock 0 (Am.Then (Fx.mk C 64 7) (sr (sr (sr (bodyOf Tryd.f98)))) (Am.Ends (Fx.mk C 64 7) Tryd.f98.results.toList (fun x H' => H' = [.row [.clo 67 [.ref 3 0, .ref 4 0, .ref 5 0, .ref 6 0]] 88, .row [.d (.int .i64 res.2.1)] 3, .row [.clo 98 [.ref 0 0, .ref 1 0, .ref 2 0]] 119, .row [.d (.str s1)] 9, .row (ApiType.cells res.2.2.1) 27, .row [.d (.int .i64 res.2.2.2.1)] 3, .row [.d (.bool res.2.2.2.2)] 4] ∧ x = .d (.bool res.1)))))))
    (fun path t o1 o4 o5 o6 v25 res => ALoop (Fx.mk C 64 7) (lo (bk (sr (ca (sr (bk (sr (sl (sr (sr (bodyOf Tryd.f98))))))))))) (mkEnv [(0, .d (.str path)), (4, .ref 2 0), (6, .ref 7 0), (24, .d (.int .i64 t.Size)), (25, .d (.int .i64 v25))]) [.row [.clo 67 [.ref 3 0, .ref 4 0, .ref 5 0, .ref 6 0]] 88, .row [.d (.int .i64 o1)] 3, .row [.clo 98 [.ref 0 0, .ref 1 0, .ref 2 0]] 119, .row [.d (.str s1)] 9, .row (ApiType.cells o4) 27, .row [.d (.int .i64 o5)] 3, .row [.d (.bool o6)] 4, .row (ApiType.cells t) 27] (Am.InBlock 1 (Am.InBlock 0 (Am.Then (Fx.mk C 64 7) (sr (sr (sr (bodyOf Tryd.f98)))) (Am.Ends (Fx.mk C 64 7) Tryd.f98.results.toList (fun x H' => H' = [.row [.clo 67 [.ref 3 0, .ref 4 0, .ref 5 0, .ref 6 0]] 88, .row [.d (.int .i64 res.2.1)] 3, .row [.clo 98 [.ref 0 0, .ref 1 0, .ref 2 0]] 119, .row [.d (.str s1)] 9, .row (ApiType.cells res.2.2.1) 27, .row [.d (.int .i64 res.2.2.2.1)] 3, .row [.d (.bool res.2.2.2.2)] 4] ∧ x = .d (.bool res.1))))))) ?_ ?_ ?_
  · intro g1 g2 ih1 ih2 path t s apiType s2 s3 res hh
    refine ACall.intro hC Tryd.func98 rfl rfl rfl ?_
    refine AEx.seq ?_
    refine AEx.regionN rfl rfl ?_
    refine AOps.n hC rfl ?_
    refine AOps.q hC rfl trivial ?_
    refine AOps.nil ?_
    refine AEx.seq ?_
    refine AEx.seq ?_
    refine AEx.regionN rfl rfl ?_
    iterate 4 refine AOps.q hC rfl trivial ?_
    obtain ⟨x1, hx1, hh⟩ := bind_some hh
    refine AOps.g [3, 4, 5, 6] rfl (types_Find_1_v2_ok hx1) ⟨.rfl, ⟨.rfl, ⟨.rfl, ⟨.rfl, ⟨.rfl, ⟨.rfl, ⟨.rfl, trivial⟩⟩⟩⟩⟩⟩⟩ rfl ⟨rfl, ⟨rfl, ⟨rfl, ⟨rfl, trivial⟩⟩⟩⟩ rfl rfl ?_
    refine AOps.q hC rfl trivial ?_
    refine AOps.nil ?_
    refine AEx.cond rfl (fun hb => ?_) (fun hb => ?_)
    · replace hh := if_t hb hh
      refine AEx.seq ?_
      refine AEx.regionN rfl rfl ?_
      refine AOps.q hC rfl trivial ?_
      refine AOps.nil ?_
      refine AEx.ret ?_
      obtain rfl := Option.some.inj hh
      exact ⟨_, _, [.row [.clo 67 [.ref 3 0, .ref 4 0, .ref 5 0, .ref 6 0]] 88, .row [.d (.int .i64 s)] 3, .row [.clo 98 [.ref 0 0, .ref 1 0, .ref 2 0]] 119, .row [.d (.str s1)] 9, .row (ApiType.cells x1.2.1) 27, .row [.d (.int .i64 x1.2.2.1)] 3, .row [.d (.bool x1.2.2.2)] 4], rfl, .rfl, ⟨⟨rfl, .refl _, rfl⟩, ⟨⟨rfl, .refl _, rfl⟩, ⟨⟨rfl, .refl _, rfl⟩, ⟨⟨rfl, .refl _, rfl⟩, ⟨⟨rfl, .refl _, rfl⟩, ⟨⟨rfl, .refl _, rfl⟩, ⟨⟨rfl, .refl _, rfl⟩, trivial⟩⟩⟩⟩⟩⟩⟩, rfl, rfl, rfl, rfl⟩
    · replace hh := if_f hb hh
      refine AEx.skip ?_
      refine AEx.seq ?_
      refine AEx.seq ?_
      refine AEx.regionN rfl rfl ?_
      iterate 2 refine AOps.q hC rfl trivial ?_
      refine AOps.nil ?_
      refine AEx.block ?_
      refine AEx.seq ?_
      refine AEx.regionN rfl rfl ?_
      iterate 2 refine AOps.q hC rfl trivial ?_
      refine AOps.nil ?_
      refine AEx.cond rfl (fun hb => ?_) (fun hb => ?_)
      · replace hh := if_t hb hh
        refine AEx.seq ?_
        refine AEx.regionN rfl rfl ?_
        iterate 3 refine AOps.q hC rfl trivial ?_
        refine AOps.nil ?_
        refine AEx.block ?_
        refine AEx.ofLoop ?_
        refine ALoop.wk ?_ (ih2 _ _ _ _ _ _ _ _ hh)
        exact ⟨⟨⟨.rfl, rfl⟩, ⟨⟨.rfl, rfl⟩, ⟨⟨.rfl, rfl⟩, ⟨⟨.rfl, rfl⟩, ⟨⟨.rfl, rfl⟩, trivial⟩⟩⟩⟩⟩, ⟨⟨rfl, .refl _, rfl⟩, ⟨⟨rfl, .refl _, rfl⟩, ⟨⟨rfl, .refl _, rfl⟩, ⟨⟨rfl, .refl _, rfl⟩, ⟨⟨rfl, .refl _, rfl⟩, ⟨⟨rfl, .refl _, rfl⟩, ⟨⟨rfl, .refl _, rfl⟩, ⟨⟨rfl, .refl _, rfl⟩, trivial⟩⟩⟩⟩⟩⟩⟩⟩, rfl⟩
      · replace hh := if_f hb hh
        refine AEx.seq ?_
        refine AEx.regionN rfl rfl ?_
        iterate 2 refine AOps.q hC rfl trivial ?_
        refine AOps.nil ?_
        refine AEx.cond rfl (fun hb => ?_) (fun hb => ?_)
        · replace hh := if_t hb hh
          refine AEx.seq ?_
          refine AEx.regionN rfl rfl ?_
          iterate 2 refine AOps.q hC rfl trivial ?_
          refine AOps.qe hC rfl trivial (ApiType.lenA _) ?_
          refine AOps.q hC rfl trivial ?_
          refine AOps.nil ?_
          refine AEx.block ?_
          refine AEx.ofLoop ?_
          refine ALoop.wk ?_ (ih1 _ _ _ _ _ _ _ _ hh)
          exact ⟨⟨⟨.rfl, rfl⟩, ⟨⟨.rfl, rfl⟩, ⟨⟨.rfl, rfl⟩, ⟨⟨.rfl, rfl⟩, ⟨⟨.rfl, rfl⟩, ⟨⟨.rfl, rfl⟩, trivial⟩⟩⟩⟩⟩⟩, ⟨⟨rfl, .refl _, rfl⟩, ⟨⟨rfl, .refl _, rfl⟩, ⟨⟨rfl, .refl _, rfl⟩, ⟨⟨rfl, .refl _, rfl⟩, ⟨⟨rfl, .refl _, rfl⟩, ⟨⟨rfl, .refl _, rfl⟩, ⟨⟨rfl, .refl _, rfl⟩, ⟨⟨rfl, .refl _, rfl⟩, trivial⟩⟩⟩⟩⟩⟩⟩⟩, rfl⟩
        · replace hh := if_f hb hh
          refine AEx.regionN rfl rfl ?_
          iterate 2 refine AOps.q hC rfl trivial ?_
          refine AOps.s hC rfl ?_
          refine AOps.nil ?_
          refine AEx.seq ?_
          refine AEx.regionN rfl rfl ?_
          refine AOps.q hC rfl trivial ?_
          refine AOps.nil ?_
          refine AEx.ret ?_
          obtain rfl := Option.some.inj hh
          exact ⟨_, _, [.row [.clo 67 [.ref 3 0, .ref 4 0, .ref 5 0, .ref 6 0]] 88, .row [.d (.int .i64 (IntKind.i64.wrap (s + 1)))] 3, .row [.clo 98 [.ref 0 0, .ref 1 0, .ref 2 0]] 119, .row [.d (.str s1)] 9, .row (ApiType.cells x1.2.1) 27, .row [.d (.int .i64 x1.2.2.1)] 3, .row [.d (.bool x1.2.2.2)] 4], rfl, .rfl, ⟨⟨rfl, .refl _, rfl⟩, ⟨⟨rfl, .refl _, rfl⟩, ⟨⟨rfl, .refl _, rfl⟩, ⟨⟨rfl, .refl _, rfl⟩, ⟨⟨rfl, .refl _, rfl⟩, ⟨⟨rfl, .refl _, rfl⟩, ⟨⟨rfl, .refl _, rfl⟩, trivial⟩⟩⟩⟩⟩⟩⟩, rfl, rfl, rfl, rfl⟩
  · intro g0 g1 ih0 ih1 path t o11 o41 o51 o61 v46 res hh
    refine ALoop.unroll ?_
    refine AEx.seq ?_
    refine AEx.regionN rfl rfl ?_
    refine AOps.q hC rfl trivial ?_
    refine AOps.nil ?_
    refine AEx.seq ?_
    refine AEx.cond rfl (fun hb => ?_) (fun hb => ?_)
    · replace hh := if_t hb hh
      refine AEx.skip ?_
      refine AEx.seq ?_
      refine AEx.block ?_
      refine AEx.seq ?_
      refine AEx.regionN rfl rfl ?_
      refine AOps.q hC rfl trivial ?_
      obtain ⟨x4, hx4, hh⟩ := bind_some hh
      refine AOps.i hC rfl (idx_nat hx4) (ApiType.idx hx4) rfl ?_
      refine AOps.q hC rfl trivial ?_
      refine AOps.nf hC rfl ?_
      refine AOps.q hC rfl trivial ?_
      refine AOps.s hC rfl ?_
      refine AOps.nil ?_
      refine AEx.seq ?_
      refine AEx.draw hC 10 rfl rfl rfl ?_
      refine AQ.q hC rfl trivial ?_
      refine AQ.q hC rfl trivial ?_
      obtain ⟨c17, hh⟩ := asrt_some hh
      refine AQ.q hC rfl c17 ?_
      refine AQ.q hC rfl trivial ?_
      refine AQ.q hC rfl trivial ?_
      refine AQ.q hC rfl trivial ?_
      obtain ⟨x5, hx5, hh⟩ := bind_some hh
      refine AQ.i hC rfl (idx_nat hx5) (estr.idx hx5) rfl ?_
      refine AQ.q hC rfl trivial ?_
      obtain ⟨c18, hh⟩ := asrt_some hh
      refine AQ.q hC rfl c18 ?_
      refine AQ.q hC rfl trivial ?_
      refine AQ.nil ?_
      obtain ⟨x7, hx7, hh⟩ := bind_some hh
      refine AOps.g [0, 1, 2, 3, 4, 5, 6] rfl (ih0 _ _ _ _ _ _ _ hx7) ⟨.rfl, ⟨.rfl, ⟨.rfl, ⟨.rfl, ⟨.rfl, trivial⟩⟩⟩⟩⟩ rfl ⟨rfl, ⟨rfl, ⟨rfl, ⟨rfl, ⟨rfl, ⟨rfl, ⟨rfl, trivial⟩⟩⟩⟩⟩⟩⟩ rfl rfl ?_
      refine AOps.q hC rfl trivial ?_
      refine AOps.nil ?_
      refine AEx.cond rfl (fun hb => ?_) (fun hb => ?_)
      · replace hh := if_t hb hh
        refine AEx.seq ?_
        refine AEx.regionN rfl rfl ?_
        refine AOps.q hC rfl trivial ?_
        refine AOps.nil ?_
        refine AEx.ret ?_
        obtain rfl := Option.some.inj hh
        exact ⟨_, _, [.row [.clo 67 [.ref 3 0, .ref 4 0, .ref 5 0, .ref 6 0]] 88, .row [.d (.int .i64 x7.2.1)] 3, .row [.clo 98 [.ref 0 0, .ref 1 0, .ref 2 0]] 119, .row [.d (.str s1)] 9, .row (ApiType.cells x7.2.2.1) 27, .row [.d (.int .i64 x7.2.2.2.1)] 3, .row [.d (.bool x7.2.2.2.2)] 4], rfl, .rfl, ⟨⟨rfl, .refl _, rfl⟩, ⟨⟨rfl, .refl _, rfl⟩, ⟨⟨rfl, .refl _, rfl⟩, ⟨⟨rfl, .refl _, rfl⟩, ⟨⟨rfl, .refl _, rfl⟩, ⟨⟨rfl, .refl _, rfl⟩, ⟨⟨rfl, .refl _, rfl⟩, trivial⟩⟩⟩⟩⟩⟩⟩, rfl, rfl, rfl, rfl⟩
      · replace hh := if_f hb hh
        refine AEx.skip ?_
        refine AEx.regionN rfl rfl ?_
        iterate 2 refine AOps.q hC rfl trivial ?_
        refine AOps.nil ?_
        refine ALoop.wk ?_ (ih1 _ _ _ _ _ _ _ _ hh)
        exact ⟨⟨⟨.rfl, rfl⟩, ⟨⟨.rfl, rfl⟩, ⟨⟨.rfl, rfl⟩, ⟨⟨.rfl, rfl⟩, ⟨⟨.rfl, rfl⟩, ⟨⟨.rfl, rfl⟩, trivial⟩⟩⟩⟩⟩⟩, ⟨⟨rfl, .refl _, rfl⟩, ⟨⟨rfl, .refl _, rfl⟩, ⟨⟨rfl, .refl _, rfl⟩, ⟨⟨rfl, .refl _, rfl⟩, ⟨⟨rfl, .refl _, rfl⟩, ⟨⟨rfl, .refl _, rfl⟩, ⟨⟨rfl, .refl _, rfl⟩, ⟨⟨rfl, .refl _, rfl⟩, trivial⟩⟩⟩⟩⟩⟩⟩⟩, rfl⟩
    · replace hh := if_f hb hh
      refine AEx.exit ?_
      refine AEx.seq ?_
      refine AEx.regionN rfl rfl ?_
      refine AOps.q hC rfl trivial ?_
      refine AOps.nil ?_
      refine AEx.ret ?_
      obtain rfl := Option.some.inj hh
      exact ⟨_, _, [.row [.clo 67 [.ref 3 0, .ref 4 0, .ref 5 0, .ref 6 0]] 88, .row [.d (.int .i64 o11)] 3, .row [.clo 98 [.ref 0 0, .ref 1 0, .ref 2 0]] 119, .row [.d (.str s1)] 9, .row (ApiType.cells o41) 27, .row [.d (.int .i64 o51)] 3, .row [.d (.bool o61)] 4], rfl, .rfl, ⟨⟨rfl, .refl _, rfl⟩, ⟨⟨rfl, .refl _, rfl⟩, ⟨⟨rfl, .refl _, rfl⟩, ⟨⟨rfl, .refl _, rfl⟩, ⟨⟨rfl, .refl _, rfl⟩, ⟨⟨rfl, .refl _, rfl⟩, ⟨⟨rfl, .refl _, rfl⟩, trivial⟩⟩⟩⟩⟩⟩⟩, rfl, rfl, rfl, rfl⟩
  · intro g0 g2 ih0 ih2 path t o1 o4 o5 o6 v25 res hh
    refine ALoop.unroll ?_
    refine AEx.seq ?_
    refine AEx.regionN rfl rfl ?_
    refine AOps.q hC rfl trivial ?_
    refine AOps.nil ?_
    refine AEx.seq ?_
    refine AEx.cond rfl (fun hb => ?_) (fun hb => ?_)
    · replace hh := if_t hb hh
      refine AEx.skip ?_
      refine AEx.seq ?_
      refine AEx.block ?_
      refine AEx.seq ?_
      refine AEx.regionN rfl rfl ?_
      iterate 2 refine AOps.q hC rfl trivial ?_
      refine AOps.nil ?_
      refine AEx.seq ?_
      refine AEx.draw hC 10 rfl rfl rfl ?_
      refine AQ.q hC rfl trivial ?_
      refine AQ.q hC rfl trivial ?_
      obtain ⟨c15, hh⟩ := asrt_some hh
      refine AQ.q hC rfl c15 ?_
      refine AQ.q hC rfl trivial ?_
      obtain ⟨x2, hx2, hh⟩ := bind_some hh
      refine AQ.c rfl rfl (X_Itoa_ok hx2) ?_
      obtain ⟨c16, hh⟩ := asrt_some hh
      refine AQ.q hC rfl c16 ?_
      refine AQ.q hC rfl trivial ?_
      refine AQ.q hC rfl trivial ?_
      obtain ⟨x3, hx3, hh⟩ := bind_some hh
      refine AQ.i hC rfl (idx_nat hx3) (ApiType.idx hx3) rfl ?_
      refine AQ.q hC rfl trivial ?_
      refine AQ.nil ?_
      obtain ⟨x6, hx6, hh⟩ := bind_some hh
      refine AOps.g [0, 1, 2, 3, 4, 5, 6] rfl (ih0 _ _ _ _ _ _ _ hx6) ⟨.rfl, ⟨.rfl, ⟨.rfl, ⟨.rfl, ⟨.rfl, trivial⟩⟩⟩⟩⟩ rfl ⟨rfl, ⟨rfl, ⟨rfl, ⟨rfl, ⟨rfl, ⟨rfl, ⟨rfl, trivial⟩⟩⟩⟩⟩⟩⟩ rfl rfl ?_
      refine AOps.q hC rfl trivial ?_
      refine AOps.nil ?_
      refine AEx.cond rfl (fun hb => ?_) (fun hb => ?_)
      · replace hh := if_t hb hh
        refine AEx.seq ?_
        refine AEx.regionN rfl rfl ?_
        refine AOps.q hC rfl trivial ?_
        refine AOps.nil ?_
        refine AEx.ret ?_
        obtain rfl := Option.some.inj hh
        exact ⟨_, _, [.row [.clo 67 [.ref 3 0, .ref 4 0, .ref 5 0, .ref 6 0]] 88, .row [.d (.int .i64 x6.2.1)] 3, .row [.clo 98 [.ref 0 0, .ref 1 0, .ref 2 0]] 119, .row [.d (.str s1)] 9, .row (ApiType.cells x6.2.2.1) 27, .row [.d (.int .i64 x6.2.2.2.1)] 3, .row [.d (.bool x6.2.2.2.2)] 4], rfl, .rfl, ⟨⟨rfl, .refl _, rfl⟩, ⟨⟨rfl, .refl _, rfl⟩, ⟨⟨rfl, .refl _, rfl⟩, ⟨⟨rfl, .refl _, rfl⟩, ⟨⟨rfl, .refl _, rfl⟩, ⟨⟨rfl, .refl _, rfl⟩, ⟨⟨rfl, .refl _, rfl⟩, trivial⟩⟩⟩⟩⟩⟩⟩, rfl, rfl, rfl, rfl⟩
      · replace hh := if_f hb hh
        refine AEx.skip ?_
        refine AEx.regionN rfl rfl ?_
        iterate 2 refine AOps.q hC rfl trivial ?_
        refine AOps.nil ?_
        refine ALoop.wk ?_ (ih2 _ _ _ _ _ _ _ _ hh)
        exact ⟨⟨⟨.rfl, rfl⟩, ⟨⟨.rfl, rfl⟩, ⟨⟨.rfl, rfl⟩, ⟨⟨.rfl, rfl⟩, ⟨⟨.rfl, rfl⟩, trivial⟩⟩⟩⟩⟩, ⟨⟨rfl, .refl _, rfl⟩, ⟨⟨rfl, .refl _, rfl⟩, ⟨⟨rfl, .refl _, rfl⟩, ⟨⟨rfl, .refl _, rfl⟩, ⟨⟨rfl, .refl _, rfl⟩, ⟨⟨rfl, .refl _, rfl⟩, ⟨⟨rfl, .refl _, rfl⟩, ⟨⟨rfl, .refl _, rfl⟩, trivial⟩⟩⟩⟩⟩⟩⟩⟩, rfl⟩
    · replace hh := if_f hb hh
      refine AEx.exit ?_
      refine AEx.seq ?_
      refine AEx.regionN rfl rfl ?_
      refine AOps.q hC rfl trivial ?_
      refine AOps.nil ?_
      refine AEx.ret ?_
      obtain rfl := Option.some.inj hh
      exact ⟨_, _, [.row [.clo 67 [.ref 3 0, .ref 4 0, .ref 5 0, .ref 6 0]] 88, .row [.d (.int .i64 o1)] 3, .row [.clo 98 [.ref 0 0, .ref 1 0, .ref 2 0]] 119, .row [.d (.str s1)] 9, .row (ApiType.cells o4) 27, .row [.d (.int .i64 o5)] 3, .row [.d (.bool o6)] 4], rfl, .rfl, ⟨⟨rfl, .refl _, rfl⟩, ⟨⟨rfl, .refl _, rfl⟩, ⟨⟨rfl, .refl _, rfl⟩, ⟨⟨rfl, .refl _, rfl⟩, ⟨⟨rfl, .refl _, rfl⟩, ⟨⟨rfl, .refl _, rfl⟩, ⟨⟨rfl, .refl _, rfl⟩, trivial⟩⟩⟩⟩⟩⟩⟩, rfl, rfl, rfl, rfl⟩
theorem types_each_1_v4_ok {path : Str} {t : ApiType} {s : Int} {s1 : Str} {apiType : ApiType} {s2 : Int} {s3 : Bool} {res : Bool × Int × ApiType × Int × Bool} (hh : types_each_1_v4 path t s s1 apiType s2 s3 = some res) : ACall C 98 [.d (.str path), .agg (ApiType.cells t), .ref 0 0, .ref 1 0, .ref 2 0] [.row [.clo 67 [.ref 3 0, .ref 4 0, .ref 5 0, .ref 6 0]] 88, .row [.d (.int .i64 s)] 3, .row [.clo 98 [.ref 0 0, .ref 1 0, .ref 2 0]] 119, .row [.d (.str s1)] 9, .row (ApiType.cells apiType) 27, .row [.d (.int .i64 s2)] 3, .row [.d (.bool s3)] 4] (fun x H' => H' = [.row [.clo 67 [.ref 3 0, .ref 4 0, .ref 5 0, .ref 6 0]] 88, .row [.d (.int .i64 res.2.1)] 3, .row [.clo 98 [.ref 0 0, .ref 1 0, .ref 2 0]] 119, .row [.d (.str s1)] 9, .row (ApiType.cells res.2.2.1) 27, .row [.d (.int .i64 res.2.2.2.1)] 3, .row [.d (.bool res.2.2.2.2)] 4] ∧ x = .d (.bool res.1)) := (types_each_1_v4_grp s1).1 _ _ _ _ _ _ _ hh
theorem types_each_1_v4_l2_ok {path : Str} {t : ApiType} {s1 : Str} {o11 : Int} {o41 : ApiType} {o51 : Int} {o61 : Bool} {v46 : Int} {res : Bool × Int × ApiType × Int × Bool} (hh : types_each_1_v4_l2 path t s1 o11 o41 o51 o61 v46 = some res) : ALoop (Fx.mk C 64 7) (lo (bk (sr (ca (sr (cb (sr (bk (sr (sl (sr (sr (bodyOf Tryd.f98))))))))))))) (mkEnv [(0, .d (.str path)), (4, .ref 2 0), (6, .ref 7 0), (44, .d (.sl (ApiType.rows t.Of))), (45, .d (.int .i64 ((t.Of).length : Int))), (46, .d (.int .i64 v46))]) [.row [.clo 67 [.ref 3 0, .ref 4 0, .ref 5 0, .ref 6 0]] 88, .row [.d (.int .i64 o11)] 3, .row [.clo 98 [.ref 0 0, .ref 1 0, .ref 2 0]] 119, .row [.d (.str s1)] 9, .row (ApiType.cells o41) 27, .row [.d (.int .i64 o51)] 3, .row [.d (.bool o61)] 4, .row (ApiType.cells t) 27] (Am.InBlock 3 (Am.InBlock 0 (Am.Then (Fx.mk C 64 7) (sr (sr (sr (bodyOf Tryd.f98)))) (Am.Ends (Fx.mk C 64 7) Tryd.f98.results.toList (fun x H' => H' = [.row [.clo 67 [.ref 3 0, .ref 4 0, .ref 5 0, .ref 6 0]] 88, .row [.d (.int .i64 res.2.1)] 3, .row [.clo 98 [.ref 0 0, .ref 1 0, .ref 2 0]] 119, .row [.d (.str s1)] 9, .row (ApiType.cells res.2.2.1) 27, .row [.d (.int .i64 res.2.2.2.1)] 3, .row [.d (.bool res.2.2.2.2)] 4] ∧ x = .d (.bool res.1)))))) := (types_each_1_v4_grp s1).2.1 _ _ _ _ _ _ _ _ hh
theorem types_each_1_v4_l1_ok {path : Str} {t : ApiType} {s1 : Str} {o1 : Int} {o4 : ApiType} {o5 : Int} {o6 : Bool} {v25 : Int} {res : Bool × Int × ApiType × Int × Bool} (hh : types_each_1_v4_l1 path t s1 o1 o4 o5 o6 v25 = some res) : ALoop (Fx.mk C 64 7) (lo (bk (sr (ca (sr (bk (sr (sl (sr (sr (bodyOf Tryd.f98))))))))))) (mkEnv [(0, .d (.str path)), (4, .ref 2 0), (6, .ref 7 0), (24, .d (.int .i64 t.Size)), (25, .d (.int .i64 v25))]) [.row [.clo 67 [.ref 3 0, .ref 4 0, .ref 5 0, .ref 6 0]] 88, .row [.d (.int .i64 o1)] 3, .row [.clo 98 [.ref 0 0, .ref 1 0, .ref 2 0]] 119, .row [.d (.str s1)] 9, .row (ApiType.cells o4) 27, .row [.d (.int .i64 o5)] 3, .row [.d (.bool o6)] 4, .row (ApiType.cells t) 27] (Am.InBlock 1 (Am.InBlock 0 (Am.Then (Fx.mk C 64 7) (sr (sr (sr (bodyOf Tryd.f98)))) (Am.Ends (Fx.mk C 64 7) Tryd.f98.results.toList (fun x H' => H' = [.row [.clo 67 [.ref 3 0, .ref 4 0, .ref 5 0, .ref 6 0]] 88, .row [.d (.int .i64 res.2.1)] 3, .row [.clo 98 [.ref 0 0, .ref 1 0, .ref 2 0]] 119, .row [.d (.str s1)] 9, .row (ApiType.cells res.2.2.1) 27, .row [.d (.int .i64 res.2.2.2.1)] 3, .row [.d (.bool res.2.2.2.2)] 4] ∧ x = .d (.bool res.1)))))) := (types_each_1_v4_grp s1).2.2 _ _ _ _ _ _ _ _ hh
end Go.Proofs.YtonilfkaecbjnaaDoor
