/- What the functions compute, and that they do: printed by gen.py. -/
import Derived.Test.YtonilfkaecbjnaaDoorDg2
set_option maxRecDepth 100000
set_option maxHeartbeats 4000000
set_option linter.unusedVariables false
namespace Go.Proofs.YtonilfkaecbjnaaDoor
open Go.Am
def slices_Equal_int_int (s1 : List Int) (s2 : List Int) : Option Bool :=
  if (((s1).length : Int) != ((s2).length : Int)) = true then
    some false
  else
    slices_Equal_int_int_l1 s1 s2 0
theorem slices_Equal_int_int_ok {s1 : List Int} {s2 : List Int} {res : Bool} (hh : slices_Equal_int_int s1 s2 = some res) : ACall C 29 [.d (.sl (ei64.rows s1)), .d (.sl (ei64.rows s2))] [] (fun x H' => H' = [] ∧ x = .d (.bool res)) := by
  unfold slices_Equal_int_int at hh
  refine ACall.intro hC Tryd.func29 rfl rfl rfl ?_
  refine AEx.seq ?_
  refine AEx.regionN rfl rfl ?_
  refine AOps.q hC rfl trivial ?_
  refine AOps.nil ?_
  refine AEx.seq ?_
  refine AEx.seq ?_
  refine AEx.regionN rfl rfl ?_
  refine AOps.q hC rfl trivial ?_
  refine AOps.qe hC rfl trivial (ei64.lenA _) ?_
  refine AOps.q hC rfl trivial ?_
  refine AOps.qe hC rfl trivial (ei64.lenA _) ?_
  refine AOps.q hC rfl trivial ?_
  refine AOps.nil ?_
  refine AEx.cond rfl (fun hb => ?_) (fun hb => ?_)
  · replace hh := if_t hb hh
    refine AEx.seq ?_
    refine AEx.regionN rfl rfl ?_
    refine AOps.q hC rfl trivial ?_
    refine AOps.nil ?_
    refine AEx.ret ?_
    obtain rfl := Option.some.inj hh
    exact ⟨_, _, [], rfl, .rfl, trivial, rfl, rfl, rfl, rfl⟩
  · replace hh := if_f hb hh
    refine AEx.skip ?_
    refine AEx.seq ?_
    refine AEx.seq ?_
    refine AEx.regionN rfl rfl ?_
    refine AOps.q hC rfl trivial ?_
    refine AOps.qe hC rfl trivial (ei64.lenA _) ?_
    refine AOps.q hC rfl trivial ?_
    refine AOps.nil ?_
    refine AEx.block ?_
    refine AEx.ofLoop ?_
    refine ALoop.wk ?_ (slices_Equal_int_int_l1_ok hh)
    exact ⟨⟨⟨.rfl, rfl⟩, ⟨⟨.rfl, rfl⟩, ⟨⟨.rfl, rfl⟩, ⟨⟨.rfl, rfl⟩, trivial⟩⟩⟩⟩, trivial, rfl⟩
def types_Contains (t : ApiType) (list : List Int) : Option Bool :=
  types_Clamp t list >>= fun x1 =>
  (if (x1.2 == 0) = true then slices_Equal_int_int x1.1 list else some default) >>= fun x2 =>
  some (bif (x1.2 == 0) then x2 else false)
theorem types_Contains_ok {t : ApiType} {list : List Int} {res : Bool} (hh : types_Contains t list = some res) : ACall C 27 [.agg (ApiType.cells t), .d (.sl (ei64.rows list))] [] (fun x H' => H' = [] ∧ x = .d (.bool res)) := by
  unfold types_Contains at hh
  refine ACall.intro hC Tryd.func27 rfl rfl rfl ?_
  refine AEx.seq ?_
  refine AEx.regionN rfl rfl ?_
  refine AOps.n hC rfl ?_
  refine AOps.q hC rfl trivial ?_
  refine AOps.nil ?_
  refine AEx.seq ?_
  refine AEx.regionN rfl rfl ?_
  iterate 2 refine AOps.q hC rfl trivial ?_
  obtain ⟨x1, hx1, hh⟩ := bind_some hh
  refine AOps.c rfl rfl (types_Clamp_ok hx1) ?_
  iterate 5 refine AOps.q hC rfl trivial ?_
  refine AOps.nil ?_
  refine AEx.seq ?_
  refine AEx.regionG 8 rfl ?_
  refine AG.q hC rfl ?_ ?_
  · intro hg; refine And.intro ?_ ?_ <;> repeat' (first | exact True.intro | exact hg | exact and_l hg | exact and_l (and_l hg) | refine And.intro ?_ ?_)
  refine AG.q hC rfl ?_ ?_
  · intro hg; refine And.intro ?_ ?_ <;> repeat' (first | exact True.intro | exact hg | exact and_l hg | exact and_l (and_l hg) | refine And.intro ?_ ?_)
  refine AG.q hC rfl ?_ ?_
  · intro hg; refine And.intro ?_ ?_ <;> repeat' (first | exact True.intro | exact hg | exact and_l hg | exact and_l (and_l hg) | refine And.intro ?_ ?_)
  refine AG.q hC rfl ?_ ?_
  · intro hg; refine And.intro ?_ ?_ <;> repeat' (first | exact True.intro | exact hg | exact and_l hg | exact and_l (and_l hg) | refine And.intro ?_ ?_)
  refine AG.q hC rfl ?_ ?_
  · intro hg; refine And.intro ?_ ?_ <;> repeat' (first | exact True.intro | exact hg | exact and_l hg | exact and_l (and_l hg) | refine And.intro ?_ ?_)
  obtain ⟨x2, hx2, hh⟩ := bind_some hh
  refine AG.c rfl rfl (by intro hg; repeat' (first | exact True.intro | exact hg | exact and_l hg | exact and_l (and_l hg) | refine And.intro ?_ ?_)) (fun hw => slices_Equal_int_int_ok (if_t hw hx2)) ?_
  refine AG.p hC rfl ?_ ?_
  · intro hg; refine And.intro ?_ (And.intro ?_ ?_) <;> first | exact True.intro | exact fun _ => True.intro | exact And.intro hg True.intro | exact fun h' => And.intro (wb_f h') True.intro | exact fun h' => And.intro (wb_t h') True.intro | exact fun h' => And.intro (and_f hg h') True.intro | exact fun h' => And.intro (and_t hg h') True.intro | exact And.intro (and_l hg) True.intro
  refine AG.q hC rfl ?_ ?_
  · intro hg; refine And.intro ?_ ?_ <;> repeat' (first | exact True.intro | exact hg | exact and_l hg | exact and_l (and_l hg) | refine And.intro ?_ ?_)
  refine AG.nil ?_
  refine AOps.nil ?_
  refine AEx.ret ?_
  obtain rfl := Option.some.inj hh
  exact ⟨_, _, [], rfl, .rfl, trivial, rfl, rfl, rfl, rfl⟩
def law12_known : Option Bool :=
  types_Expand [(ApiDecl.mk 0 [98, 105, 116] (ApiType.mk 0 0 0 0 [] [] []) 0 (ApiExpr.mk 0 0 [] []) [] [] []), (ApiDecl.mk 0 [112, 97, 105, 114] (ApiType.mk 3 0 0 0 [] [[97], [98]] [(ApiType.mk 4 0 0 0 [98, 105, 116] [] []), (ApiType.mk 1 1 3 0 [] [] [])]) 0 (ApiExpr.mk 0 0 [] []) [] [] [])] (ApiType.mk 2 0 0 2 [] [] [(ApiType.mk 4 0 0 0 [112, 97, 105, 114] [] [])]) >>= fun x1 =>
  types_Scalars x1.1 >>= fun x2 =>
  types_Values x1.1 >>= fun x3 =>
  types_Clamp x1.1 [5, 0, (-1), 2] >>= fun x4 =>
  (if (bif ((IntKind.i64.wrap ((IntKind.i64.wrap ((IntKind.i64.wrap (x1.2 + x2.2)) + x3.2)) + x4.2)) == 0) then (((x2.1).length : Int) == 4) else false) = true then idx x2.1 2 else some default) >>= fun x5 =>
  (if (bif (bif (bif ((IntKind.i64.wrap ((IntKind.i64.wrap ((IntKind.i64.wrap (x1.2 + x2.2)) + x3.2)) + x4.2)) == 0) then (((x2.1).length : Int) == 4) else false) then (bif (x5.Path == [46, 49, 46, 97]) then (bif (x5.Bool == true) then (bif (x5.Low == 0) then (bif (x5.High == 1) then true else false) else false) else false) else false) else false) then (x3.1 == 36) else false) = true then slices_Equal_int_int x4.1 [1, 1, 0, 2] else some default) >>= fun x6 =>
  (if (bif (bif (bif (bif ((IntKind.i64.wrap ((IntKind.i64.wrap ((IntKind.i64.wrap (x1.2 + x2.2)) + x3.2)) + x4.2)) == 0) then (((x2.1).length : Int) == 4) else false) then (bif (x5.Path == [46, 49, 46, 97]) then (bif (x5.Bool == true) then (bif (x5.Low == 0) then (bif (x5.High == 1) then true else false) else false) else false) else false) else false) then (x3.1 == 36) else false) then x6 else false) = true then types_Contains x1.1 x4.1 else some default) >>= fun x7 =>
  (if (bif (bif (bif (bif (bif ((IntKind.i64.wrap ((IntKind.i64.wrap ((IntKind.i64.wrap (x1.2 + x2.2)) + x3.2)) + x4.2)) == 0) then (((x2.1).length : Int) == 4) else false) then (bif (x5.Path == [46, 49, 46, 97]) then (bif (x5.Bool == true) then (bif (x5.Low == 0) then (bif (x5.High == 1) then true else false) else false) else false) else false) else false) then (x3.1 == 36) else false) then x6 else false) then x7 else false) = true then types_Check (ApiType.mk 4 0 0 0 [112, 97, 105, 114] [] []) else some default) >>= fun x8 =>
  some (bif (bif (bif (bif (bif (bif ((IntKind.i64.wrap ((IntKind.i64.wrap ((IntKind.i64.wrap (x1.2 + x2.2)) + x3.2)) + x4.2)) == 0) then (((x2.1).length : Int) == 4) else false) then (bif (x5.Path == [46, 49, 46, 97]) then (bif (x5.Bool == true) then (bif (x5.Low == 0) then (bif (x5.High == 1) then true else false) else false) else false) else false) else false) then (x3.1 == 36) else false) then x6 else false) then x7 else false) then (x8 == 7) else false)
theorem law12_known_ok {res : Bool} (hh : law12_known = some res) : ACall C 13 [] [] (fun x H' => H' = [] ∧ x = .d (.bool res)) := by
  unfold law12_known at hh
  refine ACall.intro hC Tryd.func13 rfl rfl rfl ?_
  refine AEx.seq ?_
  refine AEx.regionN rfl rfl ?_
  refine AOps.q hC rfl trivial ?_
  refine AOps.nil ?_
  refine AEx.seq ?_
  refine AEx.regionN rfl rfl ?_
  refine AOps.q hC rfl trivial ?_
  refine AOps.be hC rfl (estr.rows_map [[97], [98]]).symm ?_
  iterate 2 refine AOps.q hC rfl trivial ?_
  refine AOps.be hC rfl (ApiType.rows_map [(ApiType.mk 4 0 0 0 [98, 105, 116] [] []), (ApiType.mk 1 1 3 0 [] [] [])]).symm ?_
  iterate 2 refine AOps.q hC rfl trivial ?_
  refine AOps.be hC rfl (ApiDecl.rows_map [(ApiDecl.mk 0 [98, 105, 116] (ApiType.mk 0 0 0 0 [] [] []) 0 (ApiExpr.mk 0 0 [] []) [] [] []), (ApiDecl.mk 0 [112, 97, 105, 114] (ApiType.mk 3 0 0 0 [] [[97], [98]] [(ApiType.mk 4 0 0 0 [98, 105, 116] [] []), (ApiType.mk 1 1 3 0 [] [] [])]) 0 (ApiExpr.mk 0 0 [] []) [] [] [])]).symm ?_
  refine AOps.q hC rfl trivial ?_
  refine AOps.nil ?_
  refine AEx.seq ?_
  refine AEx.regionN rfl rfl ?_
  iterate 2 refine AOps.q hC rfl trivial ?_
  refine AOps.be hC rfl (ApiType.rows_map [(ApiType.mk 4 0 0 0 [112, 97, 105, 114] [] [])]).symm ?_
  refine AOps.q hC rfl trivial ?_
  obtain ⟨x1, hx1, hh⟩ := bind_some hh
  refine AOps.cl rfl (types_Expand_ok hx1) ⟨.full, ⟨(.aggL ⟨.rfl, ⟨.rfl, ⟨.rfl, ⟨.rfl, ⟨.rfl, ⟨.rfl, ⟨.full, trivial⟩⟩⟩⟩⟩⟩⟩), trivial⟩⟩ rfl ?_
  iterate 3 refine AOps.q hC rfl trivial ?_
  refine AOps.nf hC rfl ?_
  refine AOps.s hC rfl ?_
  refine AOps.q hC rfl trivial ?_
  refine AOps.nil ?_
  refine AEx.seq ?_
  refine AEx.regionN rfl rfl ?_
  refine AOps.q hC rfl trivial ?_
  obtain ⟨x2, hx2, hh⟩ := bind_some hh
  refine AOps.c rfl rfl (types_Scalars_ok hx2) ?_
  iterate 5 refine AOps.q hC rfl trivial ?_
  refine AOps.nil ?_
  refine AEx.seq ?_
  refine AEx.regionN rfl rfl ?_
  refine AOps.q hC rfl trivial ?_
  obtain ⟨x3, hx3, hh⟩ := bind_some hh
  refine AOps.c rfl rfl (types_Values_ok hx3) ?_
  iterate 5 refine AOps.q hC rfl trivial ?_
  refine AOps.nil ?_
  refine AEx.seq ?_
  refine AEx.regionN rfl rfl ?_
  refine AOps.q hC rfl trivial ?_
  refine AOps.be hC rfl (ei64.rows_map [5, 0, (-1), 2]).symm ?_
  obtain ⟨x4, hx4, hh⟩ := bind_some hh
  refine AOps.cl rfl (types_Clamp_ok hx4) ⟨.rfl, ⟨.full, trivial⟩⟩ rfl ?_
  iterate 5 refine AOps.q hC rfl trivial ?_
  refine AOps.nil ?_
  refine AEx.seq ?_
  refine AEx.regionG 40 rfl ?_
  refine AG.q hC rfl ?_ ?_
  · intro hg; refine And.intro ?_ ?_ <;> repeat' (first | exact True.intro | exact hg | exact and_l hg | exact and_l (and_l hg) | refine And.intro ?_ ?_)
  refine AG.q hC rfl ?_ ?_
  · intro hg; refine And.intro ?_ ?_ <;> repeat' (first | exact True.intro | exact hg | exact and_l hg | exact and_l (and_l hg) | refine And.intro ?_ ?_)
  refine AG.q hC rfl ?_ ?_
  · intro hg; refine And.intro ?_ ?_ <;> repeat' (first | exact True.intro | exact hg | exact and_l hg | exact and_l (and_l hg) | refine And.intro ?_ ?_)
  refine AG.q hC rfl ?_ ?_
  · intro hg; refine And.intro ?_ ?_ <;> repeat' (first | exact True.intro | exact hg | exact and_l hg | exact and_l (and_l hg) | refine And.intro ?_ ?_)
  refine AG.q hC rfl ?_ ?_
  · intro hg; refine And.intro ?_ ?_ <;> repeat' (first | exact True.intro | exact hg | exact and_l hg | exact and_l (and_l hg) | refine And.intro ?_ ?_)
  refine AG.q hC rfl ?_ ?_
  · intro hg; refine And.intro ?_ ?_ <;> repeat' (first | exact True.intro | exact hg | exact and_l hg | exact and_l (and_l hg) | refine And.intro ?_ ?_)
  refine AG.q hC rfl ?_ ?_
  · intro hg; refine And.intro ?_ ?_ <;> repeat' (first | exact True.intro | exact hg | exact and_l hg | exact and_l (and_l hg) | refine And.intro ?_ ?_)
  refine AG.q hC rfl ?_ ?_
  · intro hg; refine And.intro ?_ ?_ <;> repeat' (first | exact True.intro | exact hg | exact and_l hg | exact and_l (and_l hg) | refine And.intro ?_ ?_)
  refine AG.q hC rfl ?_ ?_
  · intro hg; refine And.intro ?_ ?_ <;> repeat' (first | exact True.intro | exact hg | exact and_l hg | exact and_l (and_l hg) | refine And.intro ?_ ?_)
  refine AG.q hC rfl ?_ ?_
  · intro hg; refine And.intro ?_ ?_ <;> repeat' (first | exact True.intro | exact hg | exact and_l hg | exact and_l (and_l hg) | refine And.intro ?_ ?_)
  refine AG.qe hC rfl ?_ (ApiScalar.lenA _) ?_
  · intro hg; refine And.intro ?_ ?_ <;> repeat' (first | exact True.intro | exact hg | exact and_l hg | exact and_l (and_l hg) | refine And.intro ?_ ?_)
  refine AG.q hC rfl ?_ ?_
  · intro hg; refine And.intro ?_ ?_ <;> repeat' (first | exact True.intro | exact hg | exact and_l hg | exact and_l (and_l hg) | refine And.intro ?_ ?_)
  refine AG.p hC rfl ?_ ?_
  · intro hg; refine And.intro ?_ (And.intro ?_ ?_) <;> first | exact True.intro | exact fun _ => True.intro | exact And.intro hg True.intro | exact fun h' => And.intro (wb_f h') True.intro | exact fun h' => And.intro (wb_t h') True.intro | exact fun h' => And.intro (and_f hg h') True.intro | exact fun h' => And.intro (and_t hg h') True.intro | exact And.intro (and_l hg) True.intro
  refine AG.q hC rfl ?_ ?_
  · intro hg; refine And.intro ?_ ?_ <;> repeat' (first | exact True.intro | exact hg | exact and_l hg | exact and_l (and_l hg) | refine And.intro ?_ ?_)
  refine AG.q hC rfl ?_ ?_
  · intro hg; refine And.intro ?_ ?_ <;> repeat' (first | exact True.intro | exact hg | exact and_l hg | exact and_l (and_l hg) | refine And.intro ?_ ?_)
  obtain ⟨x5, hx5, hh⟩ := bind_some hh
  refine AG.i hC rfl rfl (by intro hg; repeat' (first | exact True.intro | exact hg | exact and_l hg | exact and_l (and_l hg) | refine And.intro ?_ ?_)) (fun hw => ⟨idx_nat (if_t hw hx5), ApiScalar.idx (if_t hw hx5), rfl⟩) ?_
  refine AG.q hC rfl ?_ ?_
  · intro hg; refine And.intro ?_ ?_ <;> repeat' (first | exact True.intro | exact hg | exact and_l hg | exact and_l (and_l hg) | refine And.intro ?_ ?_)
  refine AG.q hC rfl ?_ ?_
  · intro hg; refine And.intro ?_ ?_ <;> repeat' (first | exact True.intro | exact hg | exact and_l hg | exact and_l (and_l hg) | refine And.intro ?_ ?_)
  refine AG.se hC rfl rfl (by kernel_rfl) (by intro hg; repeat' (first | exact True.intro | exact hg | exact and_l hg | exact and_l (and_l hg) | refine And.intro ?_ ?_)) ?_
  refine AG.p hC rfl ?_ ?_
  · intro hg; refine And.intro ?_ (And.intro ?_ ?_) <;> first | exact True.intro | exact fun _ => True.intro | exact And.intro hg True.intro | exact fun h' => And.intro (wb_f h') True.intro | exact fun h' => And.intro (wb_t h') True.intro | exact fun h' => And.intro (and_f hg h') True.intro | exact fun h' => And.intro (and_t hg h') True.intro | exact And.intro (and_l hg) True.intro
  refine AG.q hC rfl ?_ ?_
  · intro hg; refine And.intro ?_ ?_ <;> repeat' (first | exact True.intro | exact hg | exact and_l hg | exact and_l (and_l hg) | refine And.intro ?_ ?_)
  refine AG.q hC rfl ?_ ?_
  · intro hg; refine And.intro ?_ ?_ <;> repeat' (first | exact True.intro | exact hg | exact and_l hg | exact and_l (and_l hg) | refine And.intro ?_ ?_)
  refine AG.q hC rfl ?_ ?_
  · intro hg; refine And.intro ?_ ?_ <;> repeat' (first | exact True.intro | exact hg | exact and_l hg | exact and_l (and_l hg) | refine And.intro ?_ ?_)
  refine AG.p hC rfl ?_ ?_
  · intro hg; refine And.intro ?_ (And.intro ?_ ?_) <;> first | exact True.intro | exact fun _ => True.intro | exact And.intro hg True.intro | exact fun h' => And.intro (wb_f h') True.intro | exact fun h' => And.intro (wb_t h') True.intro | exact fun h' => And.intro (and_f hg h') True.intro | exact fun h' => And.intro (and_t hg h') True.intro | exact And.intro (and_l hg) True.intro
  refine AG.q hC rfl ?_ ?_
  · intro hg; refine And.intro ?_ ?_ <;> repeat' (first | exact True.intro | exact hg | exact and_l hg | exact and_l (and_l hg) | refine And.intro ?_ ?_)
  refine AG.q hC rfl ?_ ?_
  · intro hg; refine And.intro ?_ ?_ <;> repeat' (first | exact True.intro | exact hg | exact and_l hg | exact and_l (and_l hg) | refine And.intro ?_ ?_)
  refine AG.bx hC rfl rfl (ei64.rows_map [1, 1, 0, 2]).symm (by intro hg; repeat' (first | exact True.intro | exact hg | exact and_l hg | exact and_l (and_l hg) | refine And.intro ?_ ?_)) ?_
  obtain ⟨x6, hx6, hh⟩ := bind_some hh
  refine AG.cl rfl (fun hw => slices_Equal_int_int_ok (if_t hw hx6)) ⟨.rfl, ⟨.full, trivial⟩⟩ rfl (by intro hg; repeat' (first | exact True.intro | exact hg | exact and_l hg | exact and_l (and_l hg) | refine And.intro ?_ ?_)) ?_
  refine AG.p hC rfl ?_ ?_
  · intro hg; refine And.intro ?_ (And.intro ?_ ?_) <;> first | exact True.intro | exact fun _ => True.intro | exact And.intro hg True.intro | exact fun h' => And.intro (wb_f h') True.intro | exact fun h' => And.intro (wb_t h') True.intro | exact fun h' => And.intro (and_f hg h') True.intro | exact fun h' => And.intro (and_t hg h') True.intro | exact And.intro (and_l hg) True.intro
  refine AG.q hC rfl ?_ ?_
  · intro hg; refine And.intro ?_ ?_ <;> repeat' (first | exact True.intro | exact hg | exact and_l hg | exact and_l (and_l hg) | refine And.intro ?_ ?_)
  refine AG.q hC rfl ?_ ?_
  · intro hg; refine And.intro ?_ ?_ <;> repeat' (first | exact True.intro | exact hg | exact and_l hg | exact and_l (and_l hg) | refine And.intro ?_ ?_)
  refine AG.q hC rfl ?_ ?_
  · intro hg; refine And.intro ?_ ?_ <;> repeat' (first | exact True.intro | exact hg | exact and_l hg | exact and_l (and_l hg) | refine And.intro ?_ ?_)
  obtain ⟨x7, hx7, hh⟩ := bind_some hh
  refine AG.c rfl rfl (by intro hg; repeat' (first | exact True.intro | exact hg | exact and_l hg | exact and_l (and_l hg) | refine And.intro ?_ ?_)) (fun hw => types_Contains_ok (if_t hw hx7)) ?_
  refine AG.p hC rfl ?_ ?_
  · intro hg; refine And.intro ?_ (And.intro ?_ ?_) <;> first | exact True.intro | exact fun _ => True.intro | exact And.intro hg True.intro | exact fun h' => And.intro (wb_f h') True.intro | exact fun h' => And.intro (wb_t h') True.intro | exact fun h' => And.intro (and_f hg h') True.intro | exact fun h' => And.intro (and_t hg h') True.intro | exact And.intro (and_l hg) True.intro
  refine AG.q hC rfl ?_ ?_
  · intro hg; refine And.intro ?_ ?_ <;> repeat' (first | exact True.intro | exact hg | exact and_l hg | exact and_l (and_l hg) | refine And.intro ?_ ?_)
  refine AG.q hC rfl ?_ ?_
  · intro hg; refine And.intro ?_ ?_ <;> repeat' (first | exact True.intro | exact hg | exact and_l hg | exact and_l (and_l hg) | refine And.intro ?_ ?_)
  obtain ⟨x8, hx8, hh⟩ := bind_some hh
  refine AG.c rfl rfl (by intro hg; repeat' (first | exact True.intro | exact hg | exact and_l hg | exact and_l (and_l hg) | refine And.intro ?_ ?_)) (fun hw => types_Check_ok (if_t hw hx8)) ?_
  refine AG.q hC rfl ?_ ?_
  · intro hg; refine And.intro ?_ ?_ <;> repeat' (first | exact True.intro | exact hg | exact and_l hg | exact and_l (and_l hg) | refine And.intro ?_ ?_)
  refine AG.p hC rfl ?_ ?_
  · intro hg; refine And.intro ?_ (And.intro ?_ ?_) <;> first | exact True.intro | exact fun _ => True.intro | exact And.intro hg True.intro | exact fun h' => And.intro (wb_f h') True.intro | exact fun h' => And.intro (wb_t h') True.intro | exact fun h' => And.intro (and_f hg h') True.intro | exact fun h' => And.intro (and_t hg h') True.intro | exact And.intro (and_l hg) True.intro
  refine AG.q hC rfl ?_ ?_
  · intro hg; refine And.intro ?_ ?_ <;> repeat' (first | exact True.intro | exact hg | exact and_l hg | exact and_l (and_l hg) | refine And.intro ?_ ?_)
  refine AG.nil ?_
  refine AOps.nil ?_
  refine AEx.ret ?_
  obtain rfl := Option.some.inj hh
  exact ⟨_, _, [], rfl, .rfl, trivial, rfl, rfl, rfl, rfl⟩
mutual
def law12_left (t : ApiType) (n : Int) : Option Int :=
  law12_left_l1 t (IntKind.i64.wrap (n - (IntKind.i64.wrap (1 + (min ((t.Names).length : Int) (IntKind.i64.wrap (n + 1))))))) 0
  partial_fixpoint
def law12_left_l1 (t : ApiType) (n1 : Int) (i : Int) : Option Int :=
  if (bif (decide (i < ((t.Of).length : Int))) then (decide (n1 ≥ 0)) else false) = true then
    idx t.Of i >>= fun x1 =>
    law12_left x1 n1 >>= fun x2 =>
    law12_left_l1 t x2 (IntKind.i64.wrap (i + 1))
  else
    some n1
  partial_fixpoint
end
theorem law12_left_grp : (∀ (t : ApiType) (n : Int) (res : Int), law12_left t n = some res → ACall C 50 [.agg (ApiType.cells t), .d (.int .i64 n)] [] (fun x H' => H' = [] ∧ x = .d (.int .i64 res))) ∧
    (∀ (t : ApiType) (n1 : Int) (i : Int) (res : Int), law12_left_l1 t n1 i = some res → ALoop (Fx.mk C 34 0) (lo (bk (sr (sl (sr (sr (bodyOf Tryd.f50))))))) (mkEnv [(1, .d (.int .i64 n1)), (2, .ref 0 0), (5, .d (.int .i64 i))]) [.row (ApiType.cells t) 27] (Am.InBlock 0 (Am.Then (Fx.mk C 34 0) (sr (sr (sr (bodyOf Tryd.f50)))) (Am.Ends (Fx.mk C 34 0) Tryd.f50.results.toList (fun x H' => H' = [] ∧ x = .d (.int .i64 res)))))) := by
  refine law12_left.mutual_partial_correctness (fun t n res => ACall C 50 [.agg (ApiType.cells t), .d (.int .i64 n)] [] (fun x H' => H' = [] ∧ x = .d (.int .i64 res)))
    (fun t n1 i res => ALoop (Fx.mk C 34 0) (lo (bk (sr (sl (sr (sr (bodyOf Tryd.f50))))))) (mkEnv [(1, .d (.int .i64 n1)), (2, .ref 0 0), (5, .d (.int .i64 i))]) [.row (ApiType.cells t) 27] (Am.InBlock 0 (Am.Then (Fx.mk C 34 0) (sr (sr (sr (bodyOf Tryd.f50)))) (Am.Ends (Fx.mk C 34 0) Tryd.f50.results.toList (fun x H' => H' = [] ∧ x = .d (.int .i64 res)))))) ?_ ?_
  · intro g1 ih1 t n res hh
    refine ACall.intro hC Tryd.func50 rfl rfl rfl ?_
    refine AEx.seq ?_
    refine AEx.regionN rfl rfl ?_
    refine AOps.n hC rfl ?_
    refine AOps.q hC rfl trivial ?_
    refine AOps.nil ?_
    refine AEx.seq ?_
    refine AEx.regionN rfl rfl ?_
    iterate 3 refine AOps.q hC rfl trivial ?_
    refine AOps.qe hC rfl trivial (estr.lenA _) ?_
    iterate 6 refine AOps.q hC rfl trivial ?_
    refine AOps.nil ?_
    refine AEx.seq ?_
    refine AEx.seq ?_
    refine AEx.regionN rfl rfl ?_
    refine AOps.q hC rfl trivial ?_
    refine AOps.nil ?_
    refine AEx.block ?_
    refine AEx.ofLoop ?_
    refine ALoop.wk ?_ (ih1 _ _ _ _ hh)
    exact ⟨⟨⟨.rfl, rfl⟩, ⟨⟨.rfl, rfl⟩, ⟨⟨.rfl, rfl⟩, trivial⟩⟩⟩, ⟨⟨rfl, .refl _, rfl⟩, trivial⟩, rfl⟩
  · intro g0 g1 ih0 ih1 t n1 i res hh
    refine ALoop.unroll ?_
    refine AEx.seq ?_
    refine AEx.seq ?_
    refine AEx.regionG 9 rfl ?_
    refine AG.q hC rfl ?_ ?_
    · intro hg; refine And.intro ?_ ?_ <;> repeat' (first | exact True.intro | exact hg | exact and_l hg | exact and_l (and_l hg) | refine And.intro ?_ ?_)
    refine AG.q hC rfl ?_ ?_
    · intro hg; refine And.intro ?_ ?_ <;> repeat' (first | exact True.intro | exact hg | exact and_l hg | exact and_l (and_l hg) | refine And.intro ?_ ?_)
    refine AG.q hC rfl ?_ ?_
    · intro hg; refine And.intro ?_ ?_ <;> repeat' (first | exact True.intro | exact hg | exact and_l hg | exact and_l (and_l hg) | refine And.intro ?_ ?_)
    refine AG.qe hC rfl ?_ (ApiType.lenA _) ?_
    · intro hg; refine And.intro ?_ ?_ <;> repeat' (first | exact True.intro | exact hg | exact and_l hg | exact and_l (and_l hg) | refine And.intro ?_ ?_)
    refine AG.q hC rfl ?_ ?_
    · intro hg; refine And.intro ?_ ?_ <;> repeat' (first | exact True.intro | exact hg | exact and_l hg | exact and_l (and_l hg) | refine And.intro ?_ ?_)
    refine AG.q hC rfl ?_ ?_
    · intro hg; refine And.intro ?_ ?_ <;> repeat' (first | exact True.intro | exact hg | exact and_l hg | exact and_l (and_l hg) | refine And.intro ?_ ?_)
    refine AG.q hC rfl ?_ ?_
    · intro hg; refine And.intro ?_ ?_ <;> repeat' (first | exact True.intro | exact hg | exact and_l hg | exact and_l (and_l hg) | refine And.intro ?_ ?_)
    refine AG.q hC rfl ?_ ?_
    · intro hg; refine And.intro ?_ ?_ <;> repeat' (first | exact True.intro | exact hg | exact and_l hg | exact and_l (and_l hg) | refine And.intro ?_ ?_)
    refine AG.p hC rfl ?_ ?_
    · intro hg; refine And.intro ?_ (And.intro ?_ ?_) <;> first | exact True.intro | exact fun _ => True.intro | exact And.intro hg True.intro | exact fun h' => And.intro (wb_f h') True.intro | exact fun h' => And.intro (wb_t h') True.intro | exact fun h' => And.intro (and_f hg h') True.intro | exact fun h' => And.intro (and_t hg h') True.intro | exact And.intro (and_l hg) True.intro
    refine AG.nil ?_
    refine AOps.nil ?_
    refine AEx.cond rfl (fun hb => ?_) (fun hb => ?_)
    · replace hh := if_t hb hh
      refine AEx.skip ?_
      refine AEx.seq ?_
      refine AEx.block ?_
      refine AEx.regionN rfl rfl ?_
      iterate 3 refine AOps.q hC rfl trivial ?_
      obtain ⟨x1, hx1, hh⟩ := bind_some hh
      refine AOps.i hC rfl (idx_nat hx1) (ApiType.idx hx1) rfl ?_
      iterate 2 refine AOps.q hC rfl trivial ?_
      obtain ⟨x2, hx2, hh⟩ := bind_some hh
      refine AOps.c rfl rfl (ih0 _ _ _ hx2) ?_
      refine AOps.q hC rfl trivial ?_
      refine AOps.nil ?_
      refine AEx.regionN rfl rfl ?_
      iterate 3 refine AOps.q hC rfl trivial ?_
      refine AOps.nil ?_
      refine ALoop.wk ?_ (ih1 _ _ _ _ hh)
      exact ⟨⟨⟨.rfl, rfl⟩, ⟨⟨.rfl, rfl⟩, ⟨⟨.rfl, rfl⟩, trivial⟩⟩⟩, ⟨⟨rfl, .refl _, rfl⟩, trivial⟩, rfl⟩
    · replace hh := if_f hb hh
      refine AEx.exit ?_
      refine AEx.seq ?_
      refine AEx.regionN rfl rfl ?_
      iterate 2 refine AOps.q hC rfl trivial ?_
      refine AOps.nil ?_
      refine AEx.ret ?_
      obtain rfl := Option.some.inj hh
      exact ⟨_, _, [], rfl, .rfl, trivial, rfl, rfl, rfl, rfl⟩
theorem law12_left_ok {t : ApiType} {n : Int} {res : Int} (hh : law12_left t n = some res) : ACall C 50 [.agg (ApiType.cells t), .d (.int .i64 n)] [] (fun x H' => H' = [] ∧ x = .d (.int .i64 res)) := (law12_left_grp).1 _ _ _ hh
theorem law12_left_l1_ok {t : ApiType} {n1 : Int} {i : Int} {res : Int} (hh : law12_left_l1 t n1 i = some res) : ALoop (Fx.mk C 34 0) (lo (bk (sr (sl (sr (sr (bodyOf Tryd.f50))))))) (mkEnv [(1, .d (.int .i64 n1)), (2, .ref 0 0), (5, .d (.int .i64 i))]) [.row (ApiType.cells t) 27] (Am.InBlock 0 (Am.Then (Fx.mk C 34 0) (sr (sr (sr (bodyOf Tryd.f50)))) (Am.Ends (Fx.mk C 34 0) Tryd.f50.results.toList (fun x H' => H' = [] ∧ x = .d (.int .i64 res))))) := (law12_left_grp).2 _ _ _ _ hh
def law12_few (t : ApiType) : Option Bool :=
  law12_left t 200 >>= fun x1 =>
  some (decide (x1 ≥ 0))
theorem law12_few_ok {t : ApiType} {res : Bool} (hh : law12_few t = some res) : ACall C 15 [.agg (ApiType.cells t)] [] (fun x H' => H' = [] ∧ x = .d (.bool res)) := by
  unfold law12_few at hh
  refine ACall.intro hC Tryd.func15 rfl rfl rfl ?_
  refine AEx.seq ?_
  refine AEx.regionN rfl rfl ?_
  refine AOps.n hC rfl ?_
  refine AOps.q hC rfl trivial ?_
  refine AOps.nil ?_
  refine AEx.seq ?_
  refine AEx.regionN rfl rfl ?_
  refine AOps.q hC rfl trivial ?_
  obtain ⟨x1, hx1, hh⟩ := bind_some hh
  refine AOps.c rfl rfl (law12_left_ok hx1) ?_
  iterate 2 refine AOps.q hC rfl trivial ?_
  refine AOps.nil ?_
  refine AEx.ret ?_
  obtain rfl := Option.some.inj hh
  exact ⟨_, _, [], rfl, .rfl, trivial, rfl, rfl, rfl, rfl⟩
def law12_TypesProducts_l1 (t : ApiType) (u : ApiType) (size : Int) (x4 : Int × Int) (x5 : Int × Int) (power : Int) (v67 : Int) : Option Bool :=
  if (decide (v67 < (IntKind.i64.wrap (1 + (Int.tmod (IntKind.i64.wrap size) 4))))) = true then
    law12_TypesProducts_l1 t u size x4 x5 (IntKind.i64.wrap (power * x4.1)) (IntKind.i64.wrap (v67 + 1))
  else
    types_Values (ApiType.mk 2 0 0 (IntKind.i64.wrap (1 + (Int.tmod (IntKind.i64.wrap size) 4))) [] [] [t]) >>= fun x6 =>
    types_Values (ApiType.mk 3 0 0 0 [] [[120], [121]] [t, u]) >>= fun x7 =>
    (if (bif (bif (x6.2 != 0) then true else (x6.1 == power)) then (bif (x7.2 != 0) then true else (x7.1 == (IntKind.i64.wrap (x4.1 * x5.1)))) else false) = true then types_Check (ApiType.mk 2 0 0 (IntKind.i64.wrap (1 + (Int.tmod (IntKind.i64.wrap size) 4))) [] [] [t]) else some default) >>= fun x8 =>
    (if (bif (bif (bif (x6.2 != 0) then true else (x6.1 == power)) then (bif (x7.2 != 0) then true else (x7.1 == (IntKind.i64.wrap (x4.1 * x5.1)))) else false) then (x6.2 == x8) else false) = true then types_Check (ApiType.mk 3 0 0 0 [] [[120], [121]] [t, u]) else some default) >>= fun x9 =>
    some (bif (bif (bif (bif (x6.2 != 0) then true else (x6.1 == power)) then (bif (x7.2 != 0) then true else (x7.1 == (IntKind.i64.wrap (x4.1 * x5.1)))) else false) then (x6.2 == x8) else false) then (x7.2 == x9) else false)
  partial_fixpoint
theorem law12_TypesProducts_l1_grp (t : ApiType) (u : ApiType) (size : Int) (x4 : Int × Int) (x5 : Int × Int) : (∀ (power : Int) (v67 : Int) (res : Bool), law12_TypesProducts_l1 t u size x4 x5 power v67 = some res → ALoop (Fx.mk C 113 0) (lo (bk (sr (sl (sr (sr (sr (sr (sr (sr (sr (sr (sr (sr (bodyOf Tryd.f5))))))))))))))) (mkEnv [(8, .d (.int .i64 x4.1)), (10, .d (.int .i64 x5.1)), (12, .ref 2 0), (13, .ref 3 0), (14, .d (.int .i64 power)), (66, .d (.int .i64 (IntKind.i64.wrap (1 + (Int.tmod (IntKind.i64.wrap size) 4))))), (67, .d (.int .i64 v67))]) [.dead, .dead, .row [.d (.int .i64 2), .d (.int .i64 0), .d (.int .i64 0), .d (.int .i64 (IntKind.i64.wrap (1 + (Int.tmod (IntKind.i64.wrap size) 4)))), .d (.str []), .d (.sl (estr.rows [])), .full (ApiType.rows [t])] 27, .row [.d (.int .i64 3), .d (.int .i64 0), .d (.int .i64 0), .d (.int .i64 0), .d (.str []), .full (estr.rows [[120], [121]]), .full (ApiType.rows [t, u])] 27] (Am.InBlock 0 (Am.Then (Fx.mk C 113 0) (sr (sr (sr (sr (sr (sr (sr (sr (sr (sr (sr (bodyOf Tryd.f5)))))))))))) (Am.Ends (Fx.mk C 113 0) Tryd.f5.results.toList (fun x H' => H' = [] ∧ x = .d (.bool res)))))) := by
  refine law12_TypesProducts_l1.partial_correctness t
    u
    size
    x4
    x5
    (fun power v67 res => ALoop (Fx.mk C 113 0) (lo (bk (sr (sl (sr (sr (sr (sr (sr (sr (sr (sr (sr (sr (bodyOf Tryd.f5))))))))))))))) (mkEnv [(8, .d (.int .i64 x4.1)), (10, .d (.int .i64 x5.1)), (12, .ref 2 0), (13, .ref 3 0), (14, .d (.int .i64 power)), (66, .d (.int .i64 (IntKind.i64.wrap (1 + (Int.tmod (IntKind.i64.wrap size) 4))))), (67, .d (.int .i64 v67))]) [.dead, .dead, .row [.d (.int .i64 2), .d (.int .i64 0), .d (.int .i64 0), .d (.int .i64 (IntKind.i64.wrap (1 + (Int.tmod (IntKind.i64.wrap size) 4)))), .d (.str []), .d (.sl (estr.rows [])), .full (ApiType.rows [t])] 27, .row [.d (.int .i64 3), .d (.int .i64 0), .d (.int .i64 0), .d (.int .i64 0), .d (.str []), .full (estr.rows [[120], [121]]), .full (ApiType.rows [t, u])] 27] (Am.InBlock 0 (Am.Then (Fx.mk C 113 0) (sr (sr (sr (sr (sr (sr (sr (sr (sr (sr (sr (bodyOf Tryd.f5)))))))))))) (Am.Ends (Fx.mk C 113 0) Tryd.f5.results.toList (fun x H' => H' = [] ∧ x = .d (.bool res)))))) ?_
  · intro g0 ih0 power v67 res hh
    refine ALoop.unroll ?_
    refine AEx.seq ?_
    refine AEx.regionN rfl rfl ?_
    refine AOps.q hC rfl trivial ?_
    refine AOps.nil ?_
    refine AEx.seq ?_
    refine AEx.cond rfl (fun hb => ?_) (fun hb => ?_)
    · replace hh := if_t hb hh
      refine AEx.skip ?_
      refine AEx.seq ?_
      refine AEx.block ?_
      refine AEx.regionN rfl rfl ?_
      iterate 4 refine AOps.q hC rfl trivial ?_
      refine AOps.nil ?_
      refine AEx.regionN rfl rfl ?_
      iterate 2 refine AOps.q hC rfl trivial ?_
      refine AOps.nil ?_
      refine ALoop.wk ?_ (ih0 _ _ _ hh)
      exact ⟨⟨⟨.rfl, rfl⟩, ⟨⟨.rfl, rfl⟩, ⟨⟨.rfl, rfl⟩, ⟨⟨.rfl, rfl⟩, ⟨⟨.rfl, rfl⟩, ⟨⟨.rfl, rfl⟩, ⟨⟨.rfl, rfl⟩, trivial⟩⟩⟩⟩⟩⟩⟩, ⟨trivial, ⟨trivial, ⟨⟨rfl, .refl _, rfl⟩, ⟨⟨rfl, .refl _, rfl⟩, trivial⟩⟩⟩⟩, rfl⟩
    · replace hh := if_f hb hh
      refine AEx.exit ?_
      refine AEx.seq ?_
      refine AEx.regionN rfl rfl ?_
      refine AOps.q hC rfl trivial ?_
      obtain ⟨x6, hx6, hh⟩ := bind_some hh
      refine AOps.cl rfl (types_Values_ok hx6) ⟨(.aggL ⟨.rfl, ⟨.rfl, ⟨.rfl, ⟨.rfl, ⟨.rfl, ⟨.rfl, ⟨.full, trivial⟩⟩⟩⟩⟩⟩⟩), trivial⟩ rfl ?_
      iterate 5 refine AOps.q hC rfl trivial ?_
      refine AOps.nil ?_
      refine AEx.seq ?_
      refine AEx.regionN rfl rfl ?_
      refine AOps.q hC rfl trivial ?_
      obtain ⟨x7, hx7, hh⟩ := bind_some hh
      refine AOps.cl rfl (types_Values_ok hx7) ⟨(.aggL ⟨.rfl, ⟨.rfl, ⟨.rfl, ⟨.rfl, ⟨.rfl, ⟨.full, ⟨.full, trivial⟩⟩⟩⟩⟩⟩⟩), trivial⟩ rfl ?_
      iterate 5 refine AOps.q hC rfl trivial ?_
      refine AOps.nil ?_
      refine AEx.seq ?_
      refine AEx.regionG 31 rfl ?_
      refine AG.q hC rfl ?_ ?_
      · intro hg; refine And.intro ?_ ?_ <;> repeat' (first | exact True.intro | exact hg | exact and_l hg | exact and_l (and_l hg) | refine And.intro ?_ ?_)
      refine AG.q hC rfl ?_ ?_
      · intro hg; refine And.intro ?_ ?_ <;> repeat' (first | exact True.intro | exact hg | exact and_l hg | exact and_l (and_l hg) | refine And.intro ?_ ?_)
      refine AG.q hC rfl ?_ ?_
      · intro hg; refine And.intro ?_ ?_ <;> repeat' (first | exact True.intro | exact hg | exact and_l hg | exact and_l (and_l hg) | refine And.intro ?_ ?_)
      refine AG.q hC rfl ?_ ?_
      · intro hg; refine And.intro ?_ ?_ <;> repeat' (first | exact True.intro | exact hg | exact and_l hg | exact and_l (and_l hg) | refine And.intro ?_ ?_)
      refine AG.q hC rfl ?_ ?_
      · intro hg; refine And.intro ?_ ?_ <;> repeat' (first | exact True.intro | exact hg | exact and_l hg | exact and_l (and_l hg) | refine And.intro ?_ ?_)
      refine AG.q hC rfl ?_ ?_
      · intro hg; refine And.intro ?_ ?_ <;> repeat' (first | exact True.intro | exact hg | exact and_l hg | exact and_l (and_l hg) | refine And.intro ?_ ?_)
      refine AG.p hC rfl ?_ ?_
      · intro hg; refine And.intro ?_ (And.intro ?_ ?_) <;> first | exact True.intro | exact fun _ => True.intro | exact And.intro hg True.intro | exact fun h' => And.intro (wb_f h') True.intro | exact fun h' => And.intro (wb_t h') True.intro | exact fun h' => And.intro (and_f hg h') True.intro | exact fun h' => And.intro (and_t hg h') True.intro | exact And.intro (and_l hg) True.intro
      refine AG.q hC rfl ?_ ?_
      · intro hg; refine And.intro ?_ ?_ <;> repeat' (first | exact True.intro | exact hg | exact and_l hg | exact and_l (and_l hg) | refine And.intro ?_ ?_)
      refine AG.q hC rfl ?_ ?_
      · intro hg; refine And.intro ?_ ?_ <;> repeat' (first | exact True.intro | exact hg | exact and_l hg | exact and_l (and_l hg) | refine And.intro ?_ ?_)
      refine AG.q hC rfl ?_ ?_
      · intro hg; refine And.intro ?_ ?_ <;> repeat' (first | exact True.intro | exact hg | exact and_l hg | exact and_l (and_l hg) | refine And.intro ?_ ?_)
      refine AG.q hC rfl ?_ ?_
      · intro hg; refine And.intro ?_ ?_ <;> repeat' (first | exact True.intro | exact hg | exact and_l hg | exact and_l (and_l hg) | refine And.intro ?_ ?_)
      refine AG.q hC rfl ?_ ?_
      · intro hg; refine And.intro ?_ ?_ <;> repeat' (first | exact True.intro | exact hg | exact and_l hg | exact and_l (and_l hg) | refine And.intro ?_ ?_)
      refine AG.q hC rfl ?_ ?_
      · intro hg; refine And.intro ?_ ?_ <;> repeat' (first | exact True.intro | exact hg | exact and_l hg | exact and_l (and_l hg) | refine And.intro ?_ ?_)
      refine AG.q hC rfl ?_ ?_
      · intro hg; refine And.intro ?_ ?_ <;> repeat' (first | exact True.intro | exact hg | exact and_l hg | exact and_l (and_l hg) | refine And.intro ?_ ?_)
      refine AG.q hC rfl ?_ ?_
      · intro hg; refine And.intro ?_ ?_ <;> repeat' (first | exact True.intro | exact hg | exact and_l hg | exact and_l (and_l hg) | refine And.intro ?_ ?_)
      refine AG.q hC rfl ?_ ?_
      · intro hg; refine And.intro ?_ ?_ <;> repeat' (first | exact True.intro | exact hg | exact and_l hg | exact and_l (and_l hg) | refine And.intro ?_ ?_)
      refine AG.p hC rfl ?_ ?_
      · intro hg; refine And.intro ?_ (And.intro ?_ ?_) <;> first | exact True.intro | exact fun _ => True.intro | exact And.intro hg True.intro | exact fun h' => And.intro (wb_f h') True.intro | exact fun h' => And.intro (wb_t h') True.intro | exact fun h' => And.intro (and_f hg h') True.intro | exact fun h' => And.intro (and_t hg h') True.intro | exact And.intro (and_l hg) True.intro
      refine AG.p hC rfl ?_ ?_
      · intro hg; refine And.intro ?_ (And.intro ?_ ?_) <;> first | exact True.intro | exact fun _ => True.intro | exact And.intro hg True.intro | exact fun h' => And.intro (wb_f h') True.intro | exact fun h' => And.intro (wb_t h') True.intro | exact fun h' => And.intro (and_f hg h') True.intro | exact fun h' => And.intro (and_t hg h') True.intro | exact And.intro (and_l hg) True.intro
      refine AG.q hC rfl ?_ ?_
      · intro hg; refine And.intro ?_ ?_ <;> repeat' (first | exact True.intro | exact hg | exact and_l hg | exact and_l (and_l hg) | refine And.intro ?_ ?_)
      refine AG.q hC rfl ?_ ?_
      · intro hg; refine And.intro ?_ ?_ <;> repeat' (first | exact True.intro | exact hg | exact and_l hg | exact and_l (and_l hg) | refine And.intro ?_ ?_)
      refine AG.q hC rfl ?_ ?_
      · intro hg; refine And.intro ?_ ?_ <;> repeat' (first | exact True.intro | exact hg | exact and_l hg | exact and_l (and_l hg) | refine And.intro ?_ ?_)
      obtain ⟨x8, hx8, hh⟩ := bind_some hh
      refine AG.cl rfl (fun hw => types_Check_ok (if_t hw hx8)) ⟨(.aggL ⟨.rfl, ⟨.rfl, ⟨.rfl, ⟨.rfl, ⟨.rfl, ⟨.rfl, ⟨.full, trivial⟩⟩⟩⟩⟩⟩⟩), trivial⟩ rfl (by intro hg; repeat' (first | exact True.intro | exact hg | exact and_l hg | exact and_l (and_l hg) | refine And.intro ?_ ?_)) ?_
      refine AG.q hC rfl ?_ ?_
      · intro hg; refine And.intro ?_ ?_ <;> repeat' (first | exact True.intro | exact hg | exact and_l hg | exact and_l (and_l hg) | refine And.intro ?_ ?_)
      refine AG.p hC rfl ?_ ?_
      · intro hg; refine And.intro ?_ (And.intro ?_ ?_) <;> first | exact True.intro | exact fun _ => True.intro | exact And.intro hg True.intro | exact fun h' => And.intro (wb_f h') True.intro | exact fun h' => And.intro (wb_t h') True.intro | exact fun h' => And.intro (and_f hg h') True.intro | exact fun h' => And.intro (and_t hg h') True.intro | exact And.intro (and_l hg) True.intro
      refine AG.q hC rfl ?_ ?_
      · intro hg; refine And.intro ?_ ?_ <;> repeat' (first | exact True.intro | exact hg | exact and_l hg | exact and_l (and_l hg) | refine And.intro ?_ ?_)
      refine AG.q hC rfl ?_ ?_
      · intro hg; refine And.intro ?_ ?_ <;> repeat' (first | exact True.intro | exact hg | exact and_l hg | exact and_l (and_l hg) | refine And.intro ?_ ?_)
      refine AG.q hC rfl ?_ ?_
      · intro hg; refine And.intro ?_ ?_ <;> repeat' (first | exact True.intro | exact hg | exact and_l hg | exact and_l (and_l hg) | refine And.intro ?_ ?_)
      obtain ⟨x9, hx9, hh⟩ := bind_some hh
      refine AG.cl rfl (fun hw => types_Check_ok (if_t hw hx9)) ⟨(.aggL ⟨.rfl, ⟨.rfl, ⟨.rfl, ⟨.rfl, ⟨.rfl, ⟨.full, ⟨.full, trivial⟩⟩⟩⟩⟩⟩⟩), trivial⟩ rfl (by intro hg; repeat' (first | exact True.intro | exact hg | exact and_l hg | exact and_l (and_l hg) | refine And.intro ?_ ?_)) ?_
      refine AG.q hC rfl ?_ ?_
      · intro hg; refine And.intro ?_ ?_ <;> repeat' (first | exact True.intro | exact hg | exact and_l hg | exact and_l (and_l hg) | refine And.intro ?_ ?_)
      refine AG.p hC rfl ?_ ?_
      · intro hg; refine And.intro ?_ (And.intro ?_ ?_) <;> first | exact True.intro | exact fun _ => True.intro | exact And.intro hg True.intro | exact fun h' => And.intro (wb_f h') True.intro | exact fun h' => And.intro (wb_t h') True.intro | exact fun h' => And.intro (and_f hg h') True.intro | exact fun h' => And.intro (and_t hg h') True.intro | exact And.intro (and_l hg) True.intro
      refine AG.q hC rfl ?_ ?_
      · intro hg; refine And.intro ?_ ?_ <;> repeat' (first | exact True.intro | exact hg | exact and_l hg | exact and_l (and_l hg) | refine And.intro ?_ ?_)
      refine AG.nil ?_
      refine AOps.nil ?_
      refine AEx.ret ?_
      obtain rfl := Option.some.inj hh
      exact ⟨_, _, [], rfl, .rfl, trivial, rfl, rfl, rfl, rfl⟩
theorem law12_TypesProducts_l1_ok {t : ApiType} {u : ApiType} {size : Int} {x4 : Int × Int} {x5 : Int × Int} {power : Int} {v67 : Int} {res : Bool} (hh : law12_TypesProducts_l1 t u size x4 x5 power v67 = some res) : ALoop (Fx.mk C 113 0) (lo (bk (sr (sl (sr (sr (sr (sr (sr (sr (sr (sr (sr (sr (bodyOf Tryd.f5))))))))))))))) (mkEnv [(8, .d (.int .i64 x4.1)), (10, .d (.int .i64 x5.1)), (12, .ref 2 0), (13, .ref 3 0), (14, .d (.int .i64 power)), (66, .d (.int .i64 (IntKind.i64.wrap (1 + (Int.tmod (IntKind.i64.wrap size) 4))))), (67, .d (.int .i64 v67))]) [.dead, .dead, .row [.d (.int .i64 2), .d (.int .i64 0), .d (.int .i64 0), .d (.int .i64 (IntKind.i64.wrap (1 + (Int.tmod (IntKind.i64.wrap size) 4)))), .d (.str []), .d (.sl (estr.rows [])), .full (ApiType.rows [t])] 27, .row [.d (.int .i64 3), .d (.int .i64 0), .d (.int .i64 0), .d (.int .i64 0), .d (.str []), .full (estr.rows [[120], [121]]), .full (ApiType.rows [t, u])] 27] (Am.InBlock 0 (Am.Then (Fx.mk C 113 0) (sr (sr (sr (sr (sr (sr (sr (sr (sr (sr (sr (bodyOf Tryd.f5)))))))))))) (Am.Ends (Fx.mk C 113 0) Tryd.f5.results.toList (fun x H' => H' = [] ∧ x = .d (.bool res))))) := (law12_TypesProducts_l1_grp t u size x4 x5) _ _ _ hh
def law12_TypesProducts (t : ApiType) (u : ApiType) (size : Int) : Option Bool :=
  law12_known >>= fun x1 =>
  if (!x1) = true then
    some false
  else
    law12_few t >>= fun x2 =>
    (if (!(!x2)) = true then law12_few u else some default) >>= fun x3 =>
    if (bif (!x2) then true else (!x3)) = true then
      some true
    else
      types_Values t >>= fun x4 =>
      types_Values u >>= fun x5 =>
      if (bif (bif (bif (x4.2 != 0) then true else (x5.2 != 0)) then true else (decide (x4.1 > 1000))) then true else (decide (x5.1 > 1000))) = true then
        some true
      else
        law12_TypesProducts_l1 t u size x4 x5 1 0
theorem law12_TypesProducts_ok {t : ApiType} {u : ApiType} {size : Int} {res : Bool} (hh : law12_TypesProducts t u size = some res) : ACall C 5 [.agg (ApiType.cells t), .agg (ApiType.cells u), .d (.int .u8 size)] [] (fun x H' => H' = [] ∧ x = .d (.bool res)) := by
  unfold law12_TypesProducts at hh
  refine ACall.intro hC Tryd.func5 rfl rfl rfl ?_
  refine AEx.seq ?_
  refine AEx.regionN rfl rfl ?_
  refine AOps.n hC rfl ?_
  refine AOps.n hC rfl ?_
  refine AOps.q hC rfl trivial ?_
  refine AOps.nil ?_
  refine AEx.seq ?_
  refine AEx.seq ?_
  refine AEx.regionN rfl rfl ?_
  obtain ⟨x1, hx1, hh⟩ := bind_some hh
  refine AOps.c rfl rfl (law12_known_ok hx1) ?_
  refine AOps.q hC rfl trivial ?_
  refine AOps.nil ?_
  refine AEx.cond rfl (fun hb => ?_) (fun hb => ?_)
  · replace hh := if_t hb hh
    refine AEx.seq ?_
    refine AEx.regionN rfl rfl ?_
    refine AOps.q hC rfl trivial ?_
    refine AOps.nil ?_
    refine AEx.ret ?_
    obtain rfl := Option.some.inj hh
    exact ⟨_, _, [], rfl, .rfl, trivial, rfl, rfl, rfl, rfl⟩
  · replace hh := if_f hb hh
    refine AEx.skip ?_
    refine AEx.seq ?_
    refine AEx.seq ?_
    refine AEx.regionG 8 rfl ?_
    refine AG.q hC rfl ?_ ?_
    · intro hg; refine And.intro ?_ ?_ <;> repeat' (first | exact True.intro | exact hg | exact and_l hg | exact and_l (and_l hg) | refine And.intro ?_ ?_)
    obtain ⟨x2, hx2, hh⟩ := bind_some hh
    refine AG.c rfl rfl (by intro hg; repeat' (first | exact True.intro | exact hg | exact and_l hg | exact and_l (and_l hg) | refine And.intro ?_ ?_)) (fun _ => law12_few_ok hx2) ?_
    refine AG.q hC rfl ?_ ?_
    · intro hg; refine And.intro ?_ ?_ <;> repeat' (first | exact True.intro | exact hg | exact and_l hg | exact and_l (and_l hg) | refine And.intro ?_ ?_)
    refine AG.q hC rfl ?_ ?_
    · intro hg; refine And.intro ?_ ?_ <;> repeat' (first | exact True.intro | exact hg | exact and_l hg | exact and_l (and_l hg) | refine And.intro ?_ ?_)
    refine AG.q hC rfl ?_ ?_
    · intro hg; refine And.intro ?_ ?_ <;> repeat' (first | exact True.intro | exact hg | exact and_l hg | exact and_l (and_l hg) | refine And.intro ?_ ?_)
    obtain ⟨x3, hx3, hh⟩ := bind_some hh
    refine AG.c rfl rfl (by intro hg; repeat' (first | exact True.intro | exact hg | exact and_l hg | exact and_l (and_l hg) | refine And.intro ?_ ?_)) (fun hw => law12_few_ok (if_t hw hx3)) ?_
    refine AG.q hC rfl ?_ ?_
    · intro hg; refine And.intro ?_ ?_ <;> repeat' (first | exact True.intro | exact hg | exact and_l hg | exact and_l (and_l hg) | refine And.intro ?_ ?_)
    refine AG.p hC rfl ?_ ?_
    · intro hg; refine And.intro ?_ (And.intro ?_ ?_) <;> first | exact True.intro | exact fun _ => True.intro | exact And.intro hg True.intro | exact fun h' => And.intro (wb_f h') True.intro | exact fun h' => And.intro (wb_t h') True.intro | exact fun h' => And.intro (and_f hg h') True.intro | exact fun h' => And.intro (and_t hg h') True.intro | exact And.intro (and_l hg) True.intro
    refine AG.nil ?_
    refine AOps.nil ?_
    refine AEx.cond rfl (fun hb => ?_) (fun hb => ?_)
    · replace hh := if_t hb hh
      refine AEx.seq ?_
      refine AEx.regionN rfl rfl ?_
      refine AOps.q hC rfl trivial ?_
      refine AOps.nil ?_
      refine AEx.ret ?_
      obtain rfl := Option.some.inj hh
      exact ⟨_, _, [], rfl, .rfl, trivial, rfl, rfl, rfl, rfl⟩
    · replace hh := if_f hb hh
      refine AEx.skip ?_
      refine AEx.seq ?_
      refine AEx.regionN rfl rfl ?_
      iterate 2 refine AOps.q hC rfl trivial ?_
      refine AOps.q hC rfl (by decide) ?_
      iterate 2 refine AOps.q hC rfl trivial ?_
      refine AOps.nil ?_
      refine AEx.seq ?_
      refine AEx.regionN rfl rfl ?_
      refine AOps.q hC rfl trivial ?_
      obtain ⟨x4, hx4, hh⟩ := bind_some hh
      refine AOps.c rfl rfl (types_Values_ok hx4) ?_
      iterate 5 refine AOps.q hC rfl trivial ?_
      refine AOps.nil ?_
      refine AEx.seq ?_
      refine AEx.regionN rfl rfl ?_
      refine AOps.q hC rfl trivial ?_
      obtain ⟨x5, hx5, hh⟩ := bind_some hh
      refine AOps.c rfl rfl (types_Values_ok hx5) ?_
      iterate 5 refine AOps.q hC rfl trivial ?_
      refine AOps.nil ?_
      refine AEx.seq ?_
      refine AEx.seq ?_
      refine AEx.regionG 14 rfl ?_
      refine AG.q hC rfl ?_ ?_
      · intro hg; refine And.intro ?_ ?_ <;> repeat' (first | exact True.intro | exact hg | exact and_l hg | exact and_l (and_l hg) | refine And.intro ?_ ?_)
      refine AG.q hC rfl ?_ ?_
      · intro hg; refine And.intro ?_ ?_ <;> repeat' (first | exact True.intro | exact hg | exact and_l hg | exact and_l (and_l hg) | refine And.intro ?_ ?_)
      refine AG.q hC rfl ?_ ?_
      · intro hg; refine And.intro ?_ ?_ <;> repeat' (first | exact True.intro | exact hg | exact and_l hg | exact and_l (and_l hg) | refine And.intro ?_ ?_)
      refine AG.q hC rfl ?_ ?_
      · intro hg; refine And.intro ?_ ?_ <;> repeat' (first | exact True.intro | exact hg | exact and_l hg | exact and_l (and_l hg) | refine And.intro ?_ ?_)
      refine AG.q hC rfl ?_ ?_
      · intro hg; refine And.intro ?_ ?_ <;> repeat' (first | exact True.intro | exact hg | exact and_l hg | exact and_l (and_l hg) | refine And.intro ?_ ?_)
      refine AG.p hC rfl ?_ ?_
      · intro hg; refine And.intro ?_ (And.intro ?_ ?_) <;> first | exact True.intro | exact fun _ => True.intro | exact And.intro hg True.intro | exact fun h' => And.intro (wb_f h') True.intro | exact fun h' => And.intro (wb_t h') True.intro | exact fun h' => And.intro (and_f hg h') True.intro | exact fun h' => And.intro (and_t hg h') True.intro | exact And.intro (and_l hg) True.intro
      refine AG.q hC rfl ?_ ?_
      · intro hg; refine And.intro ?_ ?_ <;> repeat' (first | exact True.intro | exact hg | exact and_l hg | exact and_l (and_l hg) | refine And.intro ?_ ?_)
      refine AG.q hC rfl ?_ ?_
      · intro hg; refine And.intro ?_ ?_ <;> repeat' (first | exact True.intro | exact hg | exact and_l hg | exact and_l (and_l hg) | refine And.intro ?_ ?_)
      refine AG.q hC rfl ?_ ?_
      · intro hg; refine And.intro ?_ ?_ <;> repeat' (first | exact True.intro | exact hg | exact and_l hg | exact and_l (and_l hg) | refine And.intro ?_ ?_)
      refine AG.p hC rfl ?_ ?_
      · intro hg; refine And.intro ?_ (And.intro ?_ ?_) <;> first | exact True.intro | exact fun _ => True.intro | exact And.intro hg True.intro | exact fun h' => And.intro (wb_f h') True.intro | exact fun h' => And.intro (wb_t h') True.intro | exact fun h' => And.intro (and_f hg h') True.intro | exact fun h' => And.intro (and_t hg h') True.intro | exact And.intro (and_l hg) True.intro
      refine AG.q hC rfl ?_ ?_
      · intro hg; refine And.intro ?_ ?_ <;> repeat' (first | exact True.intro | exact hg | exact and_l hg | exact and_l (and_l hg) | refine And.intro ?_ ?_)
      refine AG.q hC rfl ?_ ?_
      · intro hg; refine And.intro ?_ ?_ <;> repeat' (first | exact True.intro | exact hg | exact and_l hg | exact and_l (and_l hg) | refine And.intro ?_ ?_)
      refine AG.q hC rfl ?_ ?_
      · intro hg; refine And.intro ?_ ?_ <;> repeat' (first | exact True.intro | exact hg | exact and_l hg | exact and_l (and_l hg) | refine And.intro ?_ ?_)
      refine AG.p hC rfl ?_ ?_
      · intro hg; refine And.intro ?_ (And.intro ?_ ?_) <;> first | exact True.intro | exact fun _ => True.intro | exact And.intro hg True.intro | exact fun h' => And.intro (wb_f h') True.intro | exact fun h' => And.intro (wb_t h') True.intro | exact fun h' => And.intro (and_f hg h') True.intro | exact fun h' => And.intro (and_t hg h') True.intro | exact And.intro (and_l hg) True.intro
      refine AG.nil ?_
      refine AOps.nil ?_
      refine AEx.cond rfl (fun hb => ?_) (fun hb => ?_)
      · replace hh := if_t hb hh
        refine AEx.seq ?_
        refine AEx.regionN rfl rfl ?_
        refine AOps.q hC rfl trivial ?_
        refine AOps.nil ?_
        refine AEx.ret ?_
        obtain rfl := Option.some.inj hh
        exact ⟨_, _, [], rfl, .rfl, trivial, rfl, rfl, rfl, rfl⟩
      · replace hh := if_f hb hh
        refine AEx.skip ?_
        refine AEx.seq ?_
        refine AEx.regionN rfl rfl ?_
        iterate 2 refine AOps.q hC rfl trivial ?_
        refine AOps.be hC rfl (ApiType.rows_map [t]).symm ?_
        refine AOps.q hC rfl trivial ?_
        refine AOps.nf hC rfl ?_
        refine AOps.s hC rfl ?_
        refine AOps.nil ?_
        refine AEx.seq ?_
        refine AEx.regionN rfl rfl ?_
        refine AOps.be hC rfl (estr.rows_map [[120], [121]]).symm ?_
        iterate 2 refine AOps.q hC rfl trivial ?_
        refine AOps.be hC rfl (ApiType.rows_map [t, u]).symm ?_
        refine AOps.q hC rfl trivial ?_
        refine AOps.nf hC rfl ?_
        refine AOps.s hC rfl ?_
        refine AOps.nil ?_
        refine AEx.seq ?_
        refine AEx.regionN rfl rfl ?_
        refine AOps.q hC rfl trivial ?_
        refine AOps.nil ?_
        refine AEx.seq ?_
        refine AEx.seq ?_
        refine AEx.regionN rfl rfl ?_
        iterate 2 refine AOps.q hC rfl trivial ?_
        refine AOps.nil ?_
        refine AEx.block ?_
        refine AEx.ofLoop ?_
        refine ALoop.wk ?_ (law12_TypesProducts_l1_ok hh)
        exact ⟨⟨⟨.rfl, rfl⟩, ⟨⟨.rfl, rfl⟩, ⟨⟨.rfl, rfl⟩, ⟨⟨.rfl, rfl⟩, ⟨⟨.rfl, rfl⟩, ⟨⟨.rfl, rfl⟩, ⟨⟨.rfl, rfl⟩, trivial⟩⟩⟩⟩⟩⟩⟩, ⟨trivial, ⟨trivial, ⟨⟨rfl, .refl _, rfl⟩, ⟨⟨rfl, .refl _, rfl⟩, trivial⟩⟩⟩⟩, rfl⟩
end Go.Proofs.YtonilfkaecbjnaaDoor
