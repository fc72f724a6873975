/- What the functions compute, and that they do: printed by gen.py. -/
import Derived.Test.YtmilgoloagbmpaaGreatDoorDg2
set_option maxRecDepth 100000
set_option maxHeartbeats 4000000
set_option linter.unusedVariables false
namespace Go.Proofs.YtmilgoloagbmpaaGreatDoor
open Go.Am
def syntax_printer_function_l3 (d : ApiDecl) (b12 : Str) (v52 : Int) : Option Str :=
  if (decide (v52 < ((d.Vars).length : Int))) = true then
    idx d.Vars v52 >>= fun x8 =>
    X_WriteString_SyntaxPrinter [9] b12 >>= fun x9 =>
    syntax_printer_variable x8 x9.2 >>= fun x10 =>
    syntax_printer_function_l3 d x10 (IntKind.i64.wrap (v52 + 1))
  else
    syntax_printer_stmts d.Body [9] b12 >>= fun x11 =>
    X_WriteString_SyntaxPrinter [9, 114, 101, 116, 117, 114, 110, 32] x11 >>= fun x12 =>
    syntax_printer_expr d.Value x12.2 >>= fun x13 =>
    X_WriteString_SyntaxPrinter [59, 10, 125, 10] x13 >>= fun x14 =>
    some x14.2
  partial_fixpoint
abbrev syntax_printer_function_l3_m (d : ApiDecl) (b12 : Str) (v52 : Int) (res : Str) : Prop := ALoop (Fx.mk C 80 2) (lo (bk (sr (sl (sr (sr (sr (sr (sr (sr (bodyOf Tryz.f114))))))))))) (mkEnv [(0, .ref 0 0), (3, .ref 2 0), (50, .d (.sl (ApiDecl.rows d.Vars))), (51, .d (.int .i64 ((d.Vars).length : Int))), (52, .d (.int .i64 v52))]) [.bld 1 86, .buf 5 b12, .row (ApiDecl.cells d) 64] (Am.InBlock 2 (Am.Then (Fx.mk C 80 2) (sr (sr (sr (sr (sr (sr (sr (bodyOf Tryz.f114)))))))) (Am.Ends (Fx.mk C 80 2) Tryz.f114.results.toList (fun x H' => H' = [.bld 1 86, .buf 5 res] ∧ x = .tup []))))
theorem syntax_printer_function_l3_grp (d : ApiDecl) : (∀ (b12 : Str) (v52 : Int) (res : Str), syntax_printer_function_l3 d b12 v52 = some res → syntax_printer_function_l3_m d b12 v52 res) := by
  refine syntax_printer_function_l3.partial_correctness d
    (fun b12 v52 res => syntax_printer_function_l3_m d b12 v52 res) ?_
  · intro g0 ih0 b12 v52 res hh
    refine ALoop.unroll ?_
    refine s' rfl rfl (q' rfl (n' (S' ?_)))
    refine ci' rfl hh (fun hh => ?_) (fun hh => ?_)
    · obtain ⟨x8, hx8, hh⟩ := bs' hh
      obtain ⟨x9, hx9, hh⟩ := bs' hh
      obtain ⟨x10, hx10, hh⟩ := bs' hh
      refine sk' (S' (AEx.block (s' rfl rfl (i' rfl (idx_nat hx8) (ApiDecl.idx hx8) rfl (q' rfl (AOps.nf hC rfl (AOps.s hC rfl (n' (s' rfl rfl (q' rfl (q' rfl (q' rfl (AOps.g [0, 1] rfl (X_WriteString_SyntaxPrinter_ok hx9) ⟨.rfl, ⟨.rfl, trivial⟩⟩ rfl ⟨rfl, ⟨rfl, trivial⟩⟩ rfl rfl ?_)))))))))))))
      refine n' (R' rfl rfl (q' rfl (q' rfl (AOps.g [0, 1] rfl (syntax_printer_variable_ok hx10) ⟨.rfl, ⟨.rfl, trivial⟩⟩ rfl ⟨rfl, ⟨rfl, trivial⟩⟩ rfl rfl (n' (R' rfl rfl (q' rfl (q' rfl (n' ?_)))))))))
      refine ALoop.wk ?_ (ih0 _ _ _ hh)
      exact ⟨⟨⟨.rfl, rfl⟩, ⟨⟨.rfl, rfl⟩, ⟨⟨.rfl, rfl⟩, ⟨⟨.rfl, rfl⟩, ⟨⟨.rfl, rfl⟩, trivial⟩⟩⟩⟩⟩, ⟨⟨rfl, Nat.le_of_ble_eq_true rfl⟩, ⟨rfl, ⟨⟨rfl, .refl _, rfl⟩, trivial⟩⟩⟩, rfl⟩
    obtain ⟨x11, hx11, hh⟩ := bs' hh
    obtain ⟨x12, hx12, hh⟩ := bs' hh
    obtain ⟨x13, hx13, hh⟩ := bs' hh
    obtain ⟨x14, hx14, hh⟩ := bs' hh
    refine ex' (s' rfl rfl (q' rfl (q' rfl (q' rfl (AOps.g [0, 1] rfl (syntax_printer_stmts_ok hx11) ⟨.rfl, ⟨.rfl, ⟨.rfl, trivial⟩⟩⟩ rfl ⟨rfl, ⟨rfl, trivial⟩⟩ rfl rfl (n' (s' rfl rfl (q' rfl (q' rfl (q' rfl (AOps.g [0, 1] rfl (X_WriteString_SyntaxPrinter_ok hx12) ⟨.rfl, ⟨.rfl, trivial⟩⟩ rfl ⟨rfl, ⟨rfl, trivial⟩⟩ rfl rfl (n' (s' rfl rfl ?_)))))))))))))
    refine q' rfl (q' rfl (q' rfl (AOps.g [0, 1] rfl (syntax_printer_expr_ok hx13) ⟨.rfl, ⟨.rfl, trivial⟩⟩ rfl ⟨rfl, ⟨rfl, trivial⟩⟩ rfl rfl (n' (R' rfl rfl (q' rfl (q' rfl (q' rfl (AOps.g [0, 1] rfl (X_WriteString_SyntaxPrinter_ok hx14) ⟨.rfl, ⟨.rfl, trivial⟩⟩ rfl ⟨rfl, ⟨rfl, trivial⟩⟩ rfl rfl (n' ?_))))))))))
    obtain rfl := oi' hh
    exact ⟨_, _, [.bld 1 86, .buf 5 x14.2], rfl, .rfl, ⟨⟨rfl, Nat.le_of_ble_eq_true rfl⟩, ⟨rfl, trivial⟩⟩, rfl, rfl, rfl, rfl⟩
theorem syntax_printer_function_l3_ok {d : ApiDecl} {b12 : Str} {v52 : Int} {res : Str} (hh : syntax_printer_function_l3 d b12 v52 = some res) : syntax_printer_function_l3_m d b12 v52 res := (syntax_printer_function_l3_grp d) _ _ _ hh
mutual
def syntax_printer_function_l1 (d : ApiDecl) (b1 : Str) (v19 : Int) : Option Str :=
  if (decide (v19 < ((d.Params).length : Int))) = true then
    idx d.Params v19 >>= fun x2 =>
    if (decide (v19 > 0)) = true then
      X_WriteString_SyntaxPrinter [44, 32] b1 >>= fun x4 =>
      syntax_printer_function_j2 d x4.2 x2 v19
    else
      syntax_printer_function_j2 d b1 x2 v19
  else
    X_WriteString_SyntaxPrinter [41, 58, 32] b1 >>= fun x5 =>
    syntax_printer_typ d.TypeV x5.2 >>= fun x6 =>
    X_WriteString_SyntaxPrinter [32, 123, 10] x6 >>= fun x7 =>
    syntax_printer_function_l3 d x7.2 0
  partial_fixpoint
def syntax_printer_function_j2 (d : ApiDecl) (b11 : Str) (x2 : ApiDecl) (v191 : Int) : Option Str :=
  syntax_printer_named x2.Name x2.TypeV b11 >>= fun x3 =>
  syntax_printer_function_l1 d x3 (IntKind.i64.wrap (v191 + 1))
  partial_fixpoint
end
abbrev syntax_printer_function_l1_m (d : ApiDecl) (b1 : Str) (v19 : Int) (res : Str) : Prop := ALoop (Fx.mk C 80 2) (lo (bk (sr (sl (sr (sr (bodyOf Tryz.f114))))))) (mkEnv [(0, .ref 0 0), (3, .ref 2 0), (17, .d (.sl (ApiDecl.rows d.Params))), (18, .d (.int .i64 ((d.Params).length : Int))), (19, .d (.int .i64 v19))]) [.bld 1 86, .buf 5 b1, .row (ApiDecl.cells d) 64] (Am.InBlock 0 (Am.Then (Fx.mk C 80 2) (sr (sr (sr (bodyOf Tryz.f114)))) (Am.Ends (Fx.mk C 80 2) Tryz.f114.results.toList (fun x H' => H' = [.bld 1 86, .buf 5 res] ∧ x = .tup []))))
abbrev syntax_printer_function_j2_m (d : ApiDecl) (b11 : Str) (x2 : ApiDecl) (v191 : Int) (res : Str) : Prop := AEx (Fx.mk C 80 2) (sr (sr (bk (sl (sr (sr (lo (bk (sr (sl (sr (sr (bodyOf Tryz.f114))))))))))))) (mkEnv [(0, .ref 0 0), (3, .ref 2 0), (5, .ref 3 0), (17, .d (.sl (ApiDecl.rows d.Params))), (18, .d (.int .i64 ((d.Params).length : Int))), (19, .d (.int .i64 v191))]) [.bld 1 86, .buf 5 b11, .row (ApiDecl.cells d) 64, .row (ApiDecl.cells x2) 64] (Am.InBlock 1 (Am.Then (Fx.mk C 80 2) (sr (sr (sr (lo (bk (sr (sl (sr (sr (bodyOf Tryz.f114)))))))))) (Am.Again (Fx.mk C 80 2) (lo (bk (sr (sl (sr (sr (bodyOf Tryz.f114))))))) (Am.InBlock 0 (Am.Then (Fx.mk C 80 2) (sr (sr (sr (bodyOf Tryz.f114)))) (Am.Ends (Fx.mk C 80 2) Tryz.f114.results.toList (fun x H' => H' = [.bld 1 86, .buf 5 res] ∧ x = .tup [])))))))
theorem syntax_printer_function_l1_grp (d : ApiDecl) : (∀ (b1 : Str) (v19 : Int) (res : Str), syntax_printer_function_l1 d b1 v19 = some res → syntax_printer_function_l1_m d b1 v19 res) ∧
    (∀ (b11 : Str) (x2 : ApiDecl) (v191 : Int) (res : Str), syntax_printer_function_j2 d b11 x2 v191 = some res → syntax_printer_function_j2_m d b11 x2 v191 res) := by
  refine syntax_printer_function_l1.mutual_partial_correctness d
    (fun b1 v19 res => syntax_printer_function_l1_m d b1 v19 res)
    (fun b11 x2 v191 res => syntax_printer_function_j2_m d b11 x2 v191 res) ?_ ?_
  · intro g1 ih1 b1 v19 res hh
    refine ALoop.unroll ?_
    refine s' rfl rfl (q' rfl (n' (S' ?_)))
    refine ci' rfl hh (fun hh => ?_) (fun hh => ?_)
    · obtain ⟨x2, hx2, hh⟩ := bs' hh
      refine sk' (S' (AEx.block (s' rfl rfl (q' rfl (i' rfl (idx_nat hx2) (ApiDecl.idx hx2) rfl (q' rfl (AOps.nf hC rfl (q' rfl (AOps.s hC rfl (n' (S' (s' rfl rfl (q' rfl ?_)))))))))))))
      refine q' rfl (n' ?_)
      refine ci' rfl hh (fun hh => ?_) (fun hh => ?_)
      · obtain ⟨x4, hx4, hh⟩ := bs' hh
        refine R' rfl rfl (q' rfl (q' rfl (q' rfl (AOps.g [0, 1] rfl (X_WriteString_SyntaxPrinter_ok hx4) ⟨.rfl, ⟨.rfl, trivial⟩⟩ rfl ⟨rfl, ⟨rfl, trivial⟩⟩ rfl rfl (n' ?_)))))
        refine AEx.wk ?_ (ih1 _ _ _ _ hh)
        exact ⟨⟨⟨.rfl, rfl⟩, ⟨⟨.rfl, rfl⟩, ⟨⟨.rfl, rfl⟩, ⟨⟨.rfl, rfl⟩, ⟨⟨.rfl, rfl⟩, ⟨⟨.rfl, rfl⟩, trivial⟩⟩⟩⟩⟩⟩, ⟨⟨rfl, Nat.le_of_ble_eq_true rfl⟩, ⟨rfl, ⟨⟨rfl, .refl _, rfl⟩, ⟨⟨rfl, .refl _, rfl⟩, trivial⟩⟩⟩⟩, rfl⟩
      refine sk' ?_
      refine AEx.wk ?_ (ih1 _ _ _ _ hh)
      exact ⟨⟨⟨.rfl, rfl⟩, ⟨⟨.rfl, rfl⟩, ⟨⟨.rfl, rfl⟩, ⟨⟨.rfl, rfl⟩, ⟨⟨.rfl, rfl⟩, ⟨⟨.rfl, rfl⟩, trivial⟩⟩⟩⟩⟩⟩, ⟨⟨rfl, Nat.le_of_ble_eq_true rfl⟩, ⟨rfl, ⟨⟨rfl, .refl _, rfl⟩, ⟨⟨rfl, .refl _, rfl⟩, trivial⟩⟩⟩⟩, rfl⟩
    obtain ⟨x5, hx5, hh⟩ := bs' hh
    obtain ⟨x6, hx6, hh⟩ := bs' hh
    obtain ⟨x7, hx7, hh⟩ := bs' hh
    refine ex' (s' rfl rfl (q' rfl (q' rfl (q' rfl (AOps.g [0, 1] rfl (X_WriteString_SyntaxPrinter_ok hx5) ⟨.rfl, ⟨.rfl, trivial⟩⟩ rfl ⟨rfl, ⟨rfl, trivial⟩⟩ rfl rfl (n' (s' rfl rfl (q' rfl (q' rfl (q' rfl (AOps.g [0, 1] rfl (syntax_printer_typ_ok hx6) ⟨.rfl, ⟨.rfl, trivial⟩⟩ rfl ⟨rfl, ⟨rfl, trivial⟩⟩ rfl rfl (n' (s' rfl rfl ?_)))))))))))))
    refine q' rfl (q' rfl (q' rfl (AOps.g [0, 1] rfl (X_WriteString_SyntaxPrinter_ok hx7) ⟨.rfl, ⟨.rfl, trivial⟩⟩ rfl ⟨rfl, ⟨rfl, trivial⟩⟩ rfl rfl (n' (S' (s' rfl rfl (q' rfl (q' rfl (qe' rfl trivial (ApiDecl.lenA _) (q' rfl (n' (AEx.block ?_))))))))))))
    refine AEx.ofLoop ?_
    refine ALoop.wk ?_ (syntax_printer_function_l3_ok hh)
    exact ⟨⟨⟨.rfl, rfl⟩, ⟨⟨.rfl, rfl⟩, ⟨⟨.rfl, rfl⟩, ⟨⟨.rfl, rfl⟩, ⟨⟨.rfl, rfl⟩, trivial⟩⟩⟩⟩⟩, ⟨⟨rfl, Nat.le_of_ble_eq_true rfl⟩, ⟨rfl, ⟨⟨rfl, .refl _, rfl⟩, trivial⟩⟩⟩, rfl⟩
  · intro g0 ih0 b11 x2 v191 res hh
    obtain ⟨x3, hx3, hh⟩ := bs' hh
    refine R' rfl rfl (q' rfl (q' rfl (q' rfl (q' rfl (q' rfl (AOps.g [0, 1] rfl (syntax_printer_named_ok hx3) ⟨.rfl, ⟨.rfl, ⟨.rfl, trivial⟩⟩⟩ rfl ⟨rfl, ⟨rfl, trivial⟩⟩ rfl rfl (n' (R' rfl rfl (q' rfl (q' rfl (n' ?_)))))))))))
    refine ALoop.wk ?_ (ih0 _ _ _ hh)
    exact ⟨⟨⟨.rfl, rfl⟩, ⟨⟨.rfl, rfl⟩, ⟨⟨.rfl, rfl⟩, ⟨⟨.rfl, rfl⟩, ⟨⟨.rfl, rfl⟩, trivial⟩⟩⟩⟩⟩, ⟨⟨rfl, Nat.le_of_ble_eq_true rfl⟩, ⟨rfl, ⟨⟨rfl, .refl _, rfl⟩, trivial⟩⟩⟩, rfl⟩
theorem syntax_printer_function_l1_ok {d : ApiDecl} {b1 : Str} {v19 : Int} {res : Str} (hh : syntax_printer_function_l1 d b1 v19 = some res) : syntax_printer_function_l1_m d b1 v19 res := (syntax_printer_function_l1_grp d).1 _ _ _ hh
theorem syntax_printer_function_j2_ok {d : ApiDecl} {b11 : Str} {x2 : ApiDecl} {v191 : Int} {res : Str} (hh : syntax_printer_function_j2 d b11 x2 v191 = some res) : syntax_printer_function_j2_m d b11 x2 v191 res := (syntax_printer_function_l1_grp d).2 _ _ _ _ hh
def syntax_printer_function (d : ApiDecl) (b : Str) : Option Str :=
  if (decide (5 + d.Name.length ≤ maxLen)) = true then
    if (decide (([102, 117, 110, 99, 32] ++ d.Name).length + 1 ≤ maxLen)) = true then
      X_WriteString_SyntaxPrinter (([102, 117, 110, 99, 32] ++ d.Name) ++ [40]) b >>= fun x1 =>
      syntax_printer_function_l1 d x1.2 0
    else none
  else none
abbrev syntax_printer_function_m (d : ApiDecl) (b : Str) (res : Str) : Prop := ACall C 114 [.ref 0 0, .agg (ApiDecl.cells d)] [.bld 1 86, .buf 5 b] (fun x H' => H' = [.bld 1 86, .buf 5 res] ∧ x = .tup [])
theorem syntax_printer_function_ok {d : ApiDecl} {b : Str} {res : Str} (hh : syntax_printer_function d b = some res) : syntax_printer_function_m d b res := by
  unfold syntax_printer_function at hh
  refine ACall.intro hC Tryz.func114 rfl rfl rfl ?_
  obtain ⟨c17, hh⟩ := asrt_some hh
  obtain ⟨c18, hh⟩ := asrt_some hh
  obtain ⟨x1, hx1, hh⟩ := bs' hh
  refine s' rfl rfl (AOps.n hC rfl (n' (S' (AEx.draw hC 7 rfl rfl rfl (Q' rfl (Q' rfl (Q' rfl (Q' rfl (Q' rfl (AQ.q hC rfl c17 (AQ.q hC rfl c18 (Qn' (AOps.g [0, 1] rfl (X_WriteString_SyntaxPrinter_ok hx1) ⟨.rfl, ⟨.rfl, trivial⟩⟩ rfl ⟨rfl, ⟨rfl, trivial⟩⟩ rfl rfl ?_)))))))))))))
  refine n' (S' (s' rfl rfl (q' rfl (q' rfl (qe' rfl trivial (ApiDecl.lenA _) (q' rfl (n' (AEx.block ?_))))))))
  refine AEx.ofLoop ?_
  refine ALoop.wk ?_ (syntax_printer_function_l1_ok hh)
  exact ⟨⟨⟨.rfl, rfl⟩, ⟨⟨.rfl, rfl⟩, ⟨⟨.rfl, rfl⟩, ⟨⟨.rfl, rfl⟩, ⟨⟨.rfl, rfl⟩, trivial⟩⟩⟩⟩⟩, ⟨⟨rfl, Nat.le_of_ble_eq_true rfl⟩, ⟨rfl, ⟨⟨rfl, .refl _, rfl⟩, trivial⟩⟩⟩, rfl⟩
def syntax_printer_decl (d : ApiDecl) (b : Str) : Option Str :=
  if (d.Kind == 4) = true then
    syntax_printer_variable d b >>= fun x1 =>
    some x1
  else
    if (d.Kind == 6) = true then
      syntax_printer_function d b >>= fun x2 =>
      some x2
    else
      if (d.Kind == 0) = true then
        if (decide (5 + d.Name.length ≤ maxLen)) = true then
          if (decide (([116, 121, 112, 101, 32] ++ d.Name).length + 3 ≤ maxLen)) = true then
            X_WriteString_SyntaxPrinter (([116, 121, 112, 101, 32] ++ d.Name) ++ [32, 61, 32]) b >>= fun x3 =>
            syntax_printer_typ d.TypeV x3.2 >>= fun x4 =>
            X_WriteString_SyntaxPrinter [59, 10] x4 >>= fun x5 =>
            some x5.2
          else none
        else none
      else
        if (d.Kind == 1) = true then
          X_WriteString_SyntaxPrinter [115, 101, 99, 114, 101, 116, 32] b >>= fun x6 =>
          syntax_printer_named d.Name d.TypeV x6.2 >>= fun x7 =>
          X_WriteString_SyntaxPrinter [59, 10] x7 >>= fun x5 =>
          some x5.2
        else
          if (d.Kind == 2) = true then
            X_WriteString_SyntaxPrinter [112, 117, 98, 108, 105, 99, 32] b >>= fun x8 =>
            syntax_printer_named d.Name d.TypeV x8.2 >>= fun x9 =>
            X_WriteString_SyntaxPrinter [59, 10] x9 >>= fun x5 =>
            some x5.2
          else
            if (d.Kind == 3) = true then
              X_WriteString_SyntaxPrinter [114, 97, 110, 100, 111, 109, 32] b >>= fun x10 =>
              syntax_printer_named d.Name d.TypeV x10.2 >>= fun x11 =>
              X_WriteString_SyntaxPrinter [59, 10] x11 >>= fun x5 =>
              some x5.2
            else
              if (d.Kind == 5) = true then
                X_WriteString_SyntaxPrinter [104, 97, 116, 99, 104, 32] b >>= fun x12 =>
                syntax_printer_named d.Name d.TypeV x12.2 >>= fun x13 =>
                X_WriteString_SyntaxPrinter [32, 61, 32] x13 >>= fun x14 =>
                syntax_printer_expr d.Value x14.2 >>= fun x15 =>
                X_WriteString_SyntaxPrinter [59, 10] x15 >>= fun x5 =>
                some x5.2
              else
                X_WriteString_SyntaxPrinter [59, 10] b >>= fun x5 =>
                some x5.2
abbrev syntax_printer_decl_m (d : ApiDecl) (b : Str) (res : Str) : Prop := ACall C 53 [.ref 0 0, .agg (ApiDecl.cells d)] [.bld 1 86, .buf 5 b] (fun x H' => H' = [.bld 1 86, .buf 5 res] ∧ x = .tup [])
theorem syntax_printer_decl_ok {d : ApiDecl} {b : Str} {res : Str} (hh : syntax_printer_decl d b = some res) : syntax_printer_decl_m d b res := by
  unfold syntax_printer_decl at hh
  refine ACall.intro hC Tryz.func53 rfl rfl rfl ?_
  refine s' rfl rfl (AOps.n hC rfl (n' (S' (s' rfl rfl (q' rfl (q' rfl (n' (AEx.block (s' rfl rfl (q' rfl (q' rfl (n' ?_))))))))))))
  refine ci' rfl hh (fun hh => ?_) (fun hh => ?_)
  · obtain ⟨x1, hx1, hh⟩ := bs' hh
    refine s' rfl rfl (q' rfl (q' rfl (AOps.g [0, 1] rfl (syntax_printer_variable_ok hx1) ⟨.rfl, ⟨.rfl, trivial⟩⟩ rfl ⟨rfl, ⟨rfl, trivial⟩⟩ rfl rfl (n' (re' ?_)))))
    obtain rfl := oi' hh
    exact ⟨_, _, [.bld 1 86, .buf 5 x1], rfl, .rfl, ⟨⟨rfl, Nat.le_of_ble_eq_true rfl⟩, ⟨rfl, trivial⟩⟩, rfl, rfl, rfl, rfl⟩
  refine s' rfl rfl (q' rfl (q' rfl (n' ?_)))
  refine ci' rfl hh (fun hh => ?_) (fun hh => ?_)
  · obtain ⟨x2, hx2, hh⟩ := bs' hh
    refine s' rfl rfl (q' rfl (q' rfl (AOps.g [0, 1] rfl (syntax_printer_function_ok hx2) ⟨.rfl, ⟨.rfl, trivial⟩⟩ rfl ⟨rfl, ⟨rfl, trivial⟩⟩ rfl rfl (n' (re' ?_)))))
    obtain rfl := oi' hh
    exact ⟨_, _, [.bld 1 86, .buf 5 x2], rfl, .rfl, ⟨⟨rfl, Nat.le_of_ble_eq_true rfl⟩, ⟨rfl, trivial⟩⟩, rfl, rfl, rfl, rfl⟩
  refine s' rfl rfl (q' rfl (q' rfl (n' ?_)))
  refine ci' rfl hh (fun hh => ?_) (fun hh => ?_)
  · obtain ⟨c7, hh⟩ := asrt_some hh
    obtain ⟨c8, hh⟩ := asrt_some hh
    obtain ⟨x3, hx3, hh⟩ := bs' hh
    obtain ⟨x4, hx4, hh⟩ := bs' hh
    obtain ⟨x5, hx5, hh⟩ := bs' hh
    refine S' (AEx.draw hC 7 rfl rfl rfl (Q' rfl (Q' rfl (Q' rfl (Q' rfl (Q' rfl (AQ.q hC rfl c7 (AQ.q hC rfl c8 (Qn' (AOps.g [0, 1] rfl (X_WriteString_SyntaxPrinter_ok hx3) ⟨.rfl, ⟨.rfl, trivial⟩⟩ rfl ⟨rfl, ⟨rfl, trivial⟩⟩ rfl rfl (n' (R' rfl rfl (q' rfl ?_)))))))))))))
    refine q' rfl (q' rfl (AOps.g [0, 1] rfl (syntax_printer_typ_ok hx4) ⟨.rfl, ⟨.rfl, trivial⟩⟩ rfl ⟨rfl, ⟨rfl, trivial⟩⟩ rfl rfl (n' (R' rfl rfl (q' rfl (q' rfl (q' rfl (AOps.g [0, 1] rfl (X_WriteString_SyntaxPrinter_ok hx5) ⟨.rfl, ⟨.rfl, trivial⟩⟩ rfl ⟨rfl, ⟨rfl, trivial⟩⟩ rfl rfl (n' ?_)))))))))
    obtain rfl := oi' hh
    exact ⟨_, _, [.bld 1 86, .buf 5 x5.2], rfl, .rfl, ⟨⟨rfl, Nat.le_of_ble_eq_true rfl⟩, ⟨rfl, trivial⟩⟩, rfl, rfl, rfl, rfl⟩
  refine s' rfl rfl (q' rfl (q' rfl (n' ?_)))
  refine ci' rfl hh (fun hh => ?_) (fun hh => ?_)
  · obtain ⟨x6, hx6, hh⟩ := bs' hh
    obtain ⟨x7, hx7, hh⟩ := bs' hh
    obtain ⟨x5, hx5, hh⟩ := bs' hh
    refine s' rfl rfl (q' rfl (q' rfl (q' rfl (AOps.g [0, 1] rfl (X_WriteString_SyntaxPrinter_ok hx6) ⟨.rfl, ⟨.rfl, trivial⟩⟩ rfl ⟨rfl, ⟨rfl, trivial⟩⟩ rfl rfl (n' (R' rfl rfl (q' rfl (q' rfl (q' rfl (q' rfl (q' rfl (AOps.g [0, 1] rfl (syntax_printer_named_ok hx7) ⟨.rfl, ⟨.rfl, ⟨.rfl, trivial⟩⟩⟩ rfl ⟨rfl, ⟨rfl, trivial⟩⟩ rfl rfl (n' ?_)))))))))))))
    refine R' rfl rfl (q' rfl (q' rfl (q' rfl (AOps.g [0, 1] rfl (X_WriteString_SyntaxPrinter_ok hx5) ⟨.rfl, ⟨.rfl, trivial⟩⟩ rfl ⟨rfl, ⟨rfl, trivial⟩⟩ rfl rfl (n' ?_)))))
    obtain rfl := oi' hh
    exact ⟨_, _, [.bld 1 86, .buf 5 x5.2], rfl, .rfl, ⟨⟨rfl, Nat.le_of_ble_eq_true rfl⟩, ⟨rfl, trivial⟩⟩, rfl, rfl, rfl, rfl⟩
  refine s' rfl rfl (q' rfl (q' rfl (n' ?_)))
  refine ci' rfl hh (fun hh => ?_) (fun hh => ?_)
  · obtain ⟨x8, hx8, hh⟩ := bs' hh
    obtain ⟨x9, hx9, hh⟩ := bs' hh
    obtain ⟨x5, hx5, hh⟩ := bs' hh
    refine s' rfl rfl (q' rfl (q' rfl (q' rfl (AOps.g [0, 1] rfl (X_WriteString_SyntaxPrinter_ok hx8) ⟨.rfl, ⟨.rfl, trivial⟩⟩ rfl ⟨rfl, ⟨rfl, trivial⟩⟩ rfl rfl (n' (R' rfl rfl (q' rfl (q' rfl (q' rfl (q' rfl (q' rfl (AOps.g [0, 1] rfl (syntax_printer_named_ok hx9) ⟨.rfl, ⟨.rfl, ⟨.rfl, trivial⟩⟩⟩ rfl ⟨rfl, ⟨rfl, trivial⟩⟩ rfl rfl (n' ?_)))))))))))))
    refine R' rfl rfl (q' rfl (q' rfl (q' rfl (AOps.g [0, 1] rfl (X_WriteString_SyntaxPrinter_ok hx5) ⟨.rfl, ⟨.rfl, trivial⟩⟩ rfl ⟨rfl, ⟨rfl, trivial⟩⟩ rfl rfl (n' ?_)))))
    obtain rfl := oi' hh
    exact ⟨_, _, [.bld 1 86, .buf 5 x5.2], rfl, .rfl, ⟨⟨rfl, Nat.le_of_ble_eq_true rfl⟩, ⟨rfl, trivial⟩⟩, rfl, rfl, rfl, rfl⟩
  refine s' rfl rfl (q' rfl (q' rfl (n' ?_)))
  refine ci' rfl hh (fun hh => ?_) (fun hh => ?_)
  · obtain ⟨x10, hx10, hh⟩ := bs' hh
    obtain ⟨x11, hx11, hh⟩ := bs' hh
    obtain ⟨x5, hx5, hh⟩ := bs' hh
    refine s' rfl rfl (q' rfl (q' rfl (q' rfl (AOps.g [0, 1] rfl (X_WriteString_SyntaxPrinter_ok hx10) ⟨.rfl, ⟨.rfl, trivial⟩⟩ rfl ⟨rfl, ⟨rfl, trivial⟩⟩ rfl rfl (n' (R' rfl rfl (q' rfl (q' rfl (q' rfl (q' rfl (q' rfl (AOps.g [0, 1] rfl (syntax_printer_named_ok hx11) ⟨.rfl, ⟨.rfl, ⟨.rfl, trivial⟩⟩⟩ rfl ⟨rfl, ⟨rfl, trivial⟩⟩ rfl rfl (n' ?_)))))))))))))
    refine R' rfl rfl (q' rfl (q' rfl (q' rfl (AOps.g [0, 1] rfl (X_WriteString_SyntaxPrinter_ok hx5) ⟨.rfl, ⟨.rfl, trivial⟩⟩ rfl ⟨rfl, ⟨rfl, trivial⟩⟩ rfl rfl (n' ?_)))))
    obtain rfl := oi' hh
    exact ⟨_, _, [.bld 1 86, .buf 5 x5.2], rfl, .rfl, ⟨⟨rfl, Nat.le_of_ble_eq_true rfl⟩, ⟨rfl, trivial⟩⟩, rfl, rfl, rfl, rfl⟩
  refine s' rfl rfl (q' rfl (q' rfl (n' ?_)))
  refine ci' rfl hh (fun hh => ?_) (fun hh => ?_)
  · obtain ⟨x12, hx12, hh⟩ := bs' hh
    obtain ⟨x13, hx13, hh⟩ := bs' hh
    obtain ⟨x14, hx14, hh⟩ := bs' hh
    obtain ⟨x15, hx15, hh⟩ := bs' hh
    obtain ⟨x5, hx5, hh⟩ := bs' hh
    refine s' rfl rfl (q' rfl (q' rfl (q' rfl (AOps.g [0, 1] rfl (X_WriteString_SyntaxPrinter_ok hx12) ⟨.rfl, ⟨.rfl, trivial⟩⟩ rfl ⟨rfl, ⟨rfl, trivial⟩⟩ rfl rfl (n' (s' rfl rfl (q' rfl (q' rfl (q' rfl (q' rfl (q' rfl (AOps.g [0, 1] rfl (syntax_printer_named_ok hx13) ⟨.rfl, ⟨.rfl, ⟨.rfl, trivial⟩⟩⟩ rfl ⟨rfl, ⟨rfl, trivial⟩⟩ rfl rfl (n' ?_)))))))))))))
    refine s' rfl rfl (q' rfl (q' rfl (q' rfl (AOps.g [0, 1] rfl (X_WriteString_SyntaxPrinter_ok hx14) ⟨.rfl, ⟨.rfl, trivial⟩⟩ rfl ⟨rfl, ⟨rfl, trivial⟩⟩ rfl rfl (n' (R' rfl rfl (q' rfl (q' rfl (q' rfl (AOps.g [0, 1] rfl (syntax_printer_expr_ok hx15) ⟨.rfl, ⟨.rfl, trivial⟩⟩ rfl ⟨rfl, ⟨rfl, trivial⟩⟩ rfl rfl (n' (R' rfl rfl (q' rfl ?_)))))))))))))
    refine q' rfl (q' rfl (AOps.g [0, 1] rfl (X_WriteString_SyntaxPrinter_ok hx5) ⟨.rfl, ⟨.rfl, trivial⟩⟩ rfl ⟨rfl, ⟨rfl, trivial⟩⟩ rfl rfl (n' ?_)))
    obtain rfl := oi' hh
    exact ⟨_, _, [.bld 1 86, .buf 5 x5.2], rfl, .rfl, ⟨⟨rfl, Nat.le_of_ble_eq_true rfl⟩, ⟨rfl, trivial⟩⟩, rfl, rfl, rfl, rfl⟩
  obtain ⟨x5, hx5, hh⟩ := bs' hh
  refine sk' (R' rfl rfl (q' rfl (q' rfl (q' rfl (AOps.g [0, 1] rfl (X_WriteString_SyntaxPrinter_ok hx5) ⟨.rfl, ⟨.rfl, trivial⟩⟩ rfl ⟨rfl, ⟨rfl, trivial⟩⟩ rfl rfl (n' ?_))))))
  obtain rfl := oi' hh
  exact ⟨_, _, [.bld 1 86, .buf 5 x5.2], rfl, .rfl, ⟨⟨rfl, Nat.le_of_ble_eq_true rfl⟩, ⟨rfl, trivial⟩⟩, rfl, rfl, rfl, rfl⟩
def syntax_Print_l1 (p : ApiProgram) (b2 : Str) (v18 : Int) : Option (Str × Int) :=
  if (decide (v18 < ((p.Decls).length : Int))) = true then
    idx p.Decls v18 >>= fun x2 =>
    syntax_printer_decl x2 b2 >>= fun x3 =>
    syntax_Print_l1 p x3 (IntKind.i64.wrap (v18 + 1))
  else
    X_WriteString_SyntaxPrinter [98, 101, 103, 105, 110, 10] b2 >>= fun x4 =>
    syntax_printer_stmts p.Body [9] x4.2 >>= fun x5 =>
    X_WriteString_SyntaxPrinter [101, 110, 100, 10] x5 >>= fun x6 =>
    syntax_printer_text x6.2 >>= fun x7 =>
    some (x7.1, x7.2)
  partial_fixpoint
abbrev syntax_Print_l1_m (p : ApiProgram) (b2 : Str) (v18 : Int) (res : Str × Int) : Prop := ALoop (Fx.mk C 42 0) (lo (bk (sr (sl (sr (sr (sr (bodyOf Tryz.f20)))))))) (mkEnv [(1, .ref 0 0), (5, .ref 1 0), (16, .d (.sl (ApiDecl.rows p.Decls))), (17, .d (.int .i64 ((p.Decls).length : Int))), (18, .d (.int .i64 v18))]) [.row (ApiProgram.cells p) 25, .bld 2 86, .buf 5 b2] (Am.InBlock 0 (Am.Then (Fx.mk C 42 0) (sr (sr (sr (sr (bodyOf Tryz.f20))))) (Am.Ends (Fx.mk C 42 0) Tryz.f20.results.toList (fun x H' => H' = [] ∧ x = .tup [.d (.str res.1), .d (.int .i64 res.2)]))))
theorem syntax_Print_l1_grp (p : ApiProgram) : (∀ (b2 : Str) (v18 : Int) (res : Str × Int), syntax_Print_l1 p b2 v18 = some res → syntax_Print_l1_m p b2 v18 res) := by
  refine syntax_Print_l1.partial_correctness p
    (fun b2 v18 res => syntax_Print_l1_m p b2 v18 res) ?_
  · intro g0 ih0 b2 v18 res hh
    refine ALoop.unroll ?_
    refine s' rfl rfl (q' rfl (n' (S' ?_)))
    refine ci' rfl hh (fun hh => ?_) (fun hh => ?_)
    · obtain ⟨x2, hx2, hh⟩ := bs' hh
      obtain ⟨x3, hx3, hh⟩ := bs' hh
      refine sk' (S' (AEx.block (s' rfl rfl (i' rfl (idx_nat hx2) (ApiDecl.idx hx2) rfl (q' rfl (AOps.nf hC rfl (AOps.s hC rfl (n' (R' rfl rfl (q' rfl (q' rfl (AOps.g [1, 2] rfl (syntax_printer_decl_ok hx3) ⟨.rfl, ⟨.rfl, trivial⟩⟩ rfl ⟨rfl, ⟨rfl, trivial⟩⟩ rfl rfl (n' ?_)))))))))))))
      refine R' rfl rfl (q' rfl (q' rfl (n' ?_)))
      refine ALoop.wk ?_ (ih0 _ _ _ hh)
      exact ⟨⟨⟨.rfl, rfl⟩, ⟨⟨.rfl, rfl⟩, ⟨⟨.rfl, rfl⟩, ⟨⟨.rfl, rfl⟩, ⟨⟨.rfl, rfl⟩, trivial⟩⟩⟩⟩⟩, ⟨⟨rfl, .refl _, rfl⟩, ⟨⟨rfl, Nat.le_of_ble_eq_true rfl⟩, ⟨rfl, trivial⟩⟩⟩, rfl⟩
    obtain ⟨x4, hx4, hh⟩ := bs' hh
    obtain ⟨x5, hx5, hh⟩ := bs' hh
    obtain ⟨x6, hx6, hh⟩ := bs' hh
    obtain ⟨x7, hx7, hh⟩ := bs' hh
    refine ex' (s' rfl rfl (q' rfl (q' rfl (q' rfl (AOps.g [1, 2] rfl (X_WriteString_SyntaxPrinter_ok hx4) ⟨.rfl, ⟨.rfl, trivial⟩⟩ rfl ⟨rfl, ⟨rfl, trivial⟩⟩ rfl rfl (n' (s' rfl rfl (q' rfl (q' rfl (q' rfl (AOps.g [1, 2] rfl (syntax_printer_stmts_ok hx5) ⟨.rfl, ⟨.rfl, ⟨.rfl, trivial⟩⟩⟩ rfl ⟨rfl, ⟨rfl, trivial⟩⟩ rfl rfl (n' (s' rfl rfl ?_)))))))))))))
    refine q' rfl (q' rfl (q' rfl (AOps.g [1, 2] rfl (X_WriteString_SyntaxPrinter_ok hx6) ⟨.rfl, ⟨.rfl, trivial⟩⟩ rfl ⟨rfl, ⟨rfl, trivial⟩⟩ rfl rfl (n' (s' rfl rfl (q' rfl (AOps.g [1, 2] rfl (syntax_printer_text_ok hx7) ⟨.rfl, trivial⟩ rfl ⟨rfl, ⟨rfl, trivial⟩⟩ rfl rfl (q' rfl (q' rfl (q' rfl (q' rfl (n' (re' ?_)))))))))))))
    obtain rfl := oi' hh
    exact ⟨_, _, [], rfl, .rfl, trivial, rfl, rfl, rfl, rfl⟩
theorem syntax_Print_l1_ok {p : ApiProgram} {b2 : Str} {v18 : Int} {res : Str × Int} (hh : syntax_Print_l1 p b2 v18 = some res) : syntax_Print_l1_m p b2 v18 res := (syntax_Print_l1_grp p) _ _ _ hh
def syntax_Print (p : ApiProgram) : Option (Str × Int) :=
  syntax_Check p >>= fun x1 =>
  if (x1 != 0) = true then
    some ([], x1)
  else
    syntax_Print_l1 p [] 0
abbrev syntax_Print_m (p : ApiProgram) (res : Str × Int) : Prop := ACall C 20 [.agg (ApiProgram.cells p)] [] (fun x H' => H' = [] ∧ x = .tup [.d (.str res.1), .d (.int .i64 res.2)])
theorem syntax_Print_ok {p : ApiProgram} {res : Str × Int} (hh : syntax_Print p = some res) : syntax_Print_m p res := by
  unfold syntax_Print at hh
  refine ACall.intro hC Tryz.func20 rfl rfl rfl ?_
  obtain ⟨x1, hx1, hh⟩ := bs' hh
  refine s' rfl rfl (AOps.n hC rfl (q' rfl (q' rfl (n' (S' (s' rfl rfl (q' rfl (AOps.c rfl rfl (syntax_Check_ok hx1) (q' rfl (n' (s' rfl rfl (q' rfl (q' rfl ?_)))))))))))))
  refine n' ?_
  refine ci' rfl hh (fun hh => ?_) (fun hh => ?_)
  · refine s' rfl rfl (q' rfl (q' rfl (q' rfl (n' (re' ?_)))))
    obtain rfl := oi' hh
    exact ⟨_, _, [], rfl, .rfl, trivial, rfl, rfl, rfl, rfl⟩
  refine sk' (s' rfl rfl (AOps.newB 5 rfl rfl rfl zB86 rfl rfl (q' rfl (n' (S' (s' rfl rfl (q' rfl (q' rfl (qe' rfl trivial (ApiDecl.lenA _) (q' rfl (n' (AEx.block ?_))))))))))))
  refine AEx.ofLoop ?_
  refine ALoop.wk ?_ (syntax_Print_l1_ok hh)
  exact ⟨⟨⟨.rfl, rfl⟩, ⟨⟨.rfl, rfl⟩, ⟨⟨.rfl, rfl⟩, ⟨⟨.rfl, rfl⟩, ⟨⟨.rfl, rfl⟩, trivial⟩⟩⟩⟩⟩, ⟨⟨rfl, .refl _, rfl⟩, ⟨⟨rfl, Nat.le_of_ble_eq_true rfl⟩, ⟨rfl, trivial⟩⟩⟩, rfl⟩
def syntax_Size (p : ApiProgram) : Option (Int × Int) :=
  syntax_program p >>= fun x1 =>
  syntax_report_code x1 >>= fun x2 =>
  if (x2 != 0) = true then
    some (0, x2)
  else
    some (x1.nodes, 0)
abbrev syntax_Size_m (p : ApiProgram) (res : Int × Int) : Prop := ACall C 12 [.agg (ApiProgram.cells p)] [] (fun x H' => H' = [] ∧ x = .tup [.d (.int .i64 res.1), .d (.int .i64 res.2)])
theorem syntax_Size_ok {p : ApiProgram} {res : Int × Int} (hh : syntax_Size p = some res) : syntax_Size_m p res := by
  unfold syntax_Size at hh
  refine ACall.intro hC Tryz.func12 rfl rfl rfl ?_
  obtain ⟨x1, hx1, hh⟩ := bs' hh
  obtain ⟨x2, hx2, hh⟩ := bs' hh
  refine s' rfl rfl (AOps.n hC rfl (q' rfl (q' rfl (n' (s' rfl rfl (q' rfl (AOps.g [] rfl (syntax_program_ok hx1) ⟨.rfl, trivial⟩ rfl trivial rfl rfl (q' rfl (n' (S' (s' rfl rfl (q' rfl (AOps.g [2] rfl (syntax_report_code_ok hx2) ⟨.rfl, trivial⟩ rfl ⟨rfl, trivial⟩ rfl rfl ?_)))))))))))))
  refine q' rfl (n' (s' rfl rfl (q' rfl (q' rfl (n' ?_)))))
  refine ci' rfl hh (fun hh => ?_) (fun hh => ?_)
  · refine s' rfl rfl (q' rfl (q' rfl (q' rfl (n' (re' ?_)))))
    obtain rfl := oi' hh
    exact ⟨_, _, [], rfl, .rfl, trivial, rfl, rfl, rfl, rfl⟩
  refine sk' (s' rfl rfl (q' rfl (q' rfl (q' rfl (q' rfl (q' rfl (q' rfl (n' (re' ?_)))))))))
  obtain rfl := oi' hh
  exact ⟨_, _, [], rfl, .rfl, trivial, rfl, rfl, rfl, rfl⟩
def law10_known : Option Bool :=
  law10_lit 1 >>= fun x1 =>
  law10_lit 2 >>= fun x2 =>
  law10_node 8 [x1, x2] >>= fun x3 =>
  law10_name [120] >>= fun x4 =>
  law10_node 6 [x4] >>= fun x5 =>
  law10_node 10 [x3, x5] >>= fun x6 =>
  syntax_PrintExpr x6 >>= fun x7 =>
  law10_name [97] >>= fun x8 =>
  law10_name [98] >>= fun x9 =>
  law10_name [99] >>= fun x10 =>
  law10_node 9 [x9, x10] >>= fun x11 =>
  law10_node 9 [x8, x11] >>= fun x12 =>
  syntax_PrintExpr x12 >>= fun x13 =>
  law10_name [97] >>= fun x14 =>
  law10_name [98] >>= fun x15 =>
  law10_node 9 [x14, x15] >>= fun x16 =>
  law10_name [99] >>= fun x17 =>
  law10_node 9 [x16, x17] >>= fun x18 =>
  syntax_PrintExpr x18 >>= fun x19 =>
  law10_name [112, 105, 110] >>= fun x20 =>
  syntax_Print (ApiProgram.mk [(ApiDecl.mk 1 [112, 105, 110] (ApiType.mk 1 0 9 0 [] [] []) 0 (ApiExpr.mk 0 0 [] []) [] [] []), (ApiDecl.mk 4 [120] (ApiType.mk 0 0 0 0 [] [] []) 1 (ApiExpr.mk 0 0 [] []) [] [] [])] [(ApiStmt.mk 3 (ApiExpr.mk 0 0 [] []) x20 [] [] 0 0 0 [] [] [])]) >>= fun x21 =>
  syntax_Size (ApiProgram.mk [(ApiDecl.mk 1 [112, 105, 110] (ApiType.mk 1 0 9 0 [] [] []) 0 (ApiExpr.mk 0 0 [] []) [] [] []), (ApiDecl.mk 4 [120] (ApiType.mk 0 0 0 0 [] [] []) 1 (ApiExpr.mk 0 0 [] []) [] [] [])] [(ApiStmt.mk 3 (ApiExpr.mk 0 0 [] []) x20 [] [] 0 0 0 [] [] [])]) >>= fun x22 =>
  if (bif (bif (bif (bif (bif (x7.2 != 0) then true else (x13.2 != 0)) then true else (x19.2 != 0)) then true else (x21.2 != 0)) then true else (x22.2 != 0)) then true else (x22.1 != 6)) = true then
    some false
  else
    (if (bif (bif (bif (x7.1 == [40, 49, 32, 43, 32, 50, 41, 32, 42, 32, 45, 120]) then (x13.1 == [97, 32, 45, 32, 40, 98, 32, 45, 32, 99, 41]) else false) then (x19.1 == [97, 32, 45, 32, 98, 32, 45, 32, 99]) else false) then (x21.1 == [115, 101, 99, 114, 101, 116, 32, 112, 105, 110, 58, 32, 105, 110, 116, 91, 48, 46, 46, 57, 93, 59, 10, 118, 97, 114, 32, 120, 58, 32, 98, 111, 111, 108, 32, 61, 32, 116, 114, 117, 101, 59, 10, 98, 101, 103, 105, 110, 10, 9, 111, 117, 116, 112, 117, 116, 32, 112, 105, 110, 59, 10, 101, 110, 100, 10]) else false) = true then law10_lit (-1) else some default) >>= fun x23 =>
    (if (bif (bif (bif (x7.1 == [40, 49, 32, 43, 32, 50, 41, 32, 42, 32, 45, 120]) then (x13.1 == [97, 32, 45, 32, 40, 98, 32, 45, 32, 99, 41]) else false) then (x19.1 == [97, 32, 45, 32, 98, 32, 45, 32, 99]) else false) then (x21.1 == [115, 101, 99, 114, 101, 116, 32, 112, 105, 110, 58, 32, 105, 110, 116, 91, 48, 46, 46, 57, 93, 59, 10, 118, 97, 114, 32, 120, 58, 32, 98, 111, 111, 108, 32, 61, 32, 116, 114, 117, 101, 59, 10, 98, 101, 103, 105, 110, 10, 9, 111, 117, 116, 112, 117, 116, 32, 112, 105, 110, 59, 10, 101, 110, 100, 10]) else false) = true then syntax_CheckExpr x23 else some default) >>= fun x24 =>
    some (bif (bif (bif (bif (x7.1 == [40, 49, 32, 43, 32, 50, 41, 32, 42, 32, 45, 120]) then (x13.1 == [97, 32, 45, 32, 40, 98, 32, 45, 32, 99, 41]) else false) then (x19.1 == [97, 32, 45, 32, 98, 32, 45, 32, 99]) else false) then (x21.1 == [115, 101, 99, 114, 101, 116, 32, 112, 105, 110, 58, 32, 105, 110, 116, 91, 48, 46, 46, 57, 93, 59, 10, 118, 97, 114, 32, 120, 58, 32, 98, 111, 111, 108, 32, 61, 32, 116, 114, 117, 101, 59, 10, 98, 101, 103, 105, 110, 10, 9, 111, 117, 116, 112, 117, 116, 32, 112, 105, 110, 59, 10, 101, 110, 100, 10]) else false) then (x24 == 3) else false)
abbrev law10_known_m (res : Bool) : Prop := ACall C 10 [] [] (fun x H' => H' = [] ∧ x = .d (.bool res))
theorem law10_known_ok {res : Bool} (hh : law10_known = some res) : law10_known_m res := by
  unfold law10_known at hh
  refine ACall.intro hC Tryz.func10 rfl rfl rfl ?_
  obtain ⟨x1, hx1, hh⟩ := bs' hh
  obtain ⟨x2, hx2, hh⟩ := bs' hh
  obtain ⟨x3, hx3, hh⟩ := bs' hh
  obtain ⟨x4, hx4, hh⟩ := bs' hh
  obtain ⟨x5, hx5, hh⟩ := bs' hh
  obtain ⟨x6, hx6, hh⟩ := bs' hh
  obtain ⟨x7, hx7, hh⟩ := bs' hh
  obtain ⟨x8, hx8, hh⟩ := bs' hh
  obtain ⟨x9, hx9, hh⟩ := bs' hh
  obtain ⟨x10, hx10, hh⟩ := bs' hh
  obtain ⟨x11, hx11, hh⟩ := bs' hh
  obtain ⟨x12, hx12, hh⟩ := bs' hh
  obtain ⟨x13, hx13, hh⟩ := bs' hh
  obtain ⟨x14, hx14, hh⟩ := bs' hh
  obtain ⟨x15, hx15, hh⟩ := bs' hh
  obtain ⟨x16, hx16, hh⟩ := bs' hh
  obtain ⟨x17, hx17, hh⟩ := bs' hh
  obtain ⟨x18, hx18, hh⟩ := bs' hh
  obtain ⟨x19, hx19, hh⟩ := bs' hh
  obtain ⟨x20, hx20, hh⟩ := bs' hh
  obtain ⟨x21, hx21, hh⟩ := bs' hh
  obtain ⟨x22, hx22, hh⟩ := bs' hh
  refine s' rfl rfl (q' rfl (n' (s' rfl rfl (AOps.c rfl rfl (law10_lit_ok hx1) (AOps.c rfl rfl (law10_lit_ok hx2) (AOps.be hC rfl (ApiExpr.rows_map [x1, x2]).symm (AOps.cl rfl (law10_node_ok hx3) ⟨.rfl, ⟨.full, trivial⟩⟩ rfl (AOps.c rfl rfl (law10_name_ok hx4) (AOps.be hC rfl (ApiExpr.rows_map [x4]).symm (AOps.cl rfl (law10_node_ok hx5) ⟨.rfl, ⟨.full, trivial⟩⟩ rfl (AOps.be hC rfl (ApiExpr.rows_map [x3, x5]).symm ?_)))))))))))
  refine AOps.cl rfl (law10_node_ok hx6) ⟨.rfl, ⟨.full, trivial⟩⟩ rfl (AOps.c rfl rfl (syntax_PrintExpr_ok hx7) (q' rfl (q' rfl (q' rfl (q' rfl (q' rfl (n' (s' rfl rfl (AOps.c rfl rfl (law10_name_ok hx8) (AOps.c rfl rfl (law10_name_ok hx9) (AOps.c rfl rfl (law10_name_ok hx10) (AOps.be hC rfl (ApiExpr.rows_map [x9, x10]).symm (AOps.cl rfl (law10_node_ok hx11) ⟨.rfl, ⟨.full, trivial⟩⟩ rfl ?_)))))))))))))
  refine AOps.be hC rfl (ApiExpr.rows_map [x8, x11]).symm (AOps.cl rfl (law10_node_ok hx12) ⟨.rfl, ⟨.full, trivial⟩⟩ rfl (AOps.c rfl rfl (syntax_PrintExpr_ok hx13) (q' rfl (q' rfl (q' rfl (q' rfl (q' rfl (n' (s' rfl rfl (AOps.c rfl rfl (law10_name_ok hx14) (AOps.c rfl rfl (law10_name_ok hx15) (AOps.be hC rfl (ApiExpr.rows_map [x14, x15]).symm (AOps.cl rfl (law10_node_ok hx16) ⟨.rfl, ⟨.full, trivial⟩⟩ rfl ?_)))))))))))))
  refine AOps.c rfl rfl (law10_name_ok hx17) (AOps.be hC rfl (ApiExpr.rows_map [x16, x17]).symm (AOps.cl rfl (law10_node_ok hx18) ⟨.rfl, ⟨.full, trivial⟩⟩ rfl (AOps.c rfl rfl (syntax_PrintExpr_ok hx19) (q' rfl (q' rfl (q' rfl (q' rfl (q' rfl (n' (s' rfl rfl (q' rfl (q' rfl (q' rfl ?_)))))))))))))
  refine AOps.be hC rfl (ApiDecl.rows_map [(ApiDecl.mk 1 [112, 105, 110] (ApiType.mk 1 0 9 0 [] [] []) 0 (ApiExpr.mk 0 0 [] []) [] [] []), (ApiDecl.mk 4 [120] (ApiType.mk 0 0 0 0 [] [] []) 1 (ApiExpr.mk 0 0 [] []) [] [] [])]).symm (AOps.c rfl rfl (law10_name_ok hx20) (q' rfl (AOps.be hC rfl (ApiStmt.rows_map [(ApiStmt.mk 3 (ApiExpr.mk 0 0 [] []) x20 [] [] 0 0 0 [] [] [])]).symm (q' rfl (AOps.nf hC rfl (AOps.s hC rfl ?_))))))
  refine n' (s' rfl rfl (q' rfl (AOps.cl rfl (syntax_Print_ok hx21) ⟨(.aggL ⟨.full, ⟨.full, trivial⟩⟩), trivial⟩ rfl (q' rfl (q' rfl (q' rfl (q' rfl (q' rfl (n' (s' rfl rfl (q' rfl (AOps.cl rfl (syntax_Size_ok hx22) ⟨(.aggL ⟨.full, ⟨.full, trivial⟩⟩), trivial⟩ rfl (q' rfl ?_)))))))))))))
  iterate 4 refine q' rfl ?_
  refine n' (S' (sg' 22 rfl (a0' rfl (a0' rfl (a0' rfl (a0' rfl (a1' rfl (po' rfl (a0' rfl (a0' rfl (a1' rfl (po' rfl (a0' rfl ?_)))))))))))))
  refine a0' rfl (a1' rfl (po' rfl (a0' rfl (a0' rfl (a1' rfl (po' rfl (a0' rfl (a0' rfl (a1' rfl (po' rfl (an' (n' ?_))))))))))))
  refine ci' rfl hh (fun hh => ?_) (fun hh => ?_)
  · refine s' rfl rfl (q' rfl (n' (re' ?_)))
    obtain rfl := oi' hh
    exact ⟨_, _, [], rfl, .rfl, trivial, rfl, rfl, rfl, rfl⟩
  obtain ⟨x23, hx23, hh⟩ := bs' hh
  obtain ⟨x24, hx24, hh⟩ := bs' hh
  refine sk' (sg' 20 rfl (a0' rfl (a0' rfl (a0' rfl (a0' rfl (a1' rfl (pa' rfl (a0' rfl (a0' rfl (a1' rfl (pa' rfl (a0' rfl (a0' rfl ?_)))))))))))))
  refine a1' rfl (pa' rfl (a0' rfl (AG.c rfl rfl (fun _ => trivial) (fun hw => law10_lit_ok (if_t hw hx23)) (AG.c rfl rfl (fun hg => ⟨hg, trivial⟩) (fun hw => syntax_CheckExpr_ok (if_t hw hx24)) (a1' rfl (pa' rfl (a0' rfl (an' (n' (re' ?_))))))))))
  obtain rfl := oi' hh
  exact ⟨_, _, [], rfl, .rfl, trivial, rfl, rfl, rfl, rfl⟩
mutual
def ref10_exprLeft (e : ApiExpr) (left : Int) : Option Int :=
  ref10_exprLeft_l1 e (IntKind.i64.wrap ((IntKind.i64.wrap (left - 1)) - (IntKind.i64.wrap (Int.tdiv ((e.Name).length : Int) 16)))) 0
  partial_fixpoint
def ref10_exprLeft_l1 (e : ApiExpr) (left1 : Int) (i : Int) : Option Int :=
  if (bif (decide (i < ((e.Kids).length : Int))) then (decide (left1 ≥ 0)) else false) = true then
    idx e.Kids i >>= fun x1 =>
    ref10_exprLeft x1 left1 >>= fun x2 =>
    ref10_exprLeft_l1 e x2 (IntKind.i64.wrap (i + 1))
  else
    some left1
  partial_fixpoint
end
abbrev ref10_exprLeft_m (e : ApiExpr) (left : Int) (res : Int) : Prop := ACall C 42 [.agg (ApiExpr.cells e), .d (.int .i64 left)] [] (fun x H' => H' = [] ∧ x = .d (.int .i64 res))
abbrev ref10_exprLeft_l1_m (e : ApiExpr) (left1 : Int) (i : Int) (res : Int) : Prop := ALoop (Fx.mk C 32 0) (lo (bk (sr (sl (sr (sr (bodyOf Tryz.f42))))))) (mkEnv [(1, .d (.int .i64 left1)), (2, .ref 0 0), (5, .d (.int .i64 i))]) [.row (ApiExpr.cells e) 36] (Am.InBlock 0 (Am.Then (Fx.mk C 32 0) (sr (sr (sr (bodyOf Tryz.f42)))) (Am.Ends (Fx.mk C 32 0) Tryz.f42.results.toList (fun x H' => H' = [] ∧ x = .d (.int .i64 res)))))
theorem ref10_exprLeft_grp : (∀ (e : ApiExpr) (left : Int) (res : Int), ref10_exprLeft e left = some res → ref10_exprLeft_m e left res) ∧
    (∀ (e : ApiExpr) (left1 : Int) (i : Int) (res : Int), ref10_exprLeft_l1 e left1 i = some res → ref10_exprLeft_l1_m e left1 i res) := by
  refine ref10_exprLeft.mutual_partial_correctness (fun e left res => ref10_exprLeft_m e left res)
    (fun e left1 i res => ref10_exprLeft_l1_m e left1 i res) ?_ ?_
  · intro g1 ih1 e left res hh
    refine ACall.intro hC Tryz.func42 rfl rfl rfl ?_
    refine s' rfl rfl (AOps.n hC rfl (q' rfl (n' (s' rfl rfl (q' rfl (q' rfl (q' rfl (q' rfl (q' rfl (qc' rfl (by decide) (q' rfl (q' rfl (n' ?_)))))))))))))
    refine S' (s' rfl rfl (q' rfl (n' (AEx.block ?_))))
    refine AEx.ofLoop ?_
    refine ALoop.wk ?_ (ih1 _ _ _ _ hh)
    exact ⟨⟨⟨.rfl, rfl⟩, ⟨⟨.rfl, rfl⟩, ⟨⟨.rfl, rfl⟩, trivial⟩⟩⟩, ⟨⟨rfl, .refl _, rfl⟩, trivial⟩, rfl⟩
  · intro g0 g1 ih0 ih1 e left1 i res hh
    refine ALoop.unroll ?_
    refine S' (sg' 9 rfl (a0' rfl (a0' rfl (a0' rfl (AG.qe hC rfl (fun hg => ⟨trivial, trivial⟩) (ApiExpr.lenA _) (a0' rfl (a0' rfl (a0' rfl (a1' rfl (pa' rfl (an' (n' ?_))))))))))))
    refine ci' rfl hh (fun hh => ?_) (fun hh => ?_)
    · obtain ⟨x1, hx1, hh⟩ := bs' hh
      obtain ⟨x2, hx2, hh⟩ := bs' hh
      refine sk' (S' (AEx.block (R' rfl rfl (q' rfl (q' rfl (q' rfl (i' rfl (idx_nat hx1) (ApiExpr.idx hx1) rfl (q' rfl (q' rfl (AOps.c rfl rfl (ih0 _ _ _ hx2) (q' rfl (n' (R' rfl rfl ?_)))))))))))))
      refine q' rfl (q' rfl (q' rfl (n' ?_)))
      refine ALoop.wk ?_ (ih1 _ _ _ _ hh)
      exact ⟨⟨⟨.rfl, rfl⟩, ⟨⟨.rfl, rfl⟩, ⟨⟨.rfl, rfl⟩, trivial⟩⟩⟩, ⟨⟨rfl, .refl _, rfl⟩, trivial⟩, rfl⟩
    refine ex' (s' rfl rfl (q' rfl (q' rfl (n' (re' ?_)))))
    obtain rfl := oi' hh
    exact ⟨_, _, [], rfl, .rfl, trivial, rfl, rfl, rfl, rfl⟩
theorem ref10_exprLeft_ok {e : ApiExpr} {left : Int} {res : Int} (hh : ref10_exprLeft e left = some res) : ref10_exprLeft_m e left res := (ref10_exprLeft_grp).1 _ _ _ hh
theorem ref10_exprLeft_l1_ok {e : ApiExpr} {left1 : Int} {i : Int} {res : Int} (hh : ref10_exprLeft_l1 e left1 i = some res) : ref10_exprLeft_l1_m e left1 i res := (ref10_exprLeft_grp).2 _ _ _ _ hh
def ref10_size_deeper (s : Keyholeref10Size) (d : Int) : Option Keyholeref10Size :=
  if (decide (d > s.depth)) = true then
    some (Keyholeref10Size.mk s.nodes d)
  else
    some s
abbrev ref10_size_deeper_m (s : Keyholeref10Size) (d : Int) (res : Keyholeref10Size) : Prop := ACall C 109 [.agg (Keyholeref10Size.cells s), .d (.int .i64 d)] [] (fun x H' => H' = [] ∧ x = .agg (Keyholeref10Size.cells res))
theorem ref10_size_deeper_ok {s : Keyholeref10Size} {d : Int} {res : Keyholeref10Size} (hh : ref10_size_deeper s d = some res) : ref10_size_deeper_m s d res := by
  unfold ref10_size_deeper at hh
  refine ACall.intro hC Tryz.func109 rfl rfl rfl ?_
  refine s' rfl rfl (AOps.n hC rfl (AOps.n hC rfl (n' (S' (s' rfl rfl (q' rfl (q' rfl (q' rfl (q' rfl (n' ?_))))))))))
  refine ci' rfl hh (fun hh => ?_) (fun hh => ?_)
  · refine R' rfl rfl (q' rfl (q' rfl (AOps.s hC rfl (n' (s' rfl rfl (q' rfl (AOps.s hC rfl (n' (re' ?_)))))))))
    obtain rfl := oi' hh
    exact ⟨_, _, [], rfl, .rfl, trivial, rfl, rfl, rfl, rfl⟩
  refine sk' (s' rfl rfl (q' rfl (AOps.s hC rfl (n' (re' ?_)))))
  obtain rfl := oi' hh
  exact ⟨_, _, [], rfl, .rfl, trivial, rfl, rfl, rfl, rfl⟩
mutual
def ref10_EqualExpr (a : ApiExpr) (b : ApiExpr) : Option Bool :=
  if (bif (bif (bif (a.Op != b.Op) then true else (a.NV != b.NV)) then true else (!(a.Name == b.Name))) then true else (((a.Kids).length : Int) != ((b.Kids).length : Int))) = true then
    some false
  else
    ref10_EqualExpr_l1 a b 0
  partial_fixpoint
def ref10_EqualExpr_l1 (a : ApiExpr) (b : ApiExpr) (i : Int) : Option Bool :=
  if (decide (i < ((a.Kids).length : Int))) = true then
    idx a.Kids i >>= fun x1 =>
    idx b.Kids i >>= fun x2 =>
    ref10_EqualExpr x1 x2 >>= fun x3 =>
    if (!x3) = true then
      some false
    else
      ref10_EqualExpr_l1 a b (IntKind.i64.wrap (i + 1))
  else
    some true
  partial_fixpoint
end
abbrev ref10_EqualExpr_m (a : ApiExpr) (b : ApiExpr) (res : Bool) : Prop := ACall C 22 [.agg (ApiExpr.cells a), .agg (ApiExpr.cells b)] [] (fun x H' => H' = [] ∧ x = .d (.bool res))
abbrev ref10_EqualExpr_l1_m (a : ApiExpr) (b : ApiExpr) (i : Int) (res : Bool) : Prop := ALoop (Fx.mk C 53 0) (lo (bk (sr (sl (sr (sr (bodyOf Tryz.f22))))))) (mkEnv [(2, .ref 0 0), (3, .ref 1 0), (5, .d (.int .i64 i))]) [.row (ApiExpr.cells a) 36, .row (ApiExpr.cells b) 36] (Am.InBlock 0 (Am.Then (Fx.mk C 53 0) (sr (sr (sr (bodyOf Tryz.f22)))) (Am.Ends (Fx.mk C 53 0) Tryz.f22.results.toList (fun x H' => H' = [] ∧ x = .d (.bool res)))))
theorem ref10_EqualExpr_grp : (∀ (a : ApiExpr) (b : ApiExpr) (res : Bool), ref10_EqualExpr a b = some res → ref10_EqualExpr_m a b res) ∧
    (∀ (a : ApiExpr) (b : ApiExpr) (i : Int) (res : Bool), ref10_EqualExpr_l1 a b i = some res → ref10_EqualExpr_l1_m a b i res) := by
  refine ref10_EqualExpr.mutual_partial_correctness (fun a b res => ref10_EqualExpr_m a b res)
    (fun a b i res => ref10_EqualExpr_l1_m a b i res) ?_ ?_
  · intro g1 ih1 a b res hh
    refine ACall.intro hC Tryz.func22 rfl rfl rfl ?_
    refine s' rfl rfl (AOps.n hC rfl (AOps.n hC rfl (q' rfl (n' (S' (sg' 28 rfl (a0' rfl (a0' rfl (a0' rfl (a0' rfl (a0' rfl (a0' rfl (a0' rfl ?_)))))))))))))
    refine a1' rfl (a0' rfl (a1' rfl (a2' rfl (po' rfl (a0' rfl (a0' rfl (a1' rfl (a0' rfl (a1' rfl (a2' rfl (po' rfl (a0' rfl (a0' rfl ?_)))))))))))))
    refine a1' rfl (AG.qe hC rfl (fun hg => ⟨⟨hg, trivial⟩, trivial⟩) (ApiExpr.lenA _) (a0' rfl (a1' rfl (AG.qe hC rfl (fun hg => ⟨⟨hg, trivial⟩, trivial⟩) (ApiExpr.lenA _) (a2' rfl (po' rfl (an' (n' ?_))))))))
    refine ci' rfl hh (fun hh => ?_) (fun hh => ?_)
    · refine s' rfl rfl (q' rfl (n' (re' ?_)))
      obtain rfl := oi' hh
      exact ⟨_, _, [], rfl, .rfl, trivial, rfl, rfl, rfl, rfl⟩
    refine sk' (S' (s' rfl rfl (q' rfl (n' (AEx.block ?_)))))
    refine AEx.ofLoop ?_
    refine ALoop.wk ?_ (ih1 _ _ _ _ hh)
    exact ⟨⟨⟨.rfl, rfl⟩, ⟨⟨.rfl, rfl⟩, ⟨⟨.rfl, rfl⟩, trivial⟩⟩⟩, ⟨⟨rfl, .refl _, rfl⟩, ⟨⟨rfl, .refl _, rfl⟩, trivial⟩⟩, rfl⟩
  · intro g0 g1 ih0 ih1 a b i res hh
    refine ALoop.unroll ?_
    refine S' (s' rfl rfl (q' rfl (q' rfl (q' rfl (qe' rfl trivial (ApiExpr.lenA _) (q' rfl (n' ?_)))))))
    refine ci' rfl hh (fun hh => ?_) (fun hh => ?_)
    · obtain ⟨x1, hx1, hh⟩ := bs' hh
      obtain ⟨x2, hx2, hh⟩ := bs' hh
      obtain ⟨x3, hx3, hh⟩ := bs' hh
      refine sk' (S' (AEx.block (S' (AEx.draw hC 12 rfl rfl rfl (Q' rfl (Q' rfl (Q' rfl (AQ.i hC rfl (idx_nat hx1) (ApiExpr.idx hx1) rfl (Q' rfl (Q' rfl (Q' rfl (Q' rfl (AQ.i hC rfl (idx_nat hx2) (ApiExpr.idx hx2) rfl ?_)))))))))))))
      refine Q' rfl (AQ.c rfl rfl (ih0 _ _ _ hx3) (Q' rfl (Qn' (n' ?_))))
      refine ci' rfl hh (fun hh => ?_) (fun hh => ?_)
      · refine s' rfl rfl (q' rfl (n' (re' ?_)))
        obtain rfl := oi' hh
        exact ⟨_, _, [], rfl, .rfl, trivial, rfl, rfl, rfl, rfl⟩
      refine sk' (R' rfl rfl (q' rfl (q' rfl (q' rfl (n' ?_)))))
      refine ALoop.wk ?_ (ih1 _ _ _ _ hh)
      exact ⟨⟨⟨.rfl, rfl⟩, ⟨⟨.rfl, rfl⟩, ⟨⟨.rfl, rfl⟩, trivial⟩⟩⟩, ⟨⟨rfl, .refl _, rfl⟩, ⟨⟨rfl, .refl _, rfl⟩, trivial⟩⟩, rfl⟩
    refine ex' (s' rfl rfl (q' rfl (n' (re' ?_))))
    obtain rfl := oi' hh
    exact ⟨_, _, [], rfl, .rfl, trivial, rfl, rfl, rfl, rfl⟩
theorem ref10_EqualExpr_ok {a : ApiExpr} {b : ApiExpr} {res : Bool} (hh : ref10_EqualExpr a b = some res) : ref10_EqualExpr_m a b res := (ref10_EqualExpr_grp).1 _ _ _ hh
theorem ref10_EqualExpr_l1_ok {a : ApiExpr} {b : ApiExpr} {i : Int} {res : Bool} (hh : ref10_EqualExpr_l1 a b i = some res) : ref10_EqualExpr_l1_m a b i res := (ref10_EqualExpr_grp).2 _ _ _ _ hh
def ref10_zeroExpr (e : ApiExpr) : Option Bool :=
  ref10_EqualExpr e (ApiExpr.mk 0 0 [] []) >>= fun x1 =>
  some x1
abbrev ref10_zeroExpr_m (e : ApiExpr) (res : Bool) : Prop := ACall C 107 [.agg (ApiExpr.cells e)] [] (fun x H' => H' = [] ∧ x = .d (.bool res))
theorem ref10_zeroExpr_ok {e : ApiExpr} {res : Bool} (hh : ref10_zeroExpr e = some res) : ref10_zeroExpr_m e res := by
  unfold ref10_zeroExpr at hh
  refine ACall.intro hC Tryz.func107 rfl rfl rfl ?_
  obtain ⟨x1, hx1, hh⟩ := bs' hh
  refine s' rfl rfl (AOps.n hC rfl (q' rfl (n' (s' rfl rfl (q' rfl (q' rfl (AOps.c rfl rfl (ref10_EqualExpr_ok hx1) (q' rfl (n' (re' ?_))))))))))
  obtain rfl := oi' hh
  exact ⟨_, _, [], rfl, .rfl, trivial, rfl, rfl, rfl, rfl⟩
mutual
def ref10_exprNodes (e : ApiExpr) : Option Int :=
  ref10_exprNodes_l1 e 1 0
  partial_fixpoint
def ref10_exprNodes_l1 (e : ApiExpr) (n : Int) (i : Int) : Option Int :=
  if (decide (i < ((e.Kids).length : Int))) = true then
    idx e.Kids i >>= fun x1 =>
    ref10_exprNodes x1 >>= fun x2 =>
    ref10_exprNodes_l1 e (IntKind.i64.wrap (n + x2)) (IntKind.i64.wrap (i + 1))
  else
    some n
  partial_fixpoint
end
abbrev ref10_exprNodes_m (e : ApiExpr) (res : Int) : Prop := ACall C 108 [.agg (ApiExpr.cells e)] [] (fun x H' => H' = [] ∧ x = .d (.int .i64 res))
abbrev ref10_exprNodes_l1_m (e : ApiExpr) (n : Int) (i : Int) (res : Int) : Prop := ALoop (Fx.mk C 21 0) (lo (bk (sr (sl (sr (sr (bodyOf Tryz.f108))))))) (mkEnv [(1, .ref 0 0), (3, .d (.int .i64 n)), (4, .d (.int .i64 i))]) [.row (ApiExpr.cells e) 36] (Am.InBlock 0 (Am.Then (Fx.mk C 21 0) (sr (sr (sr (bodyOf Tryz.f108)))) (Am.Ends (Fx.mk C 21 0) Tryz.f108.results.toList (fun x H' => H' = [] ∧ x = .d (.int .i64 res)))))
theorem ref10_exprNodes_grp : (∀ (e : ApiExpr) (res : Int), ref10_exprNodes e = some res → ref10_exprNodes_m e res) ∧
    (∀ (e : ApiExpr) (n : Int) (i : Int) (res : Int), ref10_exprNodes_l1 e n i = some res → ref10_exprNodes_l1_m e n i res) := by
  refine ref10_exprNodes.mutual_partial_correctness (fun e res => ref10_exprNodes_m e res)
    (fun e n i res => ref10_exprNodes_l1_m e n i res) ?_ ?_
  · intro g1 ih1 e res hh
    refine ACall.intro hC Tryz.func108 rfl rfl rfl ?_
    refine s' rfl rfl (AOps.n hC rfl (q' rfl (n' (s' rfl rfl (q' rfl (n' (S' (s' rfl rfl (q' rfl (n' (AEx.block ?_)))))))))))
    refine AEx.ofLoop ?_
    refine ALoop.wk ?_ (ih1 _ _ _ _ hh)
    exact ⟨⟨⟨.rfl, rfl⟩, ⟨⟨.rfl, rfl⟩, ⟨⟨.rfl, rfl⟩, trivial⟩⟩⟩, ⟨⟨rfl, .refl _, rfl⟩, trivial⟩, rfl⟩
  · intro g0 g1 ih0 ih1 e n i res hh
    refine ALoop.unroll ?_
    refine S' (s' rfl rfl (q' rfl (q' rfl (q' rfl (qe' rfl trivial (ApiExpr.lenA _) (q' rfl (n' ?_)))))))
    refine ci' rfl hh (fun hh => ?_) (fun hh => ?_)
    · obtain ⟨x1, hx1, hh⟩ := bs' hh
      obtain ⟨x2, hx2, hh⟩ := bs' hh
      refine sk' (S' (AEx.block (R' rfl rfl (q' rfl (q' rfl (q' rfl (q' rfl (i' rfl (idx_nat hx1) (ApiExpr.idx hx1) rfl (q' rfl (AOps.c rfl rfl (ih0 _ _ hx2) (q' rfl (q' rfl (n' ?_)))))))))))))
      refine R' rfl rfl (q' rfl (q' rfl (q' rfl (n' ?_))))
      refine ALoop.wk ?_ (ih1 _ _ _ _ hh)
      exact ⟨⟨⟨.rfl, rfl⟩, ⟨⟨.rfl, rfl⟩, ⟨⟨.rfl, rfl⟩, trivial⟩⟩⟩, ⟨⟨rfl, .refl _, rfl⟩, trivial⟩, rfl⟩
    refine ex' (s' rfl rfl (q' rfl (q' rfl (n' (re' ?_)))))
    obtain rfl := oi' hh
    exact ⟨_, _, [], rfl, .rfl, trivial, rfl, rfl, rfl, rfl⟩
theorem ref10_exprNodes_ok {e : ApiExpr} {res : Int} (hh : ref10_exprNodes e = some res) : ref10_exprNodes_m e res := (ref10_exprNodes_grp).1 _ _ hh
theorem ref10_exprNodes_l1_ok {e : ApiExpr} {n : Int} {i : Int} {res : Int} (hh : ref10_exprNodes_l1 e n i = some res) : ref10_exprNodes_l1_m e n i res := (ref10_exprNodes_grp).2 _ _ _ _ hh
mutual
def ref10_exprDepth (e : ApiExpr) : Option Int :=
  ref10_exprDepth_l1 e 0 0
  partial_fixpoint
def ref10_exprDepth_l1 (e : ApiExpr) (d : Int) (i : Int) : Option Int :=
  if (decide (i < ((e.Kids).length : Int))) = true then
    idx e.Kids i >>= fun x1 =>
    ref10_exprDepth x1 >>= fun x2 =>
    if (decide (x2 > d)) = true then
      ref10_exprDepth_l1 e x2 (IntKind.i64.wrap (i + 1))
    else
      ref10_exprDepth_l1 e d (IntKind.i64.wrap (i + 1))
  else
    some (IntKind.i64.wrap (d + 1))
  partial_fixpoint
end
abbrev ref10_exprDepth_m (e : ApiExpr) (res : Int) : Prop := ACall C 110 [.agg (ApiExpr.cells e)] [] (fun x H' => H' = [] ∧ x = .d (.int .i64 res))
abbrev ref10_exprDepth_l1_m (e : ApiExpr) (d : Int) (i : Int) (res : Int) : Prop := ALoop (Fx.mk C 25 0) (lo (bk (sr (sl (sr (sr (bodyOf Tryz.f110))))))) (mkEnv [(1, .ref 0 0), (3, .d (.int .i64 d)), (4, .d (.int .i64 i))]) [.row (ApiExpr.cells e) 36] (Am.InBlock 0 (Am.Then (Fx.mk C 25 0) (sr (sr (sr (bodyOf Tryz.f110)))) (Am.Ends (Fx.mk C 25 0) Tryz.f110.results.toList (fun x H' => H' = [] ∧ x = .d (.int .i64 res)))))
theorem ref10_exprDepth_grp : (∀ (e : ApiExpr) (res : Int), ref10_exprDepth e = some res → ref10_exprDepth_m e res) ∧
    (∀ (e : ApiExpr) (d : Int) (i : Int) (res : Int), ref10_exprDepth_l1 e d i = some res → ref10_exprDepth_l1_m e d i res) := by
  refine ref10_exprDepth.mutual_partial_correctness (fun e res => ref10_exprDepth_m e res)
    (fun e d i res => ref10_exprDepth_l1_m e d i res) ?_ ?_
  · intro g1 ih1 e res hh
    refine ACall.intro hC Tryz.func110 rfl rfl rfl ?_
    refine s' rfl rfl (AOps.n hC rfl (q' rfl (n' (s' rfl rfl (q' rfl (n' (S' (s' rfl rfl (q' rfl (n' (AEx.block ?_)))))))))))
    refine AEx.ofLoop ?_
    refine ALoop.wk ?_ (ih1 _ _ _ _ hh)
    exact ⟨⟨⟨.rfl, rfl⟩, ⟨⟨.rfl, rfl⟩, ⟨⟨.rfl, rfl⟩, trivial⟩⟩⟩, ⟨⟨rfl, .refl _, rfl⟩, trivial⟩, rfl⟩
  · intro g0 g1 ih0 ih1 e d i res hh
    refine ALoop.unroll ?_
    refine S' (s' rfl rfl (q' rfl (q' rfl (q' rfl (qe' rfl trivial (ApiExpr.lenA _) (q' rfl (n' ?_)))))))
    refine ci' rfl hh (fun hh => ?_) (fun hh => ?_)
    · obtain ⟨x1, hx1, hh⟩ := bs' hh
      obtain ⟨x2, hx2, hh⟩ := bs' hh
      refine sk' (S' (AEx.block (s' rfl rfl (q' rfl (q' rfl (q' rfl (i' rfl (idx_nat hx1) (ApiExpr.idx hx1) rfl (q' rfl (AOps.c rfl rfl (ih0 _ _ hx2) (q' rfl (n' (s' rfl rfl (q' rfl ?_)))))))))))))
      refine q' rfl (q' rfl (n' ?_))
      refine ci' rfl hh (fun hh => ?_) (fun hh => ?_)
      · refine R' rfl rfl (q' rfl (q' rfl (n' (R' rfl rfl (q' rfl (q' rfl (q' rfl (n' ?_))))))))
        refine ALoop.wk ?_ (ih1 _ _ _ _ hh)
        exact ⟨⟨⟨.rfl, rfl⟩, ⟨⟨.rfl, rfl⟩, ⟨⟨.rfl, rfl⟩, trivial⟩⟩⟩, ⟨⟨rfl, .refl _, rfl⟩, trivial⟩, rfl⟩
      refine sk' (R' rfl rfl (q' rfl (q' rfl (q' rfl (n' ?_)))))
      refine ALoop.wk ?_ (ih1 _ _ _ _ hh)
      exact ⟨⟨⟨.rfl, rfl⟩, ⟨⟨.rfl, rfl⟩, ⟨⟨.rfl, rfl⟩, trivial⟩⟩⟩, ⟨⟨rfl, .refl _, rfl⟩, trivial⟩, rfl⟩
    refine ex' (s' rfl rfl (q' rfl (q' rfl (q' rfl (n' (re' ?_))))))
    obtain rfl := oi' hh
    exact ⟨_, _, [], rfl, .rfl, trivial, rfl, rfl, rfl, rfl⟩
theorem ref10_exprDepth_ok {e : ApiExpr} {res : Int} (hh : ref10_exprDepth e = some res) : ref10_exprDepth_m e res := (ref10_exprDepth_grp).1 _ _ hh
theorem ref10_exprDepth_l1_ok {e : ApiExpr} {d : Int} {i : Int} {res : Int} (hh : ref10_exprDepth_l1 e d i = some res) : ref10_exprDepth_l1_m e d i res := (ref10_exprDepth_grp).2 _ _ _ _ hh
def ref10_addExpr (s : Keyholeref10Size) (e : ApiExpr) (used : Bool) : Option Keyholeref10Size :=
  (if (!used) = true then ref10_zeroExpr e else some default) >>= fun x1 =>
  if (bif (!used) then x1 else false) = true then
    some s
  else
    ref10_exprNodes e >>= fun x2 =>
    ref10_exprDepth e >>= fun x3 =>
    ref10_size_deeper (Keyholeref10Size.mk (IntKind.i64.wrap (s.nodes + x2)) s.depth) x3 >>= fun x4 =>
    some x4
abbrev ref10_addExpr_m (s : Keyholeref10Size) (e : ApiExpr) (used : Bool) (res : Keyholeref10Size) : Prop := ACall C 49 [.agg (Keyholeref10Size.cells s), .agg (ApiExpr.cells e), .d (.bool used)] [] (fun x H' => H' = [] ∧ x = .agg (Keyholeref10Size.cells res))
theorem ref10_addExpr_ok {s : Keyholeref10Size} {e : ApiExpr} {used : Bool} {res : Keyholeref10Size} (hh : ref10_addExpr s e used = some res) : ref10_addExpr_m s e used res := by
  unfold ref10_addExpr at hh
  refine ACall.intro hC Tryz.func49 rfl rfl rfl ?_
  obtain ⟨x1, hx1, hh⟩ := bs' hh
  refine s' rfl rfl (AOps.n hC rfl (AOps.n hC rfl (AOps.n hC rfl (n' (S' (sg' 6 rfl (a0' rfl (a0' rfl (a0' rfl (a0' rfl (AG.c rfl rfl (fun hg => ⟨hg, trivial⟩) (fun hw => ref10_zeroExpr_ok (if_t hw hx1)) (pa' rfl (an' ?_)))))))))))))
  refine n' ?_
  refine ci' rfl hh (fun hh => ?_) (fun hh => ?_)
  · refine s' rfl rfl (q' rfl (AOps.s hC rfl (n' (re' ?_))))
    obtain rfl := oi' hh
    exact ⟨_, _, [], rfl, .rfl, trivial, rfl, rfl, rfl, rfl⟩
  obtain ⟨x2, hx2, hh⟩ := bs' hh
  obtain ⟨x3, hx3, hh⟩ := bs' hh
  obtain ⟨x4, hx4, hh⟩ := bs' hh
  refine sk' (S' (AEx.draw hC 6 rfl rfl rfl (Q' rfl (Q' rfl (Q' rfl (AQ.c rfl rfl (ref10_exprNodes_ok hx2) (Q' rfl (Q' rfl (Qn' (AOps.s hC rfl (n' (S' (AEx.draw hC 4 rfl rfl rfl ?_)))))))))))))
  refine Q' rfl (Q' rfl (AQ.c rfl rfl (ref10_exprDepth_ok hx3) (AQ.c rfl rfl (ref10_size_deeper_ok hx4) (Qn' (AOps.s hC rfl (n' (re' ?_)))))))
  obtain rfl := oi' hh
  exact ⟨_, _, [], rfl, .rfl, trivial, rfl, rfl, rfl, rfl⟩
def ref10_kids (o : Int) : Option Int :=
  if (bif (bif (bif (o == 0) then true else (o == 1)) then true else (o == 2)) then true else (o == 3)) = true then
    some 0
  else
    if (bif (bif (o == 4) then true else (o == 6)) then true else (o == 7)) = true then
      some 1
    else
      if (bif (o == 5) then true else (bif (decide (o ≥ 8)) then (decide (o ≤ 22)) else false)) = true then
        some 2
      else
        if (o == 23) = true then
          some 3
        else
          some (-1)
abbrev ref10_kids_m (o : Int) (res : Int) : Prop := ACall C 111 [.d (.int .i64 o)] [] (fun x H' => H' = [] ∧ x = .d (.int .i64 res))
theorem ref10_kids_ok {o : Int} {res : Int} (hh : ref10_kids o = some res) : ref10_kids_m o res := by
  unfold ref10_kids at hh
  refine ACall.intro hC Tryz.func111 rfl rfl rfl ?_
  refine s' rfl rfl (q' rfl (n' (S' (sg' 14 rfl (a0' rfl (a0' rfl (a0' rfl (a0' rfl (a1' rfl (po' rfl (a0' rfl (a0' rfl (a1' rfl ?_)))))))))))))
  refine po' rfl (a0' rfl (a0' rfl (a1' rfl (po' rfl (an' (n' ?_))))))
  refine ci' rfl hh (fun hh => ?_) (fun hh => ?_)
  · refine s' rfl rfl (q' rfl (n' (re' ?_)))
    obtain rfl := oi' hh
    exact ⟨_, _, [], rfl, .rfl, trivial, rfl, rfl, rfl, rfl⟩
  refine sk' (S' (sg' 10 rfl (a0' rfl (a0' rfl (a0' rfl (a0' rfl (a1' rfl (po' rfl (a0' rfl (a0' rfl (a1' rfl (po' rfl (an' ?_)))))))))))))
  refine n' ?_
  refine ci' rfl hh (fun hh => ?_) (fun hh => ?_)
  · refine s' rfl rfl (q' rfl (n' (re' ?_)))
    obtain rfl := oi' hh
    exact ⟨_, _, [], rfl, .rfl, trivial, rfl, rfl, rfl, rfl⟩
  refine sk' (S' (sg' 10 rfl (a0' rfl (a0' rfl (a0' rfl (a0' rfl (a1' rfl (a1' rfl (a0' rfl (a1' rfl (pA' rfl (po' rfl (an' ?_)))))))))))))
  refine n' ?_
  refine ci' rfl hh (fun hh => ?_) (fun hh => ?_)
  · refine s' rfl rfl (q' rfl (n' (re' ?_)))
    obtain rfl := oi' hh
    exact ⟨_, _, [], rfl, .rfl, trivial, rfl, rfl, rfl, rfl⟩
  refine sk' (S' (s' rfl rfl (q' rfl (q' rfl (n' ?_)))))
  refine ci' rfl hh (fun hh => ?_) (fun hh => ?_)
  · refine s' rfl rfl (q' rfl (n' (re' ?_)))
    obtain rfl := oi' hh
    exact ⟨_, _, [], rfl, .rfl, trivial, rfl, rfl, rfl, rfl⟩
  refine sk' (s' rfl rfl (q' rfl (n' (re' ?_))))
  obtain rfl := oi' hh
  exact ⟨_, _, [], rfl, .rfl, trivial, rfl, rfl, rfl, rfl⟩
def ref10_isPlace (e : ApiExpr) : Option Bool :=
  if (e.Op == 3) = true then
    some true
  else
    (if (bif (bif (e.Op == 4) then true else (e.Op == 5)) then (decide (((e.Kids).length : Int) > 0)) else false) = true then idx e.Kids 0 else some default) >>= fun x1 =>
    (if (bif (bif (e.Op == 4) then true else (e.Op == 5)) then (decide (((e.Kids).length : Int) > 0)) else false) = true then ref10_isPlace x1 else some default) >>= fun x2 =>
    some (bif (bif (bif (e.Op == 4) then true else (e.Op == 5)) then (decide (((e.Kids).length : Int) > 0)) else false) then x2 else false)
  partial_fixpoint
abbrev ref10_isPlace_m (e : ApiExpr) (res : Bool) : Prop := ACall C 112 [.agg (ApiExpr.cells e)] [] (fun x H' => H' = [] ∧ x = .d (.bool res))
theorem ref10_isPlace_grp : (∀ (e : ApiExpr) (res : Bool), ref10_isPlace e = some res → ref10_isPlace_m e res) := by
  refine ref10_isPlace.partial_correctness (fun e res => ref10_isPlace_m e res) ?_
  · intro g0 ih0 e res hh
    refine ACall.intro hC Tryz.func112 rfl rfl rfl ?_
    refine s' rfl rfl (AOps.n hC rfl (q' rfl (n' (S' (s' rfl rfl (q' rfl (q' rfl (q' rfl (n' ?_)))))))))
    refine ci' rfl hh (fun hh => ?_) (fun hh => ?_)
    · refine s' rfl rfl (q' rfl (n' (re' ?_)))
      obtain rfl := oi' hh
      exact ⟨_, _, [], rfl, .rfl, trivial, rfl, rfl, rfl, rfl⟩
    obtain ⟨x1, hx1, hh⟩ := bs' hh
    obtain ⟨x2, hx2, hh⟩ := bs' hh
    refine sk' (sg' 22 rfl (a0' rfl (a0' rfl (a0' rfl (a0' rfl (a0' rfl (a1' rfl (a1' rfl (po' rfl (a0' rfl (a0' rfl (a1' rfl (AG.qe hC rfl (fun hg => ⟨⟨hg, trivial⟩, trivial⟩) (ApiExpr.lenA _) ?_)))))))))))))
    refine a1' rfl (pa' rfl (a0' rfl (a0' rfl (a1' rfl (AG.i hC rfl rfl (fun hg => ⟨hg, trivial⟩) (fun hw => ⟨idx_nat (if_t hw hx1), ApiExpr.idx (if_t hw hx1), rfl⟩) (a1' rfl (AG.c rfl rfl (fun hg => ⟨hg, trivial⟩) (fun hw => ih0 _ _ (if_t hw hx2)) (pa' rfl (a0' rfl (an' (n' (re' ?_))))))))))))
    obtain rfl := oi' hh
    exact ⟨_, _, [], rfl, .rfl, trivial, rfl, rfl, rfl, rfl⟩
theorem ref10_isPlace_ok {e : ApiExpr} {res : Bool} (hh : ref10_isPlace e = some res) : ref10_isPlace_m e res := (ref10_isPlace_grp) _ _ hh
mutual
def ref10_exprForm (e : ApiExpr) : Option Bool :=
  ref10_kids e.Op >>= fun x1 =>
  if (bif (bif (x1 != ((e.Kids).length : Int)) then true else (bif (e.Op != 0) then (e.NV != 0) else false)) then true else (bif (bif (e.Op != 3) then (e.Op != 4) else false) then (!(e.Name == [])) else false)) = true then
    some false
  else
    (if (bif (e.Op == 4) then true else (e.Op == 5)) = true then ref10_isPlace e else some default) >>= fun x2 =>
    if (bif (bif (e.Op == 4) then true else (e.Op == 5)) then (!x2) else false) = true then
      some false
    else
      ref10_exprForm_l1 e 0
  partial_fixpoint
def ref10_exprForm_l1 (e : ApiExpr) (i : Int) : Option Bool :=
  if (decide (i < ((e.Kids).length : Int))) = true then
    idx e.Kids i >>= fun x3 =>
    ref10_exprForm x3 >>= fun x4 =>
    if (!x4) = true then
      some false
    else
      ref10_exprForm_l1 e (IntKind.i64.wrap (i + 1))
  else
    some true
  partial_fixpoint
end
abbrev ref10_exprForm_m (e : ApiExpr) (res : Bool) : Prop := ACall C 50 [.agg (ApiExpr.cells e)] [] (fun x H' => H' = [] ∧ x = .d (.bool res))
abbrev ref10_exprForm_l1_m (e : ApiExpr) (i : Int) (res : Bool) : Prop := ALoop (Fx.mk C 63 0) (lo (bk (sr (sl (sr (sr (sr (bodyOf Tryz.f50)))))))) (mkEnv [(1, .ref 0 0), (3, .d (.int .i64 i))]) [.row (ApiExpr.cells e) 36] (Am.InBlock 0 (Am.Then (Fx.mk C 63 0) (sr (sr (sr (sr (bodyOf Tryz.f50))))) (Am.Ends (Fx.mk C 63 0) Tryz.f50.results.toList (fun x H' => H' = [] ∧ x = .d (.bool res)))))
theorem ref10_exprForm_grp : (∀ (e : ApiExpr) (res : Bool), ref10_exprForm e = some res → ref10_exprForm_m e res) ∧
    (∀ (e : ApiExpr) (i : Int) (res : Bool), ref10_exprForm_l1 e i = some res → ref10_exprForm_l1_m e i res) := by
  refine ref10_exprForm.mutual_partial_correctness (fun e res => ref10_exprForm_m e res)
    (fun e i res => ref10_exprForm_l1_m e i res) ?_ ?_
  · intro g1 ih1 e res hh
    refine ACall.intro hC Tryz.func50 rfl rfl rfl ?_
    obtain ⟨x1, hx1, hh⟩ := bs' hh
    refine s' rfl rfl (AOps.n hC rfl (q' rfl (n' (S' (S' (AEx.drawG hC 32 rfl rfl rfl (a0' rfl (a0' rfl (AG.c rfl rfl (fun _ => trivial) (fun _ => ref10_kids_ok hx1) (a0' rfl (a0' rfl (AG.qe hC rfl (fun hg => ⟨trivial, trivial⟩) (ApiExpr.lenA _) (a0' rfl ?_)))))))))))))
    refine a0' rfl (a0' rfl (a1' rfl (a1' rfl (a1' rfl (a0' rfl (a1' rfl (a1' rfl (pA' rfl (po' rfl (a0' rfl (a0' rfl (a1' rfl (a1' rfl ?_)))))))))))))
    refine a1' rfl (a0' rfl (a1' rfl (a1' rfl (pA' rfl (a1' rfl (a0' rfl (a1' rfl (a1' rfl (pA' rfl (po' rfl (an' (n' ?_))))))))))))
    refine ci' rfl hh (fun hh => ?_) (fun hh => ?_)
    · refine s' rfl rfl (q' rfl (n' (re' ?_)))
      obtain rfl := oi' hh
      exact ⟨_, _, [], rfl, .rfl, trivial, rfl, rfl, rfl, rfl⟩
    obtain ⟨x2, hx2, hh⟩ := bs' hh
    refine sk' (S' (sg' 13 rfl (a0' rfl (a0' rfl (a0' rfl (a0' rfl (a0' rfl (a1' rfl (a1' rfl (po' rfl (a0' rfl (a0' rfl (AG.c rfl rfl (fun hg => ⟨hg, trivial⟩) (fun hw => ref10_isPlace_ok (if_t hw hx2)) ?_)))))))))))))
    refine a1' rfl (pa' rfl (an' (n' ?_)))
    refine ci' rfl hh (fun hh => ?_) (fun hh => ?_)
    · refine s' rfl rfl (q' rfl (n' (re' ?_)))
      obtain rfl := oi' hh
      exact ⟨_, _, [], rfl, .rfl, trivial, rfl, rfl, rfl, rfl⟩
    refine sk' (S' (s' rfl rfl (q' rfl (n' (AEx.block ?_)))))
    refine AEx.ofLoop ?_
    refine ALoop.wk ?_ (ih1 _ _ _ hh)
    exact ⟨⟨⟨.rfl, rfl⟩, ⟨⟨.rfl, rfl⟩, trivial⟩⟩, ⟨⟨rfl, .refl _, rfl⟩, trivial⟩, rfl⟩
  · intro g0 g1 ih0 ih1 e i res hh
    refine ALoop.unroll ?_
    refine S' (s' rfl rfl (q' rfl (q' rfl (q' rfl (qe' rfl trivial (ApiExpr.lenA _) (q' rfl (n' ?_)))))))
    refine ci' rfl hh (fun hh => ?_) (fun hh => ?_)
    · obtain ⟨x3, hx3, hh⟩ := bs' hh
      obtain ⟨x4, hx4, hh⟩ := bs' hh
      refine sk' (S' (AEx.block (s' rfl rfl (q' rfl (q' rfl (q' rfl (i' rfl (idx_nat hx3) (ApiExpr.idx hx3) rfl (q' rfl (AOps.c rfl rfl (ih0 _ _ hx4) (q' rfl (n' ?_)))))))))))
      refine ci' rfl hh (fun hh => ?_) (fun hh => ?_)
      · refine s' rfl rfl (q' rfl (n' (re' ?_)))
        obtain rfl := oi' hh
        exact ⟨_, _, [], rfl, .rfl, trivial, rfl, rfl, rfl, rfl⟩
      refine sk' (R' rfl rfl (q' rfl (q' rfl (q' rfl (n' ?_)))))
      refine ALoop.wk ?_ (ih1 _ _ _ hh)
      exact ⟨⟨⟨.rfl, rfl⟩, ⟨⟨.rfl, rfl⟩, trivial⟩⟩, ⟨⟨rfl, .refl _, rfl⟩, trivial⟩, rfl⟩
    refine ex' (s' rfl rfl (q' rfl (n' (re' ?_))))
    obtain rfl := oi' hh
    exact ⟨_, _, [], rfl, .rfl, trivial, rfl, rfl, rfl, rfl⟩
theorem ref10_exprForm_ok {e : ApiExpr} {res : Bool} (hh : ref10_exprForm e = some res) : ref10_exprForm_m e res := (ref10_exprForm_grp).1 _ _ hh
theorem ref10_exprForm_l1_ok {e : ApiExpr} {i : Int} {res : Bool} (hh : ref10_exprForm_l1 e i = some res) : ref10_exprForm_l1_m e i res := (ref10_exprForm_grp).2 _ _ _ hh
end Go.Proofs.YtmilgoloagbmpaaGreatDoor

