/- A part of the proof of SyntaxPrint. -/
import Derived.Test.YtmilgoloagbmpaaGreatDoorDgA
set_option maxRecDepth 100000
set_option maxHeartbeats 4000000
set_option linter.unusedVariables false
namespace Go.Proofs.YtmilgoloagbmpaaGreatDoor
open Go.Am
def Y1 (d : E0) (b12 : Str) (v52 : Int) : Option Str :=
  if (decide (v52 < ((d.Vars).length : Int))) = true then
    idx d.Vars v52 >>= fun x8 =>
    F0 [9] b12 >>= fun x9 =>
    E5 x8 x9.2 >>= fun x10 =>
    Y1 d x10 (IntKind.i64.wrap (v52 + 1))
  else
    B3 d.Body [9] b12 >>= fun x11 =>
    F0 [9, 114, 101, 116, 117, 114, 110, 32] x11 >>= fun x12 =>
    U0 d.Value x12.2 >>= fun x13 =>
    F0 [59, 10, 125, 10] x13 >>= fun x14 =>
    some x14.2
  partial_fixpoint
abbrev Te (d : E0) (b12 : Str) (v52 : Int) (res : Str) : Prop := Q0 (Fx.mk C 80 2) (lo (bk (sr (sl (sr (sr (sr (sr (sr (sr (N0 Tryz.f114))))))))))) (X0 [(0, .ref 0 0), (3, .ref 2 0), (50, .d (.sl (E0.rows d.Vars))), (51, .d (.int .i64 ((d.Vars).length : Int))), (52, .d (.int .i64 v52))]) [.bld 1 86, .buf 5 b12, .row (E0.cells d) 64] (Am.InBlock 2 (Am.Then (Fx.mk C 80 2) (sr (sr (sr (sr (sr (sr (sr (N0 Tryz.f114)))))))) (Am.Ends (Fx.mk C 80 2) Tryz.f114.results.toList (fun x H' => H' = [.bld 1 86, .buf 5 res] ∧ x = .tup []))))
theorem Tt (d : E0) : (∀ (b12 : Str) (v52 : Int) (res : Str), Y1 d b12 v52 = some res → Te d b12 v52 res) := by
  refine Y1.partial_correctness d
    (fun b12 v52 res => Te d b12 v52 res) ?_
  · intro g0 ih0 b12 v52 res hh
    refine Q0.unroll ?_
    refine s' rfl rfl (q' rfl (n' (S' ?_)))
    refine ci' rfl hh (fun hh => ?_) (fun hh => ?_)
    · obtain ⟨x8, hx8, hh⟩ := bs' hh
      obtain ⟨x9, hx9, hh⟩ := bs' hh
      obtain ⟨x10, hx10, hh⟩ := bs' hh
      refine sk' (S' (AEx.block (s' rfl rfl (i' rfl (V0 hx8) (E0.idx hx8) rfl (q' rfl (J0.nf hC rfl (J0.s hC rfl (n' (s' rfl rfl (q' rfl (q' rfl (q' rfl (J0.g [0, 1] rfl (K0 hx9) ⟨.rfl, ⟨.rfl, trivial⟩⟩ rfl ⟨rfl, ⟨rfl, trivial⟩⟩ rfl rfl ?_)))))))))))))
      refine n' (R' rfl rfl (q' rfl (q' rfl (J0.g [0, 1] rfl (Cn hx10) ⟨.rfl, ⟨.rfl, trivial⟩⟩ rfl ⟨rfl, ⟨rfl, trivial⟩⟩ rfl rfl (n' (R' rfl rfl (q' rfl (q' rfl (n' ?_)))))))))
      refine Q0.wk ?_ (ih0 _ _ _ hh)
      exact ⟨⟨⟨.rfl, rfl⟩, ⟨⟨.rfl, rfl⟩, ⟨⟨.rfl, rfl⟩, ⟨⟨.rfl, rfl⟩, ⟨⟨.rfl, rfl⟩, trivial⟩⟩⟩⟩⟩, ⟨⟨rfl, Nat.le_of_ble_eq_true rfl⟩, ⟨rfl, ⟨⟨rfl, .refl _, rfl⟩, trivial⟩⟩⟩, rfl⟩
    obtain ⟨x11, hx11, hh⟩ := bs' hh
    obtain ⟨x12, hx12, hh⟩ := bs' hh
    obtain ⟨x13, hx13, hh⟩ := bs' hh
    obtain ⟨x14, hx14, hh⟩ := bs' hh
    refine ex' (s' rfl rfl (q' rfl (q' rfl (q' rfl (J0.g [0, 1] rfl (Hq hx11) ⟨.rfl, ⟨.rfl, ⟨.rfl, trivial⟩⟩⟩ rfl ⟨rfl, ⟨rfl, trivial⟩⟩ rfl rfl (n' (s' rfl rfl (q' rfl (q' rfl (q' rfl (J0.g [0, 1] rfl (K0 hx12) ⟨.rfl, ⟨.rfl, trivial⟩⟩ rfl ⟨rfl, ⟨rfl, trivial⟩⟩ rfl rfl (n' (s' rfl rfl ?_)))))))))))))
    refine q' rfl (q' rfl (q' rfl (J0.g [0, 1] rfl (J3 hx13) ⟨.rfl, ⟨.rfl, trivial⟩⟩ rfl ⟨rfl, ⟨rfl, trivial⟩⟩ rfl rfl (n' (R' rfl rfl (q' rfl (q' rfl (q' rfl (J0.g [0, 1] rfl (K0 hx14) ⟨.rfl, ⟨.rfl, trivial⟩⟩ rfl ⟨rfl, ⟨rfl, trivial⟩⟩ rfl rfl (n' ?_))))))))))
    obtain rfl := oi' hh
    exact ⟨_, _, [.bld 1 86, .buf 5 x14.2], rfl, .rfl, ⟨⟨rfl, Nat.le_of_ble_eq_true rfl⟩, ⟨rfl, trivial⟩⟩, rfl, rfl, rfl, rfl⟩
theorem Su {d : E0} {b12 : Str} {v52 : Int} {res : Str} (hh : Y1 d b12 v52 = some res) : Te d b12 v52 res := (Tt d) _ _ _ hh
mutual
def Z1 (d : E0) (b1 : Str) (v19 : Int) : Option Str :=
  if (decide (v19 < ((d.Params).length : Int))) = true then
    idx d.Params v19 >>= fun x2 =>
    if (decide (v19 > 0)) = true then
      F0 [44, 32] b1 >>= fun x4 =>
      C3 d x4.2 x2 v19
    else
      C3 d b1 x2 v19
  else
    F0 [41, 58, 32] b1 >>= fun x5 =>
    R1 d.TypeV x5.2 >>= fun x6 =>
    F0 [32, 123, 10] x6 >>= fun x7 =>
    Y1 d x7.2 0
  partial_fixpoint
def C3 (d : E0) (b11 : Str) (x2 : E0) (v191 : Int) : Option Str :=
  A3 x2.Name x2.TypeV b11 >>= fun x3 =>
  Z1 d x3 (IntKind.i64.wrap (v191 + 1))
  partial_fixpoint
end
abbrev Ue (d : E0) (b1 : Str) (v19 : Int) (res : Str) : Prop := Q0 (Fx.mk C 80 2) (lo (bk (sr (sl (sr (sr (N0 Tryz.f114))))))) (X0 [(0, .ref 0 0), (3, .ref 2 0), (17, .d (.sl (E0.rows d.Params))), (18, .d (.int .i64 ((d.Params).length : Int))), (19, .d (.int .i64 v19))]) [.bld 1 86, .buf 5 b1, .row (E0.cells d) 64] (Am.InBlock 0 (Am.Then (Fx.mk C 80 2) (sr (sr (sr (N0 Tryz.f114)))) (Am.Ends (Fx.mk C 80 2) Tryz.f114.results.toList (fun x H' => H' = [.bld 1 86, .buf 5 res] ∧ x = .tup []))))
abbrev Ve (d : E0) (b11 : Str) (x2 : E0) (v191 : Int) (res : Str) : Prop := AEx (Fx.mk C 80 2) (sr (sr (bk (sl (sr (sr (lo (bk (sr (sl (sr (sr (N0 Tryz.f114))))))))))))) (X0 [(0, .ref 0 0), (3, .ref 2 0), (5, .ref 3 0), (17, .d (.sl (E0.rows d.Params))), (18, .d (.int .i64 ((d.Params).length : Int))), (19, .d (.int .i64 v191))]) [.bld 1 86, .buf 5 b11, .row (E0.cells d) 64, .row (E0.cells x2) 64] (Am.InBlock 1 (Am.Then (Fx.mk C 80 2) (sr (sr (sr (lo (bk (sr (sl (sr (sr (N0 Tryz.f114)))))))))) (Am.Again (Fx.mk C 80 2) (lo (bk (sr (sl (sr (sr (N0 Tryz.f114))))))) (Am.InBlock 0 (Am.Then (Fx.mk C 80 2) (sr (sr (sr (N0 Tryz.f114)))) (Am.Ends (Fx.mk C 80 2) Tryz.f114.results.toList (fun x H' => H' = [.bld 1 86, .buf 5 res] ∧ x = .tup [])))))))
theorem Vi (d : E0) : (∀ (b1 : Str) (v19 : Int) (res : Str), Z1 d b1 v19 = some res → Ue d b1 v19 res) ∧
    (∀ (b11 : Str) (x2 : E0) (v191 : Int) (res : Str), C3 d b11 x2 v191 = some res → Ve d b11 x2 v191 res) := by
  refine Z1.mutual_partial_correctness d
    (fun b1 v19 res => Ue d b1 v19 res)
    (fun b11 x2 v191 res => Ve d b11 x2 v191 res) ?_ ?_
  · intro g1 ih1 b1 v19 res hh
    refine Q0.unroll ?_
    refine s' rfl rfl (q' rfl (n' (S' ?_)))
    refine ci' rfl hh (fun hh => ?_) (fun hh => ?_)
    · obtain ⟨x2, hx2, hh⟩ := bs' hh
      refine sk' (S' (AEx.block (s' rfl rfl (q' rfl (i' rfl (V0 hx2) (E0.idx hx2) rfl (q' rfl (J0.nf hC rfl (q' rfl (J0.s hC rfl (n' (S' (s' rfl rfl (q' rfl ?_)))))))))))))
      refine q' rfl (n' ?_)
      refine ci' rfl hh (fun hh => ?_) (fun hh => ?_)
      · obtain ⟨x4, hx4, hh⟩ := bs' hh
        refine R' rfl rfl (q' rfl (q' rfl (q' rfl (J0.g [0, 1] rfl (K0 hx4) ⟨.rfl, ⟨.rfl, trivial⟩⟩ rfl ⟨rfl, ⟨rfl, trivial⟩⟩ rfl rfl (n' ?_)))))
        refine AEx.wk ?_ (ih1 _ _ _ _ hh)
        exact ⟨⟨⟨.rfl, rfl⟩, ⟨⟨.rfl, rfl⟩, ⟨⟨.rfl, rfl⟩, ⟨⟨.rfl, rfl⟩, ⟨⟨.rfl, rfl⟩, ⟨⟨.rfl, rfl⟩, trivial⟩⟩⟩⟩⟩⟩, ⟨⟨rfl, Nat.le_of_ble_eq_true rfl⟩, ⟨rfl, ⟨⟨rfl, .refl _, rfl⟩, ⟨⟨rfl, .refl _, rfl⟩, trivial⟩⟩⟩⟩, rfl⟩
      refine sk' ?_
      refine AEx.wk ?_ (ih1 _ _ _ _ hh)
      exact ⟨⟨⟨.rfl, rfl⟩, ⟨⟨.rfl, rfl⟩, ⟨⟨.rfl, rfl⟩, ⟨⟨.rfl, rfl⟩, ⟨⟨.rfl, rfl⟩, ⟨⟨.rfl, rfl⟩, trivial⟩⟩⟩⟩⟩⟩, ⟨⟨rfl, Nat.le_of_ble_eq_true rfl⟩, ⟨rfl, ⟨⟨rfl, .refl _, rfl⟩, ⟨⟨rfl, .refl _, rfl⟩, trivial⟩⟩⟩⟩, rfl⟩
    obtain ⟨x5, hx5, hh⟩ := bs' hh
    obtain ⟨x6, hx6, hh⟩ := bs' hh
    obtain ⟨x7, hx7, hh⟩ := bs' hh
    refine ex' (s' rfl rfl (q' rfl (q' rfl (q' rfl (J0.g [0, 1] rfl (K0 hx5) ⟨.rfl, ⟨.rfl, trivial⟩⟩ rfl ⟨rfl, ⟨rfl, trivial⟩⟩ rfl rfl (n' (s' rfl rfl (q' rfl (q' rfl (q' rfl (J0.g [0, 1] rfl (Yk hx6) ⟨.rfl, ⟨.rfl, trivial⟩⟩ rfl ⟨rfl, ⟨rfl, trivial⟩⟩ rfl rfl (n' (s' rfl rfl ?_)))))))))))))
    refine q' rfl (q' rfl (q' rfl (J0.g [0, 1] rfl (K0 hx7) ⟨.rfl, ⟨.rfl, trivial⟩⟩ rfl ⟨rfl, ⟨rfl, trivial⟩⟩ rfl rfl (n' (S' (s' rfl rfl (q' rfl (q' rfl (qe' rfl trivial (E0.lenA _) (q' rfl (n' (AEx.block ?_))))))))))))
    refine AEx.ofLoop ?_
    refine Q0.wk ?_ (Su hh)
    exact ⟨⟨⟨.rfl, rfl⟩, ⟨⟨.rfl, rfl⟩, ⟨⟨.rfl, rfl⟩, ⟨⟨.rfl, rfl⟩, ⟨⟨.rfl, rfl⟩, trivial⟩⟩⟩⟩⟩, ⟨⟨rfl, Nat.le_of_ble_eq_true rfl⟩, ⟨rfl, ⟨⟨rfl, .refl _, rfl⟩, trivial⟩⟩⟩, rfl⟩
  · intro g0 ih0 b11 x2 v191 res hh
    obtain ⟨x3, hx3, hh⟩ := bs' hh
    refine R' rfl rfl (q' rfl (q' rfl (q' rfl (q' rfl (q' rfl (J0.g [0, 1] rfl (Q7 hx3) ⟨.rfl, ⟨.rfl, ⟨.rfl, trivial⟩⟩⟩ rfl ⟨rfl, ⟨rfl, trivial⟩⟩ rfl rfl (n' (R' rfl rfl (q' rfl (q' rfl (n' ?_)))))))))))
    refine Q0.wk ?_ (ih0 _ _ _ hh)
    exact ⟨⟨⟨.rfl, rfl⟩, ⟨⟨.rfl, rfl⟩, ⟨⟨.rfl, rfl⟩, ⟨⟨.rfl, rfl⟩, ⟨⟨.rfl, rfl⟩, trivial⟩⟩⟩⟩⟩, ⟨⟨rfl, Nat.le_of_ble_eq_true rfl⟩, ⟨rfl, ⟨⟨rfl, .refl _, rfl⟩, trivial⟩⟩⟩, rfl⟩
theorem Tu {d : E0} {b1 : Str} {v19 : Int} {res : Str} (hh : Z1 d b1 v19 = some res) : Ue d b1 v19 res := (Vi d).1 _ _ _ hh
theorem Q1a {d : E0} {b11 : Str} {x2 : E0} {v191 : Int} {res : Str} (hh : C3 d b11 x2 v191 = some res) : Ve d b11 x2 v191 res := (Vi d).2 _ _ _ _ hh
def R7 (d : E0) (b : Str) : Option Str :=
  if (decide (5 + d.Name.length ≤ maxLen)) = true then
    if (decide (([102, 117, 110, 99, 32] ++ d.Name).length + 1 ≤ maxLen)) = true then
      F0 (([102, 117, 110, 99, 32] ++ d.Name) ++ [40]) b >>= fun x1 =>
      Z1 d x1.2 0
    else none
  else none
abbrev Iy (d : E0) (b : Str) (res : Str) : Prop := R0 C 114 [.ref 0 0, .agg (E0.cells d)] [.bld 1 86, .buf 5 b] (fun x H' => H' = [.bld 1 86, .buf 5 res] ∧ x = .tup [])
theorem Nx {d : E0} {b : Str} {res : Str} (hh : R7 d b = some res) : Iy d b res := by
  unfold R7 at hh
  refine R0.intro hC Tryz.func114 rfl rfl rfl ?_
  obtain ⟨c17, hh⟩ := O0 hh
  obtain ⟨c18, hh⟩ := O0 hh
  obtain ⟨x1, hx1, hh⟩ := bs' hh
  refine s' rfl rfl (J0.n hC rfl (n' (S' (AEx.draw hC 7 rfl rfl rfl (Q' rfl (Q' rfl (Q' rfl (Q' rfl (Q' rfl (AQ.q hC rfl c17 (AQ.q hC rfl c18 (Qn' (J0.g [0, 1] rfl (K0 hx1) ⟨.rfl, ⟨.rfl, trivial⟩⟩ rfl ⟨rfl, ⟨rfl, trivial⟩⟩ rfl rfl ?_)))))))))))))
  refine n' (S' (s' rfl rfl (q' rfl (q' rfl (qe' rfl trivial (E0.lenA _) (q' rfl (n' (AEx.block ?_))))))))
  refine AEx.ofLoop ?_
  refine Q0.wk ?_ (Tu hh)
  exact ⟨⟨⟨.rfl, rfl⟩, ⟨⟨.rfl, rfl⟩, ⟨⟨.rfl, rfl⟩, ⟨⟨.rfl, rfl⟩, ⟨⟨.rfl, rfl⟩, trivial⟩⟩⟩⟩⟩, ⟨⟨rfl, Nat.le_of_ble_eq_true rfl⟩, ⟨rfl, ⟨⟨rfl, .refl _, rfl⟩, trivial⟩⟩⟩, rfl⟩
def Y8 (d : E0) (b : Str) : Option Str :=
  if (d.Kind == 4) = true then
    E5 d b >>= fun x1 =>
    some x1
  else
    if (d.Kind == 6) = true then
      R7 d b >>= fun x2 =>
      some x2
    else
      if (d.Kind == 0) = true then
        if (decide (5 + d.Name.length ≤ maxLen)) = true then
          if (decide (([116, 121, 112, 101, 32] ++ d.Name).length + 3 ≤ maxLen)) = true then
            F0 (([116, 121, 112, 101, 32] ++ d.Name) ++ [32, 61, 32]) b >>= fun x3 =>
            R1 d.TypeV x3.2 >>= fun x4 =>
            F0 [59, 10] x4 >>= fun x5 =>
            some x5.2
          else none
        else none
      else
        if (d.Kind == 1) = true then
          F0 [115, 101, 99, 114, 101, 116, 32] b >>= fun x6 =>
          A3 d.Name d.TypeV x6.2 >>= fun x7 =>
          F0 [59, 10] x7 >>= fun x5 =>
          some x5.2
        else
          if (d.Kind == 2) = true then
            F0 [112, 117, 98, 108, 105, 99, 32] b >>= fun x8 =>
            A3 d.Name d.TypeV x8.2 >>= fun x9 =>
            F0 [59, 10] x9 >>= fun x5 =>
            some x5.2
          else
            if (d.Kind == 3) = true then
              F0 [114, 97, 110, 100, 111, 109, 32] b >>= fun x10 =>
              A3 d.Name d.TypeV x10.2 >>= fun x11 =>
              F0 [59, 10] x11 >>= fun x5 =>
              some x5.2
            else
              if (d.Kind == 5) = true then
                F0 [104, 97, 116, 99, 104, 32] b >>= fun x12 =>
                A3 d.Name d.TypeV x12.2 >>= fun x13 =>
                F0 [32, 61, 32] x13 >>= fun x14 =>
                U0 d.Value x14.2 >>= fun x15 =>
                F0 [59, 10] x15 >>= fun x5 =>
                some x5.2
              else
                F0 [59, 10] b >>= fun x5 =>
                some x5.2
abbrev M11 (d : E0) (b : Str) (res : Str) : Prop := R0 C 53 [.ref 0 0, .agg (E0.cells d)] [.bld 1 86, .buf 5 b] (fun x H' => H' = [.bld 1 86, .buf 5 res] ∧ x = .tup [])
theorem T10 {d : E0} {b : Str} {res : Str} (hh : Y8 d b = some res) : M11 d b res := by
  unfold Y8 at hh
  refine R0.intro hC Tryz.func53 rfl rfl rfl ?_
  refine s' rfl rfl (J0.n hC rfl (n' (S' (s' rfl rfl (q' rfl (q' rfl (n' (AEx.block (s' rfl rfl (q' rfl (q' rfl (n' ?_))))))))))))
  refine ci' rfl hh (fun hh => ?_) (fun hh => ?_)
  · obtain ⟨x1, hx1, hh⟩ := bs' hh
    refine s' rfl rfl (q' rfl (q' rfl (J0.g [0, 1] rfl (Cn hx1) ⟨.rfl, ⟨.rfl, trivial⟩⟩ rfl ⟨rfl, ⟨rfl, trivial⟩⟩ rfl rfl (n' (re' ?_)))))
    obtain rfl := oi' hh
    exact ⟨_, _, [.bld 1 86, .buf 5 x1], rfl, .rfl, ⟨⟨rfl, Nat.le_of_ble_eq_true rfl⟩, ⟨rfl, trivial⟩⟩, rfl, rfl, rfl, rfl⟩
  refine s' rfl rfl (q' rfl (q' rfl (n' ?_)))
  refine ci' rfl hh (fun hh => ?_) (fun hh => ?_)
  · obtain ⟨x2, hx2, hh⟩ := bs' hh
    refine s' rfl rfl (q' rfl (q' rfl (J0.g [0, 1] rfl (Nx hx2) ⟨.rfl, ⟨.rfl, trivial⟩⟩ rfl ⟨rfl, ⟨rfl, trivial⟩⟩ rfl rfl (n' (re' ?_)))))
    obtain rfl := oi' hh
    exact ⟨_, _, [.bld 1 86, .buf 5 x2], rfl, .rfl, ⟨⟨rfl, Nat.le_of_ble_eq_true rfl⟩, ⟨rfl, trivial⟩⟩, rfl, rfl, rfl, rfl⟩
  refine s' rfl rfl (q' rfl (q' rfl (n' ?_)))
  refine ci' rfl hh (fun hh => ?_) (fun hh => ?_)
  · obtain ⟨c7, hh⟩ := O0 hh
    obtain ⟨c8, hh⟩ := O0 hh
    obtain ⟨x3, hx3, hh⟩ := bs' hh
    obtain ⟨x4, hx4, hh⟩ := bs' hh
    obtain ⟨x5, hx5, hh⟩ := bs' hh
    refine S' (AEx.draw hC 7 rfl rfl rfl (Q' rfl (Q' rfl (Q' rfl (Q' rfl (Q' rfl (AQ.q hC rfl c7 (AQ.q hC rfl c8 (Qn' (J0.g [0, 1] rfl (K0 hx3) ⟨.rfl, ⟨.rfl, trivial⟩⟩ rfl ⟨rfl, ⟨rfl, trivial⟩⟩ rfl rfl (n' (R' rfl rfl (q' rfl ?_)))))))))))))
    refine q' rfl (q' rfl (J0.g [0, 1] rfl (Yk hx4) ⟨.rfl, ⟨.rfl, trivial⟩⟩ rfl ⟨rfl, ⟨rfl, trivial⟩⟩ rfl rfl (n' (R' rfl rfl (q' rfl (q' rfl (q' rfl (J0.g [0, 1] rfl (K0 hx5) ⟨.rfl, ⟨.rfl, trivial⟩⟩ rfl ⟨rfl, ⟨rfl, trivial⟩⟩ rfl rfl (n' ?_)))))))))
    obtain rfl := oi' hh
    exact ⟨_, _, [.bld 1 86, .buf 5 x5.2], rfl, .rfl, ⟨⟨rfl, Nat.le_of_ble_eq_true rfl⟩, ⟨rfl, trivial⟩⟩, rfl, rfl, rfl, rfl⟩
  refine s' rfl rfl (q' rfl (q' rfl (n' ?_)))
  refine ci' rfl hh (fun hh => ?_) (fun hh => ?_)
  · obtain ⟨x6, hx6, hh⟩ := bs' hh
    obtain ⟨x7, hx7, hh⟩ := bs' hh
    obtain ⟨x5, hx5, hh⟩ := bs' hh
    refine s' rfl rfl (q' rfl (q' rfl (q' rfl (J0.g [0, 1] rfl (K0 hx6) ⟨.rfl, ⟨.rfl, trivial⟩⟩ rfl ⟨rfl, ⟨rfl, trivial⟩⟩ rfl rfl (n' (R' rfl rfl (q' rfl (q' rfl (q' rfl (q' rfl (q' rfl (J0.g [0, 1] rfl (Q7 hx7) ⟨.rfl, ⟨.rfl, ⟨.rfl, trivial⟩⟩⟩ rfl ⟨rfl, ⟨rfl, trivial⟩⟩ rfl rfl (n' ?_)))))))))))))
    refine R' rfl rfl (q' rfl (q' rfl (q' rfl (J0.g [0, 1] rfl (K0 hx5) ⟨.rfl, ⟨.rfl, trivial⟩⟩ rfl ⟨rfl, ⟨rfl, trivial⟩⟩ rfl rfl (n' ?_)))))
    obtain rfl := oi' hh
    exact ⟨_, _, [.bld 1 86, .buf 5 x5.2], rfl, .rfl, ⟨⟨rfl, Nat.le_of_ble_eq_true rfl⟩, ⟨rfl, trivial⟩⟩, rfl, rfl, rfl, rfl⟩
  refine s' rfl rfl (q' rfl (q' rfl (n' ?_)))
  refine ci' rfl hh (fun hh => ?_) (fun hh => ?_)
  · obtain ⟨x8, hx8, hh⟩ := bs' hh
    obtain ⟨x9, hx9, hh⟩ := bs' hh
    obtain ⟨x5, hx5, hh⟩ := bs' hh
    refine s' rfl rfl (q' rfl (q' rfl (q' rfl (J0.g [0, 1] rfl (K0 hx8) ⟨.rfl, ⟨.rfl, trivial⟩⟩ rfl ⟨rfl, ⟨rfl, trivial⟩⟩ rfl rfl (n' (R' rfl rfl (q' rfl (q' rfl (q' rfl (q' rfl (q' rfl (J0.g [0, 1] rfl (Q7 hx9) ⟨.rfl, ⟨.rfl, ⟨.rfl, trivial⟩⟩⟩ rfl ⟨rfl, ⟨rfl, trivial⟩⟩ rfl rfl (n' ?_)))))))))))))
    refine R' rfl rfl (q' rfl (q' rfl (q' rfl (J0.g [0, 1] rfl (K0 hx5) ⟨.rfl, ⟨.rfl, trivial⟩⟩ rfl ⟨rfl, ⟨rfl, trivial⟩⟩ rfl rfl (n' ?_)))))
    obtain rfl := oi' hh
    exact ⟨_, _, [.bld 1 86, .buf 5 x5.2], rfl, .rfl, ⟨⟨rfl, Nat.le_of_ble_eq_true rfl⟩, ⟨rfl, trivial⟩⟩, rfl, rfl, rfl, rfl⟩
  refine s' rfl rfl (q' rfl (q' rfl (n' ?_)))
  refine ci' rfl hh (fun hh => ?_) (fun hh => ?_)
  · obtain ⟨x10, hx10, hh⟩ := bs' hh
    obtain ⟨x11, hx11, hh⟩ := bs' hh
    obtain ⟨x5, hx5, hh⟩ := bs' hh
    refine s' rfl rfl (q' rfl (q' rfl (q' rfl (J0.g [0, 1] rfl (K0 hx10) ⟨.rfl, ⟨.rfl, trivial⟩⟩ rfl ⟨rfl, ⟨rfl, trivial⟩⟩ rfl rfl (n' (R' rfl rfl (q' rfl (q' rfl (q' rfl (q' rfl (q' rfl (J0.g [0, 1] rfl (Q7 hx11) ⟨.rfl, ⟨.rfl, ⟨.rfl, trivial⟩⟩⟩ rfl ⟨rfl, ⟨rfl, trivial⟩⟩ rfl rfl (n' ?_)))))))))))))
    refine R' rfl rfl (q' rfl (q' rfl (q' rfl (J0.g [0, 1] rfl (K0 hx5) ⟨.rfl, ⟨.rfl, trivial⟩⟩ rfl ⟨rfl, ⟨rfl, trivial⟩⟩ rfl rfl (n' ?_)))))
    obtain rfl := oi' hh
    exact ⟨_, _, [.bld 1 86, .buf 5 x5.2], rfl, .rfl, ⟨⟨rfl, Nat.le_of_ble_eq_true rfl⟩, ⟨rfl, trivial⟩⟩, rfl, rfl, rfl, rfl⟩
  refine s' rfl rfl (q' rfl (q' rfl (n' ?_)))
  refine ci' rfl hh (fun hh => ?_) (fun hh => ?_)
  · obtain ⟨x12, hx12, hh⟩ := bs' hh
    obtain ⟨x13, hx13, hh⟩ := bs' hh
    obtain ⟨x14, hx14, hh⟩ := bs' hh
    obtain ⟨x15, hx15, hh⟩ := bs' hh
    obtain ⟨x5, hx5, hh⟩ := bs' hh
    refine s' rfl rfl (q' rfl (q' rfl (q' rfl (J0.g [0, 1] rfl (K0 hx12) ⟨.rfl, ⟨.rfl, trivial⟩⟩ rfl ⟨rfl, ⟨rfl, trivial⟩⟩ rfl rfl (n' (s' rfl rfl (q' rfl (q' rfl (q' rfl (q' rfl (q' rfl (J0.g [0, 1] rfl (Q7 hx13) ⟨.rfl, ⟨.rfl, ⟨.rfl, trivial⟩⟩⟩ rfl ⟨rfl, ⟨rfl, trivial⟩⟩ rfl rfl (n' ?_)))))))))))))
    refine s' rfl rfl (q' rfl (q' rfl (q' rfl (J0.g [0, 1] rfl (K0 hx14) ⟨.rfl, ⟨.rfl, trivial⟩⟩ rfl ⟨rfl, ⟨rfl, trivial⟩⟩ rfl rfl (n' (R' rfl rfl (q' rfl (q' rfl (q' rfl (J0.g [0, 1] rfl (J3 hx15) ⟨.rfl, ⟨.rfl, trivial⟩⟩ rfl ⟨rfl, ⟨rfl, trivial⟩⟩ rfl rfl (n' (R' rfl rfl (q' rfl ?_)))))))))))))
    refine q' rfl (q' rfl (J0.g [0, 1] rfl (K0 hx5) ⟨.rfl, ⟨.rfl, trivial⟩⟩ rfl ⟨rfl, ⟨rfl, trivial⟩⟩ rfl rfl (n' ?_)))
    obtain rfl := oi' hh
    exact ⟨_, _, [.bld 1 86, .buf 5 x5.2], rfl, .rfl, ⟨⟨rfl, Nat.le_of_ble_eq_true rfl⟩, ⟨rfl, trivial⟩⟩, rfl, rfl, rfl, rfl⟩
  obtain ⟨x5, hx5, hh⟩ := bs' hh
  refine sk' (R' rfl rfl (q' rfl (q' rfl (q' rfl (J0.g [0, 1] rfl (K0 hx5) ⟨.rfl, ⟨.rfl, trivial⟩⟩ rfl ⟨rfl, ⟨rfl, trivial⟩⟩ rfl rfl (n' ?_))))))
  obtain rfl := oi' hh
  exact ⟨_, _, [.bld 1 86, .buf 5 x5.2], rfl, .rfl, ⟨⟨rfl, Nat.le_of_ble_eq_true rfl⟩, ⟨rfl, trivial⟩⟩, rfl, rfl, rfl, rfl⟩
def E6 (p : L0) (b2 : Str) (v18 : Int) : Option (Str × Int) :=
  if (decide (v18 < ((p.Decls).length : Int))) = true then
    idx p.Decls v18 >>= fun x2 =>
    Y8 x2 b2 >>= fun x3 =>
    E6 p x3 (IntKind.i64.wrap (v18 + 1))
  else
    F0 [98, 101, 103, 105, 110, 10] b2 >>= fun x4 =>
    B3 p.Body [9] x4.2 >>= fun x5 =>
    F0 [101, 110, 100, 10] x5 >>= fun x6 =>
    R6 x6.2 >>= fun x7 =>
    some (x7.1, x7.2)
  partial_fixpoint
abbrev Oq (p : L0) (b2 : Str) (v18 : Int) (res : Str × Int) : Prop := Q0 (Fx.mk C 42 0) (lo (bk (sr (sl (sr (sr (sr (N0 Tryz.f20)))))))) (X0 [(1, .ref 0 0), (5, .ref 1 0), (16, .d (.sl (E0.rows p.Decls))), (17, .d (.int .i64 ((p.Decls).length : Int))), (18, .d (.int .i64 v18))]) [.row (L0.cells p) 25, .bld 2 86, .buf 5 b2] (Am.InBlock 0 (Am.Then (Fx.mk C 42 0) (sr (sr (sr (sr (N0 Tryz.f20))))) (Am.Ends (Fx.mk C 42 0) Tryz.f20.results.toList (fun x H' => H' = [] ∧ x = .tup [.d (.str res.1), .d (.int .i64 res.2)]))))
theorem N13 (p : L0) : (∀ (b2 : Str) (v18 : Int) (res : Str × Int), E6 p b2 v18 = some res → Oq p b2 v18 res) := by
  refine E6.partial_correctness p
    (fun b2 v18 res => Oq p b2 v18 res) ?_
  · intro g0 ih0 b2 v18 res hh
    refine Q0.unroll ?_
    refine s' rfl rfl (q' rfl (n' (S' ?_)))
    refine ci' rfl hh (fun hh => ?_) (fun hh => ?_)
    · obtain ⟨x2, hx2, hh⟩ := bs' hh
      obtain ⟨x3, hx3, hh⟩ := bs' hh
      refine sk' (S' (AEx.block (s' rfl rfl (i' rfl (V0 hx2) (E0.idx hx2) rfl (q' rfl (J0.nf hC rfl (J0.s hC rfl (n' (R' rfl rfl (q' rfl (q' rfl (J0.g [1, 2] rfl (T10 hx3) ⟨.rfl, ⟨.rfl, trivial⟩⟩ rfl ⟨rfl, ⟨rfl, trivial⟩⟩ rfl rfl (n' ?_)))))))))))))
      refine R' rfl rfl (q' rfl (q' rfl (n' ?_)))
      refine Q0.wk ?_ (ih0 _ _ _ hh)
      exact ⟨⟨⟨.rfl, rfl⟩, ⟨⟨.rfl, rfl⟩, ⟨⟨.rfl, rfl⟩, ⟨⟨.rfl, rfl⟩, ⟨⟨.rfl, rfl⟩, trivial⟩⟩⟩⟩⟩, ⟨⟨rfl, .refl _, rfl⟩, ⟨⟨rfl, Nat.le_of_ble_eq_true rfl⟩, ⟨rfl, trivial⟩⟩⟩, rfl⟩
    obtain ⟨x4, hx4, hh⟩ := bs' hh
    obtain ⟨x5, hx5, hh⟩ := bs' hh
    obtain ⟨x6, hx6, hh⟩ := bs' hh
    obtain ⟨x7, hx7, hh⟩ := bs' hh
    refine ex' (s' rfl rfl (q' rfl (q' rfl (q' rfl (J0.g [1, 2] rfl (K0 hx4) ⟨.rfl, ⟨.rfl, trivial⟩⟩ rfl ⟨rfl, ⟨rfl, trivial⟩⟩ rfl rfl (n' (s' rfl rfl (q' rfl (q' rfl (q' rfl (J0.g [1, 2] rfl (Hq hx5) ⟨.rfl, ⟨.rfl, ⟨.rfl, trivial⟩⟩⟩ rfl ⟨rfl, ⟨rfl, trivial⟩⟩ rfl rfl (n' (s' rfl rfl ?_)))))))))))))
    refine q' rfl (q' rfl (q' rfl (J0.g [1, 2] rfl (K0 hx6) ⟨.rfl, ⟨.rfl, trivial⟩⟩ rfl ⟨rfl, ⟨rfl, trivial⟩⟩ rfl rfl (n' (s' rfl rfl (q' rfl (J0.g [1, 2] rfl (Ir hx7) ⟨.rfl, trivial⟩ rfl ⟨rfl, ⟨rfl, trivial⟩⟩ rfl rfl (q' rfl (q' rfl (q' rfl (q' rfl (n' (re' ?_)))))))))))))
    obtain rfl := oi' hh
    exact ⟨_, _, [], rfl, .rfl, trivial, rfl, rfl, rfl, rfl⟩
theorem O14 {p : L0} {b2 : Str} {v18 : Int} {res : Str × Int} (hh : E6 p b2 v18 = some res) : Oq p b2 v18 res := (N13 p) _ _ _ hh
def Gf (p : L0) : Option (Str × Int) :=
  Vh p >>= fun x1 =>
  if (x1 != 0) = true then
    some ([], x1)
  else
    E6 p [] 0
abbrev G1b (p : L0) (res : Str × Int) : Prop := R0 C 20 [.agg (L0.cells p)] [] (fun x H' => H' = [] ∧ x = .tup [.d (.str res.1), .d (.int .i64 res.2)])
theorem B10 {p : L0} {res : Str × Int} (hh : Gf p = some res) : G1b p res := by
  unfold Gf at hh
  refine R0.intro hC Tryz.func20 rfl rfl rfl ?_
  obtain ⟨x1, hx1, hh⟩ := bs' hh
  refine s' rfl rfl (J0.n hC rfl (q' rfl (q' rfl (n' (S' (s' rfl rfl (q' rfl (J0.c rfl rfl (A1a hx1) (q' rfl (n' (s' rfl rfl (q' rfl (q' rfl ?_)))))))))))))
  refine n' ?_
  refine ci' rfl hh (fun hh => ?_) (fun hh => ?_)
  · refine s' rfl rfl (q' rfl (q' rfl (q' rfl (n' (re' ?_)))))
    obtain rfl := oi' hh
    exact ⟨_, _, [], rfl, .rfl, trivial, rfl, rfl, rfl, rfl⟩
  refine sk' (s' rfl rfl (J0.newB 5 rfl rfl rfl R1t rfl rfl (q' rfl (n' (S' (s' rfl rfl (q' rfl (q' rfl (qe' rfl trivial (E0.lenA _) (q' rfl (n' (AEx.block ?_))))))))))))
  refine AEx.ofLoop ?_
  refine Q0.wk ?_ (O14 hh)
  exact ⟨⟨⟨.rfl, rfl⟩, ⟨⟨.rfl, rfl⟩, ⟨⟨.rfl, rfl⟩, ⟨⟨.rfl, rfl⟩, ⟨⟨.rfl, rfl⟩, trivial⟩⟩⟩⟩⟩, ⟨⟨rfl, .refl _, rfl⟩, ⟨⟨rfl, Nat.le_of_ble_eq_true rfl⟩, ⟨rfl, trivial⟩⟩⟩, rfl⟩
def Lr (p : L0) : Option (Int × Int) :=
  Zc p >>= fun x1 =>
  H5 x1 >>= fun x2 =>
  if (x2 != 0) = true then
    some (0, x2)
  else
    some (x1.nodes, 0)
abbrev O1d (p : L0) (res : Int × Int) : Prop := R0 C 12 [.agg (L0.cells p)] [] (fun x H' => H' = [] ∧ x = .tup [.d (.int .i64 res.1), .d (.int .i64 res.2)])
theorem H1b {p : L0} {res : Int × Int} (hh : Lr p = some res) : O1d p res := by
  unfold Lr at hh
  refine R0.intro hC Tryz.func12 rfl rfl rfl ?_
  obtain ⟨x1, hx1, hh⟩ := bs' hh
  obtain ⟨x2, hx2, hh⟩ := bs' hh
  refine s' rfl rfl (J0.n hC rfl (q' rfl (q' rfl (n' (s' rfl rfl (q' rfl (J0.g [] rfl (Rx hx1) ⟨.rfl, trivial⟩ rfl trivial rfl rfl (q' rfl (n' (S' (s' rfl rfl (q' rfl (J0.g [2] rfl (Sk hx2) ⟨.rfl, trivial⟩ rfl ⟨rfl, trivial⟩ rfl rfl ?_)))))))))))))
  refine q' rfl (n' (s' rfl rfl (q' rfl (q' rfl (n' ?_)))))
  refine ci' rfl hh (fun hh => ?_) (fun hh => ?_)
  · refine s' rfl rfl (q' rfl (q' rfl (q' rfl (n' (re' ?_)))))
    obtain rfl := oi' hh
    exact ⟨_, _, [], rfl, .rfl, trivial, rfl, rfl, rfl, rfl⟩
  refine sk' (s' rfl rfl (q' rfl (q' rfl (q' rfl (q' rfl (q' rfl (q' rfl (n' (re' ?_)))))))))
  obtain rfl := oi' hh
  exact ⟨_, _, [], rfl, .rfl, trivial, rfl, rfl, rfl, rfl⟩
def Sj : Option Bool :=
  Bp 1 >>= fun x1 =>
  Bp 2 >>= fun x2 =>
  Ld 8 [x1, x2] >>= fun x3 =>
  Rc [120] >>= fun x4 =>
  Ld 6 [x4] >>= fun x5 =>
  Ld 10 [x3, x5] >>= fun x6 =>
  Vc x6 >>= fun x7 =>
  Rc [97] >>= fun x8 =>
  Rc [98] >>= fun x9 =>
  Rc [99] >>= fun x10 =>
  Ld 9 [x9, x10] >>= fun x11 =>
  Ld 9 [x8, x11] >>= fun x12 =>
  Vc x12 >>= fun x13 =>
  Rc [97] >>= fun x14 =>
  Rc [98] >>= fun x15 =>
  Ld 9 [x14, x15] >>= fun x16 =>
  Rc [99] >>= fun x17 =>
  Ld 9 [x16, x17] >>= fun x18 =>
  Vc x18 >>= fun x19 =>
  Rc [112, 105, 110] >>= fun x20 =>
  Gf (L0.mk [(E0.mk 1 [112, 105, 110] (D0.mk 1 0 9 0 [] [] []) 0 (A0.mk 0 0 [] []) [] [] []), (E0.mk 4 [120] (D0.mk 0 0 0 0 [] [] []) 1 (A0.mk 0 0 [] []) [] [] [])] [(B0.mk 3 (A0.mk 0 0 [] []) x20 [] [] 0 0 0 [] [] [])]) >>= fun x21 =>
  Lr (L0.mk [(E0.mk 1 [112, 105, 110] (D0.mk 1 0 9 0 [] [] []) 0 (A0.mk 0 0 [] []) [] [] []), (E0.mk 4 [120] (D0.mk 0 0 0 0 [] [] []) 1 (A0.mk 0 0 [] []) [] [] [])] [(B0.mk 3 (A0.mk 0 0 [] []) x20 [] [] 0 0 0 [] [] [])]) >>= fun x22 =>
  if (bif (bif (bif (bif (bif (x7.2 != 0) then true else (x13.2 != 0)) then true else (x19.2 != 0)) then true else (x21.2 != 0)) then true else (x22.2 != 0)) then true else (x22.1 != 6)) = true then
    some false
  else
    (if (bif (bif (bif (x7.1 == [40, 49, 32, 43, 32, 50, 41, 32, 42, 32, 45, 120]) then (x13.1 == [97, 32, 45, 32, 40, 98, 32, 45, 32, 99, 41]) else false) then (x19.1 == [97, 32, 45, 32, 98, 32, 45, 32, 99]) else false) then (x21.1 == [115, 101, 99, 114, 101, 116, 32, 112, 105, 110, 58, 32, 105, 110, 116, 91, 48, 46, 46, 57, 93, 59, 10, 118, 97, 114, 32, 120, 58, 32, 98, 111, 111, 108, 32, 61, 32, 116, 114, 117, 101, 59, 10, 98, 101, 103, 105, 110, 10, 9, 111, 117, 116, 112, 117, 116, 32, 112, 105, 110, 59, 10, 101, 110, 100, 10]) else false) = true then Bp (-1) else some default) >>= fun x23 =>
    (if (bif (bif (bif (x7.1 == [40, 49, 32, 43, 32, 50, 41, 32, 42, 32, 45, 120]) then (x13.1 == [97, 32, 45, 32, 40, 98, 32, 45, 32, 99, 41]) else false) then (x19.1 == [97, 32, 45, 32, 98, 32, 45, 32, 99]) else false) then (x21.1 == [115, 101, 99, 114, 101, 116, 32, 112, 105, 110, 58, 32, 105, 110, 116, 91, 48, 46, 46, 57, 93, 59, 10, 118, 97, 114, 32, 120, 58, 32, 98, 111, 111, 108, 32, 61, 32, 116, 114, 117, 101, 59, 10, 98, 101, 103, 105, 110, 10, 9, 111, 117, 116, 112, 117, 116, 32, 112, 105, 110, 59, 10, 101, 110, 100, 10]) else false) = true then Se x23 else some default) >>= fun x24 =>
    some (bif (bif (bif (bif (x7.1 == [40, 49, 32, 43, 32, 50, 41, 32, 42, 32, 45, 120]) then (x13.1 == [97, 32, 45, 32, 40, 98, 32, 45, 32, 99, 41]) else false) then (x19.1 == [97, 32, 45, 32, 98, 32, 45, 32, 99]) else false) then (x21.1 == [115, 101, 99, 114, 101, 116, 32, 112, 105, 110, 58, 32, 105, 110, 116, 91, 48, 46, 46, 57, 93, 59, 10, 118, 97, 114, 32, 120, 58, 32, 98, 111, 111, 108, 32, 61, 32, 116, 114, 117, 101, 59, 10, 98, 101, 103, 105, 110, 10, 9, 111, 117, 116, 112, 117, 116, 32, 112, 105, 110, 59, 10, 101, 110, 100, 10]) else false) then (x24 == 3) else false)
abbrev P1d (res : Bool) : Prop := R0 C 10 [] [] (fun x H' => H' = [] ∧ x = .d (.bool res))
theorem I1b {res : Bool} (hh : Sj = some res) : P1d res := by
  unfold Sj at hh
  refine R0.intro hC Tryz.func10 rfl rfl rfl ?_
  obtain ⟨x1, hx1, hh⟩ := bs' hh
  obtain ⟨x2, hx2, hh⟩ := bs' hh
  obtain ⟨x3, hx3, hh⟩ := bs' hh
  obtain ⟨x4, hx4, hh⟩ := bs' hh
  obtain ⟨x5, hx5, hh⟩ := bs' hh
  obtain ⟨x6, hx6, hh⟩ := bs' hh
  obtain ⟨x7, hx7, hh⟩ := bs' hh
  obtain ⟨x8, hx8, hh⟩ := bs' hh
  obtain ⟨x9, hx9, hh⟩ := bs' hh
  obtain ⟨x10, hx10, hh⟩ := bs' hh
  obtain ⟨x11, hx11, hh⟩ := bs' hh
  obtain ⟨x12, hx12, hh⟩ := bs' hh
  obtain ⟨x13, hx13, hh⟩ := bs' hh
  obtain ⟨x14, hx14, hh⟩ := bs' hh
  obtain ⟨x15, hx15, hh⟩ := bs' hh
  obtain ⟨x16, hx16, hh⟩ := bs' hh
  obtain ⟨x17, hx17, hh⟩ := bs' hh
  obtain ⟨x18, hx18, hh⟩ := bs' hh
  obtain ⟨x19, hx19, hh⟩ := bs' hh
  obtain ⟨x20, hx20, hh⟩ := bs' hh
  obtain ⟨x21, hx21, hh⟩ := bs' hh
  obtain ⟨x22, hx22, hh⟩ := bs' hh
  refine s' rfl rfl (q' rfl (n' (s' rfl rfl (J0.c rfl rfl (Ez hx1) (J0.c rfl rfl (Ez hx2) (J0.be hC rfl (A0.rows_map [x1, x2]).symm (J0.cl rfl (Bg hx3) ⟨.rfl, ⟨.full, trivial⟩⟩ rfl (J0.c rfl rfl (De hx4) (J0.be hC rfl (A0.rows_map [x4]).symm (J0.cl rfl (Bg hx5) ⟨.rfl, ⟨.full, trivial⟩⟩ rfl (J0.be hC rfl (A0.rows_map [x3, x5]).symm ?_)))))))))))
  refine J0.cl rfl (Bg hx6) ⟨.rfl, ⟨.full, trivial⟩⟩ rfl (J0.c rfl rfl (On hx7) (q' rfl (q' rfl (q' rfl (q' rfl (q' rfl (n' (s' rfl rfl (J0.c rfl rfl (De hx8) (J0.c rfl rfl (De hx9) (J0.c rfl rfl (De hx10) (J0.be hC rfl (A0.rows_map [x9, x10]).symm (J0.cl rfl (Bg hx11) ⟨.rfl, ⟨.full, trivial⟩⟩ rfl ?_)))))))))))))
  refine J0.be hC rfl (A0.rows_map [x8, x11]).symm (J0.cl rfl (Bg hx12) ⟨.rfl, ⟨.full, trivial⟩⟩ rfl (J0.c rfl rfl (On hx13) (q' rfl (q' rfl (q' rfl (q' rfl (q' rfl (n' (s' rfl rfl (J0.c rfl rfl (De hx14) (J0.c rfl rfl (De hx15) (J0.be hC rfl (A0.rows_map [x14, x15]).symm (J0.cl rfl (Bg hx16) ⟨.rfl, ⟨.full, trivial⟩⟩ rfl ?_)))))))))))))
  refine J0.c rfl rfl (De hx17) (J0.be hC rfl (A0.rows_map [x16, x17]).symm (J0.cl rfl (Bg hx18) ⟨.rfl, ⟨.full, trivial⟩⟩ rfl (J0.c rfl rfl (On hx19) (q' rfl (q' rfl (q' rfl (q' rfl (q' rfl (n' (s' rfl rfl (q' rfl (q' rfl (q' rfl ?_)))))))))))))
  refine J0.be hC rfl (E0.rows_map [(E0.mk 1 [112, 105, 110] (D0.mk 1 0 9 0 [] [] []) 0 (A0.mk 0 0 [] []) [] [] []), (E0.mk 4 [120] (D0.mk 0 0 0 0 [] [] []) 1 (A0.mk 0 0 [] []) [] [] [])]).symm (J0.c rfl rfl (De hx20) (q' rfl (J0.be hC rfl (B0.rows_map [(B0.mk 3 (A0.mk 0 0 [] []) x20 [] [] 0 0 0 [] [] [])]).symm (q' rfl (J0.nf hC rfl (J0.s hC rfl ?_))))))
  refine n' (s' rfl rfl (q' rfl (J0.cl rfl (B10 hx21) ⟨(.aggL ⟨.full, ⟨.full, trivial⟩⟩), trivial⟩ rfl (q' rfl (q' rfl (q' rfl (q' rfl (q' rfl (n' (s' rfl rfl (q' rfl (J0.cl rfl (H1b hx22) ⟨(.aggL ⟨.full, ⟨.full, trivial⟩⟩), trivial⟩ rfl (q' rfl ?_)))))))))))))
  iterate 4 refine q' rfl ?_
  refine n' (S' (sg' 22 rfl (a0' rfl (a0' rfl (a0' rfl (a0' rfl (a1' rfl (po' rfl (a0' rfl (a0' rfl (a1' rfl (po' rfl (a0' rfl ?_)))))))))))))
  refine a0' rfl (a1' rfl (po' rfl (a0' rfl (a0' rfl (a1' rfl (po' rfl (a0' rfl (a0' rfl (a1' rfl (po' rfl (an' (n' ?_))))))))))))
  refine ci' rfl hh (fun hh => ?_) (fun hh => ?_)
  · refine s' rfl rfl (q' rfl (n' (re' ?_)))
    obtain rfl := oi' hh
    exact ⟨_, _, [], rfl, .rfl, trivial, rfl, rfl, rfl, rfl⟩
  obtain ⟨x23, hx23, hh⟩ := bs' hh
  obtain ⟨x24, hx24, hh⟩ := bs' hh
  refine sk' (sg' 20 rfl (a0' rfl (a0' rfl (a0' rfl (a0' rfl (a1' rfl (pa' rfl (a0' rfl (a0' rfl (a1' rfl (pa' rfl (a0' rfl (a0' rfl ?_)))))))))))))
  refine a1' rfl (pa' rfl (a0' rfl (AG.c rfl rfl (fun _ => trivial) (fun hw => Ez (V1 hw hx23)) (AG.c rfl rfl (fun hg => ⟨hg, trivial⟩) (fun hw => Yu (V1 hw hx24)) (a1' rfl (pa' rfl (a0' rfl (an' (n' (re' ?_))))))))))
  obtain rfl := oi' hh
  exact ⟨_, _, [], rfl, .rfl, trivial, rfl, rfl, rfl, rfl⟩
mutual
def Ra (t : D0) (left : Int) : Option Int :=
  Ib t (IntKind.i64.wrap ((IntKind.i64.wrap (left - 1)) - (IntKind.i64.wrap (Int.tdiv ((t.Name).length : Int) 16)))) 0
  partial_fixpoint
def Ib (t : D0) (left1 : Int) (i : Int) : Option Int :=
  if (bif (decide (i < ((t.Names).length : Int))) then (decide (left1 ≥ 0)) else false) = true then
    idx t.Names i >>= fun x1 =>
    Ib t (IntKind.i64.wrap ((IntKind.i64.wrap (left1 - 1)) - (IntKind.i64.wrap (Int.tdiv ((x1).length : Int) 16)))) (IntKind.i64.wrap (i + 1))
  else
    Jb t left1 0
  partial_fixpoint
def Jb (t : D0) (left2 : Int) (i1 : Int) : Option Int :=
  if (bif (decide (i1 < ((t.Of).length : Int))) then (decide (left2 ≥ 0)) else false) = true then
    idx t.Of i1 >>= fun x2 =>
    Ra x2 left2 >>= fun x3 =>
    Jb t x3 (IntKind.i64.wrap (i1 + 1))
  else
    some left2
  partial_fixpoint
end
abbrev Is (t : D0) (left : Int) (res : Int) : Prop := R0 C 57 [.agg (D0.cells t), .d (.int .i64 left)] [] (fun x H' => H' = [] ∧ x = .d (.int .i64 res))
abbrev Qn (t : D0) (left1 : Int) (i : Int) (res : Int) : Prop := Q0 (Fx.mk C 54 0) (lo (bk (sr (sl (sr (sr (N0 Tryz.f57))))))) (X0 [(1, .d (.int .i64 left1)), (2, .ref 0 0), (5, .d (.int .i64 i))]) [.row (D0.cells t) 48] (Am.InBlock 0 (Am.Then (Fx.mk C 54 0) (sr (sr (sr (N0 Tryz.f57)))) (Am.Ends (Fx.mk C 54 0) Tryz.f57.results.toList (fun x H' => H' = [] ∧ x = .d (.int .i64 res)))))
abbrev Rn (t : D0) (left2 : Int) (i1 : Int) (res : Int) : Prop := Q0 (Fx.mk C 54 0) (lo (bk (sr (sl (sr (sr (sr (N0 Tryz.f57)))))))) (X0 [(1, .d (.int .i64 left2)), (2, .ref 0 0), (6, .d (.int .i64 i1))]) [.row (D0.cells t) 48] (Am.InBlock 2 (Am.Then (Fx.mk C 54 0) (sr (sr (sr (sr (N0 Tryz.f57))))) (Am.Ends (Fx.mk C 54 0) Tryz.f57.results.toList (fun x H' => H' = [] ∧ x = .d (.int .i64 res)))))
theorem Hp : (∀ (t : D0) (left : Int) (res : Int), Ra t left = some res → Is t left res) ∧
    (∀ (t : D0) (left1 : Int) (i : Int) (res : Int), Ib t left1 i = some res → Qn t left1 i res) ∧
    (∀ (t : D0) (left2 : Int) (i1 : Int) (res : Int), Jb t left2 i1 = some res → Rn t left2 i1 res) := by
  refine Ra.mutual_partial_correctness (fun t left res => Is t left res)
    (fun t left1 i res => Qn t left1 i res)
    (fun t left2 i1 res => Rn t left2 i1 res) ?_ ?_ ?_
  · intro g1 ih1 t left res hh
    refine R0.intro hC Tryz.func57 rfl rfl rfl ?_
    refine s' rfl rfl (J0.n hC rfl (q' rfl (n' (s' rfl rfl (q' rfl (q' rfl (q' rfl (q' rfl (q' rfl (qc' rfl (by decide) (q' rfl (q' rfl (n' ?_)))))))))))))
    refine S' (s' rfl rfl (q' rfl (n' (AEx.block ?_))))
    refine AEx.ofLoop ?_
    refine Q0.wk ?_ (ih1 _ _ _ _ hh)
    exact ⟨⟨⟨.rfl, rfl⟩, ⟨⟨.rfl, rfl⟩, ⟨⟨.rfl, rfl⟩, trivial⟩⟩⟩, ⟨⟨rfl, .refl _, rfl⟩, trivial⟩, rfl⟩
  · intro g1 g2 ih1 ih2 t left1 i res hh
    refine Q0.unroll ?_
    refine S' (sg' 9 rfl (a0' rfl (a0' rfl (a0' rfl (AG.qe hC rfl (fun hg => ⟨trivial, trivial⟩) (estr.lenA _) (a0' rfl (a0' rfl (a0' rfl (a1' rfl (pa' rfl (an' (n' ?_))))))))))))
    refine ci' rfl hh (fun hh => ?_) (fun hh => ?_)
    · obtain ⟨x1, hx1, hh⟩ := bs' hh
      refine sk' (S' (AEx.block (R' rfl rfl (q' rfl (q' rfl (q' rfl (q' rfl (q' rfl (i' rfl (V0 hx1) (estr.idx hx1) rfl (q' rfl (q' rfl (qc' rfl (by decide) (q' rfl ?_)))))))))))))
      refine q' rfl (n' (R' rfl rfl (q' rfl (q' rfl (q' rfl (n' ?_))))))
      refine Q0.wk ?_ (ih1 _ _ _ _ hh)
      exact ⟨⟨⟨.rfl, rfl⟩, ⟨⟨.rfl, rfl⟩, ⟨⟨.rfl, rfl⟩, trivial⟩⟩⟩, ⟨⟨rfl, .refl _, rfl⟩, trivial⟩, rfl⟩
    refine ex' (S' (s' rfl rfl (q' rfl (n' (AEx.block ?_)))))
    refine AEx.ofLoop ?_
    refine Q0.wk ?_ (ih2 _ _ _ _ hh)
    exact ⟨⟨⟨.rfl, rfl⟩, ⟨⟨.rfl, rfl⟩, ⟨⟨.rfl, rfl⟩, trivial⟩⟩⟩, ⟨⟨rfl, .refl _, rfl⟩, trivial⟩, rfl⟩
  · intro g0 g2 ih0 ih2 t left2 i1 res hh
    refine Q0.unroll ?_
    refine S' (sg' 9 rfl (a0' rfl (a0' rfl (a0' rfl (AG.qe hC rfl (fun hg => ⟨trivial, trivial⟩) (D0.lenA _) (a0' rfl (a0' rfl (a0' rfl (a1' rfl (pa' rfl (an' (n' ?_))))))))))))
    refine ci' rfl hh (fun hh => ?_) (fun hh => ?_)
    · obtain ⟨x2, hx2, hh⟩ := bs' hh
      obtain ⟨x3, hx3, hh⟩ := bs' hh
      refine sk' (S' (AEx.block (R' rfl rfl (q' rfl (q' rfl (q' rfl (i' rfl (V0 hx2) (D0.idx hx2) rfl (q' rfl (q' rfl (J0.c rfl rfl (ih0 _ _ _ hx3) (q' rfl (n' (R' rfl rfl ?_)))))))))))))
      refine q' rfl (q' rfl (q' rfl (n' ?_)))
      refine Q0.wk ?_ (ih2 _ _ _ _ hh)
      exact ⟨⟨⟨.rfl, rfl⟩, ⟨⟨.rfl, rfl⟩, ⟨⟨.rfl, rfl⟩, trivial⟩⟩⟩, ⟨⟨rfl, .refl _, rfl⟩, trivial⟩, rfl⟩
    refine ex' (s' rfl rfl (q' rfl (q' rfl (n' (re' ?_)))))
    obtain rfl := oi' hh
    exact ⟨_, _, [], rfl, .rfl, trivial, rfl, rfl, rfl, rfl⟩
theorem M16 {t : D0} {left : Int} {res : Int} (hh : Ra t left = some res) : Is t left res := (Hp).1 _ _ _ hh
theorem S1m {t : D0} {left1 : Int} {i : Int} {res : Int} (hh : Ib t left1 i = some res) : Qn t left1 i res := (Hp).2.1 _ _ _ _ hh
theorem T1m {t : D0} {left2 : Int} {i1 : Int} {res : Int} (hh : Jb t left2 i1 = some res) : Rn t left2 i1 res := (Hp).2.2 _ _ _ _ hh
mutual
def V6 (e : A0) (left : Int) : Option Int :=
  Kb e (IntKind.i64.wrap ((IntKind.i64.wrap (left - 1)) - (IntKind.i64.wrap (Int.tdiv ((e.Name).length : Int) 16)))) 0
  partial_fixpoint
def Kb (e : A0) (left1 : Int) (i : Int) : Option Int :=
  if (bif (decide (i < ((e.Kids).length : Int))) then (decide (left1 ≥ 0)) else false) = true then
    idx e.Kids i >>= fun x1 =>
    V6 x1 left1 >>= fun x2 =>
    Kb e x2 (IntKind.i64.wrap (i + 1))
  else
    some left1
  partial_fixpoint
end
abbrev Js (e : A0) (left : Int) (res : Int) : Prop := R0 C 42 [.agg (A0.cells e), .d (.int .i64 left)] [] (fun x H' => H' = [] ∧ x = .d (.int .i64 res))
abbrev Sn (e : A0) (left1 : Int) (i : Int) (res : Int) : Prop := Q0 (Fx.mk C 32 0) (lo (bk (sr (sl (sr (sr (N0 Tryz.f42))))))) (X0 [(1, .d (.int .i64 left1)), (2, .ref 0 0), (5, .d (.int .i64 i))]) [.row (A0.cells e) 36] (Am.InBlock 0 (Am.Then (Fx.mk C 32 0) (sr (sr (sr (N0 Tryz.f42)))) (Am.Ends (Fx.mk C 32 0) Tryz.f42.results.toList (fun x H' => H' = [] ∧ x = .d (.int .i64 res)))))
theorem Uw : (∀ (e : A0) (left : Int) (res : Int), V6 e left = some res → Js e left res) ∧
    (∀ (e : A0) (left1 : Int) (i : Int) (res : Int), Kb e left1 i = some res → Sn e left1 i res) := by
  refine V6.mutual_partial_correctness (fun e left res => Js e left res)
    (fun e left1 i res => Sn e left1 i res) ?_ ?_
  · intro g1 ih1 e left res hh
    refine R0.intro hC Tryz.func42 rfl rfl rfl ?_
    refine s' rfl rfl (J0.n hC rfl (q' rfl (n' (s' rfl rfl (q' rfl (q' rfl (q' rfl (q' rfl (q' rfl (qc' rfl (by decide) (q' rfl (q' rfl (n' ?_)))))))))))))
    refine S' (s' rfl rfl (q' rfl (n' (AEx.block ?_))))
    refine AEx.ofLoop ?_
    refine Q0.wk ?_ (ih1 _ _ _ _ hh)
    exact ⟨⟨⟨.rfl, rfl⟩, ⟨⟨.rfl, rfl⟩, ⟨⟨.rfl, rfl⟩, trivial⟩⟩⟩, ⟨⟨rfl, .refl _, rfl⟩, trivial⟩, rfl⟩
  · intro g0 g1 ih0 ih1 e left1 i res hh
    refine Q0.unroll ?_
    refine S' (sg' 9 rfl (a0' rfl (a0' rfl (a0' rfl (AG.qe hC rfl (fun hg => ⟨trivial, trivial⟩) (A0.lenA _) (a0' rfl (a0' rfl (a0' rfl (a1' rfl (pa' rfl (an' (n' ?_))))))))))))
    refine ci' rfl hh (fun hh => ?_) (fun hh => ?_)
    · obtain ⟨x1, hx1, hh⟩ := bs' hh
      obtain ⟨x2, hx2, hh⟩ := bs' hh
      refine sk' (S' (AEx.block (R' rfl rfl (q' rfl (q' rfl (q' rfl (i' rfl (V0 hx1) (A0.idx hx1) rfl (q' rfl (q' rfl (J0.c rfl rfl (ih0 _ _ _ hx2) (q' rfl (n' (R' rfl rfl ?_)))))))))))))
      refine q' rfl (q' rfl (q' rfl (n' ?_)))
      refine Q0.wk ?_ (ih1 _ _ _ _ hh)
      exact ⟨⟨⟨.rfl, rfl⟩, ⟨⟨.rfl, rfl⟩, ⟨⟨.rfl, rfl⟩, trivial⟩⟩⟩, ⟨⟨rfl, .refl _, rfl⟩, trivial⟩, rfl⟩
    refine ex' (s' rfl rfl (q' rfl (q' rfl (n' (re' ?_)))))
    obtain rfl := oi' hh
    exact ⟨_, _, [], rfl, .rfl, trivial, rfl, rfl, rfl, rfl⟩
theorem Bk {e : A0} {left : Int} {res : Int} (hh : V6 e left = some res) : Js e left res := (Uw).1 _ _ _ hh
theorem U1m {e : A0} {left1 : Int} {i : Int} {res : Int} (hh : Kb e left1 i = some res) : Sn e left1 i res := (Uw).2 _ _ _ _ hh
mutual
def F6 (l : List B0) (left : Int) : Option Int :=
  K7 l left 0
  partial_fixpoint
def K7 (l : List B0) (left2 : Int) (i : Int) : Option Int :=
  if (bif (decide (i < ((l).length : Int))) then (decide (left2 ≥ 0)) else false) = true then
    idx l i >>= fun x1 =>
    V6 x1.Place (IntKind.i64.wrap ((IntKind.i64.wrap (left2 - 1)) - (IntKind.i64.wrap (Int.tdiv ((x1.Name).length : Int) 16)))) >>= fun x2 =>
    V6 x1.Value x2 >>= fun x3 =>
    K9 l x1 x3 i 0
  else
    some left2
  partial_fixpoint
def K9 (l : List B0) (x1 : B0) (left1 : Int) (i1 : Int) (k : Int) : Option Int :=
  if (bif (decide (k < ((x1.Args).length : Int))) then (decide (left1 ≥ 0)) else false) = true then
    idx x1.Args k >>= fun x4 =>
    V6 x4 left1 >>= fun x5 =>
    K9 l x1 x5 i1 (IntKind.i64.wrap (k + 1))
  else
    if (decide (((x1.Numbers).length : Int) > 100)) = true then
      some (-1)
    else
      F6 x1.Then left1 >>= fun x6 =>
      F6 x1.Else x6 >>= fun x7 =>
      K7 l x7 (IntKind.i64.wrap (i1 + 1))
  partial_fixpoint
end
abbrev Pq (l : List B0) (left : Int) (res : Int) : Prop := R0 C 36 [.d (.sl (B0.rows l)), .d (.int .i64 left)] [] (fun x H' => H' = [] ∧ x = .d (.int .i64 res))
abbrev Yl (l : List B0) (left2 : Int) (i : Int) (res : Int) : Prop := Q0 (Fx.mk C 68 0) (lo (bk (sr (sl (sr (N0 Tryz.f36)))))) (X0 [(0, .d (.sl (B0.rows l))), (1, .d (.int .i64 left2)), (5, .d (.int .i64 i))]) [] (Am.InBlock 0 (Am.Then (Fx.mk C 68 0) (sr (sr (N0 Tryz.f36))) (Am.Ends (Fx.mk C 68 0) Tryz.f36.results.toList (fun x H' => H' = [] ∧ x = .d (.int .i64 res)))))
abbrev Zl (l : List B0) (x1 : B0) (left1 : Int) (i1 : Int) (k : Int) (res : Int) : Prop := Q0 (Fx.mk C 68 0) (lo (bk (sr (sl (sr (sr (sr (sr (bk (sl (sr (lo (bk (sr (sl (sr (N0 Tryz.f36))))))))))))))))) (X0 [(0, .d (.sl (B0.rows l))), (1, .d (.int .i64 left1)), (5, .d (.int .i64 i1)), (6, .ref 0 0), (7, .d (.int .i64 k))]) [.row (B0.cells x1) 68] (Am.InBlock 2 (Am.Then (Fx.mk C 68 0) (sr (sr (sr (sr (sr (bk (sl (sr (lo (bk (sr (sl (sr (N0 Tryz.f36)))))))))))))) (Am.InBlock 1 (Am.Then (Fx.mk C 68 0) (sr (sr (lo (bk (sr (sl (sr (N0 Tryz.f36)))))))) (Am.Again (Fx.mk C 68 0) (lo (bk (sr (sl (sr (N0 Tryz.f36)))))) (Am.InBlock 0 (Am.Then (Fx.mk C 68 0) (sr (sr (N0 Tryz.f36))) (Am.Ends (Fx.mk C 68 0) Tryz.f36.results.toList (fun x H' => H' = [] ∧ x = .d (.int .i64 res))))))))))
theorem Tn : (∀ (l : List B0) (left : Int) (res : Int), F6 l left = some res → Pq l left res) ∧
    (∀ (l : List B0) (left2 : Int) (i : Int) (res : Int), K7 l left2 i = some res → Yl l left2 i res) ∧
    (∀ (l : List B0) (x1 : B0) (left1 : Int) (i1 : Int) (k : Int) (res : Int), K9 l x1 left1 i1 k = some res → Zl l x1 left1 i1 k res) := by
  refine F6.mutual_partial_correctness (fun l left res => Pq l left res)
    (fun l left2 i res => Yl l left2 i res)
    (fun l x1 left1 i1 k res => Zl l x1 left1 i1 k res) ?_ ?_ ?_
  · intro g1 ih1 l left res hh
    refine R0.intro hC Tryz.func36 rfl rfl rfl ?_
    refine s' rfl rfl (q' rfl (n' (S' (s' rfl rfl (q' rfl (n' (AEx.block ?_)))))))
    refine AEx.ofLoop ?_
    refine Q0.wk ?_ (ih1 _ _ _ _ hh)
    exact ⟨⟨⟨.rfl, rfl⟩, ⟨⟨.rfl, rfl⟩, ⟨⟨.rfl, rfl⟩, trivial⟩⟩⟩, trivial, rfl⟩
  · intro g2 ih2 l left2 i res hh
    refine Q0.unroll ?_
    refine S' (sg' 8 rfl (a0' rfl (a0' rfl (AG.qe hC rfl (fun hg => ⟨trivial, trivial⟩) (B0.lenA _) (a0' rfl (a0' rfl (a0' rfl (a1' rfl (pa' rfl (an' (n' ?_)))))))))))
    refine ci' rfl hh (fun hh => ?_) (fun hh => ?_)
    · obtain ⟨x1, hx1, hh⟩ := bs' hh
      obtain ⟨x2, hx2, hh⟩ := bs' hh
      obtain ⟨x3, hx3, hh⟩ := bs' hh
      refine sk' (S' (AEx.block (s' rfl rfl (q' rfl (q' rfl (i' rfl (V0 hx1) (B0.idx hx1) rfl (q' rfl (J0.nf hC rfl (J0.s hC rfl (n' (s' rfl rfl (q' rfl (q' rfl ?_)))))))))))))
      refine q' rfl (q' rfl (q' rfl (qc' rfl (by decide) (q' rfl (q' rfl (n' (s' rfl rfl (q' rfl (q' rfl (q' rfl (J0.c rfl rfl (Bk hx2) (q' rfl (n' ?_)))))))))))))
      refine s' rfl rfl (q' rfl (q' rfl (q' rfl (J0.c rfl rfl (Bk hx3) (q' rfl (n' (S' (s' rfl rfl (q' rfl (n' (AEx.block ?_)))))))))))
      refine AEx.ofLoop ?_
      refine Q0.wk ?_ (ih2 _ _ _ _ _ _ hh)
      exact ⟨⟨⟨.rfl, rfl⟩, ⟨⟨.rfl, rfl⟩, ⟨⟨.rfl, rfl⟩, ⟨⟨.rfl, rfl⟩, ⟨⟨.rfl, rfl⟩, trivial⟩⟩⟩⟩⟩, ⟨⟨rfl, .refl _, rfl⟩, trivial⟩, rfl⟩
    refine ex' (s' rfl rfl (q' rfl (q' rfl (n' (re' ?_)))))
    obtain rfl := oi' hh
    exact ⟨_, _, [], rfl, .rfl, trivial, rfl, rfl, rfl, rfl⟩
  · intro g0 g1 g2 ih0 ih1 ih2 l x1 left1 i1 k res hh
    refine Q0.unroll ?_
    refine S' (sg' 9 rfl (a0' rfl (a0' rfl (a0' rfl (AG.qe hC rfl (fun hg => ⟨trivial, trivial⟩) (A0.lenA _) (a0' rfl (a0' rfl (a0' rfl (a1' rfl (pa' rfl (an' (n' ?_))))))))))))
    refine ci' rfl hh (fun hh => ?_) (fun hh => ?_)
    · obtain ⟨x4, hx4, hh⟩ := bs' hh
      obtain ⟨x5, hx5, hh⟩ := bs' hh
      refine sk' (S' (AEx.block (R' rfl rfl (q' rfl (q' rfl (q' rfl (i' rfl (V0 hx4) (A0.idx hx4) rfl (q' rfl (q' rfl (J0.c rfl rfl (Bk hx5) (q' rfl (n' (R' rfl rfl ?_)))))))))))))
      refine q' rfl (q' rfl (q' rfl (n' ?_)))
      refine Q0.wk ?_ (ih2 _ _ _ _ _ _ hh)
      exact ⟨⟨⟨.rfl, rfl⟩, ⟨⟨.rfl, rfl⟩, ⟨⟨.rfl, rfl⟩, ⟨⟨.rfl, rfl⟩, ⟨⟨.rfl, rfl⟩, trivial⟩⟩⟩⟩⟩, ⟨⟨rfl, .refl _, rfl⟩, trivial⟩, rfl⟩
    refine ex' (S' (s' rfl rfl (q' rfl (q' rfl (qe' rfl trivial (ei64.lenA _) (q' rfl (n' ?_)))))))
    refine ci' rfl hh (fun hh => ?_) (fun hh => ?_)
    · refine s' rfl rfl (q' rfl (n' (re' ?_)))
      obtain rfl := oi' hh
      exact ⟨_, _, [], rfl, .rfl, trivial, rfl, rfl, rfl, rfl⟩
    obtain ⟨x6, hx6, hh⟩ := bs' hh
    obtain ⟨x7, hx7, hh⟩ := bs' hh
    refine sk' (s' rfl rfl (q' rfl (q' rfl (q' rfl (J0.c rfl rfl (ih0 _ _ _ hx6) (q' rfl (n' (R' rfl rfl (q' rfl (q' rfl (q' rfl (J0.c rfl rfl (ih0 _ _ _ hx7) (q' rfl ?_)))))))))))))
    refine n' (R' rfl rfl (q' rfl (q' rfl (q' rfl (n' ?_)))))
    refine Q0.wk ?_ (ih1 _ _ _ _ hh)
    exact ⟨⟨⟨.rfl, rfl⟩, ⟨⟨.rfl, rfl⟩, ⟨⟨.rfl, rfl⟩, trivial⟩⟩⟩, trivial, rfl⟩
theorem Vw {l : List B0} {left : Int} {res : Int} (hh : F6 l left = some res) : Pq l left res := (Tn).1 _ _ _ hh
theorem M1k {l : List B0} {left2 : Int} {i : Int} {res : Int} (hh : K7 l left2 i = some res) : Yl l left2 i res := (Tn).2.1 _ _ _ _ hh
theorem N1k {l : List B0} {x1 : B0} {left1 : Int} {i1 : Int} {k : Int} {res : Int} (hh : K9 l x1 left1 i1 k = some res) : Zl l x1 left1 i1 k res := (Tn).2.2 _ _ _ _ _ _ hh
mutual
def Vb (l : List E0) (left : Int) : Option Int :=
  L9 l left 0
  partial_fixpoint
def L9 (l : List E0) (left1 : Int) (i : Int) : Option Int :=
  if (bif (decide (i < ((l).length : Int))) then (decide (left1 ≥ 0)) else false) = true then
    idx l i >>= fun x1 =>
    Ra x1.TypeV (IntKind.i64.wrap ((IntKind.i64.wrap (left1 - 1)) - (IntKind.i64.wrap (Int.tdiv ((x1.Name).length : Int) 16)))) >>= fun x2 =>
    V6 x1.Value x2 >>= fun x3 =>
    Vb x1.Params x3 >>= fun x4 =>
    Vb x1.Vars x4 >>= fun x5 =>
    F6 x1.Body x5 >>= fun x6 =>
    L9 l x6 (IntKind.i64.wrap (i + 1))
  else
    some left1
  partial_fixpoint
end
abbrev Qq (l : List E0) (left : Int) (res : Int) : Prop := R0 C 37 [.d (.sl (E0.rows l)), .d (.int .i64 left)] [] (fun x H' => H' = [] ∧ x = .d (.int .i64 res))
abbrev Bm (l : List E0) (left1 : Int) (i : Int) (res : Int) : Prop := Q0 (Fx.mk C 49 0) (lo (bk (sr (sl (sr (N0 Tryz.f37)))))) (X0 [(0, .d (.sl (E0.rows l))), (1, .d (.int .i64 left1)), (5, .d (.int .i64 i))]) [] (Am.InBlock 0 (Am.Then (Fx.mk C 49 0) (sr (sr (N0 Tryz.f37))) (Am.Ends (Fx.mk C 49 0) Tryz.f37.results.toList (fun x H' => H' = [] ∧ x = .d (.int .i64 res)))))
theorem Zu : (∀ (l : List E0) (left : Int) (res : Int), Vb l left = some res → Qq l left res) ∧
    (∀ (l : List E0) (left1 : Int) (i : Int) (res : Int), L9 l left1 i = some res → Bm l left1 i res) := by
  refine Vb.mutual_partial_correctness (fun l left res => Qq l left res)
    (fun l left1 i res => Bm l left1 i res) ?_ ?_
  · intro g1 ih1 l left res hh
    refine R0.intro hC Tryz.func37 rfl rfl rfl ?_
    refine s' rfl rfl (q' rfl (n' (S' (s' rfl rfl (q' rfl (n' (AEx.block ?_)))))))
    refine AEx.ofLoop ?_
    refine Q0.wk ?_ (ih1 _ _ _ _ hh)
    exact ⟨⟨⟨.rfl, rfl⟩, ⟨⟨.rfl, rfl⟩, ⟨⟨.rfl, rfl⟩, trivial⟩⟩⟩, trivial, rfl⟩
  · intro g0 g1 ih0 ih1 l left1 i res hh
    refine Q0.unroll ?_
    refine S' (sg' 8 rfl (a0' rfl (a0' rfl (AG.qe hC rfl (fun hg => ⟨trivial, trivial⟩) (E0.lenA _) (a0' rfl (a0' rfl (a0' rfl (a1' rfl (pa' rfl (an' (n' ?_)))))))))))
    refine ci' rfl hh (fun hh => ?_) (fun hh => ?_)
    · obtain ⟨x1, hx1, hh⟩ := bs' hh
      obtain ⟨x2, hx2, hh⟩ := bs' hh
      obtain ⟨x3, hx3, hh⟩ := bs' hh
      obtain ⟨x4, hx4, hh⟩ := bs' hh
      obtain ⟨x5, hx5, hh⟩ := bs' hh
      obtain ⟨x6, hx6, hh⟩ := bs' hh
      refine sk' (S' (AEx.block (s' rfl rfl (q' rfl (q' rfl (i' rfl (V0 hx1) (E0.idx hx1) rfl (q' rfl (J0.nf hC rfl (J0.s hC rfl (n' (s' rfl rfl (q' rfl (q' rfl ?_)))))))))))))
      refine q' rfl (q' rfl (q' rfl (qc' rfl (by decide) (q' rfl (q' rfl (n' (s' rfl rfl (q' rfl (q' rfl (q' rfl (J0.c rfl rfl (M16 hx2) (q' rfl (n' ?_)))))))))))))
      refine s' rfl rfl (q' rfl (q' rfl (q' rfl (J0.c rfl rfl (Bk hx3) (q' rfl (n' (s' rfl rfl (q' rfl (q' rfl (q' rfl (J0.c rfl rfl (ih0 _ _ _ hx4) (q' rfl (n' ?_)))))))))))))
      refine s' rfl rfl (q' rfl (q' rfl (q' rfl (J0.c rfl rfl (ih0 _ _ _ hx5) (q' rfl (n' (R' rfl rfl (q' rfl (q' rfl (q' rfl (J0.c rfl rfl (Vw hx6) (q' rfl (n' ?_)))))))))))))
      refine R' rfl rfl (q' rfl (q' rfl (q' rfl (n' ?_))))
      refine Q0.wk ?_ (ih1 _ _ _ _ hh)
      exact ⟨⟨⟨.rfl, rfl⟩, ⟨⟨.rfl, rfl⟩, ⟨⟨.rfl, rfl⟩, trivial⟩⟩⟩, trivial, rfl⟩
    refine ex' (s' rfl rfl (q' rfl (q' rfl (n' (re' ?_)))))
    obtain rfl := oi' hh
    exact ⟨_, _, [], rfl, .rfl, trivial, rfl, rfl, rfl, rfl⟩
theorem P14 {l : List E0} {left : Int} {res : Int} (hh : Vb l left = some res) : Qq l left res := (Zu).1 _ _ _ hh
theorem O1k {l : List E0} {left1 : Int} {i : Int} {res : Int} (hh : L9 l left1 i = some res) : Bm l left1 i res := (Zu).2 _ _ _ _ hh
def Ww (p : L0) (most : Int) : Option Bool :=
  Vb p.Decls most >>= fun x1 =>
  F6 p.Body x1 >>= fun x2 =>
  some (decide (x2 ≥ 0))
abbrev Q1j (p : L0) (most : Int) (res : Bool) : Prop := R0 C 11 [.agg (L0.cells p), .d (.int .i64 most)] [] (fun x H' => H' = [] ∧ x = .d (.bool res))
theorem V1g {p : L0} {most : Int} {res : Bool} (hh : Ww p most = some res) : Q1j p most res := by
  unfold Ww at hh
  refine R0.intro hC Tryz.func11 rfl rfl rfl ?_
  obtain ⟨x1, hx1, hh⟩ := bs' hh
  obtain ⟨x2, hx2, hh⟩ := bs' hh
  refine s' rfl rfl (J0.n hC rfl (q' rfl (n' (S' (AEx.draw hC 9 rfl rfl rfl (Q' rfl (Q' rfl (Q' rfl (Q' rfl (Q' rfl (AQ.c rfl rfl (P14 hx1) (AQ.c rfl rfl (Vw hx2) (Q' rfl ?_)))))))))))))
  refine Q' rfl (Qn' (n' (re' ?_)))
  obtain rfl := oi' hh
  exact ⟨_, _, [], rfl, .rfl, trivial, rfl, rfl, rfl, rfl⟩
def Al (k : Int) : Option Bool :=
  some (bif (decide (k ≥ 0)) then (decide (k ≤ 6)) else false)
abbrev X17 (k : Int) (res : Bool) : Prop := R0 C 146 [.d (.int .i64 k)] [] (fun x H' => H' = [] ∧ x = .d (.bool res))
theorem Sx {k : Int} {res : Bool} (hh : Al k = some res) : X17 k res := by
  unfold Al at hh
  refine R0.intro hC Tryz.func146 rfl rfl rfl ?_
  refine s' rfl rfl (q' rfl (n' (sg' 7 rfl (a0' rfl (a0' rfl (a0' rfl (a0' rfl (a1' rfl (pa' rfl (a0' rfl (an' (n' (re' ?_)))))))))))))
  obtain rfl := oi' hh
  exact ⟨_, _, [], rfl, .rfl, trivial, rfl, rfl, rfl, rfl⟩
mutual
def Wb (a : D0) (b : D0) : Option Bool :=
  if (bif (bif (bif (bif (bif (bif (a.Kind != b.Kind) then true else (a.Low != b.Low)) then true else (a.High != b.High)) then true else (a.Size != b.Size)) then true else (!(a.Name == b.Name))) then true else (((a.Names).length : Int) != ((b.Names).length : Int))) then true else (((a.Of).length : Int) != ((b.Of).length : Int))) = true then
    some false
  else
    M9 a b 0
  partial_fixpoint
def M9 (a : D0) (b : D0) (i : Int) : Option Bool :=
  if (decide (i < ((a.Names).length : Int))) = true then
    idx a.Names i >>= fun x1 =>
    idx b.Names i >>= fun x2 =>
    if (!(x1 == x2)) = true then
      some false
    else
      M9 a b (IntKind.i64.wrap (i + 1))
  else
    L7 a b 0
  partial_fixpoint
def L7 (a : D0) (b : D0) (i1 : Int) : Option Bool :=
  if (decide (i1 < ((a.Of).length : Int))) = true then
    idx a.Of i1 >>= fun x3 =>
    idx b.Of i1 >>= fun x4 =>
    Wb x3 x4 >>= fun x5 =>
    if (!x5) = true then
      some false
    else
      L7 a b (IntKind.i64.wrap (i1 + 1))
  else
    some true
  partial_fixpoint
end
abbrev Rq (a : D0) (b : D0) (res : Bool) : Prop := R0 C 141 [.agg (D0.cells a), .agg (D0.cells b)] [] (fun x H' => H' = [] ∧ x = .d (.bool res))
abbrev Cm (a : D0) (b : D0) (i : Int) (res : Bool) : Prop := Q0 (Fx.mk C 95 0) (lo (bk (sr (sl (sr (sr (N0 Tryz.f141))))))) (X0 [(2, .ref 0 0), (3, .ref 1 0), (5, .d (.int .i64 i))]) [.row (D0.cells a) 48, .row (D0.cells b) 48] (Am.InBlock 0 (Am.Then (Fx.mk C 95 0) (sr (sr (sr (N0 Tryz.f141)))) (Am.Ends (Fx.mk C 95 0) Tryz.f141.results.toList (fun x H' => H' = [] ∧ x = .d (.bool res)))))
abbrev Dm (a : D0) (b : D0) (i1 : Int) (res : Bool) : Prop := Q0 (Fx.mk C 95 0) (lo (bk (sr (sl (sr (sr (sr (N0 Tryz.f141)))))))) (X0 [(2, .ref 0 0), (3, .ref 1 0), (6, .d (.int .i64 i1))]) [.row (D0.cells a) 48, .row (D0.cells b) 48] (Am.InBlock 2 (Am.Then (Fx.mk C 95 0) (sr (sr (sr (sr (N0 Tryz.f141))))) (Am.Ends (Fx.mk C 95 0) Tryz.f141.results.toList (fun x H' => H' = [] ∧ x = .d (.bool res)))))
theorem Un : (∀ (a : D0) (b : D0) (res : Bool), Wb a b = some res → Rq a b res) ∧
    (∀ (a : D0) (b : D0) (i : Int) (res : Bool), M9 a b i = some res → Cm a b i res) ∧
    (∀ (a : D0) (b : D0) (i1 : Int) (res : Bool), L7 a b i1 = some res → Dm a b i1 res) := by
  refine Wb.mutual_partial_correctness (fun a b res => Rq a b res)
    (fun a b i res => Cm a b i res)
    (fun a b i1 res => Dm a b i1 res) ?_ ?_ ?_
  · intro g1 ih1 a b res hh
    refine R0.intro hC Tryz.func141 rfl rfl rfl ?_
    refine s' rfl rfl (J0.n hC rfl (J0.n hC rfl (q' rfl (n' (S' (sg' 51 rfl (a0' rfl (a0' rfl (a0' rfl (a0' rfl (a0' rfl (a0' rfl (a0' rfl ?_)))))))))))))
    refine a1' rfl (a0' rfl (a1' rfl (a2' rfl (po' rfl (a0' rfl (a0' rfl (a1' rfl (a0' rfl (a1' rfl (a2' rfl (po' rfl (a0' rfl (a0' rfl ?_)))))))))))))
    refine a1' rfl (a0' rfl (a1' rfl (a2' rfl (po' rfl (a0' rfl (a0' rfl (a1' rfl (a0' rfl (a1' rfl (a2' rfl (po' rfl (a0' rfl (a0' rfl ?_)))))))))))))
    refine a1' rfl (AG.qe hC rfl (fun hg => ⟨⟨hg, trivial⟩, trivial⟩) (estr.lenA _) (a0' rfl (a1' rfl (AG.qe hC rfl (fun hg => ⟨⟨hg, trivial⟩, trivial⟩) (estr.lenA _) (a2' rfl (po' rfl (a0' rfl (a0' rfl (a1' rfl (AG.qe hC rfl (fun hg => ⟨⟨hg, trivial⟩, trivial⟩) (D0.lenA _) (a0' rfl (a1' rfl (AG.qe hC rfl (fun hg => ⟨⟨hg, trivial⟩, trivial⟩) (D0.lenA _) ?_)))))))))))))
    refine a2' rfl (po' rfl (an' (n' ?_)))
    refine ci' rfl hh (fun hh => ?_) (fun hh => ?_)
    · refine s' rfl rfl (q' rfl (n' (re' ?_)))
      obtain rfl := oi' hh
      exact ⟨_, _, [], rfl, .rfl, trivial, rfl, rfl, rfl, rfl⟩
    refine sk' (S' (s' rfl rfl (q' rfl (n' (AEx.block ?_)))))
    refine AEx.ofLoop ?_
    refine Q0.wk ?_ (ih1 _ _ _ _ hh)
    exact ⟨⟨⟨.rfl, rfl⟩, ⟨⟨.rfl, rfl⟩, ⟨⟨.rfl, rfl⟩, trivial⟩⟩⟩, ⟨⟨rfl, .refl _, rfl⟩, ⟨⟨rfl, .refl _, rfl⟩, trivial⟩⟩, rfl⟩
  · intro g1 g2 ih1 ih2 a b i res hh
    refine Q0.unroll ?_
    refine S' (s' rfl rfl (q' rfl (q' rfl (q' rfl (qe' rfl trivial (estr.lenA _) (q' rfl (n' ?_)))))))
    refine ci' rfl hh (fun hh => ?_) (fun hh => ?_)
    · obtain ⟨x1, hx1, hh⟩ := bs' hh
      obtain ⟨x2, hx2, hh⟩ := bs' hh
      refine sk' (S' (AEx.block (S' (AEx.draw hC 11 rfl rfl rfl (Q' rfl (Q' rfl (Q' rfl (AQ.i hC rfl (V0 hx1) (estr.idx hx1) rfl (Q' rfl (Q' rfl (Q' rfl (Q' rfl (AQ.i hC rfl (V0 hx2) (estr.idx hx2) rfl ?_)))))))))))))
      refine Q' rfl (Q' rfl (Qn' (n' ?_)))
      refine ci' rfl hh (fun hh => ?_) (fun hh => ?_)
      · refine s' rfl rfl (q' rfl (n' (re' ?_)))
        obtain rfl := oi' hh
        exact ⟨_, _, [], rfl, .rfl, trivial, rfl, rfl, rfl, rfl⟩
      refine sk' (R' rfl rfl (q' rfl (q' rfl (q' rfl (n' ?_)))))
      refine Q0.wk ?_ (ih1 _ _ _ _ hh)
      exact ⟨⟨⟨.rfl, rfl⟩, ⟨⟨.rfl, rfl⟩, ⟨⟨.rfl, rfl⟩, trivial⟩⟩⟩, ⟨⟨rfl, .refl _, rfl⟩, ⟨⟨rfl, .refl _, rfl⟩, trivial⟩⟩, rfl⟩
    refine ex' (S' (s' rfl rfl (q' rfl (n' (AEx.block ?_)))))
    refine AEx.ofLoop ?_
    refine Q0.wk ?_ (ih2 _ _ _ _ hh)
    exact ⟨⟨⟨.rfl, rfl⟩, ⟨⟨.rfl, rfl⟩, ⟨⟨.rfl, rfl⟩, trivial⟩⟩⟩, ⟨⟨rfl, .refl _, rfl⟩, ⟨⟨rfl, .refl _, rfl⟩, trivial⟩⟩, rfl⟩
  · intro g0 g2 ih0 ih2 a b i1 res hh
    refine Q0.unroll ?_
    refine S' (s' rfl rfl (q' rfl (q' rfl (q' rfl (qe' rfl trivial (D0.lenA _) (q' rfl (n' ?_)))))))
    refine ci' rfl hh (fun hh => ?_) (fun hh => ?_)
    · obtain ⟨x3, hx3, hh⟩ := bs' hh
      obtain ⟨x4, hx4, hh⟩ := bs' hh
      obtain ⟨x5, hx5, hh⟩ := bs' hh
      refine sk' (S' (AEx.block (S' (AEx.draw hC 12 rfl rfl rfl (Q' rfl (Q' rfl (Q' rfl (AQ.i hC rfl (V0 hx3) (D0.idx hx3) rfl (Q' rfl (Q' rfl (Q' rfl (Q' rfl (AQ.i hC rfl (V0 hx4) (D0.idx hx4) rfl ?_)))))))))))))
      refine Q' rfl (AQ.c rfl rfl (ih0 _ _ _ hx5) (Q' rfl (Qn' (n' ?_))))
      refine ci' rfl hh (fun hh => ?_) (fun hh => ?_)
      · refine s' rfl rfl (q' rfl (n' (re' ?_)))
        obtain rfl := oi' hh
        exact ⟨_, _, [], rfl, .rfl, trivial, rfl, rfl, rfl, rfl⟩
      refine sk' (R' rfl rfl (q' rfl (q' rfl (q' rfl (n' ?_)))))
      refine Q0.wk ?_ (ih2 _ _ _ _ hh)
      exact ⟨⟨⟨.rfl, rfl⟩, ⟨⟨.rfl, rfl⟩, ⟨⟨.rfl, rfl⟩, trivial⟩⟩⟩, ⟨⟨rfl, .refl _, rfl⟩, ⟨⟨rfl, .refl _, rfl⟩, trivial⟩⟩, rfl⟩
    refine ex' (s' rfl rfl (q' rfl (n' (re' ?_))))
    obtain rfl := oi' hh
    exact ⟨_, _, [], rfl, .rfl, trivial, rfl, rfl, rfl, rfl⟩
theorem Q14 {a : D0} {b : D0} {res : Bool} (hh : Wb a b = some res) : Rq a b res := (Un).1 _ _ _ hh
theorem P1k {a : D0} {b : D0} {i : Int} {res : Bool} (hh : M9 a b i = some res) : Cm a b i res := (Un).2.1 _ _ _ _ hh
theorem Q1k {a : D0} {b : D0} {i1 : Int} {res : Bool} (hh : L7 a b i1 = some res) : Dm a b i1 res := (Un).2.2 _ _ _ _ hh
end Go.Proofs.YtmilgoloagbmpaaGreatDoor

set_option maxRecDepth 100000
set_option maxHeartbeats 4000000
set_option linter.unusedVariables false
namespace Go.Proofs.YtmilgoloagbmpaaGreatDoor
open Go.Am
def Bl (t : D0) : Option Bool :=
  Wb t (D0.mk 0 0 0 0 [] [] []) >>= fun x1 =>
  some x1
abbrev Y17 (t : D0) (res : Bool) : Prop := R0 C 121 [.agg (D0.cells t)] [] (fun x H' => H' = [] ∧ x = .d (.bool res))
theorem N16 {t : D0} {res : Bool} (hh : Bl t = some res) : Y17 t res := by
  unfold Bl at hh
  refine R0.intro hC Tryz.func121 rfl rfl rfl ?_
  obtain ⟨x1, hx1, hh⟩ := bs' hh
  refine s' rfl rfl (J0.n hC rfl (q' rfl (n' (s' rfl rfl (q' rfl (q' rfl (J0.c rfl rfl (Q14 hx1) (q' rfl (n' (re' ?_))))))))))
  obtain rfl := oi' hh
  exact ⟨_, _, [], rfl, .rfl, trivial, rfl, rfl, rfl, rfl⟩
mutual
def Xb (t : D0) : Option Int :=
  N9 t 1 0
  partial_fixpoint
def N9 (t : D0) (n : Int) (i : Int) : Option Int :=
  if (decide (i < ((t.Of).length : Int))) = true then
    idx t.Of i >>= fun x1 =>
    Xb x1 >>= fun x2 =>
    N9 t (IntKind.i64.wrap (n + x2)) (IntKind.i64.wrap (i + 1))
  else
    some n
  partial_fixpoint
end
abbrev Sq (t : D0) (res : Int) : Prop := R0 C 122 [.agg (D0.cells t)] [] (fun x H' => H' = [] ∧ x = .d (.int .i64 res))
abbrev Em (t : D0) (n : Int) (i : Int) (res : Int) : Prop := Q0 (Fx.mk C 21 0) (lo (bk (sr (sl (sr (sr (N0 Tryz.f122))))))) (X0 [(1, .ref 0 0), (3, .d (.int .i64 n)), (4, .d (.int .i64 i))]) [.row (D0.cells t) 48] (Am.InBlock 0 (Am.Then (Fx.mk C 21 0) (sr (sr (sr (N0 Tryz.f122)))) (Am.Ends (Fx.mk C 21 0) Tryz.f122.results.toList (fun x H' => H' = [] ∧ x = .d (.int .i64 res)))))
theorem Av : (∀ (t : D0) (res : Int), Xb t = some res → Sq t res) ∧
    (∀ (t : D0) (n : Int) (i : Int) (res : Int), N9 t n i = some res → Em t n i res) := by
  refine Xb.mutual_partial_correctness (fun t res => Sq t res)
    (fun t n i res => Em t n i res) ?_ ?_
  · intro g1 ih1 t res hh
    refine R0.intro hC Tryz.func122 rfl rfl rfl ?_
    refine s' rfl rfl (J0.n hC rfl (q' rfl (n' (s' rfl rfl (q' rfl (n' (S' (s' rfl rfl (q' rfl (n' (AEx.block ?_)))))))))))
    refine AEx.ofLoop ?_
    refine Q0.wk ?_ (ih1 _ _ _ _ hh)
    exact ⟨⟨⟨.rfl, rfl⟩, ⟨⟨.rfl, rfl⟩, ⟨⟨.rfl, rfl⟩, trivial⟩⟩⟩, ⟨⟨rfl, .refl _, rfl⟩, trivial⟩, rfl⟩
  · intro g0 g1 ih0 ih1 t n i res hh
    refine Q0.unroll ?_
    refine S' (s' rfl rfl (q' rfl (q' rfl (q' rfl (qe' rfl trivial (D0.lenA _) (q' rfl (n' ?_)))))))
    refine ci' rfl hh (fun hh => ?_) (fun hh => ?_)
    · obtain ⟨x1, hx1, hh⟩ := bs' hh
      obtain ⟨x2, hx2, hh⟩ := bs' hh
      refine sk' (S' (AEx.block (R' rfl rfl (q' rfl (q' rfl (q' rfl (q' rfl (i' rfl (V0 hx1) (D0.idx hx1) rfl (q' rfl (J0.c rfl rfl (ih0 _ _ hx2) (q' rfl (q' rfl (n' ?_)))))))))))))
      refine R' rfl rfl (q' rfl (q' rfl (q' rfl (n' ?_))))
      refine Q0.wk ?_ (ih1 _ _ _ _ hh)
      exact ⟨⟨⟨.rfl, rfl⟩, ⟨⟨.rfl, rfl⟩, ⟨⟨.rfl, rfl⟩, trivial⟩⟩⟩, ⟨⟨rfl, .refl _, rfl⟩, trivial⟩, rfl⟩
    refine ex' (s' rfl rfl (q' rfl (q' rfl (n' (re' ?_)))))
    obtain rfl := oi' hh
    exact ⟨_, _, [], rfl, .rfl, trivial, rfl, rfl, rfl, rfl⟩
theorem R14 {t : D0} {res : Int} (hh : Xb t = some res) : Sq t res := (Av).1 _ _ hh
theorem R1k {t : D0} {n : Int} {i : Int} {res : Int} (hh : N9 t n i = some res) : Em t n i res := (Av).2 _ _ _ _ hh
mutual
def Yb (t : D0) : Option Int :=
  M7 t 0 0
  partial_fixpoint
def M7 (t : D0) (d : Int) (i : Int) : Option Int :=
  if (decide (i < ((t.Of).length : Int))) = true then
    idx t.Of i >>= fun x1 =>
    Yb x1 >>= fun x2 =>
    if (decide (x2 > d)) = true then
      M7 t x2 (IntKind.i64.wrap (i + 1))
    else
      M7 t d (IntKind.i64.wrap (i + 1))
  else
    some (IntKind.i64.wrap (d + 1))
  partial_fixpoint
end
abbrev Tq (t : D0) (res : Int) : Prop := R0 C 123 [.agg (D0.cells t)] [] (fun x H' => H' = [] ∧ x = .d (.int .i64 res))
abbrev Fm (t : D0) (d : Int) (i : Int) (res : Int) : Prop := Q0 (Fx.mk C 25 0) (lo (bk (sr (sl (sr (sr (N0 Tryz.f123))))))) (X0 [(1, .ref 0 0), (3, .d (.int .i64 d)), (4, .d (.int .i64 i))]) [.row (D0.cells t) 48] (Am.InBlock 0 (Am.Then (Fx.mk C 25 0) (sr (sr (sr (N0 Tryz.f123)))) (Am.Ends (Fx.mk C 25 0) Tryz.f123.results.toList (fun x H' => H' = [] ∧ x = .d (.int .i64 res)))))
theorem Bv : (∀ (t : D0) (res : Int), Yb t = some res → Tq t res) ∧
    (∀ (t : D0) (d : Int) (i : Int) (res : Int), M7 t d i = some res → Fm t d i res) := by
  refine Yb.mutual_partial_correctness (fun t res => Tq t res)
    (fun t d i res => Fm t d i res) ?_ ?_
  · intro g1 ih1 t res hh
    refine R0.intro hC Tryz.func123 rfl rfl rfl ?_
    refine s' rfl rfl (J0.n hC rfl (q' rfl (n' (s' rfl rfl (q' rfl (n' (S' (s' rfl rfl (q' rfl (n' (AEx.block ?_)))))))))))
    refine AEx.ofLoop ?_
    refine Q0.wk ?_ (ih1 _ _ _ _ hh)
    exact ⟨⟨⟨.rfl, rfl⟩, ⟨⟨.rfl, rfl⟩, ⟨⟨.rfl, rfl⟩, trivial⟩⟩⟩, ⟨⟨rfl, .refl _, rfl⟩, trivial⟩, rfl⟩
  · intro g0 g1 ih0 ih1 t d i res hh
    refine Q0.unroll ?_
    refine S' (s' rfl rfl (q' rfl (q' rfl (q' rfl (qe' rfl trivial (D0.lenA _) (q' rfl (n' ?_)))))))
    refine ci' rfl hh (fun hh => ?_) (fun hh => ?_)
    · obtain ⟨x1, hx1, hh⟩ := bs' hh
      obtain ⟨x2, hx2, hh⟩ := bs' hh
      refine sk' (S' (AEx.block (s' rfl rfl (q' rfl (q' rfl (q' rfl (i' rfl (V0 hx1) (D0.idx hx1) rfl (q' rfl (J0.c rfl rfl (ih0 _ _ hx2) (q' rfl (n' (s' rfl rfl (q' rfl ?_)))))))))))))
      refine q' rfl (q' rfl (n' ?_))
      refine ci' rfl hh (fun hh => ?_) (fun hh => ?_)
      · refine R' rfl rfl (q' rfl (q' rfl (n' (R' rfl rfl (q' rfl (q' rfl (q' rfl (n' ?_))))))))
        refine Q0.wk ?_ (ih1 _ _ _ _ hh)
        exact ⟨⟨⟨.rfl, rfl⟩, ⟨⟨.rfl, rfl⟩, ⟨⟨.rfl, rfl⟩, trivial⟩⟩⟩, ⟨⟨rfl, .refl _, rfl⟩, trivial⟩, rfl⟩
      refine sk' (R' rfl rfl (q' rfl (q' rfl (q' rfl (n' ?_)))))
      refine Q0.wk ?_ (ih1 _ _ _ _ hh)
      exact ⟨⟨⟨.rfl, rfl⟩, ⟨⟨.rfl, rfl⟩, ⟨⟨.rfl, rfl⟩, trivial⟩⟩⟩, ⟨⟨rfl, .refl _, rfl⟩, trivial⟩, rfl⟩
    refine ex' (s' rfl rfl (q' rfl (q' rfl (q' rfl (n' (re' ?_))))))
    obtain rfl := oi' hh
    exact ⟨_, _, [], rfl, .rfl, trivial, rfl, rfl, rfl, rfl⟩
theorem S14 {t : D0} {res : Int} (hh : Yb t = some res) : Tq t res := (Bv).1 _ _ hh
theorem S1k {t : D0} {d : Int} {i : Int} {res : Int} (hh : M7 t d i = some res) : Fm t d i res := (Bv).2 _ _ _ _ hh
def O8 (s : I0) (d : Int) : Option I0 :=
  if (decide (d > s.depth)) = true then
    some (I0.mk s.nodes d)
  else
    some s
abbrev O13 (s : I0) (d : Int) (res : I0) : Prop := R0 C 109 [.agg (I0.cells s), .d (.int .i64 d)] [] (fun x H' => H' = [] ∧ x = .agg (I0.cells res))
theorem Gm {s : I0} {d : Int} {res : I0} (hh : O8 s d = some res) : O13 s d res := by
  unfold O8 at hh
  refine R0.intro hC Tryz.func109 rfl rfl rfl ?_
  refine s' rfl rfl (J0.n hC rfl (J0.n hC rfl (n' (S' (s' rfl rfl (q' rfl (q' rfl (q' rfl (q' rfl (n' ?_))))))))))
  refine ci' rfl hh (fun hh => ?_) (fun hh => ?_)
  · refine R' rfl rfl (q' rfl (q' rfl (J0.s hC rfl (n' (s' rfl rfl (q' rfl (J0.s hC rfl (n' (re' ?_)))))))))
    obtain rfl := oi' hh
    exact ⟨_, _, [], rfl, .rfl, trivial, rfl, rfl, rfl, rfl⟩
  refine sk' (s' rfl rfl (q' rfl (J0.s hC rfl (n' (re' ?_)))))
  obtain rfl := oi' hh
  exact ⟨_, _, [], rfl, .rfl, trivial, rfl, rfl, rfl, rfl⟩
def En (s : I0) (t : D0) (used : Bool) : Option I0 :=
  (if (!used) = true then Bl t else some default) >>= fun x1 =>
  if (bif (!used) then x1 else false) = true then
    some s
  else
    Xb t >>= fun x2 =>
    Yb t >>= fun x3 =>
    O8 (I0.mk (IntKind.i64.wrap (s.nodes + x2)) s.depth) x3 >>= fun x4 =>
    some x4
abbrev B1a (s : I0) (t : D0) (used : Bool) (res : I0) : Prop := R0 C 61 [.agg (I0.cells s), .agg (D0.cells t), .d (.bool used)] [] (fun x H' => H' = [] ∧ x = .agg (I0.cells res))
theorem Z17 {s : I0} {t : D0} {used : Bool} {res : I0} (hh : En s t used = some res) : B1a s t used res := by
  unfold En at hh
  refine R0.intro hC Tryz.func61 rfl rfl rfl ?_
  obtain ⟨x1, hx1, hh⟩ := bs' hh
  refine s' rfl rfl (J0.n hC rfl (J0.n hC rfl (J0.n hC rfl (n' (S' (sg' 6 rfl (a0' rfl (a0' rfl (a0' rfl (a0' rfl (AG.c rfl rfl (fun hg => ⟨hg, trivial⟩) (fun hw => N16 (V1 hw hx1)) (pa' rfl (an' ?_)))))))))))))
  refine n' ?_
  refine ci' rfl hh (fun hh => ?_) (fun hh => ?_)
  · refine s' rfl rfl (q' rfl (J0.s hC rfl (n' (re' ?_))))
    obtain rfl := oi' hh
    exact ⟨_, _, [], rfl, .rfl, trivial, rfl, rfl, rfl, rfl⟩
  obtain ⟨x2, hx2, hh⟩ := bs' hh
  obtain ⟨x3, hx3, hh⟩ := bs' hh
  obtain ⟨x4, hx4, hh⟩ := bs' hh
  refine sk' (S' (AEx.draw hC 6 rfl rfl rfl (Q' rfl (Q' rfl (Q' rfl (AQ.c rfl rfl (R14 hx2) (Q' rfl (Q' rfl (Qn' (J0.s hC rfl (n' (S' (AEx.draw hC 4 rfl rfl rfl ?_)))))))))))))
  refine Q' rfl (Q' rfl (AQ.c rfl rfl (S14 hx3) (AQ.c rfl rfl (Gm hx4) (Qn' (J0.s hC rfl (n' (re' ?_)))))))
  obtain rfl := oi' hh
  exact ⟨_, _, [], rfl, .rfl, trivial, rfl, rfl, rfl, rfl⟩
def Tf (k : Int) : Option Bool :=
  some (bif (k == 5) then true else (k == 6))
abbrev O16 (k : Int) (res : Bool) : Prop := R0 C 147 [.d (.int .i64 k)] [] (fun x H' => H' = [] ∧ x = .d (.bool res))
theorem Ip {k : Int} {res : Bool} (hh : Tf k = some res) : O16 k res := by
  unfold Tf at hh
  refine R0.intro hC Tryz.func147 rfl rfl rfl ?_
  refine s' rfl rfl (q' rfl (n' (sg' 7 rfl (a0' rfl (a0' rfl (a0' rfl (a0' rfl (a1' rfl (po' rfl (a0' rfl (an' (n' (re' ?_)))))))))))))
  obtain rfl := oi' hh
  exact ⟨_, _, [], rfl, .rfl, trivial, rfl, rfl, rfl, rfl⟩
mutual
def Zb (a : A0) (b : A0) : Option Bool :=
  if (bif (bif (bif (a.Op != b.Op) then true else (a.NV != b.NV)) then true else (!(a.Name == b.Name))) then true else (((a.Kids).length : Int) != ((b.Kids).length : Int))) = true then
    some false
  else
    O9 a b 0
  partial_fixpoint
def O9 (a : A0) (b : A0) (i : Int) : Option Bool :=
  if (decide (i < ((a.Kids).length : Int))) = true then
    idx a.Kids i >>= fun x1 =>
    idx b.Kids i >>= fun x2 =>
    Zb x1 x2 >>= fun x3 =>
    if (!x3) = true then
      some false
    else
      O9 a b (IntKind.i64.wrap (i + 1))
  else
    some true
  partial_fixpoint
end
abbrev Uq (a : A0) (b : A0) (res : Bool) : Prop := R0 C 22 [.agg (A0.cells a), .agg (A0.cells b)] [] (fun x H' => H' = [] ∧ x = .d (.bool res))
abbrev Hm (a : A0) (b : A0) (i : Int) (res : Bool) : Prop := Q0 (Fx.mk C 53 0) (lo (bk (sr (sl (sr (sr (N0 Tryz.f22))))))) (X0 [(2, .ref 0 0), (3, .ref 1 0), (5, .d (.int .i64 i))]) [.row (A0.cells a) 36, .row (A0.cells b) 36] (Am.InBlock 0 (Am.Then (Fx.mk C 53 0) (sr (sr (sr (N0 Tryz.f22)))) (Am.Ends (Fx.mk C 53 0) Tryz.f22.results.toList (fun x H' => H' = [] ∧ x = .d (.bool res)))))
theorem Cv : (∀ (a : A0) (b : A0) (res : Bool), Zb a b = some res → Uq a b res) ∧
    (∀ (a : A0) (b : A0) (i : Int) (res : Bool), O9 a b i = some res → Hm a b i res) := by
  refine Zb.mutual_partial_correctness (fun a b res => Uq a b res)
    (fun a b i res => Hm a b i res) ?_ ?_
  · intro g1 ih1 a b res hh
    refine R0.intro hC Tryz.func22 rfl rfl rfl ?_
    refine s' rfl rfl (J0.n hC rfl (J0.n hC rfl (q' rfl (n' (S' (sg' 28 rfl (a0' rfl (a0' rfl (a0' rfl (a0' rfl (a0' rfl (a0' rfl (a0' rfl ?_)))))))))))))
    refine a1' rfl (a0' rfl (a1' rfl (a2' rfl (po' rfl (a0' rfl (a0' rfl (a1' rfl (a0' rfl (a1' rfl (a2' rfl (po' rfl (a0' rfl (a0' rfl ?_)))))))))))))
    refine a1' rfl (AG.qe hC rfl (fun hg => ⟨⟨hg, trivial⟩, trivial⟩) (A0.lenA _) (a0' rfl (a1' rfl (AG.qe hC rfl (fun hg => ⟨⟨hg, trivial⟩, trivial⟩) (A0.lenA _) (a2' rfl (po' rfl (an' (n' ?_))))))))
    refine ci' rfl hh (fun hh => ?_) (fun hh => ?_)
    · refine s' rfl rfl (q' rfl (n' (re' ?_)))
      obtain rfl := oi' hh
      exact ⟨_, _, [], rfl, .rfl, trivial, rfl, rfl, rfl, rfl⟩
    refine sk' (S' (s' rfl rfl (q' rfl (n' (AEx.block ?_)))))
    refine AEx.ofLoop ?_
    refine Q0.wk ?_ (ih1 _ _ _ _ hh)
    exact ⟨⟨⟨.rfl, rfl⟩, ⟨⟨.rfl, rfl⟩, ⟨⟨.rfl, rfl⟩, trivial⟩⟩⟩, ⟨⟨rfl, .refl _, rfl⟩, ⟨⟨rfl, .refl _, rfl⟩, trivial⟩⟩, rfl⟩
  · intro g0 g1 ih0 ih1 a b i res hh
    refine Q0.unroll ?_
    refine S' (s' rfl rfl (q' rfl (q' rfl (q' rfl (qe' rfl trivial (A0.lenA _) (q' rfl (n' ?_)))))))
    refine ci' rfl hh (fun hh => ?_) (fun hh => ?_)
    · obtain ⟨x1, hx1, hh⟩ := bs' hh
      obtain ⟨x2, hx2, hh⟩ := bs' hh
      obtain ⟨x3, hx3, hh⟩ := bs' hh
      refine sk' (S' (AEx.block (S' (AEx.draw hC 12 rfl rfl rfl (Q' rfl (Q' rfl (Q' rfl (AQ.i hC rfl (V0 hx1) (A0.idx hx1) rfl (Q' rfl (Q' rfl (Q' rfl (Q' rfl (AQ.i hC rfl (V0 hx2) (A0.idx hx2) rfl ?_)))))))))))))
      refine Q' rfl (AQ.c rfl rfl (ih0 _ _ _ hx3) (Q' rfl (Qn' (n' ?_))))
      refine ci' rfl hh (fun hh => ?_) (fun hh => ?_)
      · refine s' rfl rfl (q' rfl (n' (re' ?_)))
        obtain rfl := oi' hh
        exact ⟨_, _, [], rfl, .rfl, trivial, rfl, rfl, rfl, rfl⟩
      refine sk' (R' rfl rfl (q' rfl (q' rfl (q' rfl (n' ?_)))))
      refine Q0.wk ?_ (ih1 _ _ _ _ hh)
      exact ⟨⟨⟨.rfl, rfl⟩, ⟨⟨.rfl, rfl⟩, ⟨⟨.rfl, rfl⟩, trivial⟩⟩⟩, ⟨⟨rfl, .refl _, rfl⟩, ⟨⟨rfl, .refl _, rfl⟩, trivial⟩⟩, rfl⟩
    refine ex' (s' rfl rfl (q' rfl (n' (re' ?_))))
    obtain rfl := oi' hh
    exact ⟨_, _, [], rfl, .rfl, trivial, rfl, rfl, rfl, rfl⟩
theorem T14 {a : A0} {b : A0} {res : Bool} (hh : Zb a b = some res) : Uq a b res := (Cv).1 _ _ _ hh
theorem T1k {a : A0} {b : A0} {i : Int} {res : Bool} (hh : O9 a b i = some res) : Hm a b i res := (Cv).2 _ _ _ _ hh
def Ad (e : A0) : Option Bool :=
  Zb e (A0.mk 0 0 [] []) >>= fun x1 =>
  some x1
abbrev A18 (e : A0) (res : Bool) : Prop := R0 C 107 [.agg (A0.cells e)] [] (fun x H' => H' = [] ∧ x = .d (.bool res))
theorem Ck {e : A0} {res : Bool} (hh : Ad e = some res) : A18 e res := by
  unfold Ad at hh
  refine R0.intro hC Tryz.func107 rfl rfl rfl ?_
  obtain ⟨x1, hx1, hh⟩ := bs' hh
  refine s' rfl rfl (J0.n hC rfl (q' rfl (n' (s' rfl rfl (q' rfl (q' rfl (J0.c rfl rfl (T14 hx1) (q' rfl (n' (re' ?_))))))))))
  obtain rfl := oi' hh
  exact ⟨_, _, [], rfl, .rfl, trivial, rfl, rfl, rfl, rfl⟩
mutual
def Ac (e : A0) : Option Int :=
  P9 e 1 0
  partial_fixpoint
def P9 (e : A0) (n : Int) (i : Int) : Option Int :=
  if (decide (i < ((e.Kids).length : Int))) = true then
    idx e.Kids i >>= fun x1 =>
    Ac x1 >>= fun x2 =>
    P9 e (IntKind.i64.wrap (n + x2)) (IntKind.i64.wrap (i + 1))
  else
    some n
  partial_fixpoint
end
abbrev Vq (e : A0) (res : Int) : Prop := R0 C 108 [.agg (A0.cells e)] [] (fun x H' => H' = [] ∧ x = .d (.int .i64 res))
abbrev Im (e : A0) (n : Int) (i : Int) (res : Int) : Prop := Q0 (Fx.mk C 21 0) (lo (bk (sr (sl (sr (sr (N0 Tryz.f108))))))) (X0 [(1, .ref 0 0), (3, .d (.int .i64 n)), (4, .d (.int .i64 i))]) [.row (A0.cells e) 36] (Am.InBlock 0 (Am.Then (Fx.mk C 21 0) (sr (sr (sr (N0 Tryz.f108)))) (Am.Ends (Fx.mk C 21 0) Tryz.f108.results.toList (fun x H' => H' = [] ∧ x = .d (.int .i64 res)))))
theorem Dv : (∀ (e : A0) (res : Int), Ac e = some res → Vq e res) ∧
    (∀ (e : A0) (n : Int) (i : Int) (res : Int), P9 e n i = some res → Im e n i res) := by
  refine Ac.mutual_partial_correctness (fun e res => Vq e res)
    (fun e n i res => Im e n i res) ?_ ?_
  · intro g1 ih1 e res hh
    refine R0.intro hC Tryz.func108 rfl rfl rfl ?_
    refine s' rfl rfl (J0.n hC rfl (q' rfl (n' (s' rfl rfl (q' rfl (n' (S' (s' rfl rfl (q' rfl (n' (AEx.block ?_)))))))))))
    refine AEx.ofLoop ?_
    refine Q0.wk ?_ (ih1 _ _ _ _ hh)
    exact ⟨⟨⟨.rfl, rfl⟩, ⟨⟨.rfl, rfl⟩, ⟨⟨.rfl, rfl⟩, trivial⟩⟩⟩, ⟨⟨rfl, .refl _, rfl⟩, trivial⟩, rfl⟩
  · intro g0 g1 ih0 ih1 e n i res hh
    refine Q0.unroll ?_
    refine S' (s' rfl rfl (q' rfl (q' rfl (q' rfl (qe' rfl trivial (A0.lenA _) (q' rfl (n' ?_)))))))
    refine ci' rfl hh (fun hh => ?_) (fun hh => ?_)
    · obtain ⟨x1, hx1, hh⟩ := bs' hh
      obtain ⟨x2, hx2, hh⟩ := bs' hh
      refine sk' (S' (AEx.block (R' rfl rfl (q' rfl (q' rfl (q' rfl (q' rfl (i' rfl (V0 hx1) (A0.idx hx1) rfl (q' rfl (J0.c rfl rfl (ih0 _ _ hx2) (q' rfl (q' rfl (n' ?_)))))))))))))
      refine R' rfl rfl (q' rfl (q' rfl (q' rfl (n' ?_))))
      refine Q0.wk ?_ (ih1 _ _ _ _ hh)
      exact ⟨⟨⟨.rfl, rfl⟩, ⟨⟨.rfl, rfl⟩, ⟨⟨.rfl, rfl⟩, trivial⟩⟩⟩, ⟨⟨rfl, .refl _, rfl⟩, trivial⟩, rfl⟩
    refine ex' (s' rfl rfl (q' rfl (q' rfl (n' (re' ?_)))))
    obtain rfl := oi' hh
    exact ⟨_, _, [], rfl, .rfl, trivial, rfl, rfl, rfl, rfl⟩
theorem U14 {e : A0} {res : Int} (hh : Ac e = some res) : Vq e res := (Dv).1 _ _ hh
theorem U1k {e : A0} {n : Int} {i : Int} {res : Int} (hh : P9 e n i = some res) : Im e n i res := (Dv).2 _ _ _ _ hh
mutual
def Bc (e : A0) : Option Int :=
  N7 e 0 0
  partial_fixpoint
def N7 (e : A0) (d : Int) (i : Int) : Option Int :=
  if (decide (i < ((e.Kids).length : Int))) = true then
    idx e.Kids i >>= fun x1 =>
    Bc x1 >>= fun x2 =>
    if (decide (x2 > d)) = true then
      N7 e x2 (IntKind.i64.wrap (i + 1))
    else
      N7 e d (IntKind.i64.wrap (i + 1))
  else
    some (IntKind.i64.wrap (d + 1))
  partial_fixpoint
end
abbrev Wq (e : A0) (res : Int) : Prop := R0 C 110 [.agg (A0.cells e)] [] (fun x H' => H' = [] ∧ x = .d (.int .i64 res))
abbrev Jm (e : A0) (d : Int) (i : Int) (res : Int) : Prop := Q0 (Fx.mk C 25 0) (lo (bk (sr (sl (sr (sr (N0 Tryz.f110))))))) (X0 [(1, .ref 0 0), (3, .d (.int .i64 d)), (4, .d (.int .i64 i))]) [.row (A0.cells e) 36] (Am.InBlock 0 (Am.Then (Fx.mk C 25 0) (sr (sr (sr (N0 Tryz.f110)))) (Am.Ends (Fx.mk C 25 0) Tryz.f110.results.toList (fun x H' => H' = [] ∧ x = .d (.int .i64 res)))))
theorem Ev : (∀ (e : A0) (res : Int), Bc e = some res → Wq e res) ∧
    (∀ (e : A0) (d : Int) (i : Int) (res : Int), N7 e d i = some res → Jm e d i res) := by
  refine Bc.mutual_partial_correctness (fun e res => Wq e res)
    (fun e d i res => Jm e d i res) ?_ ?_
  · intro g1 ih1 e res hh
    refine R0.intro hC Tryz.func110 rfl rfl rfl ?_
    refine s' rfl rfl (J0.n hC rfl (q' rfl (n' (s' rfl rfl (q' rfl (n' (S' (s' rfl rfl (q' rfl (n' (AEx.block ?_)))))))))))
    refine AEx.ofLoop ?_
    refine Q0.wk ?_ (ih1 _ _ _ _ hh)
    exact ⟨⟨⟨.rfl, rfl⟩, ⟨⟨.rfl, rfl⟩, ⟨⟨.rfl, rfl⟩, trivial⟩⟩⟩, ⟨⟨rfl, .refl _, rfl⟩, trivial⟩, rfl⟩
  · intro g0 g1 ih0 ih1 e d i res hh
    refine Q0.unroll ?_
    refine S' (s' rfl rfl (q' rfl (q' rfl (q' rfl (qe' rfl trivial (A0.lenA _) (q' rfl (n' ?_)))))))
    refine ci' rfl hh (fun hh => ?_) (fun hh => ?_)
    · obtain ⟨x1, hx1, hh⟩ := bs' hh
      obtain ⟨x2, hx2, hh⟩ := bs' hh
      refine sk' (S' (AEx.block (s' rfl rfl (q' rfl (q' rfl (q' rfl (i' rfl (V0 hx1) (A0.idx hx1) rfl (q' rfl (J0.c rfl rfl (ih0 _ _ hx2) (q' rfl (n' (s' rfl rfl (q' rfl ?_)))))))))))))
      refine q' rfl (q' rfl (n' ?_))
      refine ci' rfl hh (fun hh => ?_) (fun hh => ?_)
      · refine R' rfl rfl (q' rfl (q' rfl (n' (R' rfl rfl (q' rfl (q' rfl (q' rfl (n' ?_))))))))
        refine Q0.wk ?_ (ih1 _ _ _ _ hh)
        exact ⟨⟨⟨.rfl, rfl⟩, ⟨⟨.rfl, rfl⟩, ⟨⟨.rfl, rfl⟩, trivial⟩⟩⟩, ⟨⟨rfl, .refl _, rfl⟩, trivial⟩, rfl⟩
      refine sk' (R' rfl rfl (q' rfl (q' rfl (q' rfl (n' ?_)))))
      refine Q0.wk ?_ (ih1 _ _ _ _ hh)
      exact ⟨⟨⟨.rfl, rfl⟩, ⟨⟨.rfl, rfl⟩, ⟨⟨.rfl, rfl⟩, trivial⟩⟩⟩, ⟨⟨rfl, .refl _, rfl⟩, trivial⟩, rfl⟩
    refine ex' (s' rfl rfl (q' rfl (q' rfl (q' rfl (n' (re' ?_))))))
    obtain rfl := oi' hh
    exact ⟨_, _, [], rfl, .rfl, trivial, rfl, rfl, rfl, rfl⟩
theorem V14 {e : A0} {res : Int} (hh : Bc e = some res) : Wq e res := (Ev).1 _ _ hh
theorem V1k {e : A0} {d : Int} {i : Int} {res : Int} (hh : N7 e d i = some res) : Jm e d i res := (Ev).2 _ _ _ _ hh
def Sc (s : I0) (e : A0) (used : Bool) : Option I0 :=
  (if (!used) = true then Ad e else some default) >>= fun x1 =>
  if (bif (!used) then x1 else false) = true then
    some s
  else
    Ac e >>= fun x2 =>
    Bc e >>= fun x3 =>
    O8 (I0.mk (IntKind.i64.wrap (s.nodes + x2)) s.depth) x3 >>= fun x4 =>
    some x4
abbrev C1a (s : I0) (e : A0) (used : Bool) (res : I0) : Prop := R0 C 49 [.agg (I0.cells s), .agg (A0.cells e), .d (.bool used)] [] (fun x H' => H' = [] ∧ x = .agg (I0.cells res))
theorem Km {s : I0} {e : A0} {used : Bool} {res : I0} (hh : Sc s e used = some res) : C1a s e used res := by
  unfold Sc at hh
  refine R0.intro hC Tryz.func49 rfl rfl rfl ?_
  obtain ⟨x1, hx1, hh⟩ := bs' hh
  refine s' rfl rfl (J0.n hC rfl (J0.n hC rfl (J0.n hC rfl (n' (S' (sg' 6 rfl (a0' rfl (a0' rfl (a0' rfl (a0' rfl (AG.c rfl rfl (fun hg => ⟨hg, trivial⟩) (fun hw => Ck (V1 hw hx1)) (pa' rfl (an' ?_)))))))))))))
  refine n' ?_
  refine ci' rfl hh (fun hh => ?_) (fun hh => ?_)
  · refine s' rfl rfl (q' rfl (J0.s hC rfl (n' (re' ?_))))
    obtain rfl := oi' hh
    exact ⟨_, _, [], rfl, .rfl, trivial, rfl, rfl, rfl, rfl⟩
  obtain ⟨x2, hx2, hh⟩ := bs' hh
  obtain ⟨x3, hx3, hh⟩ := bs' hh
  obtain ⟨x4, hx4, hh⟩ := bs' hh
  refine sk' (S' (AEx.draw hC 6 rfl rfl rfl (Q' rfl (Q' rfl (Q' rfl (AQ.c rfl rfl (U14 hx2) (Q' rfl (Q' rfl (Qn' (J0.s hC rfl (n' (S' (AEx.draw hC 4 rfl rfl rfl ?_)))))))))))))
  refine Q' rfl (Q' rfl (AQ.c rfl rfl (V14 hx3) (AQ.c rfl rfl (Gm hx4) (Qn' (J0.s hC rfl (n' (re' ?_)))))))
  obtain rfl := oi' hh
  exact ⟨_, _, [], rfl, .rfl, trivial, rfl, rfl, rfl, rfl⟩
def Uf (v : Int) : Option Bool :=
  some (bif (bif (v == 0) then true else (v == 1)) then true else (v == 2))
abbrev P16 (v : Int) (res : Bool) : Prop := R0 C 148 [.d (.int .i64 v)] [] (fun x H' => H' = [] ∧ x = .d (.bool res))
theorem Jp {v : Int} {res : Bool} (hh : Uf v = some res) : P16 v res := by
  unfold Uf at hh
  refine R0.intro hC Tryz.func148 rfl rfl rfl ?_
  refine s' rfl rfl (q' rfl (n' (sg' 11 rfl (a0' rfl (a0' rfl (a0' rfl (a0' rfl (a1' rfl (po' rfl (a0' rfl (a0' rfl (a1' rfl (po' rfl ?_)))))))))))))
  refine a0' rfl (an' (n' (re' ?_)))
  obtain rfl := oi' hh
  exact ⟨_, _, [], rfl, .rfl, trivial, rfl, rfl, rfl, rfl⟩
def Vf (v : Int) : Option Bool :=
  some (bif (bif (bif (v == 0) then true else (v == 3)) then true else (v == 5)) then true else (v == 6))
abbrev Q16 (v : Int) (res : Bool) : Prop := R0 C 149 [.d (.int .i64 v)] [] (fun x H' => H' = [] ∧ x = .d (.bool res))
theorem Kp {v : Int} {res : Bool} (hh : Vf v = some res) : Q16 v res := by
  unfold Vf at hh
  refine R0.intro hC Tryz.func149 rfl rfl rfl ?_
  refine s' rfl rfl (q' rfl (n' (sg' 15 rfl (a0' rfl (a0' rfl (a0' rfl (a0' rfl (a1' rfl (po' rfl (a0' rfl (a0' rfl (a1' rfl (po' rfl ?_)))))))))))))
  refine a0' rfl (a0' rfl (a1' rfl (po' rfl (a0' rfl (an' (n' (re' ?_)))))))
  obtain rfl := oi' hh
  exact ⟨_, _, [], rfl, .rfl, trivial, rfl, rfl, rfl, rfl⟩
mutual
def Sa (s : I0) (l : List B0) (d : Int) : Option I0 :=
  Lb l d s 0
  partial_fixpoint
def Lb (l : List B0) (d : Int) (o01 : I0) (i : Int) : Option I0 :=
  if (decide (i < ((l).length : Int))) = true then
    idx l i >>= fun x1 =>
    O8 (I0.mk (IntKind.i64.wrap (o01.nodes + 1)) o01.depth) d >>= fun x2 =>
    Uf x1.Verb >>= fun x3 =>
    Sc x2 x1.Place x3 >>= fun x4 =>
    Vf x1.Verb >>= fun x5 =>
    Sc x4 x1.Value x5 >>= fun x6 =>
    Yd l d x6 x1 i 0
  else
    some o01
  partial_fixpoint
def Yd (l : List B0) (d : Int) (o0 : I0) (x1 : B0) (i1 : Int) (k : Int) : Option I0 :=
  if (decide (k < ((x1.Args).length : Int))) = true then
    idx x1.Args k >>= fun x7 =>
    Sc o0 x7 true >>= fun x8 =>
    Yd l d x8 x1 i1 (IntKind.i64.wrap (k + 1))
  else
    Sa o0 x1.Then (IntKind.i64.wrap (d + 1)) >>= fun x9 =>
    Sa x9 x1.Else (IntKind.i64.wrap (d + 1)) >>= fun x10 =>
    Lb l d x10 (IntKind.i64.wrap (i1 + 1))
  partial_fixpoint
end
abbrev Ks (s : I0) (l : List B0) (d : Int) (res : I0) : Prop := R0 C 88 [.agg (I0.cells s), .d (.sl (B0.rows l)), .d (.int .i64 d)] [] (fun x H' => H' = [] ∧ x = .agg (I0.cells res))
abbrev Vn (l : List B0) (d : Int) (o01 : I0) (i : Int) (res : I0) : Prop := Q0 (Fx.mk C 68 0) (lo (bk (sr (sl (sr (N0 Tryz.f88)))))) (X0 [(1, .d (.sl (B0.rows l))), (2, .d (.int .i64 d)), (3, .ref 0 0), (6, .ref 1 0), (7, .d (.int .i64 i))]) [.row (I0.cells o01) 77, .row [.d (.int .i64 0), .d (.int .i64 0)] 77] (Am.InBlock 0 (Am.Then (Fx.mk C 68 0) (sr (sr (N0 Tryz.f88))) (Am.Ends (Fx.mk C 68 0) Tryz.f88.results.toList (fun x H' => H' = [] ∧ x = .agg (I0.cells res)))))
abbrev Wn (l : List B0) (d : Int) (o0 : I0) (x1 : B0) (i1 : Int) (k : Int) (res : I0) : Prop := Q0 (Fx.mk C 68 0) (lo (bk (sr (sl (sr (sr (sr (sr (sr (bk (sl (sr (lo (bk (sr (sl (sr (N0 Tryz.f88)))))))))))))))))) (X0 [(1, .d (.sl (B0.rows l))), (2, .d (.int .i64 d)), (3, .ref 0 0), (6, .ref 1 0), (7, .d (.int .i64 i1)), (8, .ref 2 0), (9, .d (.int .i64 k))]) [.row (I0.cells o0) 77, .row [.d (.int .i64 0), .d (.int .i64 0)] 77, .row (B0.cells x1) 68] (Am.InBlock 2 (Am.Then (Fx.mk C 68 0) (sr (sr (sr (sr (sr (sr (bk (sl (sr (lo (bk (sr (sl (sr (N0 Tryz.f88))))))))))))))) (Am.InBlock 1 (Am.Then (Fx.mk C 68 0) (sr (sr (lo (bk (sr (sl (sr (N0 Tryz.f88)))))))) (Am.Again (Fx.mk C 68 0) (lo (bk (sr (sl (sr (N0 Tryz.f88)))))) (Am.InBlock 0 (Am.Then (Fx.mk C 68 0) (sr (sr (N0 Tryz.f88))) (Am.Ends (Fx.mk C 68 0) Tryz.f88.results.toList (fun x H' => H' = [] ∧ x = .agg (I0.cells res))))))))))
theorem Lp : (∀ (s : I0) (l : List B0) (d : Int) (res : I0), Sa s l d = some res → Ks s l d res) ∧
    (∀ (l : List B0) (d : Int) (o01 : I0) (i : Int) (res : I0), Lb l d o01 i = some res → Vn l d o01 i res) ∧
    (∀ (l : List B0) (d : Int) (o0 : I0) (x1 : B0) (i1 : Int) (k : Int) (res : I0), Yd l d o0 x1 i1 k = some res → Wn l d o0 x1 i1 k res) := by
  refine Sa.mutual_partial_correctness (fun s l d res => Ks s l d res)
    (fun l d o01 i res => Vn l d o01 i res)
    (fun l d o0 x1 i1 k res => Wn l d o0 x1 i1 k res) ?_ ?_ ?_
  · intro g1 ih1 s l d res hh
    refine R0.intro hC Tryz.func88 rfl rfl rfl ?_
    refine s' rfl rfl (J0.n hC rfl (J0.n hC rfl (n' (S' (s' rfl rfl (q' rfl (n' (AEx.block ?_))))))))
    refine AEx.ofLoop ?_
    refine Q0.wk ?_ (ih1 _ _ _ _ _ hh)
    exact ⟨⟨⟨.rfl, rfl⟩, ⟨⟨.rfl, rfl⟩, ⟨⟨.rfl, rfl⟩, ⟨⟨.rfl, rfl⟩, ⟨⟨.rfl, rfl⟩, trivial⟩⟩⟩⟩⟩, ⟨⟨rfl, .refl _, rfl⟩, ⟨⟨rfl, .refl _, rfl⟩, trivial⟩⟩, rfl⟩
  · intro g2 ih2 l d o01 i res hh
    refine Q0.unroll ?_
    refine S' (s' rfl rfl (q' rfl (q' rfl (qe' rfl trivial (B0.lenA _) (q' rfl (n' ?_))))))
    refine ci' rfl hh (fun hh => ?_) (fun hh => ?_)
    · obtain ⟨x1, hx1, hh⟩ := bs' hh
      obtain ⟨x2, hx2, hh⟩ := bs' hh
      obtain ⟨x3, hx3, hh⟩ := bs' hh
      obtain ⟨x4, hx4, hh⟩ := bs' hh
      obtain ⟨x5, hx5, hh⟩ := bs' hh
      obtain ⟨x6, hx6, hh⟩ := bs' hh
      refine sk' (S' (AEx.block (s' rfl rfl (q' rfl (q' rfl (i' rfl (V0 hx1) (B0.idx hx1) rfl (q' rfl (J0.nf hC rfl (J0.s hC rfl (n' (s' rfl rfl (q' rfl (q' rfl ?_)))))))))))))
      refine q' rfl (q' rfl (J0.s hC rfl (n' (s' rfl rfl (q' rfl (q' rfl (J0.c rfl rfl (Gm hx2) (J0.s hC rfl (n' (S' (AEx.draw hC 7 rfl rfl rfl (Q' rfl (Q' rfl ?_)))))))))))))
      refine Q' rfl (Q' rfl (Q' rfl (AQ.c rfl rfl (Jp hx3) (AQ.c rfl rfl (Km hx4) (Qn' (J0.s hC rfl (n' (S' (AEx.draw hC 7 rfl rfl rfl (Q' rfl (Q' rfl (Q' rfl (Q' rfl ?_)))))))))))))
      refine Q' rfl (AQ.c rfl rfl (Kp hx5) (AQ.c rfl rfl (Km hx6) (Qn' (J0.s hC rfl (n' (S' (s' rfl rfl (q' rfl (n' (AEx.block ?_))))))))))
      refine AEx.ofLoop ?_
      refine Q0.wk ?_ (ih2 _ _ _ _ _ _ _ hh)
      exact ⟨⟨⟨.rfl, rfl⟩, ⟨⟨.rfl, rfl⟩, ⟨⟨.rfl, rfl⟩, ⟨⟨.rfl, rfl⟩, ⟨⟨.rfl, rfl⟩, ⟨⟨.rfl, rfl⟩, ⟨⟨.rfl, rfl⟩, trivial⟩⟩⟩⟩⟩⟩⟩, ⟨⟨rfl, .refl _, rfl⟩, ⟨⟨rfl, .refl _, rfl⟩, ⟨⟨rfl, .refl _, rfl⟩, trivial⟩⟩⟩, rfl⟩
    refine ex' (s' rfl rfl (q' rfl (J0.s hC rfl (n' (re' ?_)))))
    obtain rfl := oi' hh
    exact ⟨_, _, [], rfl, .rfl, trivial, rfl, rfl, rfl, rfl⟩
  · intro g0 g1 g2 ih0 ih1 ih2 l d o0 x1 i1 k res hh
    refine Q0.unroll ?_
    refine S' (s' rfl rfl (q' rfl (q' rfl (q' rfl (qe' rfl trivial (A0.lenA _) (q' rfl (n' ?_)))))))
    refine ci' rfl hh (fun hh => ?_) (fun hh => ?_)
    · obtain ⟨x7, hx7, hh⟩ := bs' hh
      obtain ⟨x8, hx8, hh⟩ := bs' hh
      refine sk' (S' (AEx.block (AEx.draw hC 7 rfl rfl rfl (Q' rfl (Q' rfl (Q' rfl (Q' rfl (AQ.i hC rfl (V0 hx7) (A0.idx hx7) rfl (Q' rfl (AQ.c rfl rfl (Km hx8) (Qn' (J0.s hC rfl (n' ?_)))))))))))))
      refine R' rfl rfl (q' rfl (q' rfl (q' rfl (n' ?_))))
      refine Q0.wk ?_ (ih2 _ _ _ _ _ _ _ hh)
      exact ⟨⟨⟨.rfl, rfl⟩, ⟨⟨.rfl, rfl⟩, ⟨⟨.rfl, rfl⟩, ⟨⟨.rfl, rfl⟩, ⟨⟨.rfl, rfl⟩, ⟨⟨.rfl, rfl⟩, ⟨⟨.rfl, rfl⟩, trivial⟩⟩⟩⟩⟩⟩⟩, ⟨⟨rfl, .refl _, rfl⟩, ⟨⟨rfl, .refl _, rfl⟩, ⟨⟨rfl, .refl _, rfl⟩, trivial⟩⟩⟩, rfl⟩
    obtain ⟨x9, hx9, hh⟩ := bs' hh
    obtain ⟨x10, hx10, hh⟩ := bs' hh
    refine ex' (s' rfl rfl (q' rfl (q' rfl (q' rfl (q' rfl (q' rfl (J0.c rfl rfl (ih0 _ _ _ _ hx9) (J0.s hC rfl (n' (R' rfl rfl (q' rfl (q' rfl (q' rfl ?_)))))))))))))
    refine q' rfl (q' rfl (J0.c rfl rfl (ih0 _ _ _ _ hx10) (J0.s hC rfl (n' (R' rfl rfl (q' rfl (q' rfl (q' rfl (n' ?_)))))))))
    refine Q0.wk ?_ (ih1 _ _ _ _ _ hh)
    exact ⟨⟨⟨.rfl, rfl⟩, ⟨⟨.rfl, rfl⟩, ⟨⟨.rfl, rfl⟩, ⟨⟨.rfl, rfl⟩, ⟨⟨.rfl, rfl⟩, trivial⟩⟩⟩⟩⟩, ⟨⟨rfl, .refl _, rfl⟩, ⟨⟨rfl, .refl _, rfl⟩, trivial⟩⟩, rfl⟩
theorem Tx {s : I0} {l : List B0} {d : Int} {res : I0} (hh : Sa s l d = some res) : Ks s l d res := (Lp).1 _ _ _ _ hh
theorem V1m {l : List B0} {d : Int} {o01 : I0} {i : Int} {res : I0} (hh : Lb l d o01 i = some res) : Vn l d o01 i res := (Lp).2.1 _ _ _ _ _ hh
theorem W1m {l : List B0} {d : Int} {o0 : I0} {x1 : B0} {i1 : Int} {k : Int} {res : I0} (hh : Yd l d o0 x1 i1 k = some res) : Wn l d o0 x1 i1 k res := (Lp).2.2 _ _ _ _ _ _ _ hh
mutual
def Bd (s : I0) (l : List E0) : Option I0 :=
  Mb l s 0
  partial_fixpoint
def Mb (l : List E0) (o0 : I0) (i : Int) : Option I0 :=
  if (decide (i < ((l).length : Int))) = true then
    idx l i >>= fun x1 =>
    Al x1.Kind >>= fun x2 =>
    En (I0.mk (IntKind.i64.wrap (o0.nodes + 1)) o0.depth) x1.TypeV x2 >>= fun x3 =>
    Tf x1.Kind >>= fun x4 =>
    Sc x3 x1.Value x4 >>= fun x5 =>
    Bd x5 x1.Params >>= fun x6 =>
    Bd x6 x1.Vars >>= fun x7 =>
    Sa x7 x1.Body 1 >>= fun x8 =>
    Mb l x8 (IntKind.i64.wrap (i + 1))
  else
    some o0
  partial_fixpoint
end
abbrev Ls (s : I0) (l : List E0) (res : I0) : Prop := R0 C 89 [.agg (I0.cells s), .d (.sl (E0.rows l))] [] (fun x H' => H' = [] ∧ x = .agg (I0.cells res))
abbrev Xn (l : List E0) (o0 : I0) (i : Int) (res : I0) : Prop := Q0 (Fx.mk C 48 0) (lo (bk (sr (sl (sr (N0 Tryz.f89)))))) (X0 [(1, .d (.sl (E0.rows l))), (2, .ref 0 0), (4, .ref 1 0), (5, .d (.int .i64 i))]) [.row (I0.cells o0) 77, .row [.d (.int .i64 0), .d (.int .i64 0)] 77] (Am.InBlock 0 (Am.Then (Fx.mk C 48 0) (sr (sr (N0 Tryz.f89))) (Am.Ends (Fx.mk C 48 0) Tryz.f89.results.toList (fun x H' => H' = [] ∧ x = .agg (I0.cells res)))))
theorem Xw : (∀ (s : I0) (l : List E0) (res : I0), Bd s l = some res → Ls s l res) ∧
    (∀ (l : List E0) (o0 : I0) (i : Int) (res : I0), Mb l o0 i = some res → Xn l o0 i res) := by
  refine Bd.mutual_partial_correctness (fun s l res => Ls s l res)
    (fun l o0 i res => Xn l o0 i res) ?_ ?_
  · intro g1 ih1 s l res hh
    refine R0.intro hC Tryz.func89 rfl rfl rfl ?_
    refine s' rfl rfl (J0.n hC rfl (J0.n hC rfl (n' (S' (s' rfl rfl (q' rfl (n' (AEx.block ?_))))))))
    refine AEx.ofLoop ?_
    refine Q0.wk ?_ (ih1 _ _ _ _ hh)
    exact ⟨⟨⟨.rfl, rfl⟩, ⟨⟨.rfl, rfl⟩, ⟨⟨.rfl, rfl⟩, ⟨⟨.rfl, rfl⟩, trivial⟩⟩⟩⟩, ⟨⟨rfl, .refl _, rfl⟩, ⟨⟨rfl, .refl _, rfl⟩, trivial⟩⟩, rfl⟩
  · intro g0 g1 ih0 ih1 l o0 i res hh
    refine Q0.unroll ?_
    refine S' (s' rfl rfl (q' rfl (q' rfl (qe' rfl trivial (E0.lenA _) (q' rfl (n' ?_))))))
    refine ci' rfl hh (fun hh => ?_) (fun hh => ?_)
    · obtain ⟨x1, hx1, hh⟩ := bs' hh
      obtain ⟨x2, hx2, hh⟩ := bs' hh
      obtain ⟨x3, hx3, hh⟩ := bs' hh
      obtain ⟨x4, hx4, hh⟩ := bs' hh
      obtain ⟨x5, hx5, hh⟩ := bs' hh
      obtain ⟨x6, hx6, hh⟩ := bs' hh
      obtain ⟨x7, hx7, hh⟩ := bs' hh
      obtain ⟨x8, hx8, hh⟩ := bs' hh
      refine sk' (S' (AEx.block (s' rfl rfl (q' rfl (q' rfl (i' rfl (V0 hx1) (E0.idx hx1) rfl (q' rfl (J0.nf hC rfl (J0.s hC rfl (n' (s' rfl rfl (q' rfl (q' rfl ?_)))))))))))))
      refine q' rfl (q' rfl (J0.s hC rfl (n' (S' (AEx.draw hC 7 rfl rfl rfl (Q' rfl (Q' rfl (Q' rfl (Q' rfl (Q' rfl (AQ.c rfl rfl (Sx hx2) (AQ.c rfl rfl (Z17 hx3) (Qn' ?_)))))))))))))
      refine J0.s hC rfl (n' (S' (AEx.draw hC 7 rfl rfl rfl (Q' rfl (Q' rfl (Q' rfl (Q' rfl (Q' rfl (AQ.c rfl rfl (Ip hx4) (AQ.c rfl rfl (Km hx5) (Qn' (J0.s hC rfl (n' ?_)))))))))))))
      refine s' rfl rfl (q' rfl (q' rfl (q' rfl (J0.c rfl rfl (ih0 _ _ _ hx6) (J0.s hC rfl (n' (s' rfl rfl (q' rfl (q' rfl (q' rfl (J0.c rfl rfl (ih0 _ _ _ hx7) (J0.s hC rfl (n' ?_)))))))))))))
      refine R' rfl rfl (q' rfl (q' rfl (q' rfl (J0.c rfl rfl (Tx hx8) (J0.s hC rfl (n' (R' rfl rfl (q' rfl (q' rfl (q' rfl (n' ?_)))))))))))
      refine Q0.wk ?_ (ih1 _ _ _ _ hh)
      exact ⟨⟨⟨.rfl, rfl⟩, ⟨⟨.rfl, rfl⟩, ⟨⟨.rfl, rfl⟩, ⟨⟨.rfl, rfl⟩, trivial⟩⟩⟩⟩, ⟨⟨rfl, .refl _, rfl⟩, ⟨⟨rfl, .refl _, rfl⟩, trivial⟩⟩, rfl⟩
    refine ex' (s' rfl rfl (q' rfl (J0.s hC rfl (n' (re' ?_)))))
    obtain rfl := oi' hh
    exact ⟨_, _, [], rfl, .rfl, trivial, rfl, rfl, rfl, rfl⟩
theorem R16 {s : I0} {l : List E0} {res : I0} (hh : Bd s l = some res) : Ls s l res := (Xw).1 _ _ _ hh
theorem X1m {l : List E0} {o0 : I0} {i : Int} {res : I0} (hh : Mb l o0 i = some res) : Xn l o0 i res := (Xw).2 _ _ _ _ hh
def Mr (p : L0) : Option I0 :=
  Bd (I0.mk 0 0) p.Decls >>= fun x1 =>
  Sa x1 p.Body 1 >>= fun x2 =>
  some x2
abbrev Q1d (p : L0) (res : I0) : Prop := R0 C 41 [.agg (L0.cells p)] [] (fun x H' => H' = [] ∧ x = .agg (I0.cells res))
theorem J1b {p : L0} {res : I0} (hh : Mr p = some res) : Q1d p res := by
  unfold Mr at hh
  refine R0.intro hC Tryz.func41 rfl rfl rfl ?_
  obtain ⟨x1, hx1, hh⟩ := bs' hh
  obtain ⟨x2, hx2, hh⟩ := bs' hh
  refine s' rfl rfl (J0.n hC rfl (J0.n hC rfl (n' (S' (AEx.draw hC 7 rfl rfl rfl (Q' rfl (Q' rfl (Q' rfl (AQ.c rfl rfl (R16 hx1) (Q' rfl (Q' rfl (AQ.c rfl rfl (Tx hx2) (Qn' ?_)))))))))))))
  refine J0.s hC rfl (n' (re' ?_))
  obtain rfl := oi' hh
  exact ⟨_, _, [], rfl, .rfl, trivial, rfl, rfl, rfl, rfl⟩
mutual
def Cd (t : D0) : Option Bool :=
  if (bif (decide (t.Kind < 0)) then true else (decide (t.Kind > 4))) = true then
    some false
  else
    if (bif (bif (bif (bif (t.Kind != 1) then (bif (t.Low != 0) then true else (t.High != 0)) else false) then true else (bif (t.Kind != 2) then (t.Size != 0) else false)) then true else (bif (t.Kind != 4) then (!(t.Name == [])) else false)) then true else (bif (t.Kind != 3) then (((t.Names).length : Int) != 0) else false)) = true then
      some false
    else
      if (bif (bif (bif (t.Kind == 2) then (((t.Of).length : Int) != 1) else false) then true else (bif (t.Kind == 3) then (bif (decide (((t.Of).length : Int) < 1)) then true else (((t.Of).length : Int) != ((t.Names).length : Int))) else false)) then true else (bif (bif (t.Kind != 2) then (t.Kind != 3) else false) then (((t.Of).length : Int) != 0) else false)) = true then
        some false
      else
        Nb t 0
  partial_fixpoint
def Nb (t : D0) (i : Int) : Option Bool :=
  if (decide (i < ((t.Of).length : Int))) = true then
    idx t.Of i >>= fun x1 =>
    Cd x1 >>= fun x2 =>
    if (!x2) = true then
      some false
    else
      Nb t (IntKind.i64.wrap (i + 1))
  else
    some true
  partial_fixpoint
end
abbrev Ms (t : D0) (res : Bool) : Prop := R0 C 62 [.agg (D0.cells t)] [] (fun x H' => H' = [] ∧ x = .d (.bool res))
abbrev Yn (t : D0) (i : Int) (res : Bool) : Prop := Q0 (Fx.mk C 115 0) (lo (bk (sr (sl (sr (sr (sr (sr (N0 Tryz.f62))))))))) (X0 [(1, .ref 0 0), (3, .d (.int .i64 i))]) [.row (D0.cells t) 48] (Am.InBlock 0 (Am.Then (Fx.mk C 115 0) (sr (sr (sr (sr (sr (N0 Tryz.f62)))))) (Am.Ends (Fx.mk C 115 0) Tryz.f62.results.toList (fun x H' => H' = [] ∧ x = .d (.bool res)))))
theorem Yw : (∀ (t : D0) (res : Bool), Cd t = some res → Ms t res) ∧
    (∀ (t : D0) (i : Int) (res : Bool), Nb t i = some res → Yn t i res) := by
  refine Cd.mutual_partial_correctness (fun t res => Ms t res)
    (fun t i res => Yn t i res) ?_ ?_
  · intro g1 ih1 t res hh
    refine R0.intro hC Tryz.func62 rfl rfl rfl ?_
    refine s' rfl rfl (J0.n hC rfl (q' rfl (n' (S' (sg' 8 rfl (a0' rfl (a0' rfl (a0' rfl (a0' rfl (a0' rfl (a1' rfl (a1' rfl (po' rfl ?_)))))))))))))
    refine an' (n' ?_)
    refine ci' rfl hh (fun hh => ?_) (fun hh => ?_)
    · refine s' rfl rfl (q' rfl (n' (re' ?_)))
      obtain rfl := oi' hh
      exact ⟨_, _, [], rfl, .rfl, trivial, rfl, rfl, rfl, rfl⟩
    refine sk' (S' (sg' 44 rfl (a0' rfl (a0' rfl (a0' rfl (a0' rfl (a0' rfl (a1' rfl (a1' rfl (a1' rfl (a0' rfl (a1' rfl (a1' rfl ?_)))))))))))))
    refine pO' rfl (pa' rfl (a0' rfl (a0' rfl (a1' rfl (a1' rfl (a1' rfl (a0' rfl (a1' rfl (a1' rfl (pA' rfl (po' rfl (a0' rfl (a0' rfl ?_)))))))))))))
    refine a1' rfl (a1' rfl (a1' rfl (a0' rfl (a1' rfl (a1' rfl (pA' rfl (po' rfl (a0' rfl (a0' rfl (a1' rfl (a1' rfl (a1' rfl (a0' rfl ?_)))))))))))))
    refine a1' rfl (AG.qe hC rfl (fun hg => ⟨⟨hg, trivial⟩, trivial⟩) (estr.lenA _) (a1' rfl (pA' rfl (po' rfl (an' (n' ?_))))))
    refine ci' rfl hh (fun hh => ?_) (fun hh => ?_)
    · refine s' rfl rfl (q' rfl (n' (re' ?_)))
      obtain rfl := oi' hh
      exact ⟨_, _, [], rfl, .rfl, trivial, rfl, rfl, rfl, rfl⟩
    refine sk' (S' (sg' 45 rfl (a0' rfl (a0' rfl (a0' rfl (a0' rfl (a0' rfl (a1' rfl (AG.qe hC rfl (fun hg => ⟨⟨hg, trivial⟩, trivial⟩) (D0.lenA _) (a1' rfl (pa' rfl (a0' rfl (a0' rfl ?_)))))))))))))
    refine a1' rfl (a1' rfl (a1' rfl (a0' rfl (a1' rfl (AG.qe hC rfl (fun hg => ⟨⟨hg, trivial⟩, trivial⟩) (D0.lenA _) (a1' rfl (a1' rfl (a0' rfl (a1' rfl (AG.qe hC rfl (fun hg => ⟨⟨hg, trivial⟩, trivial⟩) (D0.lenA _) (a0' rfl (a1' rfl (AG.qe hC rfl (fun hg => ⟨⟨hg, trivial⟩, trivial⟩) (estr.lenA _) ?_)))))))))))))
    refine a2' rfl (pO' rfl (pA' rfl (po' rfl (a0' rfl (a0' rfl (a1' rfl (a1' rfl (a1' rfl (a0' rfl (a1' rfl (a1' rfl (pA' rfl (a1' rfl ?_)))))))))))))
    refine a0' rfl (a1' rfl (AG.qe hC rfl (fun hg => ⟨⟨hg, trivial⟩, trivial⟩) (D0.lenA _) (a1' rfl (pA' rfl (po' rfl (an' (n' ?_)))))))
    refine ci' rfl hh (fun hh => ?_) (fun hh => ?_)
    · refine s' rfl rfl (q' rfl (n' (re' ?_)))
      obtain rfl := oi' hh
      exact ⟨_, _, [], rfl, .rfl, trivial, rfl, rfl, rfl, rfl⟩
    refine sk' (S' (s' rfl rfl (q' rfl (n' (AEx.block ?_)))))
    refine AEx.ofLoop ?_
    refine Q0.wk ?_ (ih1 _ _ _ hh)
    exact ⟨⟨⟨.rfl, rfl⟩, ⟨⟨.rfl, rfl⟩, trivial⟩⟩, ⟨⟨rfl, .refl _, rfl⟩, trivial⟩, rfl⟩
  · intro g0 g1 ih0 ih1 t i res hh
    refine Q0.unroll ?_
    refine S' (s' rfl rfl (q' rfl (q' rfl (q' rfl (qe' rfl trivial (D0.lenA _) (q' rfl (n' ?_)))))))
    refine ci' rfl hh (fun hh => ?_) (fun hh => ?_)
    · obtain ⟨x1, hx1, hh⟩ := bs' hh
      obtain ⟨x2, hx2, hh⟩ := bs' hh
      refine sk' (S' (AEx.block (s' rfl rfl (q' rfl (q' rfl (q' rfl (i' rfl (V0 hx1) (D0.idx hx1) rfl (q' rfl (J0.c rfl rfl (ih0 _ _ hx2) (q' rfl (n' ?_)))))))))))
      refine ci' rfl hh (fun hh => ?_) (fun hh => ?_)
      · refine s' rfl rfl (q' rfl (n' (re' ?_)))
        obtain rfl := oi' hh
        exact ⟨_, _, [], rfl, .rfl, trivial, rfl, rfl, rfl, rfl⟩
      refine sk' (R' rfl rfl (q' rfl (q' rfl (q' rfl (n' ?_)))))
      refine Q0.wk ?_ (ih1 _ _ _ hh)
      exact ⟨⟨⟨.rfl, rfl⟩, ⟨⟨.rfl, rfl⟩, trivial⟩⟩, ⟨⟨rfl, .refl _, rfl⟩, trivial⟩, rfl⟩
    refine ex' (s' rfl rfl (q' rfl (n' (re' ?_))))
    obtain rfl := oi' hh
    exact ⟨_, _, [], rfl, .rfl, trivial, rfl, rfl, rfl, rfl⟩
theorem S16 {t : D0} {res : Bool} (hh : Cd t = some res) : Ms t res := (Yw).1 _ _ hh
theorem Y1m {t : D0} {i : Int} {res : Bool} (hh : Nb t i = some res) : Yn t i res := (Yw).2 _ _ _ hh
def Ut (o : Int) : Option Int :=
  if (bif (bif (bif (o == 0) then true else (o == 1)) then true else (o == 2)) then true else (o == 3)) = true then
    some 0
  else
    if (bif (bif (o == 4) then true else (o == 6)) then true else (o == 7)) = true then
      some 1
    else
      if (bif (o == 5) then true else (bif (decide (o ≥ 8)) then (decide (o ≤ 22)) else false)) = true then
        some 2
      else
        if (o == 23) = true then
          some 3
        else
          some (-1)
abbrev W1g (o : Int) (res : Int) : Prop := R0 C 111 [.d (.int .i64 o)] [] (fun x H' => H' = [] ∧ x = .d (.int .i64 res))
theorem R1d {o : Int} {res : Int} (hh : Ut o = some res) : W1g o res := by
  unfold Ut at hh
  refine R0.intro hC Tryz.func111 rfl rfl rfl ?_
  refine s' rfl rfl (q' rfl (n' (S' (sg' 14 rfl (a0' rfl (a0' rfl (a0' rfl (a0' rfl (a1' rfl (po' rfl (a0' rfl (a0' rfl (a1' rfl ?_)))))))))))))
  refine po' rfl (a0' rfl (a0' rfl (a1' rfl (po' rfl (an' (n' ?_))))))
  refine ci' rfl hh (fun hh => ?_) (fun hh => ?_)
  · refine s' rfl rfl (q' rfl (n' (re' ?_)))
    obtain rfl := oi' hh
    exact ⟨_, _, [], rfl, .rfl, trivial, rfl, rfl, rfl, rfl⟩
  refine sk' (S' (sg' 10 rfl (a0' rfl (a0' rfl (a0' rfl (a0' rfl (a1' rfl (po' rfl (a0' rfl (a0' rfl (a1' rfl (po' rfl (an' ?_)))))))))))))
  refine n' ?_
  refine ci' rfl hh (fun hh => ?_) (fun hh => ?_)
  · refine s' rfl rfl (q' rfl (n' (re' ?_)))
    obtain rfl := oi' hh
    exact ⟨_, _, [], rfl, .rfl, trivial, rfl, rfl, rfl, rfl⟩
  refine sk' (S' (sg' 10 rfl (a0' rfl (a0' rfl (a0' rfl (a0' rfl (a1' rfl (a1' rfl (a0' rfl (a1' rfl (pA' rfl (po' rfl (an' ?_)))))))))))))
  refine n' ?_
  refine ci' rfl hh (fun hh => ?_) (fun hh => ?_)
  · refine s' rfl rfl (q' rfl (n' (re' ?_)))
    obtain rfl := oi' hh
    exact ⟨_, _, [], rfl, .rfl, trivial, rfl, rfl, rfl, rfl⟩
  refine sk' (S' (s' rfl rfl (q' rfl (q' rfl (n' ?_)))))
  refine ci' rfl hh (fun hh => ?_) (fun hh => ?_)
  · refine s' rfl rfl (q' rfl (n' (re' ?_)))
    obtain rfl := oi' hh
    exact ⟨_, _, [], rfl, .rfl, trivial, rfl, rfl, rfl, rfl⟩
  refine sk' (s' rfl rfl (q' rfl (n' (re' ?_))))
  obtain rfl := oi' hh
  exact ⟨_, _, [], rfl, .rfl, trivial, rfl, rfl, rfl, rfl⟩
def Ee (e : A0) : Option Bool :=
  if (e.Op == 3) = true then
    some true
  else
    (if (bif (bif (e.Op == 4) then true else (e.Op == 5)) then (decide (((e.Kids).length : Int) > 0)) else false) = true then idx e.Kids 0 else some default) >>= fun x1 =>
    (if (bif (bif (e.Op == 4) then true else (e.Op == 5)) then (decide (((e.Kids).length : Int) > 0)) else false) = true then Ee x1 else some default) >>= fun x2 =>
    some (bif (bif (bif (e.Op == 4) then true else (e.Op == 5)) then (decide (((e.Kids).length : Int) > 0)) else false) then x2 else false)
  partial_fixpoint
abbrev Vt (e : A0) (res : Bool) : Prop := R0 C 112 [.agg (A0.cells e)] [] (fun x H' => H' = [] ∧ x = .d (.bool res))
theorem T16 : (∀ (e : A0) (res : Bool), Ee e = some res → Vt e res) := by
  refine Ee.partial_correctness (fun e res => Vt e res) ?_
  · intro g0 ih0 e res hh
    refine R0.intro hC Tryz.func112 rfl rfl rfl ?_
    refine s' rfl rfl (J0.n hC rfl (q' rfl (n' (S' (s' rfl rfl (q' rfl (q' rfl (q' rfl (n' ?_)))))))))
    refine ci' rfl hh (fun hh => ?_) (fun hh => ?_)
    · refine s' rfl rfl (q' rfl (n' (re' ?_)))
      obtain rfl := oi' hh
      exact ⟨_, _, [], rfl, .rfl, trivial, rfl, rfl, rfl, rfl⟩
    obtain ⟨x1, hx1, hh⟩ := bs' hh
    obtain ⟨x2, hx2, hh⟩ := bs' hh
    refine sk' (sg' 22 rfl (a0' rfl (a0' rfl (a0' rfl (a0' rfl (a0' rfl (a1' rfl (a1' rfl (po' rfl (a0' rfl (a0' rfl (a1' rfl (AG.qe hC rfl (fun hg => ⟨⟨hg, trivial⟩, trivial⟩) (A0.lenA _) ?_)))))))))))))
    refine a1' rfl (pa' rfl (a0' rfl (a0' rfl (a1' rfl (AG.i hC rfl rfl (fun hg => ⟨hg, trivial⟩) (fun hw => ⟨V0 (V1 hw hx1), A0.idx (V1 hw hx1), rfl⟩) (a1' rfl (AG.c rfl rfl (fun hg => ⟨hg, trivial⟩) (fun hw => ih0 _ _ (V1 hw hx2)) (pa' rfl (a0' rfl (an' (n' (re' ?_))))))))))))
    obtain rfl := oi' hh
    exact ⟨_, _, [], rfl, .rfl, trivial, rfl, rfl, rfl, rfl⟩
theorem Hz {e : A0} {res : Bool} (hh : Ee e = some res) : Vt e res := (T16) _ _ hh
mutual
def A6 (e : A0) : Option Bool :=
  Ut e.Op >>= fun x1 =>
  if (bif (bif (x1 != ((e.Kids).length : Int)) then true else (bif (e.Op != 0) then (e.NV != 0) else false)) then true else (bif (bif (e.Op != 3) then (e.Op != 4) else false) then (!(e.Name == [])) else false)) = true then
    some false
  else
    (if (bif (e.Op == 4) then true else (e.Op == 5)) = true then Ee e else some default) >>= fun x2 =>
    if (bif (bif (e.Op == 4) then true else (e.Op == 5)) then (!x2) else false) = true then
      some false
    else
      Pb e 0
  partial_fixpoint
def Pb (e : A0) (i : Int) : Option Bool :=
  if (decide (i < ((e.Kids).length : Int))) = true then
    idx e.Kids i >>= fun x3 =>
    A6 x3 >>= fun x4 =>
    if (!x4) = true then
      some false
    else
      Pb e (IntKind.i64.wrap (i + 1))
  else
    some true
  partial_fixpoint
end
abbrev Ns (e : A0) (res : Bool) : Prop := R0 C 50 [.agg (A0.cells e)] [] (fun x H' => H' = [] ∧ x = .d (.bool res))
abbrev Zn (e : A0) (i : Int) (res : Bool) : Prop := Q0 (Fx.mk C 63 0) (lo (bk (sr (sl (sr (sr (sr (N0 Tryz.f50)))))))) (X0 [(1, .ref 0 0), (3, .d (.int .i64 i))]) [.row (A0.cells e) 36] (Am.InBlock 0 (Am.Then (Fx.mk C 63 0) (sr (sr (sr (sr (N0 Tryz.f50))))) (Am.Ends (Fx.mk C 63 0) Tryz.f50.results.toList (fun x H' => H' = [] ∧ x = .d (.bool res)))))
theorem Zw : (∀ (e : A0) (res : Bool), A6 e = some res → Ns e res) ∧
    (∀ (e : A0) (i : Int) (res : Bool), Pb e i = some res → Zn e i res) := by
  refine A6.mutual_partial_correctness (fun e res => Ns e res)
    (fun e i res => Zn e i res) ?_ ?_
  · intro g1 ih1 e res hh
    refine R0.intro hC Tryz.func50 rfl rfl rfl ?_
    obtain ⟨x1, hx1, hh⟩ := bs' hh
    refine s' rfl rfl (J0.n hC rfl (q' rfl (n' (S' (S' (AEx.drawG hC 32 rfl rfl rfl (a0' rfl (a0' rfl (AG.c rfl rfl (fun _ => trivial) (fun _ => R1d hx1) (a0' rfl (a0' rfl (AG.qe hC rfl (fun hg => ⟨trivial, trivial⟩) (A0.lenA _) (a0' rfl ?_)))))))))))))
    refine a0' rfl (a0' rfl (a1' rfl (a1' rfl (a1' rfl (a0' rfl (a1' rfl (a1' rfl (pA' rfl (po' rfl (a0' rfl (a0' rfl (a1' rfl (a1' rfl ?_)))))))))))))
    refine a1' rfl (a0' rfl (a1' rfl (a1' rfl (pA' rfl (a1' rfl (a0' rfl (a1' rfl (a1' rfl (pA' rfl (po' rfl (an' (n' ?_))))))))))))
    refine ci' rfl hh (fun hh => ?_) (fun hh => ?_)
    · refine s' rfl rfl (q' rfl (n' (re' ?_)))
      obtain rfl := oi' hh
      exact ⟨_, _, [], rfl, .rfl, trivial, rfl, rfl, rfl, rfl⟩
    obtain ⟨x2, hx2, hh⟩ := bs' hh
    refine sk' (S' (sg' 13 rfl (a0' rfl (a0' rfl (a0' rfl (a0' rfl (a0' rfl (a1' rfl (a1' rfl (po' rfl (a0' rfl (a0' rfl (AG.c rfl rfl (fun hg => ⟨hg, trivial⟩) (fun hw => Hz (V1 hw hx2)) ?_)))))))))))))
    refine a1' rfl (pa' rfl (an' (n' ?_)))
    refine ci' rfl hh (fun hh => ?_) (fun hh => ?_)
    · refine s' rfl rfl (q' rfl (n' (re' ?_)))
      obtain rfl := oi' hh
      exact ⟨_, _, [], rfl, .rfl, trivial, rfl, rfl, rfl, rfl⟩
    refine sk' (S' (s' rfl rfl (q' rfl (n' (AEx.block ?_)))))
    refine AEx.ofLoop ?_
    refine Q0.wk ?_ (ih1 _ _ _ hh)
    exact ⟨⟨⟨.rfl, rfl⟩, ⟨⟨.rfl, rfl⟩, trivial⟩⟩, ⟨⟨rfl, .refl _, rfl⟩, trivial⟩, rfl⟩
  · intro g0 g1 ih0 ih1 e i res hh
    refine Q0.unroll ?_
    refine S' (s' rfl rfl (q' rfl (q' rfl (q' rfl (qe' rfl trivial (A0.lenA _) (q' rfl (n' ?_)))))))
    refine ci' rfl hh (fun hh => ?_) (fun hh => ?_)
    · obtain ⟨x3, hx3, hh⟩ := bs' hh
      obtain ⟨x4, hx4, hh⟩ := bs' hh
      refine sk' (S' (AEx.block (s' rfl rfl (q' rfl (q' rfl (q' rfl (i' rfl (V0 hx3) (A0.idx hx3) rfl (q' rfl (J0.c rfl rfl (ih0 _ _ hx4) (q' rfl (n' ?_)))))))))))
      refine ci' rfl hh (fun hh => ?_) (fun hh => ?_)
      · refine s' rfl rfl (q' rfl (n' (re' ?_)))
        obtain rfl := oi' hh
        exact ⟨_, _, [], rfl, .rfl, trivial, rfl, rfl, rfl, rfl⟩
      refine sk' (R' rfl rfl (q' rfl (q' rfl (q' rfl (n' ?_)))))
      refine Q0.wk ?_ (ih1 _ _ _ hh)
      exact ⟨⟨⟨.rfl, rfl⟩, ⟨⟨.rfl, rfl⟩, trivial⟩⟩, ⟨⟨rfl, .refl _, rfl⟩, trivial⟩, rfl⟩
    refine ex' (s' rfl rfl (q' rfl (n' (re' ?_))))
    obtain rfl := oi' hh
    exact ⟨_, _, [], rfl, .rfl, trivial, rfl, rfl, rfl, rfl⟩
theorem Dk {e : A0} {res : Bool} (hh : A6 e = some res) : Ns e res := (Zw).1 _ _ hh
theorem Z1m {e : A0} {i : Int} {res : Bool} (hh : Pb e i = some res) : Zn e i res := (Zw).2 _ _ _ hh
def Cl (v : Int) : Option Bool :=
  some (bif (bif (v == 1) then true else (v == 2)) then true else (v == 7))
abbrev B18 (v : Int) (res : Bool) : Prop := R0 C 129 [.d (.int .i64 v)] [] (fun x H' => H' = [] ∧ x = .d (.bool res))
theorem Ux {v : Int} {res : Bool} (hh : Cl v = some res) : B18 v res := by
  unfold Cl at hh
  refine R0.intro hC Tryz.func129 rfl rfl rfl ?_
  refine s' rfl rfl (q' rfl (n' (sg' 11 rfl (a0' rfl (a0' rfl (a0' rfl (a0' rfl (a1' rfl (po' rfl (a0' rfl (a0' rfl (a1' rfl (po' rfl ?_)))))))))))))
  refine a0' rfl (an' (n' (re' ?_)))
  obtain rfl := oi' hh
  exact ⟨_, _, [], rfl, .rfl, trivial, rfl, rfl, rfl, rfl⟩
def Hw (v : Int) : Option Bool :=
  some (bif (v == 4) then true else (v == 6))
abbrev S1d (v : Int) (res : Bool) : Prop := R0 C 150 [.d (.int .i64 v)] [] (fun x H' => H' = [] ∧ x = .d (.bool res))
theorem K1b {v : Int} {res : Bool} (hh : Hw v = some res) : S1d v res := by
  unfold Hw at hh
  refine R0.intro hC Tryz.func150 rfl rfl rfl ?_
  refine s' rfl rfl (q' rfl (n' (sg' 7 rfl (a0' rfl (a0' rfl (a0' rfl (a0' rfl (a1' rfl (po' rfl (a0' rfl (an' (n' (re' ?_)))))))))))))
  obtain rfl := oi' hh
  exact ⟨_, _, [], rfl, .rfl, trivial, rfl, rfl, rfl, rfl⟩
def Cq (v : Int) : Option Bool :=
  some (bif (bif (v == 5) then true else (v == 6)) then true else (v == 7))
abbrev C18 (v : Int) (res : Bool) : Prop := R0 C 151 [.d (.int .i64 v)] [] (fun x H' => H' = [] ∧ x = .d (.bool res))
theorem U16 {v : Int} {res : Bool} (hh : Cq v = some res) : C18 v res := by
  unfold Cq at hh
  refine R0.intro hC Tryz.func151 rfl rfl rfl ?_
  refine s' rfl rfl (q' rfl (n' (sg' 11 rfl (a0' rfl (a0' rfl (a0' rfl (a0' rfl (a1' rfl (po' rfl (a0' rfl (a0' rfl (a1' rfl (po' rfl ?_)))))))))))))
  refine a0' rfl (an' (n' (re' ?_)))
  obtain rfl := oi' hh
  exact ⟨_, _, [], rfl, .rfl, trivial, rfl, rfl, rfl, rfl⟩
mutual
def D9 (l : List B0) : Option Bool :=
  Q9 l 0
  partial_fixpoint
def Q9 (l : List B0) (i : Int) : Option Bool :=
  if (decide (i < ((l).length : Int))) = true then
    idx l i >>= fun x1 =>
    if (bif (decide (x1.Verb < 0)) then true else (decide (x1.Verb > 8))) = true then
      some false
    else
      Uf x1.Verb >>= fun x2 =>
      (if x2 = true then Ee x1.Place else some default) >>= fun x3 =>
      (if (x2 && (!(!x3))) = true then A6 x1.Place else some default) >>= fun x4 =>
      (if (!(bif x2 then (bif (!x3) then true else (!x4)) else false)) = true then Uf x1.Verb else some default) >>= fun x5 =>
      (if ((!(bif x2 then (bif (!x3) then true else (!x4)) else false)) && (!x5)) = true then Ad x1.Place else some default) >>= fun x6 =>
      if (bif (bif x2 then (bif (!x3) then true else (!x4)) else false) then true else (bif (!x5) then (!x6) else false)) = true then
        some false
      else
        Vf x1.Verb >>= fun x7 =>
        (if x7 = true then A6 x1.Value else some default) >>= fun x8 =>
        (if (!(bif x7 then (!x8) else false)) = true then Vf x1.Verb else some default) >>= fun x9 =>
        (if ((!(bif x7 then (!x8) else false)) && (!x9)) = true then Ad x1.Value else some default) >>= fun x10 =>
        if (bif (bif x7 then (!x8) else false) then true else (bif (!x9) then (!x10) else false)) = true then
          some false
        else
          Cl x1.Verb >>= fun x11 =>
          (if (!(bif (bif (!x11) then (!(x1.Name == [])) else false) then true else (bif (x1.Verb != 1) then (((x1.Args).length : Int) != 0) else false))) = true then Hw x1.Verb else some default) >>= fun x12 =>
          if (bif (bif (bif (bif (bif (!x11) then (!(x1.Name == [])) else false) then true else (bif (x1.Verb != 1) then (((x1.Args).length : Int) != 0) else false)) then true else (bif (!x12) then (x1.NV != 0) else false)) then true else (bif (x1.Verb != 7) then (bif (x1.Low != 0) then true else (x1.High != 0)) else false)) then true else (bif (x1.Verb != 8) then (((x1.Numbers).length : Int) != 0) else false)) = true then
            some false
          else
            Cq x1.Verb >>= fun x13 =>
            if (bif (bif (!x13) then (((x1.Then).length : Int) != 0) else false) then true else (bif (x1.Verb != 5) then (((x1.Else).length : Int) != 0) else false)) = true then
              some false
            else
              Dd l x1 i 0
  else
    some true
  partial_fixpoint
def Dd (l : List B0) (x1 : B0) (i1 : Int) (k : Int) : Option Bool :=
  if (decide (k < ((x1.Args).length : Int))) = true then
    idx x1.Args k >>= fun x14 =>
    A6 x14 >>= fun x15 =>
    if (!x15) = true then
      some false
    else
      Dd l x1 i1 (IntKind.i64.wrap (k + 1))
  else
    D9 x1.Then >>= fun x16 =>
    (if (!(!x16)) = true then D9 x1.Else else some default) >>= fun x17 =>
    if (bif (!x16) then true else (!x17)) = true then
      some false
    else
      Q9 l (IntKind.i64.wrap (i1 + 1))
  partial_fixpoint
end
abbrev Xq (l : List B0) (res : Bool) : Prop := R0 C 83 [.d (.sl (B0.rows l))] [] (fun x H' => H' = [] ∧ x = .d (.bool res))
abbrev Lm (l : List B0) (i : Int) (res : Bool) : Prop := Q0 (Fx.mk C 174 0) (lo (bk (sr (sl (sr (N0 Tryz.f83)))))) (X0 [(0, .d (.sl (B0.rows l))), (3, .d (.int .i64 i))]) [] (Am.InBlock 0 (Am.Then (Fx.mk C 174 0) (sr (sr (N0 Tryz.f83))) (Am.Ends (Fx.mk C 174 0) Tryz.f83.results.toList (fun x H' => H' = [] ∧ x = .d (.bool res)))))
abbrev Mm (l : List B0) (x1 : B0) (i1 : Int) (k : Int) (res : Bool) : Prop := Q0 (Fx.mk C 174 0) (lo (bk (sr (sl (sr (sr (sr (sr (sr (sr (bk (sl (sr (lo (bk (sr (sl (sr (N0 Tryz.f83))))))))))))))))))) (X0 [(0, .d (.sl (B0.rows l))), (3, .d (.int .i64 i1)), (4, .ref 0 0), (5, .d (.int .i64 k))]) [.row (B0.cells x1) 68] (Am.InBlock 2 (Am.Then (Fx.mk C 174 0) (sr (sr (sr (sr (sr (sr (sr (bk (sl (sr (lo (bk (sr (sl (sr (N0 Tryz.f83)))))))))))))))) (Am.InBlock 1 (Am.Then (Fx.mk C 174 0) (sr (sr (lo (bk (sr (sl (sr (N0 Tryz.f83)))))))) (Am.Again (Fx.mk C 174 0) (lo (bk (sr (sl (sr (N0 Tryz.f83)))))) (Am.InBlock 0 (Am.Then (Fx.mk C 174 0) (sr (sr (N0 Tryz.f83))) (Am.Ends (Fx.mk C 174 0) Tryz.f83.results.toList (fun x H' => H' = [] ∧ x = .d (.bool res))))))))))
theorem Ao : (∀ (l : List B0) (res : Bool), D9 l = some res → Xq l res) ∧
    (∀ (l : List B0) (i : Int) (res : Bool), Q9 l i = some res → Lm l i res) ∧
    (∀ (l : List B0) (x1 : B0) (i1 : Int) (k : Int) (res : Bool), Dd l x1 i1 k = some res → Mm l x1 i1 k res) := by
  refine D9.mutual_partial_correctness (fun l res => Xq l res)
    (fun l i res => Lm l i res)
    (fun l x1 i1 k res => Mm l x1 i1 k res) ?_ ?_ ?_
  · intro g1 ih1 l res hh
    refine R0.intro hC Tryz.func83 rfl rfl rfl ?_
    refine s' rfl rfl (q' rfl (n' (S' (s' rfl rfl (q' rfl (n' (AEx.block ?_)))))))
    refine AEx.ofLoop ?_
    refine Q0.wk ?_ (ih1 _ _ _ hh)
    exact ⟨⟨⟨.rfl, rfl⟩, ⟨⟨.rfl, rfl⟩, trivial⟩⟩, trivial, rfl⟩
  · intro g2 ih2 l i res hh
    refine Q0.unroll ?_
    refine S' (s' rfl rfl (q' rfl (q' rfl (qe' rfl trivial (B0.lenA _) (q' rfl (n' ?_))))))
    refine ci' rfl hh (fun hh => ?_) (fun hh => ?_)
    · obtain ⟨x1, hx1, hh⟩ := bs' hh
      refine sk' (S' (AEx.block (s' rfl rfl (q' rfl (q' rfl (i' rfl (V0 hx1) (B0.idx hx1) rfl (q' rfl (J0.nf hC rfl (J0.s hC rfl (n' (S' (sg' 8 rfl (a0' rfl ?_)))))))))))))
      iterate 4 refine a0' rfl ?_
      refine a1' rfl (a1' rfl (po' rfl (an' (n' ?_))))
      refine ci' rfl hh (fun hh => ?_) (fun hh => ?_)
      · refine s' rfl rfl (q' rfl (n' (re' ?_)))
        obtain rfl := oi' hh
        exact ⟨_, _, [], rfl, .rfl, trivial, rfl, rfl, rfl, rfl⟩
      obtain ⟨x2, hx2, hh⟩ := bs' hh
      obtain ⟨x3, hx3, hh⟩ := bs' hh
      obtain ⟨x4, hx4, hh⟩ := bs' hh
      obtain ⟨x5, hx5, hh⟩ := bs' hh
      obtain ⟨x6, hx6, hh⟩ := bs' hh
      refine sk' (S' (sg' 27 rfl (a0' rfl (a0' rfl (AG.c rfl rfl (fun _ => trivial) (fun _ => Jp hx2) (a0' rfl (a0' rfl (a1' rfl (AG.c rfl rfl (fun hg => ⟨hg, trivial⟩) (fun hw => Hz (V1 hw hx3)) (a1' rfl (a1' rfl (a0' rfl (a1' rfl ?_)))))))))))))
      refine AG.c rfl rfl (fun hg => ⟨hg, trivial⟩) (fun hw => Dk (V1 hw hx4)) (a1' rfl (pO' rfl (pa' rfl (a0' rfl (a0' rfl (a1' rfl (AG.c rfl rfl (fun hg => ⟨hg, trivial⟩) (fun hw => Jp (V1 hw hx5)) (a1' rfl (a1' rfl (a0' rfl (a1' rfl (AG.c rfl rfl (fun hg => ⟨hg, trivial⟩) (fun hw => Ck (V1 hw hx6)) (a1' rfl ?_)))))))))))))
      refine pA' rfl (po' rfl (an' (n' ?_)))
      refine ci' rfl hh (fun hh => ?_) (fun hh => ?_)
      · refine s' rfl rfl (q' rfl (n' (re' ?_)))
        obtain rfl := oi' hh
        exact ⟨_, _, [], rfl, .rfl, trivial, rfl, rfl, rfl, rfl⟩
      obtain ⟨x7, hx7, hh⟩ := bs' hh
      obtain ⟨x8, hx8, hh⟩ := bs' hh
      obtain ⟨x9, hx9, hh⟩ := bs' hh
      obtain ⟨x10, hx10, hh⟩ := bs' hh
      refine sk' (S' (sg' 21 rfl (a0' rfl (a0' rfl (AG.c rfl rfl (fun _ => trivial) (fun _ => Kp hx7) (a0' rfl (a0' rfl (a1' rfl (AG.c rfl rfl (fun hg => ⟨hg, trivial⟩) (fun hw => Dk (V1 hw hx8)) (a1' rfl (pa' rfl (a0' rfl (a0' rfl ?_)))))))))))))
      refine a1' rfl (AG.c rfl rfl (fun hg => ⟨hg, trivial⟩) (fun hw => Kp (V1 hw hx9)) (a1' rfl (a1' rfl (a0' rfl (a1' rfl (AG.c rfl rfl (fun hg => ⟨hg, trivial⟩) (fun hw => Ck (V1 hw hx10)) (a1' rfl (pA' rfl (po' rfl (an' (n' ?_)))))))))))
      refine ci' rfl hh (fun hh => ?_) (fun hh => ?_)
      · refine s' rfl rfl (q' rfl (n' (re' ?_)))
        obtain rfl := oi' hh
        exact ⟨_, _, [], rfl, .rfl, trivial, rfl, rfl, rfl, rfl⟩
      obtain ⟨x11, hx11, hh⟩ := bs' hh
      obtain ⟨x12, hx12, hh⟩ := bs' hh
      refine sk' (S' (sg' 57 rfl (a0' rfl (a0' rfl (AG.c rfl rfl (fun _ => trivial) (fun _ => Ux hx11) (a0' rfl (a0' rfl (a0' rfl (a1' rfl (a1' rfl (pa' rfl (a0' rfl (a0' rfl ?_)))))))))))))
      refine a1' rfl (a1' rfl (a1' rfl (a0' rfl (a1' rfl (AG.qe hC rfl (fun hg => ⟨⟨hg, trivial⟩, trivial⟩) (A0.lenA _) (a1' rfl (pA' rfl (po' rfl (a0' rfl (a0' rfl (a1' rfl (AG.c rfl rfl (fun hg => ⟨hg, trivial⟩) (fun hw => K1b (V1 hw hx12)) (a1' rfl ?_)))))))))))))
      refine a1' rfl (a0' rfl (a1' rfl (a1' rfl (pA' rfl (po' rfl (a0' rfl (a0' rfl (a1' rfl (a1' rfl (a1' rfl (a0' rfl (a1' rfl (a1' rfl ?_)))))))))))))
      refine a1' rfl (a0' rfl (a1' rfl (a1' rfl (pO' rfl (pA' rfl (po' rfl (a0' rfl (a0' rfl (a1' rfl (a1' rfl (a1' rfl (a0' rfl (a1' rfl ?_)))))))))))))
      refine AG.qe hC rfl (fun hg => ⟨⟨hg, trivial⟩, trivial⟩) (ei64.lenA _) (a1' rfl (pA' rfl (po' rfl (an' (n' ?_)))))
      refine ci' rfl hh (fun hh => ?_) (fun hh => ?_)
      · refine s' rfl rfl (q' rfl (n' (re' ?_)))
        obtain rfl := oi' hh
        exact ⟨_, _, [], rfl, .rfl, trivial, rfl, rfl, rfl, rfl⟩
      obtain ⟨x13, hx13, hh⟩ := bs' hh
      refine sk' (S' (sg' 21 rfl (a0' rfl (a0' rfl (AG.c rfl rfl (fun _ => trivial) (fun _ => U16 hx13) (a0' rfl (a0' rfl (a0' rfl (a1' rfl (AG.qe hC rfl (fun hg => ⟨⟨hg, trivial⟩, trivial⟩) (B0.lenA _) (a1' rfl (pa' rfl (a0' rfl ?_)))))))))))))
      refine a0' rfl (a1' rfl (a1' rfl (a1' rfl (a0' rfl (a1' rfl (AG.qe hC rfl (fun hg => ⟨⟨hg, trivial⟩, trivial⟩) (B0.lenA _) (a1' rfl (pA' rfl (po' rfl (an' (n' ?_)))))))))))
      refine ci' rfl hh (fun hh => ?_) (fun hh => ?_)
      · refine s' rfl rfl (q' rfl (n' (re' ?_)))
        obtain rfl := oi' hh
        exact ⟨_, _, [], rfl, .rfl, trivial, rfl, rfl, rfl, rfl⟩
      refine sk' (S' (s' rfl rfl (q' rfl (n' (AEx.block ?_)))))
      refine AEx.ofLoop ?_
      refine Q0.wk ?_ (ih2 _ _ _ _ _ hh)
      exact ⟨⟨⟨.rfl, rfl⟩, ⟨⟨.rfl, rfl⟩, ⟨⟨.rfl, rfl⟩, ⟨⟨.rfl, rfl⟩, trivial⟩⟩⟩⟩, ⟨⟨rfl, .refl _, rfl⟩, trivial⟩, rfl⟩
    refine ex' (s' rfl rfl (q' rfl (n' (re' ?_))))
    obtain rfl := oi' hh
    exact ⟨_, _, [], rfl, .rfl, trivial, rfl, rfl, rfl, rfl⟩
  · intro g0 g1 g2 ih0 ih1 ih2 l x1 i1 k res hh
    refine Q0.unroll ?_
    refine S' (s' rfl rfl (q' rfl (q' rfl (q' rfl (qe' rfl trivial (A0.lenA _) (q' rfl (n' ?_)))))))
    refine ci' rfl hh (fun hh => ?_) (fun hh => ?_)
    · obtain ⟨x14, hx14, hh⟩ := bs' hh
      obtain ⟨x15, hx15, hh⟩ := bs' hh
      refine sk' (S' (AEx.block (s' rfl rfl (q' rfl (q' rfl (q' rfl (i' rfl (V0 hx14) (A0.idx hx14) rfl (q' rfl (J0.c rfl rfl (Dk hx15) (q' rfl (n' ?_)))))))))))
      refine ci' rfl hh (fun hh => ?_) (fun hh => ?_)
      · refine s' rfl rfl (q' rfl (n' (re' ?_)))
        obtain rfl := oi' hh
        exact ⟨_, _, [], rfl, .rfl, trivial, rfl, rfl, rfl, rfl⟩
      refine sk' (R' rfl rfl (q' rfl (q' rfl (q' rfl (n' ?_)))))
      refine Q0.wk ?_ (ih2 _ _ _ _ _ hh)
      exact ⟨⟨⟨.rfl, rfl⟩, ⟨⟨.rfl, rfl⟩, ⟨⟨.rfl, rfl⟩, ⟨⟨.rfl, rfl⟩, trivial⟩⟩⟩⟩, ⟨⟨rfl, .refl _, rfl⟩, trivial⟩, rfl⟩
    obtain ⟨x16, hx16, hh⟩ := bs' hh
    obtain ⟨x17, hx17, hh⟩ := bs' hh
    refine ex' (sg' 10 rfl (a0' rfl (a0' rfl (AG.c rfl rfl (fun _ => trivial) (fun _ => ih0 _ _ hx16) (a0' rfl (a0' rfl (a0' rfl (a1' rfl (AG.c rfl rfl (fun hg => ⟨hg, trivial⟩) (fun hw => ih0 _ _ (V1 hw hx17)) (a1' rfl (po' rfl (an' (n' ?_)))))))))))))
    refine ci' rfl hh (fun hh => ?_) (fun hh => ?_)
    · refine s' rfl rfl (q' rfl (n' (re' ?_)))
      obtain rfl := oi' hh
      exact ⟨_, _, [], rfl, .rfl, trivial, rfl, rfl, rfl, rfl⟩
    refine sk' (R' rfl rfl (q' rfl (q' rfl (q' rfl (n' ?_)))))
    refine Q0.wk ?_ (ih1 _ _ _ hh)
    exact ⟨⟨⟨.rfl, rfl⟩, ⟨⟨.rfl, rfl⟩, trivial⟩⟩, trivial, rfl⟩
theorem Ax {l : List B0} {res : Bool} (hh : D9 l = some res) : Xq l res := (Ao).1 _ _ hh
theorem W1k {l : List B0} {i : Int} {res : Bool} (hh : Q9 l i = some res) : Lm l i res := (Ao).2.1 _ _ _ hh
theorem X1k {l : List B0} {x1 : B0} {i1 : Int} {k : Int} {res : Bool} (hh : Dd l x1 i1 k = some res) : Mm l x1 i1 k res := (Ao).2.2 _ _ _ _ _ hh
end Go.Proofs.YtmilgoloagbmpaaGreatDoor

set_option maxRecDepth 100000
set_option maxHeartbeats 4000000
set_option linter.unusedVariables false
namespace Go.Proofs.YtmilgoloagbmpaaGreatDoor
open Go.Am
mutual
def Cc (l : List E0) : Option Bool :=
  R9 l 0
  partial_fixpoint
def R9 (l : List E0) (i : Int) : Option Bool :=
  if (decide (i < ((l).length : Int))) = true then
    idx l i >>= fun x1 =>
    Al x1.Kind >>= fun x2 =>
    (if (!(!x2)) = true then Cd x1.TypeV else some default) >>= fun x3 =>
    if (bif (!x2) then true else (!x3)) = true then
      some false
    else
      Tf x1.Kind >>= fun x4 =>
      (if x4 = true then A6 x1.Value else some default) >>= fun x5 =>
      (if (!(bif x4 then (!x5) else false)) = true then Tf x1.Kind else some default) >>= fun x6 =>
      (if ((!(bif x4 then (!x5) else false)) && (!x6)) = true then Ad x1.Value else some default) >>= fun x7 =>
      if (bif (bif (bif x4 then (!x5) else false) then true else (bif (!x6) then (!x7) else false)) then true else (bif (x1.Kind != 4) then (x1.Init != 0) else false)) = true then
        some false
      else
        if (bif (x1.Kind != 6) then (bif (bif (((x1.Params).length : Int) != 0) then true else (((x1.Vars).length : Int) != 0)) then true else (((x1.Body).length : Int) != 0)) else false) = true then
          some false
        else
          G6 l x1 i 0
  else
    some true
  partial_fixpoint
def G6 (l : List E0) (x1 : E0) (i1 : Int) (k : Int) : Option Bool :=
  if (decide (k < ((x1.Params).length : Int))) = true then
    idx x1.Params k >>= fun x8 =>
    (if (!(x8.Kind != 4)) = true then idx x1.Params k else some default) >>= fun x9 =>
    if (bif (x8.Kind != 4) then true else (x9.Init != 0)) = true then
      some false
    else
      G6 l x1 i1 (IntKind.i64.wrap (k + 1))
  else
    H6 l x1 i1 0
  partial_fixpoint
def H6 (l : List E0) (x1 : E0) (i2 : Int) (k1 : Int) : Option Bool :=
  if (decide (k1 < ((x1.Vars).length : Int))) = true then
    idx x1.Vars k1 >>= fun x10 =>
    if (x10.Kind != 4) = true then
      some false
    else
      H6 l x1 i2 (IntKind.i64.wrap (k1 + 1))
  else
    Cc x1.Params >>= fun x11 =>
    (if (!(!x11)) = true then Cc x1.Vars else some default) >>= fun x12 =>
    (if (!(bif (!x11) then true else (!x12))) = true then D9 x1.Body else some default) >>= fun x13 =>
    if (bif (bif (!x11) then true else (!x12)) then true else (!x13)) = true then
      some false
    else
      R9 l (IntKind.i64.wrap (i2 + 1))
  partial_fixpoint
end
abbrev Yq (l : List E0) (res : Bool) : Prop := R0 C 82 [.d (.sl (E0.rows l))] [] (fun x H' => H' = [] ∧ x = .d (.bool res))
abbrev Nm (l : List E0) (i : Int) (res : Bool) : Prop := Q0 (Fx.mk C 132 0) (lo (bk (sr (sl (sr (N0 Tryz.f82)))))) (X0 [(0, .d (.sl (E0.rows l))), (3, .d (.int .i64 i))]) [] (Am.InBlock 0 (Am.Then (Fx.mk C 132 0) (sr (sr (N0 Tryz.f82))) (Am.Ends (Fx.mk C 132 0) Tryz.f82.results.toList (fun x H' => H' = [] ∧ x = .d (.bool res)))))
abbrev Om (l : List E0) (x1 : E0) (i1 : Int) (k : Int) (res : Bool) : Prop := Q0 (Fx.mk C 132 0) (lo (bk (sr (sl (sr (sr (sr (sr (bk (sl (sr (lo (bk (sr (sl (sr (N0 Tryz.f82))))))))))))))))) (X0 [(0, .d (.sl (E0.rows l))), (3, .d (.int .i64 i1)), (4, .ref 0 0), (5, .d (.int .i64 k))]) [.row (E0.cells x1) 64] (Am.InBlock 2 (Am.Then (Fx.mk C 132 0) (sr (sr (sr (sr (sr (bk (sl (sr (lo (bk (sr (sl (sr (N0 Tryz.f82)))))))))))))) (Am.InBlock 1 (Am.Then (Fx.mk C 132 0) (sr (sr (lo (bk (sr (sl (sr (N0 Tryz.f82)))))))) (Am.Again (Fx.mk C 132 0) (lo (bk (sr (sl (sr (N0 Tryz.f82)))))) (Am.InBlock 0 (Am.Then (Fx.mk C 132 0) (sr (sr (N0 Tryz.f82))) (Am.Ends (Fx.mk C 132 0) Tryz.f82.results.toList (fun x H' => H' = [] ∧ x = .d (.bool res))))))))))
abbrev Pm (l : List E0) (x1 : E0) (i2 : Int) (k1 : Int) (res : Bool) : Prop := Q0 (Fx.mk C 132 0) (lo (bk (sr (sl (sr (sr (sr (sr (sr (bk (sl (sr (lo (bk (sr (sl (sr (N0 Tryz.f82)))))))))))))))))) (X0 [(0, .d (.sl (E0.rows l))), (3, .d (.int .i64 i2)), (4, .ref 0 0), (6, .d (.int .i64 k1))]) [.row (E0.cells x1) 64] (Am.InBlock 4 (Am.Then (Fx.mk C 132 0) (sr (sr (sr (sr (sr (sr (bk (sl (sr (lo (bk (sr (sl (sr (N0 Tryz.f82))))))))))))))) (Am.InBlock 1 (Am.Then (Fx.mk C 132 0) (sr (sr (lo (bk (sr (sl (sr (N0 Tryz.f82)))))))) (Am.Again (Fx.mk C 132 0) (lo (bk (sr (sl (sr (N0 Tryz.f82)))))) (Am.InBlock 0 (Am.Then (Fx.mk C 132 0) (sr (sr (N0 Tryz.f82))) (Am.Ends (Fx.mk C 132 0) Tryz.f82.results.toList (fun x H' => H' = [] ∧ x = .d (.bool res))))))))))
theorem Ci : (∀ (l : List E0) (res : Bool), Cc l = some res → Yq l res) ∧
    (∀ (l : List E0) (i : Int) (res : Bool), R9 l i = some res → Nm l i res) ∧
    (∀ (l : List E0) (x1 : E0) (i1 : Int) (k : Int) (res : Bool), G6 l x1 i1 k = some res → Om l x1 i1 k res) ∧
    (∀ (l : List E0) (x1 : E0) (i2 : Int) (k1 : Int) (res : Bool), H6 l x1 i2 k1 = some res → Pm l x1 i2 k1 res) := by
  refine Cc.mutual_partial_correctness (fun l res => Yq l res)
    (fun l i res => Nm l i res)
    (fun l x1 i1 k res => Om l x1 i1 k res)
    (fun l x1 i2 k1 res => Pm l x1 i2 k1 res) ?_ ?_ ?_ ?_
  · intro g1 ih1 l res hh
    refine R0.intro hC Tryz.func82 rfl rfl rfl ?_
    refine s' rfl rfl (q' rfl (n' (S' (s' rfl rfl (q' rfl (n' (AEx.block ?_)))))))
    refine AEx.ofLoop ?_
    refine Q0.wk ?_ (ih1 _ _ _ hh)
    exact ⟨⟨⟨.rfl, rfl⟩, ⟨⟨.rfl, rfl⟩, trivial⟩⟩, trivial, rfl⟩
  · intro g2 ih2 l i res hh
    refine Q0.unroll ?_
    refine S' (s' rfl rfl (q' rfl (q' rfl (qe' rfl trivial (E0.lenA _) (q' rfl (n' ?_))))))
    refine ci' rfl hh (fun hh => ?_) (fun hh => ?_)
    · obtain ⟨x1, hx1, hh⟩ := bs' hh
      obtain ⟨x2, hx2, hh⟩ := bs' hh
      obtain ⟨x3, hx3, hh⟩ := bs' hh
      refine sk' (S' (AEx.block (s' rfl rfl (q' rfl (q' rfl (i' rfl (V0 hx1) (E0.idx hx1) rfl (q' rfl (J0.nf hC rfl (J0.s hC rfl (n' (S' (sg' 10 rfl (a0' rfl ?_)))))))))))))
      refine a0' rfl (AG.c rfl rfl (fun _ => trivial) (fun _ => Sx hx2) (a0' rfl (a0' rfl (a0' rfl (a1' rfl (AG.c rfl rfl (fun hg => ⟨hg, trivial⟩) (fun hw => S16 (V1 hw hx3)) (a1' rfl (po' rfl (an' (n' ?_))))))))))
      refine ci' rfl hh (fun hh => ?_) (fun hh => ?_)
      · refine s' rfl rfl (q' rfl (n' (re' ?_)))
        obtain rfl := oi' hh
        exact ⟨_, _, [], rfl, .rfl, trivial, rfl, rfl, rfl, rfl⟩
      obtain ⟨x4, hx4, hh⟩ := bs' hh
      obtain ⟨x5, hx5, hh⟩ := bs' hh
      obtain ⟨x6, hx6, hh⟩ := bs' hh
      obtain ⟨x7, hx7, hh⟩ := bs' hh
      refine sk' (S' (sg' 31 rfl (a0' rfl (a0' rfl (AG.c rfl rfl (fun _ => trivial) (fun _ => Ip hx4) (a0' rfl (a0' rfl (a1' rfl (AG.c rfl rfl (fun hg => ⟨hg, trivial⟩) (fun hw => Dk (V1 hw hx5)) (a1' rfl (pa' rfl (a0' rfl (a0' rfl ?_)))))))))))))
      refine a1' rfl (AG.c rfl rfl (fun hg => ⟨hg, trivial⟩) (fun hw => Ip (V1 hw hx6)) (a1' rfl (a1' rfl (a0' rfl (a1' rfl (AG.c rfl rfl (fun hg => ⟨hg, trivial⟩) (fun hw => Ck (V1 hw hx7)) (a1' rfl (pA' rfl (po' rfl (a0' rfl (a0' rfl (a1' rfl (a1' rfl ?_)))))))))))))
      refine a1' rfl (a0' rfl (a1' rfl (a1' rfl (pA' rfl (po' rfl (an' (n' ?_)))))))
      refine ci' rfl hh (fun hh => ?_) (fun hh => ?_)
      · refine s' rfl rfl (q' rfl (n' (re' ?_)))
        obtain rfl := oi' hh
        exact ⟨_, _, [], rfl, .rfl, trivial, rfl, rfl, rfl, rfl⟩
      refine sk' (S' (sg' 21 rfl (a0' rfl (a0' rfl (a0' rfl (a0' rfl (a0' rfl (a1' rfl (AG.qe hC rfl (fun hg => ⟨⟨hg, trivial⟩, trivial⟩) (E0.lenA _) (a1' rfl (a1' rfl (a0' rfl (a1' rfl ?_)))))))))))))
      refine AG.qe hC rfl (fun hg => ⟨⟨hg, trivial⟩, trivial⟩) (E0.lenA _) (a1' rfl (pO' rfl (a1' rfl (a0' rfl (a1' rfl (AG.qe hC rfl (fun hg => ⟨⟨hg, trivial⟩, trivial⟩) (B0.lenA _) (a1' rfl (pO' rfl (pa' rfl (an' (n' ?_)))))))))))
      refine ci' rfl hh (fun hh => ?_) (fun hh => ?_)
      · refine s' rfl rfl (q' rfl (n' (re' ?_)))
        obtain rfl := oi' hh
        exact ⟨_, _, [], rfl, .rfl, trivial, rfl, rfl, rfl, rfl⟩
      refine sk' (S' (s' rfl rfl (q' rfl (n' (AEx.block ?_)))))
      refine AEx.ofLoop ?_
      refine Q0.wk ?_ (ih2 _ _ _ _ _ hh)
      exact ⟨⟨⟨.rfl, rfl⟩, ⟨⟨.rfl, rfl⟩, ⟨⟨.rfl, rfl⟩, ⟨⟨.rfl, rfl⟩, trivial⟩⟩⟩⟩, ⟨⟨rfl, .refl _, rfl⟩, trivial⟩, rfl⟩
    refine ex' (s' rfl rfl (q' rfl (n' (re' ?_))))
    obtain rfl := oi' hh
    exact ⟨_, _, [], rfl, .rfl, trivial, rfl, rfl, rfl, rfl⟩
  · intro g2 g3 ih2 ih3 l x1 i1 k res hh
    refine Q0.unroll ?_
    refine S' (s' rfl rfl (q' rfl (q' rfl (q' rfl (qe' rfl trivial (E0.lenA _) (q' rfl (n' ?_)))))))
    refine ci' rfl hh (fun hh => ?_) (fun hh => ?_)
    · obtain ⟨x8, hx8, hh⟩ := bs' hh
      obtain ⟨x9, hx9, hh⟩ := bs' hh
      refine sk' (S' (AEx.block (sg' 16 rfl (a0' rfl (a0' rfl (a0' rfl (AG.i hC rfl rfl (fun _ => trivial) (fun hw => ⟨V0 hx8, E0.idx hx8, rfl⟩) (a0' rfl (a0' rfl (a0' rfl (a0' rfl (a0' rfl (a1' rfl ?_)))))))))))))
      refine a0' rfl (AG.i hC rfl rfl (fun hg => ⟨hg, hg, trivial⟩) (fun hw => ⟨V0 (V1 hw hx9), E0.idx (V1 hw hx9), rfl⟩) (a1' rfl (a1' rfl (a1' rfl (po' rfl (an' (n' ?_)))))))
      refine ci' rfl hh (fun hh => ?_) (fun hh => ?_)
      · refine s' rfl rfl (q' rfl (n' (re' ?_)))
        obtain rfl := oi' hh
        exact ⟨_, _, [], rfl, .rfl, trivial, rfl, rfl, rfl, rfl⟩
      refine sk' (R' rfl rfl (q' rfl (q' rfl (q' rfl (n' ?_)))))
      refine Q0.wk ?_ (ih2 _ _ _ _ _ hh)
      exact ⟨⟨⟨.rfl, rfl⟩, ⟨⟨.rfl, rfl⟩, ⟨⟨.rfl, rfl⟩, ⟨⟨.rfl, rfl⟩, trivial⟩⟩⟩⟩, ⟨⟨rfl, .refl _, rfl⟩, trivial⟩, rfl⟩
    refine ex' (S' (s' rfl rfl (q' rfl (n' (AEx.block ?_)))))
    refine AEx.ofLoop ?_
    refine Q0.wk ?_ (ih3 _ _ _ _ _ hh)
    exact ⟨⟨⟨.rfl, rfl⟩, ⟨⟨.rfl, rfl⟩, ⟨⟨.rfl, rfl⟩, ⟨⟨.rfl, rfl⟩, trivial⟩⟩⟩⟩, ⟨⟨rfl, .refl _, rfl⟩, trivial⟩, rfl⟩
  · intro g0 g1 g3 ih0 ih1 ih3 l x1 i2 k1 res hh
    refine Q0.unroll ?_
    refine S' (s' rfl rfl (q' rfl (q' rfl (q' rfl (qe' rfl trivial (E0.lenA _) (q' rfl (n' ?_)))))))
    refine ci' rfl hh (fun hh => ?_) (fun hh => ?_)
    · obtain ⟨x10, hx10, hh⟩ := bs' hh
      refine sk' (S' (AEx.block (s' rfl rfl (q' rfl (q' rfl (q' rfl (i' rfl (V0 hx10) (E0.idx hx10) rfl (q' rfl (q' rfl (q' rfl (n' ?_)))))))))))
      refine ci' rfl hh (fun hh => ?_) (fun hh => ?_)
      · refine s' rfl rfl (q' rfl (n' (re' ?_)))
        obtain rfl := oi' hh
        exact ⟨_, _, [], rfl, .rfl, trivial, rfl, rfl, rfl, rfl⟩
      refine sk' (R' rfl rfl (q' rfl (q' rfl (q' rfl (n' ?_)))))
      refine Q0.wk ?_ (ih3 _ _ _ _ _ hh)
      exact ⟨⟨⟨.rfl, rfl⟩, ⟨⟨.rfl, rfl⟩, ⟨⟨.rfl, rfl⟩, ⟨⟨.rfl, rfl⟩, trivial⟩⟩⟩⟩, ⟨⟨rfl, .refl _, rfl⟩, trivial⟩, rfl⟩
    obtain ⟨x11, hx11, hh⟩ := bs' hh
    obtain ⟨x12, hx12, hh⟩ := bs' hh
    obtain ⟨x13, hx13, hh⟩ := bs' hh
    refine ex' (sg' 16 rfl (a0' rfl (a0' rfl (AG.c rfl rfl (fun _ => trivial) (fun _ => ih0 _ _ hx11) (a0' rfl (a0' rfl (a0' rfl (a1' rfl (AG.c rfl rfl (fun hg => ⟨hg, trivial⟩) (fun hw => ih0 _ _ (V1 hw hx12)) (a1' rfl (po' rfl (a0' rfl (a0' rfl ?_)))))))))))))
    refine a1' rfl (AG.c rfl rfl (fun hg => ⟨hg, trivial⟩) (fun hw => Ax (V1 hw hx13)) (a1' rfl (po' rfl (an' (n' ?_)))))
    refine ci' rfl hh (fun hh => ?_) (fun hh => ?_)
    · refine s' rfl rfl (q' rfl (n' (re' ?_)))
      obtain rfl := oi' hh
      exact ⟨_, _, [], rfl, .rfl, trivial, rfl, rfl, rfl, rfl⟩
    refine sk' (R' rfl rfl (q' rfl (q' rfl (q' rfl (n' ?_)))))
    refine Q0.wk ?_ (ih1 _ _ _ hh)
    exact ⟨⟨⟨.rfl, rfl⟩, ⟨⟨.rfl, rfl⟩, trivial⟩⟩, trivial, rfl⟩
theorem W14 {l : List E0} {res : Bool} (hh : Cc l = some res) : Yq l res := (Ci).1 _ _ hh
theorem Y1k {l : List E0} {i : Int} {res : Bool} (hh : R9 l i = some res) : Nm l i res := (Ci).2.1 _ _ _ hh
theorem Z1k {l : List E0} {x1 : E0} {i1 : Int} {k : Int} {res : Bool} (hh : G6 l x1 i1 k = some res) : Om l x1 i1 k res := (Ci).2.2.1 _ _ _ _ _ hh
theorem A1l {l : List E0} {x1 : E0} {i2 : Int} {k1 : Int} {res : Bool} (hh : H6 l x1 i2 k1 = some res) : Pm l x1 i2 k1 res := (Ci).2.2.2 _ _ _ _ _ hh
def Dl (c : Int) : Option Bool :=
  some (bif (decide (c ≥ 97)) then (decide (c ≤ 122)) else false)
abbrev L1b (c : Int) (res : Bool) : Prop := R0 C 164 [.d (.int .u8 c)] [] (fun x H' => H' = [] ∧ x = .d (.bool res))
theorem Wt {c : Int} {res : Bool} (hh : Dl c = some res) : L1b c res := by
  unfold Dl at hh
  refine R0.intro hC Tryz.func164 rfl rfl rfl ?_
  refine s' rfl rfl (q' rfl (n' (sg' 7 rfl (a0' rfl (a0' rfl (a0' rfl (a0' rfl (a1' rfl (pa' rfl (a0' rfl (an' (n' (re' ?_)))))))))))))
  obtain rfl := oi' hh
  exact ⟨_, _, [], rfl, .rfl, trivial, rfl, rfl, rfl, rfl⟩
def P8 (s : Str) (i1 : Int) : Option Bool :=
  if (decide ((IntKind.i64.wrap ((IntKind.i64.wrap (i1 + ((s).length : Int))) + 2)) ≤ 162)) = true then
    slc [32, 116, 121, 112, 101, 32, 115, 101, 99, 114, 101, 116, 32, 112, 117, 98, 108, 105, 99, 32, 114, 97, 110, 100, 111, 109, 32, 118, 97, 114, 32, 104, 97, 116, 99, 104, 32, 102, 117, 110, 99, 32, 114, 101, 116, 117, 114, 110, 32, 98, 101, 103, 105, 110, 32, 101, 110, 100, 32, 98, 111, 111, 108, 32, 105, 110, 116, 32, 97, 114, 114, 97, 121, 32, 111, 102, 32, 114, 101, 99, 111, 114, 100, 32, 116, 114, 117, 101, 32, 102, 97, 108, 115, 101, 32, 99, 97, 108, 108, 32, 114, 101, 108, 101, 97, 115, 101, 32, 111, 117, 116, 112, 117, 116, 32, 119, 97, 105, 116, 32, 105, 102, 32, 101, 108, 115, 101, 32, 119, 104, 105, 108, 101, 32, 108, 105, 109, 105, 116, 32, 102, 111, 114, 32, 116, 111, 32, 115, 101, 116, 116, 108, 101, 32, 109, 105, 110, 32, 109, 97, 120, 32] i1 (IntKind.i64.wrap ((IntKind.i64.wrap (i1 + ((s).length : Int))) + 2)) >>= fun x3 =>
    if (decide (1 + s.length ≤ maxLen)) = true then
      if (decide (([32] ++ s).length + 1 ≤ maxLen)) = true then
        if (x3 == (([32] ++ s) ++ [32])) = true then
          some true
        else
          P8 s (IntKind.i64.wrap (i1 + 1))
      else none
    else none
  else
    some false
  partial_fixpoint
abbrev Bo (s : Str) (i1 : Int) (res : Bool) : Prop := Q0 (Fx.mk C 38 0) (lo (bk (sr (sl (sr (sr (sr (N0 Tryz.f165)))))))) (X0 [(0, .d (.str s)), (4, .d (.int .i64 i1))]) [] (Am.InBlock 2 (Am.Then (Fx.mk C 38 0) (sr (sr (sr (sr (N0 Tryz.f165))))) (Am.Ends (Fx.mk C 38 0) Tryz.f165.results.toList (fun x H' => H' = [] ∧ x = .d (.bool res)))))
theorem N11 (s : Str) : (∀ (i1 : Int) (res : Bool), P8 s i1 = some res → Bo s i1 res) := by
  refine P8.partial_correctness s
    (fun i1 res => Bo s i1 res) ?_
  · intro g0 ih0 i1 res hh
    refine Q0.unroll ?_
    refine S' (s' rfl rfl (q' rfl (q' rfl (q' rfl (q' rfl (q' rfl (q' rfl (n' ?_))))))))
    refine ci' rfl hh (fun hh => ?_) (fun hh => ?_)
    · obtain ⟨x3, hx3, hh⟩ := bs' hh
      obtain ⟨c9, hh⟩ := O0 hh
      obtain ⟨c10, hh⟩ := O0 hh
      refine sk' (S' (AEx.block (s' rfl rfl (q' rfl (q' rfl (q' rfl (q' rfl (q' rfl (q' rfl (J0.lx hC rfl hx3 (q' rfl (qc' rfl c9 (qc' rfl c10 ?_)))))))))))))
      refine q' rfl (n' ?_)
      refine ci' rfl hh (fun hh => ?_) (fun hh => ?_)
      · refine s' rfl rfl (q' rfl (n' (re' ?_)))
        obtain rfl := oi' hh
        exact ⟨_, _, [], rfl, .rfl, trivial, rfl, rfl, rfl, rfl⟩
      refine sk' (R' rfl rfl (q' rfl (q' rfl (q' rfl (n' ?_)))))
      refine Q0.wk ?_ (ih0 _ _ hh)
      exact ⟨⟨⟨.rfl, rfl⟩, ⟨⟨.rfl, rfl⟩, trivial⟩⟩, trivial, rfl⟩
    refine ex' (s' rfl rfl (q' rfl (n' (re' ?_))))
    obtain rfl := oi' hh
    exact ⟨_, _, [], rfl, .rfl, trivial, rfl, rfl, rfl, rfl⟩
theorem P12 {s : Str} {i1 : Int} {res : Bool} (hh : P8 s i1 = some res) : Bo s i1 res := (N11 s) _ _ hh
def Q8 (s : Str) (i : Int) : Option Bool :=
  if (decide (i < ((s).length : Int))) = true then
    idx s i >>= fun x1 =>
    Dl (x1.toNat : Int) >>= fun x2 =>
    if (!x2) = true then
      some false
    else
      Q8 s (IntKind.i64.wrap (i + 1))
  else
    P8 s 0
  partial_fixpoint
abbrev Co (s : Str) (i : Int) (res : Bool) : Prop := Q0 (Fx.mk C 38 0) (lo (bk (sr (sl (sr (sr (N0 Tryz.f165))))))) (X0 [(0, .d (.str s)), (3, .d (.int .i64 i))]) [] (Am.InBlock 0 (Am.Then (Fx.mk C 38 0) (sr (sr (sr (N0 Tryz.f165)))) (Am.Ends (Fx.mk C 38 0) Tryz.f165.results.toList (fun x H' => H' = [] ∧ x = .d (.bool res)))))
theorem O11 (s : Str) : (∀ (i : Int) (res : Bool), Q8 s i = some res → Co s i res) := by
  refine Q8.partial_correctness s
    (fun i res => Co s i res) ?_
  · intro g0 ih0 i res hh
    refine Q0.unroll ?_
    refine S' (s' rfl rfl (q' rfl (q' rfl (q' rfl (q' rfl (n' ?_))))))
    refine ci' rfl hh (fun hh => ?_) (fun hh => ?_)
    · obtain ⟨x1, hx1, hh⟩ := bs' hh
      obtain ⟨x2, hx2, hh⟩ := bs' hh
      refine sk' (S' (AEx.block (s' rfl rfl (q' rfl (q' rfl (x' rfl (V0 hx1) (Lv hx1) (J0.c rfl rfl (Wt hx2) (q' rfl (n' ?_)))))))))
      refine ci' rfl hh (fun hh => ?_) (fun hh => ?_)
      · refine s' rfl rfl (q' rfl (n' (re' ?_)))
        obtain rfl := oi' hh
        exact ⟨_, _, [], rfl, .rfl, trivial, rfl, rfl, rfl, rfl⟩
      refine sk' (R' rfl rfl (q' rfl (q' rfl (q' rfl (n' ?_)))))
      refine Q0.wk ?_ (ih0 _ _ hh)
      exact ⟨⟨⟨.rfl, rfl⟩, ⟨⟨.rfl, rfl⟩, trivial⟩⟩, trivial, rfl⟩
    refine ex' (S' (s' rfl rfl (q' rfl (n' (AEx.block ?_)))))
    refine AEx.ofLoop ?_
    refine Q0.wk ?_ (P12 hh)
    exact ⟨⟨⟨.rfl, rfl⟩, ⟨⟨.rfl, rfl⟩, trivial⟩⟩, trivial, rfl⟩
theorem Q12 {s : Str} {i : Int} {res : Bool} (hh : Q8 s i = some res) : Co s i res := (O11 s) _ _ hh
def El (s : Str) : Option Bool :=
  if (((s).length : Int) == 0) = true then
    some false
  else
    Q8 s 0
abbrev D18 (s : Str) (res : Bool) : Prop := R0 C 165 [.d (.str s)] [] (fun x H' => H' = [] ∧ x = .d (.bool res))
theorem V16 {s : Str} {res : Bool} (hh : El s = some res) : D18 s res := by
  unfold El at hh
  refine R0.intro hC Tryz.func165 rfl rfl rfl ?_
  refine s' rfl rfl (q' rfl (n' (S' (s' rfl rfl (q' rfl (q' rfl (q' rfl (n' ?_))))))))
  refine ci' rfl hh (fun hh => ?_) (fun hh => ?_)
  · refine s' rfl rfl (q' rfl (n' (re' ?_)))
    obtain rfl := oi' hh
    exact ⟨_, _, [], rfl, .rfl, trivial, rfl, rfl, rfl, rfl⟩
  refine sk' (S' (s' rfl rfl (q' rfl (n' (AEx.block ?_)))))
  refine AEx.ofLoop ?_
  refine Q0.wk ?_ (Q12 hh)
  exact ⟨⟨⟨.rfl, rfl⟩, ⟨⟨.rfl, rfl⟩, trivial⟩⟩, trivial, rfl⟩
def Iw (c : Int) : Option Bool :=
  some (bif (decide (c ≥ 48)) then (decide (c ≤ 57)) else false)
abbrev T1d (c : Int) (res : Bool) : Prop := R0 C 185 [.d (.int .u8 c)] [] (fun x H' => H' = [] ∧ x = .d (.bool res))
theorem M1b {c : Int} {res : Bool} (hh : Iw c = some res) : T1d c res := by
  unfold Iw at hh
  refine R0.intro hC Tryz.func185 rfl rfl rfl ?_
  refine s' rfl rfl (q' rfl (n' (sg' 7 rfl (a0' rfl (a0' rfl (a0' rfl (a0' rfl (a1' rfl (pa' rfl (a0' rfl (an' (n' (re' ?_)))))))))))))
  obtain rfl := oi' hh
  exact ⟨_, _, [], rfl, .rfl, trivial, rfl, rfl, rfl, rfl⟩
def Hf (s : Str) (atV1 : Int) : Option Int :=
  (if (decide (atV1 < ((s).length : Int))) = true then idx s atV1 else some default) >>= fun x1 =>
  (if (decide (atV1 < ((s).length : Int))) = true then Dl (x1.toNat : Int) else some default) >>= fun x2 =>
  (if ((decide (atV1 < ((s).length : Int))) && (!x2)) = true then idx s atV1 else some default) >>= fun x3 =>
  (if ((decide (atV1 < ((s).length : Int))) && (!x2)) = true then Iw (x3.toNat : Int) else some default) >>= fun x4 =>
  if (bif (decide (atV1 < ((s).length : Int))) then (bif x2 then true else x4) else false) = true then
    Hf s (IntKind.i64.wrap (atV1 + 1))
  else
    some atV1
  partial_fixpoint
abbrev Pv (s : Str) (atV1 : Int) (res : Int) : Prop := Q0 (Fx.mk C 24 0) (lo (bk (sl (sr (N0 Tryz.f166))))) (X0 [(0, .d (.str s)), (1, .d (.int .i64 atV1))]) [] (Am.InBlock 0 (Am.Then (Fx.mk C 24 0) (sr (sr (N0 Tryz.f166))) (Am.Ends (Fx.mk C 24 0) Tryz.f166.results.toList (fun x H' => H' = [] ∧ x = .d (.int .i64 res)))))
theorem E18 (s : Str) : (∀ (atV1 : Int) (res : Int), Hf s atV1 = some res → Pv s atV1 res) := by
  refine Hf.partial_correctness s
    (fun atV1 res => Pv s atV1 res) ?_
  · intro g0 ih0 atV1 res hh
    refine Q0.unroll ?_
    obtain ⟨x1, hx1, hh⟩ := bs' hh
    obtain ⟨x2, hx2, hh⟩ := bs' hh
    obtain ⟨x3, hx3, hh⟩ := bs' hh
    obtain ⟨x4, hx4, hh⟩ := bs' hh
    refine S' (sg' 16 rfl (a0' rfl (a0' rfl (a0' rfl (a0' rfl (a0' rfl (a0' rfl (a0' rfl (AG.x hC rfl rfl (fun hg => ⟨hg, hg, trivial⟩) (fun hw => ⟨V0 (V1 hw hx1), Lv (V1 hw hx1)⟩) (AG.c rfl rfl (fun hg => ⟨hg, trivial⟩) (fun hw => Wt (V1 hw hx2)) (a1' rfl (a0' rfl (a0' rfl ?_)))))))))))))
    refine AG.x hC rfl rfl (fun hg => ⟨hg, hg, trivial⟩) (fun hw => ⟨V0 (V1 hw hx3), Lv (V1 hw hx3)⟩) (AG.c rfl rfl (fun hg => ⟨hg, trivial⟩) (fun hw => M1b (V1 hw hx4)) (pO' rfl (pa' rfl (an' (n' ?_)))))
    refine ci' rfl hh (fun hh => ?_) (fun hh => ?_)
    · refine sk' (AEx.block (R' rfl rfl (q' rfl (q' rfl (q' rfl (n' ?_))))))
      refine Q0.wk ?_ (ih0 _ _ hh)
      exact ⟨⟨⟨.rfl, rfl⟩, ⟨⟨.rfl, rfl⟩, trivial⟩⟩, trivial, rfl⟩
    refine ex' (s' rfl rfl (q' rfl (q' rfl (n' (re' ?_)))))
    obtain rfl := oi' hh
    exact ⟨_, _, [], rfl, .rfl, trivial, rfl, rfl, rfl, rfl⟩
theorem D1a {s : Str} {atV1 : Int} {res : Int} (hh : Hf s atV1 = some res) : Pv s atV1 res := (E18 s) _ _ hh
def Bx (s : Str) (atV : Int) : Option Int :=
  Hf s atV
abbrev R1j (s : Str) (atV : Int) (res : Int) : Prop := R0 C 166 [.d (.str s), .d (.int .i64 atV)] [] (fun x H' => H' = [] ∧ x = .d (.int .i64 res))
theorem X1g {s : Str} {atV : Int} {res : Int} (hh : Bx s atV = some res) : R1j s atV res := by
  unfold Bx at hh
  refine R0.intro hC Tryz.func166 rfl rfl rfl ?_
  refine s' rfl rfl (q' rfl (n' (S' (AEx.block ?_))))
  refine AEx.ofLoop ?_
  refine Q0.wk ?_ (D1a hh)
  exact ⟨⟨⟨.rfl, rfl⟩, ⟨⟨.rfl, rfl⟩, trivial⟩⟩, trivial, rfl⟩
def Xt (s : Str) : Option Bool :=
  (if (!(bif (decide (((s).length : Int) < 1)) then true else (decide (((s).length : Int) > 12)))) = true then idx s 0 else some default) >>= fun x1 =>
  (if (!(bif (decide (((s).length : Int) < 1)) then true else (decide (((s).length : Int) > 12)))) = true then Dl (x1.toNat : Int) else some default) >>= fun x2 =>
  (if (!(bif (bif (decide (((s).length : Int) < 1)) then true else (decide (((s).length : Int) > 12))) then true else (!x2))) = true then El s else some default) >>= fun x3 =>
  if (bif (bif (bif (decide (((s).length : Int) < 1)) then true else (decide (((s).length : Int) > 12))) then true else (!x2)) then true else x3) = true then
    some false
  else
    Bx s 0 >>= fun x4 =>
    some (x4 == ((s).length : Int))
abbrev N1b (s : Str) (res : Bool) : Prop := R0 C 137 [.d (.str s)] [] (fun x H' => H' = [] ∧ x = .d (.bool res))
theorem E1a {s : Str} {res : Bool} (hh : Xt s = some res) : N1b s res := by
  unfold Xt at hh
  refine R0.intro hC Tryz.func137 rfl rfl rfl ?_
  obtain ⟨x1, hx1, hh⟩ := bs' hh
  obtain ⟨x2, hx2, hh⟩ := bs' hh
  obtain ⟨x3, hx3, hh⟩ := bs' hh
  refine s' rfl rfl (q' rfl (n' (S' (sg' 18 rfl (a0' rfl (a0' rfl (a0' rfl (a0' rfl (a0' rfl (a1' rfl (a1' rfl (po' rfl (a0' rfl ?_)))))))))))))
  refine a0' rfl (AG.x hC rfl rfl (fun hg => ⟨hg, trivial⟩) (fun hw => ⟨V0 (V1 hw hx1), Lv (V1 hw hx1)⟩) (AG.c rfl rfl (fun hg => ⟨hg, trivial⟩) (fun hw => Wt (V1 hw hx2)) (a1' rfl (po' rfl (a0' rfl (a0' rfl (AG.c rfl rfl (fun hg => ⟨hg, trivial⟩) (fun hw => V16 (V1 hw hx3)) (po' rfl (an' (n' ?_))))))))))
  refine ci' rfl hh (fun hh => ?_) (fun hh => ?_)
  · refine s' rfl rfl (q' rfl (n' (re' ?_)))
    obtain rfl := oi' hh
    exact ⟨_, _, [], rfl, .rfl, trivial, rfl, rfl, rfl, rfl⟩
  obtain ⟨x4, hx4, hh⟩ := bs' hh
  refine sk' (s' rfl rfl (q' rfl (J0.c rfl rfl (X1g hx4) (q' rfl (q' rfl (q' rfl (q' rfl (n' (re' ?_)))))))))
  obtain rfl := oi' hh
  exact ⟨_, _, [], rfl, .rfl, trivial, rfl, rfl, rfl, rfl⟩
def Od (s : Str) : Option Bool :=
  Xt s >>= fun x1 =>
  some x1
abbrev O1b (s : Str) (res : Bool) : Prop := R0 C 75 [.d (.str s)] [] (fun x H' => H' = [] ∧ x = .d (.bool res))
theorem Wi {s : Str} {res : Bool} (hh : Od s = some res) : O1b s res := by
  unfold Od at hh
  refine R0.intro hC Tryz.func75 rfl rfl rfl ?_
  obtain ⟨x1, hx1, hh⟩ := bs' hh
  refine s' rfl rfl (q' rfl (n' (s' rfl rfl (q' rfl (J0.c rfl rfl (E1a hx1) (q' rfl (n' (re' ?_))))))))
  obtain rfl := oi' hh
  exact ⟨_, _, [], rfl, .rfl, trivial, rfl, rfl, rfl, rfl⟩
mutual
def Dc (t : D0) : Option Bool :=
  (if (t.Kind == 4) = true then Od t.Name else some default) >>= fun x1 =>
  if (bif (t.Kind == 4) then (!x1) else false) = true then
    some false
  else
    S9 t 0
  partial_fixpoint
def S9 (t : D0) (i : Int) : Option Bool :=
  if (decide (i < ((t.Names).length : Int))) = true then
    idx t.Names i >>= fun x2 =>
    Od x2 >>= fun x3 =>
    if (!x3) = true then
      some false
    else
      S9 t (IntKind.i64.wrap (i + 1))
  else
    O7 t 0
  partial_fixpoint
def O7 (t : D0) (i1 : Int) : Option Bool :=
  if (decide (i1 < ((t.Of).length : Int))) = true then
    idx t.Of i1 >>= fun x4 =>
    Dc x4 >>= fun x5 =>
    if (!x5) = true then
      some false
    else
      O7 t (IntKind.i64.wrap (i1 + 1))
  else
    some true
  partial_fixpoint
end
abbrev Zq (t : D0) (res : Bool) : Prop := R0 C 63 [.agg (D0.cells t)] [] (fun x H' => H' = [] ∧ x = .d (.bool res))
abbrev Qm (t : D0) (i : Int) (res : Bool) : Prop := Q0 (Fx.mk C 42 0) (lo (bk (sr (sl (sr (sr (N0 Tryz.f63))))))) (X0 [(1, .ref 0 0), (3, .d (.int .i64 i))]) [.row (D0.cells t) 48] (Am.InBlock 0 (Am.Then (Fx.mk C 42 0) (sr (sr (sr (N0 Tryz.f63)))) (Am.Ends (Fx.mk C 42 0) Tryz.f63.results.toList (fun x H' => H' = [] ∧ x = .d (.bool res)))))
abbrev Rm (t : D0) (i1 : Int) (res : Bool) : Prop := Q0 (Fx.mk C 42 0) (lo (bk (sr (sl (sr (sr (sr (N0 Tryz.f63)))))))) (X0 [(1, .ref 0 0), (4, .d (.int .i64 i1))]) [.row (D0.cells t) 48] (Am.InBlock 2 (Am.Then (Fx.mk C 42 0) (sr (sr (sr (sr (N0 Tryz.f63))))) (Am.Ends (Fx.mk C 42 0) Tryz.f63.results.toList (fun x H' => H' = [] ∧ x = .d (.bool res)))))
theorem Do : (∀ (t : D0) (res : Bool), Dc t = some res → Zq t res) ∧
    (∀ (t : D0) (i : Int) (res : Bool), S9 t i = some res → Qm t i res) ∧
    (∀ (t : D0) (i1 : Int) (res : Bool), O7 t i1 = some res → Rm t i1 res) := by
  refine Dc.mutual_partial_correctness (fun t res => Zq t res)
    (fun t i res => Qm t i res)
    (fun t i1 res => Rm t i1 res) ?_ ?_ ?_
  · intro g1 ih1 t res hh
    refine R0.intro hC Tryz.func63 rfl rfl rfl ?_
    obtain ⟨x1, hx1, hh⟩ := bs' hh
    refine s' rfl rfl (J0.n hC rfl (q' rfl (n' (S' (sg' 9 rfl (a0' rfl (a0' rfl (a0' rfl (a0' rfl (a0' rfl (a1' rfl (AG.c rfl rfl (fun hg => ⟨hg, trivial⟩) (fun hw => Wi (V1 hw hx1)) (a1' rfl ?_)))))))))))))
    refine pa' rfl (an' (n' ?_))
    refine ci' rfl hh (fun hh => ?_) (fun hh => ?_)
    · refine s' rfl rfl (q' rfl (n' (re' ?_)))
      obtain rfl := oi' hh
      exact ⟨_, _, [], rfl, .rfl, trivial, rfl, rfl, rfl, rfl⟩
    refine sk' (S' (s' rfl rfl (q' rfl (n' (AEx.block ?_)))))
    refine AEx.ofLoop ?_
    refine Q0.wk ?_ (ih1 _ _ _ hh)
    exact ⟨⟨⟨.rfl, rfl⟩, ⟨⟨.rfl, rfl⟩, trivial⟩⟩, ⟨⟨rfl, .refl _, rfl⟩, trivial⟩, rfl⟩
  · intro g1 g2 ih1 ih2 t i res hh
    refine Q0.unroll ?_
    refine S' (s' rfl rfl (q' rfl (q' rfl (q' rfl (qe' rfl trivial (estr.lenA _) (q' rfl (n' ?_)))))))
    refine ci' rfl hh (fun hh => ?_) (fun hh => ?_)
    · obtain ⟨x2, hx2, hh⟩ := bs' hh
      obtain ⟨x3, hx3, hh⟩ := bs' hh
      refine sk' (S' (AEx.block (s' rfl rfl (q' rfl (q' rfl (q' rfl (i' rfl (V0 hx2) (estr.idx hx2) rfl (q' rfl (J0.c rfl rfl (Wi hx3) (q' rfl (n' ?_)))))))))))
      refine ci' rfl hh (fun hh => ?_) (fun hh => ?_)
      · refine s' rfl rfl (q' rfl (n' (re' ?_)))
        obtain rfl := oi' hh
        exact ⟨_, _, [], rfl, .rfl, trivial, rfl, rfl, rfl, rfl⟩
      refine sk' (R' rfl rfl (q' rfl (q' rfl (q' rfl (n' ?_)))))
      refine Q0.wk ?_ (ih1 _ _ _ hh)
      exact ⟨⟨⟨.rfl, rfl⟩, ⟨⟨.rfl, rfl⟩, trivial⟩⟩, ⟨⟨rfl, .refl _, rfl⟩, trivial⟩, rfl⟩
    refine ex' (S' (s' rfl rfl (q' rfl (n' (AEx.block ?_)))))
    refine AEx.ofLoop ?_
    refine Q0.wk ?_ (ih2 _ _ _ hh)
    exact ⟨⟨⟨.rfl, rfl⟩, ⟨⟨.rfl, rfl⟩, trivial⟩⟩, ⟨⟨rfl, .refl _, rfl⟩, trivial⟩, rfl⟩
  · intro g0 g2 ih0 ih2 t i1 res hh
    refine Q0.unroll ?_
    refine S' (s' rfl rfl (q' rfl (q' rfl (q' rfl (qe' rfl trivial (D0.lenA _) (q' rfl (n' ?_)))))))
    refine ci' rfl hh (fun hh => ?_) (fun hh => ?_)
    · obtain ⟨x4, hx4, hh⟩ := bs' hh
      obtain ⟨x5, hx5, hh⟩ := bs' hh
      refine sk' (S' (AEx.block (s' rfl rfl (q' rfl (q' rfl (q' rfl (i' rfl (V0 hx4) (D0.idx hx4) rfl (q' rfl (J0.c rfl rfl (ih0 _ _ hx5) (q' rfl (n' ?_)))))))))))
      refine ci' rfl hh (fun hh => ?_) (fun hh => ?_)
      · refine s' rfl rfl (q' rfl (n' (re' ?_)))
        obtain rfl := oi' hh
        exact ⟨_, _, [], rfl, .rfl, trivial, rfl, rfl, rfl, rfl⟩
      refine sk' (R' rfl rfl (q' rfl (q' rfl (q' rfl (n' ?_)))))
      refine Q0.wk ?_ (ih2 _ _ _ hh)
      exact ⟨⟨⟨.rfl, rfl⟩, ⟨⟨.rfl, rfl⟩, trivial⟩⟩, ⟨⟨rfl, .refl _, rfl⟩, trivial⟩, rfl⟩
    refine ex' (s' rfl rfl (q' rfl (n' (re' ?_))))
    obtain rfl := oi' hh
    exact ⟨_, _, [], rfl, .rfl, trivial, rfl, rfl, rfl, rfl⟩
theorem X14 {t : D0} {res : Bool} (hh : Dc t = some res) : Zq t res := (Do).1 _ _ hh
theorem B1l {t : D0} {i : Int} {res : Bool} (hh : S9 t i = some res) : Qm t i res := (Do).2.1 _ _ _ hh
theorem C1l {t : D0} {i1 : Int} {res : Bool} (hh : O7 t i1 = some res) : Rm t i1 res := (Do).2.2 _ _ _ hh
mutual
def O5 (e : A0) : Option Bool :=
  (if (bif (e.Op == 3) then true else (e.Op == 4)) = true then Od e.Name else some default) >>= fun x1 =>
  if (bif (bif (e.Op == 3) then true else (e.Op == 4)) then (!x1) else false) = true then
    some false
  else
    T9 e 0
  partial_fixpoint
def T9 (e : A0) (i : Int) : Option Bool :=
  if (decide (i < ((e.Kids).length : Int))) = true then
    idx e.Kids i >>= fun x2 =>
    O5 x2 >>= fun x3 =>
    if (!x3) = true then
      some false
    else
      T9 e (IntKind.i64.wrap (i + 1))
  else
    some true
  partial_fixpoint
end
abbrev Ar (e : A0) (res : Bool) : Prop := R0 C 51 [.agg (A0.cells e)] [] (fun x H' => H' = [] ∧ x = .d (.bool res))
abbrev Sm (e : A0) (i : Int) (res : Bool) : Prop := Q0 (Fx.mk C 32 0) (lo (bk (sr (sl (sr (sr (N0 Tryz.f51))))))) (X0 [(1, .ref 0 0), (3, .d (.int .i64 i))]) [.row (A0.cells e) 36] (Am.InBlock 0 (Am.Then (Fx.mk C 32 0) (sr (sr (sr (N0 Tryz.f51)))) (Am.Ends (Fx.mk C 32 0) Tryz.f51.results.toList (fun x H' => H' = [] ∧ x = .d (.bool res)))))
theorem Fv : (∀ (e : A0) (res : Bool), O5 e = some res → Ar e res) ∧
    (∀ (e : A0) (i : Int) (res : Bool), T9 e i = some res → Sm e i res) := by
  refine O5.mutual_partial_correctness (fun e res => Ar e res)
    (fun e i res => Sm e i res) ?_ ?_
  · intro g1 ih1 e res hh
    refine R0.intro hC Tryz.func51 rfl rfl rfl ?_
    obtain ⟨x1, hx1, hh⟩ := bs' hh
    refine s' rfl rfl (J0.n hC rfl (q' rfl (n' (S' (sg' 14 rfl (a0' rfl (a0' rfl (a0' rfl (a0' rfl (a0' rfl (a1' rfl (a1' rfl (po' rfl ?_)))))))))))))
    refine a0' rfl (a0' rfl (a1' rfl (AG.c rfl rfl (fun hg => ⟨hg, trivial⟩) (fun hw => Wi (V1 hw hx1)) (a1' rfl (pa' rfl (an' (n' ?_)))))))
    refine ci' rfl hh (fun hh => ?_) (fun hh => ?_)
    · refine s' rfl rfl (q' rfl (n' (re' ?_)))
      obtain rfl := oi' hh
      exact ⟨_, _, [], rfl, .rfl, trivial, rfl, rfl, rfl, rfl⟩
    refine sk' (S' (s' rfl rfl (q' rfl (n' (AEx.block ?_)))))
    refine AEx.ofLoop ?_
    refine Q0.wk ?_ (ih1 _ _ _ hh)
    exact ⟨⟨⟨.rfl, rfl⟩, ⟨⟨.rfl, rfl⟩, trivial⟩⟩, ⟨⟨rfl, .refl _, rfl⟩, trivial⟩, rfl⟩
  · intro g0 g1 ih0 ih1 e i res hh
    refine Q0.unroll ?_
    refine S' (s' rfl rfl (q' rfl (q' rfl (q' rfl (qe' rfl trivial (A0.lenA _) (q' rfl (n' ?_)))))))
    refine ci' rfl hh (fun hh => ?_) (fun hh => ?_)
    · obtain ⟨x2, hx2, hh⟩ := bs' hh
      obtain ⟨x3, hx3, hh⟩ := bs' hh
      refine sk' (S' (AEx.block (s' rfl rfl (q' rfl (q' rfl (q' rfl (i' rfl (V0 hx2) (A0.idx hx2) rfl (q' rfl (J0.c rfl rfl (ih0 _ _ hx3) (q' rfl (n' ?_)))))))))))
      refine ci' rfl hh (fun hh => ?_) (fun hh => ?_)
      · refine s' rfl rfl (q' rfl (n' (re' ?_)))
        obtain rfl := oi' hh
        exact ⟨_, _, [], rfl, .rfl, trivial, rfl, rfl, rfl, rfl⟩
      refine sk' (R' rfl rfl (q' rfl (q' rfl (q' rfl (n' ?_)))))
      refine Q0.wk ?_ (ih1 _ _ _ hh)
      exact ⟨⟨⟨.rfl, rfl⟩, ⟨⟨.rfl, rfl⟩, trivial⟩⟩, ⟨⟨rfl, .refl _, rfl⟩, trivial⟩, rfl⟩
    refine ex' (s' rfl rfl (q' rfl (n' (re' ?_))))
    obtain rfl := oi' hh
    exact ⟨_, _, [], rfl, .rfl, trivial, rfl, rfl, rfl, rfl⟩
theorem Xi {e : A0} {res : Bool} (hh : O5 e = some res) : Ar e res := (Fv).1 _ _ hh
theorem D1l {e : A0} {i : Int} {res : Bool} (hh : T9 e i = some res) : Sm e i res := (Fv).2 _ _ _ hh
mutual
def U7 (l : List B0) : Option Bool :=
  Z8 l 0
  partial_fixpoint
def Z8 (l : List B0) (i : Int) : Option Bool :=
  if (decide (i < ((l).length : Int))) = true then
    idx l i >>= fun x1 =>
    Cl x1.Verb >>= fun x2 =>
    (if x2 = true then Od x1.Name else some default) >>= fun x3 =>
    (if (!(bif x2 then (!x3) else false)) = true then O5 x1.Place else some default) >>= fun x4 =>
    (if (!(bif (bif x2 then (!x3) else false) then true else (!x4))) = true then O5 x1.Value else some default) >>= fun x5 =>
    (if (!(bif (bif (bif x2 then (!x3) else false) then true else (!x4)) then true else (!x5))) = true then U7 x1.Then else some default) >>= fun x6 =>
    (if (!(bif (bif (bif (bif x2 then (!x3) else false) then true else (!x4)) then true else (!x5)) then true else (!x6))) = true then U7 x1.Else else some default) >>= fun x7 =>
    if (bif (bif (bif (bif (bif x2 then (!x3) else false) then true else (!x4)) then true else (!x5)) then true else (!x6)) then true else (!x7)) = true then
      some false
    else
      Gc l x1 i 0
  else
    some true
  partial_fixpoint
def Gc (l : List B0) (x1 : B0) (i1 : Int) (k : Int) : Option Bool :=
  if (decide (k < ((x1.Args).length : Int))) = true then
    idx x1.Args k >>= fun x8 =>
    O5 x8 >>= fun x9 =>
    if (!x9) = true then
      some false
    else
      Gc l x1 i1 (IntKind.i64.wrap (k + 1))
  else
    Z8 l (IntKind.i64.wrap (i1 + 1))
  partial_fixpoint
end
abbrev Mp (l : List B0) (res : Bool) : Prop := R0 C 85 [.d (.sl (B0.rows l))] [] (fun x H' => H' = [] ∧ x = .d (.bool res))
abbrev Fl (l : List B0) (i : Int) (res : Bool) : Prop := Q0 (Fx.mk C 63 0) (lo (bk (sr (sl (sr (N0 Tryz.f85)))))) (X0 [(0, .d (.sl (B0.rows l))), (3, .d (.int .i64 i))]) [] (Am.InBlock 0 (Am.Then (Fx.mk C 63 0) (sr (sr (N0 Tryz.f85))) (Am.Ends (Fx.mk C 63 0) Tryz.f85.results.toList (fun x H' => H' = [] ∧ x = .d (.bool res)))))
abbrev Gl (l : List B0) (x1 : B0) (i1 : Int) (k : Int) (res : Bool) : Prop := Q0 (Fx.mk C 63 0) (lo (bk (sr (sr (sr (bk (sl (sr (lo (bk (sr (sl (sr (N0 Tryz.f85)))))))))))))) (X0 [(0, .d (.sl (B0.rows l))), (3, .d (.int .i64 i1)), (4, .ref 0 0), (5, .d (.int .i64 k))]) [.row (B0.cells x1) 68] (Am.InBlock 2 (Am.InBlock 1 (Am.Then (Fx.mk C 63 0) (sr (sr (lo (bk (sr (sl (sr (N0 Tryz.f85)))))))) (Am.Again (Fx.mk C 63 0) (lo (bk (sr (sl (sr (N0 Tryz.f85)))))) (Am.InBlock 0 (Am.Then (Fx.mk C 63 0) (sr (sr (N0 Tryz.f85))) (Am.Ends (Fx.mk C 63 0) Tryz.f85.results.toList (fun x H' => H' = [] ∧ x = .d (.bool res)))))))))
theorem Tm : (∀ (l : List B0) (res : Bool), U7 l = some res → Mp l res) ∧
    (∀ (l : List B0) (i : Int) (res : Bool), Z8 l i = some res → Fl l i res) ∧
    (∀ (l : List B0) (x1 : B0) (i1 : Int) (k : Int) (res : Bool), Gc l x1 i1 k = some res → Gl l x1 i1 k res) := by
  refine U7.mutual_partial_correctness (fun l res => Mp l res)
    (fun l i res => Fl l i res)
    (fun l x1 i1 k res => Gl l x1 i1 k res) ?_ ?_ ?_
  · intro g1 ih1 l res hh
    refine R0.intro hC Tryz.func85 rfl rfl rfl ?_
    refine s' rfl rfl (q' rfl (n' (S' (s' rfl rfl (q' rfl (n' (AEx.block ?_)))))))
    refine AEx.ofLoop ?_
    refine Q0.wk ?_ (ih1 _ _ _ hh)
    exact ⟨⟨⟨.rfl, rfl⟩, ⟨⟨.rfl, rfl⟩, trivial⟩⟩, trivial, rfl⟩
  · intro g0 g2 ih0 ih2 l i res hh
    refine Q0.unroll ?_
    refine S' (s' rfl rfl (q' rfl (q' rfl (qe' rfl trivial (B0.lenA _) (q' rfl (n' ?_))))))
    refine ci' rfl hh (fun hh => ?_) (fun hh => ?_)
    · obtain ⟨x1, hx1, hh⟩ := bs' hh
      obtain ⟨x2, hx2, hh⟩ := bs' hh
      obtain ⟨x3, hx3, hh⟩ := bs' hh
      obtain ⟨x4, hx4, hh⟩ := bs' hh
      obtain ⟨x5, hx5, hh⟩ := bs' hh
      obtain ⟨x6, hx6, hh⟩ := bs' hh
      obtain ⟨x7, hx7, hh⟩ := bs' hh
      refine sk' (S' (AEx.block (s' rfl rfl (q' rfl (q' rfl (i' rfl (V0 hx1) (B0.idx hx1) rfl (q' rfl (J0.nf hC rfl (J0.s hC rfl (n' (S' (sg' 33 rfl (a0' rfl ?_)))))))))))))
      refine a0' rfl (AG.c rfl rfl (fun _ => trivial) (fun _ => Ux hx2) (a0' rfl (a0' rfl (a1' rfl (AG.c rfl rfl (fun hg => ⟨hg, trivial⟩) (fun hw => Wi (V1 hw hx3)) (a1' rfl (pa' rfl (a0' rfl (a0' rfl (a1' rfl (AG.c rfl rfl (fun hg => ⟨hg, trivial⟩) (fun hw => Xi (V1 hw hx4)) (a1' rfl (po' rfl ?_)))))))))))))
      refine a0' rfl (a0' rfl (a1' rfl (AG.c rfl rfl (fun hg => ⟨hg, trivial⟩) (fun hw => Xi (V1 hw hx5)) (a1' rfl (po' rfl (a0' rfl (a0' rfl (a1' rfl (AG.c rfl rfl (fun hg => ⟨hg, trivial⟩) (fun hw => ih0 _ _ (V1 hw hx6)) (a1' rfl (po' rfl (a0' rfl (a0' rfl ?_)))))))))))))
      refine a1' rfl (AG.c rfl rfl (fun hg => ⟨hg, trivial⟩) (fun hw => ih0 _ _ (V1 hw hx7)) (a1' rfl (po' rfl (an' (n' ?_)))))
      refine ci' rfl hh (fun hh => ?_) (fun hh => ?_)
      · refine s' rfl rfl (q' rfl (n' (re' ?_)))
        obtain rfl := oi' hh
        exact ⟨_, _, [], rfl, .rfl, trivial, rfl, rfl, rfl, rfl⟩
      refine sk' (s' rfl rfl (q' rfl (n' (AEx.block ?_))))
      refine AEx.ofLoop ?_
      refine Q0.wk ?_ (ih2 _ _ _ _ _ hh)
      exact ⟨⟨⟨.rfl, rfl⟩, ⟨⟨.rfl, rfl⟩, ⟨⟨.rfl, rfl⟩, ⟨⟨.rfl, rfl⟩, trivial⟩⟩⟩⟩, ⟨⟨rfl, .refl _, rfl⟩, trivial⟩, rfl⟩
    refine ex' (s' rfl rfl (q' rfl (n' (re' ?_))))
    obtain rfl := oi' hh
    exact ⟨_, _, [], rfl, .rfl, trivial, rfl, rfl, rfl, rfl⟩
  · intro g1 g2 ih1 ih2 l x1 i1 k res hh
    refine Q0.unroll ?_
    refine S' (s' rfl rfl (q' rfl (q' rfl (q' rfl (qe' rfl trivial (A0.lenA _) (q' rfl (n' ?_)))))))
    refine ci' rfl hh (fun hh => ?_) (fun hh => ?_)
    · obtain ⟨x8, hx8, hh⟩ := bs' hh
      obtain ⟨x9, hx9, hh⟩ := bs' hh
      refine sk' (S' (AEx.block (s' rfl rfl (q' rfl (q' rfl (q' rfl (i' rfl (V0 hx8) (A0.idx hx8) rfl (q' rfl (J0.c rfl rfl (Xi hx9) (q' rfl (n' ?_)))))))))))
      refine ci' rfl hh (fun hh => ?_) (fun hh => ?_)
      · refine s' rfl rfl (q' rfl (n' (re' ?_)))
        obtain rfl := oi' hh
        exact ⟨_, _, [], rfl, .rfl, trivial, rfl, rfl, rfl, rfl⟩
      refine sk' (R' rfl rfl (q' rfl (q' rfl (q' rfl (n' ?_)))))
      refine Q0.wk ?_ (ih2 _ _ _ _ _ hh)
      exact ⟨⟨⟨.rfl, rfl⟩, ⟨⟨.rfl, rfl⟩, ⟨⟨.rfl, rfl⟩, ⟨⟨.rfl, rfl⟩, trivial⟩⟩⟩⟩, ⟨⟨rfl, .refl _, rfl⟩, trivial⟩, rfl⟩
    refine ex' (R' rfl rfl (q' rfl (q' rfl (q' rfl (n' ?_)))))
    refine Q0.wk ?_ (ih1 _ _ _ hh)
    exact ⟨⟨⟨.rfl, rfl⟩, ⟨⟨.rfl, rfl⟩, trivial⟩⟩, trivial, rfl⟩
theorem Gv {l : List B0} {res : Bool} (hh : U7 l = some res) : Mp l res := (Tm).1 _ _ hh
theorem S1j {l : List B0} {i : Int} {res : Bool} (hh : Z8 l i = some res) : Fl l i res := (Tm).2.1 _ _ _ hh
theorem T1j {l : List B0} {x1 : B0} {i1 : Int} {k : Int} {res : Bool} (hh : Gc l x1 i1 k = some res) : Gl l x1 i1 k res := (Tm).2.2 _ _ _ _ _ hh
mutual
def U9 (l : List E0) : Option Bool :=
  A9 l 0
  partial_fixpoint
def A9 (l : List E0) (i : Int) : Option Bool :=
  if (decide (i < ((l).length : Int))) = true then
    idx l i >>= fun x1 =>
    Od x1.Name >>= fun x2 =>
    (if (!(!x2)) = true then Dc x1.TypeV else some default) >>= fun x3 =>
    (if (!(bif (!x2) then true else (!x3))) = true then O5 x1.Value else some default) >>= fun x4 =>
    (if (!(bif (bif (!x2) then true else (!x3)) then true else (!x4))) = true then U9 x1.Params else some default) >>= fun x5 =>
    (if (!(bif (bif (bif (!x2) then true else (!x3)) then true else (!x4)) then true else (!x5))) = true then U9 x1.Vars else some default) >>= fun x6 =>
    (if (!(bif (bif (bif (bif (!x2) then true else (!x3)) then true else (!x4)) then true else (!x5)) then true else (!x6))) = true then U7 x1.Body else some default) >>= fun x7 =>
    if (bif (bif (bif (bif (bif (!x2) then true else (!x3)) then true else (!x4)) then true else (!x5)) then true else (!x6)) then true else (!x7)) = true then
      some false
    else
      A9 l (IntKind.i64.wrap (i + 1))
  else
    some true
  partial_fixpoint
end
abbrev Np (l : List E0) (res : Bool) : Prop := R0 C 84 [.d (.sl (E0.rows l))] [] (fun x H' => H' = [] ∧ x = .d (.bool res))
abbrev Hl (l : List E0) (i : Int) (res : Bool) : Prop := Q0 (Fx.mk C 49 0) (lo (bk (sr (sl (sr (N0 Tryz.f84)))))) (X0 [(0, .d (.sl (E0.rows l))), (3, .d (.int .i64 i))]) [] (Am.InBlock 0 (Am.Then (Fx.mk C 49 0) (sr (sr (N0 Tryz.f84))) (Am.Ends (Fx.mk C 49 0) Tryz.f84.results.toList (fun x H' => H' = [] ∧ x = .d (.bool res)))))
theorem Yt : (∀ (l : List E0) (res : Bool), U9 l = some res → Np l res) ∧
    (∀ (l : List E0) (i : Int) (res : Bool), A9 l i = some res → Hl l i res) := by
  refine U9.mutual_partial_correctness (fun l res => Np l res)
    (fun l i res => Hl l i res) ?_ ?_
  · intro g1 ih1 l res hh
    refine R0.intro hC Tryz.func84 rfl rfl rfl ?_
    refine s' rfl rfl (q' rfl (n' (S' (s' rfl rfl (q' rfl (n' (AEx.block ?_)))))))
    refine AEx.ofLoop ?_
    refine Q0.wk ?_ (ih1 _ _ _ hh)
    exact ⟨⟨⟨.rfl, rfl⟩, ⟨⟨.rfl, rfl⟩, trivial⟩⟩, trivial, rfl⟩
  · intro g0 g1 ih0 ih1 l i res hh
    refine Q0.unroll ?_
    refine S' (s' rfl rfl (q' rfl (q' rfl (qe' rfl trivial (E0.lenA _) (q' rfl (n' ?_))))))
    refine ci' rfl hh (fun hh => ?_) (fun hh => ?_)
    · obtain ⟨x1, hx1, hh⟩ := bs' hh
      obtain ⟨x2, hx2, hh⟩ := bs' hh
      obtain ⟨x3, hx3, hh⟩ := bs' hh
      obtain ⟨x4, hx4, hh⟩ := bs' hh
      obtain ⟨x5, hx5, hh⟩ := bs' hh
      obtain ⟨x6, hx6, hh⟩ := bs' hh
      obtain ⟨x7, hx7, hh⟩ := bs' hh
      refine sk' (S' (AEx.block (s' rfl rfl (q' rfl (q' rfl (i' rfl (V0 hx1) (E0.idx hx1) rfl (q' rfl (J0.nf hC rfl (J0.s hC rfl (n' (sg' 34 rfl (a0' rfl (a0' rfl ?_)))))))))))))
      refine AG.c rfl rfl (fun _ => trivial) (fun _ => Wi hx2) (a0' rfl (a0' rfl (a0' rfl (a1' rfl (AG.c rfl rfl (fun hg => ⟨hg, trivial⟩) (fun hw => X14 (V1 hw hx3)) (a1' rfl (po' rfl (a0' rfl (a0' rfl (a1' rfl (AG.c rfl rfl (fun hg => ⟨hg, trivial⟩) (fun hw => Xi (V1 hw hx4)) (a1' rfl (po' rfl ?_)))))))))))))
      refine a0' rfl (a0' rfl (a1' rfl (AG.c rfl rfl (fun hg => ⟨hg, trivial⟩) (fun hw => ih0 _ _ (V1 hw hx5)) (a1' rfl (po' rfl (a0' rfl (a0' rfl (a1' rfl (AG.c rfl rfl (fun hg => ⟨hg, trivial⟩) (fun hw => ih0 _ _ (V1 hw hx6)) (a1' rfl (po' rfl (a0' rfl (a0' rfl ?_)))))))))))))
      refine a1' rfl (AG.c rfl rfl (fun hg => ⟨hg, trivial⟩) (fun hw => Gv (V1 hw hx7)) (a1' rfl (po' rfl (an' (n' ?_)))))
      refine ci' rfl hh (fun hh => ?_) (fun hh => ?_)
      · refine s' rfl rfl (q' rfl (n' (re' ?_)))
        obtain rfl := oi' hh
        exact ⟨_, _, [], rfl, .rfl, trivial, rfl, rfl, rfl, rfl⟩
      refine sk' (R' rfl rfl (q' rfl (q' rfl (q' rfl (n' ?_)))))
      refine Q0.wk ?_ (ih1 _ _ _ hh)
      exact ⟨⟨⟨.rfl, rfl⟩, ⟨⟨.rfl, rfl⟩, trivial⟩⟩, trivial, rfl⟩
    refine ex' (s' rfl rfl (q' rfl (n' (re' ?_))))
    obtain rfl := oi' hh
    exact ⟨_, _, [], rfl, .rfl, trivial, rfl, rfl, rfl, rfl⟩
theorem P13 {l : List E0} {res : Bool} (hh : U9 l = some res) : Np l res := (Yt).1 _ _ hh
theorem U1j {l : List E0} {i : Int} {res : Bool} (hh : A9 l i = some res) : Hl l i res := (Yt).2 _ _ _ hh
def Jf (n : Int) : Option Bool :=
  some (bif (decide (n ≥ (-1048576))) then (decide (n ≤ 1048576)) else false)
abbrev P1b (n : Int) (res : Bool) : Prop := R0 C 124 [.d (.int .i64 n)] [] (fun x H' => H' = [] ∧ x = .d (.bool res))
theorem Yi {n : Int} {res : Bool} (hh : Jf n = some res) : P1b n res := by
  unfold Jf at hh
  refine R0.intro hC Tryz.func124 rfl rfl rfl ?_
  refine s' rfl rfl (q' rfl (n' (sg' 7 rfl (a0' rfl (a0' rfl (a0' rfl (a0' rfl (a1' rfl (pa' rfl (a0' rfl (an' (n' (re' ?_)))))))))))))
  obtain rfl := oi' hh
  exact ⟨_, _, [], rfl, .rfl, trivial, rfl, rfl, rfl, rfl⟩
mutual
def R8 (t : D0) : Option Bool :=
  (if (t.Kind == 1) = true then Jf t.Low else some default) >>= fun x1 =>
  (if ((t.Kind == 1) && (!(!x1))) = true then Jf t.High else some default) >>= fun x2 =>
  if (bif (bif (bif (t.Kind == 1) then (bif (bif (!x1) then true else (!x2)) then true else (decide (t.Low > t.High))) else false) then true else (bif (t.Kind == 2) then (bif (decide (t.Size < 1)) then true else (decide (t.Size > 32))) else false)) then true else (decide (((t.Of).length : Int) > 32))) = true then
    some false
  else
    V7 t 0
  partial_fixpoint
def V7 (t : D0) (i : Int) : Option Bool :=
  if (decide (i < ((t.Of).length : Int))) = true then
    idx t.Of i >>= fun x3 =>
    R8 x3 >>= fun x4 =>
    if (!x4) = true then
      some false
    else
      V7 t (IntKind.i64.wrap (i + 1))
  else
    some true
  partial_fixpoint
end
abbrev Eo (t : D0) (res : Bool) : Prop := R0 C 64 [.agg (D0.cells t)] [] (fun x H' => H' = [] ∧ x = .d (.bool res))
abbrev Tj (t : D0) (i : Int) (res : Bool) : Prop := Q0 (Fx.mk C 61 0) (lo (bk (sr (sl (sr (sr (N0 Tryz.f64))))))) (X0 [(1, .ref 0 0), (3, .d (.int .i64 i))]) [.row (D0.cells t) 48] (Am.InBlock 0 (Am.Then (Fx.mk C 61 0) (sr (sr (sr (N0 Tryz.f64)))) (Am.Ends (Fx.mk C 61 0) Tryz.f64.results.toList (fun x H' => H' = [] ∧ x = .d (.bool res)))))
theorem Jt : (∀ (t : D0) (res : Bool), R8 t = some res → Eo t res) ∧
    (∀ (t : D0) (i : Int) (res : Bool), V7 t i = some res → Tj t i res) := by
  refine R8.mutual_partial_correctness (fun t res => Eo t res)
    (fun t i res => Tj t i res) ?_ ?_
  · intro g1 ih1 t res hh
    refine R0.intro hC Tryz.func64 rfl rfl rfl ?_
    obtain ⟨x1, hx1, hh⟩ := bs' hh
    obtain ⟨x2, hx2, hh⟩ := bs' hh
    refine s' rfl rfl (J0.n hC rfl (q' rfl (n' (S' (sg' 43 rfl (a0' rfl (a0' rfl (a0' rfl (a0' rfl (a0' rfl (a1' rfl (AG.c rfl rfl (fun hg => ⟨hg, trivial⟩) (fun hw => Yi (V1 hw hx1)) (a1' rfl ?_)))))))))))))
    refine a1' rfl (a0' rfl (a1' rfl (AG.c rfl rfl (fun hg => ⟨hg, trivial⟩) (fun hw => Yi (V1 hw hx2)) (a1' rfl (pO' rfl (a1' rfl (a0' rfl (a1' rfl (a0' rfl (a1' rfl (a2' rfl (pO' rfl (pa' rfl ?_)))))))))))))
    refine a0' rfl (a0' rfl (a1' rfl (a1' rfl (a1' rfl (a0' rfl (a1' rfl (a1' rfl (a1' rfl (a0' rfl (a1' rfl (a1' rfl (pO' rfl (pA' rfl ?_)))))))))))))
    refine po' rfl (a0' rfl (a0' rfl (a1' rfl (AG.qe hC rfl (fun hg => ⟨⟨hg, trivial⟩, trivial⟩) (D0.lenA _) (a1' rfl (po' rfl (an' (n' ?_))))))))
    refine ci' rfl hh (fun hh => ?_) (fun hh => ?_)
    · refine s' rfl rfl (q' rfl (n' (re' ?_)))
      obtain rfl := oi' hh
      exact ⟨_, _, [], rfl, .rfl, trivial, rfl, rfl, rfl, rfl⟩
    refine sk' (S' (s' rfl rfl (q' rfl (n' (AEx.block ?_)))))
    refine AEx.ofLoop ?_
    refine Q0.wk ?_ (ih1 _ _ _ hh)
    exact ⟨⟨⟨.rfl, rfl⟩, ⟨⟨.rfl, rfl⟩, trivial⟩⟩, ⟨⟨rfl, .refl _, rfl⟩, trivial⟩, rfl⟩
  · intro g0 g1 ih0 ih1 t i res hh
    refine Q0.unroll ?_
    refine S' (s' rfl rfl (q' rfl (q' rfl (q' rfl (qe' rfl trivial (D0.lenA _) (q' rfl (n' ?_)))))))
    refine ci' rfl hh (fun hh => ?_) (fun hh => ?_)
    · obtain ⟨x3, hx3, hh⟩ := bs' hh
      obtain ⟨x4, hx4, hh⟩ := bs' hh
      refine sk' (S' (AEx.block (s' rfl rfl (q' rfl (q' rfl (q' rfl (i' rfl (V0 hx3) (D0.idx hx3) rfl (q' rfl (J0.c rfl rfl (ih0 _ _ hx4) (q' rfl (n' ?_)))))))))))
      refine ci' rfl hh (fun hh => ?_) (fun hh => ?_)
      · refine s' rfl rfl (q' rfl (n' (re' ?_)))
        obtain rfl := oi' hh
        exact ⟨_, _, [], rfl, .rfl, trivial, rfl, rfl, rfl, rfl⟩
      refine sk' (R' rfl rfl (q' rfl (q' rfl (q' rfl (n' ?_)))))
      refine Q0.wk ?_ (ih1 _ _ _ hh)
      exact ⟨⟨⟨.rfl, rfl⟩, ⟨⟨.rfl, rfl⟩, trivial⟩⟩, ⟨⟨rfl, .refl _, rfl⟩, trivial⟩, rfl⟩
    refine ex' (s' rfl rfl (q' rfl (n' (re' ?_))))
    obtain rfl := oi' hh
    exact ⟨_, _, [], rfl, .rfl, trivial, rfl, rfl, rfl, rfl⟩
theorem R12 {t : D0} {res : Bool} (hh : R8 t = some res) : Eo t res := (Jt).1 _ _ hh
theorem V1i {t : D0} {i : Int} {res : Bool} (hh : V7 t i = some res) : Tj t i res := (Jt).2 _ _ _ hh
mutual
def E4 (e : A0) : Option Bool :=
  if (bif (e.Op == 0) then (bif (decide (e.NV < 0)) then true else (decide (e.NV > 1048576))) else false) = true then
    some false
  else
    W7 e 0
  partial_fixpoint
def W7 (e : A0) (i : Int) : Option Bool :=
  if (decide (i < ((e.Kids).length : Int))) = true then
    idx e.Kids i >>= fun x1 =>
    E4 x1 >>= fun x2 =>
    if (!x2) = true then
      some false
    else
      W7 e (IntKind.i64.wrap (i + 1))
  else
    some true
  partial_fixpoint
end
abbrev Fo (e : A0) (res : Bool) : Prop := R0 C 52 [.agg (A0.cells e)] [] (fun x H' => H' = [] ∧ x = .d (.bool res))
abbrev Uj (e : A0) (i : Int) (res : Bool) : Prop := Q0 (Fx.mk C 31 0) (lo (bk (sr (sl (sr (sr (N0 Tryz.f52))))))) (X0 [(1, .ref 0 0), (3, .d (.int .i64 i))]) [.row (A0.cells e) 36] (Am.InBlock 0 (Am.Then (Fx.mk C 31 0) (sr (sr (sr (N0 Tryz.f52)))) (Am.Ends (Fx.mk C 31 0) Tryz.f52.results.toList (fun x H' => H' = [] ∧ x = .d (.bool res)))))
theorem Kt : (∀ (e : A0) (res : Bool), E4 e = some res → Fo e res) ∧
    (∀ (e : A0) (i : Int) (res : Bool), W7 e i = some res → Uj e i res) := by
  refine E4.mutual_partial_correctness (fun e res => Fo e res)
    (fun e i res => Uj e i res) ?_ ?_
  · intro g1 ih1 e res hh
    refine R0.intro hC Tryz.func52 rfl rfl rfl ?_
    refine s' rfl rfl (J0.n hC rfl (q' rfl (n' (S' (sg' 13 rfl (a0' rfl (a0' rfl (a0' rfl (a0' rfl (a0' rfl (a1' rfl (a1' rfl (a1' rfl ?_)))))))))))))
    refine a0' rfl (a1' rfl (a1' rfl (pO' rfl (pa' rfl (an' (n' ?_))))))
    refine ci' rfl hh (fun hh => ?_) (fun hh => ?_)
    · refine s' rfl rfl (q' rfl (n' (re' ?_)))
      obtain rfl := oi' hh
      exact ⟨_, _, [], rfl, .rfl, trivial, rfl, rfl, rfl, rfl⟩
    refine sk' (S' (s' rfl rfl (q' rfl (n' (AEx.block ?_)))))
    refine AEx.ofLoop ?_
    refine Q0.wk ?_ (ih1 _ _ _ hh)
    exact ⟨⟨⟨.rfl, rfl⟩, ⟨⟨.rfl, rfl⟩, trivial⟩⟩, ⟨⟨rfl, .refl _, rfl⟩, trivial⟩, rfl⟩
  · intro g0 g1 ih0 ih1 e i res hh
    refine Q0.unroll ?_
    refine S' (s' rfl rfl (q' rfl (q' rfl (q' rfl (qe' rfl trivial (A0.lenA _) (q' rfl (n' ?_)))))))
    refine ci' rfl hh (fun hh => ?_) (fun hh => ?_)
    · obtain ⟨x1, hx1, hh⟩ := bs' hh
      obtain ⟨x2, hx2, hh⟩ := bs' hh
      refine sk' (S' (AEx.block (s' rfl rfl (q' rfl (q' rfl (q' rfl (i' rfl (V0 hx1) (A0.idx hx1) rfl (q' rfl (J0.c rfl rfl (ih0 _ _ hx2) (q' rfl (n' ?_)))))))))))
      refine ci' rfl hh (fun hh => ?_) (fun hh => ?_)
      · refine s' rfl rfl (q' rfl (n' (re' ?_)))
        obtain rfl := oi' hh
        exact ⟨_, _, [], rfl, .rfl, trivial, rfl, rfl, rfl, rfl⟩
      refine sk' (R' rfl rfl (q' rfl (q' rfl (q' rfl (n' ?_)))))
      refine Q0.wk ?_ (ih1 _ _ _ hh)
      exact ⟨⟨⟨.rfl, rfl⟩, ⟨⟨.rfl, rfl⟩, trivial⟩⟩, ⟨⟨rfl, .refl _, rfl⟩, trivial⟩, rfl⟩
    refine ex' (s' rfl rfl (q' rfl (n' (re' ?_))))
    obtain rfl := oi' hh
    exact ⟨_, _, [], rfl, .rfl, trivial, rfl, rfl, rfl, rfl⟩
theorem Sg {e : A0} {res : Bool} (hh : E4 e = some res) : Fo e res := (Kt).1 _ _ hh
theorem W1i {e : A0} {i : Int} {res : Bool} (hh : W7 e i = some res) : Uj e i res := (Kt).2 _ _ _ hh
def I6 (s : B0) (k : Int) : Option Bool :=
  if (decide (k < ((s.Numbers).length : Int))) = true then
    idx s.Numbers k >>= fun x3 =>
    (if (!(decide (x3 < 0))) = true then idx s.Numbers k else some default) >>= fun x4 =>
    (if ((!(bif (decide (x3 < 0)) then true else (decide (x4 > 1048576)))) && (decide (k > 0))) = true then idx s.Numbers k else some default) >>= fun x5 =>
    (if ((!(bif (decide (x3 < 0)) then true else (decide (x4 > 1048576)))) && (decide (k > 0))) = true then idx s.Numbers (IntKind.i64.wrap (k - 1)) else some default) >>= fun x6 =>
    if (bif (bif (decide (x3 < 0)) then true else (decide (x4 > 1048576))) then true else (bif (decide (k > 0)) then (decide (x5 ≤ x6)) else false)) = true then
      some false
    else
      I6 s (IntKind.i64.wrap (k + 1))
  else
    some true
  partial_fixpoint
abbrev Vj (s : B0) (k : Int) (res : Bool) : Prop := Q0 (Fx.mk C 105 0) (lo (bk (sr (sr (ca (sr (sl (sr (sr (sr (sr (N0 Tryz.f152)))))))))))) (X0 [(1, .ref 0 0), (3, .d (.int .i64 k))]) [.row (B0.cells s) 68] (Am.InBlock 0 (Am.Then (Fx.mk C 105 0) (sr (sr (sr (sr (sr (N0 Tryz.f152)))))) (Am.Ends (Fx.mk C 105 0) Tryz.f152.results.toList (fun x H' => H' = [] ∧ x = .d (.bool res)))))
theorem Iz (s : B0) : (∀ (k : Int) (res : Bool), I6 s k = some res → Vj s k res) := by
  refine I6.partial_correctness s
    (fun k res => Vj s k res) ?_
  · intro g0 ih0 k res hh
    refine Q0.unroll ?_
    refine S' (s' rfl rfl (q' rfl (q' rfl (q' rfl (qe' rfl trivial (ei64.lenA _) (q' rfl (n' ?_)))))))
    refine ci' rfl hh (fun hh => ?_) (fun hh => ?_)
    · obtain ⟨x3, hx3, hh⟩ := bs' hh
      obtain ⟨x4, hx4, hh⟩ := bs' hh
      obtain ⟨x5, hx5, hh⟩ := bs' hh
      obtain ⟨x6, hx6, hh⟩ := bs' hh
      refine sk' (S' (AEx.block (S' (AEx.drawG hC 32 rfl rfl rfl (a0' rfl (a0' rfl (a0' rfl (AG.i hC rfl rfl (fun _ => trivial) (fun hw => ⟨V0 hx3, ei64.idx hx3, rfl⟩) (a0' rfl (a0' rfl (a0' rfl (a0' rfl (a1' rfl ?_)))))))))))))
      refine a0' rfl (AG.i hC rfl rfl (fun hg => ⟨hg, hg, trivial⟩) (fun hw => ⟨V0 (V1 hw hx4), ei64.idx (V1 hw hx4), rfl⟩) (a1' rfl (a1' rfl (po' rfl (a0' rfl (a0' rfl (a1' rfl (a1' rfl (a0' rfl (a1' rfl (a0' rfl (AG.i hC rfl rfl (fun hg => ⟨hg, hg, trivial⟩) (fun hw => ⟨V0 (V1 hw hx5), ei64.idx (V1 hw hx5), rfl⟩) (a1' rfl ?_)))))))))))))
      refine a0' rfl (a1' rfl (a0' rfl (a1' rfl (AG.i hC rfl rfl (fun hg => ⟨hg, hg, trivial⟩) (fun hw => ⟨V0 (V1 hw hx6), ei64.idx (V1 hw hx6), rfl⟩) (a1' rfl (a2' rfl (pA' rfl (po' rfl (an' (n' ?_))))))))))
      refine ci' rfl hh (fun hh => ?_) (fun hh => ?_)
      · refine s' rfl rfl (q' rfl (n' (re' ?_)))
        obtain rfl := oi' hh
        exact ⟨_, _, [], rfl, .rfl, trivial, rfl, rfl, rfl, rfl⟩
      refine sk' (R' rfl rfl (q' rfl (q' rfl (q' rfl (n' ?_)))))
      refine Q0.wk ?_ (ih0 _ _ hh)
      exact ⟨⟨⟨.rfl, rfl⟩, ⟨⟨.rfl, rfl⟩, trivial⟩⟩, ⟨⟨rfl, .refl _, rfl⟩, trivial⟩, rfl⟩
    refine ex' (s' rfl rfl (q' rfl (n' (re' ?_))))
    obtain rfl := oi' hh
    exact ⟨_, _, [], rfl, .rfl, trivial, rfl, rfl, rfl, rfl⟩
theorem Qz {s : B0} {k : Int} {res : Bool} (hh : I6 s k = some res) : Vj s k res := (Iz s) _ _ hh
end Go.Proofs.YtmilgoloagbmpaaGreatDoor

set_option maxRecDepth 100000
set_option maxHeartbeats 4000000
set_option linter.unusedVariables false
namespace Go.Proofs.YtmilgoloagbmpaaGreatDoor
open Go.Am
def Hg (s : B0) : Option Bool :=
  if (s.Verb == 4) = true then
    some (bif (decide (s.NV ≥ 0)) then (decide (s.NV ≤ 1048576)) else false)
  else
    if (s.Verb == 6) = true then
      some (bif (decide (s.NV ≥ 0)) then (decide (s.NV ≤ 4096)) else false)
    else
      if (s.Verb == 7) = true then
        Jf s.Low >>= fun x1 =>
        (if x1 = true then Jf s.High else some default) >>= fun x2 =>
        some (bif (bif (bif x1 then x2 else false) then (decide (s.Low ≤ s.High)) else false) then (decide ((IntKind.i64.wrap ((IntKind.i64.wrap (s.High - s.Low)) + 1)) ≤ 4096)) else false)
      else
        if (s.Verb == 8) = true then
          if (bif (decide (((s.Numbers).length : Int) < 1)) then true else (decide (((s.Numbers).length : Int) > 32))) = true then
            some false
          else
            I6 s 0
        else
          some true
abbrev Q13 (s : B0) (res : Bool) : Prop := R0 C 152 [.agg (B0.cells s)] [] (fun x H' => H' = [] ∧ x = .d (.bool res))
theorem S12 {s : B0} {res : Bool} (hh : Hg s = some res) : Q13 s res := by
  unfold Hg at hh
  refine R0.intro hC Tryz.func152 rfl rfl rfl ?_
  refine s' rfl rfl (J0.n hC rfl (q' rfl (n' (S' (s' rfl rfl (q' rfl (q' rfl (q' rfl (n' ?_)))))))))
  refine ci' rfl hh (fun hh => ?_) (fun hh => ?_)
  · refine sg' 9 rfl (a0' rfl (a0' rfl (a0' rfl (a0' rfl (a0' rfl (a1' rfl (a1' rfl (pa' rfl (a0' rfl (an' (n' (re' ?_))))))))))))
    obtain rfl := oi' hh
    exact ⟨_, _, [], rfl, .rfl, trivial, rfl, rfl, rfl, rfl⟩
  refine sk' (S' (s' rfl rfl (q' rfl (q' rfl (q' rfl (n' ?_))))))
  refine ci' rfl hh (fun hh => ?_) (fun hh => ?_)
  · refine sg' 9 rfl (a0' rfl (a0' rfl (a0' rfl (a0' rfl (a0' rfl (a1' rfl (a1' rfl (pa' rfl (a0' rfl (an' (n' (re' ?_))))))))))))
    obtain rfl := oi' hh
    exact ⟨_, _, [], rfl, .rfl, trivial, rfl, rfl, rfl, rfl⟩
  refine sk' (S' (s' rfl rfl (q' rfl (q' rfl (q' rfl (n' ?_))))))
  refine ci' rfl hh (fun hh => ?_) (fun hh => ?_)
  · obtain ⟨x1, hx1, hh⟩ := bs' hh
    obtain ⟨x2, hx2, hh⟩ := bs' hh
    refine sg' 25 rfl (a0' rfl (a0' rfl (AG.c rfl rfl (fun _ => trivial) (fun _ => Yi hx1) (a0' rfl (a0' rfl (a1' rfl (AG.c rfl rfl (fun hg => ⟨hg, trivial⟩) (fun hw => Yi (V1 hw hx2)) (pa' rfl (a0' rfl (a0' rfl (a1' rfl (a0' rfl (a1' rfl ?_)))))))))))))
    refine a2' rfl (pa' rfl (a0' rfl (a0' rfl (a1' rfl (a0' rfl (a1' rfl (a2' rfl (a1' rfl (a1' rfl (pa' rfl (a0' rfl (an' (n' ?_)))))))))))))
    refine re' ?_
    obtain rfl := oi' hh
    exact ⟨_, _, [], rfl, .rfl, trivial, rfl, rfl, rfl, rfl⟩
  refine sk' (S' (s' rfl rfl (q' rfl (q' rfl (q' rfl (n' ?_))))))
  refine ci' rfl hh (fun hh => ?_) (fun hh => ?_)
  · refine S' (sg' 10 rfl (a0' rfl (a0' rfl (AG.qe hC rfl (fun hg => ⟨trivial, trivial⟩) (ei64.lenA _) (a0' rfl (a0' rfl (a0' rfl (a1' rfl (AG.qe hC rfl (fun hg => ⟨⟨hg, trivial⟩, trivial⟩) (ei64.lenA _) (a1' rfl (po' rfl (an' (n' ?_)))))))))))))
    refine ci' rfl hh (fun hh => ?_) (fun hh => ?_)
    · refine s' rfl rfl (q' rfl (n' (re' ?_)))
      obtain rfl := oi' hh
      exact ⟨_, _, [], rfl, .rfl, trivial, rfl, rfl, rfl, rfl⟩
    refine sk' (s' rfl rfl (q' rfl (n' (AEx.block ?_))))
    refine AEx.ofLoop ?_
    refine Q0.wk ?_ (Qz hh)
    exact ⟨⟨⟨.rfl, rfl⟩, ⟨⟨.rfl, rfl⟩, trivial⟩⟩, ⟨⟨rfl, .refl _, rfl⟩, trivial⟩, rfl⟩
  refine sk' (s' rfl rfl (q' rfl (n' (re' ?_))))
  obtain rfl := oi' hh
  exact ⟨_, _, [], rfl, .rfl, trivial, rfl, rfl, rfl, rfl⟩
mutual
def J6 (l : List B0) : Option Bool :=
  W6 l 0
  partial_fixpoint
def W6 (l : List B0) (i : Int) : Option Bool :=
  if (decide (i < ((l).length : Int))) = true then
    idx l i >>= fun x1 =>
    Hg x1 >>= fun x2 =>
    (if (!(!x2)) = true then E4 x1.Place else some default) >>= fun x3 =>
    (if (!(bif (!x2) then true else (!x3))) = true then E4 x1.Value else some default) >>= fun x4 =>
    (if (!(bif (bif (!x2) then true else (!x3)) then true else (!x4))) = true then J6 x1.Then else some default) >>= fun x5 =>
    (if (!(bif (bif (bif (!x2) then true else (!x3)) then true else (!x4)) then true else (!x5))) = true then J6 x1.Else else some default) >>= fun x6 =>
    if (bif (bif (bif (bif (!x2) then true else (!x3)) then true else (!x4)) then true else (!x5)) then true else (!x6)) = true then
      some false
    else
      G9 l x1 i 0
  else
    some true
  partial_fixpoint
def G9 (l : List B0) (x1 : B0) (i1 : Int) (k : Int) : Option Bool :=
  if (decide (k < ((x1.Args).length : Int))) = true then
    idx x1.Args k >>= fun x7 =>
    E4 x7 >>= fun x8 =>
    if (!x8) = true then
      some false
    else
      G9 l x1 i1 (IntKind.i64.wrap (k + 1))
  else
    W6 l (IntKind.i64.wrap (i1 + 1))
  partial_fixpoint
end
abbrev Um (l : List B0) (res : Bool) : Prop := R0 C 87 [.d (.sl (B0.rows l))] [] (fun x H' => H' = [] ∧ x = .d (.bool res))
abbrev Mi (l : List B0) (i : Int) (res : Bool) : Prop := Q0 (Fx.mk C 57 0) (lo (bk (sr (sl (sr (N0 Tryz.f87)))))) (X0 [(0, .d (.sl (B0.rows l))), (3, .d (.int .i64 i))]) [] (Am.InBlock 0 (Am.Then (Fx.mk C 57 0) (sr (sr (N0 Tryz.f87))) (Am.Ends (Fx.mk C 57 0) Tryz.f87.results.toList (fun x H' => H' = [] ∧ x = .d (.bool res)))))
abbrev Ni (l : List B0) (x1 : B0) (i1 : Int) (k : Int) (res : Bool) : Prop := Q0 (Fx.mk C 57 0) (lo (bk (sr (sr (sr (bk (sl (sr (lo (bk (sr (sl (sr (N0 Tryz.f87)))))))))))))) (X0 [(0, .d (.sl (B0.rows l))), (3, .d (.int .i64 i1)), (4, .ref 0 0), (5, .d (.int .i64 k))]) [.row (B0.cells x1) 68] (Am.InBlock 2 (Am.InBlock 1 (Am.Then (Fx.mk C 57 0) (sr (sr (lo (bk (sr (sl (sr (N0 Tryz.f87)))))))) (Am.Again (Fx.mk C 57 0) (lo (bk (sr (sl (sr (N0 Tryz.f87)))))) (Am.InBlock 0 (Am.Then (Fx.mk C 57 0) (sr (sr (N0 Tryz.f87))) (Am.Ends (Fx.mk C 57 0) Tryz.f87.results.toList (fun x H' => H' = [] ∧ x = .d (.bool res)))))))))
theorem Wj : (∀ (l : List B0) (res : Bool), J6 l = some res → Um l res) ∧
    (∀ (l : List B0) (i : Int) (res : Bool), W6 l i = some res → Mi l i res) ∧
    (∀ (l : List B0) (x1 : B0) (i1 : Int) (k : Int) (res : Bool), G9 l x1 i1 k = some res → Ni l x1 i1 k res) := by
  refine J6.mutual_partial_correctness (fun l res => Um l res)
    (fun l i res => Mi l i res)
    (fun l x1 i1 k res => Ni l x1 i1 k res) ?_ ?_ ?_
  · intro g1 ih1 l res hh
    refine R0.intro hC Tryz.func87 rfl rfl rfl ?_
    refine s' rfl rfl (q' rfl (n' (S' (s' rfl rfl (q' rfl (n' (AEx.block ?_)))))))
    refine AEx.ofLoop ?_
    refine Q0.wk ?_ (ih1 _ _ _ hh)
    exact ⟨⟨⟨.rfl, rfl⟩, ⟨⟨.rfl, rfl⟩, trivial⟩⟩, trivial, rfl⟩
  · intro g0 g2 ih0 ih2 l i res hh
    refine Q0.unroll ?_
    refine S' (s' rfl rfl (q' rfl (q' rfl (qe' rfl trivial (B0.lenA _) (q' rfl (n' ?_))))))
    refine ci' rfl hh (fun hh => ?_) (fun hh => ?_)
    · obtain ⟨x1, hx1, hh⟩ := bs' hh
      obtain ⟨x2, hx2, hh⟩ := bs' hh
      obtain ⟨x3, hx3, hh⟩ := bs' hh
      obtain ⟨x4, hx4, hh⟩ := bs' hh
      obtain ⟨x5, hx5, hh⟩ := bs' hh
      obtain ⟨x6, hx6, hh⟩ := bs' hh
      refine sk' (S' (AEx.block (s' rfl rfl (q' rfl (q' rfl (i' rfl (V0 hx1) (B0.idx hx1) rfl (q' rfl (J0.nf hC rfl (J0.s hC rfl (n' (S' (sg' 27 rfl (a0' rfl ?_)))))))))))))
      refine AG.c rfl rfl (fun _ => trivial) (fun _ => S12 hx2) (a0' rfl (a0' rfl (a0' rfl (a1' rfl (AG.c rfl rfl (fun hg => ⟨hg, trivial⟩) (fun hw => Sg (V1 hw hx3)) (a1' rfl (po' rfl (a0' rfl (a0' rfl (a1' rfl (AG.c rfl rfl (fun hg => ⟨hg, trivial⟩) (fun hw => Sg (V1 hw hx4)) (a1' rfl (po' rfl ?_)))))))))))))
      refine a0' rfl (a0' rfl (a1' rfl (AG.c rfl rfl (fun hg => ⟨hg, trivial⟩) (fun hw => ih0 _ _ (V1 hw hx5)) (a1' rfl (po' rfl (a0' rfl (a0' rfl (a1' rfl (AG.c rfl rfl (fun hg => ⟨hg, trivial⟩) (fun hw => ih0 _ _ (V1 hw hx6)) (a1' rfl (po' rfl (an' (n' ?_)))))))))))))
      refine ci' rfl hh (fun hh => ?_) (fun hh => ?_)
      · refine s' rfl rfl (q' rfl (n' (re' ?_)))
        obtain rfl := oi' hh
        exact ⟨_, _, [], rfl, .rfl, trivial, rfl, rfl, rfl, rfl⟩
      refine sk' (s' rfl rfl (q' rfl (n' (AEx.block ?_))))
      refine AEx.ofLoop ?_
      refine Q0.wk ?_ (ih2 _ _ _ _ _ hh)
      exact ⟨⟨⟨.rfl, rfl⟩, ⟨⟨.rfl, rfl⟩, ⟨⟨.rfl, rfl⟩, ⟨⟨.rfl, rfl⟩, trivial⟩⟩⟩⟩, ⟨⟨rfl, .refl _, rfl⟩, trivial⟩, rfl⟩
    refine ex' (s' rfl rfl (q' rfl (n' (re' ?_))))
    obtain rfl := oi' hh
    exact ⟨_, _, [], rfl, .rfl, trivial, rfl, rfl, rfl, rfl⟩
  · intro g1 g2 ih1 ih2 l x1 i1 k res hh
    refine Q0.unroll ?_
    refine S' (s' rfl rfl (q' rfl (q' rfl (q' rfl (qe' rfl trivial (A0.lenA _) (q' rfl (n' ?_)))))))
    refine ci' rfl hh (fun hh => ?_) (fun hh => ?_)
    · obtain ⟨x7, hx7, hh⟩ := bs' hh
      obtain ⟨x8, hx8, hh⟩ := bs' hh
      refine sk' (S' (AEx.block (s' rfl rfl (q' rfl (q' rfl (q' rfl (i' rfl (V0 hx7) (A0.idx hx7) rfl (q' rfl (J0.c rfl rfl (Sg hx8) (q' rfl (n' ?_)))))))))))
      refine ci' rfl hh (fun hh => ?_) (fun hh => ?_)
      · refine s' rfl rfl (q' rfl (n' (re' ?_)))
        obtain rfl := oi' hh
        exact ⟨_, _, [], rfl, .rfl, trivial, rfl, rfl, rfl, rfl⟩
      refine sk' (R' rfl rfl (q' rfl (q' rfl (q' rfl (n' ?_)))))
      refine Q0.wk ?_ (ih2 _ _ _ _ _ hh)
      exact ⟨⟨⟨.rfl, rfl⟩, ⟨⟨.rfl, rfl⟩, ⟨⟨.rfl, rfl⟩, ⟨⟨.rfl, rfl⟩, trivial⟩⟩⟩⟩, ⟨⟨rfl, .refl _, rfl⟩, trivial⟩, rfl⟩
    refine ex' (R' rfl rfl (q' rfl (q' rfl (q' rfl (n' ?_)))))
    refine Q0.wk ?_ (ih1 _ _ _ hh)
    exact ⟨⟨⟨.rfl, rfl⟩, ⟨⟨.rfl, rfl⟩, trivial⟩⟩, trivial, rfl⟩
theorem Lt {l : List B0} {res : Bool} (hh : J6 l = some res) : Um l res := (Wj).1 _ _ hh
theorem Y1g {l : List B0} {i : Int} {res : Bool} (hh : W6 l i = some res) : Mi l i res := (Wj).2.1 _ _ _ hh
theorem Z1g {l : List B0} {x1 : B0} {i1 : Int} {k : Int} {res : Bool} (hh : G9 l x1 i1 k = some res) : Ni l x1 i1 k res := (Wj).2.2 _ _ _ _ _ hh
mutual
def P7 (l : List E0) : Option Bool :=
  X6 l 0
  partial_fixpoint
def X6 (l : List E0) (i : Int) : Option Bool :=
  if (decide (i < ((l).length : Int))) = true then
    idx l i >>= fun x1 =>
    Jf x1.Init >>= fun x2 =>
    if (bif (!x2) then true else (bif (x1.TypeV.Kind == 0) then (bif (decide (x1.Init < 0)) then true else (decide (x1.Init > 1))) else false)) = true then
      some false
    else
      R8 x1.TypeV >>= fun x3 =>
      (if (!(!x3)) = true then E4 x1.Value else some default) >>= fun x4 =>
      (if (!(bif (!x3) then true else (!x4))) = true then P7 x1.Params else some default) >>= fun x5 =>
      (if (!(bif (bif (!x3) then true else (!x4)) then true else (!x5))) = true then P7 x1.Vars else some default) >>= fun x6 =>
      (if (!(bif (bif (bif (!x3) then true else (!x4)) then true else (!x5)) then true else (!x6))) = true then J6 x1.Body else some default) >>= fun x7 =>
      if (bif (bif (bif (bif (!x3) then true else (!x4)) then true else (!x5)) then true else (!x6)) then true else (!x7)) = true then
        some false
      else
        X6 l (IntKind.i64.wrap (i + 1))
  else
    some true
  partial_fixpoint
end
abbrev Vm (l : List E0) (res : Bool) : Prop := R0 C 86 [.d (.sl (E0.rows l))] [] (fun x H' => H' = [] ∧ x = .d (.bool res))
abbrev Oi (l : List E0) (i : Int) (res : Bool) : Prop := Q0 (Fx.mk C 63 0) (lo (bk (sr (sl (sr (N0 Tryz.f86)))))) (X0 [(0, .d (.sl (E0.rows l))), (3, .d (.int .i64 i))]) [] (Am.InBlock 0 (Am.Then (Fx.mk C 63 0) (sr (sr (N0 Tryz.f86))) (Am.Ends (Fx.mk C 63 0) Tryz.f86.results.toList (fun x H' => H' = [] ∧ x = .d (.bool res)))))
theorem Nr : (∀ (l : List E0) (res : Bool), P7 l = some res → Vm l res) ∧
    (∀ (l : List E0) (i : Int) (res : Bool), X6 l i = some res → Oi l i res) := by
  refine P7.mutual_partial_correctness (fun l res => Vm l res)
    (fun l i res => Oi l i res) ?_ ?_
  · intro g1 ih1 l res hh
    refine R0.intro hC Tryz.func86 rfl rfl rfl ?_
    refine s' rfl rfl (q' rfl (n' (S' (s' rfl rfl (q' rfl (n' (AEx.block ?_)))))))
    refine AEx.ofLoop ?_
    refine Q0.wk ?_ (ih1 _ _ _ hh)
    exact ⟨⟨⟨.rfl, rfl⟩, ⟨⟨.rfl, rfl⟩, trivial⟩⟩, trivial, rfl⟩
  · intro g0 g1 ih0 ih1 l i res hh
    refine Q0.unroll ?_
    refine S' (s' rfl rfl (q' rfl (q' rfl (qe' rfl trivial (E0.lenA _) (q' rfl (n' ?_))))))
    refine ci' rfl hh (fun hh => ?_) (fun hh => ?_)
    · obtain ⟨x1, hx1, hh⟩ := bs' hh
      obtain ⟨x2, hx2, hh⟩ := bs' hh
      refine sk' (S' (AEx.block (s' rfl rfl (q' rfl (q' rfl (i' rfl (V0 hx1) (E0.idx hx1) rfl (q' rfl (J0.nf hC rfl (J0.s hC rfl (n' (S' (sg' 20 rfl (a0' rfl ?_)))))))))))))
      refine a0' rfl (AG.c rfl rfl (fun _ => trivial) (fun _ => Yi hx2) (a0' rfl (a0' rfl (a0' rfl (a1' rfl (a1' rfl (a1' rfl (a1' rfl (a0' rfl (a1' rfl (a1' rfl (a1' rfl (a0' rfl ?_)))))))))))))
      refine a1' rfl (a1' rfl (pO' rfl (pA' rfl (po' rfl (an' (n' ?_))))))
      refine ci' rfl hh (fun hh => ?_) (fun hh => ?_)
      · refine s' rfl rfl (q' rfl (n' (re' ?_)))
        obtain rfl := oi' hh
        exact ⟨_, _, [], rfl, .rfl, trivial, rfl, rfl, rfl, rfl⟩
      obtain ⟨x3, hx3, hh⟩ := bs' hh
      obtain ⟨x4, hx4, hh⟩ := bs' hh
      obtain ⟨x5, hx5, hh⟩ := bs' hh
      obtain ⟨x6, hx6, hh⟩ := bs' hh
      obtain ⟨x7, hx7, hh⟩ := bs' hh
      refine sk' (sg' 28 rfl (a0' rfl (a0' rfl (AG.c rfl rfl (fun _ => trivial) (fun _ => R12 hx3) (a0' rfl (a0' rfl (a0' rfl (a1' rfl (AG.c rfl rfl (fun hg => ⟨hg, trivial⟩) (fun hw => Sg (V1 hw hx4)) (a1' rfl (po' rfl (a0' rfl (a0' rfl ?_)))))))))))))
      refine a1' rfl (AG.c rfl rfl (fun hg => ⟨hg, trivial⟩) (fun hw => ih0 _ _ (V1 hw hx5)) (a1' rfl (po' rfl (a0' rfl (a0' rfl (a1' rfl (AG.c rfl rfl (fun hg => ⟨hg, trivial⟩) (fun hw => ih0 _ _ (V1 hw hx6)) (a1' rfl (po' rfl (a0' rfl (a0' rfl (a1' rfl (AG.c rfl rfl (fun hg => ⟨hg, trivial⟩) (fun hw => Lt (V1 hw hx7)) ?_)))))))))))))
      refine a1' rfl (po' rfl (an' (n' ?_)))
      refine ci' rfl hh (fun hh => ?_) (fun hh => ?_)
      · refine s' rfl rfl (q' rfl (n' (re' ?_)))
        obtain rfl := oi' hh
        exact ⟨_, _, [], rfl, .rfl, trivial, rfl, rfl, rfl, rfl⟩
      refine sk' (R' rfl rfl (q' rfl (q' rfl (q' rfl (n' ?_)))))
      refine Q0.wk ?_ (ih1 _ _ _ hh)
      exact ⟨⟨⟨.rfl, rfl⟩, ⟨⟨.rfl, rfl⟩, trivial⟩⟩, trivial, rfl⟩
    refine ex' (s' rfl rfl (q' rfl (n' (re' ?_))))
    obtain rfl := oi' hh
    exact ⟨_, _, [], rfl, .rfl, trivial, rfl, rfl, rfl, rfl⟩
theorem P11 {l : List E0} {res : Bool} (hh : P7 l = some res) : Vm l res := (Nr).1 _ _ hh
theorem A1h {l : List E0} {i : Int} {res : Bool} (hh : X6 l i = some res) : Oi l i res := (Nr).2 _ _ _ hh
def Fn (s : I0) (form : Bool) (names : Bool) (numbers : Bool) : Option Int :=
  if (bif (decide (s.nodes > 1024)) then true else (decide (s.depth > 12))) = true then
    some 4
  else
    if (!form) = true then
      some 1
    else
      if (!names) = true then
        some 7
      else
        if (!numbers) = true then
          some 3
        else
          some 0
abbrev F1a (s : I0) (form : Bool) (names : Bool) (numbers : Bool) (res : Int) : Prop := R0 C 48 [.agg (I0.cells s), .d (.bool form), .d (.bool names), .d (.bool numbers)] [] (fun x H' => H' = [] ∧ x = .d (.int .i64 res))
theorem F18 {s : I0} {form : Bool} {names : Bool} {numbers : Bool} {res : Int} (hh : Fn s form names numbers = some res) : F1a s form names numbers res := by
  unfold Fn at hh
  refine R0.intro hC Tryz.func48 rfl rfl rfl ?_
  refine s' rfl rfl (J0.n hC rfl (q' rfl (n' (S' (sg' 8 rfl (a0' rfl (a0' rfl (a0' rfl (a0' rfl (a0' rfl (a1' rfl (a1' rfl (po' rfl ?_)))))))))))))
  refine an' (n' ?_)
  refine ci' rfl hh (fun hh => ?_) (fun hh => ?_)
  · refine s' rfl rfl (q' rfl (n' (re' ?_)))
    obtain rfl := oi' hh
    exact ⟨_, _, [], rfl, .rfl, trivial, rfl, rfl, rfl, rfl⟩
  refine sk' (S' (s' rfl rfl (q' rfl (q' rfl (n' ?_)))))
  refine ci' rfl hh (fun hh => ?_) (fun hh => ?_)
  · refine s' rfl rfl (q' rfl (n' (re' ?_)))
    obtain rfl := oi' hh
    exact ⟨_, _, [], rfl, .rfl, trivial, rfl, rfl, rfl, rfl⟩
  refine sk' (S' (s' rfl rfl (q' rfl (q' rfl (n' ?_)))))
  refine ci' rfl hh (fun hh => ?_) (fun hh => ?_)
  · refine s' rfl rfl (q' rfl (n' (re' ?_)))
    obtain rfl := oi' hh
    exact ⟨_, _, [], rfl, .rfl, trivial, rfl, rfl, rfl, rfl⟩
  refine sk' (S' (s' rfl rfl (q' rfl (q' rfl (n' ?_)))))
  refine ci' rfl hh (fun hh => ?_) (fun hh => ?_)
  · refine s' rfl rfl (q' rfl (n' (re' ?_)))
    obtain rfl := oi' hh
    exact ⟨_, _, [], rfl, .rfl, trivial, rfl, rfl, rfl, rfl⟩
  refine sk' (s' rfl rfl (q' rfl (n' (re' ?_))))
  obtain rfl := oi' hh
  exact ⟨_, _, [], rfl, .rfl, trivial, rfl, rfl, rfl, rfl⟩
def Rr (p : L0) : Option Int :=
  Mr p >>= fun x1 =>
  Cc p.Decls >>= fun x2 =>
  (if x2 = true then D9 p.Body else some default) >>= fun x3 =>
  U9 p.Decls >>= fun x4 =>
  (if x4 = true then U7 p.Body else some default) >>= fun x5 =>
  P7 p.Decls >>= fun x6 =>
  (if x6 = true then J6 p.Body else some default) >>= fun x7 =>
  Fn x1 (bif x2 then x3 else false) (bif x4 then x5 else false) (bif x6 then x7 else false) >>= fun x8 =>
  some x8
abbrev U1d (p : L0) (res : Int) : Prop := R0 C 40 [.agg (L0.cells p)] [] (fun x H' => H' = [] ∧ x = .d (.int .i64 res))
theorem Q1b {p : L0} {res : Int} (hh : Rr p = some res) : U1d p res := by
  unfold Rr at hh
  refine R0.intro hC Tryz.func40 rfl rfl rfl ?_
  obtain ⟨x1, hx1, hh⟩ := bs' hh
  obtain ⟨x2, hx2, hh⟩ := bs' hh
  obtain ⟨x3, hx3, hh⟩ := bs' hh
  obtain ⟨x4, hx4, hh⟩ := bs' hh
  obtain ⟨x5, hx5, hh⟩ := bs' hh
  obtain ⟨x6, hx6, hh⟩ := bs' hh
  obtain ⟨x7, hx7, hh⟩ := bs' hh
  obtain ⟨x8, hx8, hh⟩ := bs' hh
  refine s' rfl rfl (J0.n hC rfl (q' rfl (n' (S' (AEx.drawG hC 28 rfl rfl rfl (a0' rfl (AG.c rfl rfl (fun _ => trivial) (fun _ => J1b hx1) (a0' rfl (a0' rfl (AG.c rfl rfl (fun _ => trivial) (fun _ => W14 hx2) (a0' rfl (a0' rfl (a1' rfl ?_)))))))))))))
  refine AG.c rfl rfl (fun hg => ⟨hg, trivial⟩) (fun hw => Ax (V1 hw hx3)) (pa' rfl (a0' rfl (a0' rfl (AG.c rfl rfl (fun _ => trivial) (fun _ => P13 hx4) (a0' rfl (a0' rfl (a1' rfl (AG.c rfl rfl (fun hg => ⟨hg, trivial⟩) (fun hw => Gv (V1 hw hx5)) (pa' rfl (a0' rfl (a0' rfl (AG.c rfl rfl (fun _ => trivial) (fun _ => P11 hx6) (a0' rfl ?_)))))))))))))
  refine a0' rfl (a1' rfl (AG.c rfl rfl (fun hg => ⟨hg, trivial⟩) (fun hw => Lt (V1 hw hx7)) (pa' rfl (AG.c rfl rfl (fun _ => trivial) (fun _ => F18 hx8) (a0' rfl (an' (n' (re' ?_))))))))
  obtain rfl := oi' hh
  exact ⟨_, _, [], rfl, .rfl, trivial, rfl, rfl, rfl, rfl⟩
def R3 (n : Int) : Option Str :=
  if (decide (n < 0)) = true then
    R3 (IntKind.i64.wrap (0 - n)) >>= fun x1 =>
    if (decide (1 + x1.length ≤ maxLen)) = true then
      some ([45] ++ x1)
    else none
  else
    if (decide (n < 10)) = true then
      some (Jk [(IntKind.u8.wrap (IntKind.i64.wrap (48 + (Int.tmod n 10))))])
    else
      R3 (IntKind.i64.wrap (Int.tdiv n 10)) >>= fun x2 =>
      if (decide (x2.length + (Jk [(IntKind.u8.wrap (IntKind.i64.wrap (48 + (Int.tmod n 10))))]).length ≤ maxLen)) = true then
        some (x2 ++ (Jk [(IntKind.u8.wrap (IntKind.i64.wrap (48 + (Int.tmod n 10))))]))
      else none
  partial_fixpoint
abbrev Qv (n : Int) (res : Str) : Prop := R0 C 96 [.d (.int .i64 n)] [] (fun x H' => H' = [] ∧ x = .d (.str res))
theorem G18 : (∀ (n : Int) (res : Str), R3 n = some res → Qv n res) := by
  refine R3.partial_correctness (fun n res => Qv n res) ?_
  · intro g0 ih0 n res hh
    refine R0.intro hC Tryz.func96 rfl rfl rfl ?_
    refine s' rfl rfl (q' rfl (n' (S' (s' rfl rfl (q' rfl (q' rfl (n' ?_)))))))
    refine ci' rfl hh (fun hh => ?_) (fun hh => ?_)
    · obtain ⟨x1, hx1, hh⟩ := bs' hh
      obtain ⟨c5, hh⟩ := O0 hh
      refine s' rfl rfl (q' rfl (q' rfl (J0.c rfl rfl (ih0 _ _ hx1) (qc' rfl c5 (q' rfl (n' (re' ?_)))))))
      obtain rfl := oi' hh
      exact ⟨_, _, [], rfl, .rfl, trivial, rfl, rfl, rfl, rfl⟩
    refine sk' (s' rfl rfl (q' rfl (qc' rfl (by decide) (q' rfl (q' rfl (J0.be hC rfl (eu8.rows_map [(IntKind.u8.wrap (IntKind.i64.wrap (48 + (Int.tmod n 10))))]).symm (J0.cs hC rfl (xs := [(IntKind.u8.wrap (IntKind.i64.wrap (48 + (Int.tmod n 10))))]) rfl (q' rfl (n' (S' (s' rfl rfl (q' rfl (q' rfl ?_)))))))))))))
    refine n' ?_
    refine ci' rfl hh (fun hh => ?_) (fun hh => ?_)
    · refine s' rfl rfl (q' rfl (q' rfl (n' (re' ?_))))
      obtain rfl := oi' hh
      exact ⟨_, _, [], rfl, .rfl, trivial, rfl, rfl, rfl, rfl⟩
    obtain ⟨x2, hx2, hh⟩ := bs' hh
    obtain ⟨c6, hh⟩ := O0 hh
    refine sk' (s' rfl rfl (q' rfl (qc' rfl (by decide) (J0.c rfl rfl (ih0 _ _ hx2) (q' rfl (qc' rfl c6 (q' rfl (n' (re' ?_)))))))))
    obtain rfl := oi' hh
    exact ⟨_, _, [], rfl, .rfl, trivial, rfl, rfl, rfl, rfl⟩
theorem E7 {n : Int} {res : Str} (hh : R3 n = some res) : Qv n res := (G18) _ _ hh
def Ln (o : Int) : Option Int :=
  if (o == 23) = true then
    some 0
  else
    if (o == 20) = true then
      some 1
    else
      if (o == 19) = true then
        some 2
      else
        if (bif (decide (o ≥ 13)) then (decide (o ≤ 18)) else false) = true then
          some 3
        else
          if (bif (o == 8) then true else (o == 9)) = true then
            some 4
          else
            if (bif (bif (o == 10) then true else (o == 11)) then true else (o == 12)) = true then
              some 5
            else
              if (bif (o == 6) then true else (o == 7)) = true then
                some 6
              else
                some 7
abbrev V1d (o : Int) (res : Int) : Prop := R0 C 98 [.d (.int .i64 o)] [] (fun x H' => H' = [] ∧ x = .d (.int .i64 res))
theorem Q11 {o : Int} {res : Int} (hh : Ln o = some res) : V1d o res := by
  unfold Ln at hh
  refine R0.intro hC Tryz.func98 rfl rfl rfl ?_
  refine s' rfl rfl (q' rfl (n' (S' (s' rfl rfl (q' rfl (q' rfl (n' ?_)))))))
  refine ci' rfl hh (fun hh => ?_) (fun hh => ?_)
  · refine s' rfl rfl (q' rfl (n' (re' ?_)))
    obtain rfl := oi' hh
    exact ⟨_, _, [], rfl, .rfl, trivial, rfl, rfl, rfl, rfl⟩
  refine sk' (S' (s' rfl rfl (q' rfl (q' rfl (n' ?_)))))
  refine ci' rfl hh (fun hh => ?_) (fun hh => ?_)
  · refine s' rfl rfl (q' rfl (n' (re' ?_)))
    obtain rfl := oi' hh
    exact ⟨_, _, [], rfl, .rfl, trivial, rfl, rfl, rfl, rfl⟩
  refine sk' (S' (s' rfl rfl (q' rfl (q' rfl (n' ?_)))))
  refine ci' rfl hh (fun hh => ?_) (fun hh => ?_)
  · refine s' rfl rfl (q' rfl (n' (re' ?_)))
    obtain rfl := oi' hh
    exact ⟨_, _, [], rfl, .rfl, trivial, rfl, rfl, rfl, rfl⟩
  refine sk' (S' (sg' 6 rfl (a0' rfl (a0' rfl (a0' rfl (a0' rfl (a1' rfl (pa' rfl (an' (n' ?_))))))))))
  refine ci' rfl hh (fun hh => ?_) (fun hh => ?_)
  · refine s' rfl rfl (q' rfl (n' (re' ?_)))
    obtain rfl := oi' hh
    exact ⟨_, _, [], rfl, .rfl, trivial, rfl, rfl, rfl, rfl⟩
  refine sk' (S' (sg' 6 rfl (a0' rfl (a0' rfl (a0' rfl (a0' rfl (a1' rfl (po' rfl (an' (n' ?_))))))))))
  refine ci' rfl hh (fun hh => ?_) (fun hh => ?_)
  · refine s' rfl rfl (q' rfl (n' (re' ?_)))
    obtain rfl := oi' hh
    exact ⟨_, _, [], rfl, .rfl, trivial, rfl, rfl, rfl, rfl⟩
  refine sk' (S' (sg' 10 rfl (a0' rfl (a0' rfl (a0' rfl (a0' rfl (a1' rfl (po' rfl (a0' rfl (a0' rfl (a1' rfl (po' rfl (an' ?_)))))))))))))
  refine n' ?_
  refine ci' rfl hh (fun hh => ?_) (fun hh => ?_)
  · refine s' rfl rfl (q' rfl (n' (re' ?_)))
    obtain rfl := oi' hh
    exact ⟨_, _, [], rfl, .rfl, trivial, rfl, rfl, rfl, rfl⟩
  refine sk' (S' (sg' 6 rfl (a0' rfl (a0' rfl (a0' rfl (a0' rfl (a1' rfl (po' rfl (an' (n' ?_))))))))))
  refine ci' rfl hh (fun hh => ?_) (fun hh => ?_)
  · refine s' rfl rfl (q' rfl (n' (re' ?_)))
    obtain rfl := oi' hh
    exact ⟨_, _, [], rfl, .rfl, trivial, rfl, rfl, rfl, rfl⟩
  refine sk' (s' rfl rfl (q' rfl (n' (re' ?_))))
  obtain rfl := oi' hh
  exact ⟨_, _, [], rfl, .rfl, trivial, rfl, rfl, rfl, rfl⟩
def Jy (o : Int) : Option Str :=
  idx [[43], [45], [42], [47], [37], [61, 61], [33, 61], [60], [60, 61], [62], [62, 61], [38, 38], [124, 124]] (IntKind.i64.wrap (o - 8)) >>= fun x1 =>
  some x1
abbrev B1h (o : Int) (res : Str) : Prop := R0 C 99 [.d (.int .i64 o)] [] (fun x H' => H' = [] ∧ x = .d (.str res))
theorem W1d {o : Int} {res : Str} (hh : Jy o = some res) : B1h o res := by
  unfold Jy at hh
  refine R0.intro hC Tryz.func99 rfl rfl rfl ?_
  obtain ⟨x1, hx1, hh⟩ := bs' hh
  refine s' rfl rfl (q' rfl (n' (s' rfl rfl (J0.be hC rfl (estr.rows_map [[43], [45], [42], [47], [37], [61, 61], [33, 61], [60], [60, 61], [62], [62, 61], [38, 38], [124, 124]]).symm (q' rfl (n' (s' rfl rfl (q' rfl (q' rfl (q' rfl (i' rfl (V0 hx1) (estr.idx hx1) rfl (q' rfl (q' rfl ?_)))))))))))))
  refine n' (re' ?_)
  obtain rfl := oi' hh
  exact ⟨_, _, [], rfl, .rfl, trivial, rfl, rfl, rfl, rfl⟩
mutual
def C1 (e : A0) : Option Str :=
  if (e.Op == 0) = true then
    R3 e.NV >>= fun x1 =>
    some x1
  else
    if (e.Op == 1) = true then
      some [116, 114, 117, 101]
    else
      if (e.Op == 2) = true then
        some [102, 97, 108, 115, 101]
      else
        if (e.Op == 3) = true then
          some e.Name
        else
          if (e.Op == 4) = true then
            idx e.Kids 0 >>= fun x2 =>
            C1 x2 >>= fun x11 =>
            if (decide (x11.length + 1 ≤ maxLen)) = true then
              if (decide ((x11 ++ [46]).length + e.Name.length ≤ maxLen)) = true then
                some ((x11 ++ [46]) ++ e.Name)
              else none
            else none
          else
            if (e.Op == 5) = true then
              idx e.Kids 0 >>= fun x3 =>
              C1 x3 >>= fun x12 =>
              if (decide (x12.length + 1 ≤ maxLen)) = true then
                idx e.Kids 1 >>= fun x13 =>
                C1 x13 >>= fun x14 =>
                if (decide ((x12 ++ [91]).length + x14.length ≤ maxLen)) = true then
                  if (decide (((x12 ++ [91]) ++ x14).length + 1 ≤ maxLen)) = true then
                    some (((x12 ++ [91]) ++ x14) ++ [93])
                  else none
                else none
              else none
            else
              if (e.Op == 6) = true then
                idx e.Kids 0 >>= fun x4 =>
                Zi x4 6 >>= fun x21 =>
                if (decide (1 + x21.length ≤ maxLen)) = true then
                  some ([45] ++ x21)
                else none
              else
                if (e.Op == 7) = true then
                  idx e.Kids 0 >>= fun x5 =>
                  Zi x5 6 >>= fun x22 =>
                  if (decide (1 + x22.length ≤ maxLen)) = true then
                    some ([33] ++ x22)
                  else none
                else
                  if (e.Op == 21) = true then
                    idx e.Kids 0 >>= fun x6 =>
                    C1 x6 >>= fun x15 =>
                    if (decide (4 + x15.length ≤ maxLen)) = true then
                      if (decide (([109, 105, 110, 40] ++ x15).length + 2 ≤ maxLen)) = true then
                        idx e.Kids 1 >>= fun x16 =>
                        C1 x16 >>= fun x17 =>
                        if (decide ((([109, 105, 110, 40] ++ x15) ++ [44, 32]).length + x17.length ≤ maxLen)) = true then
                          if (decide (((([109, 105, 110, 40] ++ x15) ++ [44, 32]) ++ x17).length + 1 ≤ maxLen)) = true then
                            some (((([109, 105, 110, 40] ++ x15) ++ [44, 32]) ++ x17) ++ [41])
                          else none
                        else none
                      else none
                    else none
                  else
                    if (e.Op == 22) = true then
                      idx e.Kids 0 >>= fun x7 =>
                      C1 x7 >>= fun x18 =>
                      if (decide (4 + x18.length ≤ maxLen)) = true then
                        if (decide (([109, 97, 120, 40] ++ x18).length + 2 ≤ maxLen)) = true then
                          idx e.Kids 1 >>= fun x19 =>
                          C1 x19 >>= fun x20 =>
                          if (decide ((([109, 97, 120, 40] ++ x18) ++ [44, 32]).length + x20.length ≤ maxLen)) = true then
                            if (decide (((([109, 97, 120, 40] ++ x18) ++ [44, 32]) ++ x20).length + 1 ≤ maxLen)) = true then
                              some (((([109, 97, 120, 40] ++ x18) ++ [44, 32]) ++ x20) ++ [41])
                            else none
                          else none
                        else none
                      else none
                    else
                      if (e.Op == 23) = true then
                        idx e.Kids 0 >>= fun x8 =>
                        Zi x8 1 >>= fun x23 =>
                        if (decide (x23.length + 3 ≤ maxLen)) = true then
                          idx e.Kids 1 >>= fun x24 =>
                          C1 x24 >>= fun x25 =>
                          if (decide ((x23 ++ [32, 63, 32]).length + x25.length ≤ maxLen)) = true then
                            if (decide (((x23 ++ [32, 63, 32]) ++ x25).length + 3 ≤ maxLen)) = true then
                              idx e.Kids 2 >>= fun x26 =>
                              C1 x26 >>= fun x27 =>
                              if (decide ((((x23 ++ [32, 63, 32]) ++ x25) ++ [32, 58, 32]).length + x27.length ≤ maxLen)) = true then
                                some ((((x23 ++ [32, 63, 32]) ++ x25) ++ [32, 58, 32]) ++ x27)
                              else none
                            else none
                          else none
                        else none
                      else
                        Ln e.Op >>= fun x9 =>
                        if (x9 == 3) = true then
                          Zd e x9 4
                        else
                          Zd e x9 x9
  partial_fixpoint
def Zd (e : A0) (x9 : Int) (left : Int) : Option Str :=
  idx e.Kids 0 >>= fun x10 =>
  Zi x10 left >>= fun x28 =>
  if (decide (x28.length + 1 ≤ maxLen)) = true then
    Jy e.Op >>= fun x29 =>
    if (decide ((x28 ++ [32]).length + x29.length ≤ maxLen)) = true then
      if (decide (((x28 ++ [32]) ++ x29).length + 1 ≤ maxLen)) = true then
        idx e.Kids 1 >>= fun x30 =>
        Zi x30 (IntKind.i64.wrap (x9 + 1)) >>= fun x31 =>
        if (decide ((((x28 ++ [32]) ++ x29) ++ [32]).length + x31.length ≤ maxLen)) = true then
          some ((((x28 ++ [32]) ++ x29) ++ [32]) ++ x31)
        else none
      else none
    else none
  else none
  partial_fixpoint
def Zi (e : A0) (required : Int) : Option Str :=
  Ln e.Op >>= fun x1 =>
  if (decide (x1 < required)) = true then
    C1 e >>= fun x2 =>
    if (decide (1 + x2.length ≤ maxLen)) = true then
      if (decide (([40] ++ x2).length + 1 ≤ maxLen)) = true then
        some (([40] ++ x2) ++ [41])
      else none
    else none
  else
    C1 e >>= fun x3 =>
    some x3
  partial_fixpoint
end
abbrev Ps (e : A0) (res : Str) : Prop := R0 C 46 [.agg (A0.cells e)] [] (fun x H' => H' = [] ∧ x = .d (.str res))
abbrev Ho (e : A0) (x9 : Int) (left : Int) (res : Str) : Prop := AEx (Fx.mk C 140 0) (sr (sr (sr (sr (sr (sr (sr (sr (sr (sr (sr (sr (sr (sr (sr (sr (N0 Tryz.f46))))))))))))))))) (X0 [(1, .ref 0 0), (3, .d (.int .i64 e.Op)), (4, .d (.int .i64 x9)), (5, .d (.int .i64 left))]) [.row (A0.cells e) 36] (Am.Ends (Fx.mk C 140 0) Tryz.f46.results.toList (fun x H' => H' = [] ∧ x = .d (.str res)))
abbrev U10 (e : A0) (required : Int) (res : Str) : Prop := R0 C 97 [.agg (A0.cells e), .d (.int .i64 required)] [] (fun x H' => H' = [] ∧ x = .d (.str res))
theorem Pp : (∀ (e : A0) (res : Str), C1 e = some res → Ps e res) ∧
    (∀ (e : A0) (x9 : Int) (left : Int) (res : Str), Zd e x9 left = some res → Ho e x9 left res) ∧
    (∀ (e : A0) (required : Int) (res : Str), Zi e required = some res → U10 e required res) := by
  refine C1.mutual_partial_correctness (fun e res => Ps e res)
    (fun e x9 left res => Ho e x9 left res)
    (fun e required res => U10 e required res) ?_ ?_ ?_
  · intro g0 g1 g2 ih0 ih1 ih2 e res hh
    refine R0.intro hC Tryz.func46 rfl rfl rfl ?_
    refine s' rfl rfl (J0.n hC rfl (q' rfl (n' (s' rfl rfl (q' rfl (q' rfl (q' rfl (n' (S' (s' rfl rfl (q' rfl (q' rfl (n' ?_)))))))))))))
    refine ci' rfl hh (fun hh => ?_) (fun hh => ?_)
    · obtain ⟨x1, hx1, hh⟩ := bs' hh
      refine s' rfl rfl (q' rfl (q' rfl (J0.c rfl rfl (E7 hx1) (q' rfl (n' (re' ?_))))))
      obtain rfl := oi' hh
      exact ⟨_, _, [], rfl, .rfl, trivial, rfl, rfl, rfl, rfl⟩
    refine sk' (S' (s' rfl rfl (q' rfl (q' rfl (n' ?_)))))
    refine ci' rfl hh (fun hh => ?_) (fun hh => ?_)
    · refine s' rfl rfl (q' rfl (n' (re' ?_)))
      obtain rfl := oi' hh
      exact ⟨_, _, [], rfl, .rfl, trivial, rfl, rfl, rfl, rfl⟩
    refine sk' (S' (s' rfl rfl (q' rfl (q' rfl (n' ?_)))))
    refine ci' rfl hh (fun hh => ?_) (fun hh => ?_)
    · refine s' rfl rfl (q' rfl (n' (re' ?_)))
      obtain rfl := oi' hh
      exact ⟨_, _, [], rfl, .rfl, trivial, rfl, rfl, rfl, rfl⟩
    refine sk' (S' (s' rfl rfl (q' rfl (q' rfl (n' ?_)))))
    refine ci' rfl hh (fun hh => ?_) (fun hh => ?_)
    · refine s' rfl rfl (q' rfl (q' rfl (q' rfl (n' (re' ?_)))))
      obtain rfl := oi' hh
      exact ⟨_, _, [], rfl, .rfl, trivial, rfl, rfl, rfl, rfl⟩
    refine sk' (S' (s' rfl rfl (q' rfl (q' rfl (n' ?_)))))
    refine ci' rfl hh (fun hh => ?_) (fun hh => ?_)
    · obtain ⟨x2, hx2, hh⟩ := bs' hh
      obtain ⟨x11, hx11, hh⟩ := bs' hh
      obtain ⟨c37, hh⟩ := O0 hh
      obtain ⟨c38, hh⟩ := O0 hh
      refine S' (AEx.draw hC 10 rfl rfl rfl (Q' rfl (Q' rfl (AQ.i hC rfl (V0 hx2) (A0.idx hx2) rfl (Q' rfl (AQ.c rfl rfl (ih0 _ _ hx11) (AQ.q hC rfl c37 (Q' rfl (Q' rfl (AQ.q hC rfl c38 (Q' rfl (Qn' (n' ?_)))))))))))))
      refine re' ?_
      obtain rfl := oi' hh
      exact ⟨_, _, [], rfl, .rfl, trivial, rfl, rfl, rfl, rfl⟩
    refine sk' (S' (s' rfl rfl (q' rfl (q' rfl (n' ?_)))))
    refine ci' rfl hh (fun hh => ?_) (fun hh => ?_)
    · obtain ⟨x3, hx3, hh⟩ := bs' hh
      obtain ⟨x12, hx12, hh⟩ := bs' hh
      obtain ⟨c39, hh⟩ := O0 hh
      obtain ⟨x13, hx13, hh⟩ := bs' hh
      obtain ⟨x14, hx14, hh⟩ := bs' hh
      obtain ⟨c40, hh⟩ := O0 hh
      obtain ⟨c41, hh⟩ := O0 hh
      refine S' (AEx.draw hC 14 rfl rfl rfl (Q' rfl (Q' rfl (AQ.i hC rfl (V0 hx3) (A0.idx hx3) rfl (Q' rfl (AQ.c rfl rfl (ih0 _ _ hx12) (AQ.q hC rfl c39 (Q' rfl (Q' rfl (AQ.i hC rfl (V0 hx13) (A0.idx hx13) rfl (Q' rfl (AQ.c rfl rfl (ih0 _ _ hx14) (AQ.q hC rfl c40 ?_)))))))))))))
      refine AQ.q hC rfl c41 (Q' rfl (Qn' (n' (re' ?_))))
      obtain rfl := oi' hh
      exact ⟨_, _, [], rfl, .rfl, trivial, rfl, rfl, rfl, rfl⟩
    refine sk' (S' (s' rfl rfl (q' rfl (q' rfl (n' ?_)))))
    refine ci' rfl hh (fun hh => ?_) (fun hh => ?_)
    · obtain ⟨x4, hx4, hh⟩ := bs' hh
      obtain ⟨x21, hx21, hh⟩ := bs' hh
      obtain ⟨c42, hh⟩ := O0 hh
      refine s' rfl rfl (q' rfl (q' rfl (i' rfl (V0 hx4) (A0.idx hx4) rfl (q' rfl (J0.c rfl rfl (ih2 _ _ _ hx21) (qc' rfl c42 (q' rfl (n' (re' ?_)))))))))
      obtain rfl := oi' hh
      exact ⟨_, _, [], rfl, .rfl, trivial, rfl, rfl, rfl, rfl⟩
    refine sk' (S' (s' rfl rfl (q' rfl (q' rfl (n' ?_)))))
    refine ci' rfl hh (fun hh => ?_) (fun hh => ?_)
    · obtain ⟨x5, hx5, hh⟩ := bs' hh
      obtain ⟨x22, hx22, hh⟩ := bs' hh
      obtain ⟨c43, hh⟩ := O0 hh
      refine s' rfl rfl (q' rfl (q' rfl (i' rfl (V0 hx5) (A0.idx hx5) rfl (q' rfl (J0.c rfl rfl (ih2 _ _ _ hx22) (qc' rfl c43 (q' rfl (n' (re' ?_)))))))))
      obtain rfl := oi' hh
      exact ⟨_, _, [], rfl, .rfl, trivial, rfl, rfl, rfl, rfl⟩
    refine sk' (S' (s' rfl rfl (q' rfl (q' rfl (n' ?_)))))
    refine ci' rfl hh (fun hh => ?_) (fun hh => ?_)
    · obtain ⟨x6, hx6, hh⟩ := bs' hh
      obtain ⟨x15, hx15, hh⟩ := bs' hh
      obtain ⟨c44, hh⟩ := O0 hh
      obtain ⟨c45, hh⟩ := O0 hh
      obtain ⟨x16, hx16, hh⟩ := bs' hh
      obtain ⟨x17, hx17, hh⟩ := bs' hh
      obtain ⟨c46, hh⟩ := O0 hh
      obtain ⟨c47, hh⟩ := O0 hh
      refine S' (AEx.draw hC 15 rfl rfl rfl (Q' rfl (Q' rfl (AQ.i hC rfl (V0 hx6) (A0.idx hx6) rfl (Q' rfl (AQ.c rfl rfl (ih0 _ _ hx15) (AQ.q hC rfl c44 (AQ.q hC rfl c45 (Q' rfl (Q' rfl (AQ.i hC rfl (V0 hx16) (A0.idx hx16) rfl (Q' rfl (AQ.c rfl rfl (ih0 _ _ hx17) ?_)))))))))))))
      refine AQ.q hC rfl c46 (AQ.q hC rfl c47 (Q' rfl (Qn' (n' (re' ?_)))))
      obtain rfl := oi' hh
      exact ⟨_, _, [], rfl, .rfl, trivial, rfl, rfl, rfl, rfl⟩
    refine sk' (S' (s' rfl rfl (q' rfl (q' rfl (n' ?_)))))
    refine ci' rfl hh (fun hh => ?_) (fun hh => ?_)
    · obtain ⟨x7, hx7, hh⟩ := bs' hh
      obtain ⟨x18, hx18, hh⟩ := bs' hh
      obtain ⟨c48, hh⟩ := O0 hh
      obtain ⟨c49, hh⟩ := O0 hh
      obtain ⟨x19, hx19, hh⟩ := bs' hh
      obtain ⟨x20, hx20, hh⟩ := bs' hh
      obtain ⟨c50, hh⟩ := O0 hh
      obtain ⟨c51, hh⟩ := O0 hh
      refine S' (AEx.draw hC 15 rfl rfl rfl (Q' rfl (Q' rfl (AQ.i hC rfl (V0 hx7) (A0.idx hx7) rfl (Q' rfl (AQ.c rfl rfl (ih0 _ _ hx18) (AQ.q hC rfl c48 (AQ.q hC rfl c49 (Q' rfl (Q' rfl (AQ.i hC rfl (V0 hx19) (A0.idx hx19) rfl (Q' rfl (AQ.c rfl rfl (ih0 _ _ hx20) ?_)))))))))))))
      refine AQ.q hC rfl c50 (AQ.q hC rfl c51 (Q' rfl (Qn' (n' (re' ?_)))))
      obtain rfl := oi' hh
      exact ⟨_, _, [], rfl, .rfl, trivial, rfl, rfl, rfl, rfl⟩
    refine sk' (S' (s' rfl rfl (q' rfl (q' rfl (n' ?_)))))
    refine ci' rfl hh (fun hh => ?_) (fun hh => ?_)
    · obtain ⟨x8, hx8, hh⟩ := bs' hh
      obtain ⟨x23, hx23, hh⟩ := bs' hh
      obtain ⟨c52, hh⟩ := O0 hh
      obtain ⟨x24, hx24, hh⟩ := bs' hh
      obtain ⟨x25, hx25, hh⟩ := bs' hh
      obtain ⟨c53, hh⟩ := O0 hh
      obtain ⟨c54, hh⟩ := O0 hh
      obtain ⟨x26, hx26, hh⟩ := bs' hh
      obtain ⟨x27, hx27, hh⟩ := bs' hh
      obtain ⟨c55, hh⟩ := O0 hh
      refine S' (AEx.draw hC 20 rfl rfl rfl (Q' rfl (Q' rfl (AQ.i hC rfl (V0 hx8) (A0.idx hx8) rfl (Q' rfl (AQ.c rfl rfl (ih2 _ _ _ hx23) (AQ.q hC rfl c52 (Q' rfl (Q' rfl (AQ.i hC rfl (V0 hx24) (A0.idx hx24) rfl (Q' rfl (AQ.c rfl rfl (ih0 _ _ hx25) (AQ.q hC rfl c53 ?_)))))))))))))
      refine AQ.q hC rfl c54 (Q' rfl (Q' rfl (AQ.i hC rfl (V0 hx26) (A0.idx hx26) rfl (Q' rfl (AQ.c rfl rfl (ih0 _ _ hx27) (AQ.q hC rfl c55 (Q' rfl (Qn' (n' (re' ?_))))))))))
      obtain rfl := oi' hh
      exact ⟨_, _, [], rfl, .rfl, trivial, rfl, rfl, rfl, rfl⟩
    obtain ⟨x9, hx9, hh⟩ := bs' hh
    refine sk' (s' rfl rfl (q' rfl (J0.c rfl rfl (Q11 hx9) (q' rfl (n' (s' rfl rfl (q' rfl (q' rfl (n' (S' (s' rfl rfl (q' rfl (q' rfl ?_)))))))))))))
    refine n' ?_
    refine ci' rfl hh (fun hh => ?_) (fun hh => ?_)
    · refine R' rfl rfl (q' rfl (n' ?_))
      refine AEx.wk ?_ (ih1 _ _ _ _ hh)
      exact ⟨⟨⟨.rfl, rfl⟩, ⟨⟨.rfl, rfl⟩, ⟨⟨.rfl, rfl⟩, ⟨⟨.rfl, rfl⟩, trivial⟩⟩⟩⟩, ⟨⟨rfl, .refl _, rfl⟩, trivial⟩, rfl⟩
    refine sk' ?_
    refine AEx.wk ?_ (ih1 _ _ _ _ hh)
    exact ⟨⟨⟨.rfl, rfl⟩, ⟨⟨.rfl, rfl⟩, ⟨⟨.rfl, rfl⟩, ⟨⟨.rfl, rfl⟩, trivial⟩⟩⟩⟩, ⟨⟨rfl, .refl _, rfl⟩, trivial⟩, rfl⟩
  · intro g2 ih2 e x9 left res hh
    obtain ⟨x10, hx10, hh⟩ := bs' hh
    obtain ⟨x28, hx28, hh⟩ := bs' hh
    obtain ⟨c56, hh⟩ := O0 hh
    obtain ⟨x29, hx29, hh⟩ := bs' hh
    obtain ⟨c57, hh⟩ := O0 hh
    obtain ⟨c58, hh⟩ := O0 hh
    obtain ⟨x30, hx30, hh⟩ := bs' hh
    obtain ⟨x31, hx31, hh⟩ := bs' hh
    obtain ⟨c59, hh⟩ := O0 hh
    refine S' (AEx.draw hC 20 rfl rfl rfl (Q' rfl (Q' rfl (AQ.i hC rfl (V0 hx10) (A0.idx hx10) rfl (Q' rfl (Q' rfl (AQ.c rfl rfl (ih2 _ _ _ hx28) (AQ.q hC rfl c56 (Q' rfl (AQ.c rfl rfl (W1d hx29) (AQ.q hC rfl c57 (AQ.q hC rfl c58 (Q' rfl ?_)))))))))))))
    refine Q' rfl (AQ.i hC rfl (V0 hx30) (A0.idx hx30) rfl (Q' rfl (Q' rfl (Q' rfl (AQ.c rfl rfl (ih2 _ _ _ hx31) (AQ.q hC rfl c59 (Q' rfl (Qn' (n' (re' ?_))))))))))
    obtain rfl := oi' hh
    exact ⟨_, _, [], rfl, .rfl, trivial, rfl, rfl, rfl, rfl⟩
  · intro g0 ih0 e required res hh
    refine R0.intro hC Tryz.func97 rfl rfl rfl ?_
    obtain ⟨x1, hx1, hh⟩ := bs' hh
    refine s' rfl rfl (J0.n hC rfl (q' rfl (n' (S' (s' rfl rfl (q' rfl (q' rfl (J0.c rfl rfl (Q11 hx1) (q' rfl (q' rfl (n' ?_)))))))))))
    refine ci' rfl hh (fun hh => ?_) (fun hh => ?_)
    · obtain ⟨x2, hx2, hh⟩ := bs' hh
      obtain ⟨c5, hh⟩ := O0 hh
      obtain ⟨c6, hh⟩ := O0 hh
      refine s' rfl rfl (q' rfl (J0.c rfl rfl (ih0 _ _ hx2) (qc' rfl c5 (qc' rfl c6 (q' rfl (n' (re' ?_)))))))
      obtain rfl := oi' hh
      exact ⟨_, _, [], rfl, .rfl, trivial, rfl, rfl, rfl, rfl⟩
    obtain ⟨x3, hx3, hh⟩ := bs' hh
    refine sk' (s' rfl rfl (q' rfl (J0.c rfl rfl (ih0 _ _ hx3) (q' rfl (n' (re' ?_))))))
    obtain rfl := oi' hh
    exact ⟨_, _, [], rfl, .rfl, trivial, rfl, rfl, rfl, rfl⟩
theorem X5 {e : A0} {res : Str} (hh : C1 e = some res) : Ps e res := (Pp).1 _ _ hh
theorem A1n {e : A0} {x9 : Int} {left : Int} {res : Str} (hh : Zd e x9 left = some res) : Ho e x9 left res := (Pp).2.1 _ _ _ _ hh
theorem S1t {e : A0} {required : Int} {res : Str} (hh : Zi e required = some res) : U10 e required res := (Pp).2.2 _ _ _ hh
def Sr (s : Str) : Option (Str × Int) :=
  if (decide (((s).length : Int) > 8192)) = true then
    some ([], 5)
  else
    some (s, 0)
abbrev X1d (s : Str) (res : Str × Int) : Prop := R0 C 45 [.d (.str s)] [] (fun x H' => H' = [] ∧ x = .tup [.d (.str res.1), .d (.int .i64 res.2)])
theorem R1b {s : Str} {res : Str × Int} (hh : Sr s = some res) : X1d s res := by
  unfold Sr at hh
  refine R0.intro hC Tryz.func45 rfl rfl rfl ?_
  refine s' rfl rfl (q' rfl (q' rfl (n' (S' (s' rfl rfl (q' rfl (q' rfl (q' rfl (n' ?_)))))))))
  refine ci' rfl hh (fun hh => ?_) (fun hh => ?_)
  · refine s' rfl rfl (q' rfl (q' rfl (n' (re' ?_))))
    obtain rfl := oi' hh
    exact ⟨_, _, [], rfl, .rfl, trivial, rfl, rfl, rfl, rfl⟩
  refine sk' (s' rfl rfl (q' rfl (q' rfl (q' rfl (n' (re' ?_))))))
  obtain rfl := oi' hh
  exact ⟨_, _, [], rfl, .rfl, trivial, rfl, rfl, rfl, rfl⟩
mutual
def E2 (t : D0) : Option Str :=
  if (t.Kind == 1) = true then
    R3 t.Low >>= fun x1 =>
    if (decide (4 + x1.length ≤ maxLen)) = true then
      if (decide (([105, 110, 116, 91] ++ x1).length + 2 ≤ maxLen)) = true then
        R3 t.High >>= fun x2 =>
        if (decide ((([105, 110, 116, 91] ++ x1) ++ [46, 46]).length + x2.length ≤ maxLen)) = true then
          if (decide (((([105, 110, 116, 91] ++ x1) ++ [46, 46]) ++ x2).length + 1 ≤ maxLen)) = true then
            some (((([105, 110, 116, 91] ++ x1) ++ [46, 46]) ++ x2) ++ [93])
          else none
        else none
      else none
    else none
  else
    if (t.Kind == 2) = true then
      R3 t.Size >>= fun x3 =>
      if (decide (6 + x3.length ≤ maxLen)) = true then
        if (decide (([97, 114, 114, 97, 121, 32] ++ x3).length + 4 ≤ maxLen)) = true then
          idx t.Of 0 >>= fun x4 =>
          E2 x4 >>= fun x7 =>
          if (decide ((([97, 114, 114, 97, 121, 32] ++ x3) ++ [32, 111, 102, 32]).length + x7.length ≤ maxLen)) = true then
            some ((([97, 114, 114, 97, 121, 32] ++ x3) ++ [32, 111, 102, 32]) ++ x7)
          else none
        else none
      else none
    else
      if (t.Kind == 4) = true then
        some t.Name
      else
        if (t.Kind == 3) = true then
          Qb t [114, 101, 99, 111, 114, 100, 32, 123] 0
        else
          some [98, 111, 111, 108]
  partial_fixpoint
def Qb (t : D0) (s : Str) (i : Int) : Option Str :=
  if (decide (i < ((t.Of).length : Int))) = true then
    if (decide (i > 0)) = true then
      if (decide (s.length + 2 ≤ maxLen)) = true then
        Ae t (s ++ [44, 32]) i
      else none
    else
      Ae t s i
  else
    if (decide (s.length + 1 ≤ maxLen)) = true then
      some (s ++ [125])
    else none
  partial_fixpoint
def Ae (t : D0) (s1 : Str) (i1 : Int) : Option Str :=
  idx t.Names i1 >>= fun x5 =>
  if (decide (s1.length + x5.length ≤ maxLen)) = true then
    if (decide ((s1 ++ x5).length + 2 ≤ maxLen)) = true then
      idx t.Of i1 >>= fun x6 =>
      E2 x6 >>= fun x8 =>
      if (decide (((s1 ++ x5) ++ [58, 32]).length + x8.length ≤ maxLen)) = true then
        Qb t (((s1 ++ x5) ++ [58, 32]) ++ x8) (IntKind.i64.wrap (i1 + 1))
      else none
    else none
  else none
  partial_fixpoint
end
abbrev Qs (t : D0) (res : Str) : Prop := R0 C 59 [.agg (D0.cells t)] [] (fun x H' => H' = [] ∧ x = .d (.str res))
abbrev Io (t : D0) (s : Str) (i : Int) (res : Str) : Prop := Q0 (Fx.mk C 68 0) (lo (bk (sr (sl (sr (ca (sr (sl (sr (sr (sr (sr (N0 Tryz.f59))))))))))))) (X0 [(1, .ref 0 0), (3, .d (.str s)), (4, .d (.int .i64 i))]) [.row (D0.cells t) 48] (Am.InBlock 0 (Am.Then (Fx.mk C 68 0) (sr (sr (ca (sr (sl (sr (sr (sr (sr (N0 Tryz.f59)))))))))) (Am.Then (Fx.mk C 68 0) (sr (sr (sr (sr (sr (N0 Tryz.f59)))))) (Am.Ends (Fx.mk C 68 0) Tryz.f59.results.toList (fun x H' => H' = [] ∧ x = .d (.str res))))))
abbrev Jo (t : D0) (s1 : Str) (i1 : Int) (res : Str) : Prop := AEx (Fx.mk C 68 0) (sr (bk (sl (sr (lo (bk (sr (sl (sr (ca (sr (sl (sr (sr (sr (sr (N0 Tryz.f59))))))))))))))))) (X0 [(1, .ref 0 0), (3, .d (.str s1)), (4, .d (.int .i64 i1))]) [.row (D0.cells t) 48] (Am.InBlock 1 (Am.Then (Fx.mk C 68 0) (sr (sr (lo (bk (sr (sl (sr (ca (sr (sl (sr (sr (sr (sr (N0 Tryz.f59))))))))))))))) (Am.Again (Fx.mk C 68 0) (lo (bk (sr (sl (sr (ca (sr (sl (sr (sr (sr (sr (N0 Tryz.f59))))))))))))) (Am.InBlock 0 (Am.Then (Fx.mk C 68 0) (sr (sr (ca (sr (sl (sr (sr (sr (sr (N0 Tryz.f59)))))))))) (Am.Then (Fx.mk C 68 0) (sr (sr (sr (sr (sr (N0 Tryz.f59)))))) (Am.Ends (Fx.mk C 68 0) Tryz.f59.results.toList (fun x H' => H' = [] ∧ x = .d (.str res)))))))))
theorem Qp : (∀ (t : D0) (res : Str), E2 t = some res → Qs t res) ∧
    (∀ (t : D0) (s : Str) (i : Int) (res : Str), Qb t s i = some res → Io t s i res) ∧
    (∀ (t : D0) (s1 : Str) (i1 : Int) (res : Str), Ae t s1 i1 = some res → Jo t s1 i1 res) := by
  refine E2.mutual_partial_correctness (fun t res => Qs t res)
    (fun t s i res => Io t s i res)
    (fun t s1 i1 res => Jo t s1 i1 res) ?_ ?_ ?_
  · intro g0 g1 ih0 ih1 t res hh
    refine R0.intro hC Tryz.func59 rfl rfl rfl ?_
    refine s' rfl rfl (J0.n hC rfl (q' rfl (n' (S' (s' rfl rfl (q' rfl (q' rfl (q' rfl (n' ?_)))))))))
    refine ci' rfl hh (fun hh => ?_) (fun hh => ?_)
    · obtain ⟨x1, hx1, hh⟩ := bs' hh
      obtain ⟨c74, hh⟩ := O0 hh
      obtain ⟨c75, hh⟩ := O0 hh
      obtain ⟨x2, hx2, hh⟩ := bs' hh
      obtain ⟨c76, hh⟩ := O0 hh
      obtain ⟨c77, hh⟩ := O0 hh
      refine S' (AEx.draw hC 11 rfl rfl rfl (Q' rfl (Q' rfl (AQ.c rfl rfl (E7 hx1) (AQ.q hC rfl c74 (AQ.q hC rfl c75 (Q' rfl (Q' rfl (AQ.c rfl rfl (E7 hx2) (AQ.q hC rfl c76 (AQ.q hC rfl c77 (Q' rfl (Qn' ?_)))))))))))))
      refine n' (re' ?_)
      obtain rfl := oi' hh
      exact ⟨_, _, [], rfl, .rfl, trivial, rfl, rfl, rfl, rfl⟩
    refine sk' (S' (s' rfl rfl (q' rfl (q' rfl (q' rfl (n' ?_))))))
    refine ci' rfl hh (fun hh => ?_) (fun hh => ?_)
    · obtain ⟨x3, hx3, hh⟩ := bs' hh
      obtain ⟨c78, hh⟩ := O0 hh
      obtain ⟨c79, hh⟩ := O0 hh
      obtain ⟨x4, hx4, hh⟩ := bs' hh
      obtain ⟨x7, hx7, hh⟩ := bs' hh
      obtain ⟨c80, hh⟩ := O0 hh
      refine S' (AEx.draw hC 12 rfl rfl rfl (Q' rfl (Q' rfl (AQ.c rfl rfl (E7 hx3) (AQ.q hC rfl c78 (AQ.q hC rfl c79 (Q' rfl (Q' rfl (AQ.i hC rfl (V0 hx4) (D0.idx hx4) rfl (Q' rfl (AQ.c rfl rfl (ih0 _ _ hx7) (AQ.q hC rfl c80 (Q' rfl ?_)))))))))))))
      refine Qn' (n' (re' ?_))
      obtain rfl := oi' hh
      exact ⟨_, _, [], rfl, .rfl, trivial, rfl, rfl, rfl, rfl⟩
    refine sk' (S' (s' rfl rfl (q' rfl (q' rfl (q' rfl (n' ?_))))))
    refine ci' rfl hh (fun hh => ?_) (fun hh => ?_)
    · refine s' rfl rfl (q' rfl (q' rfl (q' rfl (n' (re' ?_)))))
      obtain rfl := oi' hh
      exact ⟨_, _, [], rfl, .rfl, trivial, rfl, rfl, rfl, rfl⟩
    refine sk' (S' (s' rfl rfl (q' rfl (q' rfl (q' rfl (n' ?_))))))
    refine ci' rfl hh (fun hh => ?_) (fun hh => ?_)
    · refine s' rfl rfl (q' rfl (n' (S' (s' rfl rfl (q' rfl (n' (AEx.block ?_)))))))
      refine AEx.ofLoop ?_
      refine Q0.wk ?_ (ih1 _ _ _ _ hh)
      exact ⟨⟨⟨.rfl, rfl⟩, ⟨⟨.rfl, rfl⟩, ⟨⟨.rfl, rfl⟩, trivial⟩⟩⟩, ⟨⟨rfl, .refl _, rfl⟩, trivial⟩, rfl⟩
    refine sk' (s' rfl rfl (q' rfl (n' (re' ?_))))
    obtain rfl := oi' hh
    exact ⟨_, _, [], rfl, .rfl, trivial, rfl, rfl, rfl, rfl⟩
  · intro g2 ih2 t s i res hh
    refine Q0.unroll ?_
    refine S' (s' rfl rfl (q' rfl (q' rfl (q' rfl (qe' rfl trivial (D0.lenA _) (q' rfl (n' ?_)))))))
    refine ci' rfl hh (fun hh => ?_) (fun hh => ?_)
    · refine sk' (S' (AEx.block (S' (s' rfl rfl (q' rfl (q' rfl (n' ?_)))))))
      refine ci' rfl hh (fun hh => ?_) (fun hh => ?_)
      · obtain ⟨c81, hh⟩ := O0 hh
        refine R' rfl rfl (q' rfl (qc' rfl c81 (q' rfl (n' ?_))))
        refine AEx.wk ?_ (ih2 _ _ _ _ hh)
        exact ⟨⟨⟨.rfl, rfl⟩, ⟨⟨.rfl, rfl⟩, ⟨⟨.rfl, rfl⟩, trivial⟩⟩⟩, ⟨⟨rfl, .refl _, rfl⟩, trivial⟩, rfl⟩
      refine sk' ?_
      refine AEx.wk ?_ (ih2 _ _ _ _ hh)
      exact ⟨⟨⟨.rfl, rfl⟩, ⟨⟨.rfl, rfl⟩, ⟨⟨.rfl, rfl⟩, trivial⟩⟩⟩, ⟨⟨rfl, .refl _, rfl⟩, trivial⟩, rfl⟩
    obtain ⟨c82, hh⟩ := O0 hh
    refine ex' (s' rfl rfl (q' rfl (qc' rfl c82 (q' rfl (n' (re' ?_))))))
    obtain rfl := oi' hh
    exact ⟨_, _, [], rfl, .rfl, trivial, rfl, rfl, rfl, rfl⟩
  · intro g0 g1 ih0 ih1 t s1 i1 res hh
    obtain ⟨x5, hx5, hh⟩ := bs' hh
    obtain ⟨c83, hh⟩ := O0 hh
    obtain ⟨c84, hh⟩ := O0 hh
    obtain ⟨x6, hx6, hh⟩ := bs' hh
    obtain ⟨x8, hx8, hh⟩ := bs' hh
    obtain ⟨c85, hh⟩ := O0 hh
    refine AEx.draw hC 16 rfl rfl rfl (Q' rfl (Q' rfl (Q' rfl (Q' rfl (AQ.i hC rfl (V0 hx5) (estr.idx hx5) rfl (Q' rfl (AQ.q hC rfl c83 (AQ.q hC rfl c84 (Q' rfl (Q' rfl (Q' rfl (AQ.i hC rfl (V0 hx6) (D0.idx hx6) rfl (Q' rfl ?_)))))))))))))
    refine AQ.c rfl rfl (ih0 _ _ hx8) (AQ.q hC rfl c85 (Q' rfl (Qn' (n' (R' rfl rfl (q' rfl (q' rfl (q' rfl (n' ?_)))))))))
    refine Q0.wk ?_ (ih1 _ _ _ _ hh)
    exact ⟨⟨⟨.rfl, rfl⟩, ⟨⟨.rfl, rfl⟩, ⟨⟨.rfl, rfl⟩, trivial⟩⟩⟩, ⟨⟨rfl, .refl _, rfl⟩, trivial⟩, rfl⟩
theorem S8 {t : D0} {res : Str} (hh : E2 t = some res) : Qs t res := (Qp).1 _ _ hh
theorem B1n {t : D0} {s : Str} {i : Int} {res : Str} (hh : Qb t s i = some res) : Io t s i res := (Qp).2.1 _ _ _ _ hh
theorem C1n {t : D0} {s1 : Str} {i1 : Int} {res : Str} (hh : Ae t s1 i1 = some res) : Jo t s1 i1 res := (Qp).2.2 _ _ _ _ hh
def Rb (d : E0) (s : Str) : Option Str :=
  if (bif (d.Init != 0) then (d.TypeV.Kind != 0) else false) = true then
    if (decide (s.length + 3 ≤ maxLen)) = true then
      R3 d.Init >>= fun x2 =>
      if (decide ((s ++ [32, 61, 32]).length + x2.length ≤ maxLen)) = true then
        if (decide (((s ++ [32, 61, 32]) ++ x2).length + 2 ≤ maxLen)) = true then
          some (((s ++ [32, 61, 32]) ++ x2) ++ [59, 10])
        else none
      else none
    else none
  else
    if (decide (s.length + 2 ≤ maxLen)) = true then
      some (s ++ [59, 10])
    else none
abbrev R13 (d : E0) (s : Str) (res : Str) : Prop := AEx (Fx.mk C 40 0) (sr (sr (sr (N0 Tryz.f118)))) (X0 [(1, .ref 0 0), (3, .d (.str s))]) [.row (E0.cells d) 64] (Am.Ends (Fx.mk C 40 0) Tryz.f118.results.toList (fun x H' => H' = [] ∧ x = .d (.str res)))
theorem Zt {d : E0} {s : Str} {res : Str} (hh : Rb d s = some res) : R13 d s res := by
  unfold Rb at hh
  refine S' (sg' 9 rfl (a0' rfl (a0' rfl (a0' rfl (a0' rfl (a0' rfl (a1' rfl (a1' rfl (a1' rfl (pa' rfl (an' (n' ?_))))))))))))
  refine ci' rfl hh (fun hh => ?_) (fun hh => ?_)
  · obtain ⟨c41, hh⟩ := O0 hh
    obtain ⟨x2, hx2, hh⟩ := bs' hh
    obtain ⟨c42, hh⟩ := O0 hh
    obtain ⟨c43, hh⟩ := O0 hh
    refine R' rfl rfl (q' rfl (qc' rfl c41 (q' rfl (q' rfl (J0.c rfl rfl (E7 hx2) (qc' rfl c42 (q' rfl (n' (s' rfl rfl (q' rfl (qc' rfl c43 (q' rfl (n' ?_)))))))))))))
    refine re' ?_
    obtain rfl := oi' hh
    exact ⟨_, _, [], rfl, .rfl, trivial, rfl, rfl, rfl, rfl⟩
  obtain ⟨c44, hh⟩ := O0 hh
  refine sk' (s' rfl rfl (q' rfl (qc' rfl c44 (q' rfl (n' (re' ?_))))))
  obtain rfl := oi' hh
  exact ⟨_, _, [], rfl, .rfl, trivial, rfl, rfl, rfl, rfl⟩
def Ah (d : E0) : Option Str :=
  if (decide (4 + d.Name.length ≤ maxLen)) = true then
    if (decide (([118, 97, 114, 32] ++ d.Name).length + 2 ≤ maxLen)) = true then
      E2 d.TypeV >>= fun x1 =>
      if (decide ((([118, 97, 114, 32] ++ d.Name) ++ [58, 32]).length + x1.length ≤ maxLen)) = true then
        if (bif (d.Init != 0) then (d.TypeV.Kind == 0) else false) = true then
          if (decide (((([118, 97, 114, 32] ++ d.Name) ++ [58, 32]) ++ x1).length + 7 ≤ maxLen)) = true then
            Rb d (((([118, 97, 114, 32] ++ d.Name) ++ [58, 32]) ++ x1) ++ [32, 61, 32, 116, 114, 117, 101])
          else none
        else
          Rb d ((([118, 97, 114, 32] ++ d.Name) ++ [58, 32]) ++ x1)
      else none
    else none
  else none
abbrev H18 (d : E0) (res : Str) : Prop := R0 C 118 [.agg (E0.cells d)] [] (fun x H' => H' = [] ∧ x = .d (.str res))
theorem Vx {d : E0} {res : Str} (hh : Ah d = some res) : H18 d res := by
  unfold Ah at hh
  refine R0.intro hC Tryz.func118 rfl rfl rfl ?_
  obtain ⟨c37, hh⟩ := O0 hh
  obtain ⟨c38, hh⟩ := O0 hh
  obtain ⟨x1, hx1, hh⟩ := bs' hh
  obtain ⟨c39, hh⟩ := O0 hh
  refine s' rfl rfl (J0.n hC rfl (q' rfl (n' (S' (AEx.draw hC 9 rfl rfl rfl (Q' rfl (Q' rfl (AQ.q hC rfl c37 (AQ.q hC rfl c38 (Q' rfl (Q' rfl (AQ.c rfl rfl (S8 hx1) (AQ.q hC rfl c39 ?_)))))))))))))
  refine Q' rfl (Qn' (n' (S' (sg' 9 rfl (a0' rfl (a0' rfl (a0' rfl (a0' rfl (a0' rfl (a1' rfl (a1' rfl (a1' rfl (pa' rfl ?_)))))))))))))
  refine an' (n' ?_)
  refine ci' rfl hh (fun hh => ?_) (fun hh => ?_)
  · obtain ⟨c40, hh⟩ := O0 hh
    refine R' rfl rfl (q' rfl (qc' rfl c40 (q' rfl (n' ?_))))
    refine AEx.wk ?_ (Zt hh)
    exact ⟨⟨⟨.rfl, rfl⟩, ⟨⟨.rfl, rfl⟩, trivial⟩⟩, ⟨⟨rfl, .refl _, rfl⟩, trivial⟩, rfl⟩
  refine sk' ?_
  refine AEx.wk ?_ (Zt hh)
  exact ⟨⟨⟨.rfl, rfl⟩, ⟨⟨.rfl, rfl⟩, trivial⟩⟩, ⟨⟨rfl, .refl _, rfl⟩, trivial⟩, rfl⟩
mutual
def Ed (l : List A0) (s : Str) (i : Int) : Option Str :=
  if (decide (i < ((l).length : Int))) = true then
    if (decide (i > 0)) = true then
      if (decide (s.length + 2 ≤ maxLen)) = true then
        Bh l (s ++ [44, 32]) i
      else none
    else
      Bh l s i
  else
    some s
  partial_fixpoint
def Bh (l : List A0) (s1 : Str) (i1 : Int) : Option Str :=
  idx l i1 >>= fun x1 =>
  C1 x1 >>= fun x2 =>
  if (decide (s1.length + x2.length ≤ maxLen)) = true then
    Ed l (s1 ++ x2) (IntKind.i64.wrap (i1 + 1))
  else none
  partial_fixpoint
end
abbrev Rs (l : List A0) (s : Str) (i : Int) (res : Str) : Prop := Q0 (Fx.mk C 23 0) (lo (bk (sr (sl (sr (sr (N0 Tryz.f157))))))) (X0 [(0, .d (.sl (A0.rows l))), (3, .d (.str s)), (4, .d (.int .i64 i))]) [] (Am.InBlock 0 (Am.Then (Fx.mk C 23 0) (sr (sr (sr (N0 Tryz.f157)))) (Am.Ends (Fx.mk C 23 0) Tryz.f157.results.toList (fun x H' => H' = [] ∧ x = .d (.str res)))))
abbrev Ss (l : List A0) (s1 : Str) (i1 : Int) (res : Str) : Prop := AEx (Fx.mk C 23 0) (sr (bk (sl (sr (lo (bk (sr (sl (sr (sr (N0 Tryz.f157))))))))))) (X0 [(0, .d (.sl (A0.rows l))), (3, .d (.str s1)), (4, .d (.int .i64 i1))]) [] (Am.InBlock 1 (Am.Then (Fx.mk C 23 0) (sr (sr (lo (bk (sr (sl (sr (sr (N0 Tryz.f157))))))))) (Am.Again (Fx.mk C 23 0) (lo (bk (sr (sl (sr (sr (N0 Tryz.f157))))))) (Am.InBlock 0 (Am.Then (Fx.mk C 23 0) (sr (sr (sr (N0 Tryz.f157)))) (Am.Ends (Fx.mk C 23 0) Tryz.f157.results.toList (fun x H' => H' = [] ∧ x = .d (.str res))))))))
theorem Dx (l : List A0) : (∀ (s : Str) (i : Int) (res : Str), Ed l s i = some res → Rs l s i res) ∧
    (∀ (s1 : Str) (i1 : Int) (res : Str), Bh l s1 i1 = some res → Ss l s1 i1 res) := by
  refine Ed.mutual_partial_correctness l
    (fun s i res => Rs l s i res)
    (fun s1 i1 res => Ss l s1 i1 res) ?_ ?_
  · intro g1 ih1 s i res hh
    refine Q0.unroll ?_
    refine S' (s' rfl rfl (q' rfl (q' rfl (qe' rfl trivial (A0.lenA _) (q' rfl (n' ?_))))))
    refine ci' rfl hh (fun hh => ?_) (fun hh => ?_)
    · refine sk' (S' (AEx.block (S' (s' rfl rfl (q' rfl (q' rfl (n' ?_)))))))
      refine ci' rfl hh (fun hh => ?_) (fun hh => ?_)
      · obtain ⟨c12, hh⟩ := O0 hh
        refine R' rfl rfl (q' rfl (qc' rfl c12 (q' rfl (n' ?_))))
        refine AEx.wk ?_ (ih1 _ _ _ hh)
        exact ⟨⟨⟨.rfl, rfl⟩, ⟨⟨.rfl, rfl⟩, ⟨⟨.rfl, rfl⟩, trivial⟩⟩⟩, trivial, rfl⟩
      refine sk' ?_
      refine AEx.wk ?_ (ih1 _ _ _ hh)
      exact ⟨⟨⟨.rfl, rfl⟩, ⟨⟨.rfl, rfl⟩, ⟨⟨.rfl, rfl⟩, trivial⟩⟩⟩, trivial, rfl⟩
    refine ex' (s' rfl rfl (q' rfl (q' rfl (n' (re' ?_)))))
    obtain rfl := oi' hh
    exact ⟨_, _, [], rfl, .rfl, trivial, rfl, rfl, rfl, rfl⟩
  · intro g0 ih0 s1 i1 res hh
    obtain ⟨x1, hx1, hh⟩ := bs' hh
    obtain ⟨x2, hx2, hh⟩ := bs' hh
    obtain ⟨c13, hh⟩ := O0 hh
    refine R' rfl rfl (q' rfl (q' rfl (q' rfl (i' rfl (V0 hx1) (A0.idx hx1) rfl (q' rfl (J0.c rfl rfl (X5 hx2) (qc' rfl c13 (q' rfl (n' (R' rfl rfl (q' rfl (q' rfl (q' rfl ?_)))))))))))))
    refine n' ?_
    refine Q0.wk ?_ (ih0 _ _ _ hh)
    exact ⟨⟨⟨.rfl, rfl⟩, ⟨⟨.rfl, rfl⟩, ⟨⟨.rfl, rfl⟩, trivial⟩⟩⟩, trivial, rfl⟩
theorem W16 {l : List A0} {s : Str} {i : Int} {res : Str} (hh : Ed l s i = some res) : Rs l s i res := (Dx l).1 _ _ _ hh
theorem C1q {l : List A0} {s1 : Str} {i1 : Int} {res : Str} (hh : Bh l s1 i1 = some res) : Ss l s1 i1 res := (Dx l).2 _ _ _ hh
end Go.Proofs.YtmilgoloagbmpaaGreatDoor

