/- A part of the proof of SyntaxPrint. -/
import Derived.Test.YtmilgoloagbmpaaGreatDoorDgB
import Derived.Test.YtmilgoloagbmpaaGreatDoorAmB
set_option maxRecDepth 100000
set_option maxHeartbeats 4000000
set_option linter.unusedVariables false
namespace Go.Proofs.YtmilgoloagbmpaaGreatDoor
open Go.Am
def Tr (l : List A0) : Option Str :=
  Ed l [] 0
abbrev Y1d (l : List A0) (res : Str) : Prop := R0 C 157 [.d (.sl (A0.rows l))] [] (fun x H' => H' = [] ∧ x = .d (.str res))
theorem S1b {l : List A0} {res : Str} (hh : Tr l = some res) : Y1d l res := by
  unfold Tr at hh
  refine R0.intro hC Tryz.func157 rfl rfl rfl ?_
  refine s' rfl rfl (q' rfl (n' (s' rfl rfl (q' rfl (n' (S' (s' rfl rfl (q' rfl (n' (AEx.block ?_))))))))))
  refine AEx.ofLoop ?_
  refine Q0.wk ?_ (W16 hh)
  exact ⟨⟨⟨.rfl, rfl⟩, ⟨⟨.rfl, rfl⟩, ⟨⟨.rfl, rfl⟩, trivial⟩⟩⟩, trivial, rfl⟩
mutual
def Ic (l : List B0) (margin : Str) : Option Str :=
  H3 l margin [] 0
  partial_fixpoint
def H3 (l : List B0) (margin : Str) (out9 : Str) (i : Int) : Option Str :=
  if (decide (i < ((l).length : Int))) = true then
    idx l i >>= fun x1 =>
    if (decide (out9.length + margin.length ≤ maxLen)) = true then
      if (x1.Verb == 0) = true then
        C1 x1.Place >>= fun x2 =>
        if (decide ((out9 ++ margin).length + x2.length ≤ maxLen)) = true then
          if (decide (((out9 ++ margin) ++ x2).length + 3 ≤ maxLen)) = true then
            C1 x1.Value >>= fun x3 =>
            if (decide ((((out9 ++ margin) ++ x2) ++ [32, 61, 32]).length + x3.length ≤ maxLen)) = true then
              if (decide (((((out9 ++ margin) ++ x2) ++ [32, 61, 32]) ++ x3).length + 2 ≤ maxLen)) = true then
                J5 l margin x1 (((((out9 ++ margin) ++ x2) ++ [32, 61, 32]) ++ x3) ++ [59, 10]) i
              else none
            else none
          else none
        else none
      else
        J5 l margin x1 (out9 ++ margin) i
    else none
  else
    some out9
  partial_fixpoint
def J5 (l : List B0) (margin : Str) (x1 : B0) (out : Str) (i1 : Int) : Option Str :=
  if (x1.Verb == 1) = true then
    C1 x1.Place >>= fun x4 =>
    if (decide (out.length + x4.length ≤ maxLen)) = true then
      if (decide ((out ++ x4).length + 8 ≤ maxLen)) = true then
        if (decide (((out ++ x4) ++ [32, 61, 32, 99, 97, 108, 108, 32]).length + x1.Name.length ≤ maxLen)) = true then
          if (decide ((((out ++ x4) ++ [32, 61, 32, 99, 97, 108, 108, 32]) ++ x1.Name).length + 1 ≤ maxLen)) = true then
            Tr x1.Args >>= fun x5 =>
            if (decide (((((out ++ x4) ++ [32, 61, 32, 99, 97, 108, 108, 32]) ++ x1.Name) ++ [40]).length + x5.length ≤ maxLen)) = true then
              if (decide ((((((out ++ x4) ++ [32, 61, 32, 99, 97, 108, 108, 32]) ++ x1.Name) ++ [40]) ++ x5).length + 3 ≤ maxLen)) = true then
                K5 l margin x1 ((((((out ++ x4) ++ [32, 61, 32, 99, 97, 108, 108, 32]) ++ x1.Name) ++ [40]) ++ x5) ++ [41, 59, 10]) i1
              else none
            else none
          else none
        else none
      else none
    else none
  else
    K5 l margin x1 out i1
  partial_fixpoint
def K5 (l : List B0) (margin : Str) (x1 : B0) (out1 : Str) (i2 : Int) : Option Str :=
  if (x1.Verb == 2) = true then
    C1 x1.Place >>= fun x6 =>
    if (decide (out1.length + x6.length ≤ maxLen)) = true then
      if (decide ((out1 ++ x6).length + 11 ≤ maxLen)) = true then
        if (decide (((out1 ++ x6) ++ [32, 61, 32, 114, 101, 108, 101, 97, 115, 101, 32]).length + x1.Name.length ≤ maxLen)) = true then
          if (decide ((((out1 ++ x6) ++ [32, 61, 32, 114, 101, 108, 101, 97, 115, 101, 32]) ++ x1.Name).length + 2 ≤ maxLen)) = true then
            L5 l margin x1 ((((out1 ++ x6) ++ [32, 61, 32, 114, 101, 108, 101, 97, 115, 101, 32]) ++ x1.Name) ++ [59, 10]) i2
          else none
        else none
      else none
    else none
  else
    L5 l margin x1 out1 i2
  partial_fixpoint
def L5 (l : List B0) (margin : Str) (x1 : B0) (out2 : Str) (i3 : Int) : Option Str :=
  if (x1.Verb == 3) = true then
    if (decide (out2.length + 7 ≤ maxLen)) = true then
      C1 x1.Value >>= fun x7 =>
      if (decide ((out2 ++ [111, 117, 116, 112, 117, 116, 32]).length + x7.length ≤ maxLen)) = true then
        if (decide (((out2 ++ [111, 117, 116, 112, 117, 116, 32]) ++ x7).length + 2 ≤ maxLen)) = true then
          M5 l margin x1 (((out2 ++ [111, 117, 116, 112, 117, 116, 32]) ++ x7) ++ [59, 10]) i3
        else none
      else none
    else none
  else
    M5 l margin x1 out2 i3
  partial_fixpoint
def M5 (l : List B0) (margin : Str) (x1 : B0) (out3 : Str) (i4 : Int) : Option Str :=
  if (x1.Verb == 4) = true then
    if (decide (out3.length + 5 ≤ maxLen)) = true then
      R3 x1.NV >>= fun x8 =>
      if (decide ((out3 ++ [119, 97, 105, 116, 32]).length + x8.length ≤ maxLen)) = true then
        if (decide (((out3 ++ [119, 97, 105, 116, 32]) ++ x8).length + 2 ≤ maxLen)) = true then
          N5 l margin x1 (((out3 ++ [119, 97, 105, 116, 32]) ++ x8) ++ [59, 10]) i4
        else none
      else none
    else none
  else
    N5 l margin x1 out3 i4
  partial_fixpoint
def N5 (l : List B0) (margin : Str) (x1 : B0) (out4 : Str) (i5 : Int) : Option Str :=
  if (x1.Verb == 5) = true then
    if (decide (out4.length + 3 ≤ maxLen)) = true then
      C1 x1.Value >>= fun x9 =>
      if (decide ((out4 ++ [105, 102, 32]).length + x9.length ≤ maxLen)) = true then
        if (decide (((out4 ++ [105, 102, 32]) ++ x9).length + 3 ≤ maxLen)) = true then
          if (decide (margin.length + 1 ≤ maxLen)) = true then
            Ic x1.Then (margin ++ [9]) >>= fun x16 =>
            if (decide ((((out4 ++ [105, 102, 32]) ++ x9) ++ [32, 123, 10]).length + x16.length ≤ maxLen)) = true then
              if (decide (((((out4 ++ [105, 102, 32]) ++ x9) ++ [32, 123, 10]) ++ x16).length + margin.length ≤ maxLen)) = true then
                if (decide ((((((out4 ++ [105, 102, 32]) ++ x9) ++ [32, 123, 10]) ++ x16) ++ margin).length + 1 ≤ maxLen)) = true then
                  if (decide (((x1.Else).length : Int) > 0)) = true then
                    if (decide (((((((out4 ++ [105, 102, 32]) ++ x9) ++ [32, 123, 10]) ++ x16) ++ margin) ++ [125]).length + 8 ≤ maxLen)) = true then
                      if (decide (margin.length + 1 ≤ maxLen)) = true then
                        Ic x1.Else (margin ++ [9]) >>= fun x17 =>
                        if (decide ((((((((out4 ++ [105, 102, 32]) ++ x9) ++ [32, 123, 10]) ++ x16) ++ margin) ++ [125]) ++ [32, 101, 108, 115, 101, 32, 123, 10]).length + x17.length ≤ maxLen)) = true then
                          if (decide (((((((((out4 ++ [105, 102, 32]) ++ x9) ++ [32, 123, 10]) ++ x16) ++ margin) ++ [125]) ++ [32, 101, 108, 115, 101, 32, 123, 10]) ++ x17).length + margin.length ≤ maxLen)) = true then
                            if (decide ((((((((((out4 ++ [105, 102, 32]) ++ x9) ++ [32, 123, 10]) ++ x16) ++ margin) ++ [125]) ++ [32, 101, 108, 115, 101, 32, 123, 10]) ++ x17) ++ margin).length + 1 ≤ maxLen)) = true then
                              Ch l margin x1 ((((((((((out4 ++ [105, 102, 32]) ++ x9) ++ [32, 123, 10]) ++ x16) ++ margin) ++ [125]) ++ [32, 101, 108, 115, 101, 32, 123, 10]) ++ x17) ++ margin) ++ [125]) i5
                            else none
                          else none
                        else none
                      else none
                    else none
                  else
                    Ch l margin x1 ((((((out4 ++ [105, 102, 32]) ++ x9) ++ [32, 123, 10]) ++ x16) ++ margin) ++ [125]) i5
                else none
              else none
            else none
          else none
        else none
      else none
    else none
  else
    V4 l margin x1 out4 i5
  partial_fixpoint
def V4 (l : List B0) (margin : Str) (x1 : B0) (out6 : Str) (i7 : Int) : Option Str :=
  if (x1.Verb == 6) = true then
    if (decide (out6.length + 6 ≤ maxLen)) = true then
      C1 x1.Value >>= fun x10 =>
      if (decide ((out6 ++ [119, 104, 105, 108, 101, 32]).length + x10.length ≤ maxLen)) = true then
        if (decide (((out6 ++ [119, 104, 105, 108, 101, 32]) ++ x10).length + 7 ≤ maxLen)) = true then
          R3 x1.NV >>= fun x11 =>
          if (decide ((((out6 ++ [119, 104, 105, 108, 101, 32]) ++ x10) ++ [32, 108, 105, 109, 105, 116, 32]).length + x11.length ≤ maxLen)) = true then
            if (decide (((((out6 ++ [119, 104, 105, 108, 101, 32]) ++ x10) ++ [32, 108, 105, 109, 105, 116, 32]) ++ x11).length + 3 ≤ maxLen)) = true then
              if (decide (margin.length + 1 ≤ maxLen)) = true then
                Ic x1.Then (margin ++ [9]) >>= fun x18 =>
                if (decide ((((((out6 ++ [119, 104, 105, 108, 101, 32]) ++ x10) ++ [32, 108, 105, 109, 105, 116, 32]) ++ x11) ++ [32, 123, 10]).length + x18.length ≤ maxLen)) = true then
                  if (decide (((((((out6 ++ [119, 104, 105, 108, 101, 32]) ++ x10) ++ [32, 108, 105, 109, 105, 116, 32]) ++ x11) ++ [32, 123, 10]) ++ x18).length + margin.length ≤ maxLen)) = true then
                    if (decide ((((((((out6 ++ [119, 104, 105, 108, 101, 32]) ++ x10) ++ [32, 108, 105, 109, 105, 116, 32]) ++ x11) ++ [32, 123, 10]) ++ x18) ++ margin).length + 2 ≤ maxLen)) = true then
                      W4 l margin x1 ((((((((out6 ++ [119, 104, 105, 108, 101, 32]) ++ x10) ++ [32, 108, 105, 109, 105, 116, 32]) ++ x11) ++ [32, 123, 10]) ++ x18) ++ margin) ++ [125, 10]) i7
                    else none
                  else none
                else none
              else none
            else none
          else none
        else none
      else none
    else none
  else
    W4 l margin x1 out6 i7
  partial_fixpoint
def W4 (l : List B0) (margin : Str) (x1 : B0) (out7 : Str) (i8 : Int) : Option Str :=
  if (x1.Verb == 7) = true then
    if (decide (out7.length + 4 ≤ maxLen)) = true then
      if (decide ((out7 ++ [102, 111, 114, 32]).length + x1.Name.length ≤ maxLen)) = true then
        if (decide (((out7 ++ [102, 111, 114, 32]) ++ x1.Name).length + 3 ≤ maxLen)) = true then
          R3 x1.Low >>= fun x12 =>
          if (decide ((((out7 ++ [102, 111, 114, 32]) ++ x1.Name) ++ [32, 61, 32]).length + x12.length ≤ maxLen)) = true then
            if (decide (((((out7 ++ [102, 111, 114, 32]) ++ x1.Name) ++ [32, 61, 32]) ++ x12).length + 4 ≤ maxLen)) = true then
              R3 x1.High >>= fun x13 =>
              if (decide ((((((out7 ++ [102, 111, 114, 32]) ++ x1.Name) ++ [32, 61, 32]) ++ x12) ++ [32, 116, 111, 32]).length + x13.length ≤ maxLen)) = true then
                if (decide (((((((out7 ++ [102, 111, 114, 32]) ++ x1.Name) ++ [32, 61, 32]) ++ x12) ++ [32, 116, 111, 32]) ++ x13).length + 3 ≤ maxLen)) = true then
                  if (decide (margin.length + 1 ≤ maxLen)) = true then
                    Ic x1.Then (margin ++ [9]) >>= fun x19 =>
                    if (decide ((((((((out7 ++ [102, 111, 114, 32]) ++ x1.Name) ++ [32, 61, 32]) ++ x12) ++ [32, 116, 111, 32]) ++ x13) ++ [32, 123, 10]).length + x19.length ≤ maxLen)) = true then
                      if (decide (((((((((out7 ++ [102, 111, 114, 32]) ++ x1.Name) ++ [32, 61, 32]) ++ x12) ++ [32, 116, 111, 32]) ++ x13) ++ [32, 123, 10]) ++ x19).length + margin.length ≤ maxLen)) = true then
                        if (decide ((((((((((out7 ++ [102, 111, 114, 32]) ++ x1.Name) ++ [32, 61, 32]) ++ x12) ++ [32, 116, 111, 32]) ++ x13) ++ [32, 123, 10]) ++ x19) ++ margin).length + 2 ≤ maxLen)) = true then
                          B4 l margin x1 ((((((((((out7 ++ [102, 111, 114, 32]) ++ x1.Name) ++ [32, 61, 32]) ++ x12) ++ [32, 116, 111, 32]) ++ x13) ++ [32, 123, 10]) ++ x19) ++ margin) ++ [125, 10]) i8
                        else none
                      else none
                    else none
                  else none
                else none
              else none
            else none
          else none
        else none
      else none
    else none
  else
    B4 l margin x1 out7 i8
  partial_fixpoint
def B4 (l : List B0) (margin : Str) (x1 : B0) (out8 : Str) (i9 : Int) : Option Str :=
  if (x1.Verb == 8) = true then
    if (decide (out8.length + 7 ≤ maxLen)) = true then
      Pd l margin x1 (out8 ++ [115, 101, 116, 116, 108, 101, 32]) i9 0
    else none
  else
    H3 l margin out8 (IntKind.i64.wrap (i9 + 1))
  partial_fixpoint
def Pd (l : List B0) (margin : Str) (x1 : B0) (out10 : Str) (i10 : Int) (k : Int) : Option Str :=
  if (decide (k < ((x1.Numbers).length : Int))) = true then
    if (decide (k > 0)) = true then
      if (decide (out10.length + 2 ≤ maxLen)) = true then
        Wf l margin x1 (out10 ++ [44, 32]) i10 k
      else none
    else
      Wf l margin x1 out10 i10 k
  else
    if (decide (out10.length + 2 ≤ maxLen)) = true then
      H3 l margin (out10 ++ [59, 10]) (IntKind.i64.wrap (i10 + 1))
    else none
  partial_fixpoint
def Wf (l : List B0) (margin : Str) (x1 : B0) (out11 : Str) (i10 : Int) (k1 : Int) : Option Str :=
  idx x1.Numbers k1 >>= fun x14 =>
  R3 x14 >>= fun x15 =>
  if (decide (out11.length + x15.length ≤ maxLen)) = true then
    Pd l margin x1 (out11 ++ x15) i10 (IntKind.i64.wrap (k1 + 1))
  else none
  partial_fixpoint
def Ch (l : List B0) (margin : Str) (x1 : B0) (out5 : Str) (i6 : Int) : Option Str :=
  if (decide (out5.length + 1 ≤ maxLen)) = true then
    V4 l margin x1 (out5 ++ [10]) i6
  else none
  partial_fixpoint
end
abbrev Ox (l : List B0) (margin : Str) (res : Str) : Prop := R0 C 120 [.d (.sl (B0.rows l)), .d (.str margin)] [] (fun x H' => H' = [] ∧ x = .d (.str res))
abbrev Ts (l : List B0) (margin : Str) (out9 : Str) (i : Int) (res : Str) : Prop := Q0 (Fx.mk C 202 0) (lo (bk (sr (sl (sr (sr (N0 Tryz.f120))))))) (X0 [(0, .d (.sl (B0.rows l))), (1, .d (.str margin)), (5, .d (.str out9)), (6, .d (.int .i64 i))]) [] (Am.InBlock 0 (Am.Then (Fx.mk C 202 0) (sr (sr (sr (N0 Tryz.f120)))) (Am.Ends (Fx.mk C 202 0) Tryz.f120.results.toList (fun x H' => H' = [] ∧ x = .d (.str res)))))
abbrev Us (l : List B0) (margin : Str) (x1 : B0) (out : Str) (i1 : Int) (res : Str) : Prop := AEx (Fx.mk C 202 0) (sr (sr (sr (bk (sl (sr (lo (bk (sr (sl (sr (sr (N0 Tryz.f120))))))))))))) (X0 [(0, .d (.sl (B0.rows l))), (1, .d (.str margin)), (5, .d (.str out)), (6, .d (.int .i64 i1)), (7, .ref 0 0)]) [.row (B0.cells x1) 68] (Am.InBlock 1 (Am.Then (Fx.mk C 202 0) (sr (sr (lo (bk (sr (sl (sr (sr (N0 Tryz.f120))))))))) (Am.Again (Fx.mk C 202 0) (lo (bk (sr (sl (sr (sr (N0 Tryz.f120))))))) (Am.InBlock 0 (Am.Then (Fx.mk C 202 0) (sr (sr (sr (N0 Tryz.f120)))) (Am.Ends (Fx.mk C 202 0) Tryz.f120.results.toList (fun x H' => H' = [] ∧ x = .d (.str res))))))))
abbrev Vs (l : List B0) (margin : Str) (x1 : B0) (out1 : Str) (i2 : Int) (res : Str) : Prop := AEx (Fx.mk C 202 0) (sr (sr (sr (sr (bk (sl (sr (lo (bk (sr (sl (sr (sr (N0 Tryz.f120)))))))))))))) (X0 [(0, .d (.sl (B0.rows l))), (1, .d (.str margin)), (5, .d (.str out1)), (6, .d (.int .i64 i2)), (7, .ref 0 0)]) [.row (B0.cells x1) 68] (Am.InBlock 1 (Am.Then (Fx.mk C 202 0) (sr (sr (lo (bk (sr (sl (sr (sr (N0 Tryz.f120))))))))) (Am.Again (Fx.mk C 202 0) (lo (bk (sr (sl (sr (sr (N0 Tryz.f120))))))) (Am.InBlock 0 (Am.Then (Fx.mk C 202 0) (sr (sr (sr (N0 Tryz.f120)))) (Am.Ends (Fx.mk C 202 0) Tryz.f120.results.toList (fun x H' => H' = [] ∧ x = .d (.str res))))))))
abbrev Ws (l : List B0) (margin : Str) (x1 : B0) (out2 : Str) (i3 : Int) (res : Str) : Prop := AEx (Fx.mk C 202 0) (sr (sr (sr (sr (sr (bk (sl (sr (lo (bk (sr (sl (sr (sr (N0 Tryz.f120))))))))))))))) (X0 [(0, .d (.sl (B0.rows l))), (1, .d (.str margin)), (5, .d (.str out2)), (6, .d (.int .i64 i3)), (7, .ref 0 0)]) [.row (B0.cells x1) 68] (Am.InBlock 1 (Am.Then (Fx.mk C 202 0) (sr (sr (lo (bk (sr (sl (sr (sr (N0 Tryz.f120))))))))) (Am.Again (Fx.mk C 202 0) (lo (bk (sr (sl (sr (sr (N0 Tryz.f120))))))) (Am.InBlock 0 (Am.Then (Fx.mk C 202 0) (sr (sr (sr (N0 Tryz.f120)))) (Am.Ends (Fx.mk C 202 0) Tryz.f120.results.toList (fun x H' => H' = [] ∧ x = .d (.str res))))))))
abbrev Xs (l : List B0) (margin : Str) (x1 : B0) (out3 : Str) (i4 : Int) (res : Str) : Prop := AEx (Fx.mk C 202 0) (sr (sr (sr (sr (sr (sr (bk (sl (sr (lo (bk (sr (sl (sr (sr (N0 Tryz.f120)))))))))))))))) (X0 [(0, .d (.sl (B0.rows l))), (1, .d (.str margin)), (5, .d (.str out3)), (6, .d (.int .i64 i4)), (7, .ref 0 0)]) [.row (B0.cells x1) 68] (Am.InBlock 1 (Am.Then (Fx.mk C 202 0) (sr (sr (lo (bk (sr (sl (sr (sr (N0 Tryz.f120))))))))) (Am.Again (Fx.mk C 202 0) (lo (bk (sr (sl (sr (sr (N0 Tryz.f120))))))) (Am.InBlock 0 (Am.Then (Fx.mk C 202 0) (sr (sr (sr (N0 Tryz.f120)))) (Am.Ends (Fx.mk C 202 0) Tryz.f120.results.toList (fun x H' => H' = [] ∧ x = .d (.str res))))))))
abbrev Ys (l : List B0) (margin : Str) (x1 : B0) (out4 : Str) (i5 : Int) (res : Str) : Prop := AEx (Fx.mk C 202 0) (sr (sr (sr (sr (sr (sr (sr (bk (sl (sr (lo (bk (sr (sl (sr (sr (N0 Tryz.f120))))))))))))))))) (X0 [(0, .d (.sl (B0.rows l))), (1, .d (.str margin)), (5, .d (.str out4)), (6, .d (.int .i64 i5)), (7, .ref 0 0)]) [.row (B0.cells x1) 68] (Am.InBlock 1 (Am.Then (Fx.mk C 202 0) (sr (sr (lo (bk (sr (sl (sr (sr (N0 Tryz.f120))))))))) (Am.Again (Fx.mk C 202 0) (lo (bk (sr (sl (sr (sr (N0 Tryz.f120))))))) (Am.InBlock 0 (Am.Then (Fx.mk C 202 0) (sr (sr (sr (N0 Tryz.f120)))) (Am.Ends (Fx.mk C 202 0) Tryz.f120.results.toList (fun x H' => H' = [] ∧ x = .d (.str res))))))))
abbrev Zs (l : List B0) (margin : Str) (x1 : B0) (out6 : Str) (i7 : Int) (res : Str) : Prop := AEx (Fx.mk C 202 0) (sr (sr (sr (sr (sr (sr (sr (sr (bk (sl (sr (lo (bk (sr (sl (sr (sr (N0 Tryz.f120)))))))))))))))))) (X0 [(0, .d (.sl (B0.rows l))), (1, .d (.str margin)), (5, .d (.str out6)), (6, .d (.int .i64 i7)), (7, .ref 0 0)]) [.row (B0.cells x1) 68] (Am.InBlock 1 (Am.Then (Fx.mk C 202 0) (sr (sr (lo (bk (sr (sl (sr (sr (N0 Tryz.f120))))))))) (Am.Again (Fx.mk C 202 0) (lo (bk (sr (sl (sr (sr (N0 Tryz.f120))))))) (Am.InBlock 0 (Am.Then (Fx.mk C 202 0) (sr (sr (sr (N0 Tryz.f120)))) (Am.Ends (Fx.mk C 202 0) Tryz.f120.results.toList (fun x H' => H' = [] ∧ x = .d (.str res))))))))
abbrev At (l : List B0) (margin : Str) (x1 : B0) (out7 : Str) (i8 : Int) (res : Str) : Prop := AEx (Fx.mk C 202 0) (sr (sr (sr (sr (sr (sr (sr (sr (sr (bk (sl (sr (lo (bk (sr (sl (sr (sr (N0 Tryz.f120))))))))))))))))))) (X0 [(0, .d (.sl (B0.rows l))), (1, .d (.str margin)), (5, .d (.str out7)), (6, .d (.int .i64 i8)), (7, .ref 0 0)]) [.row (B0.cells x1) 68] (Am.InBlock 1 (Am.Then (Fx.mk C 202 0) (sr (sr (lo (bk (sr (sl (sr (sr (N0 Tryz.f120))))))))) (Am.Again (Fx.mk C 202 0) (lo (bk (sr (sl (sr (sr (N0 Tryz.f120))))))) (Am.InBlock 0 (Am.Then (Fx.mk C 202 0) (sr (sr (sr (N0 Tryz.f120)))) (Am.Ends (Fx.mk C 202 0) Tryz.f120.results.toList (fun x H' => H' = [] ∧ x = .d (.str res))))))))
abbrev Br (l : List B0) (margin : Str) (x1 : B0) (out8 : Str) (i9 : Int) (res : Str) : Prop := AEx (Fx.mk C 202 0) (sr (sr (sr (sr (sr (sr (sr (sr (sr (sr (bk (sl (sr (lo (bk (sr (sl (sr (sr (N0 Tryz.f120)))))))))))))))))))) (X0 [(0, .d (.sl (B0.rows l))), (1, .d (.str margin)), (5, .d (.str out8)), (6, .d (.int .i64 i9)), (7, .ref 0 0)]) [.row (B0.cells x1) 68] (Am.InBlock 1 (Am.Then (Fx.mk C 202 0) (sr (sr (lo (bk (sr (sl (sr (sr (N0 Tryz.f120))))))))) (Am.Again (Fx.mk C 202 0) (lo (bk (sr (sl (sr (sr (N0 Tryz.f120))))))) (Am.InBlock 0 (Am.Then (Fx.mk C 202 0) (sr (sr (sr (N0 Tryz.f120)))) (Am.Ends (Fx.mk C 202 0) Tryz.f120.results.toList (fun x H' => H' = [] ∧ x = .d (.str res))))))))
abbrev Cr (l : List B0) (margin : Str) (x1 : B0) (out10 : Str) (i10 : Int) (k : Int) (res : Str) : Prop := Q0 (Fx.mk C 202 0) (lo (bk (sr (sl (sr (ca (sr (sr (sr (sr (sr (sr (sr (sr (sr (sr (sr (bk (sl (sr (lo (bk (sr (sl (sr (sr (N0 Tryz.f120))))))))))))))))))))))))))) (X0 [(0, .d (.sl (B0.rows l))), (1, .d (.str margin)), (5, .d (.str out10)), (6, .d (.int .i64 i10)), (7, .ref 0 0), (8, .d (.int .i64 k))]) [.row (B0.cells x1) 68] (Am.InBlock 2 (Am.Then (Fx.mk C 202 0) (sr (sr (ca (sr (sr (sr (sr (sr (sr (sr (sr (sr (sr (sr (bk (sl (sr (lo (bk (sr (sl (sr (sr (N0 Tryz.f120)))))))))))))))))))))))) (Am.InBlock 1 (Am.Then (Fx.mk C 202 0) (sr (sr (lo (bk (sr (sl (sr (sr (N0 Tryz.f120))))))))) (Am.Again (Fx.mk C 202 0) (lo (bk (sr (sl (sr (sr (N0 Tryz.f120))))))) (Am.InBlock 0 (Am.Then (Fx.mk C 202 0) (sr (sr (sr (N0 Tryz.f120)))) (Am.Ends (Fx.mk C 202 0) Tryz.f120.results.toList (fun x H' => H' = [] ∧ x = .d (.str res))))))))))
abbrev Dr (l : List B0) (margin : Str) (x1 : B0) (out11 : Str) (i10 : Int) (k1 : Int) (res : Str) : Prop := AEx (Fx.mk C 202 0) (sr (bk (sl (sr (lo (bk (sr (sl (sr (ca (sr (sr (sr (sr (sr (sr (sr (sr (sr (sr (sr (bk (sl (sr (lo (bk (sr (sl (sr (sr (N0 Tryz.f120))))))))))))))))))))))))))))))) (X0 [(0, .d (.sl (B0.rows l))), (1, .d (.str margin)), (5, .d (.str out11)), (6, .d (.int .i64 i10)), (7, .ref 0 0), (8, .d (.int .i64 k1))]) [.row (B0.cells x1) 68] (Am.InBlock 3 (Am.Then (Fx.mk C 202 0) (sr (sr (lo (bk (sr (sl (sr (ca (sr (sr (sr (sr (sr (sr (sr (sr (sr (sr (sr (bk (sl (sr (lo (bk (sr (sl (sr (sr (N0 Tryz.f120))))))))))))))))))))))))))))) (Am.Again (Fx.mk C 202 0) (lo (bk (sr (sl (sr (ca (sr (sr (sr (sr (sr (sr (sr (sr (sr (sr (sr (bk (sl (sr (lo (bk (sr (sl (sr (sr (N0 Tryz.f120))))))))))))))))))))))))))) (Am.InBlock 2 (Am.Then (Fx.mk C 202 0) (sr (sr (ca (sr (sr (sr (sr (sr (sr (sr (sr (sr (sr (sr (bk (sl (sr (lo (bk (sr (sl (sr (sr (N0 Tryz.f120)))))))))))))))))))))))) (Am.InBlock 1 (Am.Then (Fx.mk C 202 0) (sr (sr (lo (bk (sr (sl (sr (sr (N0 Tryz.f120))))))))) (Am.Again (Fx.mk C 202 0) (lo (bk (sr (sl (sr (sr (N0 Tryz.f120))))))) (Am.InBlock 0 (Am.Then (Fx.mk C 202 0) (sr (sr (sr (N0 Tryz.f120)))) (Am.Ends (Fx.mk C 202 0) Tryz.f120.results.toList (fun x H' => H' = [] ∧ x = .d (.str res)))))))))))))
abbrev Bt (l : List B0) (margin : Str) (x1 : B0) (out5 : Str) (i6 : Int) (res : Str) : Prop := AEx (Fx.mk C 202 0) (sr (sr (ca (sr (sl (sr (sr (sr (sr (sr (sr (sr (bk (sl (sr (lo (bk (sr (sl (sr (sr (N0 Tryz.f120)))))))))))))))))))))) (X0 [(0, .d (.sl (B0.rows l))), (1, .d (.str margin)), (5, .d (.str out5)), (6, .d (.int .i64 i6)), (7, .ref 0 0)]) [.row (B0.cells x1) 68] (Am.Then (Fx.mk C 202 0) (sr (sr (sr (sr (sr (sr (sr (sr (bk (sl (sr (lo (bk (sr (sl (sr (sr (N0 Tryz.f120)))))))))))))))))) (Am.InBlock 1 (Am.Then (Fx.mk C 202 0) (sr (sr (lo (bk (sr (sl (sr (sr (N0 Tryz.f120))))))))) (Am.Again (Fx.mk C 202 0) (lo (bk (sr (sl (sr (sr (N0 Tryz.f120))))))) (Am.InBlock 0 (Am.Then (Fx.mk C 202 0) (sr (sr (sr (N0 Tryz.f120)))) (Am.Ends (Fx.mk C 202 0) Tryz.f120.results.toList (fun x H' => H' = [] ∧ x = .d (.str res)))))))))
theorem X4 : (∀ (l : List B0) (margin : Str) (res : Str), Ic l margin = some res → Ox l margin res) ∧
    (∀ (l : List B0) (margin : Str) (out9 : Str) (i : Int) (res : Str), H3 l margin out9 i = some res → Ts l margin out9 i res) ∧
    (∀ (l : List B0) (margin : Str) (x1 : B0) (out : Str) (i1 : Int) (res : Str), J5 l margin x1 out i1 = some res → Us l margin x1 out i1 res) ∧
    (∀ (l : List B0) (margin : Str) (x1 : B0) (out1 : Str) (i2 : Int) (res : Str), K5 l margin x1 out1 i2 = some res → Vs l margin x1 out1 i2 res) ∧
    (∀ (l : List B0) (margin : Str) (x1 : B0) (out2 : Str) (i3 : Int) (res : Str), L5 l margin x1 out2 i3 = some res → Ws l margin x1 out2 i3 res) ∧
    (∀ (l : List B0) (margin : Str) (x1 : B0) (out3 : Str) (i4 : Int) (res : Str), M5 l margin x1 out3 i4 = some res → Xs l margin x1 out3 i4 res) ∧
    (∀ (l : List B0) (margin : Str) (x1 : B0) (out4 : Str) (i5 : Int) (res : Str), N5 l margin x1 out4 i5 = some res → Ys l margin x1 out4 i5 res) ∧
    (∀ (l : List B0) (margin : Str) (x1 : B0) (out6 : Str) (i7 : Int) (res : Str), V4 l margin x1 out6 i7 = some res → Zs l margin x1 out6 i7 res) ∧
    (∀ (l : List B0) (margin : Str) (x1 : B0) (out7 : Str) (i8 : Int) (res : Str), W4 l margin x1 out7 i8 = some res → At l margin x1 out7 i8 res) ∧
    (∀ (l : List B0) (margin : Str) (x1 : B0) (out8 : Str) (i9 : Int) (res : Str), B4 l margin x1 out8 i9 = some res → Br l margin x1 out8 i9 res) ∧
    (∀ (l : List B0) (margin : Str) (x1 : B0) (out10 : Str) (i10 : Int) (k : Int) (res : Str), Pd l margin x1 out10 i10 k = some res → Cr l margin x1 out10 i10 k res) ∧
    (∀ (l : List B0) (margin : Str) (x1 : B0) (out11 : Str) (i10 : Int) (k1 : Int) (res : Str), Wf l margin x1 out11 i10 k1 = some res → Dr l margin x1 out11 i10 k1 res) ∧
    (∀ (l : List B0) (margin : Str) (x1 : B0) (out5 : Str) (i6 : Int) (res : Str), Ch l margin x1 out5 i6 = some res → Bt l margin x1 out5 i6 res) := by
  refine Ic.mutual_partial_correctness (fun l margin res => Ox l margin res)
    (fun l margin out9 i res => Ts l margin out9 i res)
    (fun l margin x1 out i1 res => Us l margin x1 out i1 res)
    (fun l margin x1 out1 i2 res => Vs l margin x1 out1 i2 res)
    (fun l margin x1 out2 i3 res => Ws l margin x1 out2 i3 res)
    (fun l margin x1 out3 i4 res => Xs l margin x1 out3 i4 res)
    (fun l margin x1 out4 i5 res => Ys l margin x1 out4 i5 res)
    (fun l margin x1 out6 i7 res => Zs l margin x1 out6 i7 res)
    (fun l margin x1 out7 i8 res => At l margin x1 out7 i8 res)
    (fun l margin x1 out8 i9 res => Br l margin x1 out8 i9 res)
    (fun l margin x1 out10 i10 k res => Cr l margin x1 out10 i10 k res)
    (fun l margin x1 out11 i10 k1 res => Dr l margin x1 out11 i10 k1 res)
    (fun l margin x1 out5 i6 res => Bt l margin x1 out5 i6 res) ?_ ?_ ?_ ?_ ?_ ?_ ?_ ?_ ?_ ?_ ?_ ?_ ?_
  · intro g1 ih1 l margin res hh
    refine R0.intro hC Tryz.func120 rfl rfl rfl ?_
    refine s' rfl rfl (q' rfl (n' (s' rfl rfl (q' rfl (n' (S' (s' rfl rfl (q' rfl (n' (AEx.block ?_))))))))))
    refine AEx.ofLoop ?_
    refine Q0.wk ?_ (ih1 _ _ _ _ _ hh)
    exact ⟨⟨⟨.rfl, rfl⟩, ⟨⟨.rfl, rfl⟩, ⟨⟨.rfl, rfl⟩, ⟨⟨.rfl, rfl⟩, trivial⟩⟩⟩⟩, trivial, rfl⟩
  · intro g2 ih2 l margin out9 i res hh
    refine Q0.unroll ?_
    refine S' (s' rfl rfl (q' rfl (q' rfl (qe' rfl trivial (B0.lenA _) (q' rfl (n' ?_))))))
    refine ci' rfl hh (fun hh => ?_) (fun hh => ?_)
    · obtain ⟨x1, hx1, hh⟩ := bs' hh
      obtain ⟨c2283, hh⟩ := O0 hh
      refine sk' (S' (AEx.block (s' rfl rfl (q' rfl (q' rfl (i' rfl (V0 hx1) (B0.idx hx1) rfl (q' rfl (J0.nf hC rfl (J0.s hC rfl (n' (s' rfl rfl (q' rfl (q' rfl ?_)))))))))))))
      refine qc' rfl c2283 (q' rfl (n' (S' (s' rfl rfl (q' rfl (q' rfl (q' rfl (n' ?_))))))))
      refine ci' rfl hh (fun hh => ?_) (fun hh => ?_)
      · obtain ⟨x2, hx2, hh⟩ := bs' hh
        obtain ⟨c2284, hh⟩ := O0 hh
        obtain ⟨c2285, hh⟩ := O0 hh
        obtain ⟨x3, hx3, hh⟩ := bs' hh
        obtain ⟨c2286, hh⟩ := O0 hh
        obtain ⟨c2287, hh⟩ := O0 hh
        refine AEx.draw hC 12 rfl rfl rfl (Q' rfl (Q' rfl (Q' rfl (AQ.c rfl rfl (X5 hx2) (AQ.q hC rfl c2284 (AQ.q hC rfl c2285 (Q' rfl (Q' rfl (AQ.c rfl rfl (X5 hx3) (AQ.q hC rfl c2286 (AQ.q hC rfl c2287 (Q' rfl (Qn' ?_)))))))))))))
        refine n' ?_
        refine AEx.wk ?_ (ih2 _ _ _ _ _ _ hh)
        exact ⟨⟨⟨.rfl, rfl⟩, ⟨⟨.rfl, rfl⟩, ⟨⟨.rfl, rfl⟩, ⟨⟨.rfl, rfl⟩, ⟨⟨.rfl, rfl⟩, trivial⟩⟩⟩⟩⟩, ⟨⟨rfl, .refl _, rfl⟩, trivial⟩, rfl⟩
      refine sk' ?_
      refine AEx.wk ?_ (ih2 _ _ _ _ _ _ hh)
      exact ⟨⟨⟨.rfl, rfl⟩, ⟨⟨.rfl, rfl⟩, ⟨⟨.rfl, rfl⟩, ⟨⟨.rfl, rfl⟩, ⟨⟨.rfl, rfl⟩, trivial⟩⟩⟩⟩⟩, ⟨⟨rfl, .refl _, rfl⟩, trivial⟩, rfl⟩
    refine ex' (s' rfl rfl (q' rfl (q' rfl (n' (re' ?_)))))
    obtain rfl := oi' hh
    exact ⟨_, _, [], rfl, .rfl, trivial, rfl, rfl, rfl, rfl⟩
  · intro g3 ih3 l margin x1 out i1 res hh
    refine S' (s' rfl rfl (q' rfl (q' rfl (q' rfl (n' ?_)))))
    refine ci' rfl hh (fun hh => ?_) (fun hh => ?_)
    · obtain ⟨x4, hx4, hh⟩ := bs' hh
      obtain ⟨c2288, hh⟩ := O0 hh
      obtain ⟨c2289, hh⟩ := O0 hh
      obtain ⟨c2290, hh⟩ := O0 hh
      obtain ⟨c2291, hh⟩ := O0 hh
      obtain ⟨x5, hx5, hh⟩ := bs' hh
      obtain ⟨c2292, hh⟩ := O0 hh
      obtain ⟨c2293, hh⟩ := O0 hh
      refine AEx.draw hC 16 rfl rfl rfl (Q' rfl (Q' rfl (Q' rfl (AQ.c rfl rfl (X5 hx4) (AQ.q hC rfl c2288 (AQ.q hC rfl c2289 (Q' rfl (Q' rfl (AQ.q hC rfl c2290 (AQ.q hC rfl c2291 (Q' rfl (Q' rfl (AQ.c rfl rfl (S1b hx5) ?_)))))))))))))
      refine AQ.q hC rfl c2292 (AQ.q hC rfl c2293 (Q' rfl (Qn' (n' ?_))))
      refine AEx.wk ?_ (ih3 _ _ _ _ _ _ hh)
      exact ⟨⟨⟨.rfl, rfl⟩, ⟨⟨.rfl, rfl⟩, ⟨⟨.rfl, rfl⟩, ⟨⟨.rfl, rfl⟩, ⟨⟨.rfl, rfl⟩, trivial⟩⟩⟩⟩⟩, ⟨⟨rfl, .refl _, rfl⟩, trivial⟩, rfl⟩
    refine sk' ?_
    refine AEx.wk ?_ (ih3 _ _ _ _ _ _ hh)
    exact ⟨⟨⟨.rfl, rfl⟩, ⟨⟨.rfl, rfl⟩, ⟨⟨.rfl, rfl⟩, ⟨⟨.rfl, rfl⟩, ⟨⟨.rfl, rfl⟩, trivial⟩⟩⟩⟩⟩, ⟨⟨rfl, .refl _, rfl⟩, trivial⟩, rfl⟩
  · intro g4 ih4 l margin x1 out1 i2 res hh
    refine S' (s' rfl rfl (q' rfl (q' rfl (q' rfl (n' ?_)))))
    refine ci' rfl hh (fun hh => ?_) (fun hh => ?_)
    · obtain ⟨x6, hx6, hh⟩ := bs' hh
      obtain ⟨c2294, hh⟩ := O0 hh
      obtain ⟨c2295, hh⟩ := O0 hh
      obtain ⟨c2296, hh⟩ := O0 hh
      obtain ⟨c2297, hh⟩ := O0 hh
      refine AEx.draw hC 11 rfl rfl rfl (Q' rfl (Q' rfl (Q' rfl (AQ.c rfl rfl (X5 hx6) (AQ.q hC rfl c2294 (AQ.q hC rfl c2295 (Q' rfl (Q' rfl (AQ.q hC rfl c2296 (AQ.q hC rfl c2297 (Q' rfl (Qn' (n' ?_)))))))))))))
      refine AEx.wk ?_ (ih4 _ _ _ _ _ _ hh)
      exact ⟨⟨⟨.rfl, rfl⟩, ⟨⟨.rfl, rfl⟩, ⟨⟨.rfl, rfl⟩, ⟨⟨.rfl, rfl⟩, ⟨⟨.rfl, rfl⟩, trivial⟩⟩⟩⟩⟩, ⟨⟨rfl, .refl _, rfl⟩, trivial⟩, rfl⟩
    refine sk' ?_
    refine AEx.wk ?_ (ih4 _ _ _ _ _ _ hh)
    exact ⟨⟨⟨.rfl, rfl⟩, ⟨⟨.rfl, rfl⟩, ⟨⟨.rfl, rfl⟩, ⟨⟨.rfl, rfl⟩, ⟨⟨.rfl, rfl⟩, trivial⟩⟩⟩⟩⟩, ⟨⟨rfl, .refl _, rfl⟩, trivial⟩, rfl⟩
  · intro g5 ih5 l margin x1 out2 i3 res hh
    refine S' (s' rfl rfl (q' rfl (q' rfl (q' rfl (n' ?_)))))
    refine ci' rfl hh (fun hh => ?_) (fun hh => ?_)
    · obtain ⟨c2298, hh⟩ := O0 hh
      obtain ⟨x7, hx7, hh⟩ := bs' hh
      obtain ⟨c2299, hh⟩ := O0 hh
      obtain ⟨c2300, hh⟩ := O0 hh
      refine R' rfl rfl (q' rfl (qc' rfl c2298 (q' rfl (q' rfl (J0.c rfl rfl (X5 hx7) (qc' rfl c2299 (qc' rfl c2300 (q' rfl (n' ?_)))))))))
      refine AEx.wk ?_ (ih5 _ _ _ _ _ _ hh)
      exact ⟨⟨⟨.rfl, rfl⟩, ⟨⟨.rfl, rfl⟩, ⟨⟨.rfl, rfl⟩, ⟨⟨.rfl, rfl⟩, ⟨⟨.rfl, rfl⟩, trivial⟩⟩⟩⟩⟩, ⟨⟨rfl, .refl _, rfl⟩, trivial⟩, rfl⟩
    refine sk' ?_
    refine AEx.wk ?_ (ih5 _ _ _ _ _ _ hh)
    exact ⟨⟨⟨.rfl, rfl⟩, ⟨⟨.rfl, rfl⟩, ⟨⟨.rfl, rfl⟩, ⟨⟨.rfl, rfl⟩, ⟨⟨.rfl, rfl⟩, trivial⟩⟩⟩⟩⟩, ⟨⟨rfl, .refl _, rfl⟩, trivial⟩, rfl⟩
  · intro g6 ih6 l margin x1 out3 i4 res hh
    refine S' (s' rfl rfl (q' rfl (q' rfl (q' rfl (n' ?_)))))
    refine ci' rfl hh (fun hh => ?_) (fun hh => ?_)
    · obtain ⟨c2301, hh⟩ := O0 hh
      obtain ⟨x8, hx8, hh⟩ := bs' hh
      obtain ⟨c2302, hh⟩ := O0 hh
      obtain ⟨c2303, hh⟩ := O0 hh
      refine R' rfl rfl (q' rfl (qc' rfl c2301 (q' rfl (q' rfl (J0.c rfl rfl (E7 hx8) (qc' rfl c2302 (qc' rfl c2303 (q' rfl (n' ?_)))))))))
      refine AEx.wk ?_ (ih6 _ _ _ _ _ _ hh)
      exact ⟨⟨⟨.rfl, rfl⟩, ⟨⟨.rfl, rfl⟩, ⟨⟨.rfl, rfl⟩, ⟨⟨.rfl, rfl⟩, ⟨⟨.rfl, rfl⟩, trivial⟩⟩⟩⟩⟩, ⟨⟨rfl, .refl _, rfl⟩, trivial⟩, rfl⟩
    refine sk' ?_
    refine AEx.wk ?_ (ih6 _ _ _ _ _ _ hh)
    exact ⟨⟨⟨.rfl, rfl⟩, ⟨⟨.rfl, rfl⟩, ⟨⟨.rfl, rfl⟩, ⟨⟨.rfl, rfl⟩, ⟨⟨.rfl, rfl⟩, trivial⟩⟩⟩⟩⟩, ⟨⟨rfl, .refl _, rfl⟩, trivial⟩, rfl⟩
  · intro g0 g7 g12 ih0 ih7 ih12 l margin x1 out4 i5 res hh
    refine S' (s' rfl rfl (q' rfl (q' rfl (q' rfl (n' ?_)))))
    refine ci' rfl hh (fun hh => ?_) (fun hh => ?_)
    · obtain ⟨c2304, hh⟩ := O0 hh
      obtain ⟨x9, hx9, hh⟩ := bs' hh
      obtain ⟨c2305, hh⟩ := O0 hh
      obtain ⟨c2306, hh⟩ := O0 hh
      obtain ⟨c2307, hh⟩ := O0 hh
      obtain ⟨x16, hx16, hh⟩ := bs' hh
      obtain ⟨c2308, hh⟩ := O0 hh
      obtain ⟨c2309, hh⟩ := O0 hh
      obtain ⟨c2310, hh⟩ := O0 hh
      refine S' (AEx.draw hC 17 rfl rfl rfl (Q' rfl (AQ.q hC rfl c2304 (Q' rfl (Q' rfl (AQ.c rfl rfl (X5 hx9) (AQ.q hC rfl c2305 (AQ.q hC rfl c2306 (Q' rfl (Q' rfl (Q' rfl (AQ.q hC rfl c2307 (AQ.c rfl rfl (ih0 _ _ _ hx16) ?_)))))))))))))
      refine AQ.q hC rfl c2308 (Q' rfl (AQ.q hC rfl c2309 (AQ.q hC rfl c2310 (Q' rfl (Qn' (n' (S' (s' rfl rfl (q' rfl (q' rfl (qe' rfl trivial (B0.lenA _) (q' rfl (n' ?_)))))))))))))
      refine ci' rfl hh (fun hh => ?_) (fun hh => ?_)
      · obtain ⟨c2311, hh⟩ := O0 hh
        obtain ⟨c2312, hh⟩ := O0 hh
        obtain ⟨x17, hx17, hh⟩ := bs' hh
        obtain ⟨c2313, hh⟩ := O0 hh
        obtain ⟨c2314, hh⟩ := O0 hh
        obtain ⟨c2315, hh⟩ := O0 hh
        refine R' rfl rfl (q' rfl (qc' rfl c2311 (q' rfl (q' rfl (q' rfl (qc' rfl c2312 (J0.c rfl rfl (ih0 _ _ _ hx17) (qc' rfl c2313 (q' rfl (qc' rfl c2314 (qc' rfl c2315 (q' rfl (n' ?_)))))))))))))
        refine AEx.wk ?_ (ih12 _ _ _ _ _ _ hh)
        exact ⟨⟨⟨.rfl, rfl⟩, ⟨⟨.rfl, rfl⟩, ⟨⟨.rfl, rfl⟩, ⟨⟨.rfl, rfl⟩, ⟨⟨.rfl, rfl⟩, trivial⟩⟩⟩⟩⟩, ⟨⟨rfl, .refl _, rfl⟩, trivial⟩, rfl⟩
      refine sk' ?_
      refine AEx.wk ?_ (ih12 _ _ _ _ _ _ hh)
      exact ⟨⟨⟨.rfl, rfl⟩, ⟨⟨.rfl, rfl⟩, ⟨⟨.rfl, rfl⟩, ⟨⟨.rfl, rfl⟩, ⟨⟨.rfl, rfl⟩, trivial⟩⟩⟩⟩⟩, ⟨⟨rfl, .refl _, rfl⟩, trivial⟩, rfl⟩
    refine sk' ?_
    refine AEx.wk ?_ (ih7 _ _ _ _ _ _ hh)
    exact ⟨⟨⟨.rfl, rfl⟩, ⟨⟨.rfl, rfl⟩, ⟨⟨.rfl, rfl⟩, ⟨⟨.rfl, rfl⟩, ⟨⟨.rfl, rfl⟩, trivial⟩⟩⟩⟩⟩, ⟨⟨rfl, .refl _, rfl⟩, trivial⟩, rfl⟩
  · intro g0 g8 ih0 ih8 l margin x1 out6 i7 res hh
    refine S' (s' rfl rfl (q' rfl (q' rfl (q' rfl (n' ?_)))))
    refine ci' rfl hh (fun hh => ?_) (fun hh => ?_)
    · obtain ⟨c2317, hh⟩ := O0 hh
      obtain ⟨x10, hx10, hh⟩ := bs' hh
      obtain ⟨c2318, hh⟩ := O0 hh
      obtain ⟨c2319, hh⟩ := O0 hh
      obtain ⟨x11, hx11, hh⟩ := bs' hh
      obtain ⟨c2320, hh⟩ := O0 hh
      obtain ⟨c2321, hh⟩ := O0 hh
      obtain ⟨c2322, hh⟩ := O0 hh
      obtain ⟨x18, hx18, hh⟩ := bs' hh
      obtain ⟨c2323, hh⟩ := O0 hh
      obtain ⟨c2324, hh⟩ := O0 hh
      obtain ⟨c2325, hh⟩ := O0 hh
      refine AEx.draw hC 22 rfl rfl rfl (Q' rfl (AQ.q hC rfl c2317 (Q' rfl (Q' rfl (AQ.c rfl rfl (X5 hx10) (AQ.q hC rfl c2318 (AQ.q hC rfl c2319 (Q' rfl (Q' rfl (AQ.c rfl rfl (E7 hx11) (AQ.q hC rfl c2320 (AQ.q hC rfl c2321 (Q' rfl ?_)))))))))))))
      refine Q' rfl (Q' rfl (AQ.q hC rfl c2322 (AQ.c rfl rfl (ih0 _ _ _ hx18) (AQ.q hC rfl c2323 (Q' rfl (AQ.q hC rfl c2324 (AQ.q hC rfl c2325 (Q' rfl (Qn' (n' ?_))))))))))
      refine AEx.wk ?_ (ih8 _ _ _ _ _ _ hh)
      exact ⟨⟨⟨.rfl, rfl⟩, ⟨⟨.rfl, rfl⟩, ⟨⟨.rfl, rfl⟩, ⟨⟨.rfl, rfl⟩, ⟨⟨.rfl, rfl⟩, trivial⟩⟩⟩⟩⟩, ⟨⟨rfl, .refl _, rfl⟩, trivial⟩, rfl⟩
    refine sk' ?_
    refine AEx.wk ?_ (ih8 _ _ _ _ _ _ hh)
    exact ⟨⟨⟨.rfl, rfl⟩, ⟨⟨.rfl, rfl⟩, ⟨⟨.rfl, rfl⟩, ⟨⟨.rfl, rfl⟩, ⟨⟨.rfl, rfl⟩, trivial⟩⟩⟩⟩⟩, ⟨⟨rfl, .refl _, rfl⟩, trivial⟩, rfl⟩
  · intro g0 g9 ih0 ih9 l margin x1 out7 i8 res hh
    refine S' (s' rfl rfl (q' rfl (q' rfl (q' rfl (n' ?_)))))
    refine ci' rfl hh (fun hh => ?_) (fun hh => ?_)
    · obtain ⟨c2326, hh⟩ := O0 hh
      obtain ⟨c2327, hh⟩ := O0 hh
      obtain ⟨c2328, hh⟩ := O0 hh
      obtain ⟨x12, hx12, hh⟩ := bs' hh
      obtain ⟨c2329, hh⟩ := O0 hh
      obtain ⟨c2330, hh⟩ := O0 hh
      obtain ⟨x13, hx13, hh⟩ := bs' hh
      obtain ⟨c2331, hh⟩ := O0 hh
      obtain ⟨c2332, hh⟩ := O0 hh
      obtain ⟨c2333, hh⟩ := O0 hh
      obtain ⟨x19, hx19, hh⟩ := bs' hh
      obtain ⟨c2334, hh⟩ := O0 hh
      obtain ⟨c2335, hh⟩ := O0 hh
      obtain ⟨c2336, hh⟩ := O0 hh
      refine AEx.draw hC 26 rfl rfl rfl (Q' rfl (AQ.q hC rfl c2326 (Q' rfl (Q' rfl (AQ.q hC rfl c2327 (AQ.q hC rfl c2328 (Q' rfl (Q' rfl (AQ.c rfl rfl (E7 hx12) (AQ.q hC rfl c2329 (AQ.q hC rfl c2330 (Q' rfl (Q' rfl ?_)))))))))))))
      refine AQ.c rfl rfl (E7 hx13) (AQ.q hC rfl c2331 (AQ.q hC rfl c2332 (Q' rfl (Q' rfl (Q' rfl (AQ.q hC rfl c2333 (AQ.c rfl rfl (ih0 _ _ _ hx19) (AQ.q hC rfl c2334 (Q' rfl (AQ.q hC rfl c2335 (AQ.q hC rfl c2336 (Q' rfl (Qn' ?_)))))))))))))
      refine n' ?_
      refine AEx.wk ?_ (ih9 _ _ _ _ _ _ hh)
      exact ⟨⟨⟨.rfl, rfl⟩, ⟨⟨.rfl, rfl⟩, ⟨⟨.rfl, rfl⟩, ⟨⟨.rfl, rfl⟩, ⟨⟨.rfl, rfl⟩, trivial⟩⟩⟩⟩⟩, ⟨⟨rfl, .refl _, rfl⟩, trivial⟩, rfl⟩
    refine sk' ?_
    refine AEx.wk ?_ (ih9 _ _ _ _ _ _ hh)
    exact ⟨⟨⟨.rfl, rfl⟩, ⟨⟨.rfl, rfl⟩, ⟨⟨.rfl, rfl⟩, ⟨⟨.rfl, rfl⟩, ⟨⟨.rfl, rfl⟩, trivial⟩⟩⟩⟩⟩, ⟨⟨rfl, .refl _, rfl⟩, trivial⟩, rfl⟩
  · intro g1 g10 ih1 ih10 l margin x1 out8 i9 res hh
    refine s' rfl rfl (q' rfl (q' rfl (q' rfl (n' ?_))))
    refine ci' rfl hh (fun hh => ?_) (fun hh => ?_)
    · obtain ⟨c2337, hh⟩ := O0 hh
      refine s' rfl rfl (q' rfl (qc' rfl c2337 (q' rfl (n' (S' (s' rfl rfl (q' rfl (n' (AEx.block ?_)))))))))
      refine AEx.ofLoop ?_
      refine Q0.wk ?_ (ih10 _ _ _ _ _ _ _ hh)
      exact ⟨⟨⟨.rfl, rfl⟩, ⟨⟨.rfl, rfl⟩, ⟨⟨.rfl, rfl⟩, ⟨⟨.rfl, rfl⟩, ⟨⟨.rfl, rfl⟩, ⟨⟨.rfl, rfl⟩, trivial⟩⟩⟩⟩⟩⟩, ⟨⟨rfl, .refl _, rfl⟩, trivial⟩, rfl⟩
    refine sk' (R' rfl rfl (q' rfl (q' rfl (q' rfl (n' ?_)))))
    refine Q0.wk ?_ (ih1 _ _ _ _ _ hh)
    exact ⟨⟨⟨.rfl, rfl⟩, ⟨⟨.rfl, rfl⟩, ⟨⟨.rfl, rfl⟩, ⟨⟨.rfl, rfl⟩, trivial⟩⟩⟩⟩, trivial, rfl⟩
  · intro g1 g11 ih1 ih11 l margin x1 out10 i10 k res hh
    refine Q0.unroll ?_
    refine S' (s' rfl rfl (q' rfl (q' rfl (q' rfl (qe' rfl trivial (ei64.lenA _) (q' rfl (n' ?_)))))))
    refine ci' rfl hh (fun hh => ?_) (fun hh => ?_)
    · refine sk' (S' (AEx.block (S' (s' rfl rfl (q' rfl (q' rfl (n' ?_)))))))
      refine ci' rfl hh (fun hh => ?_) (fun hh => ?_)
      · obtain ⟨c2338, hh⟩ := O0 hh
        refine R' rfl rfl (q' rfl (qc' rfl c2338 (q' rfl (n' ?_))))
        refine AEx.wk ?_ (ih11 _ _ _ _ _ _ _ hh)
        exact ⟨⟨⟨.rfl, rfl⟩, ⟨⟨.rfl, rfl⟩, ⟨⟨.rfl, rfl⟩, ⟨⟨.rfl, rfl⟩, ⟨⟨.rfl, rfl⟩, ⟨⟨.rfl, rfl⟩, trivial⟩⟩⟩⟩⟩⟩, ⟨⟨rfl, .refl _, rfl⟩, trivial⟩, rfl⟩
      refine sk' ?_
      refine AEx.wk ?_ (ih11 _ _ _ _ _ _ _ hh)
      exact ⟨⟨⟨.rfl, rfl⟩, ⟨⟨.rfl, rfl⟩, ⟨⟨.rfl, rfl⟩, ⟨⟨.rfl, rfl⟩, ⟨⟨.rfl, rfl⟩, ⟨⟨.rfl, rfl⟩, trivial⟩⟩⟩⟩⟩⟩, ⟨⟨rfl, .refl _, rfl⟩, trivial⟩, rfl⟩
    obtain ⟨c2339, hh⟩ := O0 hh
    refine ex' (R' rfl rfl (q' rfl (qc' rfl c2339 (q' rfl (n' (R' rfl rfl (q' rfl (q' rfl (q' rfl (n' ?_))))))))))
    refine Q0.wk ?_ (ih1 _ _ _ _ _ hh)
    exact ⟨⟨⟨.rfl, rfl⟩, ⟨⟨.rfl, rfl⟩, ⟨⟨.rfl, rfl⟩, ⟨⟨.rfl, rfl⟩, trivial⟩⟩⟩⟩, trivial, rfl⟩
  · intro g10 ih10 l margin x1 out11 i10 k1 res hh
    obtain ⟨x14, hx14, hh⟩ := bs' hh
    obtain ⟨x15, hx15, hh⟩ := bs' hh
    obtain ⟨c2340, hh⟩ := O0 hh
    refine R' rfl rfl (q' rfl (q' rfl (q' rfl (q' rfl (i' rfl (V0 hx14) (ei64.idx hx14) rfl (q' rfl (J0.c rfl rfl (E7 hx15) (qc' rfl c2340 (q' rfl (n' (R' rfl rfl (q' rfl (q' rfl ?_)))))))))))))
    refine q' rfl (n' ?_)
    refine Q0.wk ?_ (ih10 _ _ _ _ _ _ _ hh)
    exact ⟨⟨⟨.rfl, rfl⟩, ⟨⟨.rfl, rfl⟩, ⟨⟨.rfl, rfl⟩, ⟨⟨.rfl, rfl⟩, ⟨⟨.rfl, rfl⟩, ⟨⟨.rfl, rfl⟩, trivial⟩⟩⟩⟩⟩⟩, ⟨⟨rfl, .refl _, rfl⟩, trivial⟩, rfl⟩
  · intro g7 ih7 l margin x1 out5 i6 res hh
    obtain ⟨c2316, hh⟩ := O0 hh
    refine R' rfl rfl (q' rfl (qc' rfl c2316 (q' rfl (n' ?_))))
    refine AEx.wk ?_ (ih7 _ _ _ _ _ _ hh)
    exact ⟨⟨⟨.rfl, rfl⟩, ⟨⟨.rfl, rfl⟩, ⟨⟨.rfl, rfl⟩, ⟨⟨.rfl, rfl⟩, ⟨⟨.rfl, rfl⟩, trivial⟩⟩⟩⟩⟩, ⟨⟨rfl, .refl _, rfl⟩, trivial⟩, rfl⟩
theorem R11 {l : List B0} {margin : Str} {res : Str} (hh : Ic l margin = some res) : Ox l margin res := (X4).1 _ _ _ hh
theorem D1q {l : List B0} {margin : Str} {out9 : Str} {i : Int} {res : Str} (hh : H3 l margin out9 i = some res) : Ts l margin out9 i res := (X4).2.1 _ _ _ _ _ hh
theorem E1q {l : List B0} {margin : Str} {x1 : B0} {out : Str} {i1 : Int} {res : Str} (hh : J5 l margin x1 out i1 = some res) : Us l margin x1 out i1 res := (X4).2.2.1 _ _ _ _ _ _ hh
theorem F1q {l : List B0} {margin : Str} {x1 : B0} {out1 : Str} {i2 : Int} {res : Str} (hh : K5 l margin x1 out1 i2 = some res) : Vs l margin x1 out1 i2 res := (X4).2.2.2.1 _ _ _ _ _ _ hh
theorem G1q {l : List B0} {margin : Str} {x1 : B0} {out2 : Str} {i3 : Int} {res : Str} (hh : L5 l margin x1 out2 i3 = some res) : Ws l margin x1 out2 i3 res := (X4).2.2.2.2.1 _ _ _ _ _ _ hh
theorem H1q {l : List B0} {margin : Str} {x1 : B0} {out3 : Str} {i4 : Int} {res : Str} (hh : M5 l margin x1 out3 i4 = some res) : Xs l margin x1 out3 i4 res := (X4).2.2.2.2.2.1 _ _ _ _ _ _ hh
theorem I1q {l : List B0} {margin : Str} {x1 : B0} {out4 : Str} {i5 : Int} {res : Str} (hh : N5 l margin x1 out4 i5 = some res) : Ys l margin x1 out4 i5 res := (X4).2.2.2.2.2.2.1 _ _ _ _ _ _ hh
theorem J1q {l : List B0} {margin : Str} {x1 : B0} {out6 : Str} {i7 : Int} {res : Str} (hh : V4 l margin x1 out6 i7 = some res) : Zs l margin x1 out6 i7 res := (X4).2.2.2.2.2.2.2.1 _ _ _ _ _ _ hh
theorem K1q {l : List B0} {margin : Str} {x1 : B0} {out7 : Str} {i8 : Int} {res : Str} (hh : W4 l margin x1 out7 i8 = some res) : At l margin x1 out7 i8 res := (X4).2.2.2.2.2.2.2.2.1 _ _ _ _ _ _ hh
theorem X1o {l : List B0} {margin : Str} {x1 : B0} {out8 : Str} {i9 : Int} {res : Str} (hh : B4 l margin x1 out8 i9 = some res) : Br l margin x1 out8 i9 res := (X4).2.2.2.2.2.2.2.2.2.1 _ _ _ _ _ _ hh
theorem Y1o {l : List B0} {margin : Str} {x1 : B0} {out10 : Str} {i10 : Int} {k : Int} {res : Str} (hh : Pd l margin x1 out10 i10 k = some res) : Cr l margin x1 out10 i10 k res := (X4).2.2.2.2.2.2.2.2.2.2.1 _ _ _ _ _ _ _ hh
theorem Z1o {l : List B0} {margin : Str} {x1 : B0} {out11 : Str} {i10 : Int} {k1 : Int} {res : Str} (hh : Wf l margin x1 out11 i10 k1 = some res) : Dr l margin x1 out11 i10 k1 res := (X4).2.2.2.2.2.2.2.2.2.2.2.1 _ _ _ _ _ _ _ hh
theorem L1q {l : List B0} {margin : Str} {x1 : B0} {out5 : Str} {i6 : Int} {res : Str} (hh : Ch l margin x1 out5 i6 = some res) : Bt l margin x1 out5 i6 res := (X4).2.2.2.2.2.2.2.2.2.2.2.2 _ _ _ _ _ _ hh
def T8 (d : E0) (s2 : Str) (i2 : Int) : Option Str :=
  if (decide (i2 < ((d.Vars).length : Int))) = true then
    if (decide (s2.length + 1 ≤ maxLen)) = true then
      idx d.Vars i2 >>= fun x5 =>
      Ah x5 >>= fun x6 =>
      if (decide ((s2 ++ [9]).length + x6.length ≤ maxLen)) = true then
        T8 d ((s2 ++ [9]) ++ x6) (IntKind.i64.wrap (i2 + 1))
      else none
    else none
  else
    Ic d.Body [9] >>= fun x7 =>
    if (decide (s2.length + x7.length ≤ maxLen)) = true then
      if (decide ((s2 ++ x7).length + 8 ≤ maxLen)) = true then
        C1 d.Value >>= fun x8 =>
        if (decide (((s2 ++ x7) ++ [9, 114, 101, 116, 117, 114, 110, 32]).length + x8.length ≤ maxLen)) = true then
          if (decide ((((s2 ++ x7) ++ [9, 114, 101, 116, 117, 114, 110, 32]) ++ x8).length + 4 ≤ maxLen)) = true then
            some ((((s2 ++ x7) ++ [9, 114, 101, 116, 117, 114, 110, 32]) ++ x8) ++ [59, 10, 125, 10])
          else none
        else none
      else none
    else none
  partial_fixpoint
abbrev Ko (d : E0) (s2 : Str) (i2 : Int) (res : Str) : Prop := Q0 (Fx.mk C 72 0) (lo (bk (sr (sl (sr (sr (sr (sr (N0 Tryz.f119))))))))) (X0 [(1, .ref 0 0), (3, .d (.str s2)), (5, .d (.int .i64 i2))]) [.row (E0.cells d) 64] (Am.InBlock 2 (Am.Then (Fx.mk C 72 0) (sr (sr (sr (sr (sr (N0 Tryz.f119)))))) (Am.Ends (Fx.mk C 72 0) Tryz.f119.results.toList (fun x H' => H' = [] ∧ x = .d (.str res)))))
theorem S11 (d : E0) : (∀ (s2 : Str) (i2 : Int) (res : Str), T8 d s2 i2 = some res → Ko d s2 i2 res) := by
  refine T8.partial_correctness d
    (fun s2 i2 res => Ko d s2 i2 res) ?_
  · intro g0 ih0 s2 i2 res hh
    refine Q0.unroll ?_
    refine S' (s' rfl rfl (q' rfl (q' rfl (q' rfl (qe' rfl trivial (E0.lenA _) (q' rfl (n' ?_)))))))
    refine ci' rfl hh (fun hh => ?_) (fun hh => ?_)
    · obtain ⟨c94, hh⟩ := O0 hh
      obtain ⟨x5, hx5, hh⟩ := bs' hh
      obtain ⟨x6, hx6, hh⟩ := bs' hh
      obtain ⟨c95, hh⟩ := O0 hh
      refine sk' (S' (AEx.block (R' rfl rfl (q' rfl (qc' rfl c94 (q' rfl (q' rfl (q' rfl (i' rfl (V0 hx5) (E0.idx hx5) rfl (q' rfl (J0.c rfl rfl (Vx hx6) (qc' rfl c95 (q' rfl ?_)))))))))))))
      refine n' (R' rfl rfl (q' rfl (q' rfl (q' rfl (n' ?_)))))
      refine Q0.wk ?_ (ih0 _ _ _ hh)
      exact ⟨⟨⟨.rfl, rfl⟩, ⟨⟨.rfl, rfl⟩, ⟨⟨.rfl, rfl⟩, trivial⟩⟩⟩, ⟨⟨rfl, .refl _, rfl⟩, trivial⟩, rfl⟩
    obtain ⟨x7, hx7, hh⟩ := bs' hh
    obtain ⟨c96, hh⟩ := O0 hh
    obtain ⟨c97, hh⟩ := O0 hh
    obtain ⟨x8, hx8, hh⟩ := bs' hh
    obtain ⟨c98, hh⟩ := O0 hh
    obtain ⟨c99, hh⟩ := O0 hh
    refine ex' (S' (AEx.draw hC 12 rfl rfl rfl (Q' rfl (Q' rfl (Q' rfl (AQ.c rfl rfl (R11 hx7) (AQ.q hC rfl c96 (AQ.q hC rfl c97 (Q' rfl (Q' rfl (AQ.c rfl rfl (X5 hx8) (AQ.q hC rfl c98 (AQ.q hC rfl c99 ?_)))))))))))))
    refine Q' rfl (Qn' (n' (re' ?_)))
    obtain rfl := oi' hh
    exact ⟨_, _, [], rfl, .rfl, trivial, rfl, rfl, rfl, rfl⟩
theorem T12 {d : E0} {s2 : Str} {i2 : Int} {res : Str} (hh : T8 d s2 i2 = some res) : Ko d s2 i2 res := (S11 d) _ _ _ hh
mutual
def U8 (d : E0) (s : Str) (i : Int) : Option Str :=
  if (decide (i < ((d.Params).length : Int))) = true then
    if (decide (i > 0)) = true then
      if (decide (s.length + 2 ≤ maxLen)) = true then
        Be d (s ++ [44, 32]) i
      else none
    else
      Be d s i
  else
    if (decide (s.length + 3 ≤ maxLen)) = true then
      E2 d.TypeV >>= fun x4 =>
      if (decide ((s ++ [41, 58, 32]).length + x4.length ≤ maxLen)) = true then
        if (decide (((s ++ [41, 58, 32]) ++ x4).length + 3 ≤ maxLen)) = true then
          T8 d (((s ++ [41, 58, 32]) ++ x4) ++ [32, 123, 10]) 0
        else none
      else none
    else none
  partial_fixpoint
def Be (d : E0) (s1 : Str) (i1 : Int) : Option Str :=
  idx d.Params i1 >>= fun x1 =>
  if (decide (s1.length + x1.Name.length ≤ maxLen)) = true then
    if (decide ((s1 ++ x1.Name).length + 2 ≤ maxLen)) = true then
      idx d.Params i1 >>= fun x2 =>
      E2 x2.TypeV >>= fun x3 =>
      if (decide (((s1 ++ x1.Name) ++ [58, 32]).length + x3.length ≤ maxLen)) = true then
        U8 d (((s1 ++ x1.Name) ++ [58, 32]) ++ x3) (IntKind.i64.wrap (i1 + 1))
      else none
    else none
  else none
  partial_fixpoint
end
abbrev Lo (d : E0) (s : Str) (i : Int) (res : Str) : Prop := Q0 (Fx.mk C 72 0) (lo (bk (sr (sl (sr (sr (N0 Tryz.f119))))))) (X0 [(1, .ref 0 0), (3, .d (.str s)), (4, .d (.int .i64 i))]) [.row (E0.cells d) 64] (Am.InBlock 0 (Am.Then (Fx.mk C 72 0) (sr (sr (sr (N0 Tryz.f119)))) (Am.Ends (Fx.mk C 72 0) Tryz.f119.results.toList (fun x H' => H' = [] ∧ x = .d (.str res)))))
abbrev Mo (d : E0) (s1 : Str) (i1 : Int) (res : Str) : Prop := AEx (Fx.mk C 72 0) (sr (bk (sl (sr (lo (bk (sr (sl (sr (sr (N0 Tryz.f119))))))))))) (X0 [(1, .ref 0 0), (3, .d (.str s1)), (4, .d (.int .i64 i1))]) [.row (E0.cells d) 64] (Am.InBlock 1 (Am.Then (Fx.mk C 72 0) (sr (sr (lo (bk (sr (sl (sr (sr (N0 Tryz.f119))))))))) (Am.Again (Fx.mk C 72 0) (lo (bk (sr (sl (sr (sr (N0 Tryz.f119))))))) (Am.InBlock 0 (Am.Then (Fx.mk C 72 0) (sr (sr (sr (N0 Tryz.f119)))) (Am.Ends (Fx.mk C 72 0) Tryz.f119.results.toList (fun x H' => H' = [] ∧ x = .d (.str res))))))))
theorem Mt (d : E0) : (∀ (s : Str) (i : Int) (res : Str), U8 d s i = some res → Lo d s i res) ∧
    (∀ (s1 : Str) (i1 : Int) (res : Str), Be d s1 i1 = some res → Mo d s1 i1 res) := by
  refine U8.mutual_partial_correctness d
    (fun s i res => Lo d s i res)
    (fun s1 i1 res => Mo d s1 i1 res) ?_ ?_
  · intro g1 ih1 s i res hh
    refine Q0.unroll ?_
    refine S' (s' rfl rfl (q' rfl (q' rfl (q' rfl (qe' rfl trivial (E0.lenA _) (q' rfl (n' ?_)))))))
    refine ci' rfl hh (fun hh => ?_) (fun hh => ?_)
    · refine sk' (S' (AEx.block (S' (s' rfl rfl (q' rfl (q' rfl (n' ?_)))))))
      refine ci' rfl hh (fun hh => ?_) (fun hh => ?_)
      · obtain ⟨c87, hh⟩ := O0 hh
        refine R' rfl rfl (q' rfl (qc' rfl c87 (q' rfl (n' ?_))))
        refine AEx.wk ?_ (ih1 _ _ _ hh)
        exact ⟨⟨⟨.rfl, rfl⟩, ⟨⟨.rfl, rfl⟩, ⟨⟨.rfl, rfl⟩, trivial⟩⟩⟩, ⟨⟨rfl, .refl _, rfl⟩, trivial⟩, rfl⟩
      refine sk' ?_
      refine AEx.wk ?_ (ih1 _ _ _ hh)
      exact ⟨⟨⟨.rfl, rfl⟩, ⟨⟨.rfl, rfl⟩, ⟨⟨.rfl, rfl⟩, trivial⟩⟩⟩, ⟨⟨rfl, .refl _, rfl⟩, trivial⟩, rfl⟩
    obtain ⟨c88, hh⟩ := O0 hh
    obtain ⟨x4, hx4, hh⟩ := bs' hh
    obtain ⟨c89, hh⟩ := O0 hh
    obtain ⟨c90, hh⟩ := O0 hh
    refine ex' (s' rfl rfl (q' rfl (qc' rfl c88 (q' rfl (q' rfl (J0.c rfl rfl (S8 hx4) (qc' rfl c89 (qc' rfl c90 (q' rfl (n' (S' (s' rfl rfl (q' rfl ?_)))))))))))))
    refine n' (AEx.block ?_)
    refine AEx.ofLoop ?_
    refine Q0.wk ?_ (T12 hh)
    exact ⟨⟨⟨.rfl, rfl⟩, ⟨⟨.rfl, rfl⟩, ⟨⟨.rfl, rfl⟩, trivial⟩⟩⟩, ⟨⟨rfl, .refl _, rfl⟩, trivial⟩, rfl⟩
  · intro g0 ih0 s1 i1 res hh
    obtain ⟨x1, hx1, hh⟩ := bs' hh
    obtain ⟨c91, hh⟩ := O0 hh
    obtain ⟨c92, hh⟩ := O0 hh
    obtain ⟨x2, hx2, hh⟩ := bs' hh
    obtain ⟨x3, hx3, hh⟩ := bs' hh
    obtain ⟨c93, hh⟩ := O0 hh
    refine AEx.draw hC 18 rfl rfl rfl (Q' rfl (Q' rfl (Q' rfl (Q' rfl (AQ.i hC rfl (V0 hx1) (E0.idx hx1) rfl (Q' rfl (Q' rfl (AQ.q hC rfl c91 (AQ.q hC rfl c92 (Q' rfl (Q' rfl (Q' rfl (AQ.i hC rfl (V0 hx2) (E0.idx hx2) rfl ?_)))))))))))))
    refine Q' rfl (Q' rfl (AQ.c rfl rfl (S8 hx3) (AQ.q hC rfl c93 (Q' rfl (Qn' (n' (R' rfl rfl (q' rfl (q' rfl (q' rfl (n' ?_)))))))))))
    refine Q0.wk ?_ (ih0 _ _ _ hh)
    exact ⟨⟨⟨.rfl, rfl⟩, ⟨⟨.rfl, rfl⟩, ⟨⟨.rfl, rfl⟩, trivial⟩⟩⟩, ⟨⟨rfl, .refl _, rfl⟩, trivial⟩, rfl⟩
theorem U12 {d : E0} {s : Str} {i : Int} {res : Str} (hh : U8 d s i = some res) : Lo d s i res := (Mt d).1 _ _ _ hh
theorem D1n {d : E0} {s1 : Str} {i1 : Int} {res : Str} (hh : Be d s1 i1 = some res) : Mo d s1 i1 res := (Mt d).2 _ _ _ hh
def Il (d : E0) : Option Str :=
  if (decide (5 + d.Name.length ≤ maxLen)) = true then
    if (decide (([102, 117, 110, 99, 32] ++ d.Name).length + 1 ≤ maxLen)) = true then
      U8 d (([102, 117, 110, 99, 32] ++ d.Name) ++ [40]) 0
    else none
  else none
abbrev I18 (d : E0) (res : Str) : Prop := R0 C 119 [.agg (E0.cells d)] [] (fun x H' => H' = [] ∧ x = .d (.str res))
theorem X16 {d : E0} {res : Str} (hh : Il d = some res) : I18 d res := by
  unfold Il at hh
  refine R0.intro hC Tryz.func119 rfl rfl rfl ?_
  obtain ⟨c85, hh⟩ := O0 hh
  obtain ⟨c86, hh⟩ := O0 hh
  refine s' rfl rfl (J0.n hC rfl (q' rfl (n' (s' rfl rfl (q' rfl (q' rfl (qc' rfl c85 (qc' rfl c86 (q' rfl (n' (S' (s' rfl rfl (q' rfl ?_)))))))))))))
  refine n' (AEx.block ?_)
  refine AEx.ofLoop ?_
  refine Q0.wk ?_ (U12 hh)
  exact ⟨⟨⟨.rfl, rfl⟩, ⟨⟨.rfl, rfl⟩, ⟨⟨.rfl, rfl⟩, trivial⟩⟩⟩, ⟨⟨rfl, .refl _, rfl⟩, trivial⟩, rfl⟩
mutual
def Pa (p : L0) (s6 : Str) (i : Int) : Option Str :=
  if (decide (i < ((p.Decls).length : Int))) = true then
    idx p.Decls i >>= fun x1 =>
    if (x1.Kind == 0) = true then
      if (decide (s6.length + 5 ≤ maxLen)) = true then
        if (decide ((s6 ++ [116, 121, 112, 101, 32]).length + x1.Name.length ≤ maxLen)) = true then
          if (decide (((s6 ++ [116, 121, 112, 101, 32]) ++ x1.Name).length + 3 ≤ maxLen)) = true then
            E2 x1.TypeV >>= fun x2 =>
            if (decide ((((s6 ++ [116, 121, 112, 101, 32]) ++ x1.Name) ++ [32, 61, 32]).length + x2.length ≤ maxLen)) = true then
              if (decide (((((s6 ++ [116, 121, 112, 101, 32]) ++ x1.Name) ++ [32, 61, 32]) ++ x2).length + 2 ≤ maxLen)) = true then
                B8 p x1 (((((s6 ++ [116, 121, 112, 101, 32]) ++ x1.Name) ++ [32, 61, 32]) ++ x2) ++ [59, 10]) i
              else none
            else none
          else none
        else none
      else none
    else
      B8 p x1 s6 i
  else
    if (decide (s6.length + 6 ≤ maxLen)) = true then
      Ic p.Body [9] >>= fun x10 =>
      if (decide ((s6 ++ [98, 101, 103, 105, 110, 10]).length + x10.length ≤ maxLen)) = true then
        if (decide (((s6 ++ [98, 101, 103, 105, 110, 10]) ++ x10).length + 4 ≤ maxLen)) = true then
          some (((s6 ++ [98, 101, 103, 105, 110, 10]) ++ x10) ++ [101, 110, 100, 10])
        else none
      else none
    else none
  partial_fixpoint
def B8 (p : L0) (x1 : E0) (s : Str) (i1 : Int) : Option Str :=
  if (x1.Kind == 1) = true then
    if (decide (s.length + 7 ≤ maxLen)) = true then
      if (decide ((s ++ [115, 101, 99, 114, 101, 116, 32]).length + x1.Name.length ≤ maxLen)) = true then
        if (decide (((s ++ [115, 101, 99, 114, 101, 116, 32]) ++ x1.Name).length + 2 ≤ maxLen)) = true then
          E2 x1.TypeV >>= fun x3 =>
          if (decide ((((s ++ [115, 101, 99, 114, 101, 116, 32]) ++ x1.Name) ++ [58, 32]).length + x3.length ≤ maxLen)) = true then
            if (decide (((((s ++ [115, 101, 99, 114, 101, 116, 32]) ++ x1.Name) ++ [58, 32]) ++ x3).length + 2 ≤ maxLen)) = true then
              C8 p x1 (((((s ++ [115, 101, 99, 114, 101, 116, 32]) ++ x1.Name) ++ [58, 32]) ++ x3) ++ [59, 10]) i1
            else none
          else none
        else none
      else none
    else none
  else
    C8 p x1 s i1
  partial_fixpoint
def C8 (p : L0) (x1 : E0) (s1 : Str) (i2 : Int) : Option Str :=
  if (x1.Kind == 2) = true then
    if (decide (s1.length + 7 ≤ maxLen)) = true then
      if (decide ((s1 ++ [112, 117, 98, 108, 105, 99, 32]).length + x1.Name.length ≤ maxLen)) = true then
        if (decide (((s1 ++ [112, 117, 98, 108, 105, 99, 32]) ++ x1.Name).length + 2 ≤ maxLen)) = true then
          E2 x1.TypeV >>= fun x4 =>
          if (decide ((((s1 ++ [112, 117, 98, 108, 105, 99, 32]) ++ x1.Name) ++ [58, 32]).length + x4.length ≤ maxLen)) = true then
            if (decide (((((s1 ++ [112, 117, 98, 108, 105, 99, 32]) ++ x1.Name) ++ [58, 32]) ++ x4).length + 2 ≤ maxLen)) = true then
              D8 p x1 (((((s1 ++ [112, 117, 98, 108, 105, 99, 32]) ++ x1.Name) ++ [58, 32]) ++ x4) ++ [59, 10]) i2
            else none
          else none
        else none
      else none
    else none
  else
    D8 p x1 s1 i2
  partial_fixpoint
def D8 (p : L0) (x1 : E0) (s2 : Str) (i3 : Int) : Option Str :=
  if (x1.Kind == 3) = true then
    if (decide (s2.length + 7 ≤ maxLen)) = true then
      if (decide ((s2 ++ [114, 97, 110, 100, 111, 109, 32]).length + x1.Name.length ≤ maxLen)) = true then
        if (decide (((s2 ++ [114, 97, 110, 100, 111, 109, 32]) ++ x1.Name).length + 2 ≤ maxLen)) = true then
          E2 x1.TypeV >>= fun x5 =>
          if (decide ((((s2 ++ [114, 97, 110, 100, 111, 109, 32]) ++ x1.Name) ++ [58, 32]).length + x5.length ≤ maxLen)) = true then
            if (decide (((((s2 ++ [114, 97, 110, 100, 111, 109, 32]) ++ x1.Name) ++ [58, 32]) ++ x5).length + 2 ≤ maxLen)) = true then
              E8 p x1 (((((s2 ++ [114, 97, 110, 100, 111, 109, 32]) ++ x1.Name) ++ [58, 32]) ++ x5) ++ [59, 10]) i3
            else none
          else none
        else none
      else none
    else none
  else
    E8 p x1 s2 i3
  partial_fixpoint
def E8 (p : L0) (x1 : E0) (s3 : Str) (i4 : Int) : Option Str :=
  if (x1.Kind == 4) = true then
    Ah x1 >>= fun x6 =>
    if (decide (s3.length + x6.length ≤ maxLen)) = true then
      F8 p x1 (s3 ++ x6) i4
    else none
  else
    F8 p x1 s3 i4
  partial_fixpoint
def F8 (p : L0) (x1 : E0) (s4 : Str) (i5 : Int) : Option Str :=
  if (x1.Kind == 5) = true then
    if (decide (s4.length + 6 ≤ maxLen)) = true then
      if (decide ((s4 ++ [104, 97, 116, 99, 104, 32]).length + x1.Name.length ≤ maxLen)) = true then
        if (decide (((s4 ++ [104, 97, 116, 99, 104, 32]) ++ x1.Name).length + 2 ≤ maxLen)) = true then
          E2 x1.TypeV >>= fun x7 =>
          if (decide ((((s4 ++ [104, 97, 116, 99, 104, 32]) ++ x1.Name) ++ [58, 32]).length + x7.length ≤ maxLen)) = true then
            if (decide (((((s4 ++ [104, 97, 116, 99, 104, 32]) ++ x1.Name) ++ [58, 32]) ++ x7).length + 3 ≤ maxLen)) = true then
              C1 x1.Value >>= fun x8 =>
              if (decide ((((((s4 ++ [104, 97, 116, 99, 104, 32]) ++ x1.Name) ++ [58, 32]) ++ x7) ++ [32, 61, 32]).length + x8.length ≤ maxLen)) = true then
                if (decide (((((((s4 ++ [104, 97, 116, 99, 104, 32]) ++ x1.Name) ++ [58, 32]) ++ x7) ++ [32, 61, 32]) ++ x8).length + 2 ≤ maxLen)) = true then
                  G8 p x1 (((((((s4 ++ [104, 97, 116, 99, 104, 32]) ++ x1.Name) ++ [58, 32]) ++ x7) ++ [32, 61, 32]) ++ x8) ++ [59, 10]) i5
                else none
              else none
            else none
          else none
        else none
      else none
    else none
  else
    G8 p x1 s4 i5
  partial_fixpoint
def G8 (p : L0) (x1 : E0) (s5 : Str) (i6 : Int) : Option Str :=
  if (x1.Kind == 6) = true then
    Il x1 >>= fun x9 =>
    if (decide (s5.length + x9.length ≤ maxLen)) = true then
      Pa p (s5 ++ x9) (IntKind.i64.wrap (i6 + 1))
    else none
  else
    Pa p s5 (IntKind.i64.wrap (i6 + 1))
  partial_fixpoint
end
abbrev Au (p : L0) (s6 : Str) (i : Int) (res : Str) : Prop := Q0 (Fx.mk C 114 0) (lo (bk (sr (sl (sr (sr (N0 Tryz.f56))))))) (X0 [(1, .ref 0 0), (3, .d (.str s6)), (4, .d (.int .i64 i))]) [.row (L0.cells p) 25] (Am.InBlock 0 (Am.Then (Fx.mk C 114 0) (sr (sr (sr (N0 Tryz.f56)))) (Am.Ends (Fx.mk C 114 0) Tryz.f56.results.toList (fun x H' => H' = [] ∧ x = .d (.str res)))))
abbrev Bu (p : L0) (x1 : E0) (s : Str) (i1 : Int) (res : Str) : Prop := AEx (Fx.mk C 114 0) (sr (sr (bk (sl (sr (lo (bk (sr (sl (sr (sr (N0 Tryz.f56)))))))))))) (X0 [(1, .ref 0 0), (3, .d (.str s)), (4, .d (.int .i64 i1)), (5, .ref 1 0)]) [.row (L0.cells p) 25, .row (E0.cells x1) 64] (Am.InBlock 1 (Am.Then (Fx.mk C 114 0) (sr (sr (lo (bk (sr (sl (sr (sr (N0 Tryz.f56))))))))) (Am.Again (Fx.mk C 114 0) (lo (bk (sr (sl (sr (sr (N0 Tryz.f56))))))) (Am.InBlock 0 (Am.Then (Fx.mk C 114 0) (sr (sr (sr (N0 Tryz.f56)))) (Am.Ends (Fx.mk C 114 0) Tryz.f56.results.toList (fun x H' => H' = [] ∧ x = .d (.str res))))))))
abbrev Cu (p : L0) (x1 : E0) (s1 : Str) (i2 : Int) (res : Str) : Prop := AEx (Fx.mk C 114 0) (sr (sr (sr (bk (sl (sr (lo (bk (sr (sl (sr (sr (N0 Tryz.f56))))))))))))) (X0 [(1, .ref 0 0), (3, .d (.str s1)), (4, .d (.int .i64 i2)), (5, .ref 1 0)]) [.row (L0.cells p) 25, .row (E0.cells x1) 64] (Am.InBlock 1 (Am.Then (Fx.mk C 114 0) (sr (sr (lo (bk (sr (sl (sr (sr (N0 Tryz.f56))))))))) (Am.Again (Fx.mk C 114 0) (lo (bk (sr (sl (sr (sr (N0 Tryz.f56))))))) (Am.InBlock 0 (Am.Then (Fx.mk C 114 0) (sr (sr (sr (N0 Tryz.f56)))) (Am.Ends (Fx.mk C 114 0) Tryz.f56.results.toList (fun x H' => H' = [] ∧ x = .d (.str res))))))))
abbrev Du (p : L0) (x1 : E0) (s2 : Str) (i3 : Int) (res : Str) : Prop := AEx (Fx.mk C 114 0) (sr (sr (sr (sr (bk (sl (sr (lo (bk (sr (sl (sr (sr (N0 Tryz.f56)))))))))))))) (X0 [(1, .ref 0 0), (3, .d (.str s2)), (4, .d (.int .i64 i3)), (5, .ref 1 0)]) [.row (L0.cells p) 25, .row (E0.cells x1) 64] (Am.InBlock 1 (Am.Then (Fx.mk C 114 0) (sr (sr (lo (bk (sr (sl (sr (sr (N0 Tryz.f56))))))))) (Am.Again (Fx.mk C 114 0) (lo (bk (sr (sl (sr (sr (N0 Tryz.f56))))))) (Am.InBlock 0 (Am.Then (Fx.mk C 114 0) (sr (sr (sr (N0 Tryz.f56)))) (Am.Ends (Fx.mk C 114 0) Tryz.f56.results.toList (fun x H' => H' = [] ∧ x = .d (.str res))))))))
abbrev Eu (p : L0) (x1 : E0) (s3 : Str) (i4 : Int) (res : Str) : Prop := AEx (Fx.mk C 114 0) (sr (sr (sr (sr (sr (bk (sl (sr (lo (bk (sr (sl (sr (sr (N0 Tryz.f56))))))))))))))) (X0 [(1, .ref 0 0), (3, .d (.str s3)), (4, .d (.int .i64 i4)), (5, .ref 1 0)]) [.row (L0.cells p) 25, .row (E0.cells x1) 64] (Am.InBlock 1 (Am.Then (Fx.mk C 114 0) (sr (sr (lo (bk (sr (sl (sr (sr (N0 Tryz.f56))))))))) (Am.Again (Fx.mk C 114 0) (lo (bk (sr (sl (sr (sr (N0 Tryz.f56))))))) (Am.InBlock 0 (Am.Then (Fx.mk C 114 0) (sr (sr (sr (N0 Tryz.f56)))) (Am.Ends (Fx.mk C 114 0) Tryz.f56.results.toList (fun x H' => H' = [] ∧ x = .d (.str res))))))))
abbrev Fu (p : L0) (x1 : E0) (s4 : Str) (i5 : Int) (res : Str) : Prop := AEx (Fx.mk C 114 0) (sr (sr (sr (sr (sr (sr (bk (sl (sr (lo (bk (sr (sl (sr (sr (N0 Tryz.f56)))))))))))))))) (X0 [(1, .ref 0 0), (3, .d (.str s4)), (4, .d (.int .i64 i5)), (5, .ref 1 0)]) [.row (L0.cells p) 25, .row (E0.cells x1) 64] (Am.InBlock 1 (Am.Then (Fx.mk C 114 0) (sr (sr (lo (bk (sr (sl (sr (sr (N0 Tryz.f56))))))))) (Am.Again (Fx.mk C 114 0) (lo (bk (sr (sl (sr (sr (N0 Tryz.f56))))))) (Am.InBlock 0 (Am.Then (Fx.mk C 114 0) (sr (sr (sr (N0 Tryz.f56)))) (Am.Ends (Fx.mk C 114 0) Tryz.f56.results.toList (fun x H' => H' = [] ∧ x = .d (.str res))))))))
abbrev Gu (p : L0) (x1 : E0) (s5 : Str) (i6 : Int) (res : Str) : Prop := AEx (Fx.mk C 114 0) (sr (sr (sr (sr (sr (sr (sr (bk (sl (sr (lo (bk (sr (sl (sr (sr (N0 Tryz.f56))))))))))))))))) (X0 [(1, .ref 0 0), (3, .d (.str s5)), (4, .d (.int .i64 i6)), (5, .ref 1 0)]) [.row (L0.cells p) 25, .row (E0.cells x1) 64] (Am.InBlock 1 (Am.Then (Fx.mk C 114 0) (sr (sr (lo (bk (sr (sl (sr (sr (N0 Tryz.f56))))))))) (Am.Again (Fx.mk C 114 0) (lo (bk (sr (sl (sr (sr (N0 Tryz.f56))))))) (Am.InBlock 0 (Am.Then (Fx.mk C 114 0) (sr (sr (sr (N0 Tryz.f56)))) (Am.Ends (Fx.mk C 114 0) Tryz.f56.results.toList (fun x H' => H' = [] ∧ x = .d (.str res))))))))
theorem Sb (p : L0) : (∀ (s6 : Str) (i : Int) (res : Str), Pa p s6 i = some res → Au p s6 i res) ∧
    (∀ (x1 : E0) (s : Str) (i1 : Int) (res : Str), B8 p x1 s i1 = some res → Bu p x1 s i1 res) ∧
    (∀ (x1 : E0) (s1 : Str) (i2 : Int) (res : Str), C8 p x1 s1 i2 = some res → Cu p x1 s1 i2 res) ∧
    (∀ (x1 : E0) (s2 : Str) (i3 : Int) (res : Str), D8 p x1 s2 i3 = some res → Du p x1 s2 i3 res) ∧
    (∀ (x1 : E0) (s3 : Str) (i4 : Int) (res : Str), E8 p x1 s3 i4 = some res → Eu p x1 s3 i4 res) ∧
    (∀ (x1 : E0) (s4 : Str) (i5 : Int) (res : Str), F8 p x1 s4 i5 = some res → Fu p x1 s4 i5 res) ∧
    (∀ (x1 : E0) (s5 : Str) (i6 : Int) (res : Str), G8 p x1 s5 i6 = some res → Gu p x1 s5 i6 res) := by
  refine Pa.mutual_partial_correctness p
    (fun s6 i res => Au p s6 i res)
    (fun x1 s i1 res => Bu p x1 s i1 res)
    (fun x1 s1 i2 res => Cu p x1 s1 i2 res)
    (fun x1 s2 i3 res => Du p x1 s2 i3 res)
    (fun x1 s3 i4 res => Eu p x1 s3 i4 res)
    (fun x1 s4 i5 res => Fu p x1 s4 i5 res)
    (fun x1 s5 i6 res => Gu p x1 s5 i6 res) ?_ ?_ ?_ ?_ ?_ ?_ ?_
  · intro g1 ih1 s6 i res hh
    refine Q0.unroll ?_
    refine S' (s' rfl rfl (q' rfl (q' rfl (q' rfl (qe' rfl trivial (E0.lenA _) (q' rfl (n' ?_)))))))
    refine ci' rfl hh (fun hh => ?_) (fun hh => ?_)
    · obtain ⟨x1, hx1, hh⟩ := bs' hh
      refine sk' (S' (AEx.block (s' rfl rfl (q' rfl (q' rfl (q' rfl (i' rfl (V0 hx1) (E0.idx hx1) rfl (q' rfl (J0.nf hC rfl (J0.s hC rfl (n' (S' (s' rfl rfl ?_)))))))))))))
      refine q' rfl (q' rfl (q' rfl (n' ?_)))
      refine ci' rfl hh (fun hh => ?_) (fun hh => ?_)
      · obtain ⟨c603, hh⟩ := O0 hh
        obtain ⟨c604, hh⟩ := O0 hh
        obtain ⟨c605, hh⟩ := O0 hh
        obtain ⟨x2, hx2, hh⟩ := bs' hh
        obtain ⟨c606, hh⟩ := O0 hh
        obtain ⟨c607, hh⟩ := O0 hh
        refine AEx.draw hC 12 rfl rfl rfl (Q' rfl (AQ.q hC rfl c603 (Q' rfl (Q' rfl (AQ.q hC rfl c604 (AQ.q hC rfl c605 (Q' rfl (Q' rfl (AQ.c rfl rfl (S8 hx2) (AQ.q hC rfl c606 (AQ.q hC rfl c607 (Q' rfl (Qn' ?_)))))))))))))
        refine n' ?_
        refine AEx.wk ?_ (ih1 _ _ _ _ hh)
        exact ⟨⟨⟨.rfl, rfl⟩, ⟨⟨.rfl, rfl⟩, ⟨⟨.rfl, rfl⟩, ⟨⟨.rfl, rfl⟩, trivial⟩⟩⟩⟩, ⟨⟨rfl, .refl _, rfl⟩, ⟨⟨rfl, .refl _, rfl⟩, trivial⟩⟩, rfl⟩
      refine sk' ?_
      refine AEx.wk ?_ (ih1 _ _ _ _ hh)
      exact ⟨⟨⟨.rfl, rfl⟩, ⟨⟨.rfl, rfl⟩, ⟨⟨.rfl, rfl⟩, ⟨⟨.rfl, rfl⟩, trivial⟩⟩⟩⟩, ⟨⟨rfl, .refl _, rfl⟩, ⟨⟨rfl, .refl _, rfl⟩, trivial⟩⟩, rfl⟩
    obtain ⟨c608, hh⟩ := O0 hh
    obtain ⟨x10, hx10, hh⟩ := bs' hh
    obtain ⟨c609, hh⟩ := O0 hh
    obtain ⟨c610, hh⟩ := O0 hh
    refine ex' (s' rfl rfl (q' rfl (qc' rfl c608 (q' rfl (q' rfl (J0.c rfl rfl (R11 hx10) (qc' rfl c609 (qc' rfl c610 (q' rfl (n' (re' ?_)))))))))))
    obtain rfl := oi' hh
    exact ⟨_, _, [], rfl, .rfl, trivial, rfl, rfl, rfl, rfl⟩
  · intro g2 ih2 x1 s i1 res hh
    refine S' (s' rfl rfl (q' rfl (q' rfl (q' rfl (n' ?_)))))
    refine ci' rfl hh (fun hh => ?_) (fun hh => ?_)
    · obtain ⟨c611, hh⟩ := O0 hh
      obtain ⟨c612, hh⟩ := O0 hh
      obtain ⟨c613, hh⟩ := O0 hh
      obtain ⟨x3, hx3, hh⟩ := bs' hh
      obtain ⟨c614, hh⟩ := O0 hh
      obtain ⟨c615, hh⟩ := O0 hh
      refine AEx.draw hC 12 rfl rfl rfl (Q' rfl (AQ.q hC rfl c611 (Q' rfl (Q' rfl (AQ.q hC rfl c612 (AQ.q hC rfl c613 (Q' rfl (Q' rfl (AQ.c rfl rfl (S8 hx3) (AQ.q hC rfl c614 (AQ.q hC rfl c615 (Q' rfl (Qn' ?_)))))))))))))
      refine n' ?_
      refine AEx.wk ?_ (ih2 _ _ _ _ hh)
      exact ⟨⟨⟨.rfl, rfl⟩, ⟨⟨.rfl, rfl⟩, ⟨⟨.rfl, rfl⟩, ⟨⟨.rfl, rfl⟩, trivial⟩⟩⟩⟩, ⟨⟨rfl, .refl _, rfl⟩, ⟨⟨rfl, .refl _, rfl⟩, trivial⟩⟩, rfl⟩
    refine sk' ?_
    refine AEx.wk ?_ (ih2 _ _ _ _ hh)
    exact ⟨⟨⟨.rfl, rfl⟩, ⟨⟨.rfl, rfl⟩, ⟨⟨.rfl, rfl⟩, ⟨⟨.rfl, rfl⟩, trivial⟩⟩⟩⟩, ⟨⟨rfl, .refl _, rfl⟩, ⟨⟨rfl, .refl _, rfl⟩, trivial⟩⟩, rfl⟩
  · intro g3 ih3 x1 s1 i2 res hh
    refine S' (s' rfl rfl (q' rfl (q' rfl (q' rfl (n' ?_)))))
    refine ci' rfl hh (fun hh => ?_) (fun hh => ?_)
    · obtain ⟨c616, hh⟩ := O0 hh
      obtain ⟨c617, hh⟩ := O0 hh
      obtain ⟨c618, hh⟩ := O0 hh
      obtain ⟨x4, hx4, hh⟩ := bs' hh
      obtain ⟨c619, hh⟩ := O0 hh
      obtain ⟨c620, hh⟩ := O0 hh
      refine AEx.draw hC 12 rfl rfl rfl (Q' rfl (AQ.q hC rfl c616 (Q' rfl (Q' rfl (AQ.q hC rfl c617 (AQ.q hC rfl c618 (Q' rfl (Q' rfl (AQ.c rfl rfl (S8 hx4) (AQ.q hC rfl c619 (AQ.q hC rfl c620 (Q' rfl (Qn' ?_)))))))))))))
      refine n' ?_
      refine AEx.wk ?_ (ih3 _ _ _ _ hh)
      exact ⟨⟨⟨.rfl, rfl⟩, ⟨⟨.rfl, rfl⟩, ⟨⟨.rfl, rfl⟩, ⟨⟨.rfl, rfl⟩, trivial⟩⟩⟩⟩, ⟨⟨rfl, .refl _, rfl⟩, ⟨⟨rfl, .refl _, rfl⟩, trivial⟩⟩, rfl⟩
    refine sk' ?_
    refine AEx.wk ?_ (ih3 _ _ _ _ hh)
    exact ⟨⟨⟨.rfl, rfl⟩, ⟨⟨.rfl, rfl⟩, ⟨⟨.rfl, rfl⟩, ⟨⟨.rfl, rfl⟩, trivial⟩⟩⟩⟩, ⟨⟨rfl, .refl _, rfl⟩, ⟨⟨rfl, .refl _, rfl⟩, trivial⟩⟩, rfl⟩
  · intro g4 ih4 x1 s2 i3 res hh
    refine S' (s' rfl rfl (q' rfl (q' rfl (q' rfl (n' ?_)))))
    refine ci' rfl hh (fun hh => ?_) (fun hh => ?_)
    · obtain ⟨c621, hh⟩ := O0 hh
      obtain ⟨c622, hh⟩ := O0 hh
      obtain ⟨c623, hh⟩ := O0 hh
      obtain ⟨x5, hx5, hh⟩ := bs' hh
      obtain ⟨c624, hh⟩ := O0 hh
      obtain ⟨c625, hh⟩ := O0 hh
      refine AEx.draw hC 12 rfl rfl rfl (Q' rfl (AQ.q hC rfl c621 (Q' rfl (Q' rfl (AQ.q hC rfl c622 (AQ.q hC rfl c623 (Q' rfl (Q' rfl (AQ.c rfl rfl (S8 hx5) (AQ.q hC rfl c624 (AQ.q hC rfl c625 (Q' rfl (Qn' ?_)))))))))))))
      refine n' ?_
      refine AEx.wk ?_ (ih4 _ _ _ _ hh)
      exact ⟨⟨⟨.rfl, rfl⟩, ⟨⟨.rfl, rfl⟩, ⟨⟨.rfl, rfl⟩, ⟨⟨.rfl, rfl⟩, trivial⟩⟩⟩⟩, ⟨⟨rfl, .refl _, rfl⟩, ⟨⟨rfl, .refl _, rfl⟩, trivial⟩⟩, rfl⟩
    refine sk' ?_
    refine AEx.wk ?_ (ih4 _ _ _ _ hh)
    exact ⟨⟨⟨.rfl, rfl⟩, ⟨⟨.rfl, rfl⟩, ⟨⟨.rfl, rfl⟩, ⟨⟨.rfl, rfl⟩, trivial⟩⟩⟩⟩, ⟨⟨rfl, .refl _, rfl⟩, ⟨⟨rfl, .refl _, rfl⟩, trivial⟩⟩, rfl⟩
  · intro g5 ih5 x1 s3 i4 res hh
    refine S' (s' rfl rfl (q' rfl (q' rfl (q' rfl (n' ?_)))))
    refine ci' rfl hh (fun hh => ?_) (fun hh => ?_)
    · obtain ⟨x6, hx6, hh⟩ := bs' hh
      obtain ⟨c626, hh⟩ := O0 hh
      refine R' rfl rfl (q' rfl (q' rfl (J0.c rfl rfl (Vx hx6) (qc' rfl c626 (q' rfl (n' ?_))))))
      refine AEx.wk ?_ (ih5 _ _ _ _ hh)
      exact ⟨⟨⟨.rfl, rfl⟩, ⟨⟨.rfl, rfl⟩, ⟨⟨.rfl, rfl⟩, ⟨⟨.rfl, rfl⟩, trivial⟩⟩⟩⟩, ⟨⟨rfl, .refl _, rfl⟩, ⟨⟨rfl, .refl _, rfl⟩, trivial⟩⟩, rfl⟩
    refine sk' ?_
    refine AEx.wk ?_ (ih5 _ _ _ _ hh)
    exact ⟨⟨⟨.rfl, rfl⟩, ⟨⟨.rfl, rfl⟩, ⟨⟨.rfl, rfl⟩, ⟨⟨.rfl, rfl⟩, trivial⟩⟩⟩⟩, ⟨⟨rfl, .refl _, rfl⟩, ⟨⟨rfl, .refl _, rfl⟩, trivial⟩⟩, rfl⟩
  · intro g6 ih6 x1 s4 i5 res hh
    refine S' (s' rfl rfl (q' rfl (q' rfl (q' rfl (n' ?_)))))
    refine ci' rfl hh (fun hh => ?_) (fun hh => ?_)
    · obtain ⟨c627, hh⟩ := O0 hh
      obtain ⟨c628, hh⟩ := O0 hh
      obtain ⟨c629, hh⟩ := O0 hh
      obtain ⟨x7, hx7, hh⟩ := bs' hh
      obtain ⟨c630, hh⟩ := O0 hh
      obtain ⟨c631, hh⟩ := O0 hh
      obtain ⟨x8, hx8, hh⟩ := bs' hh
      obtain ⟨c632, hh⟩ := O0 hh
      obtain ⟨c633, hh⟩ := O0 hh
      refine AEx.draw hC 17 rfl rfl rfl (Q' rfl (AQ.q hC rfl c627 (Q' rfl (Q' rfl (AQ.q hC rfl c628 (AQ.q hC rfl c629 (Q' rfl (Q' rfl (AQ.c rfl rfl (S8 hx7) (AQ.q hC rfl c630 (AQ.q hC rfl c631 (Q' rfl (Q' rfl ?_)))))))))))))
      refine AQ.c rfl rfl (X5 hx8) (AQ.q hC rfl c632 (AQ.q hC rfl c633 (Q' rfl (Qn' (n' ?_)))))
      refine AEx.wk ?_ (ih6 _ _ _ _ hh)
      exact ⟨⟨⟨.rfl, rfl⟩, ⟨⟨.rfl, rfl⟩, ⟨⟨.rfl, rfl⟩, ⟨⟨.rfl, rfl⟩, trivial⟩⟩⟩⟩, ⟨⟨rfl, .refl _, rfl⟩, ⟨⟨rfl, .refl _, rfl⟩, trivial⟩⟩, rfl⟩
    refine sk' ?_
    refine AEx.wk ?_ (ih6 _ _ _ _ hh)
    exact ⟨⟨⟨.rfl, rfl⟩, ⟨⟨.rfl, rfl⟩, ⟨⟨.rfl, rfl⟩, ⟨⟨.rfl, rfl⟩, trivial⟩⟩⟩⟩, ⟨⟨rfl, .refl _, rfl⟩, ⟨⟨rfl, .refl _, rfl⟩, trivial⟩⟩, rfl⟩
  · intro g0 ih0 x1 s5 i6 res hh
    refine s' rfl rfl (q' rfl (q' rfl (q' rfl (n' ?_))))
    refine ci' rfl hh (fun hh => ?_) (fun hh => ?_)
    · obtain ⟨x9, hx9, hh⟩ := bs' hh
      obtain ⟨c634, hh⟩ := O0 hh
      refine R' rfl rfl (q' rfl (q' rfl (J0.c rfl rfl (X16 hx9) (qc' rfl c634 (q' rfl (n' (R' rfl rfl (q' rfl (q' rfl (q' rfl (n' ?_)))))))))))
      refine Q0.wk ?_ (ih0 _ _ _ hh)
      exact ⟨⟨⟨.rfl, rfl⟩, ⟨⟨.rfl, rfl⟩, ⟨⟨.rfl, rfl⟩, trivial⟩⟩⟩, ⟨⟨rfl, .refl _, rfl⟩, trivial⟩, rfl⟩
    refine sk' (R' rfl rfl (q' rfl (q' rfl (q' rfl (n' ?_)))))
    refine Q0.wk ?_ (ih0 _ _ _ hh)
    exact ⟨⟨⟨.rfl, rfl⟩, ⟨⟨.rfl, rfl⟩, ⟨⟨.rfl, rfl⟩, trivial⟩⟩⟩, ⟨⟨rfl, .refl _, rfl⟩, trivial⟩, rfl⟩
theorem J18 {p : L0} {s6 : Str} {i : Int} {res : Str} (hh : Pa p s6 i = some res) : Au p s6 i res := (Sb p).1 _ _ _ hh
theorem C1r {p : L0} {x1 : E0} {s : Str} {i1 : Int} {res : Str} (hh : B8 p x1 s i1 = some res) : Bu p x1 s i1 res := (Sb p).2.1 _ _ _ _ hh
theorem D1r {p : L0} {x1 : E0} {s1 : Str} {i2 : Int} {res : Str} (hh : C8 p x1 s1 i2 = some res) : Cu p x1 s1 i2 res := (Sb p).2.2.1 _ _ _ _ hh
theorem E1r {p : L0} {x1 : E0} {s2 : Str} {i3 : Int} {res : Str} (hh : D8 p x1 s2 i3 = some res) : Du p x1 s2 i3 res := (Sb p).2.2.2.1 _ _ _ _ hh
theorem F1r {p : L0} {x1 : E0} {s3 : Str} {i4 : Int} {res : Str} (hh : E8 p x1 s3 i4 = some res) : Eu p x1 s3 i4 res := (Sb p).2.2.2.2.1 _ _ _ _ hh
theorem G1r {p : L0} {x1 : E0} {s4 : Str} {i5 : Int} {res : Str} (hh : F8 p x1 s4 i5 = some res) : Fu p x1 s4 i5 res := (Sb p).2.2.2.2.2.1 _ _ _ _ hh
theorem H1r {p : L0} {x1 : E0} {s5 : Str} {i6 : Int} {res : Str} (hh : G8 p x1 s5 i6 = some res) : Gu p x1 s5 i6 res := (Sb p).2.2.2.2.2.2 _ _ _ _ hh
end Go.Proofs.YtmilgoloagbmpaaGreatDoor

set_option maxRecDepth 100000
set_option maxHeartbeats 4000000
set_option linter.unusedVariables false
namespace Go.Proofs.YtmilgoloagbmpaaGreatDoor
open Go.Am
def Ky (p : L0) : Option Str :=
  Pa p [] 0
abbrev C1h (p : L0) (res : Str) : Prop := R0 C 56 [.agg (L0.cells p)] [] (fun x H' => H' = [] ∧ x = .d (.str res))
theorem Z1d {p : L0} {res : Str} (hh : Ky p = some res) : C1h p res := by
  unfold Ky at hh
  refine R0.intro hC Tryz.func56 rfl rfl rfl ?_
  refine s' rfl rfl (J0.n hC rfl (q' rfl (n' (s' rfl rfl (q' rfl (n' (S' (s' rfl rfl (q' rfl (n' (AEx.block ?_)))))))))))
  refine AEx.ofLoop ?_
  refine Q0.wk ?_ (J18 hh)
  exact ⟨⟨⟨.rfl, rfl⟩, ⟨⟨.rfl, rfl⟩, ⟨⟨.rfl, rfl⟩, trivial⟩⟩⟩, ⟨⟨rfl, .refl _, rfl⟩, trivial⟩, rfl⟩
def Ur (p : L0) : Option (Str × Int) :=
  Rr p >>= fun x1 =>
  if (x1 != 0) = true then
    some ([], x1)
  else
    Ky p >>= fun x2 =>
    Sr x2 >>= fun x3 =>
    some (x3.1, x3.2)
abbrev A1e (p : L0) (res : Str × Int) : Prop := R0 C 21 [.agg (L0.cells p)] [] (fun x H' => H' = [] ∧ x = .tup [.d (.str res.1), .d (.int .i64 res.2)])
theorem T1b {p : L0} {res : Str × Int} (hh : Ur p = some res) : A1e p res := by
  unfold Ur at hh
  refine R0.intro hC Tryz.func21 rfl rfl rfl ?_
  obtain ⟨x1, hx1, hh⟩ := bs' hh
  refine s' rfl rfl (J0.n hC rfl (q' rfl (q' rfl (n' (s' rfl rfl (q' rfl (J0.c rfl rfl (Q1b hx1) (q' rfl (n' (S' (s' rfl rfl (q' rfl (q' rfl ?_)))))))))))))
  refine n' ?_
  refine ci' rfl hh (fun hh => ?_) (fun hh => ?_)
  · refine s' rfl rfl (q' rfl (q' rfl (q' rfl (n' (re' ?_)))))
    obtain rfl := oi' hh
    exact ⟨_, _, [], rfl, .rfl, trivial, rfl, rfl, rfl, rfl⟩
  obtain ⟨x2, hx2, hh⟩ := bs' hh
  obtain ⟨x3, hx3, hh⟩ := bs' hh
  refine sk' (s' rfl rfl (q' rfl (J0.c rfl rfl (Z1d hx2) (J0.c rfl rfl (R1b hx3) (q' rfl (q' rfl (q' rfl (q' rfl (n' (re' ?_))))))))))
  obtain rfl := oi' hh
  exact ⟨_, _, [], rfl, .rfl, trivial, rfl, rfl, rfl, rfl⟩
def Ek (p : L0) : Option Bool :=
  Sj >>= fun x1 =>
  if (!x1) = true then
    some false
  else
    Ww p 1200 >>= fun x2 =>
    if (!x2) = true then
      some true
    else
      Gf p >>= fun x3 =>
      Ur p >>= fun x4 =>
      some (bif (x3.1 == x4.1) then (x3.2 == x4.2) else false)
abbrev S13 (p : L0) (res : Bool) : Prop := R0 C 5 [.agg (L0.cells p)] [] (fun x H' => H' = [] ∧ x = .d (.bool res))
theorem V12 {p : L0} {res : Bool} (hh : Ek p = some res) : S13 p res := by
  unfold Ek at hh
  refine R0.intro hC Tryz.func5 rfl rfl rfl ?_
  obtain ⟨x1, hx1, hh⟩ := bs' hh
  refine s' rfl rfl (J0.n hC rfl (q' rfl (n' (S' (s' rfl rfl (J0.c rfl rfl (I1b hx1) (q' rfl (n' ?_))))))))
  refine ci' rfl hh (fun hh => ?_) (fun hh => ?_)
  · refine s' rfl rfl (q' rfl (n' (re' ?_)))
    obtain rfl := oi' hh
    exact ⟨_, _, [], rfl, .rfl, trivial, rfl, rfl, rfl, rfl⟩
  obtain ⟨x2, hx2, hh⟩ := bs' hh
  refine sk' (S' (s' rfl rfl (q' rfl (J0.c rfl rfl (V1g hx2) (q' rfl (n' ?_))))))
  refine ci' rfl hh (fun hh => ?_) (fun hh => ?_)
  · refine s' rfl rfl (q' rfl (n' (re' ?_)))
    obtain rfl := oi' hh
    exact ⟨_, _, [], rfl, .rfl, trivial, rfl, rfl, rfl, rfl⟩
  obtain ⟨x3, hx3, hh⟩ := bs' hh
  obtain ⟨x4, hx4, hh⟩ := bs' hh
  refine sk' (s' rfl rfl (q' rfl (J0.c rfl rfl (B10 hx3) (q' rfl (q' rfl (q' rfl (q' rfl (q' rfl (n' (s' rfl rfl (q' rfl (J0.c rfl rfl (T1b hx4) (q' rfl ?_)))))))))))))
  iterate 4 refine q' rfl ?_
  refine n' (sg' 9 rfl (a0' rfl (a0' rfl (a0' rfl (a0' rfl (a0' rfl (a0' rfl (a2' rfl (pa' rfl (a0' rfl (an' (n' (re' ?_)))))))))))))
  obtain rfl := oi' hh
  exact ⟨_, _, [], rfl, .rfl, trivial, rfl, rfl, rfl, rfl⟩
end Go.Proofs.YtmilgoloagbmpaaGreatDoor

set_option maxRecDepth 100000
set_option maxHeartbeats 4000000
set_option linter.unusedVariables false
namespace Go.Proofs.YtmilgoloagbmpaaGreatDoor
open Go.Am
def Vr (fu : Nat) (n : Int) : Option A0 :=
  some (A0.mk 0 n [] [])
theorem D1h (fu : Nat) (n : Int) : Le (Vr fu n) (Bp n) := by
  unfold Vr Bp
  repeat (first | exact Le.rfl | exact T0 _ | refine Le.bind ?_ (fun _ => ?_) | refine Le.ite ?_ ?_)
def Qd (fu : Nat) (o : Int) (kids : List A0) : Option A0 :=
  some (A0.mk o 0 [] kids)
theorem B1e (fu : Nat) (o : Int) (kids : List A0) : Le (Qd fu o kids) (Ld o kids) := by
  unfold Qd Ld
  repeat (first | exact Le.rfl | exact T0 _ | refine Le.bind ?_ (fun _ => ?_) | refine Le.ite ?_ ?_)
def Jc (fu : Nat) (s : Str) : Option A0 :=
  some (A0.mk 3 0 s [])
theorem C1e (fu : Nat) (s : Str) : Le (Jc fu s) (Rc s) := by
  unfold Jc Rc
  repeat (first | exact Le.rfl | exact T0 _ | refine Le.bind ?_ (fun _ => ?_) | refine Le.ite ?_ ?_)
def Sd (fu : Nat) (d : Int) (syntaxReport : C0) : Option C0 :=
  some (C0.mk syntaxReport.nodes (max syntaxReport.depth d) syntaxReport.badForm syntaxReport.badName syntaxReport.badNumber)
theorem P1 (fu : Nat) (d : Int) (syntaxReport : C0) : Le (Sd fu d syntaxReport) (B6 d syntaxReport) := by
  unfold Sd B6
  repeat (first | exact Le.rfl | exact T0 _ | refine Le.bind ?_ (fun _ => ?_) | refine Le.ite ?_ ?_)
def Ig (fu : Nat) (op : Int) (v9 : Bool) : Option Int :=
  if v9 = true then
    some 1
  else
    if (op == 5) = true then
      some 2
    else
      if (op == 23) = true then
        some 3
      else
        if (bif (decide (op ≥ 8)) then (decide (op ≤ 22)) else false) = true then
          some 2
        else
          some (-1)
theorem Y14 (fu : Nat) (op : Int) (v9 : Bool) : Le (Ig fu op v9) (Tb op v9) := by
  unfold Ig Tb
  repeat (first | exact Le.rfl | exact T0 _ | refine Le.bind ?_ (fun _ => ?_) | refine Le.ite ?_ ?_)
def Ce (fu : Nat) (op : Int) (v4 : Bool) : Option Int :=
  if v4 = true then
    some 0
  else
    if (op == 4) = true then
      Ig fu op (op == 4)
    else
      if (op == 6) = true then
        Ig fu op (op == 6)
      else
        Ig fu op (op == 7)
theorem Z14 (fu : Nat) (op : Int) (v4 : Bool) : Le (Ce fu op v4) (B9 op v4) := by
  unfold Ce B9
  repeat (first | exact Le.rfl | exact Y14 fu _ _ | exact T0 _ | refine Le.bind ?_ (fun _ => ?_) | refine Le.ite ?_ ?_)
def Rv (fu : Nat) (op : Int) : Option Int :=
  if (op == 0) = true then
    Ce fu op (op == 0)
  else
    if (op == 1) = true then
      Ce fu op (op == 1)
    else
      if (op == 2) = true then
        Ce fu op (op == 2)
      else
        Ce fu op (op == 3)
theorem Aj (fu : Nat) (op : Int) : Le (Rv fu op) (Hh op) := by
  unfold Rv Hh
  repeat (first | exact Le.rfl | exact Z14 fu _ _ | exact T0 _ | refine Le.bind ?_ (fun _ => ?_) | refine Le.ite ?_ ?_)
def A1 (fu : Nat) (ok : Bool) (syntaxReport : C0) : Option C0 :=
  some (C0.mk syntaxReport.nodes syntaxReport.depth (bif syntaxReport.badForm then true else (!ok)) syntaxReport.badName syntaxReport.badNumber)
theorem E1 (fu : Nat) (ok : Bool) (syntaxReport : C0) : Le (A1 fu ok syntaxReport) (W0 ok syntaxReport) := by
  unfold A1 W0
  repeat (first | exact Le.rfl | exact T0 _ | refine Le.bind ?_ (fun _ => ?_) | refine Le.ite ?_ ?_)
def Jg : Nat → A0 → Option Bool
  | 0, _ => none
  | fu + 1, o0 =>
    if (bif (o0.Op == 4) then true else (o0.Op == 5)) = true then
      if (((o0.Kids).length : Int) == 0) = true then
        some false
      else
        idx o0.Kids 0 >>= fun x1 =>
        Jg fu x1
    else
      some (o0.Op == 3)
theorem T13 (fu : Nat) : (∀ (o0 : A0), Le (Jg fu o0) (C9 o0)) := by
  induction fu with
  | zero => exact fun _ => Le.none
  | succ fu ih =>
    have ih0 := ih
    refine fun o0 => ?_
    · rw [Jg, C9]
      repeat (first | exact Le.rfl | exact ih0 _ | exact T0 _ | refine Le.bind ?_ (fun _ => ?_) | refine Le.ite ?_ ?_)
theorem A15 (fu : Nat) (o0 : A0) : Le (Jg fu o0) (C9 o0) := (T13 fu) o0
def Dq (fu : Nat) (e : A0) : Option Bool :=
  Jg fu e
theorem F7 (fu : Nat) (e : A0) : Le (Dq fu e) (Ef e) := by
  unfold Dq Ef
  repeat (first | exact Le.rfl | exact A15 fu _ | exact T0 _ | refine Le.bind ?_ (fun _ => ?_) | refine Le.ite ?_ ?_)
def Ct (fu : Nat) (c : Int) : Option Bool :=
  some (bif (decide (c ≥ 97)) then (decide (c ≤ 122)) else false)
theorem Y16 (fu : Nat) (c : Int) : Le (Ct fu c) (Zg c) := by
  unfold Ct Zg
  repeat (first | exact Le.rfl | exact T0 _ | refine Le.bind ?_ (fun _ => ?_) | refine Le.ite ?_ ?_)
def Hu (fu : Nat) (c : Int) : Option Bool :=
  some (bif (decide (c ≥ 48)) then (decide (c ≤ 57)) else false)
theorem K18 (fu : Nat) (c : Int) : Le (Hu fu c) (Ri c) := by
  unfold Hu Ri
  repeat (first | exact Le.rfl | exact T0 _ | refine Le.bind ?_ (fun _ => ?_) | refine Le.ite ?_ ?_)
def Kg : Nat → Str → Int → Option Bool
  | 0, _, _ => none
  | fu + 1, s, v6 =>
    if (decide (v6 < ((s).length : Int))) = true then
      idx s v6 >>= fun x1 =>
      Ct fu (x1.toNat : Int) >>= fun x2 =>
      (if ((!x2) && (!(v6 == 0))) = true then idx s v6 else some default) >>= fun x3 =>
      (if ((!x2) && (!(v6 == 0))) = true then Hu fu (x3.toNat : Int) else some default) >>= fun x4 =>
      if (bif (!x2) then (bif (v6 == 0) then true else (!x4)) else false) = true then
        some false
      else
        Kg fu s (IntKind.i64.wrap (v6 + 1))
    else
      some (!(s == []))
theorem U13 (fu : Nat) : (∀ (s : Str) (v6 : Int), Le (Kg fu s v6) (C6 s v6)) := by
  induction fu with
  | zero => exact fun _ _ => Le.none
  | succ fu ih =>
    have ih0 := ih
    refine fun s v6 => ?_
    · rw [Kg, C6]
      repeat (first | exact Le.rfl | exact ih0 _ _ | exact Y16 fu _ | exact K18 fu _ | exact T0 _ | refine Le.bind ?_ (fun _ => ?_) | refine Le.ite ?_ ?_)
theorem B15 (fu : Nat) (s : Str) (v6 : Int) : Le (Kg fu s v6) (C6 s v6) := (U13 fu) s v6
def Sv (fu : Nat) (s : Str) : Option Bool :=
  Kg fu s 0
theorem G1a (fu : Nat) (s : Str) : Le (Sv fu s) (Mk s) := by
  unfold Sv Mk
  repeat (first | exact Le.rfl | exact B15 fu _ _ | exact T0 _ | refine Le.bind ?_ (fun _ => ?_) | refine Le.ite ?_ ?_)
def Dt (fu : Nat) (A4 : Str) : Option Bool :=
  (if (!(A4 == [])) = true then Sl A4 [32] else some default) >>= fun x1 =>
  if (!(bif (!(A4 == [])) then (!x1) else false) || (decide (1 + A4.length ≤ maxLen))) = true then
    if (!(bif (!(A4 == [])) then (!x1) else false) || (decide (([32] ++ A4).length + 1 ≤ maxLen))) = true then
      (if (bif (!(A4 == [])) then (!x1) else false) = true then Sl [32, 116, 121, 112, 101, 32, 115, 101, 99, 114, 101, 116, 32, 112, 117, 98, 108, 105, 99, 32, 114, 97, 110, 100, 111, 109, 32, 118, 97, 114, 32, 104, 97, 116, 99, 104, 32, 102, 117, 110, 99, 32, 114, 101, 116, 117, 114, 110, 32, 98, 101, 103, 105, 110, 32, 101, 110, 100, 32, 98, 111, 111, 108, 32, 105, 110, 116, 32, 97, 114, 114, 97, 121, 32, 111, 102, 32, 114, 101, 99, 111, 114, 100, 32, 116, 114, 117, 101, 32, 102, 97, 108, 115, 101, 32, 99, 97, 108, 108, 32, 114, 101, 108, 101, 97, 115, 101, 32, 111, 117, 116, 112, 117, 116, 32, 119, 97, 105, 116, 32, 105, 102, 32, 101, 108, 115, 101, 32, 119, 104, 105, 108, 101, 32, 108, 105, 109, 105, 116, 32, 102, 111, 114, 32, 116, 111, 32, 115, 101, 116, 116, 108, 101, 32, 109, 105, 110, 32, 109, 97, 120, 32] (([32] ++ A4) ++ [32]) else some default) >>= fun x2 =>
      some (bif (bif (!(A4 == [])) then (!x1) else false) then x2 else false)
    else none
  else none
theorem Z16 (fu : Nat) (A4 : Str) : Le (Dt fu A4) (Re A4) := by
  unfold Dt Re
  repeat (first | exact Le.rfl | exact T0 _ | refine Le.bind ?_ (fun _ => ?_) | refine Le.ite ?_ ?_)
def Tv (fu : Nat) (s : Str) : Option Bool :=
  (if (decide (((s).length : Int) ≤ 12)) = true then Sv fu s else some default) >>= fun x1 =>
  (if (bif (decide (((s).length : Int) ≤ 12)) then x1 else false) = true then Dt fu s else some default) >>= fun x2 =>
  some (bif (bif (decide (((s).length : Int) ≤ 12)) then x1 else false) then (!x2) else false)
theorem H1a (fu : Nat) (s : Str) : Le (Tv fu s) (Qk s) := by
  unfold Tv Qk
  repeat (first | exact Le.rfl | exact G1a fu _ | exact Z16 fu _ | exact T0 _ | refine Le.bind ?_ (fun _ => ?_) | refine Le.ite ?_ ?_)
def Iu (fu : Nat) (s : Str) : Option Bool :=
  Tv fu s >>= fun x1 =>
  some x1
theorem L18 (fu : Nat) (s : Str) : Le (Iu fu s) (Cg s) := by
  unfold Iu Cg
  repeat (first | exact Le.rfl | exact H1a fu _ | exact T0 _ | refine Le.bind ?_ (fun _ => ?_) | refine Le.ite ?_ ?_)
def X7 (fu : Nat) (s : Str) (syntaxReport : C0) : Option C0 :=
  (if (!syntaxReport.badName) = true then Iu fu s else some default) >>= fun x1 =>
  some (C0.mk syntaxReport.nodes syntaxReport.depth syntaxReport.badForm (bif syntaxReport.badName then true else (!x1)) syntaxReport.badNumber)
theorem I1 (fu : Nat) (s : Str) (syntaxReport : C0) : Le (X7 fu s syntaxReport) (T3 s syntaxReport) := by
  unfold X7 T3
  repeat (first | exact Le.rfl | exact L18 fu _ | exact T0 _ | refine Le.bind ?_ (fun _ => ?_) | refine Le.ite ?_ ?_)
def C4 (fu : Nat) (n : Int) (low : Int) (high : Int) : Option Bool :=
  some (bif (decide (n ≥ low)) then (decide (n ≤ high)) else false)
theorem C2 (fu : Nat) (n : Int) (low : Int) (high : Int) : Le (C4 fu n low high) (I3 n low high) := by
  unfold C4 I3
  repeat (first | exact Le.rfl | exact T0 _ | refine Le.bind ?_ (fun _ => ?_) | refine Le.ite ?_ ?_)
def J2 (fu : Nat) (ok : Bool) (syntaxReport : C0) : Option C0 :=
  some (C0.mk syntaxReport.nodes syntaxReport.depth syntaxReport.badForm syntaxReport.badName (bif syntaxReport.badNumber then true else (!ok)))
theorem J1 (fu : Nat) (ok : Bool) (syntaxReport : C0) : Le (J2 fu ok syntaxReport) (O1 ok syntaxReport) := by
  unfold J2 O1
  repeat (first | exact Le.rfl | exact T0 _ | refine Le.bind ?_ (fun _ => ?_) | refine Le.ite ?_ ?_)
mutual
def Y7 : Nat → A0 → Int → C0 → Option C0
  | 0, _, _, _ => none
  | fu + 1, e, depth, syntaxReport =>
    Sd fu depth (C0.mk (IntKind.i64.wrap (syntaxReport.nodes + 1)) syntaxReport.depth syntaxReport.badForm syntaxReport.badName syntaxReport.badNumber) >>= fun x1 =>
    Rv fu e.Op >>= fun x2 =>
    A1 fu (x2 == ((e.Kids).length : Int)) x1 >>= fun x3 =>
    A1 fu (bif (e.NV == 0) then true else (e.Op == 0)) x3 >>= fun x4 =>
    A1 fu (bif (e.Name == []) then true else (bif (e.Op == 3) then true else (e.Op == 4))) x4 >>= fun x5 =>
    if (bif (e.Op == 4) then true else (e.Op == 5)) = true then
      Dq fu e >>= fun x6 =>
      A1 fu x6 x5 >>= fun x7 =>
      Za fu e depth x7
    else
      Za fu e depth x5
def Za : Nat → A0 → Int → C0 → Option C0
  | 0, _, _, _ => none
  | fu + 1, e, depth, o0 =>
    if (bif (e.Op == 3) then true else (e.Op == 4)) = true then
      X7 fu e.Name o0 >>= fun x8 =>
      Ab fu e depth x8
    else
      Ab fu e depth o0
def Ab : Nat → A0 → Int → C0 → Option C0
  | 0, _, _, _ => none
  | fu + 1, e, depth, o01 =>
    if (e.Op == 0) = true then
      C4 fu e.NV 0 1048576 >>= fun x9 =>
      J2 fu x9 o01 >>= fun x10 =>
      Bb fu e depth x10
    else
      Bb fu e depth o01
def Bb : Nat → A0 → Int → C0 → Option C0
  | 0, _, _, _ => none
  | fu + 1, e, depth, o02 =>
    Cb fu e depth o02 0
def Cb : Nat → A0 → Int → C0 → Int → Option C0
  | 0, _, _, _, _ => none
  | fu + 1, e, depth, o03, v82 =>
    if (decide (v82 < ((e.Kids).length : Int))) = true then
      idx e.Kids v82 >>= fun x11 =>
      Y7 fu x11 (IntKind.i64.wrap (depth + 1)) o03 >>= fun x12 =>
      Cb fu e depth x12 (IntKind.i64.wrap (v82 + 1))
    else
      some o03
end
theorem Kc (fu : Nat) : (∀ (e : A0) (depth : Int) (syntaxReport : C0), Le (Y7 fu e depth syntaxReport) (F2 e depth syntaxReport)) ∧ (∀ (e : A0) (depth : Int) (o0 : C0), Le (Za fu e depth o0) (S4 e depth o0)) ∧ (∀ (e : A0) (depth : Int) (o01 : C0), Le (Ab fu e depth o01) (U5 e depth o01)) ∧ (∀ (e : A0) (depth : Int) (o02 : C0), Le (Bb fu e depth o02) (V5 e depth o02)) ∧ (∀ (e : A0) (depth : Int) (o03 : C0) (v82 : Int), Le (Cb fu e depth o03 v82) (P2 e depth o03 v82)) := by
  induction fu with
  | zero => exact ⟨fun _ _ _ => Le.none, fun _ _ _ => Le.none, fun _ _ _ => Le.none, fun _ _ _ => Le.none, fun _ _ _ _ => Le.none⟩
  | succ fu ih =>
    obtain ⟨ih0, ih1, ih2, ih3, ih4⟩ := ih
    refine ⟨fun e depth syntaxReport => ?_, fun e depth o0 => ?_, fun e depth o01 => ?_, fun e depth o02 => ?_, fun e depth o03 v82 => ?_⟩
    · rw [Y7, F2]
      repeat (first | exact Le.rfl | exact ih0 _ _ _ | exact ih1 _ _ _ | exact ih2 _ _ _ | exact ih3 _ _ _ | exact ih4 _ _ _ _ | exact P1 fu _ _ | exact Aj fu _ | exact E1 fu _ _ | exact F7 fu _ | exact I1 fu _ _ | exact C2 fu _ _ _ | exact J1 fu _ _ | exact T0 _ | refine Le.bind ?_ (fun _ => ?_) | refine Le.ite ?_ ?_)
    · rw [Za, S4]
      repeat (first | exact Le.rfl | exact ih0 _ _ _ | exact ih1 _ _ _ | exact ih2 _ _ _ | exact ih3 _ _ _ | exact ih4 _ _ _ _ | exact P1 fu _ _ | exact Aj fu _ | exact E1 fu _ _ | exact F7 fu _ | exact I1 fu _ _ | exact C2 fu _ _ _ | exact J1 fu _ _ | exact T0 _ | refine Le.bind ?_ (fun _ => ?_) | refine Le.ite ?_ ?_)
    · rw [Ab, U5]
      repeat (first | exact Le.rfl | exact ih0 _ _ _ | exact ih1 _ _ _ | exact ih2 _ _ _ | exact ih3 _ _ _ | exact ih4 _ _ _ _ | exact P1 fu _ _ | exact Aj fu _ | exact E1 fu _ _ | exact F7 fu _ | exact I1 fu _ _ | exact C2 fu _ _ _ | exact J1 fu _ _ | exact T0 _ | refine Le.bind ?_ (fun _ => ?_) | refine Le.ite ?_ ?_)
    · rw [Bb, V5]
      repeat (first | exact Le.rfl | exact ih0 _ _ _ | exact ih1 _ _ _ | exact ih2 _ _ _ | exact ih3 _ _ _ | exact ih4 _ _ _ _ | exact P1 fu _ _ | exact Aj fu _ | exact E1 fu _ _ | exact F7 fu _ | exact I1 fu _ _ | exact C2 fu _ _ _ | exact J1 fu _ _ | exact T0 _ | refine Le.bind ?_ (fun _ => ?_) | refine Le.ite ?_ ?_)
    · rw [Cb, P2]
      repeat (first | exact Le.rfl | exact ih0 _ _ _ | exact ih1 _ _ _ | exact ih2 _ _ _ | exact ih3 _ _ _ | exact ih4 _ _ _ _ | exact P1 fu _ _ | exact Aj fu _ | exact E1 fu _ _ | exact F7 fu _ | exact I1 fu _ _ | exact C2 fu _ _ _ | exact J1 fu _ _ | exact T0 _ | refine Le.bind ?_ (fun _ => ?_) | refine Le.ite ?_ ?_)
theorem Y6 (fu : Nat) (e : A0) (depth : Int) (syntaxReport : C0) : Le (Y7 fu e depth syntaxReport) (F2 e depth syntaxReport) := (Kc fu).1 e depth syntaxReport
theorem E1h (fu : Nat) (e : A0) (depth : Int) (o0 : C0) : Le (Za fu e depth o0) (S4 e depth o0) := (Kc fu).2.1 e depth o0
theorem F1h (fu : Nat) (e : A0) (depth : Int) (o01 : C0) : Le (Ab fu e depth o01) (U5 e depth o01) := (Kc fu).2.2.1 e depth o01
theorem G1h (fu : Nat) (e : A0) (depth : Int) (o02 : C0) : Le (Bb fu e depth o02) (V5 e depth o02) := (Kc fu).2.2.2.1 e depth o02
theorem H1h (fu : Nat) (e : A0) (depth : Int) (o03 : C0) (v82 : Int) : Le (Cb fu e depth o03 v82) (P2 e depth o03 v82) := (Kc fu).2.2.2.2 e depth o03 v82
def Td (fu : Nat) (syntaxReport : C0) : Option Int :=
  if (bif (decide (syntaxReport.nodes > 1024)) then true else (decide (syntaxReport.depth > 12))) = true then
    some 4
  else
    if syntaxReport.badForm = true then
      some 1
    else
      if syntaxReport.badName = true then
        some 7
      else
        if syntaxReport.badNumber = true then
          some 3
        else
          some 0
theorem Jl (fu : Nat) (syntaxReport : C0) : Le (Td fu syntaxReport) (H5 syntaxReport) := by
  unfold Td H5
  repeat (first | exact Le.rfl | exact T0 _ | refine Le.bind ?_ (fun _ => ?_) | refine Le.ite ?_ ?_)
def Bj (fu : Nat) (e : A0) : Option Int :=
  Y7 fu e 1 (C0.mk 0 0 false false false) >>= fun x1 =>
  Td fu x1 >>= fun x2 =>
  some x2
theorem Hv (fu : Nat) (e : A0) : Le (Bj fu e) (Se e) := by
  unfold Bj Se
  repeat (first | exact Le.rfl | exact Y6 fu _ _ _ | exact Jl fu _ | exact T0 _ | refine Le.bind ?_ (fun _ => ?_) | refine Le.ite ?_ ?_)
def Lg (fu : Nat) (op : Int) (v20 : Bool) : Option Int :=
  if v20 = true then
    some 5
  else
    if (op == 6) = true then
      if (op == 6) = true then
        some 6
      else
        some 7
    else
      if (op == 7) = true then
        some 6
      else
        some 7
theorem C15 (fu : Nat) (op : Int) (v20 : Bool) : Le (Lg fu op v20) (Ub op v20) := by
  unfold Lg Ub
  repeat (first | exact Le.rfl | exact T0 _ | refine Le.bind ?_ (fun _ => ?_) | refine Le.ite ?_ ?_)
def Fk (fu : Nat) (op : Int) (v17 : Bool) : Option Int :=
  if v17 = true then
    some 4
  else
    if (op == 10) = true then
      Lg fu op (op == 10)
    else
      if (op == 11) = true then
        Lg fu op (op == 11)
      else
        Lg fu op (op == 12)
theorem D15 (fu : Nat) (op : Int) (v17 : Bool) : Le (Fk fu op v17) (Md op v17) := by
  unfold Fk Md
  repeat (first | exact Le.rfl | exact C15 fu _ _ | exact T0 _ | refine Le.bind ?_ (fun _ => ?_) | refine Le.ite ?_ ?_)
def V8 (fu : Nat) (op : Int) (v10 : Bool) : Option Int :=
  if v10 = true then
    some 3
  else
    if (op == 8) = true then
      Fk fu op (op == 8)
    else
      Fk fu op (op == 9)
theorem E15 (fu : Nat) (op : Int) (v10 : Bool) : Le (V8 fu op v10) (D6 op v10) := by
  unfold V8 D6
  repeat (first | exact Le.rfl | exact D15 fu _ _ | exact T0 _ | refine Le.bind ?_ (fun _ => ?_) | refine Le.ite ?_ ?_)
def Eq (fu : Nat) (op : Int) : Option Int :=
  if (op == 23) = true then
    some 0
  else
    if (op == 20) = true then
      some 1
    else
      if (op == 19) = true then
        some 2
      else
        if (op == 13) = true then
          V8 fu op (op == 13)
        else
          if (op == 14) = true then
            V8 fu op (op == 14)
          else
            if (op == 15) = true then
              V8 fu op (op == 15)
            else
              if (op == 16) = true then
                V8 fu op (op == 16)
              else
                if (op == 17) = true then
                  V8 fu op (op == 17)
                else
                  V8 fu op (op == 18)
theorem G7 (fu : Nat) (op : Int) : Le (Eq fu op) (Ff op) := by
  unfold Eq Ff
  repeat (first | exact Le.rfl | exact E15 fu _ _ | exact T0 _ | refine Le.bind ?_ (fun _ => ?_) | refine Le.ite ?_ ?_)
mutual
def F1 : Nat → A0 → Str → Option Str
  | 0, _, _ => none
  | fu + 1, e, b =>
    if (e.Op == 0) = true then
      Ag e.NV >>= fun x1 =>
      F0 x1 b >>= fun x2 =>
      some x2.2
    else
      if (e.Op == 1) = true then
        F0 [116, 114, 117, 101] b >>= fun x3 =>
        some x3.2
      else
        if (e.Op == 2) = true then
          F0 [102, 97, 108, 115, 101] b >>= fun x4 =>
          some x4.2
        else
          if (e.Op == 3) = true then
            F0 e.Name b >>= fun x5 =>
            some x5.2
          else
            if (e.Op == 4) = true then
              idx e.Kids 0 >>= fun x6 =>
              F1 fu x6 b >>= fun x14 =>
              if (decide (1 + e.Name.length ≤ maxLen)) = true then
                F0 ([46] ++ e.Name) x14 >>= fun x15 =>
                some x15.2
              else none
            else
              if (e.Op == 5) = true then
                idx e.Kids 0 >>= fun x7 =>
                F1 fu x7 b >>= fun x16 =>
                F0 [91] x16 >>= fun x17 =>
                idx e.Kids 1 >>= fun x18 =>
                F1 fu x18 x17.2 >>= fun x19 =>
                F0 [93] x19 >>= fun x20 =>
                some x20.2
              else
                if (e.Op == 6) = true then
                  V9 fu e b (e.Op == 6)
                else
                  V9 fu e b (e.Op == 7)
def V9 : Nat → A0 → Str → Bool → Option Str
  | 0, _, _, _ => none
  | fu + 1, e, b, v77 =>
    if v77 = true then
      if (e.Op == 7) = true then
        W9 fu e b [33]
      else
        W9 fu e b [45]
    else
      if (e.Op == 21) = true then
        X9 fu e b (e.Op == 21)
      else
        X9 fu e b (e.Op == 22)
def W9 : Nat → A0 → Str → Str → Option Str
  | 0, _, _, _ => none
  | fu + 1, e, b, Ge =>
    F0 Ge b >>= fun x8 =>
    idx e.Kids 0 >>= fun x9 =>
    Z7 fu x9 6 x8.2 >>= fun x21 =>
    some x21
def Z7 : Nat → A0 → Int → Str → Option Str
  | 0, _, _, _ => none
  | fu + 1, e, required, b =>
    Eq fu e.Op >>= fun x1 =>
    if (decide (x1 ≥ required)) = true then
      F1 fu e b >>= fun x3 =>
      some x3
    else
      F0 [40] b >>= fun x2 =>
      F1 fu e x2.2 >>= fun x4 =>
      F0 [41] x4 >>= fun x5 =>
      some x5.2
def X9 : Nat → A0 → Str → Bool → Option Str
  | 0, _, _, _ => none
  | fu + 1, e, b, v94 =>
    if v94 = true then
      if (e.Op == 22) = true then
        Y9 fu e b [109, 97, 120, 40]
      else
        Y9 fu e b [109, 105, 110, 40]
    else
      if (e.Op == 23) = true then
        idx e.Kids 0 >>= fun x13 =>
        Z7 fu x13 1 b >>= fun x22 =>
        F0 [32, 63, 32] x22 >>= fun x23 =>
        idx e.Kids 1 >>= fun x24 =>
        F1 fu x24 x23.2 >>= fun x25 =>
        F0 [32, 58, 32] x25 >>= fun x26 =>
        idx e.Kids 2 >>= fun x27 =>
        F1 fu x27 x26.2 >>= fun x28 =>
        some x28
      else
        Je fu e b >>= fun x29 =>
        some x29
def Y9 : Nat → A0 → Str → Str → Option Str
  | 0, _, _, _ => none
  | fu + 1, e, b, A4 =>
    F0 A4 b >>= fun x10 =>
    Fd fu e.Kids x10.2 >>= fun x11 =>
    F0 [41] x11 >>= fun x12 =>
    some x12.2
def Fd : Nat → (List A0) → Str → Option Str
  | 0, _, _ => none
  | fu + 1, l, b =>
    Z6 fu l b 0
def Z6 : Nat → (List A0) → Str → Int → Option Str
  | 0, _, _, _ => none
  | fu + 1, l, b1, v8 =>
    if (decide (v8 < ((l).length : Int))) = true then
      idx l v8 >>= fun x1 =>
      if (decide (v8 > 0)) = true then
        F0 [44, 32] b1 >>= fun x3 =>
        F1 fu x1 x3.2 >>= fun x2 =>
        Z6 fu l x2 (IntKind.i64.wrap (v8 + 1))
      else
        F1 fu x1 b1 >>= fun x2 =>
        Z6 fu l x2 (IntKind.i64.wrap (v8 + 1))
    else
      some b1
def Je : Nat → A0 → Str → Option Str
  | 0, _, _ => none
  | fu + 1, e, b =>
    Eq fu e.Op >>= fun x1 =>
    if (x1 == 3) = true then
      H8 fu e b x1 4
    else
      H8 fu e b x1 x1
def H8 : Nat → A0 → Str → Int → Int → Option Str
  | 0, _, _, _, _ => none
  | fu + 1, e, b, x1, left =>
    idx e.Kids 0 >>= fun x2 =>
    Z7 fu x2 left b >>= fun x3 =>
    idx Zo (IntKind.i64.wrap (e.Op - 8)) >>= fun x4 =>
    if (decide (1 + x4.length ≤ maxLen)) = true then
      if (decide (([32] ++ x4).length + 1 ≤ maxLen)) = true then
        F0 (([32] ++ x4) ++ [32]) x3 >>= fun x5 =>
        idx e.Kids 1 >>= fun x6 =>
        Z7 fu x6 (IntKind.i64.wrap (x1 + 1)) x5.2 >>= fun x7 =>
        some x7
      else none
    else none
end
theorem G3 (fu : Nat) : (∀ (e : A0) (b : Str), Le (F1 fu e b) (U0 e b)) ∧ (∀ (e : A0) (b : Str) (v77 : Bool), Le (V9 fu e b v77) (B2 e b v77)) ∧ (∀ (e : A0) (b : Str) (Ge : Str), Le (W9 fu e b Ge) (G4 e b Ge)) ∧ (∀ (e : A0) (required : Int) (b : Str), Le (Z7 fu e required b) (O4 e required b)) ∧ (∀ (e : A0) (b : Str) (v94 : Bool), Le (X9 fu e b v94) (U2 e b v94)) ∧ (∀ (e : A0) (b : Str) (A4 : Str), Le (Y9 fu e b A4) (F4 e b A4)) ∧ (∀ (l : List A0) (b : Str), Le (Fd fu l b) (W3 l b)) ∧ (∀ (l : List A0) (b1 : Str) (v8 : Int), Le (Z6 fu l b1 v8) (L1 l b1 v8)) ∧ (∀ (e : A0) (b : Str), Le (Je fu e b) (T4 e b)) ∧ (∀ (e : A0) (b : Str) (x1 : Int) (left : Int), Le (H8 fu e b x1 left) (O3 e b x1 left)) := by
  induction fu with
  | zero => exact ⟨fun _ _ => Le.none, fun _ _ _ => Le.none, fun _ _ _ => Le.none, fun _ _ _ => Le.none, fun _ _ _ => Le.none, fun _ _ _ => Le.none, fun _ _ => Le.none, fun _ _ _ => Le.none, fun _ _ => Le.none, fun _ _ _ _ => Le.none⟩
  | succ fu ih =>
    obtain ⟨ih0, ih1, ih2, ih3, ih4, ih5, ih6, ih7, ih8, ih9⟩ := ih
    refine ⟨fun e b => ?_, fun e b v77 => ?_, fun e b Ge => ?_, fun e required b => ?_, fun e b v94 => ?_, fun e b A4 => ?_, fun l b => ?_, fun l b1 v8 => ?_, fun e b => ?_, fun e b x1 left => ?_⟩
    · rw [F1, U0]
      repeat (first | exact Le.rfl | exact ih0 _ _ | exact ih1 _ _ _ | exact ih2 _ _ _ | exact ih3 _ _ _ | exact ih4 _ _ _ | exact ih5 _ _ _ | exact ih6 _ _ | exact ih7 _ _ _ | exact ih8 _ _ | exact ih9 _ _ _ _ | exact G7 fu _ | exact T0 _ | refine Le.bind ?_ (fun _ => ?_) | refine Le.ite ?_ ?_)
    · rw [V9, B2]
      repeat (first | exact Le.rfl | exact ih0 _ _ | exact ih1 _ _ _ | exact ih2 _ _ _ | exact ih3 _ _ _ | exact ih4 _ _ _ | exact ih5 _ _ _ | exact ih6 _ _ | exact ih7 _ _ _ | exact ih8 _ _ | exact ih9 _ _ _ _ | exact G7 fu _ | exact T0 _ | refine Le.bind ?_ (fun _ => ?_) | refine Le.ite ?_ ?_)
    · rw [W9, G4]
      repeat (first | exact Le.rfl | exact ih0 _ _ | exact ih1 _ _ _ | exact ih2 _ _ _ | exact ih3 _ _ _ | exact ih4 _ _ _ | exact ih5 _ _ _ | exact ih6 _ _ | exact ih7 _ _ _ | exact ih8 _ _ | exact ih9 _ _ _ _ | exact G7 fu _ | exact T0 _ | refine Le.bind ?_ (fun _ => ?_) | refine Le.ite ?_ ?_)
    · rw [Z7, O4]
      repeat (first | exact Le.rfl | exact ih0 _ _ | exact ih1 _ _ _ | exact ih2 _ _ _ | exact ih3 _ _ _ | exact ih4 _ _ _ | exact ih5 _ _ _ | exact ih6 _ _ | exact ih7 _ _ _ | exact ih8 _ _ | exact ih9 _ _ _ _ | exact G7 fu _ | exact T0 _ | refine Le.bind ?_ (fun _ => ?_) | refine Le.ite ?_ ?_)
    · rw [X9, U2]
      repeat (first | exact Le.rfl | exact ih0 _ _ | exact ih1 _ _ _ | exact ih2 _ _ _ | exact ih3 _ _ _ | exact ih4 _ _ _ | exact ih5 _ _ _ | exact ih6 _ _ | exact ih7 _ _ _ | exact ih8 _ _ | exact ih9 _ _ _ _ | exact G7 fu _ | exact T0 _ | refine Le.bind ?_ (fun _ => ?_) | refine Le.ite ?_ ?_)
    · rw [Y9, F4]
      repeat (first | exact Le.rfl | exact ih0 _ _ | exact ih1 _ _ _ | exact ih2 _ _ _ | exact ih3 _ _ _ | exact ih4 _ _ _ | exact ih5 _ _ _ | exact ih6 _ _ | exact ih7 _ _ _ | exact ih8 _ _ | exact ih9 _ _ _ _ | exact G7 fu _ | exact T0 _ | refine Le.bind ?_ (fun _ => ?_) | refine Le.ite ?_ ?_)
    · rw [Fd, W3]
      repeat (first | exact Le.rfl | exact ih0 _ _ | exact ih1 _ _ _ | exact ih2 _ _ _ | exact ih3 _ _ _ | exact ih4 _ _ _ | exact ih5 _ _ _ | exact ih6 _ _ | exact ih7 _ _ _ | exact ih8 _ _ | exact ih9 _ _ _ _ | exact G7 fu _ | exact T0 _ | refine Le.bind ?_ (fun _ => ?_) | refine Le.ite ?_ ?_)
    · rw [Z6, L1]
      repeat (first | exact Le.rfl | exact ih0 _ _ | exact ih1 _ _ _ | exact ih2 _ _ _ | exact ih3 _ _ _ | exact ih4 _ _ _ | exact ih5 _ _ _ | exact ih6 _ _ | exact ih7 _ _ _ | exact ih8 _ _ | exact ih9 _ _ _ _ | exact G7 fu _ | exact T0 _ | refine Le.bind ?_ (fun _ => ?_) | refine Le.ite ?_ ?_)
    · rw [Je, T4]
      repeat (first | exact Le.rfl | exact ih0 _ _ | exact ih1 _ _ _ | exact ih2 _ _ _ | exact ih3 _ _ _ | exact ih4 _ _ _ | exact ih5 _ _ _ | exact ih6 _ _ | exact ih7 _ _ _ | exact ih8 _ _ | exact ih9 _ _ _ _ | exact G7 fu _ | exact T0 _ | refine Le.bind ?_ (fun _ => ?_) | refine Le.ite ?_ ?_)
    · rw [H8, O3]
      repeat (first | exact Le.rfl | exact ih0 _ _ | exact ih1 _ _ _ | exact ih2 _ _ _ | exact ih3 _ _ _ | exact ih4 _ _ _ | exact ih5 _ _ _ | exact ih6 _ _ | exact ih7 _ _ _ | exact ih8 _ _ | exact ih9 _ _ _ _ | exact G7 fu _ | exact T0 _ | refine Le.bind ?_ (fun _ => ?_) | refine Le.ite ?_ ?_)
theorem M6 (fu : Nat) (e : A0) (b : Str) : Le (F1 fu e b) (U0 e b) := (G3 fu).1 e b
theorem X1e (fu : Nat) (e : A0) (b : Str) (v77 : Bool) : Le (V9 fu e b v77) (B2 e b v77) := (G3 fu).2.1 e b v77
theorem Y1e (fu : Nat) (e : A0) (b : Str) (Ge : Str) : Le (W9 fu e b Ge) (G4 e b Ge) := (G3 fu).2.2.1 e b Ge
theorem E1l (fu : Nat) (e : A0) (required : Int) (b : Str) : Le (Z7 fu e required b) (O4 e required b) := (G3 fu).2.2.2.1 e required b
theorem Z1e (fu : Nat) (e : A0) (b : Str) (v94 : Bool) : Le (X9 fu e b v94) (U2 e b v94) := (G3 fu).2.2.2.2.1 e b v94
theorem A1f (fu : Nat) (e : A0) (b : Str) (A4 : Str) : Le (Y9 fu e b A4) (F4 e b A4) := (G3 fu).2.2.2.2.2.1 e b A4
theorem Ye (fu : Nat) (l : List A0) (b : Str) : Le (Fd fu l b) (W3 l b) := (G3 fu).2.2.2.2.2.2.1 l b
theorem B1f (fu : Nat) (l : List A0) (b1 : Str) (v8 : Int) : Le (Z6 fu l b1 v8) (L1 l b1 v8) := (G3 fu).2.2.2.2.2.2.2.1 l b1 v8
theorem I1h (fu : Nat) (e : A0) (b : Str) : Le (Je fu e b) (T4 e b) := (G3 fu).2.2.2.2.2.2.2.2.1 e b
theorem N1c (fu : Nat) (e : A0) (b : Str) (x1 : Int) (left : Int) : Le (H8 fu e b x1 left) (O3 e b x1 left) := (G3 fu).2.2.2.2.2.2.2.2.2 e b x1 left
def Xf (fu : Nat) (b : Str) : Option (Str × Int) :=
  Pg b >>= fun x1 =>
  if (decide (x1 > 8192)) = true then
    some ([], 5)
  else
    Ie b >>= fun x2 =>
    some (x2, 0)
theorem Wr (fu : Nat) (b : Str) : Le (Xf fu b) (R6 b) := by
  unfold Xf R6
  repeat (first | exact Le.rfl | exact T0 _ | refine Le.bind ?_ (fun _ => ?_) | refine Le.ite ?_ ?_)
def Kf (fu : Nat) (e : A0) : Option (Str × Int) :=
  Bj fu e >>= fun x1 =>
  if (x1 != 0) = true then
    some ([], x1)
  else
    F1 fu e [] >>= fun x2 =>
    Xf fu x2 >>= fun x3 =>
    some (x3.1, x3.2)
theorem V13 (fu : Nat) (e : A0) : Le (Kf fu e) (Vc e) := by
  unfold Kf Vc
  repeat (first | exact Le.rfl | exact Hv fu _ | exact M6 fu _ _ | exact Wr fu _ | exact T0 _ | refine Le.bind ?_ (fun _ => ?_) | refine Le.ite ?_ ?_)
def Er (fu : Nat) (k : Int) : Option (Bool × Bool) :=
  some ((bif (decide (k ≥ 0)) then (decide (k ≤ 6)) else false), (bif (k == 5) then true else (k == 6)))
theorem Lf (fu : Nat) (k : Int) : Le (Er fu k) (Sf k) := by
  unfold Er Sf
  repeat (first | exact Le.rfl | exact T0 _ | refine Le.bind ?_ (fun _ => ?_) | refine Le.ite ?_ ?_)
def Y5 : Nat → (List Str) → (List Str) → Int → Option Bool
  | 0, _, _, _ => none
  | fu + 1, s1, s2, v13 =>
    if (decide (v13 < ((s1).length : Int))) = true then
      idx s1 v13 >>= fun x1 =>
      idx s2 v13 >>= fun x2 =>
      if (!(x1 == x2)) = true then
        some false
      else
        Y5 fu s1 s2 (IntKind.i64.wrap (v13 + 1))
    else
      some true
theorem Xr (fu : Nat) : (∀ (s1 : List Str) (s2 : List Str) (v13 : Int), Le (Y5 fu s1 s2 v13) (Q1 s1 s2 v13)) := by
  induction fu with
  | zero => exact fun _ _ _ => Le.none
  | succ fu ih =>
    have ih0 := ih
    refine fun s1 s2 v13 => ?_
    · rw [Y5, Q1]
      repeat (first | exact Le.rfl | exact ih0 _ _ _ | exact T0 _ | refine Le.bind ?_ (fun _ => ?_) | refine Le.ite ?_ ?_)
theorem Et (fu : Nat) (s1 : List Str) (s2 : List Str) (v13 : Int) : Le (Y5 fu s1 s2 v13) (Q1 s1 s2 v13) := (Xr fu) s1 s2 v13
def We (fu : Nat) (s1 : List Str) (s2 : List Str) : Option Bool :=
  if (((s1).length : Int) != ((s2).length : Int)) = true then
    some false
  else
    Y5 fu s1 s2 0
theorem Fe (fu : Nat) (s1 : List Str) (s2 : List Str) : Le (We fu s1 s2) (B5 s1 s2) := by
  unfold We B5
  repeat (first | exact Le.rfl | exact Et fu _ _ _ | exact T0 _ | refine Le.bind ?_ (fun _ => ?_) | refine Le.ite ?_ ?_)
mutual
def Mf : Nat → D0 → D0 → Option Bool
  | 0, _, _ => none
  | fu + 1, a, b =>
    (if (bif (bif (bif (bif (a.Kind == b.Kind) then (a.Low == b.Low) else false) then (a.High == b.High) else false) then (a.Size == b.Size) else false) then (a.Name == b.Name) else false) = true then We fu a.Names b.Names else some default) >>= fun x1 =>
    (if (bif (bif (bif (bif (bif (a.Kind == b.Kind) then (a.Low == b.Low) else false) then (a.High == b.High) else false) then (a.Size == b.Size) else false) then (a.Name == b.Name) else false) then x1 else false) = true then Q2 fu a.Of b.Of else some default) >>= fun x2 =>
    some (bif (bif (bif (bif (bif (bif (a.Kind == b.Kind) then (a.Low == b.Low) else false) then (a.High == b.High) else false) then (a.Size == b.Size) else false) then (a.Name == b.Name) else false) then x1 else false) then x2 else false)
def Q2 : Nat → (List D0) → (List D0) → Option Bool
  | 0, _, _ => none
  | fu + 1, s1, s2 =>
    if (((s1).length : Int) != ((s2).length : Int)) = true then
      some false
    else
      T1 fu s1 s2 0
def T1 : Nat → (List D0) → (List D0) → Int → Option Bool
  | 0, _, _, _ => none
  | fu + 1, s1, s2, v17 =>
    if (decide (v17 < ((s1).length : Int))) = true then
      idx s1 v17 >>= fun x1 =>
      idx s2 v17 >>= fun x2 =>
      Mf fu x1 x2 >>= fun x3 =>
      if (!x3) = true then
        some false
      else
        T1 fu s1 s2 (IntKind.i64.wrap (v17 + 1))
    else
      some true
end
theorem Wm (fu : Nat) : (∀ (a : D0) (b : D0), Le (Mf fu a b) (R5 a b)) ∧ (∀ (s1 : List D0) (s2 : List D0), Le (Q2 fu s1 s2) (G1 s1 s2)) ∧ (∀ (s1 : List D0) (s2 : List D0) (v17 : Int), Le (T1 fu s1 s2 v17) (Y0 s1 s2 v17)) := by
  induction fu with
  | zero => exact ⟨fun _ _ => Le.none, fun _ _ => Le.none, fun _ _ _ => Le.none⟩
  | succ fu ih =>
    obtain ⟨ih0, ih1, ih2⟩ := ih
    refine ⟨fun a b => ?_, fun s1 s2 => ?_, fun s1 s2 v17 => ?_⟩
    · rw [Mf, R5]
      repeat (first | exact Le.rfl | exact ih0 _ _ | exact ih1 _ _ | exact ih2 _ _ _ | exact Fe fu _ _ | exact T0 _ | refine Le.bind ?_ (fun _ => ?_) | refine Le.ite ?_ ?_)
    · rw [Q2, G1]
      repeat (first | exact Le.rfl | exact ih0 _ _ | exact ih1 _ _ | exact ih2 _ _ _ | exact Fe fu _ _ | exact T0 _ | refine Le.bind ?_ (fun _ => ?_) | refine Le.ite ?_ ?_)
    · rw [T1, Y0]
      repeat (first | exact Le.rfl | exact ih0 _ _ | exact ih1 _ _ | exact ih2 _ _ _ | exact Fe fu _ _ | exact T0 _ | refine Le.bind ?_ (fun _ => ?_) | refine Le.ite ?_ ?_)
theorem Me (fu : Nat) (a : D0) (b : D0) : Le (Mf fu a b) (R5 a b) := (Wm fu).1 a b
theorem Jw (fu : Nat) (s1 : List D0) (s2 : List D0) : Le (Q2 fu s1 s2) (G1 s1 s2) := (Wm fu).2.1 s1 s2
theorem Uu (fu : Nat) (s1 : List D0) (s2 : List D0) (v17 : Int) : Le (T1 fu s1 s2 v17) (Y0 s1 s2 v17) := (Wm fu).2.2 s1 s2 v17
mutual
def Oe : Nat → D0 → Int → C0 → Option C0
  | 0, _, _, _ => none
  | fu + 1, t, depth, syntaxReport =>
    Sd fu depth (C0.mk (IntKind.i64.wrap (syntaxReport.nodes + 1)) syntaxReport.depth syntaxReport.badForm syntaxReport.badName syntaxReport.badNumber) >>= fun x1 =>
    A1 fu (bif (decide (t.Kind ≥ 0)) then (decide (t.Kind ≤ 4)) else false) x1 >>= fun x2 =>
    A1 fu (bif (t.Kind == 1) then true else (bif (t.Low == 0) then (t.High == 0) else false)) x2 >>= fun x3 =>
    A1 fu (bif (t.Kind == 2) then true else (t.Size == 0)) x3 >>= fun x4 =>
    A1 fu (bif (t.Kind == 4) then true else (t.Name == [])) x4 >>= fun x5 =>
    A1 fu (bif (t.Kind == 3) then true else (((t.Names).length : Int) == 0)) x5 >>= fun x6 =>
    if (t.Kind == 2) = true then
      A1 fu (((t.Of).length : Int) == 1) x6 >>= fun x7 =>
      C4 fu t.Size 1 32 >>= fun x8 =>
      J2 fu x8 x7 >>= fun x9 =>
      L8 fu t depth x9
    else
      if (t.Kind == 3) = true then
        A1 fu (bif (decide (((t.Of).length : Int) ≥ 1)) then (((t.Of).length : Int) == ((t.Names).length : Int)) else false) x6 >>= fun x14 =>
        J2 fu (decide (((t.Of).length : Int) ≤ 32)) x14 >>= fun x15 =>
        L8 fu t depth x15
      else
        A1 fu (((t.Of).length : Int) == 0) x6 >>= fun x16 =>
        L8 fu t depth x16
def L8 : Nat → D0 → Int → C0 → Option C0
  | 0, _, _, _ => none
  | fu + 1, t, depth, o0 =>
    if (t.Kind == 1) = true then
      C4 fu t.Low (-1048576) 1048576 >>= fun x10 =>
      (if x10 = true then C4 fu t.High t.Low 1048576 else some default) >>= fun x11 =>
      J2 fu (bif x10 then x11 else false) o0 >>= fun x12 =>
      Lc fu t depth x12
    else
      Lc fu t depth o0
def Lc : Nat → D0 → Int → C0 → Option C0
  | 0, _, _, _ => none
  | fu + 1, t, depth, o01 =>
    if (t.Kind == 4) = true then
      X7 fu t.Name o01 >>= fun x13 =>
      Mc fu t depth x13
    else
      Mc fu t depth o01
def Mc : Nat → D0 → Int → C0 → Option C0
  | 0, _, _, _ => none
  | fu + 1, t, depth, o02 =>
    Nc fu t depth o02 0
def Nc : Nat → D0 → Int → C0 → Int → Option C0
  | 0, _, _, _, _ => none
  | fu + 1, t, depth, o03, v147 =>
    if (decide (v147 < ((t.Names).length : Int))) = true then
      idx t.Names v147 >>= fun x17 =>
      X7 fu x17 o03 >>= fun x18 =>
      Nc fu t depth x18 (IntKind.i64.wrap (v147 + 1))
    else
      Oc fu t depth o03 0
def Oc : Nat → D0 → Int → C0 → Int → Option C0
  | 0, _, _, _, _ => none
  | fu + 1, t, depth, o04, v158 =>
    if (decide (v158 < ((t.Of).length : Int))) = true then
      idx t.Of v158 >>= fun x19 =>
      Oe fu x19 (IntKind.i64.wrap (depth + 1)) o04 >>= fun x20 =>
      Oc fu t depth x20 (IntKind.i64.wrap (v158 + 1))
    else
      some o04
end
theorem H9 (fu : Nat) : (∀ (t : D0) (depth : Int) (syntaxReport : C0), Le (Oe fu t depth syntaxReport) (D4 t depth syntaxReport)) ∧ (∀ (t : D0) (depth : Int) (o0 : C0), Le (L8 fu t depth o0) (H4 t depth o0)) ∧ (∀ (t : D0) (depth : Int) (o01 : C0), Le (Lc fu t depth o01) (I4 t depth o01)) ∧ (∀ (t : D0) (depth : Int) (o02 : C0), Le (Mc fu t depth o02) (F5 t depth o02)) ∧ (∀ (t : D0) (depth : Int) (o03 : C0) (v147 : Int), Le (Nc fu t depth o03 v147) (Z2 t depth o03 v147)) ∧ (∀ (t : D0) (depth : Int) (o04 : C0) (v158 : Int), Le (Oc fu t depth o04 v158) (P3 t depth o04 v158)) := by
  induction fu with
  | zero => exact ⟨fun _ _ _ => Le.none, fun _ _ _ => Le.none, fun _ _ _ => Le.none, fun _ _ _ => Le.none, fun _ _ _ _ => Le.none, fun _ _ _ _ => Le.none⟩
  | succ fu ih =>
    obtain ⟨ih0, ih1, ih2, ih3, ih4, ih5⟩ := ih
    refine ⟨fun t depth syntaxReport => ?_, fun t depth o0 => ?_, fun t depth o01 => ?_, fun t depth o02 => ?_, fun t depth o03 v147 => ?_, fun t depth o04 v158 => ?_⟩
    · rw [Oe, D4]
      repeat (first | exact Le.rfl | exact ih0 _ _ _ | exact ih1 _ _ _ | exact ih2 _ _ _ | exact ih3 _ _ _ | exact ih4 _ _ _ _ | exact ih5 _ _ _ _ | exact P1 fu _ _ | exact E1 fu _ _ | exact C2 fu _ _ _ | exact J1 fu _ _ | exact I1 fu _ _ | exact T0 _ | refine Le.bind ?_ (fun _ => ?_) | refine Le.ite ?_ ?_)
    · rw [L8, H4]
      repeat (first | exact Le.rfl | exact ih0 _ _ _ | exact ih1 _ _ _ | exact ih2 _ _ _ | exact ih3 _ _ _ | exact ih4 _ _ _ _ | exact ih5 _ _ _ _ | exact P1 fu _ _ | exact E1 fu _ _ | exact C2 fu _ _ _ | exact J1 fu _ _ | exact I1 fu _ _ | exact T0 _ | refine Le.bind ?_ (fun _ => ?_) | refine Le.ite ?_ ?_)
    · rw [Lc, I4]
      repeat (first | exact Le.rfl | exact ih0 _ _ _ | exact ih1 _ _ _ | exact ih2 _ _ _ | exact ih3 _ _ _ | exact ih4 _ _ _ _ | exact ih5 _ _ _ _ | exact P1 fu _ _ | exact E1 fu _ _ | exact C2 fu _ _ _ | exact J1 fu _ _ | exact I1 fu _ _ | exact T0 _ | refine Le.bind ?_ (fun _ => ?_) | refine Le.ite ?_ ?_)
    · rw [Mc, F5]
      repeat (first | exact Le.rfl | exact ih0 _ _ _ | exact ih1 _ _ _ | exact ih2 _ _ _ | exact ih3 _ _ _ | exact ih4 _ _ _ _ | exact ih5 _ _ _ _ | exact P1 fu _ _ | exact E1 fu _ _ | exact C2 fu _ _ _ | exact J1 fu _ _ | exact I1 fu _ _ | exact T0 _ | refine Le.bind ?_ (fun _ => ?_) | refine Le.ite ?_ ?_)
    · rw [Nc, Z2]
      repeat (first | exact Le.rfl | exact ih0 _ _ _ | exact ih1 _ _ _ | exact ih2 _ _ _ | exact ih3 _ _ _ | exact ih4 _ _ _ _ | exact ih5 _ _ _ _ | exact P1 fu _ _ | exact E1 fu _ _ | exact C2 fu _ _ _ | exact J1 fu _ _ | exact I1 fu _ _ | exact T0 _ | refine Le.bind ?_ (fun _ => ?_) | refine Le.ite ?_ ?_)
    · rw [Oc, P3]
      repeat (first | exact Le.rfl | exact ih0 _ _ _ | exact ih1 _ _ _ | exact ih2 _ _ _ | exact ih3 _ _ _ | exact ih4 _ _ _ _ | exact ih5 _ _ _ _ | exact P1 fu _ _ | exact E1 fu _ _ | exact C2 fu _ _ _ | exact J1 fu _ _ | exact I1 fu _ _ | exact T0 _ | refine Le.bind ?_ (fun _ => ?_) | refine Le.ite ?_ ?_)
theorem Ud (fu : Nat) (t : D0) (depth : Int) (syntaxReport : C0) : Le (Oe fu t depth syntaxReport) (D4 t depth syntaxReport) := (H9 fu).1 t depth syntaxReport
theorem X1i (fu : Nat) (t : D0) (depth : Int) (o0 : C0) : Le (L8 fu t depth o0) (H4 t depth o0) := (H9 fu).2.1 t depth o0
theorem Y1i (fu : Nat) (t : D0) (depth : Int) (o01 : C0) : Le (Lc fu t depth o01) (I4 t depth o01) := (H9 fu).2.2.1 t depth o01
theorem Z1i (fu : Nat) (t : D0) (depth : Int) (o02 : C0) : Le (Mc fu t depth o02) (F5 t depth o02) := (H9 fu).2.2.2.1 t depth o02
theorem A1j (fu : Nat) (t : D0) (depth : Int) (o03 : C0) (v147 : Int) : Le (Nc fu t depth o03 v147) (Z2 t depth o03 v147) := (H9 fu).2.2.2.2.1 t depth o03 v147
theorem B1j (fu : Nat) (t : D0) (depth : Int) (o04 : C0) (v158 : Int) : Le (Oc fu t depth o04 v158) (P3 t depth o04 v158) := (H9 fu).2.2.2.2.2 t depth o04 v158
mutual
def Nf : Nat → A0 → A0 → Option Bool
  | 0, _, _ => none
  | fu + 1, a, b =>
    (if (bif (bif (a.Op == b.Op) then (a.NV == b.NV) else false) then (a.Name == b.Name) else false) = true then R2 fu a.Kids b.Kids else some default) >>= fun x1 =>
    some (bif (bif (bif (a.Op == b.Op) then (a.NV == b.NV) else false) then (a.Name == b.Name) else false) then x1 else false)
def R2 : Nat → (List A0) → (List A0) → Option Bool
  | 0, _, _ => none
  | fu + 1, s1, s2 =>
    if (((s1).length : Int) != ((s2).length : Int)) = true then
      some false
    else
      U1 fu s1 s2 0
def U1 : Nat → (List A0) → (List A0) → Int → Option Bool
  | 0, _, _, _ => none
  | fu + 1, s1, s2, v17 =>
    if (decide (v17 < ((s1).length : Int))) = true then
      idx s1 v17 >>= fun x1 =>
      idx s2 v17 >>= fun x2 =>
      Nf fu x1 x2 >>= fun x3 =>
      if (!x3) = true then
        some false
      else
        U1 fu s1 s2 (IntKind.i64.wrap (v17 + 1))
    else
      some true
end
theorem Xm (fu : Nat) : (∀ (a : A0) (b : A0), Le (Nf fu a b) (C5 a b)) ∧ (∀ (s1 : List A0) (s2 : List A0), Le (R2 fu s1 s2) (H1 s1 s2)) ∧ (∀ (s1 : List A0) (s2 : List A0) (v17 : Int), Le (U1 fu s1 s2 v17) (Z0 s1 s2 v17)) := by
  induction fu with
  | zero => exact ⟨fun _ _ => Le.none, fun _ _ => Le.none, fun _ _ _ => Le.none⟩
  | succ fu ih =>
    obtain ⟨ih0, ih1, ih2⟩ := ih
    refine ⟨fun a b => ?_, fun s1 s2 => ?_, fun s1 s2 v17 => ?_⟩
    · rw [Nf, C5]
      repeat (first | exact Le.rfl | exact ih0 _ _ | exact ih1 _ _ | exact ih2 _ _ _ | exact T0 _ | refine Le.bind ?_ (fun _ => ?_) | refine Le.ite ?_ ?_)
    · rw [R2, H1]
      repeat (first | exact Le.rfl | exact ih0 _ _ | exact ih1 _ _ | exact ih2 _ _ _ | exact T0 _ | refine Le.bind ?_ (fun _ => ?_) | refine Le.ite ?_ ?_)
    · rw [U1, Z0]
      repeat (first | exact Le.rfl | exact ih0 _ _ | exact ih1 _ _ | exact ih2 _ _ _ | exact T0 _ | refine Le.bind ?_ (fun _ => ?_) | refine Le.ite ?_ ?_)
theorem W13 (fu : Nat) (a : A0) (b : A0) : Le (Nf fu a b) (C5 a b) := (Xm fu).1 a b
theorem Kw (fu : Nat) (s1 : List A0) (s2 : List A0) : Le (R2 fu s1 s2) (H1 s1 s2) := (Xm fu).2.1 s1 s2
theorem Vu (fu : Nat) (s1 : List A0) (s2 : List A0) (v17 : Int) : Le (U1 fu s1 s2 v17) (Z0 s1 s2 v17) := (Xm fu).2.2 s1 s2 v17
def Z9 (fu : Nat) (e : A0) (used : Bool) (syntaxReport : C0) : Option C0 :=
  (if (!used) = true then Nf fu e (A0.mk 0 0 [] []) else some default) >>= fun x1 =>
  if (bif (!used) then x1 else false) = true then
    some syntaxReport
  else
    A1 fu used syntaxReport >>= fun x2 =>
    Y7 fu e 1 x2 >>= fun x3 =>
    some x3
theorem O2 (fu : Nat) (e : A0) (used : Bool) (syntaxReport : C0) : Le (Z9 fu e used syntaxReport) (V2 e used syntaxReport) := by
  unfold Z9 V2
  repeat (first | exact Le.rfl | exact W13 fu _ _ | exact E1 fu _ _ | exact Y6 fu _ _ _ | exact T0 _ | refine Le.bind ?_ (fun _ => ?_) | refine Le.ite ?_ ?_)
def Rp (fu : Nat) (v : Int) : Option (P0 × Bool) :=
  if (v == 0) = true then
    some ((P0.mk true true false false false false false false false), true)
  else
    if (v == 1) = true then
      some ((P0.mk true false true true false false false false false), true)
    else
      if (v == 2) = true then
        some ((P0.mk true false true false false false false false false), true)
      else
        if (v == 3) = true then
          some ((P0.mk false true false false false false false false false), true)
        else
          if (v == 4) = true then
            some ((P0.mk false false false false true false false false false), true)
          else
            if (v == 5) = true then
              some ((P0.mk false true false false false false false true true), true)
            else
              if (v == 6) = true then
                some ((P0.mk false true false false true false false true false), true)
              else
                if (v == 7) = true then
                  some ((P0.mk false false true false false true false true false), true)
                else
                  if (v == 8) = true then
                    some ((P0.mk false false false false false false true false false), true)
                  else
                    some ((P0.mk false false false false false false false false false), false)
theorem Pe (fu : Nat) (v : Int) : Le (Rp fu v) (Wc v) := by
  unfold Rp Wc
  repeat (first | exact Le.rfl | exact T0 _ | refine Le.bind ?_ (fun _ => ?_) | refine Le.ite ?_ ?_)
def I8 : Nat → B0 → C0 → Int → Int → Option C0
  | 0, _, _, _, _ => none
  | fu + 1, s, o0, last, v58 =>
    if (decide (v58 < ((s.Numbers).length : Int))) = true then
      idx s.Numbers v58 >>= fun x10 =>
      C4 fu x10 0 1048576 >>= fun x11 =>
      J2 fu (bif x11 then (decide (x10 > last)) else false) o0 >>= fun x12 =>
      I8 fu s x12 x10 (IntKind.i64.wrap (v58 + 1))
    else
      some o0
theorem Uv (fu : Nat) : (∀ (s : B0) (o0 : C0) (last : Int) (v58 : Int), Le (I8 fu s o0 last v58) (I2 s o0 last v58)) := by
  induction fu with
  | zero => exact fun _ _ _ _ => Le.none
  | succ fu ih =>
    have ih0 := ih
    refine fun s o0 last v58 => ?_
    · rw [I8, I2]
      repeat (first | exact Le.rfl | exact ih0 _ _ _ _ | exact C2 fu _ _ _ | exact J1 fu _ _ | exact T0 _ | refine Le.bind ?_ (fun _ => ?_) | refine Le.ite ?_ ?_)
theorem Gx (fu : Nat) (s : B0) (o0 : C0) (last : Int) (v58 : Int) : Le (I8 fu s o0 last v58) (I2 s o0 last v58) := (Uv fu) s o0 last v58
def Pi (fu : Nat) (s : B0) (syntaxReport : C0) : Option C0 :=
  if (s.Verb == 4) = true then
    C4 fu s.NV 0 1048576 >>= fun x1 =>
    J2 fu x1 syntaxReport >>= fun x2 =>
    some x2
  else
    if (s.Verb == 6) = true then
      C4 fu s.NV 0 4096 >>= fun x3 =>
      J2 fu x3 syntaxReport >>= fun x4 =>
      some x4
    else
      if (s.Verb == 7) = true then
        C4 fu s.Low (-1048576) 1048576 >>= fun x5 =>
        (if x5 = true then C4 fu s.High s.Low 1048576 else some default) >>= fun x6 =>
        J2 fu (bif (bif x5 then x6 else false) then (decide ((IntKind.i64.wrap (s.High - s.Low)) < 4096)) else false) syntaxReport >>= fun x7 =>
        some x7
      else
        if (s.Verb == 8) = true then
          C4 fu ((s.Numbers).length : Int) 1 32 >>= fun x8 =>
          J2 fu x8 syntaxReport >>= fun x9 =>
          I8 fu s x9 (-1) 0
        else
          some syntaxReport
theorem Aa (fu : Nat) (s : B0) (syntaxReport : C0) : Le (Pi fu s syntaxReport) (W5 s syntaxReport) := by
  unfold Pi W5
  repeat (first | exact Le.rfl | exact C2 fu _ _ _ | exact J1 fu _ _ | exact Gx fu _ _ _ _ | exact T0 _ | refine Le.bind ?_ (fun _ => ?_) | refine Le.ite ?_ ?_)
mutual
def A7 : Nat → (List B0) → Int → C0 → Option C0
  | 0, _, _, _ => none
  | fu + 1, l, nesting, syntaxReport =>
    Ba fu l nesting syntaxReport 0
def Ba : Nat → (List B0) → Int → C0 → Int → Option C0
  | 0, _, _, _, _ => none
  | fu + 1, l, nesting, o03, v14 =>
    if (decide (v14 < ((l).length : Int))) = true then
      idx l v14 >>= fun x1 =>
      Sd fu nesting (C0.mk (IntKind.i64.wrap (o03.nodes + 1)) o03.depth o03.badForm o03.badName o03.badNumber) >>= fun x2 =>
      Rp fu x1.Verb >>= fun x3 =>
      A1 fu x3.2 x2 >>= fun x4 =>
      Z9 fu x1.Place x3.1.place x4 >>= fun x5 =>
      if x3.1.place = true then
        Dq fu x1.Place >>= fun x6 =>
        A1 fu x6 x5 >>= fun x7 =>
        Ca fu l nesting x7 x1 x3 v14
      else
        Ca fu l nesting x5 x1 x3 v14
    else
      some o03
def Ca : Nat → (List B0) → Int → C0 → B0 → (P0 × Bool) → Int → Option C0
  | 0, _, _, _, _, _, _ => none
  | fu + 1, l, nesting, o0, x1, x3, v141 =>
    Z9 fu x1.Value x3.1.value o0 >>= fun x8 =>
    A1 fu (bif x3.1.name then true else (x1.Name == [])) x8 >>= fun x9 =>
    if x3.1.name = true then
      X7 fu x1.Name x9 >>= fun x10 =>
      Da fu l nesting x10 x1 x3 v141
    else
      Da fu l nesting x9 x1 x3 v141
def Da : Nat → (List B0) → Int → C0 → B0 → (P0 × Bool) → Int → Option C0
  | 0, _, _, _, _, _, _ => none
  | fu + 1, l, nesting, o01, x1, x3, v142 =>
    A1 fu (bif x3.1.args then true else (((x1.Args).length : Int) == 0)) o01 >>= fun x11 =>
    Ea fu l nesting x11 x1 x3 v142 0
def Ea : Nat → (List B0) → Int → C0 → B0 → (P0 × Bool) → Int → Int → Option C0
  | 0, _, _, _, _, _, _, _ => none
  | fu + 1, l, nesting, o02, x1, x3, v143, v84 =>
    if (decide (v84 < ((x1.Args).length : Int))) = true then
      idx x1.Args v84 >>= fun x12 =>
      Y7 fu x12 1 o02 >>= fun x13 =>
      Ea fu l nesting x13 x1 x3 v143 (IntKind.i64.wrap (v84 + 1))
    else
      A1 fu (bif x3.1.n then true else (x1.NV == 0)) o02 >>= fun x14 =>
      A1 fu (bif x3.1.bounds then true else (bif (x1.Low == 0) then (x1.High == 0) else false)) x14 >>= fun x15 =>
      A1 fu (bif x3.1.numbers then true else (((x1.Numbers).length : Int) == 0)) x15 >>= fun x16 =>
      A1 fu (bif x3.1.thenV then true else (((x1.Then).length : Int) == 0)) x16 >>= fun x17 =>
      A1 fu (bif x3.1.other then true else (((x1.Else).length : Int) == 0)) x17 >>= fun x18 =>
      Pi fu x1 x18 >>= fun x19 =>
      A7 fu x1.Then (IntKind.i64.wrap (nesting + 1)) x19 >>= fun x20 =>
      A7 fu x1.Else (IntKind.i64.wrap (nesting + 1)) x20 >>= fun x21 =>
      Ba fu l nesting x21 (IntKind.i64.wrap (v143 + 1))
end
theorem Db (fu : Nat) : (∀ (l : List B0) (nesting : Int) (syntaxReport : C0), Le (A7 fu l nesting syntaxReport) (L2 l nesting syntaxReport)) ∧ (∀ (l : List B0) (nesting : Int) (o03 : C0) (v14 : Int), Le (Ba fu l nesting o03 v14) (W2 l nesting o03 v14)) ∧ (∀ (l : List B0) (nesting : Int) (o0 : C0) (x1 : B0) (x3 : P0 × Bool) (v141 : Int), Le (Ca fu l nesting o0 x1 x3 v141) (K3 l nesting o0 x1 x3 v141)) ∧ (∀ (l : List B0) (nesting : Int) (o01 : C0) (x1 : B0) (x3 : P0 × Bool) (v142 : Int), Le (Da fu l nesting o01 x1 x3 v142) (L3 l nesting o01 x1 x3 v142)) ∧ (∀ (l : List B0) (nesting : Int) (o02 : C0) (x1 : B0) (x3 : P0 × Bool) (v143 : Int) (v84 : Int), Le (Ea fu l nesting o02 x1 x3 v143 v84) (J4 l nesting o02 x1 x3 v143 v84)) := by
  induction fu with
  | zero => exact ⟨fun _ _ _ => Le.none, fun _ _ _ _ => Le.none, fun _ _ _ _ _ _ => Le.none, fun _ _ _ _ _ _ => Le.none, fun _ _ _ _ _ _ _ => Le.none⟩
  | succ fu ih =>
    obtain ⟨ih0, ih1, ih2, ih3, ih4⟩ := ih
    refine ⟨fun l nesting syntaxReport => ?_, fun l nesting o03 v14 => ?_, fun l nesting o0 x1 x3 v141 => ?_, fun l nesting o01 x1 x3 v142 => ?_, fun l nesting o02 x1 x3 v143 v84 => ?_⟩
    · rw [A7, L2]
      repeat (first | exact Le.rfl | exact ih0 _ _ _ | exact ih1 _ _ _ _ | exact ih2 _ _ _ _ _ _ | exact ih3 _ _ _ _ _ _ | exact ih4 _ _ _ _ _ _ _ | exact P1 fu _ _ | exact Pe fu _ | exact E1 fu _ _ | exact O2 fu _ _ _ | exact F7 fu _ | exact I1 fu _ _ | exact Y6 fu _ _ _ | exact Aa fu _ _ | exact T0 _ | refine Le.bind ?_ (fun _ => ?_) | refine Le.ite ?_ ?_)
    · rw [Ba, W2]
      repeat (first | exact Le.rfl | exact ih0 _ _ _ | exact ih1 _ _ _ _ | exact ih2 _ _ _ _ _ _ | exact ih3 _ _ _ _ _ _ | exact ih4 _ _ _ _ _ _ _ | exact P1 fu _ _ | exact Pe fu _ | exact E1 fu _ _ | exact O2 fu _ _ _ | exact F7 fu _ | exact I1 fu _ _ | exact Y6 fu _ _ _ | exact Aa fu _ _ | exact T0 _ | refine Le.bind ?_ (fun _ => ?_) | refine Le.ite ?_ ?_)
    · rw [Ca, K3]
      repeat (first | exact Le.rfl | exact ih0 _ _ _ | exact ih1 _ _ _ _ | exact ih2 _ _ _ _ _ _ | exact ih3 _ _ _ _ _ _ | exact ih4 _ _ _ _ _ _ _ | exact P1 fu _ _ | exact Pe fu _ | exact E1 fu _ _ | exact O2 fu _ _ _ | exact F7 fu _ | exact I1 fu _ _ | exact Y6 fu _ _ _ | exact Aa fu _ _ | exact T0 _ | refine Le.bind ?_ (fun _ => ?_) | refine Le.ite ?_ ?_)
    · rw [Da, L3]
      repeat (first | exact Le.rfl | exact ih0 _ _ _ | exact ih1 _ _ _ _ | exact ih2 _ _ _ _ _ _ | exact ih3 _ _ _ _ _ _ | exact ih4 _ _ _ _ _ _ _ | exact P1 fu _ _ | exact Pe fu _ | exact E1 fu _ _ | exact O2 fu _ _ _ | exact F7 fu _ | exact I1 fu _ _ | exact Y6 fu _ _ _ | exact Aa fu _ _ | exact T0 _ | refine Le.bind ?_ (fun _ => ?_) | refine Le.ite ?_ ?_)
    · rw [Ea, J4]
      repeat (first | exact Le.rfl | exact ih0 _ _ _ | exact ih1 _ _ _ _ | exact ih2 _ _ _ _ _ _ | exact ih3 _ _ _ _ _ _ | exact ih4 _ _ _ _ _ _ _ | exact P1 fu _ _ | exact Pe fu _ | exact E1 fu _ _ | exact O2 fu _ _ _ | exact F7 fu _ | exact I1 fu _ _ | exact Y6 fu _ _ _ | exact Aa fu _ _ | exact T0 _ | refine Le.bind ?_ (fun _ => ?_) | refine Le.ite ?_ ?_)
theorem M8 (fu : Nat) (l : List B0) (nesting : Int) (syntaxReport : C0) : Le (A7 fu l nesting syntaxReport) (L2 l nesting syntaxReport) := (Db fu).1 l nesting syntaxReport
theorem C1f (fu : Nat) (l : List B0) (nesting : Int) (o03 : C0) (v14 : Int) : Le (Ba fu l nesting o03 v14) (W2 l nesting o03 v14) := (Db fu).2.1 l nesting o03 v14
theorem D1f (fu : Nat) (l : List B0) (nesting : Int) (o0 : C0) (x1 : B0) (x3 : P0 × Bool) (v141 : Int) : Le (Ca fu l nesting o0 x1 x3 v141) (K3 l nesting o0 x1 x3 v141) := (Db fu).2.2.1 l nesting o0 x1 x3 v141
theorem E1f (fu : Nat) (l : List B0) (nesting : Int) (o01 : C0) (x1 : B0) (x3 : P0 × Bool) (v142 : Int) : Le (Da fu l nesting o01 x1 x3 v142) (L3 l nesting o01 x1 x3 v142) := (Db fu).2.2.2.1 l nesting o01 x1 x3 v142
theorem F1f (fu : Nat) (l : List B0) (nesting : Int) (o02 : C0) (x1 : B0) (x3 : P0 × Bool) (v143 : Int) (v84 : Int) : Le (Ea fu l nesting o02 x1 x3 v143 v84) (J4 l nesting o02 x1 x3 v143 v84) := (Db fu).2.2.2.2 l nesting o02 x1 x3 v143 v84
mutual
def I9 : Nat → (List E0) → C0 → Option C0
  | 0, _, _ => none
  | fu + 1, l, syntaxReport =>
    Fa fu l syntaxReport 0
def Fa : Nat → (List E0) → C0 → Int → Option C0
  | 0, _, _, _ => none
  | fu + 1, l, o03, v15 =>
    if (decide (v15 < ((l).length : Int))) = true then
      idx l v15 >>= fun x1 =>
      Er fu x1.Kind >>= fun x2 =>
      A1 fu x2.1 (C0.mk (IntKind.i64.wrap (o03.nodes + 1)) o03.depth o03.badForm o03.badName o03.badNumber) >>= fun x3 =>
      (if (!x2.1) = true then Mf fu x1.TypeV (D0.mk 0 0 0 0 [] [] []) else some default) >>= fun x4 =>
      if (bif x2.1 then true else (!x4)) = true then
        Oe fu x1.TypeV 1 x3 >>= fun x5 =>
        Ga fu l x5 x1 x2 v15
      else
        Ga fu l x3 x1 x2 v15
    else
      some o03
def Ga : Nat → (List E0) → C0 → E0 → (Bool × Bool) → Int → Option C0
  | 0, _, _, _, _, _ => none
  | fu + 1, l, o0, x1, x2, v151 =>
    X7 fu x1.Name o0 >>= fun x6 =>
    Z9 fu x1.Value x2.2 x6 >>= fun x7 =>
    A1 fu (bif (x1.Kind == 4) then true else (x1.Init == 0)) x7 >>= fun x8 =>
    C4 fu x1.Init (-1048576) 1048576 >>= fun x9 =>
    (if (x9 && (!(x1.TypeV.Kind != 0))) = true then C4 fu x1.Init 0 1 else some default) >>= fun x10 =>
    J2 fu (bif x9 then (bif (x1.TypeV.Kind != 0) then true else x10) else false) x8 >>= fun x11 =>
    A1 fu (bif (x1.Kind == 6) then true else (bif (bif (((x1.Params).length : Int) == 0) then (((x1.Vars).length : Int) == 0) else false) then (((x1.Body).length : Int) == 0) else false)) x11 >>= fun x12 =>
    Ha fu l x12 x1 v151 0
def Ha : Nat → (List E0) → C0 → E0 → Int → Int → Option C0
  | 0, _, _, _, _, _ => none
  | fu + 1, l, o01, x1, v152, v109 =>
    if (decide (v109 < ((x1.Params).length : Int))) = true then
      idx x1.Params v109 >>= fun x13 =>
      A1 fu (bif (x13.Kind == 4) then (x13.Init == 0) else false) o01 >>= fun x14 =>
      Ha fu l x14 x1 v152 (IntKind.i64.wrap (v109 + 1))
    else
      Ia fu l o01 x1 v152 0
def Ia : Nat → (List E0) → C0 → E0 → Int → Int → Option C0
  | 0, _, _, _, _, _ => none
  | fu + 1, l, o02, x1, v153, v127 =>
    if (decide (v127 < ((x1.Vars).length : Int))) = true then
      idx x1.Vars v127 >>= fun x15 =>
      A1 fu (x15.Kind == 4) o02 >>= fun x16 =>
      Ia fu l x16 x1 v153 (IntKind.i64.wrap (v127 + 1))
    else
      I9 fu x1.Params o02 >>= fun x17 =>
      I9 fu x1.Vars x17 >>= fun x18 =>
      A7 fu x1.Body 1 x18 >>= fun x19 =>
      Fa fu l x19 (IntKind.i64.wrap (v153 + 1))
end
theorem Eb (fu : Nat) : (∀ (l : List E0) (syntaxReport : C0), Le (I9 fu l syntaxReport) (Z3 l syntaxReport)) ∧ (∀ (l : List E0) (o03 : C0) (v15 : Int), Le (Fa fu l o03 v15) (M3 l o03 v15)) ∧ (∀ (l : List E0) (o0 : C0) (x1 : E0) (x2 : Bool × Bool) (v151 : Int), Le (Ga fu l o0 x1 x2 v151) (K4 l o0 x1 x2 v151)) ∧ (∀ (l : List E0) (o01 : C0) (x1 : E0) (v152 : Int) (v109 : Int), Le (Ha fu l o01 x1 v152 v109) (N3 l o01 x1 v152 v109)) ∧ (∀ (l : List E0) (o02 : C0) (x1 : E0) (v153 : Int) (v127 : Int), Le (Ia fu l o02 x1 v153 v127) (L4 l o02 x1 v153 v127)) := by
  induction fu with
  | zero => exact ⟨fun _ _ => Le.none, fun _ _ _ => Le.none, fun _ _ _ _ _ => Le.none, fun _ _ _ _ _ => Le.none, fun _ _ _ _ _ => Le.none⟩
  | succ fu ih =>
    obtain ⟨ih0, ih1, ih2, ih3, ih4⟩ := ih
    refine ⟨fun l syntaxReport => ?_, fun l o03 v15 => ?_, fun l o0 x1 x2 v151 => ?_, fun l o01 x1 v152 v109 => ?_, fun l o02 x1 v153 v127 => ?_⟩
    · rw [I9, Z3]
      repeat (first | exact Le.rfl | exact ih0 _ _ | exact ih1 _ _ _ | exact ih2 _ _ _ _ _ | exact ih3 _ _ _ _ _ | exact ih4 _ _ _ _ _ | exact Lf fu _ | exact E1 fu _ _ | exact Me fu _ _ | exact Ud fu _ _ _ | exact I1 fu _ _ | exact O2 fu _ _ _ | exact C2 fu _ _ _ | exact J1 fu _ _ | exact M8 fu _ _ _ | exact T0 _ | refine Le.bind ?_ (fun _ => ?_) | refine Le.ite ?_ ?_)
    · rw [Fa, M3]
      repeat (first | exact Le.rfl | exact ih0 _ _ | exact ih1 _ _ _ | exact ih2 _ _ _ _ _ | exact ih3 _ _ _ _ _ | exact ih4 _ _ _ _ _ | exact Lf fu _ | exact E1 fu _ _ | exact Me fu _ _ | exact Ud fu _ _ _ | exact I1 fu _ _ | exact O2 fu _ _ _ | exact C2 fu _ _ _ | exact J1 fu _ _ | exact M8 fu _ _ _ | exact T0 _ | refine Le.bind ?_ (fun _ => ?_) | refine Le.ite ?_ ?_)
    · rw [Ga, K4]
      repeat (first | exact Le.rfl | exact ih0 _ _ | exact ih1 _ _ _ | exact ih2 _ _ _ _ _ | exact ih3 _ _ _ _ _ | exact ih4 _ _ _ _ _ | exact Lf fu _ | exact E1 fu _ _ | exact Me fu _ _ | exact Ud fu _ _ _ | exact I1 fu _ _ | exact O2 fu _ _ _ | exact C2 fu _ _ _ | exact J1 fu _ _ | exact M8 fu _ _ _ | exact T0 _ | refine Le.bind ?_ (fun _ => ?_) | refine Le.ite ?_ ?_)
    · rw [Ha, N3]
      repeat (first | exact Le.rfl | exact ih0 _ _ | exact ih1 _ _ _ | exact ih2 _ _ _ _ _ | exact ih3 _ _ _ _ _ | exact ih4 _ _ _ _ _ | exact Lf fu _ | exact E1 fu _ _ | exact Me fu _ _ | exact Ud fu _ _ _ | exact I1 fu _ _ | exact O2 fu _ _ _ | exact C2 fu _ _ _ | exact J1 fu _ _ | exact M8 fu _ _ _ | exact T0 _ | refine Le.bind ?_ (fun _ => ?_) | refine Le.ite ?_ ?_)
    · rw [Ia, L4]
      repeat (first | exact Le.rfl | exact ih0 _ _ | exact ih1 _ _ _ | exact ih2 _ _ _ _ _ | exact ih3 _ _ _ _ _ | exact ih4 _ _ _ _ _ | exact Lf fu _ | exact E1 fu _ _ | exact Me fu _ _ | exact Ud fu _ _ _ | exact I1 fu _ _ | exact O2 fu _ _ _ | exact C2 fu _ _ _ | exact J1 fu _ _ | exact M8 fu _ _ _ | exact T0 _ | refine Le.bind ?_ (fun _ => ?_) | refine Le.ite ?_ ?_)
theorem V10 (fu : Nat) (l : List E0) (syntaxReport : C0) : Le (I9 fu l syntaxReport) (Z3 l syntaxReport) := (Eb fu).1 l syntaxReport
theorem G1f (fu : Nat) (l : List E0) (o03 : C0) (v15 : Int) : Le (Fa fu l o03 v15) (M3 l o03 v15) := (Eb fu).2.1 l o03 v15
theorem H1f (fu : Nat) (l : List E0) (o0 : C0) (x1 : E0) (x2 : Bool × Bool) (v151 : Int) : Le (Ga fu l o0 x1 x2 v151) (K4 l o0 x1 x2 v151) := (Eb fu).2.2.1 l o0 x1 x2 v151
theorem I1f (fu : Nat) (l : List E0) (o01 : C0) (x1 : E0) (v152 : Int) (v109 : Int) : Le (Ha fu l o01 x1 v152 v109) (N3 l o01 x1 v152 v109) := (Eb fu).2.2.2.1 l o01 x1 v152 v109
theorem J1f (fu : Nat) (l : List E0) (o02 : C0) (x1 : E0) (v153 : Int) (v127 : Int) : Le (Ia fu l o02 x1 v153 v127) (L4 l o02 x1 v153 v127) := (Eb fu).2.2.2.2 l o02 x1 v153 v127
def Ym (fu : Nat) (p : L0) : Option C0 :=
  I9 fu p.Decls (C0.mk 0 0 false false false) >>= fun x1 =>
  A7 fu p.Body 1 x1 >>= fun x2 =>
  some x2
theorem Wx (fu : Nat) (p : L0) : Le (Ym fu p) (Zc p) := by
  unfold Ym Zc
  repeat (first | exact Le.rfl | exact V10 fu _ _ | exact M8 fu _ _ _ | exact T0 _ | refine Le.bind ?_ (fun _ => ?_) | refine Le.ite ?_ ?_)
def Vv (fu : Nat) (p : L0) : Option Int :=
  Ym fu p >>= fun x1 =>
  Td fu x1 >>= fun x2 =>
  some x2
theorem I1a (fu : Nat) (p : L0) : Le (Vv fu p) (Vh p) := by
  unfold Vv Vh
  repeat (first | exact Le.rfl | exact Wx fu _ | exact Jl fu _ | exact T0 _ | refine Le.bind ?_ (fun _ => ?_) | refine Le.ite ?_ ?_)
mutual
def K6 : Nat → D0 → Str → Option Str
  | 0, _, _ => none
  | fu + 1, t, b =>
    if (t.Kind == 0) = true then
      F0 [98, 111, 111, 108] b >>= fun x1 =>
      some x1.2
    else
      if (t.Kind == 1) = true then
        Ag t.Low >>= fun x2 =>
        if (decide (4 + x2.length ≤ maxLen)) = true then
          if (decide (([105, 110, 116, 91] ++ x2).length + 2 ≤ maxLen)) = true then
            Ag t.High >>= fun x3 =>
            if (decide ((([105, 110, 116, 91] ++ x2) ++ [46, 46]).length + x3.length ≤ maxLen)) = true then
              if (decide (((([105, 110, 116, 91] ++ x2) ++ [46, 46]) ++ x3).length + 1 ≤ maxLen)) = true then
                F0 (((([105, 110, 116, 91] ++ x2) ++ [46, 46]) ++ x3) ++ [93]) b >>= fun x4 =>
                some x4.2
              else none
            else none
          else none
        else none
      else
        if (t.Kind == 2) = true then
          Ag t.Size >>= fun x5 =>
          if (decide (6 + x5.length ≤ maxLen)) = true then
            if (decide (([97, 114, 114, 97, 121, 32] ++ x5).length + 4 ≤ maxLen)) = true then
              F0 (([97, 114, 114, 97, 121, 32] ++ x5) ++ [32, 111, 102, 32]) b >>= fun x6 =>
              idx t.Of 0 >>= fun x7 =>
              K6 fu x7 x6.2 >>= fun x14 =>
              some x14
            else none
          else none
        else
          if (t.Kind == 3) = true then
            F0 [114, 101, 99, 111, 114, 100, 32, 123] b >>= fun x8 =>
            Fb fu t x8.2 0
          else
            if (t.Kind == 4) = true then
              F0 t.Name b >>= fun x9 =>
              some x9.2
            else
              some b
def Fb : Nat → D0 → Str → Int → Option Str
  | 0, _, _, _ => none
  | fu + 1, t, b1, v56 =>
    if (decide (v56 < ((t.Of).length : Int))) = true then
      idx t.Of v56 >>= fun x10 =>
      if (decide (v56 > 0)) = true then
        F0 [44, 32] b1 >>= fun x16 =>
        Gb fu t x16.2 x10 v56 v56
      else
        Gb fu t b1 x10 v56 v56
    else
      F0 [125] b1 >>= fun x13 =>
      some x13.2
def Gb : Nat → D0 → Str → D0 → Int → Int → Option Str
  | 0, _, _, _, _, _ => none
  | fu + 1, t, b11, x10, i, v561 =>
    idx t.Names i >>= fun x11 =>
    if (decide (x11.length + 2 ≤ maxLen)) = true then
      F0 (x11 ++ [58, 32]) b11 >>= fun x12 =>
      K6 fu x10 x12.2 >>= fun x15 =>
      Fb fu t x15 (IntKind.i64.wrap (v561 + 1))
    else none
end
theorem Xj (fu : Nat) : (∀ (t : D0) (b : Str), Le (K6 fu t b) (R1 t b)) ∧ (∀ (t : D0) (b1 : Str) (v56 : Int), Le (Fb fu t b1 v56) (V3 t b1 v56)) ∧ (∀ (t : D0) (b11 : Str) (x10 : D0) (i : Int) (v561 : Int), Le (Gb fu t b11 x10 i v561) (U4 t b11 x10 i v561)) := by
  induction fu with
  | zero => exact ⟨fun _ _ => Le.none, fun _ _ _ => Le.none, fun _ _ _ _ _ => Le.none⟩
  | succ fu ih =>
    obtain ⟨ih0, ih1, ih2⟩ := ih
    refine ⟨fun t b => ?_, fun t b1 v56 => ?_, fun t b11 x10 i v561 => ?_⟩
    · rw [K6, R1]
      repeat (first | exact Le.rfl | exact ih0 _ _ | exact ih1 _ _ _ | exact ih2 _ _ _ _ _ | exact T0 _ | refine Le.bind ?_ (fun _ => ?_) | refine Le.ite ?_ ?_)
    · rw [Fb, V3]
      repeat (first | exact Le.rfl | exact ih0 _ _ | exact ih1 _ _ _ | exact ih2 _ _ _ _ _ | exact T0 _ | refine Le.bind ?_ (fun _ => ?_) | refine Le.ite ?_ ?_)
    · rw [Gb, U4]
      repeat (first | exact Le.rfl | exact ih0 _ _ | exact ih1 _ _ _ | exact ih2 _ _ _ _ _ | exact T0 _ | refine Le.bind ?_ (fun _ => ?_) | refine Le.ite ?_ ?_)
theorem Yf (fu : Nat) (t : D0) (b : Str) : Le (K6 fu t b) (R1 t b) := (Xj fu).1 t b
theorem J1h (fu : Nat) (t : D0) (b1 : Str) (v56 : Int) : Le (Fb fu t b1 v56) (V3 t b1 v56) := (Xj fu).2.1 t b1 v56
theorem K1h (fu : Nat) (t : D0) (b11 : Str) (x10 : D0) (i : Int) (v561 : Int) : Le (Gb fu t b11 x10 i v561) (U4 t b11 x10 i v561) := (Xj fu).2.2 t b11 x10 i v561
def I5 (fu : Nat) (name : Str) (t : D0) (b : Str) : Option Str :=
  if (decide (name.length + 2 ≤ maxLen)) = true then
    F0 (name ++ [58, 32]) b >>= fun x1 =>
    K6 fu t x1.2 >>= fun x2 =>
    some x2
  else none
theorem Ke (fu : Nat) (name : Str) (t : D0) (b : Str) : Le (I5 fu name t b) (A3 name t b) := by
  unfold I5 A3
  repeat (first | exact Le.rfl | exact Yf fu _ _ | exact T0 _ | refine Le.bind ?_ (fun _ => ?_) | refine Le.ite ?_ ?_)
def Ta (fu : Nat) (x2 : Str) (value : Str) : Option Str :=
  if (decide (3 + value.length ≤ maxLen)) = true then
    F0 ([32, 61, 32] ++ value) x2 >>= fun x4 =>
    F0 [59, 10] x4.2 >>= fun x5 =>
    some x5.2
  else none
theorem Wu (fu : Nat) (x2 : Str) (value : Str) : Le (Ta fu x2 value) (U3 x2 value) := by
  unfold Ta U3
  repeat (first | exact Le.rfl | exact T0 _ | refine Le.bind ?_ (fun _ => ?_) | refine Le.ite ?_ ?_)
def Hd (fu : Nat) (d : E0) (b : Str) : Option Str :=
  F0 [118, 97, 114, 32] b >>= fun x1 =>
  I5 fu d.Name d.TypeV x1.2 >>= fun x2 =>
  if (d.Init != 0) = true then
    Ag d.Init >>= fun x3 =>
    if (d.TypeV.Kind == 0) = true then
      Ta fu x2 [116, 114, 117, 101]
    else
      Ta fu x2 x3
  else
    F0 [59, 10] x2 >>= fun x5 =>
    some x5.2
theorem Gn (fu : Nat) (d : E0) (b : Str) : Le (Hd fu d b) (E5 d b) := by
  unfold Hd E5
  repeat (first | exact Le.rfl | exact Ke fu _ _ _ | exact Wu fu _ _ | exact T0 _ | refine Le.bind ?_ (fun _ => ?_) | refine Le.ite ?_ ?_)
mutual
def Ja : Nat → B0 → Str → Int → Option Str
  | 0, _, _, _ => none
  | fu + 1, s, b1, v163 =>
    if (decide (v163 < ((s.Numbers).length : Int))) = true then
      idx s.Numbers v163 >>= fun x25 =>
      if (decide (v163 > 0)) = true then
        F0 [44, 32] b1 >>= fun x28 =>
        Ka fu s x28.2 x25 v163
      else
        Ka fu s b1 x25 v163
    else
      F0 [59] b1 >>= fun x13 =>
      some x13.2
def Ka : Nat → B0 → Str → Int → Int → Option Str
  | 0, _, _, _, _ => none
  | fu + 1, s, b11, x25, v1631 =>
    Ag x25 >>= fun x26 =>
    F0 x26 b11 >>= fun x27 =>
    Ja fu s x27.2 (IntKind.i64.wrap (v1631 + 1))
end
theorem Hn (fu : Nat) : (∀ (s : B0) (b1 : Str) (v163 : Int), Le (Ja fu s b1 v163) (X2 s b1 v163)) ∧ (∀ (s : B0) (b11 : Str) (x25 : Int) (v1631 : Int), Le (Ka fu s b11 x25 v1631) (M4 s b11 x25 v1631)) := by
  induction fu with
  | zero => exact ⟨fun _ _ _ => Le.none, fun _ _ _ _ => Le.none⟩
  | succ fu ih =>
    obtain ⟨ih0, ih1⟩ := ih
    refine ⟨fun s b1 v163 => ?_, fun s b11 x25 v1631 => ?_⟩
    · rw [Ja, X2]
      repeat (first | exact Le.rfl | exact ih0 _ _ _ | exact ih1 _ _ _ _ | exact T0 _ | refine Le.bind ?_ (fun _ => ?_) | refine Le.ite ?_ ?_)
    · rw [Ka, M4]
      repeat (first | exact Le.rfl | exact ih0 _ _ _ | exact ih1 _ _ _ _ | exact T0 _ | refine Le.bind ?_ (fun _ => ?_) | refine Le.ite ?_ ?_)
theorem Id (fu : Nat) (s : B0) (b1 : Str) (v163 : Int) : Le (Ja fu s b1 v163) (X2 s b1 v163) := (Hn fu).1 s b1 v163
theorem K1f (fu : Nat) (s : B0) (b11 : Str) (x25 : Int) (v1631 : Int) : Le (Ka fu s b11 x25 v1631) (M4 s b11 x25 v1631) := (Hn fu).2 s b11 x25 v1631
mutual
def N8 : Nat → (List B0) → Str → Str → Option Str
  | 0, _, _, _ => none
  | fu + 1, l, margin, b =>
    E9 fu l margin b 0
def E9 : Nat → (List B0) → Str → Str → Int → Option Str
  | 0, _, _, _, _ => none
  | fu + 1, l, margin, b1, v10 =>
    if (decide (v10 < ((l).length : Int))) = true then
      idx l v10 >>= fun x1 =>
      F0 margin b1 >>= fun x2 =>
      Zf fu x1 margin x2.2 >>= fun x3 =>
      F0 [10] x3 >>= fun x4 =>
      E9 fu l margin x4.2 (IntKind.i64.wrap (v10 + 1))
    else
      some b1
def Zf : Nat → B0 → Str → Str → Option Str
  | 0, _, _, _ => none
  | fu + 1, s, margin, b =>
    if (s.Verb == 5) = true then
      F0 [105, 102, 32] b >>= fun x1 =>
      F1 fu s.Value x1.2 >>= fun x2 =>
      N6 fu s.Then margin x2 >>= fun x29 =>
      if (decide (((s.Else).length : Int) > 0)) = true then
        F0 [32, 101, 108, 115, 101] x29 >>= fun x30 =>
        N6 fu s.Else margin x30.2 >>= fun x31 =>
        some x31
      else
        some x29
    else
      if (s.Verb == 6) = true then
        F0 [119, 104, 105, 108, 101, 32] b >>= fun x3 =>
        F1 fu s.Value x3.2 >>= fun x4 =>
        Ag s.NV >>= fun x5 =>
        if (decide (7 + x5.length ≤ maxLen)) = true then
          F0 ([32, 108, 105, 109, 105, 116, 32] ++ x5) x4 >>= fun x6 =>
          N6 fu s.Then margin x6.2 >>= fun x32 =>
          some x32
        else none
      else
        if (s.Verb == 7) = true then
          if (decide (4 + s.Name.length ≤ maxLen)) = true then
            if (decide (([102, 111, 114, 32] ++ s.Name).length + 3 ≤ maxLen)) = true then
              Ag s.Low >>= fun x7 =>
              if (decide ((([102, 111, 114, 32] ++ s.Name) ++ [32, 61, 32]).length + x7.length ≤ maxLen)) = true then
                if (decide (((([102, 111, 114, 32] ++ s.Name) ++ [32, 61, 32]) ++ x7).length + 4 ≤ maxLen)) = true then
                  Ag s.High >>= fun x8 =>
                  if (decide ((((([102, 111, 114, 32] ++ s.Name) ++ [32, 61, 32]) ++ x7) ++ [32, 116, 111, 32]).length + x8.length ≤ maxLen)) = true then
                    F0 ((((([102, 111, 114, 32] ++ s.Name) ++ [32, 61, 32]) ++ x7) ++ [32, 116, 111, 32]) ++ x8) b >>= fun x9 =>
                    N6 fu s.Then margin x9.2 >>= fun x33 =>
                    some x33
                  else none
                else none
              else none
            else none
          else none
        else
          if (s.Verb == 0) = true then
            F1 fu s.Place b >>= fun x10 =>
            F0 [32, 61, 32] x10 >>= fun x11 =>
            F1 fu s.Value x11.2 >>= fun x12 =>
            F0 [59] x12 >>= fun x13 =>
            some x13.2
          else
            if (s.Verb == 1) = true then
              F1 fu s.Place b >>= fun x14 =>
              if (decide (8 + s.Name.length ≤ maxLen)) = true then
                if (decide (([32, 61, 32, 99, 97, 108, 108, 32] ++ s.Name).length + 1 ≤ maxLen)) = true then
                  F0 (([32, 61, 32, 99, 97, 108, 108, 32] ++ s.Name) ++ [40]) x14 >>= fun x15 =>
                  Fd fu s.Args x15.2 >>= fun x16 =>
                  F0 [41] x16 >>= fun x17 =>
                  F0 [59] x17.2 >>= fun x13 =>
                  some x13.2
                else none
              else none
            else
              if (s.Verb == 2) = true then
                F1 fu s.Place b >>= fun x18 =>
                if (decide (11 + s.Name.length ≤ maxLen)) = true then
                  F0 ([32, 61, 32, 114, 101, 108, 101, 97, 115, 101, 32] ++ s.Name) x18 >>= fun x19 =>
                  F0 [59] x19.2 >>= fun x13 =>
                  some x13.2
                else none
              else
                if (s.Verb == 3) = true then
                  F0 [111, 117, 116, 112, 117, 116, 32] b >>= fun x20 =>
                  F1 fu s.Value x20.2 >>= fun x21 =>
                  F0 [59] x21 >>= fun x13 =>
                  some x13.2
                else
                  if (s.Verb == 4) = true then
                    Ag s.NV >>= fun x22 =>
                    if (decide (5 + x22.length ≤ maxLen)) = true then
                      F0 ([119, 97, 105, 116, 32] ++ x22) b >>= fun x23 =>
                      F0 [59] x23.2 >>= fun x13 =>
                      some x13.2
                    else none
                  else
                    if (s.Verb == 8) = true then
                      F0 [115, 101, 116, 116, 108, 101, 32] b >>= fun x24 =>
                      Ja fu s x24.2 0
                    else
                      F0 [59] b >>= fun x13 =>
                      some x13.2
def N6 : Nat → (List B0) → Str → Str → Option Str
  | 0, _, _, _ => none
  | fu + 1, l, margin, b =>
    F0 [32, 123, 10] b >>= fun x1 =>
    if (decide (margin.length + 1 ≤ maxLen)) = true then
      N8 fu l (margin ++ [9]) x1.2 >>= fun x2 =>
      if (decide (margin.length + 1 ≤ maxLen)) = true then
        F0 (margin ++ [125]) x2 >>= fun x3 =>
        some x3.2
      else none
    else none
end
theorem Vd (fu : Nat) : (∀ (l : List B0) (margin : Str) (b : Str), Le (N8 fu l margin b) (B3 l margin b)) ∧ (∀ (l : List B0) (margin : Str) (b1 : Str) (v10 : Int), Le (E9 fu l margin b1 v10) (F3 l margin b1 v10)) ∧ (∀ (s : B0) (margin : Str) (b : Str), Le (Zf fu s margin b) (X1 s margin b)) ∧ (∀ (l : List B0) (margin : Str) (b : Str), Le (N6 fu l margin b) (Q3 l margin b)) := by
  induction fu with
  | zero => exact ⟨fun _ _ _ => Le.none, fun _ _ _ _ => Le.none, fun _ _ _ => Le.none, fun _ _ _ => Le.none⟩
  | succ fu ih =>
    obtain ⟨ih0, ih1, ih2, ih3⟩ := ih
    refine ⟨fun l margin b => ?_, fun l margin b1 v10 => ?_, fun s margin b => ?_, fun l margin b => ?_⟩
    · rw [N8, B3]
      repeat (first | exact Le.rfl | exact ih0 _ _ _ | exact ih1 _ _ _ _ | exact ih2 _ _ _ | exact ih3 _ _ _ | exact M6 fu _ _ | exact Ye fu _ _ | exact Id fu _ _ _ | exact T0 _ | refine Le.bind ?_ (fun _ => ?_) | refine Le.ite ?_ ?_)
    · rw [E9, F3]
      repeat (first | exact Le.rfl | exact ih0 _ _ _ | exact ih1 _ _ _ _ | exact ih2 _ _ _ | exact ih3 _ _ _ | exact M6 fu _ _ | exact Ye fu _ _ | exact Id fu _ _ _ | exact T0 _ | refine Le.bind ?_ (fun _ => ?_) | refine Le.ite ?_ ?_)
    · rw [Zf, X1]
      repeat (first | exact Le.rfl | exact ih0 _ _ _ | exact ih1 _ _ _ _ | exact ih2 _ _ _ | exact ih3 _ _ _ | exact M6 fu _ _ | exact Ye fu _ _ | exact Id fu _ _ _ | exact T0 _ | refine Le.bind ?_ (fun _ => ?_) | refine Le.ite ?_ ?_)
    · rw [N6, Q3]
      repeat (first | exact Le.rfl | exact ih0 _ _ _ | exact ih1 _ _ _ _ | exact ih2 _ _ _ | exact ih3 _ _ _ | exact M6 fu _ _ | exact Ye fu _ _ | exact Id fu _ _ _ | exact T0 _ | refine Le.bind ?_ (fun _ => ?_) | refine Le.ite ?_ ?_)
theorem Iq (fu : Nat) (l : List B0) (margin : Str) (b : Str) : Le (N8 fu l margin b) (B3 l margin b) := (Vd fu).1 l margin b
theorem D1e (fu : Nat) (l : List B0) (margin : Str) (b1 : Str) (v10 : Int) : Le (E9 fu l margin b1 v10) (F3 l margin b1 v10) := (Vd fu).2.1 l margin b1 v10
theorem V1j (fu : Nat) (s : B0) (margin : Str) (b : Str) : Le (Zf fu s margin b) (X1 s margin b) := (Vd fu).2.2.1 s margin b
theorem C1j (fu : Nat) (l : List B0) (margin : Str) (b : Str) : Le (N6 fu l margin b) (Q3 l margin b) := (Vd fu).2.2.2 l margin b
def B7 : Nat → E0 → Str → Int → Option Str
  | 0, _, _, _ => none
  | fu + 1, d, b12, v52 =>
    if (decide (v52 < ((d.Vars).length : Int))) = true then
      idx d.Vars v52 >>= fun x8 =>
      F0 [9] b12 >>= fun x9 =>
      Hd fu x8 x9.2 >>= fun x10 =>
      B7 fu d x10 (IntKind.i64.wrap (v52 + 1))
    else
      N8 fu d.Body [9] b12 >>= fun x11 =>
      F0 [9, 114, 101, 116, 117, 114, 110, 32] x11 >>= fun x12 =>
      F1 fu d.Value x12.2 >>= fun x13 =>
      F0 [59, 10, 125, 10] x13 >>= fun x14 =>
      some x14.2
theorem Ju (fu : Nat) : (∀ (d : E0) (b12 : Str) (v52 : Int), Le (B7 fu d b12 v52) (Y1 d b12 v52)) := by
  induction fu with
  | zero => exact fun _ _ _ => Le.none
  | succ fu ih =>
    have ih0 := ih
    refine fun d b12 v52 => ?_
    · rw [B7, Y1]
      repeat (first | exact Le.rfl | exact ih0 _ _ _ | exact Gn fu _ _ | exact Iq fu _ _ _ | exact M6 fu _ _ | exact T0 _ | refine Le.bind ?_ (fun _ => ?_) | refine Le.ite ?_ ?_)
theorem Zj (fu : Nat) (d : E0) (b12 : Str) (v52 : Int) : Le (B7 fu d b12 v52) (Y1 d b12 v52) := (Ju fu) d b12 v52
mutual
def C7 : Nat → E0 → Str → Int → Option Str
  | 0, _, _, _ => none
  | fu + 1, d, b1, v19 =>
    if (decide (v19 < ((d.Params).length : Int))) = true then
      idx d.Params v19 >>= fun x2 =>
      if (decide (v19 > 0)) = true then
        F0 [44, 32] b1 >>= fun x4 =>
        D7 fu d x4.2 x2 v19
      else
        D7 fu d b1 x2 v19
    else
      F0 [41, 58, 32] b1 >>= fun x5 =>
      K6 fu d.TypeV x5.2 >>= fun x6 =>
      F0 [32, 123, 10] x6 >>= fun x7 =>
      B7 fu d x7.2 0
def D7 : Nat → E0 → Str → E0 → Int → Option Str
  | 0, _, _, _, _ => none
  | fu + 1, d, b11, x2, v191 =>
    I5 fu x2.Name x2.TypeV b11 >>= fun x3 =>
    C7 fu d x3 (IntKind.i64.wrap (v191 + 1))
end
theorem Cj (fu : Nat) : (∀ (d : E0) (b1 : Str) (v19 : Int), Le (C7 fu d b1 v19) (Z1 d b1 v19)) ∧ (∀ (d : E0) (b11 : Str) (x2 : E0) (v191 : Int), Le (D7 fu d b11 x2 v191) (C3 d b11 x2 v191)) := by
  induction fu with
  | zero => exact ⟨fun _ _ _ => Le.none, fun _ _ _ _ => Le.none⟩
  | succ fu ih =>
    obtain ⟨ih0, ih1⟩ := ih
    refine ⟨fun d b1 v19 => ?_, fun d b11 x2 v191 => ?_⟩
    · rw [C7, Z1]
      repeat (first | exact Le.rfl | exact ih0 _ _ _ | exact ih1 _ _ _ _ | exact Yf fu _ _ | exact Zj fu _ _ _ | exact Ke fu _ _ _ | exact T0 _ | refine Le.bind ?_ (fun _ => ?_) | refine Le.ite ?_ ?_)
    · rw [D7, C3]
      repeat (first | exact Le.rfl | exact ih0 _ _ _ | exact ih1 _ _ _ _ | exact Yf fu _ _ | exact Zj fu _ _ _ | exact Ke fu _ _ _ | exact T0 _ | refine Le.bind ?_ (fun _ => ?_) | refine Le.ite ?_ ?_)
theorem Xu (fu : Nat) (d : E0) (b1 : Str) (v19 : Int) : Le (C7 fu d b1 v19) (Z1 d b1 v19) := (Cj fu).1 d b1 v19
theorem R1a (fu : Nat) (d : E0) (b11 : Str) (x2 : E0) (v191 : Int) : Le (D7 fu d b11 x2 v191) (C3 d b11 x2 v191) := (Cj fu).2 d b11 x2 v191
def Tg (fu : Nat) (d : E0) (b : Str) : Option Str :=
  if (decide (5 + d.Name.length ≤ maxLen)) = true then
    if (decide (([102, 117, 110, 99, 32] ++ d.Name).length + 1 ≤ maxLen)) = true then
      F0 (([102, 117, 110, 99, 32] ++ d.Name) ++ [40]) b >>= fun x1 =>
      C7 fu d x1.2 0
    else none
  else none
theorem Px (fu : Nat) (d : E0) (b : Str) : Le (Tg fu d b) (R7 d b) := by
  unfold Tg R7
  repeat (first | exact Le.rfl | exact Xu fu _ _ _ | exact T0 _ | refine Le.bind ?_ (fun _ => ?_) | refine Le.ite ?_ ?_)
def Kl (fu : Nat) (d : E0) (b : Str) : Option Str :=
  if (d.Kind == 4) = true then
    Hd fu d b >>= fun x1 =>
    some x1
  else
    if (d.Kind == 6) = true then
      Tg fu d b >>= fun x2 =>
      some x2
    else
      if (d.Kind == 0) = true then
        if (decide (5 + d.Name.length ≤ maxLen)) = true then
          if (decide (([116, 121, 112, 101, 32] ++ d.Name).length + 3 ≤ maxLen)) = true then
            F0 (([116, 121, 112, 101, 32] ++ d.Name) ++ [32, 61, 32]) b >>= fun x3 =>
            K6 fu d.TypeV x3.2 >>= fun x4 =>
            F0 [59, 10] x4 >>= fun x5 =>
            some x5.2
          else none
        else none
      else
        if (d.Kind == 1) = true then
          F0 [115, 101, 99, 114, 101, 116, 32] b >>= fun x6 =>
          I5 fu d.Name d.TypeV x6.2 >>= fun x7 =>
          F0 [59, 10] x7 >>= fun x5 =>
          some x5.2
        else
          if (d.Kind == 2) = true then
            F0 [112, 117, 98, 108, 105, 99, 32] b >>= fun x8 =>
            I5 fu d.Name d.TypeV x8.2 >>= fun x9 =>
            F0 [59, 10] x9 >>= fun x5 =>
            some x5.2
          else
            if (d.Kind == 3) = true then
              F0 [114, 97, 110, 100, 111, 109, 32] b >>= fun x10 =>
              I5 fu d.Name d.TypeV x10.2 >>= fun x11 =>
              F0 [59, 10] x11 >>= fun x5 =>
              some x5.2
            else
              if (d.Kind == 5) = true then
                F0 [104, 97, 116, 99, 104, 32] b >>= fun x12 =>
                I5 fu d.Name d.TypeV x12.2 >>= fun x13 =>
                F0 [32, 61, 32] x13 >>= fun x14 =>
                F1 fu d.Value x14.2 >>= fun x15 =>
                F0 [59, 10] x15 >>= fun x5 =>
                some x5.2
              else
                F0 [59, 10] b >>= fun x5 =>
                some x5.2
theorem W10 (fu : Nat) (d : E0) (b : Str) : Le (Kl fu d b) (Y8 d b) := by
  unfold Kl Y8
  repeat (first | exact Le.rfl | exact Gn fu _ _ | exact Px fu _ _ | exact Yf fu _ _ | exact Ke fu _ _ _ | exact M6 fu _ _ | exact T0 _ | refine Le.bind ?_ (fun _ => ?_) | refine Le.ite ?_ ?_)
def Mg : Nat → L0 → Str → Int → Option (Str × Int)
  | 0, _, _, _ => none
  | fu + 1, p, b2, v18 =>
    if (decide (v18 < ((p.Decls).length : Int))) = true then
      idx p.Decls v18 >>= fun x2 =>
      Kl fu x2 b2 >>= fun x3 =>
      Mg fu p x3 (IntKind.i64.wrap (v18 + 1))
    else
      F0 [98, 101, 103, 105, 110, 10] b2 >>= fun x4 =>
      N8 fu p.Body [9] x4.2 >>= fun x5 =>
      F0 [101, 110, 100, 10] x5 >>= fun x6 =>
      Xf fu x6.2 >>= fun x7 =>
      some (x7.1, x7.2)
theorem X13 (fu : Nat) : (∀ (p : L0) (b2 : Str) (v18 : Int), Le (Mg fu p b2 v18) (E6 p b2 v18)) := by
  induction fu with
  | zero => exact fun _ _ _ => Le.none
  | succ fu ih =>
    have ih0 := ih
    refine fun p b2 v18 => ?_
    · rw [Mg, E6]
      repeat (first | exact Le.rfl | exact ih0 _ _ _ | exact W10 fu _ _ | exact Iq fu _ _ _ | exact Wr fu _ | exact T0 _ | refine Le.bind ?_ (fun _ => ?_) | refine Le.ite ?_ ?_)
theorem F15 (fu : Nat) (p : L0) (b2 : Str) (v18 : Int) : Le (Mg fu p b2 v18) (E6 p b2 v18) := (X13 fu) p b2 v18
def Wv (fu : Nat) (p : L0) : Option (Str × Int) :=
  Vv fu p >>= fun x1 =>
  if (x1 != 0) = true then
    some ([], x1)
  else
    Mg fu p [] 0
theorem J1a (fu : Nat) (p : L0) : Le (Wv fu p) (Gf p) := by
  unfold Wv Gf
  repeat (first | exact Le.rfl | exact I1a fu _ | exact F15 fu _ _ _ | exact T0 _ | refine Le.bind ?_ (fun _ => ?_) | refine Le.ite ?_ ?_)
def Qx (fu : Nat) (p : L0) : Option (Int × Int) :=
  Ym fu p >>= fun x1 =>
  Td fu x1 >>= fun x2 =>
  if (x2 != 0) = true then
    some (0, x2)
  else
    some (x1.nodes, 0)
theorem U1b (fu : Nat) (p : L0) : Le (Qx fu p) (Lr p) := by
  unfold Qx Lr
  repeat (first | exact Le.rfl | exact Wx fu _ | exact Jl fu _ | exact T0 _ | refine Le.bind ?_ (fun _ => ?_) | refine Le.ite ?_ ?_)
def E13 (fu : Nat) : Option Bool :=
  Vr fu 1 >>= fun x1 =>
  Vr fu 2 >>= fun x2 =>
  Qd fu 8 [x1, x2] >>= fun x3 =>
  Jc fu [120] >>= fun x4 =>
  Qd fu 6 [x4] >>= fun x5 =>
  Qd fu 10 [x3, x5] >>= fun x6 =>
  Kf fu x6 >>= fun x7 =>
  Jc fu [97] >>= fun x8 =>
  Jc fu [98] >>= fun x9 =>
  Jc fu [99] >>= fun x10 =>
  Qd fu 9 [x9, x10] >>= fun x11 =>
  Qd fu 9 [x8, x11] >>= fun x12 =>
  Kf fu x12 >>= fun x13 =>
  Jc fu [97] >>= fun x14 =>
  Jc fu [98] >>= fun x15 =>
  Qd fu 9 [x14, x15] >>= fun x16 =>
  Jc fu [99] >>= fun x17 =>
  Qd fu 9 [x16, x17] >>= fun x18 =>
  Kf fu x18 >>= fun x19 =>
  Jc fu [112, 105, 110] >>= fun x20 =>
  Wv fu (L0.mk [(E0.mk 1 [112, 105, 110] (D0.mk 1 0 9 0 [] [] []) 0 (A0.mk 0 0 [] []) [] [] []), (E0.mk 4 [120] (D0.mk 0 0 0 0 [] [] []) 1 (A0.mk 0 0 [] []) [] [] [])] [(B0.mk 3 (A0.mk 0 0 [] []) x20 [] [] 0 0 0 [] [] [])]) >>= fun x21 =>
  Qx fu (L0.mk [(E0.mk 1 [112, 105, 110] (D0.mk 1 0 9 0 [] [] []) 0 (A0.mk 0 0 [] []) [] [] []), (E0.mk 4 [120] (D0.mk 0 0 0 0 [] [] []) 1 (A0.mk 0 0 [] []) [] [] [])] [(B0.mk 3 (A0.mk 0 0 [] []) x20 [] [] 0 0 0 [] [] [])]) >>= fun x22 =>
  if (bif (bif (bif (bif (bif (x7.2 != 0) then true else (x13.2 != 0)) then true else (x19.2 != 0)) then true else (x21.2 != 0)) then true else (x22.2 != 0)) then true else (x22.1 != 6)) = true then
    some false
  else
    (if (bif (bif (bif (x7.1 == [40, 49, 32, 43, 32, 50, 41, 32, 42, 32, 45, 120]) then (x13.1 == [97, 32, 45, 32, 40, 98, 32, 45, 32, 99, 41]) else false) then (x19.1 == [97, 32, 45, 32, 98, 32, 45, 32, 99]) else false) then (x21.1 == [115, 101, 99, 114, 101, 116, 32, 112, 105, 110, 58, 32, 105, 110, 116, 91, 48, 46, 46, 57, 93, 59, 10, 118, 97, 114, 32, 120, 58, 32, 98, 111, 111, 108, 32, 61, 32, 116, 114, 117, 101, 59, 10, 98, 101, 103, 105, 110, 10, 9, 111, 117, 116, 112, 117, 116, 32, 112, 105, 110, 59, 10, 101, 110, 100, 10]) else false) = true then Vr fu (-1) else some default) >>= fun x23 =>
    (if (bif (bif (bif (x7.1 == [40, 49, 32, 43, 32, 50, 41, 32, 42, 32, 45, 120]) then (x13.1 == [97, 32, 45, 32, 40, 98, 32, 45, 32, 99, 41]) else false) then (x19.1 == [97, 32, 45, 32, 98, 32, 45, 32, 99]) else false) then (x21.1 == [115, 101, 99, 114, 101, 116, 32, 112, 105, 110, 58, 32, 105, 110, 116, 91, 48, 46, 46, 57, 93, 59, 10, 118, 97, 114, 32, 120, 58, 32, 98, 111, 111, 108, 32, 61, 32, 116, 114, 117, 101, 59, 10, 98, 101, 103, 105, 110, 10, 9, 111, 117, 116, 112, 117, 116, 32, 112, 105, 110, 59, 10, 101, 110, 100, 10]) else false) = true then Bj fu x23 else some default) >>= fun x24 =>
    some (bif (bif (bif (bif (x7.1 == [40, 49, 32, 43, 32, 50, 41, 32, 42, 32, 45, 120]) then (x13.1 == [97, 32, 45, 32, 40, 98, 32, 45, 32, 99, 41]) else false) then (x19.1 == [97, 32, 45, 32, 98, 32, 45, 32, 99]) else false) then (x21.1 == [115, 101, 99, 114, 101, 116, 32, 112, 105, 110, 58, 32, 105, 110, 116, 91, 48, 46, 46, 57, 93, 59, 10, 118, 97, 114, 32, 120, 58, 32, 98, 111, 111, 108, 32, 61, 32, 116, 114, 117, 101, 59, 10, 98, 101, 103, 105, 110, 10, 9, 111, 117, 116, 112, 117, 116, 32, 112, 105, 110, 59, 10, 101, 110, 100, 10]) else false) then (x24 == 3) else false)
theorem V1b (fu : Nat) : Le (E13 fu ) (Sj ) := by
  unfold E13 Sj
  repeat (first | exact Le.rfl | exact D1h fu _ | exact B1e fu _ _ | exact C1e fu _ | exact V13 fu _ | exact J1a fu _ | exact U1b fu _ | exact Hv fu _ | exact T0 _ | refine Le.bind ?_ (fun _ => ?_) | refine Le.ite ?_ ?_)
end Go.Proofs.YtmilgoloagbmpaaGreatDoor

