/- A part of the proof of ParserParses. -/
import Derived.Test.YtmnhfbekncjnfaaGreatDoorDgB
import Derived.Test.YtmnhfbekncjnfaaGreatDoorAmB
set_option maxRecDepth 100000
set_option maxHeartbeats 4000000
set_option synthInstance.maxSize 20000
set_option linter.unusedVariables false
namespace Go.Proofs.YtmnhfbekncjnfaaGreatDoor
open Go.Am
def Lc (x4:C0×B0)(x1:Str×B0):Option (Pn (C0×B0)):=
 D5 x4.2 x1 [x4.1]
theorem W2 {x4 x1 res}(hh:Lc x4 x1=some res):JMp C 58 1 Tryz.f141 [1,1,1,0,1,2,1] [(0,.ref 0 0),(2,.ref 1 0),(3,.ref 2 0)] [.row (B0.cells x4.2) 99,.row [.d (.int .i64 0),.d (.str []),.d (.int .i64 0),.d (.int .i64 0),.d (.int .i64 0),.d (.int .i64 0),.d (.str []),.full (estr.rows []),.full (I0.rows []),.d (.int .i64 0),.d (.int .i64 0),.d (.int .i64 0),.d (.str []),.full (A0.rows []),.full (C0.rows []),.full (C0.rows []),.full (D0.rows [])] 128,.row [.d (.int .i64 6),.d (.str x1.1),.d (.int .i64 0),.d (.int .i64 0),.d (.int .i64 0),.d (.int .i64 0),.d (.str []),.full (estr.rows []),.full (I0.rows []),.d (.int .i64 0),.d (.int .i64 0),.d (.int .i64 0),.d (.str []),.full (A0.rows []),.osl 3 (C0.rows [x4.1]),.osl 4 (C0.rows []),.full (D0.rows [])] 128,.tok 128 17,.tok 128 17] (R4 res (fun rr=>[.row (B0.cells rr.2) 99]) (fun rr=>.agg (C0.cells rr.1))) (N4 res L3 [.dead]):=by
 unfold Lc at hh
 exact bk' (fw' (Sr hh) rfl rfl rfl)
def Eb (parserParser:B0):Option (Pn (C0×B0)):=
 X2 parserParser>>=fun x1=>match x1 with
 | .pn nn=>
 some (.pn nn)
 | .ok x1=>
 T0 [40] x1.2>>=fun x2=>match x2 with
 | .pn nn=>
 some (.pn nn)
 | .ok x2=>
 Z4 x2>>=fun x3=>
 if x3=true then
  Z2 4 x2>>=fun x4=>match x4 with
  | .pn nn=>
  some (.pn nn)
  | .ok x4=>
  if (decide ((0+1) * 257≤140737488355328))=true then
   Lc x4 x1
  else none
 else
  C5 x2 x1 []
theorem Kl {parserParser res}(hh:Eb parserParser=some res):E2 C 141 [.ref 0 0] [.row (B0.cells parserParser) 99] (R4 res (fun rr=>[.row (B0.cells rr.2) 99]) (fun rr=>.agg (C0.cells rr.1))) (N4 res L3 [.dead]):=by
 unfold Eb at hh
 refine E2.intro hC Tryz.func141 rfl rfl rfl (s' rfl rfl (F0.nf hC rfl (n' (p' 1 rfl ?_))))
 rcases bp' hh with ⟨nn,hx1,⟨⟩⟩ | ⟨x1,hx1,hh⟩
 ·exact gn' [0] (F1 hx1) rfl rfl rfl rfl rfl (fun hi=>peW ⟨trivial,trivial⟩ rfl hi)
 refine g' [0] ((F1 hx1).ok) rfl rfl rfl rfl rfl rfl (F0.bz hC rfl (F0.nf hC rfl (F0.s hC rfl (F0.tokC 2 14 128 17 rfl rfl rfl rfl rfl (F0.tokC 2 15 128 17 rfl rfl rfl rfl rfl (n' (p' 1 rfl ?_)))))))
 rcases bp' hh with ⟨nn,hx2,⟨⟩⟩ | ⟨x2,hx2,hh⟩
 ·exact gn' [0] (L0 hx2) rfl rfl rfl rfl rfl (fun hi=>peW ⟨trivial,trivial⟩ rfl hi)
 obtain ⟨x3,hx3,hh⟩:=bs' hh
 refine g' [0] ((L0 hx2).ok) rfl rfl rfl rfl rfl rfl (n' (S' (p' 1 rfl (g' [0] (Gh hx3) rfl rfl rfl rfl rfl rfl (n' (ci' rfl hh (fun hh=>?_) (fun hh=>?_)))))))
 ·refine S' ?_
  rcases bp' hh with ⟨nn,hx4,⟨⟩⟩ | ⟨x4,hx4,hh⟩
  ·refine AEx.drawE hC ?_
   refine E0.step rfl (j0:=0) (js:=[2]) (by kernel_rfl) ⟨⟨_,rfl,?_⟩,⟨_,rfl,?_⟩,trivial⟩
   ·refine e' rfl ?_
    refine E0.step rfl (j0:=1) (js:=[2]) (by kernel_rfl) ⟨⟨_,rfl,?_⟩,⟨_,rfl,?_⟩,trivial⟩
    ·refine e' rfl ?_
     refine E0.step rfl (j0:=2) (js:=[]) (by kernel_rfl) ⟨⟨_,rfl,?_⟩,trivial⟩
     refine e' rfl ?_
     refine E0.step rfl (j0:=3) (js:=[]) (by kernel_rfl) ⟨⟨_,rfl,?_⟩,trivial⟩
     exact gn' [0] (X0 hx4) rfl rfl rfl rfl rfl (fun hi=>peW ⟨trivial,trivial⟩ rfl hi)
    ·refine e' rfl ?_
     refine E0.step rfl (j0:=1) (js:=[3]) (by kernel_rfl) ⟨⟨_,rfl,?_⟩,⟨_,rfl,?_⟩,trivial⟩
     ·refine e' rfl ?_
      refine E0.step rfl (j0:=3) (js:=[]) (by kernel_rfl) ⟨⟨_,rfl,?_⟩,trivial⟩
      exact gn' [0] (X0 hx4) rfl rfl rfl rfl rfl (fun hi=>peW ⟨trivial,trivial⟩ rfl hi)
     ·exact gn' [0] (X0 hx4) rfl rfl rfl rfl rfl (fun hi=>peW ⟨trivial,trivial⟩ rfl hi)
   ·refine e' rfl ?_
    refine E0.step rfl (j0:=0) (js:=[3]) (by kernel_rfl) ⟨⟨_,rfl,?_⟩,⟨_,rfl,?_⟩,trivial⟩
    ·refine e' rfl ?_
     refine E0.step rfl (j0:=1) (js:=[3]) (by kernel_rfl) ⟨⟨_,rfl,?_⟩,⟨_,rfl,?_⟩,trivial⟩
     ·refine e' rfl ?_
      refine E0.step rfl (j0:=3) (js:=[]) (by kernel_rfl) ⟨⟨_,rfl,?_⟩,trivial⟩
      exact gn' [0] (X0 hx4) rfl rfl rfl rfl rfl (fun hi=>peW ⟨trivial,trivial⟩ rfl hi)
     ·exact gn' [0] (X0 hx4) rfl rfl rfl rfl rfl (fun hi=>peW ⟨trivial,trivial⟩ rfl hi)
    ·exact gn' [0] (X0 hx4) rfl rfl rfl rfl rfl (fun hi=>peW ⟨trivial,trivial⟩ rfl hi)
  obtain ⟨c33,hh⟩:=I4 hh
  refine AEx.drawE hC ?_
  refine E0.step rfl (j0:=0) (js:=[2]) (by kernel_rfl) ⟨⟨_,rfl,?_⟩,⟨_,rfl,?_⟩,trivial⟩
  ·refine e' rfl ?_
   refine E0.step rfl (j0:=1) (js:=[2]) (by kernel_rfl) ⟨⟨_,rfl,?_⟩,⟨_,rfl,?_⟩,trivial⟩
   ·refine e' rfl ?_
    refine E0.step rfl (j0:=2) (js:=[]) (by kernel_rfl) ⟨⟨_,rfl,?_⟩,trivial⟩
    refine e' rfl ?_
    refine E0.step rfl (j0:=3) (js:=[]) (by kernel_rfl) ⟨⟨_,rfl,?_⟩,trivial⟩
    refine g' [0] ((X0 hx4).ok) rfl rfl rfl rfl rfl rfl (n' ?_)
    refine E0.step rfl (j0:=4) (js:=[]) (by kernel_rfl) ⟨⟨_,rfl,?_⟩,trivial⟩
    refine F0.be hC rfl (C0.rows_map [x4.1]).symm (n' ?_)
    refine E0.step rfl (j0:=5) (js:=[]) (by kernel_rfl) ⟨⟨_,rfl,?_⟩,trivial⟩
    refine F0.ap hC rfl (rs:=C0.rows [x4.1]) rfl (C0.sz []) (C0.sz [x4.1]) (P1 (C0.len []) (C0.len [x4.1]) c33) (n' ?_)
    refine E0.step rfl (j0:=6) (js:=[]) (by kernel_rfl) ⟨⟨_,rfl,?_⟩,trivial⟩
    refine e' rfl ?_
    refine E0.step rfl (j0:=7) (js:=[]) (by kernel_rfl) ⟨⟨_,rfl,?_⟩,trivial⟩
    exact F0.s hC rfl (n' (E0.nil (by kernel_rfl) (ew' (W2 hh) rfl rfl rfl)))
   ·refine e' rfl ?_
    refine E0.step rfl (j0:=1) (js:=[3]) (by kernel_rfl) ⟨⟨_,rfl,?_⟩,⟨_,rfl,?_⟩,trivial⟩
    ·refine e' rfl ?_
     refine E0.step rfl (j0:=3) (js:=[]) (by kernel_rfl) ⟨⟨_,rfl,?_⟩,trivial⟩
     refine g' [0] ((X0 hx4).ok) rfl rfl rfl rfl rfl rfl (n' ?_)
     refine E0.step rfl (j0:=4) (js:=[]) (by kernel_rfl) ⟨⟨_,rfl,?_⟩,trivial⟩
     refine F0.be hC rfl (C0.rows_map [x4.1]).symm (n' ?_)
     refine E0.step rfl (j0:=5) (js:=[]) (by kernel_rfl) ⟨⟨_,rfl,?_⟩,trivial⟩
     refine F0.ap hC rfl (rs:=C0.rows [x4.1]) rfl (C0.sz []) (C0.sz [x4.1]) (P1 (C0.len []) (C0.len [x4.1]) c33) (n' ?_)
     refine E0.step rfl (j0:=6) (js:=[]) (by kernel_rfl) ⟨⟨_,rfl,?_⟩,trivial⟩
     refine e' rfl ?_
     refine E0.step rfl (j0:=7) (js:=[]) (by kernel_rfl) ⟨⟨_,rfl,?_⟩,trivial⟩
     exact F0.s hC rfl (n' (E0.nil (by kernel_rfl) (ew' (W2 hh) rfl rfl rfl)))
    ·refine g' [0] ((X0 hx4).ok) rfl rfl rfl rfl rfl rfl (n' ?_)
     refine E0.step rfl (j0:=1) (js:=[4]) (by kernel_rfl) ⟨⟨_,rfl,?_⟩,⟨_,rfl,?_⟩,trivial⟩
     ·refine e' rfl ?_
      refine E0.step rfl (j0:=4) (js:=[]) (by kernel_rfl) ⟨⟨_,rfl,?_⟩,trivial⟩
      refine F0.be hC rfl (C0.rows_map [x4.1]).symm (n' ?_)
      refine E0.step rfl (j0:=5) (js:=[]) (by kernel_rfl) ⟨⟨_,rfl,?_⟩,trivial⟩
      refine F0.ap hC rfl (rs:=C0.rows [x4.1]) rfl (C0.sz []) (C0.sz [x4.1]) (P1 (C0.len []) (C0.len [x4.1]) c33) (n' ?_)
      refine E0.step rfl (j0:=6) (js:=[]) (by kernel_rfl) ⟨⟨_,rfl,?_⟩,trivial⟩
      refine e' rfl ?_
      refine E0.step rfl (j0:=7) (js:=[]) (by kernel_rfl) ⟨⟨_,rfl,?_⟩,trivial⟩
      exact F0.s hC rfl (n' (E0.nil (by kernel_rfl) (ew' (W2 hh) rfl rfl rfl)))
     ·refine F0.be hC rfl (C0.rows_map [x4.1]).symm (n' ?_)
      refine E0.step rfl (j0:=1) (js:=[]) (by kernel_rfl) ⟨⟨_,rfl,?_⟩,trivial⟩
      refine e' rfl ?_
      refine E0.step rfl (j0:=5) (js:=[]) (by kernel_rfl) ⟨⟨_,rfl,?_⟩,trivial⟩
      refine F0.ap hC rfl (rs:=C0.rows [x4.1]) rfl (C0.sz []) (C0.sz [x4.1]) (P1 (C0.len []) (C0.len [x4.1]) c33) (n' ?_)
      refine E0.step rfl (j0:=6) (js:=[]) (by kernel_rfl) ⟨⟨_,rfl,?_⟩,trivial⟩
      refine e' rfl ?_
      refine E0.step rfl (j0:=7) (js:=[]) (by kernel_rfl) ⟨⟨_,rfl,?_⟩,trivial⟩
      exact F0.s hC rfl (n' (E0.nil (by kernel_rfl) (ew' (W2 hh) rfl rfl rfl)))
  ·refine e' rfl ?_
   refine E0.step rfl (j0:=0) (js:=[3]) (by kernel_rfl) ⟨⟨_,rfl,?_⟩,⟨_,rfl,?_⟩,trivial⟩
   ·refine e' rfl ?_
    refine E0.step rfl (j0:=1) (js:=[3]) (by kernel_rfl) ⟨⟨_,rfl,?_⟩,⟨_,rfl,?_⟩,trivial⟩
    ·refine e' rfl ?_
     refine E0.step rfl (j0:=3) (js:=[]) (by kernel_rfl) ⟨⟨_,rfl,?_⟩,trivial⟩
     refine g' [0] ((X0 hx4).ok) rfl rfl rfl rfl rfl rfl (n' ?_)
     refine E0.step rfl (j0:=4) (js:=[]) (by kernel_rfl) ⟨⟨_,rfl,?_⟩,trivial⟩
     refine F0.be hC rfl (C0.rows_map [x4.1]).symm (n' ?_)
     refine E0.step rfl (j0:=5) (js:=[]) (by kernel_rfl) ⟨⟨_,rfl,?_⟩,trivial⟩
     refine F0.ap hC rfl (rs:=C0.rows [x4.1]) rfl (C0.sz []) (C0.sz [x4.1]) (P1 (C0.len []) (C0.len [x4.1]) c33) (n' ?_)
     refine E0.step rfl (j0:=6) (js:=[]) (by kernel_rfl) ⟨⟨_,rfl,?_⟩,trivial⟩
     refine e' rfl ?_
     refine E0.step rfl (j0:=7) (js:=[]) (by kernel_rfl) ⟨⟨_,rfl,?_⟩,trivial⟩
     exact F0.s hC rfl (n' (E0.nil (by kernel_rfl) (ew' (W2 hh) rfl rfl rfl)))
    ·refine g' [0] ((X0 hx4).ok) rfl rfl rfl rfl rfl rfl (n' ?_)
     refine E0.step rfl (j0:=1) (js:=[4]) (by kernel_rfl) ⟨⟨_,rfl,?_⟩,⟨_,rfl,?_⟩,trivial⟩
     ·refine e' rfl ?_
      refine E0.step rfl (j0:=4) (js:=[]) (by kernel_rfl) ⟨⟨_,rfl,?_⟩,trivial⟩
      refine F0.be hC rfl (C0.rows_map [x4.1]).symm (n' ?_)
      refine E0.step rfl (j0:=5) (js:=[]) (by kernel_rfl) ⟨⟨_,rfl,?_⟩,trivial⟩
      refine F0.ap hC rfl (rs:=C0.rows [x4.1]) rfl (C0.sz []) (C0.sz [x4.1]) (P1 (C0.len []) (C0.len [x4.1]) c33) (n' ?_)
      refine E0.step rfl (j0:=6) (js:=[]) (by kernel_rfl) ⟨⟨_,rfl,?_⟩,trivial⟩
      refine e' rfl ?_
      refine E0.step rfl (j0:=7) (js:=[]) (by kernel_rfl) ⟨⟨_,rfl,?_⟩,trivial⟩
      exact F0.s hC rfl (n' (E0.nil (by kernel_rfl) (ew' (W2 hh) rfl rfl rfl)))
     ·refine F0.be hC rfl (C0.rows_map [x4.1]).symm (n' ?_)
      refine E0.step rfl (j0:=1) (js:=[]) (by kernel_rfl) ⟨⟨_,rfl,?_⟩,trivial⟩
      refine e' rfl ?_
      refine E0.step rfl (j0:=5) (js:=[]) (by kernel_rfl) ⟨⟨_,rfl,?_⟩,trivial⟩
      refine F0.ap hC rfl (rs:=C0.rows [x4.1]) rfl (C0.sz []) (C0.sz [x4.1]) (P1 (C0.len []) (C0.len [x4.1]) c33) (n' ?_)
      refine E0.step rfl (j0:=6) (js:=[]) (by kernel_rfl) ⟨⟨_,rfl,?_⟩,trivial⟩
      refine e' rfl ?_
      refine E0.step rfl (j0:=7) (js:=[]) (by kernel_rfl) ⟨⟨_,rfl,?_⟩,trivial⟩
      exact F0.s hC rfl (n' (E0.nil (by kernel_rfl) (ew' (W2 hh) rfl rfl rfl)))
   ·refine g' [0] ((X0 hx4).ok) rfl rfl rfl rfl rfl rfl (n' ?_)
    refine E0.step rfl (j0:=0) (js:=[4]) (by kernel_rfl) ⟨⟨_,rfl,?_⟩,⟨_,rfl,?_⟩,trivial⟩
    ·refine e' rfl ?_
     refine E0.step rfl (j0:=1) (js:=[4]) (by kernel_rfl) ⟨⟨_,rfl,?_⟩,⟨_,rfl,?_⟩,trivial⟩
     ·refine e' rfl ?_
      refine E0.step rfl (j0:=4) (js:=[]) (by kernel_rfl) ⟨⟨_,rfl,?_⟩,trivial⟩
      refine F0.be hC rfl (C0.rows_map [x4.1]).symm (n' ?_)
      refine E0.step rfl (j0:=5) (js:=[]) (by kernel_rfl) ⟨⟨_,rfl,?_⟩,trivial⟩
      refine F0.ap hC rfl (rs:=C0.rows [x4.1]) rfl (C0.sz []) (C0.sz [x4.1]) (P1 (C0.len []) (C0.len [x4.1]) c33) (n' ?_)
      refine E0.step rfl (j0:=6) (js:=[]) (by kernel_rfl) ⟨⟨_,rfl,?_⟩,trivial⟩
      refine e' rfl ?_
      refine E0.step rfl (j0:=7) (js:=[]) (by kernel_rfl) ⟨⟨_,rfl,?_⟩,trivial⟩
      exact F0.s hC rfl (n' (E0.nil (by kernel_rfl) (ew' (W2 hh) rfl rfl rfl)))
     ·refine F0.be hC rfl (C0.rows_map [x4.1]).symm (n' ?_)
      refine E0.step rfl (j0:=1) (js:=[]) (by kernel_rfl) ⟨⟨_,rfl,?_⟩,trivial⟩
      refine e' rfl ?_
      refine E0.step rfl (j0:=5) (js:=[]) (by kernel_rfl) ⟨⟨_,rfl,?_⟩,trivial⟩
      refine F0.ap hC rfl (rs:=C0.rows [x4.1]) rfl (C0.sz []) (C0.sz [x4.1]) (P1 (C0.len []) (C0.len [x4.1]) c33) (n' ?_)
      refine E0.step rfl (j0:=6) (js:=[]) (by kernel_rfl) ⟨⟨_,rfl,?_⟩,trivial⟩
      refine e' rfl ?_
      refine E0.step rfl (j0:=7) (js:=[]) (by kernel_rfl) ⟨⟨_,rfl,?_⟩,trivial⟩
      exact F0.s hC rfl (n' (E0.nil (by kernel_rfl) (ew' (W2 hh) rfl rfl rfl)))
    ·refine F0.be hC rfl (C0.rows_map [x4.1]).symm (n' ?_)
     refine E0.step rfl (j0:=0) (js:=[]) (by kernel_rfl) ⟨⟨_,rfl,?_⟩,trivial⟩
     refine e' rfl ?_
     refine E0.step rfl (j0:=1) (js:=[]) (by kernel_rfl) ⟨⟨_,rfl,?_⟩,trivial⟩
     refine e' rfl ?_
     refine E0.step rfl (j0:=5) (js:=[]) (by kernel_rfl) ⟨⟨_,rfl,?_⟩,trivial⟩
     refine F0.ap hC rfl (rs:=C0.rows [x4.1]) rfl (C0.sz []) (C0.sz [x4.1]) (P1 (C0.len []) (C0.len [x4.1]) c33) (n' ?_)
     refine E0.step rfl (j0:=6) (js:=[]) (by kernel_rfl) ⟨⟨_,rfl,?_⟩,trivial⟩
     refine e' rfl ?_
     refine E0.step rfl (j0:=7) (js:=[]) (by kernel_rfl) ⟨⟨_,rfl,?_⟩,trivial⟩
     exact F0.s hC rfl (n' (E0.nil (by kernel_rfl) (ew' (W2 hh) rfl rfl rfl)))
 exact sk' (ew' (Zi hh) rfl rfl rfl)
def E5 (parserParser:B0):Option (Pn (C0×Bool×B0)):=
 R0 [116,121,112,101] parserParser>>=fun x1=>
 if x1.1=true then
  X2 x1.2>>=fun x2=>match x2 with
  | .pn nn=>
  some (.pn nn)
  | .ok x2=>
  T0 [61] x2.2>>=fun x3=>match x3 with
  | .pn nn=>
  some (.pn nn)
  | .ok x3=>
  Y4 x3>>=fun x4=>match x4 with
  | .pn nn=>
  some (.pn nn)
  | .ok x4=>
  T0 [59] x4.2>>=fun x5=>match x5 with
  | .pn nn=>
  some (.pn nn)
  | .ok x5=>
  some (.ok ((C0.mk 0 x2.1 x4.1 0 (A0.mk 0 0 [] []) [] [] []),true,x5))
 else
  R0 [115,101,99,114,101,116] x1.2>>=fun x6=>
  if x6.1=true then
   Z2 1 x6.2>>=fun x7=>match x7 with
   | .pn nn=>
   some (.pn nn)
   | .ok x7=>
   T0 [59] x7.2>>=fun x8=>match x8 with
   | .pn nn=>
   some (.pn nn)
   | .ok x8=>
   some (.ok (x7.1,true,x8))
  else
   R0 [112,117,98,108,105,99] x6.2>>=fun x9=>
   if x9.1=true then
    Z2 2 x9.2>>=fun x10=>match x10 with
    | .pn nn=>
    some (.pn nn)
    | .ok x10=>
    T0 [59] x10.2>>=fun x11=>match x11 with
    | .pn nn=>
    some (.pn nn)
    | .ok x11=>
    some (.ok (x10.1,true,x11))
   else
    R0 [114,97,110,100,111,109] x9.2>>=fun x12=>
    if x12.1=true then
     Z2 3 x12.2>>=fun x13=>match x13 with
     | .pn nn=>
     some (.pn nn)
     | .ok x13=>
     T0 [59] x13.2>>=fun x14=>match x14 with
     | .pn nn=>
     some (.pn nn)
     | .ok x14=>
     some (.ok (x13.1,true,x14))
    else
     R0 [118,97,114] x12.2>>=fun x15=>
     if x15.1=true then
      R7 x15.2>>=fun x16=>match x16 with
      | .pn nn=>
      some (.pn nn)
      | .ok x16=>
      some (.ok (x16.1,true,x16.2))
     else
      R0 [104,97,116,99,104] x15.2>>=fun x17=>
      if x17.1=true then
       Z2 5 x17.2>>=fun x18=>match x18 with
       | .pn nn=>
       some (.pn nn)
       | .ok x18=>
       T0 [61] x18.2>>=fun x19=>match x19 with
       | .pn nn=>
       some (.pn nn)
       | .ok x19=>
       G1 x19>>=fun x20=>match x20 with
       | .pn nn=>
       some (.pn nn)
       | .ok x20=>
       T0 [59] x20.2>>=fun x21=>match x21 with
       | .pn nn=>
       some (.pn nn)
       | .ok x21=>
       some (.ok ((C0.mk x18.1.Kind x18.1.Name x18.1.TypeV x18.1.Init x20.1 x18.1.Params x18.1.Vars x18.1.Body),true,x21))
      else
       R0 [102,117,110,99] x17.2>>=fun x22=>
       if x22.1=true then
        Eb x22.2>>=fun x23=>match x23 with
        | .pn nn=>
        some (.pn nn)
        | .ok x23=>
        some (.ok (x23.1,true,x23.2))
       else
        some (.ok ((C0.mk 0 [] (I0.mk 0 0 0 0 [] [] []) 0 (A0.mk 0 0 [] []) [] [] []),false,x22.2))
theorem Aj {parserParser res}(hh:E5 parserParser=some res):E2 C 87 [.ref 0 0] [.row (B0.cells parserParser) 99] (R4 res (fun rr=>[.row (B0.cells rr.2.2) 99]) (fun rr=>.tup [.agg (C0.cells rr.1),.d (.bool rr.2.1)])) (N4 res L3 [.dead]):=by
 unfold E5 at hh
 obtain ⟨x1,hx1,hh⟩:=bs' hh
 refine E2.intro hC Tryz.func87 rfl rfl rfl (s' rfl rfl (F0.nf hC rfl (e' rfl (s' rfl rfl (F0.nf hC rfl (n' (S' (bk' (p' 1 rfl (g' [0] (S0 hx1) rfl rfl rfl rfl rfl rfl (e' rfl (ci' rfl hh (fun hh=>?_) (fun hh=>?_)))))))))))))
 ·refine p' 1 rfl ?_
  rcases bp' hh with ⟨nn,hx2,⟨⟩⟩ | ⟨x2,hx2,hh⟩
  ·exact gn' [0] (F1 hx2) rfl rfl rfl rfl rfl (fun hi=>peW ⟨trivial,trivial⟩ rfl hi)
  refine g' [0] ((F1 hx2).ok) rfl rfl rfl rfl rfl rfl (e' rfl (p' 1 rfl ?_))
  rcases bp' hh with ⟨nn,hx3,⟨⟩⟩ | ⟨x3,hx3,hh⟩
  ·exact gn' [0] (L0 hx3) rfl rfl rfl rfl rfl (fun hi=>peW ⟨trivial,trivial⟩ rfl hi)
  refine g' [0] ((L0 hx3).ok) rfl rfl rfl rfl rfl rfl (n' (p' 2 rfl ?_))
  rcases bp' hh with ⟨nn,hx4,⟨⟩⟩ | ⟨x4,hx4,hh⟩
  ·exact gn' [0] (T9 hx4) rfl rfl rfl rfl rfl (fun hi=>peW ⟨trivial,trivial⟩ rfl hi)
  refine g' [0] ((T9 hx4).ok) rfl rfl rfl rfl rfl rfl (q' rfl (F0.s hC rfl (n' (P' 1 rfl ?_))))
  rcases bp' hh with ⟨nn,hx5,⟨⟩⟩ | ⟨x5,hx5,hh⟩
  ·exact gn' [0] (L0 hx5) rfl rfl rfl rfl rfl (fun hi=>peW ⟨trivial,trivial⟩ rfl hi)
  cases hh
  exact g' [0] ((L0 hx5).ok) rfl rfl rfl rfl rfl rfl (n' (p' 1 rfl (F0.s hC rfl (e' rfl (re' (rt' rfl rfl rfl))))))
 obtain ⟨x6,hx6,hh⟩:=bs' hh
 refine p' 1 rfl (g' [0] (S0 hx6) rfl rfl rfl rfl rfl rfl (e' rfl (ci' rfl hh (fun hh=>?_) (fun hh=>?_))))
 ·refine p' 1 rfl ?_
  rcases bp' hh with ⟨nn,hx7,⟨⟩⟩ | ⟨x7,hx7,hh⟩
  ·exact gn' [0] (X0 hx7) rfl rfl rfl rfl rfl (fun hi=>peW ⟨trivial,trivial⟩ rfl hi)
  refine g' [0] ((X0 hx7).ok) rfl rfl rfl rfl rfl rfl (F0.s hC rfl (n' (P' 1 rfl ?_)))
  rcases bp' hh with ⟨nn,hx8,⟨⟩⟩ | ⟨x8,hx8,hh⟩
  ·exact gn' [0] (L0 hx8) rfl rfl rfl rfl rfl (fun hi=>peW ⟨trivial,trivial⟩ rfl hi)
  cases hh
  exact g' [0] ((L0 hx8).ok) rfl rfl rfl rfl rfl rfl (n' (p' 1 rfl (F0.s hC rfl (e' rfl (re' (rt' rfl rfl rfl))))))
 obtain ⟨x9,hx9,hh⟩:=bs' hh
 refine p' 1 rfl (g' [0] (S0 hx9) rfl rfl rfl rfl rfl rfl (e' rfl (ci' rfl hh (fun hh=>?_) (fun hh=>?_))))
 ·refine p' 1 rfl ?_
  rcases bp' hh with ⟨nn,hx10,⟨⟩⟩ | ⟨x10,hx10,hh⟩
  ·exact gn' [0] (X0 hx10) rfl rfl rfl rfl rfl (fun hi=>peW ⟨trivial,trivial⟩ rfl hi)
  refine g' [0] ((X0 hx10).ok) rfl rfl rfl rfl rfl rfl (F0.s hC rfl (n' (P' 1 rfl ?_)))
  rcases bp' hh with ⟨nn,hx11,⟨⟩⟩ | ⟨x11,hx11,hh⟩
  ·exact gn' [0] (L0 hx11) rfl rfl rfl rfl rfl (fun hi=>peW ⟨trivial,trivial⟩ rfl hi)
  cases hh
  exact g' [0] ((L0 hx11).ok) rfl rfl rfl rfl rfl rfl (n' (p' 1 rfl (F0.s hC rfl (e' rfl (re' (rt' rfl rfl rfl))))))
 obtain ⟨x12,hx12,hh⟩:=bs' hh
 refine p' 1 rfl (g' [0] (S0 hx12) rfl rfl rfl rfl rfl rfl (e' rfl (ci' rfl hh (fun hh=>?_) (fun hh=>?_))))
 ·refine p' 1 rfl ?_
  rcases bp' hh with ⟨nn,hx13,⟨⟩⟩ | ⟨x13,hx13,hh⟩
  ·exact gn' [0] (X0 hx13) rfl rfl rfl rfl rfl (fun hi=>peW ⟨trivial,trivial⟩ rfl hi)
  refine g' [0] ((X0 hx13).ok) rfl rfl rfl rfl rfl rfl (F0.s hC rfl (n' (P' 1 rfl ?_)))
  rcases bp' hh with ⟨nn,hx14,⟨⟩⟩ | ⟨x14,hx14,hh⟩
  ·exact gn' [0] (L0 hx14) rfl rfl rfl rfl rfl (fun hi=>peW ⟨trivial,trivial⟩ rfl hi)
  cases hh
  exact g' [0] ((L0 hx14).ok) rfl rfl rfl rfl rfl rfl (n' (p' 1 rfl (F0.s hC rfl (e' rfl (re' (rt' rfl rfl rfl))))))
 obtain ⟨x15,hx15,hh⟩:=bs' hh
 refine p' 1 rfl (g' [0] (S0 hx15) rfl rfl rfl rfl rfl rfl (e' rfl (ci' rfl hh (fun hh=>?_) (fun hh=>?_))))
 ·refine P' 1 rfl ?_
  rcases bp' hh with ⟨nn,hx16,⟨⟩⟩ | ⟨x16,hx16,hh⟩
  ·exact gn' [0] (D2 hx16) rfl rfl rfl rfl rfl (fun hi=>peW ⟨trivial,trivial⟩ rfl hi)
  cases hh
  exact g' [0] ((D2 hx16).ok) rfl rfl rfl rfl rfl rfl (F0.s hC rfl (n' (p' 1 rfl (F0.s hC rfl (e' rfl (re' (rt' rfl rfl rfl)))))))
 obtain ⟨x17,hx17,hh⟩:=bs' hh
 refine p' 1 rfl (g' [0] (S0 hx17) rfl rfl rfl rfl rfl rfl (e' rfl (ci' rfl hh (fun hh=>?_) (fun hh=>?_))))
 ·refine p' 1 rfl ?_
  rcases bp' hh with ⟨nn,hx18,⟨⟩⟩ | ⟨x18,hx18,hh⟩
  ·exact gn' [0] (X0 hx18) rfl rfl rfl rfl rfl (fun hi=>peW ⟨trivial,trivial⟩ rfl hi)
  refine g' [0] ((X0 hx18).ok) rfl rfl rfl rfl rfl rfl (F0.s hC rfl (n' (p' 1 rfl ?_)))
  rcases bp' hh with ⟨nn,hx19,⟨⟩⟩ | ⟨x19,hx19,hh⟩
  ·exact gn' [0] (L0 hx19) rfl rfl rfl rfl rfl (fun hi=>peW ⟨trivial,trivial⟩ rfl hi)
  refine g' [0] ((L0 hx19).ok) rfl rfl rfl rfl rfl rfl (n' (p' 1 rfl ?_))
  rcases bp' hh with ⟨nn,hx20,⟨⟩⟩ | ⟨x20,hx20,hh⟩
  ·exact gn' [0] (U0 hx20) rfl rfl rfl rfl rfl (fun hi=>peW ⟨trivial,trivial⟩ rfl hi)
  refine g' [0] ((U0 hx20).ok) rfl rfl rfl rfl rfl rfl (q' rfl (F0.s hC rfl (n' (P' 1 rfl ?_))))
  rcases bp' hh with ⟨nn,hx21,⟨⟩⟩ | ⟨x21,hx21,hh⟩
  ·exact gn' [0] (L0 hx21) rfl rfl rfl rfl rfl (fun hi=>peW ⟨trivial,trivial⟩ rfl hi)
  cases hh
  exact g' [0] ((L0 hx21).ok) rfl rfl rfl rfl rfl rfl (n' (p' 1 rfl (F0.s hC rfl (e' rfl (re' (rt' rfl rfl rfl))))))
 obtain ⟨x22,hx22,hh⟩:=bs' hh
 refine p' 1 rfl (g' [0] (S0 hx22) rfl rfl rfl rfl rfl rfl (e' rfl (ci' rfl hh (fun hh=>?_) (fun hh=>?_))))
 ·refine P' 1 rfl ?_
  rcases bp' hh with ⟨nn,hx23,⟨⟩⟩ | ⟨x23,hx23,hh⟩
  ·exact gn' [0] (Kl hx23) rfl rfl rfl rfl rfl (fun hi=>peW ⟨trivial,trivial⟩ rfl hi)
  cases hh
  exact g' [0] ((Kl hx23).ok) rfl rfl rfl rfl rfl rfl (F0.s hC rfl (n' (p' 1 rfl (F0.s hC rfl (e' rfl (re' (rt' rfl rfl rfl)))))))
 refine p' 1 rfl (F0.s hC rfl (e' rfl (re' ?_)))
 obtain rfl:=oi' hh
 exact ⟨_,.tup [.agg [.d (.int .i64 0),.d (.str []),.d (.int .i64 0),.d (.int .i64 0),.d (.int .i64 0),.d (.int .i64 0),.d (.str []),.d (.sl (estr.rows [])),.d (.sl (I0.rows [])),.d (.int .i64 0),.d (.int .i64 0),.d (.int .i64 0),.d (.str []),.d (.sl (A0.rows [])),.d (.sl (C0.rows [])),.d (.sl (C0.rows [])),.d (.sl (D0.rows []))],.d (.bool false)],[.row (B0.cells x22.2) 99],rfl,(.tupL ⟨(.aggL ⟨.rfl,.rfl,.rfl,.rfl,.rfl,.rfl,.rfl,.full,.full,.rfl,.rfl,.rfl,.rfl,.full,.full,.full,.full,trivial⟩),.rfl,trivial⟩),⟨⟨rfl,.refl _,rfl⟩,trivial⟩,rfl,rfl,rpq rfl rfl⟩
def L5 (o0:B0)(o2_Decls:List C0):Option (Pn (A1×B0)):=
 E5 o0>>=fun x1=>match x1 with
 | .pn nn=>
 some (.pn nn)
 | .ok x1=>
 if (!x1.2.1)=true then
  T0 [98,101,103,105,110] x1.2.2>>=fun x2=>match x2 with
  | .pn nn=>
  some (.pn nn)
  | .ok x2=>
  A4 x2>>=fun x3=>match x3 with
  | .pn nn=>
  some (.pn nn)
  | .ok x3=>
  T0 [101,110,100] x3.2>>=fun x4=>match x4 with
  | .pn nn=>
  some (.pn nn)
  | .ok x4=>
  some (.ok ((A1.mk o2_Decls x3.1),x4))
 else
  if (decide ((o2_Decls.length+1) * 257≤140737488355328))=true then
   L5 x1.2.2 (o2_Decls++[x1.1])
  else none
 partial_fixpoint
abbrev Al (o0:B0)(o2_Decls:List C0)(res:Pn (A1×B0)):Prop:=LMp C 27 1 Tryz.f46 [1,1,0,4] [(0,.ref 0 0),(2,.ref 1 0),(3,.ref 2 0)] [.row (B0.cells o0) 99,.row [.full (C0.rows []),.full (D0.rows [])] 49,.row [.osl 3 (C0.rows o2_Decls),.full (D0.rows [])] 49,.tok 128 17] (R4 res (fun rr=>[.row (B0.cells rr.2) 99]) (fun rr=>.agg (A1.cells rr.1))) (N4 res L3 [.dead])
theorem Tr:(∀ o0 o2_Decls res,L5 o0 o2_Decls=some res→Al o0 o2_Decls res):=by
 refine L5.partial_correctness _ ?_
 ·intro g0 ih0 o0 o2_Decls res hh
  refine W0.unroll (bk' (p' 1 rfl ?_))
  rcases bp' hh with ⟨nn,hx1,⟨⟩⟩ | ⟨x1,hx1,hh⟩
  ·exact gn' [0] (Aj hx1) rfl rfl rfl rfl rfl (fun hi=>peW ⟨trivial,trivial⟩ rfl hi)
  refine g' [0] ((Aj hx1).ok) rfl rfl rfl rfl rfl rfl (o' 3 rfl (F0.nf hC rfl (F0.s hC rfl (e' rfl (S' (t' rfl (ci' rfl hh (fun hh=>?_) (fun hh=>?_))))))))
  ·refine ex' (p' 1 rfl ?_)
   rcases bp' hh with ⟨nn,hx2,⟨⟩⟩ | ⟨x2,hx2,hh⟩
   ·exact gn' [0] (L0 hx2) rfl rfl rfl rfl rfl (fun hi=>peW ⟨trivial,trivial⟩ rfl hi)
   refine g' [0] ((L0 hx2).ok) rfl rfl rfl rfl rfl rfl (n' (p' 1 rfl ?_))
   rcases bp' hh with ⟨nn,hx3,⟨⟩⟩ | ⟨x3,hx3,hh⟩
   ·exact gn' [0] (Na hx3) rfl rfl rfl rfl rfl (fun hi=>peW ⟨trivial,trivial⟩ rfl hi)
   refine g' [0] ((Na hx3).ok) rfl rfl rfl rfl rfl rfl (q' rfl (F0.s hC rfl (n' (p' 1 rfl ?_))))
   rcases bp' hh with ⟨nn,hx4,⟨⟩⟩ | ⟨x4,hx4,hh⟩
   ·exact gn' [0] (L0 hx4) rfl rfl rfl rfl rfl (fun hi=>peW ⟨trivial,trivial⟩ rfl hi)
   refine g' [0] ((L0 hx4).ok) rfl rfl rfl rfl rfl rfl (n' (p' 1 rfl (F0.s hC rfl (n' (re' ?_)))))
   obtain rfl:=oi' hh
   exact ⟨_,.agg [.d (.sl (C0.rows o2_Decls)),.d (.sl (D0.rows x3.1))],[.row (B0.cells x4) 99],rfl,(.aggL ⟨.osl,.rfl,trivial⟩),⟨⟨rfl,.refl _,rfl⟩,trivial⟩,rfl,rfl,rpq rfl rfl⟩
  obtain ⟨c6,hh⟩:=I4 hh
  exact sk' (P' 3 rfl (F0.be hC rfl (C0.rows_map [x1.1]).symm (F0.ap hC rfl (rs:=C0.rows (o2_Decls++[x1.1])) (C0.app o2_Decls [x1.1]) (C0.sz o2_Decls) (C0.sz [x1.1]) (P1 (C0.len o2_Decls) (C0.len [x1.1]) c6) (q' rfl (F0.s hC rfl (n' (lw' (ih0 _ _ _ hh) rfl rfl rfl)))))))
theorem Pt {o0 o2_Decls res}(hh:L5 o0 o2_Decls=some res):Al o0 o2_Decls res:=(Tr) _ _ _ hh
def S6 (parserParser:B0):Option (Pn (A1×B0)):=
 L5 parserParser []
theorem Zl {parserParser res}(hh:S6 parserParser=some res):E2 C 46 [.ref 0 0] [.row (B0.cells parserParser) 99] (R4 res (fun rr=>[.row (B0.cells rr.2) 99]) (fun rr=>.agg (A1.cells rr.1))) (N4 res L3 [.dead]):=by
 unfold S6 at hh
 exact E2.intro hC Tryz.func46 rfl rfl rfl (s' rfl rfl (F0.nf hC rfl (n' (s' rfl rfl (F0.nf hC rfl (F0.tokC 2 0 128 17 rfl rfl rfl rfl rfl (n' (S' (bk' (fw' (Pt hh) rfl rfl rfl))))))))))
def Ym (parserParser:B0)(apiProgram:A1):Option (Pn (B0×A1)):=
 S6 parserParser>>=fun x1=>match x1 with
 | .pn nn=>
 some (.pn nn)
 | .ok x1=>
 some (.ok (x1.2,x1.1))
theorem Hv {parserParser apiProgram res}(hh:Ym parserParser apiProgram=some res):E2 C 45 [.ref 0 0,.ref 1 0] [.row (B0.cells parserParser) 99,.row [.full (C0.rows apiProgram.Decls),.full (D0.rows apiProgram.Body)] 49] (R4 res (fun rr=>[.row (B0.cells rr.1) 99,.row (A1.cells rr.2) 49]) (fun rr=>.tup [])) (N4 res L3 [.dead,.row [.full (C0.rows apiProgram.Decls),.full (D0.rows apiProgram.Body)] 49]):=by
 unfold Ym at hh
 refine E2.intro hC Tryz.func45 rfl rfl rfl (P' 1 rfl ?_)
 rcases bp' hh with ⟨nn,hx1,⟨⟩⟩ | ⟨x1,hx1,hh⟩
 ·exact gn' [0] (Zl hx1) rfl rfl rfl rfl rfl (fun hi=>peW ⟨trivial,⟨rfl,.refl _,rfl⟩,trivial⟩ rfl hi)
 cases hh
 exact g' [0] ((Zl hx1).ok) rfl rfl rfl rfl rfl rfl (F0.s hC rfl (n' (rn' rfl rfl rfl)))
def Zm (text:Str)(apiProgram:A1):Option (Int×Int×A1):=
 Qj text>>=fun x1=>
 if (x1.2.2 != 0)=true then
  some (x1.2.1,x1.2.2,apiProgram)
 else
  Ym (B0.mk x1.1 0 ((text).length:Int)) apiProgram>>=fun x2=>match x2 with
  | .pn nn=>
  some (nn,6,apiProgram)
  | .ok x2=>
  if (decide (x2.1.next < ((x2.1.tokens).length:Int)))=true then
   F5 x2.1>>=fun x3=>match x3 with
   | .pn nn=>
   some (nn,6,x2.2)
   | .ok x3=>
   some (0,0,x2.2)
  else
   some (0,0,x2.2)
theorem Q18 {text apiProgram res}(hh:Zm text apiProgram=some res):O0 C 28 [.d (.str text),.clo 45 [.ref 0 0]] [.row [.full (C0.rows apiProgram.Decls),.full (D0.rows apiProgram.Body)] 49] (Ret [.row (A1.cells res.2.2) 49] (.tup [.d (.int .i64 res.1),.d (.int .i64 res.2.1)])):=by
 unfold Zm at hh
 obtain ⟨x1,hx1,hh⟩:=bs' hh
 refine O0.introD hC Tryz.func28 rfl rfl rfl (s' rfl rfl (F0.n hC rfl (F0.n hC rfl (n' (p' 1 rfl (c' (K16 hx1) rfl rfl (o' 5 rfl (F0.s hC rfl (F0.s hC rfl (n' (S' (t' rfl (ci' rfl hh (fun hh=>?_) (fun hh=>?_))))))))))))))
 ·refine S' (AEx.drawL hC 3 [2] [] [[.row [.full (C0.rows apiProgram.Decls),.full (D0.rows apiProgram.Body)] 49,.row [.d (.int .i64 x1.2.1)] 3,.row [.d (.int .i64 x1.2.2)] 27],[.row [.full (C0.rows apiProgram.Decls),.full (D0.rows apiProgram.Body)] 49,.row [.d (.int .i64 x1.2.1)] 3,.row [.d (.int .i64 x1.2.2)] 27]] rfl rfl rfl rfl rfl rfl rfl rfl rfl rfl (AS.q hC rfl rfl rfl rfl ?_))
  refine AS.q hC rfl rfl rfl rfl (AS.s hC rfl rfl rfl rfl rfl rfl rfl (AS.nil (F0.s hC rfl (n' (re' ?_)))))
  obtain rfl:=oi' hh
  exact ⟨_,_,[.row (A1.cells apiProgram) 49],rfl,.rfl,⟨⟨rfl,⟨.full,.full,trivial⟩,rfl⟩,trivial⟩,rfl,rfl,rfl,rfl⟩
 refine sk' (AEx.dfr hC R1b C1f rfl rfl rfl rfl rfl rfl fun _=>(p' 4 rfl (F0.n hC rfl (e' rfl (p' 2 rfl ?_)))))
 rcases bp' hh with ⟨nn,hx2,hh⟩ | ⟨x2,hx2,hh⟩
 ·obtain rfl:=oi' hh
  exact gn' [3,0] (Hv hx2) rfl rfl rfl rfl rfl (fun hi=>dfk hi rfl rfl rfl (⟨_,_,[.row (A1.cells apiProgram) 49],rfl,.rfl,⟨⟨rfl,⟨.full,.full,trivial⟩,rfl⟩,trivial⟩,rfl,rfl,rfl,rfl⟩))
 refine g' [3,0] ((Hv hx2).ok) rfl rfl rfl rfl rfl rfl (n' (S' (S' (AEx.draw hC 10 rfl rfl rfl (O' 8 rfl (AQ.qe hC rfl trivial (K0.lenA _) (E' rfl (n' (ci' rfl hh (fun hh=>?_) (fun hh=>?_))))))))))
 ·refine P' 1 rfl ?_
  rcases bp' hh with ⟨nn,hx3,hh⟩ | ⟨x3,hx3,hh⟩
  ·cases hh
   exact gn' [3] (O5 hx3) rfl rfl rfl rfl rfl (fun hi=>dfk hi rfl rfl rfl (rt' rfl rfl rfl))
  cases hh
  exact g' [3] ((O5 hx3).ok) rfl rfl rfl rfl rfl rfl (n' (s' rfl rfl (F0.s hC rfl (F0.s hC rfl (n' (re' (rt' rfl rfl rfl)))))))
 cases hh
 exact sk' (s' rfl rfl (F0.s hC rfl (F0.s hC rfl (n' (re' (rt' rfl rfl rfl))))))
def Ll (k:Int):Option (Bool×Bool):=
 some ((bif (decide (k≥0)) then (decide (k≤6)) else false),(bif (k == 5) then true else (k == 6)))
theorem C17 {k res}(hh:Ll k=some res):O0 C 175 [.d (.int .i64 k)] [] (Ret [] (.tup [.d (.bool res.1),.d (.bool res.2)])):=by
 unfold Ll at hh
 cases hh
 exact O0.intro hC Tryz.func175 rfl rfl rfl (t' rfl (sg' 14 rfl (G' 4 rfl (a1' rfl (pa' rfl (G' 4 rfl (a1' rfl (po' rfl (G' 2 rfl (an' (n' (re' (rt' rfl rfl rfl)))))))))))))
def M3 (s1:List Str)(s2:List Str)(v13:Int):Option Bool:=
 if (decide (v13 < ((s1).length:Int)))=true then
  idx s1 v13>>=fun x1=>
  idx s2 v13>>=fun x2=>
  if (!(x1 == x2))=true then
   some false
  else
   M3 s1 s2 (IntKind.i64.wrap (v13+1))
 else
  some true
 partial_fixpoint
abbrev Fh (s1:List Str)(s2:List Str)(v13:Int)(res:Bool):Prop:=LM C 26 0 Tryz.f196 [1,1,0,1,4] [(0,.d (.sl (estr.rows s1))),(1,.d (.sl (estr.rows s2))),(12,.d (.int .i64 ((s1).length:Int))),(13,.d (.int .i64 v13))] [] (Ret [] (.d (.bool res)))
theorem Qn (s1:List Str)(s2:List Str):(∀ v13 res,M3 s1 s2 v13=some res→Fh s1 s2 v13 res):=by
 refine M3.partial_correctness s1 s2 _ ?_
 ·intro g0 ih0 v13 res hh
  refine W0.unroll (t' rfl (S' (ci' rfl hh (fun hh=>?_) (fun hh=>?_))))
  ·obtain ⟨x1,hx1,hh⟩:=bs' hh
   obtain ⟨x2,hx2,hh⟩:=bs' hh
   refine sk' (S' (bk' (t' rfl (S' (AEx.draw hC 9 rfl rfl rfl (O' 2 rfl (AQ.i hC rfl (C1 hx1) (estr.idx hx1) rfl (O' 3 rfl (AQ.i hC rfl (C1 hx2) (estr.idx hx2) rfl (E' rfl (n' (ci' rfl hh (fun hh=>?_) (fun hh=>?_)))))))))))))
   ·cases hh
    exact t' rfl (re' (rt' rfl rfl rfl))
   exact sk' (T' rfl (lw' (ih0 _ _ hh) rfl rfl rfl))
  cases hh
  exact ex' (t' rfl (re' (rt' rfl rfl rfl)))
theorem Io {s1 s2 v13 res}(hh:M3 s1 s2 v13=some res):Fh s1 s2 v13 res:=(Qn s1 s2) _ _ hh
def O7 (s1:List Str)(s2:List Str):Option Bool:=
 if (((s1).length:Int) != ((s2).length:Int))=true then
  some false
 else
  M3 s1 s2 0
theorem Mq {s1 s2 res}(hh:O7 s1 s2=some res):O0 C 196 [.d (.sl (estr.rows s1)),.d (.sl (estr.rows s2))] [] (Ret [] (.d (.bool res))):=by
 unfold O7 at hh
 refine O0.intro hC Tryz.func196 rfl rfl rfl (t' rfl (S' (p' 1 rfl (qe' rfl trivial (estr.lenA _) (q' rfl (qe' rfl trivial (estr.lenA _) (e' rfl (ci' rfl hh (fun hh=>?_) (fun hh=>?_)))))))))
 ·cases hh
  exact t' rfl (re' (rt' rfl rfl rfl))
 exact sk' (S' (p' 1 rfl (qe' rfl trivial (estr.lenA _) (e' rfl (bk' (fw' (Io hh) rfl rfl rfl))))))
mutual
def H9 (a:I0)(b:I0):Option Bool:=
 (if (bif (bif (bif (bif (a.Kind == b.Kind) then (a.Low == b.Low) else false) then (a.High == b.High) else false) then (a.Size == b.Size) else false) then (a.Name == b.Name) else false)=true then O7 a.Names b.Names else some default)>>=fun x1=>
 (if (bif (bif (bif (bif (bif (a.Kind == b.Kind) then (a.Low == b.Low) else false) then (a.High == b.High) else false) then (a.Size == b.Size) else false) then (a.Name == b.Name) else false) then x1 else false)=true then P3 a.Of b.Of else some default)>>=fun x2=>
 some (bif (bif (bif (bif (bif (bif (a.Kind == b.Kind) then (a.Low == b.Low) else false) then (a.High == b.High) else false) then (a.Size == b.Size) else false) then (a.Name == b.Name) else false) then x1 else false) then x2 else false)
 partial_fixpoint
def P3 (s1:List I0)(s2:List I0):Option Bool:=
 if (((s1).length:Int) != ((s2).length:Int))=true then
  some false
 else
  B2 s1 s2 0
 partial_fixpoint
def B2 (s1:List I0)(s2:List I0)(v17:Int):Option Bool:=
 if (decide (v17 < ((s1).length:Int)))=true then
  idx s1 v17>>=fun x1=>
  idx s2 v17>>=fun x2=>
  H9 x1 x2>>=fun x3=>
  if (!x3)=true then
   some false
  else
   B2 s1 s2 (IntKind.i64.wrap (v17+1))
 else
  some true
 partial_fixpoint
end
abbrev Qt (a:I0)(b:I0)(res:Bool):Prop:=O0 C 176 [.agg (I0.cells a),.agg (I0.cells b)] [] (Ret [] (.d (.bool res)))
abbrev Pe (s1:List I0)(s2:List I0)(res:Bool):Prop:=O0 C 197 [.d (.sl (I0.rows s1)),.d (.sl (I0.rows s2)),.clo 176 []] [] (Ret [] (.d (.bool res)))
abbrev Sd (s1:List I0)(s2:List I0)(v17:Int)(res:Bool):Prop:=LM C 32 0 Tryz.f197 [1,1,0,1,4] [(1,.d (.sl (I0.rows s2))),(2,.clo 176 []),(15,.d (.sl (I0.rows s1))),(16,.d (.int .i64 ((s1).length:Int))),(17,.d (.int .i64 v17))] [] (Ret [] (.d (.bool res)))
theorem U12:(∀ a b res,H9 a b=some res→Qt a b res)∧(∀ s1 s2 res,P3 s1 s2=some res→Pe s1 s2 res)∧(∀ s1 s2 v17 res,B2 s1 s2 v17=some res→Sd s1 s2 v17 res):=by
 refine H9.mutual_partial_correctness _ _ _ ?_ ?_ ?_
 ·intro g1 ih1 a b res hh
  obtain ⟨x1,hx1,hh⟩:=bs' hh
  obtain ⟨x2,hx2,hh⟩:=bs' hh
  cases hh
  refine O0.intro hC Tryz.func176 rfl rfl rfl (s' rfl rfl (F0.n hC rfl (F0.n hC rfl (e' rfl (sg' 48 rfl (G' 7 rfl (a1' rfl (a0' rfl (a1' rfl (a2' rfl (pa' rfl (G' 2 rfl (a1' rfl ?_)))))))))))))
  refine a0' rfl (a1' rfl (a2' rfl (pa' rfl (G' 2 rfl (a1' rfl (a0' rfl (a1' rfl (a2' rfl (pa' rfl (G' 2 rfl (a1' rfl (a0' rfl (a1' rfl ?_)))))))))))))
  refine a2' rfl (pa' rfl (G' 2 rfl (a1' rfl (a0' rfl (a1' rfl (AG.c rfl rfl (fun hg=>⟨hg,hg,trivial⟩) (fun hw=>Mq (E1 hw hx1)) (pa' rfl (G' 2 rfl (a1' rfl (a0' rfl (a1' rfl (AG.c rfl rfl (fun hg=>⟨hg,hg,trivial⟩) (fun hw=>ih1 _ _ _ (E1 hw hx2)) (pa' rfl ?_)))))))))))))
  exact a0' rfl (an' (n' (re' (rt' rfl rfl rfl))))
 ·intro g2 ih2 s1 s2 res hh
  refine O0.intro hC Tryz.func197 rfl rfl rfl (t' rfl (S' (p' 1 rfl (qe' rfl trivial (I0.lenA _) (q' rfl (qe' rfl trivial (I0.lenA _) (e' rfl (ci' rfl hh (fun hh=>?_) (fun hh=>?_)))))))))
  ·cases hh
   exact t' rfl (re' (rt' rfl rfl rfl))
  exact sk' (S' (p' 1 rfl (qe' rfl trivial (I0.lenA _) (e' rfl (bk' (fw' (ih2 _ _ _ _ hh) rfl rfl rfl))))))
 ·intro g0 g2 ih0 ih2 s1 s2 v17 res hh
  refine W0.unroll (t' rfl (S' (ci' rfl hh (fun hh=>?_) (fun hh=>?_))))
  ·obtain ⟨x1,hx1,hh⟩:=bs' hh
   obtain ⟨x2,hx2,hh⟩:=bs' hh
   obtain ⟨x3,hx3,hh⟩:=bs' hh
   refine sk' (S' (bk' (p' 1 rfl (i' rfl (C1 hx1) (I0.idx hx1) rfl (q' rfl (F0.nf hC rfl (q' rfl (F0.s hC rfl (n' (p' 2 rfl (i' rfl (C1 hx2) (I0.idx hx2) rfl (q' rfl (F0.nf hC rfl ?_)))))))))))))
   refine F0.s hC rfl (n' (p' 3 rfl (c' (ih0 _ _ _ hx3) rfl rfl (e' rfl (ci' rfl hh (fun hh=>?_) (fun hh=>?_))))))
   ·cases hh
    exact t' rfl (re' (rt' rfl rfl rfl))
   exact sk' (T' rfl (lw' (ih2 _ _ _ _ hh) rfl rfl rfl))
  cases hh
  exact ex' (t' rfl (re' (rt' rfl rfl rfl)))
theorem A15 {a b res}(hh:H9 a b=some res):Qt a b res:=(U12).1 _ _ _ hh
mutual
def J7 (a:A0)(b:A0):Option Bool:=
 (if (bif (bif (a.Op == b.Op) then (a.NV == b.NV) else false) then (a.Name == b.Name) else false)=true then Q3 a.Kids b.Kids else some default)>>=fun x1=>
 some (bif (bif (bif (a.Op == b.Op) then (a.NV == b.NV) else false) then (a.Name == b.Name) else false) then x1 else false)
 partial_fixpoint
def Q3 (s1:List A0)(s2:List A0):Option Bool:=
 if (((s1).length:Int) != ((s2).length:Int))=true then
  some false
 else
  C2 s1 s2 0
 partial_fixpoint
def C2 (s1:List A0)(s2:List A0)(v17:Int):Option Bool:=
 if (decide (v17 < ((s1).length:Int)))=true then
  idx s1 v17>>=fun x1=>
  idx s2 v17>>=fun x2=>
  J7 x1 x2>>=fun x3=>
  if (!x3)=true then
   some false
  else
   C2 s1 s2 (IntKind.i64.wrap (v17+1))
 else
  some true
 partial_fixpoint
end
abbrev Rt (a:A0)(b:A0)(res:Bool):Prop:=O0 C 198 [.agg (A0.cells a),.agg (A0.cells b)] [] (Ret [] (.d (.bool res)))
abbrev Qe (s1:List A0)(s2:List A0)(res:Bool):Prop:=O0 C 211 [.d (.sl (A0.rows s1)),.d (.sl (A0.rows s2)),.clo 198 []] [] (Ret [] (.d (.bool res)))
abbrev Td (s1:List A0)(s2:List A0)(v17:Int)(res:Bool):Prop:=LM C 32 0 Tryz.f211 [1,1,0,1,4] [(1,.d (.sl (A0.rows s2))),(2,.clo 198 []),(15,.d (.sl (A0.rows s1))),(16,.d (.int .i64 ((s1).length:Int))),(17,.d (.int .i64 v17))] [] (Ret [] (.d (.bool res)))
theorem V12:(∀ a b res,J7 a b=some res→Rt a b res)∧(∀ s1 s2 res,Q3 s1 s2=some res→Qe s1 s2 res)∧(∀ s1 s2 v17 res,C2 s1 s2 v17=some res→Td s1 s2 v17 res):=by
 refine J7.mutual_partial_correctness _ _ _ ?_ ?_ ?_
 ·intro g1 ih1 a b res hh
  obtain ⟨x1,hx1,hh⟩:=bs' hh
  cases hh
  refine O0.intro hC Tryz.func198 rfl rfl rfl (s' rfl rfl (F0.n hC rfl (F0.n hC rfl (e' rfl (sg' 27 rfl (G' 7 rfl (a1' rfl (a0' rfl (a1' rfl (a2' rfl (pa' rfl (G' 2 rfl (a1' rfl ?_)))))))))))))
  exact a0' rfl (a1' rfl (a2' rfl (pa' rfl (G' 2 rfl (a1' rfl (a0' rfl (a1' rfl (AG.c rfl rfl (fun hg=>⟨hg,hg,trivial⟩) (fun hw=>ih1 _ _ _ (E1 hw hx1)) (pa' rfl (a0' rfl (an' (n' (re' (rt' rfl rfl rfl))))))))))))))
 ·intro g2 ih2 s1 s2 res hh
  refine O0.intro hC Tryz.func211 rfl rfl rfl (t' rfl (S' (p' 1 rfl (qe' rfl trivial (A0.lenA _) (q' rfl (qe' rfl trivial (A0.lenA _) (e' rfl (ci' rfl hh (fun hh=>?_) (fun hh=>?_)))))))))
  ·cases hh
   exact t' rfl (re' (rt' rfl rfl rfl))
  exact sk' (S' (p' 1 rfl (qe' rfl trivial (A0.lenA _) (e' rfl (bk' (fw' (ih2 _ _ _ _ hh) rfl rfl rfl))))))
 ·intro g0 g2 ih0 ih2 s1 s2 v17 res hh
  refine W0.unroll (t' rfl (S' (ci' rfl hh (fun hh=>?_) (fun hh=>?_))))
  ·obtain ⟨x1,hx1,hh⟩:=bs' hh
   obtain ⟨x2,hx2,hh⟩:=bs' hh
   obtain ⟨x3,hx3,hh⟩:=bs' hh
   refine sk' (S' (bk' (p' 1 rfl (i' rfl (C1 hx1) (A0.idx hx1) rfl (q' rfl (F0.nf hC rfl (q' rfl (F0.s hC rfl (n' (p' 2 rfl (i' rfl (C1 hx2) (A0.idx hx2) rfl (q' rfl (F0.nf hC rfl ?_)))))))))))))
   refine F0.s hC rfl (n' (p' 3 rfl (c' (ih0 _ _ _ hx3) rfl rfl (e' rfl (ci' rfl hh (fun hh=>?_) (fun hh=>?_))))))
   ·cases hh
    exact t' rfl (re' (rt' rfl rfl rfl))
   exact sk' (T' rfl (lw' (ih2 _ _ _ _ hh) rfl rfl rfl))
  cases hh
  exact ex' (t' rfl (re' (rt' rfl rfl rfl)))
theorem B15 {a b res}(hh:J7 a b=some res):Rt a b res:=(V12).1 _ _ _ hh
def L4 (e:A0)(used:Bool)(syntaxReport:J0):Option J0:=
 (if (!used)=true then J7 e (A0.mk 0 0 [] []) else some default)>>=fun x1=>
 if (bif (!used) then x1 else false)=true then
  some syntaxReport
 else
  Z0 used syntaxReport>>=fun x2=>
  B3 e 1 x2>>=fun x3=>
  some x3
theorem Sf {e used syntaxReport res}(hh:L4 e used syntaxReport=some res):O0 C 177 [.ref 0 0,.agg (A0.cells e),.d (.bool used)] [.row (J0.cells syntaxReport) 103] (Ret [.row (J0.cells res) 103] (.tup [])):=by
 unfold L4 at hh
 obtain ⟨x1,hx1,hh⟩:=bs' hh
 refine O0.intro hC Tryz.func177 rfl rfl rfl (s' rfl rfl (F0.n hC rfl (n' (S' (sg' 7 rfl (G' 5 rfl (AG.c rfl rfl (fun hg=>⟨hg,hg,trivial⟩) (fun hw=>B15 (E1 hw hx1)) (pa' rfl (an' (n' (ci' rfl hh (fun hh=>?_) (fun hh=>?_))))))))))))
 ·cases hh
  exact re' (rt' rfl rfl rfl)
 obtain ⟨x2,hx2,hh⟩:=bs' hh
 obtain ⟨x3,hx3,hh⟩:=bs' hh
 cases hh
 exact sk' (p' 2 rfl (g' [0] (I1 hx2) rfl rfl rfl rfl rfl rfl (n' (P' 2 rfl (g' [0] (Vi hx3) rfl rfl rfl rfl rfl rfl (n' (rn' rfl rfl rfl)))))))
def Sg (v:Int):Option (A3×Bool):=
 if (v == 0)=true then
  some ((A3.mk true true false false false false false false false),true)
 else
  if (v == 1)=true then
   some ((A3.mk true false true true false false false false false),true)
  else
   if (v == 2)=true then
    some ((A3.mk true false true false false false false false false),true)
   else
    if (v == 3)=true then
     some ((A3.mk false true false false false false false false false),true)
    else
     if (v == 4)=true then
      some ((A3.mk false false false false true false false false false),true)
     else
      if (v == 5)=true then
       some ((A3.mk false true false false false false false true true),true)
      else
       if (v == 6)=true then
        some ((A3.mk false true false false true false false true false),true)
       else
        if (v == 7)=true then
         some ((A3.mk false false true false false true false true false),true)
        else
         if (v == 8)=true then
          some ((A3.mk false false false false false false true false false),true)
         else
          some ((A3.mk false false false false false false false false false),false)
theorem C15 {v res}(hh:Sg v=some res):O0 C 178 [.d (.int .i64 v)] [] (Ret [] (.tup [.agg (A3.cells res.1),.d (.bool res.2)])):=by
 unfold Sg at hh
 refine O0.intro hC Tryz.func178 rfl rfl rfl (s' rfl rfl (F0.n hC rfl (e' rfl (S' (t' rfl (bk' (t' rfl (ci' rfl hh (fun hh=>?_) (fun hh=>?_)))))))))
 ·cases hh
  exact p' 1 rfl (F0.s hC rfl (e' rfl (re' (rt' rfl rfl rfl))))
 refine t' rfl (ci' rfl hh (fun hh=>?_) (fun hh=>?_))
 ·cases hh
  exact p' 1 rfl (F0.s hC rfl (e' rfl (re' (rt' rfl rfl rfl))))
 refine t' rfl (ci' rfl hh (fun hh=>?_) (fun hh=>?_))
 ·cases hh
  exact p' 1 rfl (F0.s hC rfl (e' rfl (re' (rt' rfl rfl rfl))))
 refine t' rfl (ci' rfl hh (fun hh=>?_) (fun hh=>?_))
 ·cases hh
  exact p' 1 rfl (F0.s hC rfl (e' rfl (re' (rt' rfl rfl rfl))))
 refine t' rfl (ci' rfl hh (fun hh=>?_) (fun hh=>?_))
 ·cases hh
  exact p' 1 rfl (F0.s hC rfl (e' rfl (re' (rt' rfl rfl rfl))))
 refine t' rfl (ci' rfl hh (fun hh=>?_) (fun hh=>?_))
 ·cases hh
  exact p' 1 rfl (F0.s hC rfl (e' rfl (re' (rt' rfl rfl rfl))))
 refine t' rfl (ci' rfl hh (fun hh=>?_) (fun hh=>?_))
 ·cases hh
  exact p' 1 rfl (F0.s hC rfl (e' rfl (re' (rt' rfl rfl rfl))))
 refine t' rfl (ci' rfl hh (fun hh=>?_) (fun hh=>?_))
 ·cases hh
  exact p' 1 rfl (F0.s hC rfl (e' rfl (re' (rt' rfl rfl rfl))))
 refine t' rfl (ci' rfl hh (fun hh=>?_) (fun hh=>?_))
 ·cases hh
  exact p' 1 rfl (F0.s hC rfl (e' rfl (re' (rt' rfl rfl rfl))))
 cases hh
 exact sk' (p' 1 rfl (F0.s hC rfl (e' rfl (re' (rt' rfl rfl rfl)))))
def P4 (s:D0)(o0:J0)(last:Int)(v58:Int):Option J0:=
 if (decide (v58 < ((s.Numbers).length:Int)))=true then
  idx s.Numbers v58>>=fun x10=>
  X3 x10 0 1048576>>=fun x11=>
  I2 (bif x11 then (decide (x10 > last)) else false) o0>>=fun x12=>
  P4 s x12 x10 (IntKind.i64.wrap (v58+1))
 else
  some o0
 partial_fixpoint
abbrev Bl (s:D0)(o0:J0)(last:Int)(v58:Int)(res:J0):Prop:=LM C 73 1 Tryz.f179 [1,1,4,1,3,1,3,1,3,1,2,1,1,1,4] [(0,.ref 0 0),(5,.d (.int .i64 last)),(56,.d (.sl (ei64.rows s.Numbers))),(57,.d (.int .i64 ((s.Numbers).length:Int))),(58,.d (.int .i64 v58))] [.row (J0.cells o0) 103] (Ret [.row (J0.cells res) 103] (.tup []))
theorem Ur (s:D0):(∀ o0 last v58 res,P4 s o0 last v58=some res→Bl s o0 last v58 res):=by
 refine P4.partial_correctness s _ ?_
 ·intro g0 ih0 o0 last v58 res hh
  refine W0.unroll (t' rfl (S' (ci' rfl hh (fun hh=>?_) (fun hh=>?_))))
  ·obtain ⟨x10,hx10,hh⟩:=bs' hh
   obtain ⟨x11,hx11,hh⟩:=bs' hh
   obtain ⟨x12,hx12,hh⟩:=bs' hh
   refine sk' (S' (bk' (s' rfl rfl (i' rfl (C1 hx10) (ei64.idx hx10) rfl (e' rfl (sg' 8 rfl (G' 2 rfl (AG.c rfl rfl (fun _=>trivial) (fun _=>U4 hx11) (G' 3 rfl (a2' rfl (pa' rfl (an' (g' [0] (V3 hx12) rfl rfl rfl rfl rfl rfl ?_)))))))))))))
   exact n' (T' rfl (T' rfl (lw' (ih0 _ _ _ _ hh) rfl rfl rfl)))
  cases hh
  exact ex' (rn' rfl rfl rfl)
theorem Tt {s o0 last v58 res}(hh:P4 s o0 last v58=some res):Bl s o0 last v58 res:=(Ur s) _ _ _ _ hh
def Q8 (s:D0)(syntaxReport:J0):Option J0:=
 if (s.Verb == 4)=true then
  X3 s.NV 0 1048576>>=fun x1=>
  I2 x1 syntaxReport>>=fun x2=>
  some x2
 else
  if (s.Verb == 6)=true then
   X3 s.NV 0 4096>>=fun x3=>
   I2 x3 syntaxReport>>=fun x4=>
   some x4
  else
   if (s.Verb == 7)=true then
    X3 s.Low (-1048576) 1048576>>=fun x5=>
    (if x5=true then X3 s.High s.Low 1048576 else some default)>>=fun x6=>
    I2 (bif (bif x5 then x6 else false) then (decide ((IntKind.i64.wrap (s.High - s.Low)) < 4096)) else false) syntaxReport>>=fun x7=>
    some x7
   else
    if (s.Verb == 8)=true then
     X3 ((s.Numbers).length:Int) 1 32>>=fun x8=>
     I2 x8 syntaxReport>>=fun x9=>
     P4 s x9 (-1) 0
    else
     some syntaxReport
theorem Ww {s syntaxReport res}(hh:Q8 s syntaxReport=some res):O0 C 179 [.ref 0 0,.agg (D0.cells s)] [.row (J0.cells syntaxReport) 103] (Ret [.row (J0.cells res) 103] (.tup [])):=by
 unfold Q8 at hh
 refine O0.intro hC Tryz.func179 rfl rfl rfl (s' rfl rfl (F0.n hC rfl (n' (t' rfl (bk' (t' rfl (ci' rfl hh (fun hh=>?_) (fun hh=>?_))))))))
 ·obtain ⟨x1,hx1,hh⟩:=bs' hh
  obtain ⟨x2,hx2,hh⟩:=bs' hh
  cases hh
  exact P' 3 rfl (c' (U4 hx1) rfl rfl (g' [0] (V3 hx2) rfl rfl rfl rfl rfl rfl (n' (rn' rfl rfl rfl))))
 refine t' rfl (ci' rfl hh (fun hh=>?_) (fun hh=>?_))
 ·obtain ⟨x3,hx3,hh⟩:=bs' hh
  obtain ⟨x4,hx4,hh⟩:=bs' hh
  cases hh
  exact P' 3 rfl (c' (U4 hx3) rfl rfl (g' [0] (V3 hx4) rfl rfl rfl rfl rfl rfl (n' (rn' rfl rfl rfl))))
 refine t' rfl (ci' rfl hh (fun hh=>?_) (fun hh=>?_))
 ·obtain ⟨x5,hx5,hh⟩:=bs' hh
  obtain ⟨x6,hx6,hh⟩:=bs' hh
  obtain ⟨x7,hx7,hh⟩:=bs' hh
  cases hh
  refine sg' 11 rfl (G' 2 rfl (AG.c rfl rfl (fun _=>trivial) (fun _=>U4 hx5) (G' 2 rfl (a1' rfl (a0' rfl (a1' rfl (AG.c rfl rfl (fun hg=>⟨hg,hg,trivial⟩) (fun hw=>U4 (E1 hw hx6)) (pa' rfl (a0' rfl (an' (n' (AEx.regionG 10 rfl (G' 4 rfl ?_)))))))))))))
  exact a1' rfl (a0' rfl (a1' rfl (a2' rfl (a1' rfl (pa' rfl (an' (g' [0] (V3 hx7) rfl rfl rfl rfl rfl rfl (n' (rn' rfl rfl rfl)))))))))
 refine t' rfl (ci' rfl hh (fun hh=>?_) (fun hh=>?_))
 ·obtain ⟨x8,hx8,hh⟩:=bs' hh
  obtain ⟨x9,hx9,hh⟩:=bs' hh
  exact p' 3 rfl (qe' rfl trivial (ei64.lenA _) (c' (U4 hx8) rfl rfl (g' [0] (V3 hx9) rfl rfl rfl rfl rfl rfl (n' (t' rfl (p' 2 rfl (qe' rfl trivial (ei64.lenA _) (e' rfl (bk' (fw' (Tt hh) rfl rfl rfl))))))))))
 cases hh
 exact sk' (rn' rfl rfl rfl)
mutual
def G4 (l:List D0)(nesting:Int)(syntaxReport:J0):Option J0:=
 D6 l nesting syntaxReport 0
 partial_fixpoint
def D6 (l:List D0)(nesting:Int)(o03:J0)(v14:Int):Option J0:=
 if (decide (v14 < ((l).length:Int)))=true then
  idx l v14>>=fun x1=>
  V5 nesting (J0.mk (IntKind.i64.wrap (o03.nodes+1)) o03.depth o03.badForm o03.badName o03.badNumber)>>=fun x2=>
  Sg x1.Verb>>=fun x3=>
  Z0 x3.2 x2>>=fun x4=>
  L4 x1.Place x3.1.place x4>>=fun x5=>
  if x3.1.place=true then
   Ke x1.Place>>=fun x6=>
   Z0 x6 x5>>=fun x7=>
   S7 l nesting x7 x1 x3 v14
  else
   S7 l nesting x5 x1 x3 v14
 else
  some o03
 partial_fixpoint
def S7 (l:List D0)(nesting:Int)(o0:J0)(x1:D0)(x3:A3×Bool)(v141:Int):Option J0:=
 L4 x1.Value x3.1.value o0>>=fun x8=>
 Z0 (bif x3.1.name then true else (x1.Name == [])) x8>>=fun x9=>
 if x3.1.name=true then
  C4 x1.Name x9>>=fun x10=>
  T7 l nesting x10 x1 x3 v141
 else
  T7 l nesting x9 x1 x3 v141
 partial_fixpoint
def T7 (l:List D0)(nesting:Int)(o01:J0)(x1:D0)(x3:A3×Bool)(v142:Int):Option J0:=
 Z0 (bif x3.1.args then true else (((x1.Args).length:Int) == 0)) o01>>=fun x11=>
 Fb l nesting x11 x1 x3 v142 0
 partial_fixpoint
def Fb (l:List D0)(nesting:Int)(o02:J0)(x1:D0)(x3:A3×Bool)(v143:Int)(v84:Int):Option J0:=
 if (decide (v84 < ((x1.Args).length:Int)))=true then
  idx x1.Args v84>>=fun x12=>
  B3 x12 1 o02>>=fun x13=>
  Fb l nesting x13 x1 x3 v143 (IntKind.i64.wrap (v84+1))
 else
  Z0 (bif x3.1.n then true else (x1.NV == 0)) o02>>=fun x14=>
  Z0 (bif x3.1.bounds then true else (bif (x1.Low == 0) then (x1.High == 0) else false)) x14>>=fun x15=>
  Z0 (bif x3.1.numbers then true else (((x1.Numbers).length:Int) == 0)) x15>>=fun x16=>
  Z0 (bif x3.1.thenV then true else (((x1.Then).length:Int) == 0)) x16>>=fun x17=>
  Z0 (bif x3.1.other then true else (((x1.Else).length:Int) == 0)) x17>>=fun x18=>
  Q8 x1 x18>>=fun x19=>
  G4 x1.Then (IntKind.i64.wrap (nesting+1)) x19>>=fun x20=>
  G4 x1.Else (IntKind.i64.wrap (nesting+1)) x20>>=fun x21=>
  D6 l nesting x21 (IntKind.i64.wrap (v143+1))
 partial_fixpoint
end
abbrev Uo (l:List D0)(nesting:Int)(syntaxReport:J0)(res:J0):Prop:=O0 C 144 [.ref 0 0,.d (.sl (D0.rows l)),.d (.int .i64 nesting)] [.row (J0.cells syntaxReport) 103] (Ret [.row (J0.cells res) 103] (.tup []))
abbrev Xw (l:List D0)(nesting:Int)(o03:J0)(v14:Int)(res:J0):Prop:=LM C 161 1 Tryz.f144 [1,4] [(0,.ref 0 0),(2,.d (.int .i64 nesting)),(12,.d (.sl (D0.rows l))),(13,.d (.int .i64 ((l).length:Int))),(14,.d (.int .i64 v14))] [.row (J0.cells o03) 103] (Ret [.row (J0.cells res) 103] (.tup []))
abbrev Yw (l:List D0)(nesting:Int)(o0:J0)(x1:D0)(x3:A3×Bool)(v141:Int)(res:J0):Prop:=JM C 161 1 Tryz.f144 [1,4,5,1,1,0,4,1,1,1,1,1,1,1] [(0,.ref 0 0),(2,.d (.int .i64 nesting)),(7,.ref 1 0),(8,.ref 2 0),(12,.d (.sl (D0.rows l))),(13,.d (.int .i64 ((l).length:Int))),(14,.d (.int .i64 v141))] [.row (J0.cells o0) 103,.row (D0.cells x1) 144,.row (A3.cells x3.1) 186] (Ret [.row (J0.cells res) 103] (.tup []))
abbrev Zw (l:List D0)(nesting:Int)(o01:J0)(x1:D0)(x3:A3×Bool)(v142:Int)(res:J0):Prop:=JM C 161 1 Tryz.f144 [1,4,5,1,1,0,4,1,1,1,1,1,1,1,1,1,1] [(0,.ref 0 0),(2,.d (.int .i64 nesting)),(7,.ref 1 0),(8,.ref 2 0),(12,.d (.sl (D0.rows l))),(13,.d (.int .i64 ((l).length:Int))),(14,.d (.int .i64 v142))] [.row (J0.cells o01) 103,.row (D0.cells x1) 144,.row (A3.cells x3.1) 186] (Ret [.row (J0.cells res) 103] (.tup []))
abbrev Ax (l:List D0)(nesting:Int)(o02:J0)(x1:D0)(x3:A3×Bool)(v143:Int)(v84:Int)(res:J0):Prop:=LM C 161 1 Tryz.f144 [1,4,5,1,1,0,4,1,1,1,1,1,1,1,1,1,1,1,0,1,4] [(0,.ref 0 0),(2,.d (.int .i64 nesting)),(7,.ref 1 0),(8,.ref 2 0),(12,.d (.sl (D0.rows l))),(13,.d (.int .i64 ((l).length:Int))),(14,.d (.int .i64 v143)),(82,.d (.sl (A0.rows x1.Args))),(83,.d (.int .i64 ((x1.Args).length:Int))),(84,.d (.int .i64 v84))] [.row (J0.cells o02) 103,.row (D0.cells x1) 144,.row (A3.cells x3.1) 186] (Ret [.row (J0.cells res) 103] (.tup []))
theorem Cy:(∀ l nesting syntaxReport res,G4 l nesting syntaxReport=some res→Uo l nesting syntaxReport res)∧(∀ l nesting o03 v14 res,D6 l nesting o03 v14=some res→Xw l nesting o03 v14 res)∧(∀ l nesting o0 x1 x3 v141 res,S7 l nesting o0 x1 x3 v141=some res→Yw l nesting o0 x1 x3 v141 res)∧(∀ l nesting o01 x1 x3 v142 res,T7 l nesting o01 x1 x3 v142=some res→Zw l nesting o01 x1 x3 v142 res)∧(∀ l nesting o02 x1 x3 v143 v84 res,Fb l nesting o02 x1 x3 v143 v84=some res→Ax l nesting o02 x1 x3 v143 v84 res):=by
 refine G4.mutual_partial_correctness _ _ _ _ _ ?_ ?_ ?_ ?_ ?_
 ·intro g1 ih1 l nesting syntaxReport res hh
  exact O0.intro hC Tryz.func144 rfl rfl rfl (p' 1 rfl (qe' rfl trivial (D0.lenA _) (e' rfl (bk' (fw' (ih1 _ _ _ _ _ hh) rfl rfl rfl)))))
 ·intro g2 ih2 l nesting o03 v14 res hh
  refine W0.unroll (t' rfl (S' (ci' rfl hh (fun hh=>?_) (fun hh=>?_))))
  ·obtain ⟨x1,hx1,hh⟩:=bs' hh
   obtain ⟨x2,hx2,hh⟩:=bs' hh
   obtain ⟨x3,hx3,hh⟩:=bs' hh
   obtain ⟨x4,hx4,hh⟩:=bs' hh
   obtain ⟨x5,hx5,hh⟩:=bs' hh
   refine sk' (S' (bk' (s' rfl rfl (i' rfl (C1 hx1) (D0.idx hx1) rfl (q' rfl (F0.nf hC rfl (F0.s hC rfl (n' (p' 7 rfl (F0.s hC rfl (n' (p' 2 rfl (g' [0] (Si hx2) rfl rfl rfl rfl rfl rfl ?_)))))))))))))
   refine n' (p' 2 rfl (c' (C15 hx3) rfl rfl (o' 3 rfl (F0.n hC rfl (F0.s hC rfl (e' rfl (p' 2 rfl (g' [0] (I1 hx4) rfl rfl rfl rfl rfl rfl (n' (p' 5 rfl (g' [0] (Sf hx5) rfl rfl rfl rfl rfl rfl (n' (S' ?_)))))))))))))
   refine t' rfl (ci' rfl hh (fun hh=>?_) (fun hh=>?_))
   ·obtain ⟨x6,hx6,hh⟩:=bs' hh
    obtain ⟨x7,hx7,hh⟩:=bs' hh
    exact P' 3 rfl (c' (Oy hx6) rfl rfl (g' [0] (I1 hx7) rfl rfl rfl rfl rfl rfl (n' (ew' (ih2 _ _ _ _ _ _ _ hh) rfl rfl rfl))))
   exact sk' (ew' (ih2 _ _ _ _ _ _ _ hh) rfl rfl rfl)
  cases hh
  exact ex' (rn' rfl rfl rfl)
 ·intro g3 ih3 l nesting o0 x1 x3 v141 res hh
  obtain ⟨x8,hx8,hh⟩:=bs' hh
  obtain ⟨x9,hx9,hh⟩:=bs' hh
  refine p' 5 rfl (g' [0] (Sf hx8) rfl rfl rfl rfl rfl rfl (n' (sg' 8 rfl (G' 5 rfl (a1' rfl (a1' rfl (po' rfl (an' (g' [0] (I1 hx9) rfl rfl rfl rfl rfl rfl (n' (S' (t' rfl (ci' rfl hh (fun hh=>?_) (fun hh=>?_))))))))))))))
  ·obtain ⟨x10,hx10,hh⟩:=bs' hh
   exact P' 3 rfl (g' [0] (Tb hx10) rfl rfl rfl rfl rfl rfl (n' (ew' (ih3 _ _ _ _ _ _ _ hh) rfl rfl rfl)))
  exact sk' (ew' (ih3 _ _ _ _ _ _ _ hh) rfl rfl rfl)
 ·intro g4 ih4 l nesting o01 x1 x3 v142 res hh
  obtain ⟨x11,hx11,hh⟩:=bs' hh
  exact sg' 9 rfl (G' 5 rfl (a1' rfl (AG.qe hC rfl (fun hg=>⟨⟨hg,trivial⟩,trivial⟩) (A0.lenA _) (a1' rfl (po' rfl (an' (g' [0] (I1 hx11) rfl rfl rfl rfl rfl rfl (n' (S' (p' 2 rfl (qe' rfl trivial (A0.lenA _) (e' rfl (bk' (fw' (ih4 _ _ _ _ _ _ _ _ hh) rfl rfl rfl))))))))))))))
 ·intro g0 g1 g4 ih0 ih1 ih4 l nesting o02 x1 x3 v143 v84 res hh
  refine W0.unroll (t' rfl (S' (ci' rfl hh (fun hh=>?_) (fun hh=>?_))))
  ·obtain ⟨x12,hx12,hh⟩:=bs' hh
   obtain ⟨x13,hx13,hh⟩:=bs' hh
   exact sk' (S' (bk' (s' rfl rfl (i' rfl (C1 hx12) (A0.idx hx12) rfl (q' rfl (F0.nf hC rfl (F0.s hC rfl (n' (P' 2 rfl (g' [0] (Vi hx13) rfl rfl rfl rfl rfl rfl (n' (T' rfl (lw' (ih4 _ _ _ _ _ _ _ _ hh) rfl rfl rfl)))))))))))))
  obtain ⟨x14,hx14,hh⟩:=bs' hh
  obtain ⟨x15,hx15,hh⟩:=bs' hh
  obtain ⟨x16,hx16,hh⟩:=bs' hh
  obtain ⟨x17,hx17,hh⟩:=bs' hh
  obtain ⟨x18,hx18,hh⟩:=bs' hh
  obtain ⟨x19,hx19,hh⟩:=bs' hh
  obtain ⟨x20,hx20,hh⟩:=bs' hh
  obtain ⟨x21,hx21,hh⟩:=bs' hh
  refine ex' (sg' 8 rfl (G' 5 rfl (a1' rfl (a1' rfl (po' rfl (an' (g' [0] (I1 hx14) rfl rfl rfl rfl rfl rfl (n' (sg' 13 rfl (G' 5 rfl (a1' rfl (a1' rfl (a1' rfl ?_)))))))))))))
  refine a0' rfl (a1' rfl (a1' rfl (pA' rfl (po' rfl (an' (g' [0] (I1 hx15) rfl rfl rfl rfl rfl rfl (n' (sg' 9 rfl (G' 5 rfl (a1' rfl (AG.qe hC rfl (fun hg=>⟨⟨hg,trivial⟩,trivial⟩) (ei64.lenA _) (a1' rfl (po' rfl ?_)))))))))))))
  refine an' (g' [0] (I1 hx16) rfl rfl rfl rfl rfl rfl (n' (sg' 9 rfl (G' 5 rfl (a1' rfl (AG.qe hC rfl (fun hg=>⟨⟨hg,trivial⟩,trivial⟩) (D0.lenA _) (a1' rfl (po' rfl (an' (g' [0] (I1 hx17) rfl rfl rfl rfl rfl rfl (n' (sg' 9 rfl (G' 5 rfl ?_)))))))))))))
  refine a1' rfl (AG.qe hC rfl (fun hg=>⟨⟨hg,trivial⟩,trivial⟩) (D0.lenA _) (a1' rfl (po' rfl (an' (g' [0] (I1 hx18) rfl rfl rfl rfl rfl rfl (n' (p' 2 rfl (g' [0] (Ww hx19) rfl rfl rfl rfl rfl rfl (n' (p' 5 rfl (g' [0] (ih0 _ _ _ _ hx20) rfl rfl rfl rfl rfl rfl (n' (P' 5 rfl ?_)))))))))))))
  exact g' [0] (ih0 _ _ _ _ hx21) rfl rfl rfl rfl rfl rfl (n' (T' rfl (lw' (ih1 _ _ _ _ _ hh) rfl rfl rfl)))
theorem Rn {l nesting syntaxReport res}(hh:G4 l nesting syntaxReport=some res):Uo l nesting syntaxReport res:=(Cy).1 _ _ _ _ hh
end Go.Proofs.YtmnhfbekncjnfaaGreatDoor

set_option maxRecDepth 100000
set_option maxHeartbeats 4000000
set_option synthInstance.maxSize 20000
set_option linter.unusedVariables false
namespace Go.Proofs.YtmnhfbekncjnfaaGreatDoor
open Go.Am
mutual
def J6 (l:List C0)(syntaxReport:J0):Option J0:=
 U7 l syntaxReport 0
 partial_fixpoint
def U7 (l:List C0)(o03:J0)(v15:Int):Option J0:=
 if (decide (v15 < ((l).length:Int)))=true then
  idx l v15>>=fun x1=>
  Ll x1.Kind>>=fun x2=>
  Z0 x2.1 (J0.mk (IntKind.i64.wrap (o03.nodes+1)) o03.depth o03.badForm o03.badName o03.badNumber)>>=fun x3=>
  (if (!x2.1)=true then H9 x1.TypeV (I0.mk 0 0 0 0 [] [] []) else some default)>>=fun x4=>
  if (bif x2.1 then true else (!x4))=true then
   L6 x1.TypeV 1 x3>>=fun x5=>
   Gb l x5 x1 x2 v15
  else
   Gb l x3 x1 x2 v15
 else
  some o03
 partial_fixpoint
def Gb (l:List C0)(o0:J0)(x1:C0)(x2:Bool×Bool)(v151:Int):Option J0:=
 C4 x1.Name o0>>=fun x6=>
 L4 x1.Value x2.2 x6>>=fun x7=>
 Z0 (bif (x1.Kind == 4) then true else (x1.Init == 0)) x7>>=fun x8=>
 X3 x1.Init (-1048576) 1048576>>=fun x9=>
 (if (x9&&(!(x1.TypeV.Kind != 0)))=true then X3 x1.Init 0 1 else some default)>>=fun x10=>
 I2 (bif x9 then (bif (x1.TypeV.Kind != 0) then true else x10) else false) x8>>=fun x11=>
 Z0 (bif (x1.Kind == 6) then true else (bif (bif (((x1.Params).length:Int) == 0) then (((x1.Vars).length:Int) == 0) else false) then (((x1.Body).length:Int) == 0) else false)) x11>>=fun x12=>
 V7 l x12 x1 v151 0
 partial_fixpoint
def V7 (l:List C0)(o01:J0)(x1:C0)(v152:Int)(v109:Int):Option J0:=
 if (decide (v109 < ((x1.Params).length:Int)))=true then
  idx x1.Params v109>>=fun x13=>
  Z0 (bif (x13.Kind == 4) then (x13.Init == 0) else false) o01>>=fun x14=>
  V7 l x14 x1 v152 (IntKind.i64.wrap (v109+1))
 else
  Hb l o01 x1 v152 0
 partial_fixpoint
def Hb (l:List C0)(o02:J0)(x1:C0)(v153:Int)(v127:Int):Option J0:=
 if (decide (v127 < ((x1.Vars).length:Int)))=true then
  idx x1.Vars v127>>=fun x15=>
  Z0 (x15.Kind == 4) o02>>=fun x16=>
  Hb l x16 x1 v153 (IntKind.i64.wrap (v127+1))
 else
  J6 x1.Params o02>>=fun x17=>
  J6 x1.Vars x17>>=fun x18=>
  G4 x1.Body 1 x18>>=fun x19=>
  U7 l x19 (IntKind.i64.wrap (v153+1))
 partial_fixpoint
end
abbrev Vo (l:List C0)(syntaxReport:J0)(res:J0):Prop:=O0 C 143 [.ref 0 0,.d (.sl (C0.rows l))] [.row (J0.cells syntaxReport) 103] (Ret [.row (J0.cells res) 103] (.tup []))
abbrev Bx (l:List C0)(o03:J0)(v15:Int)(res:J0):Prop:=LM C 150 1 Tryz.f143 [1,4] [(0,.ref 0 0),(13,.d (.sl (C0.rows l))),(14,.d (.int .i64 ((l).length:Int))),(15,.d (.int .i64 v15))] [.row (J0.cells o03) 103] (Ret [.row (J0.cells res) 103] (.tup []))
abbrev Dx (l:List C0)(o0:J0)(x1:C0)(x2:Bool×Bool)(v151:Int)(res:J0):Prop:=JM C 150 1 Tryz.f143 [1,4,5,1,1,0,4,1,1,1,1,1] [(0,.ref 0 0),(5,.ref 1 0),(7,.d (.bool x2.2)),(13,.d (.sl (C0.rows l))),(14,.d (.int .i64 ((l).length:Int))),(15,.d (.int .i64 v151))] [.row (J0.cells o0) 103,.row (C0.cells x1) 128] (Ret [.row (J0.cells res) 103] (.tup []))
abbrev Gx (l:List C0)(o01:J0)(x1:C0)(v152:Int)(v109:Int)(res:J0):Prop:=LM C 150 1 Tryz.f143 [1,4,5,1,1,0,4,1,1,1,1,1,1,1,1,1,1,1,0,1,4] [(0,.ref 0 0),(5,.ref 1 0),(13,.d (.sl (C0.rows l))),(14,.d (.int .i64 ((l).length:Int))),(15,.d (.int .i64 v152)),(107,.d (.sl (C0.rows x1.Params))),(108,.d (.int .i64 ((x1.Params).length:Int))),(109,.d (.int .i64 v109))] [.row (J0.cells o01) 103,.row (C0.cells x1) 128] (Ret [.row (J0.cells res) 103] (.tup []))
abbrev Hx (l:List C0)(o02:J0)(x1:C0)(v153:Int)(v127:Int)(res:J0):Prop:=LM C 150 1 Tryz.f143 [1,4,5,1,1,0,4,1,1,1,1,1,1,1,1,1,1,1,1,0,1,4] [(0,.ref 0 0),(5,.ref 1 0),(13,.d (.sl (C0.rows l))),(14,.d (.int .i64 ((l).length:Int))),(15,.d (.int .i64 v153)),(125,.d (.sl (C0.rows x1.Vars))),(126,.d (.int .i64 ((x1.Vars).length:Int))),(127,.d (.int .i64 v127))] [.row (J0.cells o02) 103,.row (C0.cells x1) 128] (Ret [.row (J0.cells res) 103] (.tup []))
theorem Dy:(∀ l syntaxReport res,J6 l syntaxReport=some res→Vo l syntaxReport res)∧(∀ l o03 v15 res,U7 l o03 v15=some res→Bx l o03 v15 res)∧(∀ l o0 x1 x2 v151 res,Gb l o0 x1 x2 v151=some res→Dx l o0 x1 x2 v151 res)∧(∀ l o01 x1 v152 v109 res,V7 l o01 x1 v152 v109=some res→Gx l o01 x1 v152 v109 res)∧(∀ l o02 x1 v153 v127 res,Hb l o02 x1 v153 v127=some res→Hx l o02 x1 v153 v127 res):=by
 refine J6.mutual_partial_correctness _ _ _ _ _ ?_ ?_ ?_ ?_ ?_
 ·intro g1 ih1 l syntaxReport res hh
  exact O0.intro hC Tryz.func143 rfl rfl rfl (p' 1 rfl (qe' rfl trivial (C0.lenA _) (e' rfl (bk' (fw' (ih1 _ _ _ _ hh) rfl rfl rfl)))))
 ·intro g2 ih2 l o03 v15 res hh
  refine W0.unroll (t' rfl (S' (ci' rfl hh (fun hh=>?_) (fun hh=>?_))))
  ·obtain ⟨x1,hx1,hh⟩:=bs' hh
   obtain ⟨x2,hx2,hh⟩:=bs' hh
   obtain ⟨x3,hx3,hh⟩:=bs' hh
   obtain ⟨x4,hx4,hh⟩:=bs' hh
   refine sk' (S' (bk' (s' rfl rfl (i' rfl (C1 hx1) (C0.idx hx1) rfl (q' rfl (F0.nf hC rfl (F0.s hC rfl (n' (p' 7 rfl (F0.s hC rfl (n' (p' 2 rfl (c' (C17 hx2) rfl rfl ?_)))))))))))))
   refine e' rfl (p' 2 rfl (g' [0] (I1 hx3) rfl rfl rfl rfl rfl rfl (n' (S' (sg' 8 rfl (G' 3 rfl (a1' rfl (a0' rfl (AG.c rfl rfl (fun hg=>⟨hg,hg,trivial⟩) (fun hw=>A15 (E1 hw hx4)) (a1' rfl (po' rfl (an' (n' (ci' rfl hh (fun hh=>?_) (fun hh=>?_)))))))))))))))
   ·obtain ⟨x5,hx5,hh⟩:=bs' hh
    exact P' 3 rfl (g' [0] (M12 hx5) rfl rfl rfl rfl rfl rfl (n' (ew' (ih2 _ _ _ _ _ _ hh) rfl rfl rfl)))
   exact sk' (ew' (ih2 _ _ _ _ _ _ hh) rfl rfl rfl)
  cases hh
  exact ex' (rn' rfl rfl rfl)
 ·intro g3 ih3 l o0 x1 x2 v151 res hh
  obtain ⟨x6,hx6,hh⟩:=bs' hh
  obtain ⟨x7,hx7,hh⟩:=bs' hh
  obtain ⟨x8,hx8,hh⟩:=bs' hh
  obtain ⟨x9,hx9,hh⟩:=bs' hh
  obtain ⟨x10,hx10,hh⟩:=bs' hh
  obtain ⟨x11,hx11,hh⟩:=bs' hh
  obtain ⟨x12,hx12,hh⟩:=bs' hh
  refine p' 3 rfl (g' [0] (Tb hx6) rfl rfl rfl rfl rfl rfl (n' (p' 4 rfl (g' [0] (Sf hx7) rfl rfl rfl rfl rfl rfl (n' (sg' 9 rfl (G' 6 rfl (a1' rfl (a1' rfl (po' rfl (an' (g' [0] (I1 hx8) rfl rfl rfl rfl rfl rfl (n' ?_)))))))))))))
  refine sg' 15 rfl (G' 3 rfl (AG.c rfl rfl (fun _=>trivial) (fun _=>U4 hx9) (G' 2 rfl (a1' rfl (a1' rfl (a1' rfl (a1' rfl (a0' rfl (a1' rfl (AG.c rfl rfl (fun hg=>⟨hg,trivial⟩) (fun hw=>U4 (E1 hw hx10)) (pO' rfl (pa' rfl (an' ?_)))))))))))))
  refine g' [0] (V3 hx11) rfl rfl rfl rfl rfl rfl (n' (t' rfl (sg' 20 rfl (G' 4 rfl (a1' rfl (AG.qe hC rfl (fun hg=>⟨⟨hg,trivial⟩,trivial⟩) (C0.lenA _) (a1' rfl (a1' rfl (a0' rfl (a1' rfl (AG.qe hC rfl (fun hg=>⟨⟨hg,trivial⟩,trivial⟩) (C0.lenA _) (a1' rfl (pA' rfl ?_)))))))))))))
  refine a1' rfl (a0' rfl (a1' rfl (AG.qe hC rfl (fun hg=>⟨⟨hg,trivial⟩,trivial⟩) (D0.lenA _) (a1' rfl (pA' rfl (po' rfl (an' (g' [0] (I1 hx12) rfl rfl rfl rfl rfl rfl (n' (S' (p' 2 rfl (qe' rfl trivial (C0.lenA _) (e' rfl ?_)))))))))))))
  exact bk' (fw' (ih3 _ _ _ _ _ _ hh) rfl rfl rfl)
 ·intro g3 g4 ih3 ih4 l o01 x1 v152 v109 res hh
  refine W0.unroll (t' rfl (S' (ci' rfl hh (fun hh=>?_) (fun hh=>?_))))
  ·obtain ⟨x13,hx13,hh⟩:=bs' hh
   obtain ⟨x14,hx14,hh⟩:=bs' hh
   refine sk' (S' (bk' (s' rfl rfl (i' rfl (C1 hx13) (C0.idx hx13) rfl (q' rfl (F0.nf hC rfl (F0.s hC rfl (n' (AEx.regionG 9 rfl (G' 6 rfl (a1' rfl (a1' rfl (pa' rfl ?_)))))))))))))
   exact an' (g' [0] (I1 hx14) rfl rfl rfl rfl rfl rfl (n' (T' rfl (lw' (ih3 _ _ _ _ _ _ hh) rfl rfl rfl))))
  exact ex' (S' (p' 2 rfl (qe' rfl trivial (C0.lenA _) (e' rfl (bk' (fw' (ih4 _ _ _ _ _ _ hh) rfl rfl rfl))))))
 ·intro g0 g1 g4 ih0 ih1 ih4 l o02 x1 v153 v127 res hh
  refine W0.unroll (t' rfl (S' (ci' rfl hh (fun hh=>?_) (fun hh=>?_))))
  ·obtain ⟨x15,hx15,hh⟩:=bs' hh
   obtain ⟨x16,hx16,hh⟩:=bs' hh
   exact sk' (S' (bk' (s' rfl rfl (i' rfl (C1 hx15) (C0.idx hx15) rfl (q' rfl (F0.nf hC rfl (F0.s hC rfl (n' (P' 4 rfl (g' [0] (I1 hx16) rfl rfl rfl rfl rfl rfl (n' (T' rfl (lw' (ih4 _ _ _ _ _ _ hh) rfl rfl rfl)))))))))))))
  obtain ⟨x17,hx17,hh⟩:=bs' hh
  obtain ⟨x18,hx18,hh⟩:=bs' hh
  obtain ⟨x19,hx19,hh⟩:=bs' hh
  exact ex' (p' 3 rfl (g' [0] (ih0 _ _ _ hx17) rfl rfl rfl rfl rfl rfl (n' (p' 3 rfl (g' [0] (ih0 _ _ _ hx18) rfl rfl rfl rfl rfl rfl (n' (P' 3 rfl (g' [0] (Rn hx19) rfl rfl rfl rfl rfl rfl (n' (T' rfl (lw' (ih1 _ _ _ _ hh) rfl rfl rfl)))))))))))
theorem Kz {l syntaxReport res}(hh:J6 l syntaxReport=some res):Vo l syntaxReport res:=(Dy).1 _ _ _ hh
def Bj (p:A1):Option J0:=
 J6 p.Decls (J0.mk 0 0 false false false)>>=fun x1=>
 G4 p.Body 1 x1>>=fun x2=>
 some x2
theorem R18 {p res}(hh:Bj p=some res):O0 C 89 [.agg (A1.cells p)] [] (Ret [.dead,.row (J0.cells res) 103] (.ref 1 0)):=by
 unfold Bj at hh
 obtain ⟨x1,hx1,hh⟩:=bs' hh
 obtain ⟨x2,hx2,hh⟩:=bs' hh
 refine O0.intro hC Tryz.func89 rfl rfl rfl (s' rfl rfl (F0.n hC rfl (e' rfl (p' 1 rfl (F0.n hC rfl (e' rfl (p' 3 rfl (g' [1] (Kz hx1) rfl rfl rfl rfl rfl rfl (n' (p' 3 rfl (g' [1] (Rn hx2) rfl rfl rfl rfl rfl rfl (n' (t' rfl ?_)))))))))))))
 refine re' ?_
 obtain rfl:=oi' hh
 exact ⟨_,_,[.dead,.row (J0.cells x2) 103],rfl,.rfl,⟨trivial,⟨rfl,.refl _,rfl⟩,trivial⟩,rfl,rfl,rfl,rfl⟩
def Bm (p:A1):Option Int:=
 Bj p>>=fun x1=>
 X5 x1>>=fun x2=>
 some x2
theorem I1c {p res}(hh:Bm p=some res):O0 C 47 [.agg (A1.cells p)] [] (Ret [] (.d (.int .i64 res))):=by
 unfold Bm at hh
 obtain ⟨x1,hx1,hh⟩:=bs' hh
 obtain ⟨x2,hx2,hh⟩:=bs' hh
 cases hh
 exact O0.intro hC Tryz.func47 rfl rfl rfl (s' rfl rfl (F0.n hC rfl (e' rfl (p' 1 rfl (g' [] (R18 hx1) rfl rfl rfl rfl rfl rfl (g' [2] (To hx2) rfl rfl rfl rfl rfl rfl (e' rfl (re' (rt' rfl rfl rfl)))))))))
def Cm (text:Str):Option (A1×Int×Int):=
 Zm text (A1.mk [] [])>>=fun x1=>
 if (x1.2.1 != 0)=true then
  some ((A1.mk [] []),x1.1,x1.2.1)
 else
  Bm x1.2.2>>=fun x2=>
  if (x2 != 0)=true then
   some ((A1.mk [] []),0,x2)
  else
   some (x1.2.2,0,0)
theorem J1c {text res}(hh:Cm text=some res):O0 C 21 [.d (.str text)] [] (Ret [] (.tup [.agg (A1.cells res.1),.d (.int .i64 res.2.1),.d (.int .i64 res.2.2)])):=by
 unfold Cm at hh
 obtain ⟨x1,hx1,hh⟩:=bs' hh
 refine O0.intro hC Tryz.func21 rfl rfl rfl (s' rfl rfl (F0.nf hC rfl (e' rfl (s' rfl rfl (F0.nf hC rfl (n' (p' 2 rfl (g' [1] (Q18 hx1) rfl rfl rfl rfl rfl rfl (e' rfl (S' (t' rfl (ci' rfl hh (fun hh=>?_) (fun hh=>?_)))))))))))))
 ·cases hh
  exact p' 3 rfl (F0.s hC rfl (e' rfl (re' (rt' rfl rfl rfl))))
 obtain ⟨x2,hx2,hh⟩:=bs' hh
 refine sk' (S' (p' 1 rfl (c' (I1c hx2) rfl rfl (e' rfl (t' rfl (ci' rfl hh (fun hh=>?_) (fun hh=>?_)))))))
 ·cases hh
  exact p' 2 rfl (F0.s hC rfl (e' rfl (re' (rt' rfl rfl rfl))))
 cases hh
 exact sk' (p' 1 rfl (F0.s hC rfl (e' rfl (re' (rt' rfl rfl rfl)))))
def Cj (l:List K0)(atV:Int):Option Bool:=
 Y0 l atV [116,121,112,101]>>=fun x1=>
 (if (!x1)=true then Y0 l atV [115,101,99,114,101,116] else some default)>>=fun x2=>
 (if (!(bif x1 then true else x2))=true then Y0 l atV [112,117,98,108,105,99] else some default)>>=fun x3=>
 (if (!(bif (bif x1 then true else x2) then true else x3))=true then Y0 l atV [114,97,110,100,111,109] else some default)>>=fun x4=>
 (if (!(bif (bif (bif x1 then true else x2) then true else x3) then true else x4))=true then Y0 l atV [118,97,114] else some default)>>=fun x5=>
 (if (!(bif (bif (bif (bif x1 then true else x2) then true else x3) then true else x4) then true else x5))=true then Y0 l atV [104,97,116,99,104] else some default)>>=fun x6=>
 (if (!(bif (bif (bif (bif (bif x1 then true else x2) then true else x3) then true else x4) then true else x5) then true else x6))=true then Y0 l atV [102,117,110,99] else some default)>>=fun x7=>
 some (bif (bif (bif (bif (bif (bif x1 then true else x2) then true else x3) then true else x4) then true else x5) then true else x6) then true else x7)
theorem S18 {l atV res}(hh:Cj l atV=some res):O0 C 90 [.d (.sl (K0.rows l)),.d (.int .i64 atV)] [] (Ret [] (.d (.bool res))):=by
 unfold Cj at hh
 obtain ⟨x1,hx1,hh⟩:=bs' hh
 obtain ⟨x2,hx2,hh⟩:=bs' hh
 obtain ⟨x3,hx3,hh⟩:=bs' hh
 obtain ⟨x4,hx4,hh⟩:=bs' hh
 obtain ⟨x5,hx5,hh⟩:=bs' hh
 obtain ⟨x6,hx6,hh⟩:=bs' hh
 obtain ⟨x7,hx7,hh⟩:=bs' hh
 cases hh
 refine O0.intro hC Tryz.func90 rfl rfl rfl (t' rfl (sg' 34 rfl (G' 2 rfl (AG.c rfl rfl (fun _=>trivial) (fun _=>V0 hx1) (G' 3 rfl (AG.c rfl rfl (fun hg=>⟨hg,hg,trivial⟩) (fun hw=>V0 (E1 hw hx2)) (po' rfl (G' 3 rfl (AG.c rfl rfl (fun hg=>⟨hg,hg,trivial⟩) (fun hw=>V0 (E1 hw hx3)) (po' rfl (G' 3 rfl (AG.c rfl rfl (fun hg=>⟨hg,hg,trivial⟩) (fun hw=>V0 (E1 hw hx4)) ?_))))))))))))
 exact po' rfl (G' 3 rfl (AG.c rfl rfl (fun hg=>⟨hg,hg,trivial⟩) (fun hw=>V0 (E1 hw hx5)) (po' rfl (G' 3 rfl (AG.c rfl rfl (fun hg=>⟨hg,hg,trivial⟩) (fun hw=>V0 (E1 hw hx6)) (po' rfl (G' 3 rfl (AG.c rfl rfl (fun hg=>⟨hg,hg,trivial⟩) (fun hw=>V0 (E1 hw hx7)) (po' rfl (a0' rfl (an' (n' (re' (rt' rfl rfl rfl))))))))))))))
def Ns (l:List K0)(atV:Int):Option (Int×Int×Bool):=
 Y0 l atV [116,114,117,101]>>=fun x1=>
 if x1=true then
  some (1,(IntKind.i64.wrap (atV+1)),true)
 else
  Y0 l atV [102,97,108,115,101]>>=fun x2=>
  if x2=true then
   some (0,(IntKind.i64.wrap (atV+1)),true)
  else
   T5 l atV>>=fun x3=>
   some (x3.1,x3.2.1,x3.2.2)
theorem V1d {l atV res}(hh:Ns l atV=some res):O0 C 180 [.d (.sl (K0.rows l)),.d (.int .i64 atV)] [] (Ret [] (.tup [.d (.int .i64 res.1),.d (.int .i64 res.2.1),.d (.bool res.2.2)])):=by
 unfold Ns at hh
 obtain ⟨x1,hx1,hh⟩:=bs' hh
 refine O0.intro hC Tryz.func180 rfl rfl rfl (t' rfl (S' (p' 2 rfl (c' (V0 hx1) rfl rfl (n' (ci' rfl hh (fun hh=>?_) (fun hh=>?_)))))))
 ·cases hh
  exact t' rfl (re' (rt' rfl rfl rfl))
 obtain ⟨x2,hx2,hh⟩:=bs' hh
 refine sk' (S' (p' 2 rfl (c' (V0 hx2) rfl rfl (n' (ci' rfl hh (fun hh=>?_) (fun hh=>?_))))))
 ·cases hh
  exact t' rfl (re' (rt' rfl rfl rfl))
 obtain ⟨x3,hx3,hh⟩:=bs' hh
 cases hh
 exact sk' (p' 2 rfl (c' (I7 hx3) rfl rfl (e' rfl (re' (rt' rfl rfl rfl)))))
def A8 (l:List K0)(x1:C0×Int×Bool)(o1_Init:Int)(atV1:Int):Option (C0×Int×Bool):=
 Y0 l atV1 [59]>>=fun x4=>
 if (!x4)=true then
  some ((C0.mk x1.1.Kind x1.1.Name x1.1.TypeV o1_Init x1.1.Value x1.1.Params x1.1.Vars x1.1.Body),atV1,false)
 else
  some ((C0.mk x1.1.Kind x1.1.Name x1.1.TypeV o1_Init x1.1.Value x1.1.Params x1.1.Vars x1.1.Body),(IntKind.i64.wrap (atV1+1)),true)
theorem Tp {l x1 o1_Init atV1 res}(hh:A8 l x1 o1_Init atV1=some res):JM C 45 0 Tryz.f145 [1,1,1,1] [(0,.d (.sl (K0.rows l))),(1,.d (.int .i64 atV1)),(4,.ref 0 0),(7,.ref 1 0)] [.row [.d (.int .i64 0),.d (.str []),.d (.int .i64 0),.d (.int .i64 0),.d (.int .i64 0),.d (.int .i64 0),.d (.str []),.full (estr.rows []),.full (I0.rows []),.d (.int .i64 0),.d (.int .i64 0),.d (.int .i64 0),.d (.str []),.full (A0.rows []),.full (C0.rows []),.full (C0.rows []),.full (D0.rows [])] 128,.row [.d (.int .i64 x1.1.Kind),.d (.str x1.1.Name),.d (.int .i64 x1.1.TypeV.Kind),.d (.int .i64 x1.1.TypeV.Low),.d (.int .i64 x1.1.TypeV.High),.d (.int .i64 x1.1.TypeV.Size),.d (.str x1.1.TypeV.Name),.d (.sl (estr.rows x1.1.TypeV.Names)),.d (.sl (I0.rows x1.1.TypeV.Of)),.d (.int .i64 o1_Init),.d (.int .i64 x1.1.Value.Op),.d (.int .i64 x1.1.Value.NV),.d (.str x1.1.Value.Name),.d (.sl (A0.rows x1.1.Value.Kids)),.d (.sl (C0.rows x1.1.Params)),.d (.sl (C0.rows x1.1.Vars)),.d (.sl (D0.rows x1.1.Body))] 128] (Ret [] (.tup [.agg (C0.cells res.1),.d (.int .i64 res.2.1),.d (.bool res.2.2)])):=by
 unfold A8 at hh
 obtain ⟨x4,hx4,hh⟩:=bs' hh
 refine S' (p' 2 rfl (c' (V0 hx4) rfl rfl (e' rfl (ci' rfl hh (fun hh=>?_) (fun hh=>?_)))))
 ·cases hh
  exact p' 2 rfl (F0.s hC rfl (e' rfl (re' (rt' rfl rfl rfl))))
 cases hh
 exact sk' (p' 3 rfl (F0.s hC rfl (e' rfl (re' (rt' rfl rfl rfl)))))
def Fg (l:List K0)(atV:Int):Option (C0×Int×Bool):=
 V6 l atV>>=fun x1=>
 if (!x1.2.2)=true then
  some (x1.1,x1.2.1,false)
 else
  Y0 l x1.2.1 [61]>>=fun x2=>
  if x2=true then
   Ns l (IntKind.i64.wrap (x1.2.1+1))>>=fun x3=>
   if (!x3.2.2)=true then
    some ((C0.mk x1.1.Kind x1.1.Name x1.1.TypeV x3.1 x1.1.Value x1.1.Params x1.1.Vars x1.1.Body),x3.2.1,false)
   else
    A8 l x1 x3.1 x3.2.1
  else
   A8 l x1 x1.1.Init x1.2.1
theorem Iv {l atV res}(hh:Fg l atV=some res):O0 C 145 [.d (.sl (K0.rows l)),.d (.int .i64 atV)] [] (Ret [] (.tup [.agg (C0.cells res.1),.d (.int .i64 res.2.1),.d (.bool res.2.2)])):=by
 unfold Fg at hh
 obtain ⟨x1,hx1,hh⟩:=bs' hh
 refine O0.intro hC Tryz.func145 rfl rfl rfl (s' rfl rfl (F0.nf hC rfl (e' rfl (p' 2 rfl (c' (Nr hx1) rfl rfl (o' 4 rfl (F0.nf hC rfl (F0.s hC rfl (e' rfl (S' (t' rfl (ci' rfl hh (fun hh=>?_) (fun hh=>?_)))))))))))))
 ·cases hh
  exact p' 2 rfl (F0.s hC rfl (e' rfl (re' (rt' rfl rfl rfl))))
 obtain ⟨x2,hx2,hh⟩:=bs' hh
 refine sk' (S' (p' 2 rfl (c' (V0 hx2) rfl rfl (n' (ci' rfl hh (fun hh=>?_) (fun hh=>?_))))))
 ·obtain ⟨x3,hx3,hh⟩:=bs' hh
  refine p' 3 rfl (c' (V1d hx3) rfl rfl (o' 5 rfl (F0.s hC rfl (e' rfl (t' rfl (ci' rfl hh (fun hh=>?_) (fun hh=>?_)))))))
  ·cases hh
   exact p' 2 rfl (F0.s hC rfl (e' rfl (re' (rt' rfl rfl rfl))))
  exact sk' (ew' (Tp hh) rfl rfl rfl)
 exact sk' (ew' (Tp hh) rfl rfl rfl)
def Dc (l:List K0)(texts:List Str)(atV1:Int)(i:Int):Option (Int×Bool):=
 if (decide (i < ((texts).length:Int)))=true then
  idx texts i>>=fun x1=>
  Y0 l atV1 x1>>=fun x2=>
  if (!x2)=true then
   some (atV1,false)
  else
   Dc l texts (IntKind.i64.wrap (atV1+1)) (IntKind.i64.wrap (i+1))
 else
  some (atV1,true)
 partial_fixpoint
abbrev Ix (l:List K0)(texts:List Str)(atV1:Int)(i:Int)(res:Int×Bool):Prop:=LM C 27 0 Tryz.f181 [1,0,1,4] [(0,.d (.sl (K0.rows l))),(1,.d (.int .i64 atV1)),(2,.d (.sl (estr.rows texts))),(8,.d (.int .i64 i))] [] (Ret [] (.tup [.d (.int .i64 res.1),.d (.bool res.2)]))
theorem D17 (l:List K0)(texts:List Str):(∀ atV1 i res,Dc l texts atV1 i=some res→Ix l texts atV1 i res):=by
 refine Dc.partial_correctness l texts _ ?_
 ·intro g0 ih0 atV1 i res hh
  refine W0.unroll (S' (p' 2 rfl (qe' rfl trivial (estr.lenA _) (e' rfl (ci' rfl hh (fun hh=>?_) (fun hh=>?_))))))
  ·obtain ⟨x1,hx1,hh⟩:=bs' hh
   obtain ⟨x2,hx2,hh⟩:=bs' hh
   refine sk' (S' (bk' (S' (p' 4 rfl (i' rfl (C1 hx1) (estr.idx hx1) rfl (q' rfl (c' (V0 hx2) rfl rfl (e' rfl (ci' rfl hh (fun hh=>?_) (fun hh=>?_))))))))))
   ·cases hh
    exact t' rfl (re' (rt' rfl rfl rfl))
   exact sk' (T' rfl (T' rfl (lw' (ih0 _ _ _ hh) rfl rfl rfl)))
  cases hh
  exact ex' (t' rfl (re' (rt' rfl rfl rfl)))
theorem T18 {l texts atV1 i res}(hh:Dc l texts atV1 i=some res):Ix l texts atV1 i res:=(D17 l texts) _ _ _ hh
def Fl (l:List K0)(atV:Int)(texts:List Str):Option (Int×Bool):=
 Dc l texts atV 0
theorem Y10 {l atV texts res}(hh:Fl l atV texts=some res):O0 C 181 [.d (.sl (K0.rows l)),.d (.int .i64 atV),.d (.sl (estr.rows texts))] [] (Ret [] (.tup [.d (.int .i64 res.1),.d (.bool res.2)])):=by
 unfold Fl at hh
 exact O0.intro hC Tryz.func181 rfl rfl rfl (t' rfl (S' (t' rfl (bk' (fw' (T18 hh) rfl rfl rfl)))))
def Dm (l:List K0)(atV:Int):Option Bool:=
 I8 l atV>>=fun x1=>
 (if (!x1.2.2)=true then Y0 l atV [111,117,116,112,117,116] else some default)>>=fun x2=>
 (if (!(bif x1.2.2 then true else x2))=true then Y0 l atV [119,97,105,116] else some default)>>=fun x3=>
 (if (!(bif (bif x1.2.2 then true else x2) then true else x3))=true then Y0 l atV [105,102] else some default)>>=fun x4=>
 (if (!(bif (bif (bif x1.2.2 then true else x2) then true else x3) then true else x4))=true then Y0 l atV [119,104,105,108,101] else some default)>>=fun x5=>
 (if (!(bif (bif (bif (bif x1.2.2 then true else x2) then true else x3) then true else x4) then true else x5))=true then Y0 l atV [102,111,114] else some default)>>=fun x6=>
 (if (!(bif (bif (bif (bif (bif x1.2.2 then true else x2) then true else x3) then true else x4) then true else x5) then true else x6))=true then Y0 l atV [115,101,116,116,108,101] else some default)>>=fun x7=>
 some (bif (bif (bif (bif (bif (bif x1.2.2 then true else x2) then true else x3) then true else x4) then true else x5) then true else x6) then true else x7)
theorem K1c {l atV res}(hh:Dm l atV=some res):O0 C 147 [.d (.sl (K0.rows l)),.d (.int .i64 atV)] [] (Ret [] (.d (.bool res))):=by
 unfold Dm at hh
 obtain ⟨x1,hx1,hh⟩:=bs' hh
 obtain ⟨x2,hx2,hh⟩:=bs' hh
 obtain ⟨x3,hx3,hh⟩:=bs' hh
 obtain ⟨x4,hx4,hh⟩:=bs' hh
 obtain ⟨x5,hx5,hh⟩:=bs' hh
 obtain ⟨x6,hx6,hh⟩:=bs' hh
 obtain ⟨x7,hx7,hh⟩:=bs' hh
 cases hh
 refine O0.intro hC Tryz.func147 rfl rfl rfl (t' rfl (p' 2 rfl (c' (N9 hx1) rfl rfl (e' rfl (sg' 32 rfl (G' 4 rfl (AG.c rfl rfl (fun hg=>⟨hg,hg,trivial⟩) (fun hw=>V0 (E1 hw hx2)) (po' rfl (G' 3 rfl (AG.c rfl rfl (fun hg=>⟨hg,hg,trivial⟩) (fun hw=>V0 (E1 hw hx3)) (po' rfl (G' 3 rfl (AG.c rfl rfl (fun hg=>⟨hg,hg,trivial⟩) (fun hw=>V0 (E1 hw hx4)) ?_)))))))))))))
 exact po' rfl (G' 3 rfl (AG.c rfl rfl (fun hg=>⟨hg,hg,trivial⟩) (fun hw=>V0 (E1 hw hx5)) (po' rfl (G' 3 rfl (AG.c rfl rfl (fun hg=>⟨hg,hg,trivial⟩) (fun hw=>V0 (E1 hw hx6)) (po' rfl (G' 3 rfl (AG.c rfl rfl (fun hg=>⟨hg,hg,trivial⟩) (fun hw=>V0 (E1 hw hx7)) (po' rfl (a0' rfl (an' (n' (re' (rt' rfl rfl rfl))))))))))))))
def A7 (l:List K0)(o1_Verb:Int)(o1_Place:A0)(o1_Value:A0)(o1_Name:Str)(o1_Args:List A0)(o1_NV:Int)(o1_Low:Int)(o1_High:Int)(o1_Numbers:List Int)(o1_Then:List D0)(o1_Else:List D0)(atV1:Int)(ok:Bool):Option (D0×Int×Bool):=
 (if (!(!ok))=true then Y0 l atV1 [59] else some default)>>=fun x9=>
 if (bif (!ok) then true else (!x9))=true then
  some ((D0.mk o1_Verb o1_Place o1_Value o1_Name o1_Args o1_NV o1_Low o1_High o1_Numbers o1_Then o1_Else),atV1,false)
 else
  some ((D0.mk o1_Verb o1_Place o1_Value o1_Name o1_Args o1_NV o1_Low o1_High o1_Numbers o1_Then o1_Else),(IntKind.i64.wrap (atV1+1)),true)
theorem Ve {l o1_Verb o1_Place o1_Value o1_Name o1_Args o1_NV o1_Low o1_High o1_Numbers o1_Then o1_Else atV1 ok res}(hh:A7 l o1_Verb o1_Place o1_Value o1_Name o1_Args o1_NV o1_Low o1_High o1_Numbers o1_Then o1_Else atV1 ok=some res):JM C 105 0 Tryz.f148 [1,1,1,1] [(0,.d (.sl (K0.rows l))),(1,.d (.int .i64 atV1)),(4,.ref 0 0),(7,.ref 1 0),(8,.d (.bool ok))] [.row [.d (.int .i64 0),.d (.int .i64 0),.d (.int .i64 0),.d (.str []),.full (A0.rows []),.d (.int .i64 0),.d (.int .i64 0),.d (.str []),.full (A0.rows []),.d (.str []),.full (A0.rows []),.d (.int .i64 0),.d (.int .i64 0),.d (.int .i64 0),.full (ei64.rows []),.full (D0.rows []),.full (D0.rows [])] 144,.row [.d (.int .i64 o1_Verb),.d (.int .i64 o1_Place.Op),.d (.int .i64 o1_Place.NV),.d (.str o1_Place.Name),.d (.sl (A0.rows o1_Place.Kids)),.d (.int .i64 o1_Value.Op),.d (.int .i64 o1_Value.NV),.d (.str o1_Value.Name),.d (.sl (A0.rows o1_Value.Kids)),.d (.str o1_Name),.d (.sl (A0.rows o1_Args)),.d (.int .i64 o1_NV),.d (.int .i64 o1_Low),.d (.int .i64 o1_High),.d (.sl (ei64.rows o1_Numbers)),.d (.sl (D0.rows o1_Then)),.d (.sl (D0.rows o1_Else))] 144] (Ret [] (.tup [.agg (D0.cells res.1),.d (.int .i64 res.2.1),.d (.bool res.2.2)])):=by
 unfold A7 at hh
 obtain ⟨x9,hx9,hh⟩:=bs' hh
 refine S' (sg' 8 rfl (G' 5 rfl (AG.c rfl rfl (fun hg=>⟨hg,hg,trivial⟩) (fun hw=>V0 (E1 hw hx9)) (a1' rfl (po' rfl (an' (n' (ci' rfl hh (fun hh=>?_) (fun hh=>?_)))))))))
 ·cases hh
  exact p' 2 rfl (F0.s hC rfl (e' rfl (re' (rt' rfl rfl rfl))))
 cases hh
 exact sk' (p' 3 rfl (F0.s hC rfl (e' rfl (re' (rt' rfl rfl rfl)))))
def B8 (l:List K0)(atV1:Int)(out:List Int):Option (List Int×Int×Bool):=
 T5 l atV1>>=fun x1=>
 if (!x1.2.2)=true then
  some (out,x1.2.1,false)
 else
  if (decide ((out.length+1) * 9≤140737488355328))=true then
   Y0 l x1.2.1 [44]>>=fun x2=>
   if (!x2)=true then
    some ((out++[x1.1]),x1.2.1,true)
   else
    B8 l (IntKind.i64.wrap (x1.2.1+1)) (out++[x1.1])
  else none
 partial_fixpoint
abbrev Vq (l:List K0)(atV1:Int)(out:List Int)(res:List Int×Int×Bool):Prop:=LM C 35 0 Tryz.f185 [1,1,4] [(0,.d (.sl (K0.rows l))),(1,.d (.int .i64 atV1)),(7,.osl 0 (ei64.rows out))] [.tok 3 1] (Ret [] (.tup [.d (.sl (ei64.rows res.1)),.d (.int .i64 res.2.1),.d (.bool res.2.2)]))
theorem Z10 (l:List K0):(∀ atV1 out res,B8 l atV1 out=some res→Vq l atV1 out res):=by
 refine B8.partial_correctness l _ ?_
 ·intro g0 ih0 atV1 out res hh
  obtain ⟨x1,hx1,hh⟩:=bs' hh
  refine W0.unroll (bk' (p' 2 rfl (c' (I7 hx1) rfl rfl (e' rfl (S' (t' rfl (ci' rfl hh (fun hh=>?_) (fun hh=>?_))))))))
  ·refine t' rfl (re' ?_)
   obtain rfl:=oi' hh
   exact ⟨_,.tup [.d (.sl (ei64.rows out)),.d (.int .i64 x1.2.1),.d (.bool false)],[],rfl,(.tupL ⟨.osl,.rfl,.rfl,trivial⟩),trivial,rfl,rfl,rfl,rfl⟩
  obtain ⟨c6,hh⟩:=I4 hh
  obtain ⟨x2,hx2,hh⟩:=bs' hh
  refine sk' (p' 2 rfl (F0.be hC rfl (ei64.rows_map [x1.1]).symm (F0.ap hC rfl (rs:=ei64.rows (out++[x1.1])) (ei64.app out [x1.1]) (ei64.sz out) (ei64.sz [x1.1]) (P1 (ei64.len out) (ei64.len [x1.1]) c6) (e' rfl (S' (p' 2 rfl (c' (V0 hx2) rfl rfl (e' rfl (ci' rfl hh (fun hh=>?_) (fun hh=>?_))))))))))
  ·refine t' rfl (re' ?_)
   obtain rfl:=oi' hh
   exact ⟨_,.tup [.d (.sl (ei64.rows (out++[x1.1]))),.d (.int .i64 x1.2.1),.d (.bool true)],[],rfl,(.tupL ⟨.osl,.rfl,.rfl,trivial⟩),trivial,rfl,rfl,rfl,rfl⟩
  exact sk' (T' rfl (lw' (ih0 _ _ _ hh) rfl rfl rfl))
theorem W12 {l atV1 out res}(hh:B8 l atV1 out=some res):Vq l atV1 out res:=(Z10 l) _ _ _ hh
def An (l:List K0)(atV:Int):Option (List Int×Int×Bool):=
 B8 l atV []
theorem U18 {l atV res}(hh:An l atV=some res):O0 C 185 [.d (.sl (K0.rows l)),.d (.int .i64 atV)] [] (Ret [] (.tup [.d (.sl (ei64.rows res.1)),.d (.int .i64 res.2.1),.d (.bool res.2.2)])):=by
 unfold An at hh
 exact O0.intro hC Tryz.func185 rfl rfl rfl (t' rfl (s' rfl rfl (F0.be hC rfl (ei64.rows_map []).symm (F0.tokE 11 3 1 rfl (e' rfl (bk' (fw' (W12 hh) rfl rfl rfl)))))))
def B7 (l:List K0)(atV1:Int)(out:List A0):Option (List A0×Int×Bool):=
 T2 l (IntKind.i64.wrap (atV1+1))>>=fun x3=>
 if (!x3.2.2)=true then
  some (out,x3.2.1,false)
 else
  if (decide ((out.length+1) * 57≤140737488355328))=true then
   Y0 l x3.2.1 [41]>>=fun x4=>
   if x4=true then
    some ((out++[x3.1]),(IntKind.i64.wrap (x3.2.1+1)),true)
   else
    Y0 l x3.2.1 [44]>>=fun x5=>
    if (!x5)=true then
     some ((out++[x3.1]),x3.2.1,false)
    else
     B7 l x3.2.1 (out++[x3.1])
  else none
 partial_fixpoint
abbrev Up (l:List K0)(atV1:Int)(out:List A0)(res:List A0×Int×Bool):Prop:=LM C 54 0 Tryz.f200 [1,1,1,1,4] [(0,.d (.sl (K0.rows l))),(1,.d (.int .i64 atV1)),(7,.osl 0 (A0.rows out))] [.tok 26 4] (Ret [] (.tup [.d (.sl (A0.rows res.1)),.d (.int .i64 res.2.1),.d (.bool res.2.2)]))
theorem Lz (l:List K0):(∀ atV1 out res,B7 l atV1 out=some res→Up l atV1 out res):=by
 refine B7.partial_correctness l _ ?_
 ·intro g0 ih0 atV1 out res hh
  obtain ⟨x3,hx3,hh⟩:=bs' hh
  refine W0.unroll (bk' (p' 3 rfl (c' (E8 hx3) rfl rfl (o' 4 rfl (F0.nf hC rfl (F0.s hC rfl (e' rfl (S' (t' rfl (ci' rfl hh (fun hh=>?_) (fun hh=>?_)))))))))))
  ·refine t' rfl (re' ?_)
   obtain rfl:=oi' hh
   exact ⟨_,.tup [.d (.sl (A0.rows out)),.d (.int .i64 x3.2.1),.d (.bool false)],[],rfl,(.tupL ⟨.osl,.rfl,.rfl,trivial⟩),trivial,rfl,rfl,rfl,rfl⟩
  obtain ⟨c6,hh⟩:=I4 hh
  obtain ⟨x4,hx4,hh⟩:=bs' hh
  refine sk' (p' 2 rfl (F0.be hC rfl (A0.rows_map [x3.1]).symm (F0.ap hC rfl (rs:=A0.rows (out++[x3.1])) (A0.app out [x3.1]) (A0.sz out) (A0.sz [x3.1]) (P1 (A0.len out) (A0.len [x3.1]) c6) (e' rfl (t' rfl (S' (p' 2 rfl (c' (V0 hx4) rfl rfl (n' (ci' rfl hh (fun hh=>?_) (fun hh=>?_)))))))))))
  ·refine t' rfl (re' ?_)
   obtain rfl:=oi' hh
   exact ⟨_,.tup [.d (.sl (A0.rows (out++[x3.1]))),.d (.int .i64 (IntKind.i64.wrap (x3.2.1+1))),.d (.bool true)],[],rfl,(.tupL ⟨.osl,.rfl,.rfl,trivial⟩),trivial,rfl,rfl,rfl,rfl⟩
  obtain ⟨x5,hx5,hh⟩:=bs' hh
  refine sk' (p' 2 rfl (c' (V0 hx5) rfl rfl (e' rfl (ci' rfl hh (fun hh=>?_) (fun hh=>?_)))))
  ·refine t' rfl (re' ?_)
   obtain rfl:=oi' hh
   exact ⟨_,.tup [.d (.sl (A0.rows (out++[x3.1]))),.d (.int .i64 x3.2.1),.d (.bool false)],[],rfl,(.tupL ⟨.osl,.rfl,.rfl,trivial⟩),trivial,rfl,rfl,rfl,rfl⟩
  exact sk' (lw' (ih0 _ _ _ hh) rfl rfl rfl)
theorem A11 {l atV1 out res}(hh:B7 l atV1 out=some res):Up l atV1 out res:=(Lz l) _ _ _ hh
def Ml (l:List K0)(atV:Int):Option (List A0×Int×Bool):=
 Y0 l atV [40]>>=fun x1=>
 if (!x1)=true then
  some ([],atV,false)
 else
  Y0 l (IntKind.i64.wrap (atV+1)) [41]>>=fun x2=>
  if x2=true then
   some ([],(IntKind.i64.wrap (atV+2)),true)
  else
   B7 l atV []
theorem E17 {l atV res}(hh:Ml l atV=some res):O0 C 200 [.d (.sl (K0.rows l)),.d (.int .i64 atV)] [] (Ret [] (.tup [.d (.sl (A0.rows res.1)),.d (.int .i64 res.2.1),.d (.bool res.2.2)])):=by
 unfold Ml at hh
 obtain ⟨x1,hx1,hh⟩:=bs' hh
 refine O0.intro hC Tryz.func200 rfl rfl rfl (t' rfl (s' rfl rfl (F0.be hC rfl (A0.rows_map []).symm (F0.tokE 11 26 4 rfl (e' rfl (S' (p' 2 rfl (c' (V0 hx1) rfl rfl (e' rfl (ci' rfl hh (fun hh=>?_) (fun hh=>?_)))))))))))
 ·refine t' rfl (re' ?_)
  obtain rfl:=oi' hh
  exact ⟨_,.tup [.d (.sl (A0.rows [])),.d (.int .i64 atV),.d (.bool false)],[],rfl,(.tupL ⟨.osl,.rfl,.rfl,trivial⟩),trivial,rfl,rfl,rfl,rfl⟩
 obtain ⟨x2,hx2,hh⟩:=bs' hh
 refine sk' (S' (p' 3 rfl (c' (V0 hx2) rfl rfl (n' (ci' rfl hh (fun hh=>?_) (fun hh=>?_))))))
 ·refine t' rfl (re' ?_)
  obtain rfl:=oi' hh
  exact ⟨_,.tup [.d (.sl (A0.rows [])),.d (.int .i64 (IntKind.i64.wrap (atV+2))),.d (.bool true)],[],rfl,(.tupL ⟨.osl,.rfl,.rfl,trivial⟩),trivial,rfl,rfl,rfl,rfl⟩
 exact sk' (bk' (fw' (A11 hh) rfl rfl rfl))
def Tg (l:List K0)(atV:Int):Option (D0×Int×Bool):=
 Di l atV>>=fun x1=>
 (if (!(!x1.2.2))=true then Y0 l x1.2.1 [61] else some default)>>=fun x2=>
 if (bif (!x1.2.2) then true else (!x2))=true then
  some ((D0.mk 0 (A0.mk 0 0 [] []) (A0.mk 0 0 [] []) [] [] 0 0 0 [] [] []),x1.2.1,false)
 else
  Y0 l (IntKind.i64.wrap (x1.2.1+1)) [114,101,108,101,97,115,101]>>=fun x3=>
  if x3=true then
   I8 l (IntKind.i64.wrap ((IntKind.i64.wrap (x1.2.1+1))+1))>>=fun x4=>
   some ((D0.mk 2 x1.1 (A0.mk 0 0 [] []) x4.1 [] 0 0 0 [] [] []),x4.2.1,x4.2.2)
  else
   Y0 l (IntKind.i64.wrap (x1.2.1+1)) [99,97,108,108]>>=fun x5=>
   if x5=true then
    I8 l (IntKind.i64.wrap ((IntKind.i64.wrap (x1.2.1+1))+1))>>=fun x6=>
    if (!x6.2.2)=true then
     some ((D0.mk 1 x1.1 (A0.mk 0 0 [] []) x6.1 [] 0 0 0 [] [] []),x6.2.1,false)
    else
     Ml l x6.2.1>>=fun x7=>
     some ((D0.mk 1 x1.1 (A0.mk 0 0 [] []) x6.1 x7.1 0 0 0 [] [] []),x7.2.1,x7.2.2)
   else
    T2 l (IntKind.i64.wrap (x1.2.1+1))>>=fun x8=>
    some ((D0.mk 0 x1.1 x8.1 [] [] 0 0 0 [] [] []),x8.2.1,x8.2.2)
theorem D15 {l atV res}(hh:Tg l atV=some res):O0 C 186 [.d (.sl (K0.rows l)),.d (.int .i64 atV)] [] (Ret [] (.tup [.agg (D0.cells res.1),.d (.int .i64 res.2.1),.d (.bool res.2.2)])):=by
 unfold Tg at hh
 obtain ⟨x1,hx1,hh⟩:=bs' hh
 obtain ⟨x2,hx2,hh⟩:=bs' hh
 refine O0.intro hC Tryz.func186 rfl rfl rfl (s' rfl rfl (F0.nf hC rfl (e' rfl (p' 1 rfl (F0.nf hC rfl (F0.s hC rfl (n' (p' 2 rfl (c' (T1d hx1) rfl rfl (o' 4 rfl (F0.nf hC rfl (F0.s hC rfl (e' rfl ?_)))))))))))))
 refine S' (sg' 8 rfl (G' 5 rfl (AG.c rfl rfl (fun hg=>⟨hg,hg,trivial⟩) (fun hw=>V0 (E1 hw hx2)) (a1' rfl (po' rfl (an' (n' (ci' rfl hh (fun hh=>?_) (fun hh=>?_)))))))))
 ·cases hh
  exact p' 2 rfl (F0.s hC rfl (e' rfl (re' (rt' rfl rfl rfl))))
 obtain ⟨x3,hx3,hh⟩:=bs' hh
 refine sk' (p' 2 rfl (F0.s hC rfl (n' (t' rfl (S' (p' 2 rfl (c' (V0 hx3) rfl rfl (n' (ci' rfl hh (fun hh=>?_) (fun hh=>?_))))))))))
 ·obtain ⟨x4,hx4,hh⟩:=bs' hh
  cases hh
  exact p' 1 rfl (F0.s hC rfl (n' (p' 3 rfl (c' (N9 hx4) rfl rfl (o' 5 rfl (F0.s hC rfl (e' rfl (p' 3 rfl (F0.s hC rfl (e' rfl (re' (rt' rfl rfl rfl))))))))))))
 obtain ⟨x5,hx5,hh⟩:=bs' hh
 refine sk' (S' (p' 2 rfl (c' (V0 hx5) rfl rfl (n' (ci' rfl hh (fun hh=>?_) (fun hh=>?_))))))
 ·obtain ⟨x6,hx6,hh⟩:=bs' hh
  refine p' 1 rfl (F0.s hC rfl (n' (p' 3 rfl (c' (N9 hx6) rfl rfl (o' 5 rfl (F0.s hC rfl (e' rfl (S' (t' rfl (ci' rfl hh (fun hh=>?_) (fun hh=>?_)))))))))))
  ·cases hh
   exact p' 2 rfl (F0.s hC rfl (e' rfl (re' (rt' rfl rfl rfl))))
  obtain ⟨x7,hx7,hh⟩:=bs' hh
  cases hh
  exact sk' (p' 2 rfl (c' (E17 hx7) rfl rfl (o' 5 rfl (F0.s hC rfl (e' rfl (p' 3 rfl (F0.s hC rfl (e' rfl (re' (rt' rfl rfl rfl))))))))))
 obtain ⟨x8,hx8,hh⟩:=bs' hh
 cases hh
 exact sk' (p' 2 rfl (c' (E8 hx8) rfl rfl (o' 5 rfl (F0.s hC rfl (e' rfl (p' 3 rfl (F0.s hC rfl (e' rfl (re' (rt' rfl rfl rfl))))))))))
mutual
def K7 (l:List K0)(atV:Int):Option (List D0×Int×Bool):=
 Ta l atV []
 partial_fixpoint
def Ta (l:List K0)(atV1:Int)(out:List D0):Option (List D0×Int×Bool):=
 Dm l atV1>>=fun x1=>
 if x1=true then
  Nl l atV1>>=fun x2=>
  if (!x2.2.2)=true then
   some (out,x2.2.1,false)
  else
   if (decide ((out.length+1) * 257≤140737488355328))=true then
    Ta l x2.2.1 (out++[x2.1])
   else none
 else
  some (out,atV1,true)
 partial_fixpoint
def Nl (l:List K0)(atV:Int):Option (D0×Int×Bool):=
 Y0 l atV [105,102]>>=fun x1=>
 if x1=true then
  Gn l (IntKind.i64.wrap (atV+1))>>=fun x2=>
  some (x2.1,x2.2.1,x2.2.2)
 else
  Y0 l atV [119,104,105,108,101]>>=fun x3=>
  if x3=true then
   Mz l (IntKind.i64.wrap (atV+1))>>=fun x4=>
   some (x4.1,x4.2.1,x4.2.2)
  else
   Y0 l atV [102,111,114]>>=fun x5=>
   if x5=true then
    Nu l (IntKind.i64.wrap (atV+1))>>=fun x6=>
    some (x6.1,x6.2.1,x6.2.2)
   else
    Y0 l atV [111,117,116,112,117,116]>>=fun x7=>
    if x7=true then
     T2 l (IntKind.i64.wrap (atV+1))>>=fun x8=>
     A7 l 3 (A0.mk 0 0 [] []) x8.1 [] [] 0 0 0 [] [] [] x8.2.1 x8.2.2
    else
     Y0 l atV [119,97,105,116]>>=fun x10=>
     if x10=true then
      T5 l (IntKind.i64.wrap (atV+1))>>=fun x11=>
      A7 l 4 (A0.mk 0 0 [] []) (A0.mk 0 0 [] []) [] [] x11.1 0 0 [] [] [] x11.2.1 x11.2.2
     else
      Y0 l atV [115,101,116,116,108,101]>>=fun x12=>
      if x12=true then
       An l (IntKind.i64.wrap (atV+1))>>=fun x13=>
       A7 l 8 (A0.mk 0 0 [] []) (A0.mk 0 0 [] []) [] [] 0 0 0 x13.1 [] [] x13.2.1 x13.2.2
      else
       Tg l atV>>=fun x14=>
       A7 l x14.1.Verb x14.1.Place x14.1.Value x14.1.Name x14.1.Args x14.1.NV x14.1.Low x14.1.High x14.1.Numbers x14.1.Then x14.1.Else x14.2.1 x14.2.2
 partial_fixpoint
def Nu (l:List K0)(atV:Int):Option (D0×Int×Bool):=
 I8 l atV>>=fun x1=>
 (if (!(!x1.2.2))=true then Y0 l x1.2.1 [61] else some default)>>=fun x2=>
 if (bif (!x1.2.2) then true else (!x2))=true then
  some ((D0.mk 7 (A0.mk 0 0 [] []) (A0.mk 0 0 [] []) [] [] 0 0 0 [] [] []),x1.2.1,false)
 else
  T5 l (IntKind.i64.wrap (x1.2.1+1))>>=fun x3=>
  (if (!(!x3.2.2))=true then Y0 l x3.2.1 [116,111] else some default)>>=fun x4=>
  if (bif (!x3.2.2) then true else (!x4))=true then
   some ((D0.mk 7 (A0.mk 0 0 [] []) (A0.mk 0 0 [] []) x1.1 [] 0 x3.1 0 [] [] []),x3.2.1,false)
  else
   T5 l (IntKind.i64.wrap (x3.2.1+1))>>=fun x5=>
   if (!x5.2.2)=true then
    some ((D0.mk 7 (A0.mk 0 0 [] []) (A0.mk 0 0 [] []) x1.1 [] 0 x3.1 x5.1 [] [] []),x5.2.1,false)
   else
    Cg l x5.2.1>>=fun x6=>
    some ((D0.mk 7 (A0.mk 0 0 [] []) (A0.mk 0 0 [] []) x1.1 [] 0 x3.1 x5.1 [] x6.1 []),x6.2.1,x6.2.2)
 partial_fixpoint
def Cg (l:List K0)(atV:Int):Option (List D0×Int×Bool):=
 Y0 l atV [123]>>=fun x1=>
 if (!x1)=true then
  some ([],atV,false)
 else
  K7 l (IntKind.i64.wrap (atV+1))>>=fun x2=>
  (if (!(!x2.2.2))=true then Y0 l x2.2.1 [125] else some default)>>=fun x3=>
  if (bif (!x2.2.2) then true else (!x3))=true then
   some (x2.1,x2.2.1,false)
  else
   some (x2.1,(IntKind.i64.wrap (x2.2.1+1)),true)
 partial_fixpoint
def Mz (l:List K0)(atV:Int):Option (D0×Int×Bool):=
 T2 l atV>>=fun x1=>
 (if (!(!x1.2.2))=true then Y0 l x1.2.1 [108,105,109,105,116] else some default)>>=fun x2=>
 if (bif (!x1.2.2) then true else (!x2))=true then
  some ((D0.mk 6 (A0.mk 0 0 [] []) (A0.mk 0 0 [] []) [] [] 0 0 0 [] [] []),x1.2.1,false)
 else
  T5 l (IntKind.i64.wrap (x1.2.1+1))>>=fun x3=>
  if (!x3.2.2)=true then
   some ((D0.mk 6 (A0.mk 0 0 [] []) x1.1 [] [] x3.1 0 0 [] [] []),x3.2.1,false)
  else
   Cg l x3.2.1>>=fun x4=>
   some ((D0.mk 6 (A0.mk 0 0 [] []) x1.1 [] [] x3.1 0 0 [] x4.1 []),x4.2.1,x4.2.2)
 partial_fixpoint
def Gn (l:List K0)(atV:Int):Option (D0×Int×Bool):=
 T2 l atV>>=fun x1=>
 if (!x1.2.2)=true then
  some ((D0.mk 5 (A0.mk 0 0 [] []) (A0.mk 0 0 [] []) [] [] 0 0 0 [] [] []),x1.2.1,false)
 else
  Cg l x1.2.1>>=fun x2=>
  if (!x2.2.2)=true then
   some ((D0.mk 5 (A0.mk 0 0 [] []) x1.1 [] [] 0 0 0 [] x2.1 []),x2.2.1,false)
  else
   Y0 l x2.2.1 [101,108,115,101]>>=fun x3=>
   if x3=true then
    Cg l (IntKind.i64.wrap (x2.2.1+1))>>=fun x4=>
    some ((D0.mk 5 (A0.mk 0 0 [] []) x1.1 [] [] 0 0 0 [] x2.1 x4.1),x4.2.1,x4.2.2)
   else
    some ((D0.mk 5 (A0.mk 0 0 [] []) x1.1 [] [] 0 0 0 [] x2.1 []),x2.2.1,x2.2.2)
 partial_fixpoint
end
abbrev Ut (l:List K0)(atV:Int)(res:List D0×Int×Bool):Prop:=O0 C 92 [.d (.sl (K0.rows l)),.d (.int .i64 atV)] [] (Ret [] (.tup [.d (.sl (D0.rows res.1)),.d (.int .i64 res.2.1),.d (.bool res.2.2)]))
abbrev B11 (l:List K0)(atV1:Int)(out:List D0)(res:List D0×Int×Bool):Prop:=LM C 33 0 Tryz.f92 [1,1,0,4] [(0,.d (.sl (K0.rows l))),(1,.d (.int .i64 atV1)),(7,.osl 0 (D0.rows out))] [.tok 144 17] (Ret [] (.tup [.d (.sl (D0.rows res.1)),.d (.int .i64 res.2.1),.d (.bool res.2.2)]))
abbrev V18 (l:List K0)(atV:Int)(res:D0×Int×Bool):Prop:=O0 C 148 [.d (.sl (K0.rows l)),.d (.int .i64 atV)] [] (Ret [] (.tup [.agg (D0.cells res.1),.d (.int .i64 res.2.1),.d (.bool res.2.2)]))
abbrev L1c (l:List K0)(atV:Int)(res:D0×Int×Bool):Prop:=O0 C 184 [.d (.sl (K0.rows l)),.d (.int .i64 atV)] [] (Ret [] (.tup [.agg (D0.cells res.1),.d (.int .i64 res.2.1),.d (.bool res.2.2)]))
abbrev D1g (l:List K0)(atV:Int)(res:List D0×Int×Bool):Prop:=O0 C 199 [.d (.sl (K0.rows l)),.d (.int .i64 atV)] [] (Ret [] (.tup [.d (.sl (D0.rows res.1)),.d (.int .i64 res.2.1),.d (.bool res.2.2)]))
abbrev E1g (l:List K0)(atV:Int)(res:D0×Int×Bool):Prop:=O0 C 183 [.d (.sl (K0.rows l)),.d (.int .i64 atV)] [] (Ret [] (.tup [.agg (D0.cells res.1),.d (.int .i64 res.2.1),.d (.bool res.2.2)]))
abbrev E15 (l:List K0)(atV:Int)(res:D0×Int×Bool):Prop:=O0 C 182 [.d (.sl (K0.rows l)),.d (.int .i64 atV)] [] (Ret [] (.tup [.agg (D0.cells res.1),.d (.int .i64 res.2.1),.d (.bool res.2.2)]))
theorem X12 (l:List K0):(∀ atV res,K7 l atV=some res→Ut l atV res)∧(∀ atV1 out res,Ta l atV1 out=some res→B11 l atV1 out res)∧(∀ atV res,Nl l atV=some res→V18 l atV res)∧(∀ atV res,Nu l atV=some res→L1c l atV res)∧(∀ atV res,Cg l atV=some res→D1g l atV res)∧(∀ atV res,Mz l atV=some res→E1g l atV res)∧(∀ atV res,Gn l atV=some res→E15 l atV res):=by
 refine K7.mutual_partial_correctness l _ _ _ _ _ _ _ ?_ ?_ ?_ ?_ ?_ ?_ ?_
 ·intro g1 ih1 atV res hh
  exact O0.intro hC Tryz.func92 rfl rfl rfl (t' rfl (s' rfl rfl (F0.be hC rfl (D0.rows_map []).symm (F0.tokE 11 144 17 rfl (e' rfl (S' (bk' (fw' (ih1 _ _ _ hh) rfl rfl rfl))))))))
 ·intro g1 g2 ih1 ih2 atV1 out res hh
  obtain ⟨x1,hx1,hh⟩:=bs' hh
  refine W0.unroll (S' (p' 2 rfl (c' (K1c hx1) rfl rfl (n' (ci' rfl hh (fun hh=>?_) (fun hh=>?_))))))
  ·obtain ⟨x2,hx2,hh⟩:=bs' hh
   refine sk' (bk' (p' 2 rfl (c' (ih2 _ _ hx2) rfl rfl (o' 4 rfl (F0.nf hC rfl (F0.s hC rfl (e' rfl (S' (t' rfl (ci' rfl hh (fun hh=>?_) (fun hh=>?_)))))))))))
   ·refine t' rfl (re' ?_)
    obtain rfl:=oi' hh
    exact ⟨_,.tup [.d (.sl (D0.rows out)),.d (.int .i64 x2.2.1),.d (.bool false)],[],rfl,(.tupL ⟨.osl,.rfl,.rfl,trivial⟩),trivial,rfl,rfl,rfl,rfl⟩
   obtain ⟨c6,hh⟩:=I4 hh
   exact sk' (p' 2 rfl (F0.be hC rfl (D0.rows_map [x2.1]).symm (F0.ap hC rfl (rs:=D0.rows (out++[x2.1])) (D0.app out [x2.1]) (D0.sz out) (D0.sz [x2.1]) (P1 (D0.len out) (D0.len [x2.1]) c6) (e' rfl (T' rfl (lw' (ih1 _ _ _ hh) rfl rfl rfl))))))
  refine ex' (t' rfl (re' ?_))
  obtain rfl:=oi' hh
  exact ⟨_,.tup [.d (.sl (D0.rows out)),.d (.int .i64 atV1),.d (.bool true)],[],rfl,(.tupL ⟨.osl,.rfl,.rfl,trivial⟩),trivial,rfl,rfl,rfl,rfl⟩
 ·intro g3 g5 g6 ih3 ih5 ih6 atV res hh
  obtain ⟨x1,hx1,hh⟩:=bs' hh
  refine O0.intro hC Tryz.func148 rfl rfl rfl (s' rfl rfl (F0.nf hC rfl (e' rfl (p' 1 rfl (F0.nf hC rfl (F0.s hC rfl (n' (t' rfl (S' (bk' (p' 2 rfl (c' (V0 hx1) rfl rfl (e' rfl (ci' rfl hh (fun hh=>?_) (fun hh=>?_)))))))))))))))
  ·obtain ⟨x2,hx2,hh⟩:=bs' hh
   cases hh
   exact p' 3 rfl (c' (ih6 _ _ hx2) rfl rfl (o' 3 rfl (F0.s hC rfl (e' rfl (re' (rt' rfl rfl rfl))))))
  obtain ⟨x3,hx3,hh⟩:=bs' hh
  refine p' 2 rfl (c' (V0 hx3) rfl rfl (e' rfl (ci' rfl hh (fun hh=>?_) (fun hh=>?_))))
  ·obtain ⟨x4,hx4,hh⟩:=bs' hh
   cases hh
   exact p' 3 rfl (c' (ih5 _ _ hx4) rfl rfl (o' 3 rfl (F0.s hC rfl (e' rfl (re' (rt' rfl rfl rfl))))))
  obtain ⟨x5,hx5,hh⟩:=bs' hh
  refine p' 2 rfl (c' (V0 hx5) rfl rfl (e' rfl (ci' rfl hh (fun hh=>?_) (fun hh=>?_))))
  ·obtain ⟨x6,hx6,hh⟩:=bs' hh
   cases hh
   exact p' 3 rfl (c' (ih3 _ _ hx6) rfl rfl (o' 3 rfl (F0.s hC rfl (e' rfl (re' (rt' rfl rfl rfl))))))
  obtain ⟨x7,hx7,hh⟩:=bs' hh
  refine p' 2 rfl (c' (V0 hx7) rfl rfl (e' rfl (ci' rfl hh (fun hh=>?_) (fun hh=>?_))))
  ·obtain ⟨x8,hx8,hh⟩:=bs' hh
   exact p' 1 rfl (F0.s hC rfl (n' (P' 3 rfl (c' (E8 hx8) rfl rfl (o' 5 rfl (F0.s hC rfl (e' rfl (ew' (Ve hh) rfl rfl rfl))))))))
  obtain ⟨x10,hx10,hh⟩:=bs' hh
  refine p' 2 rfl (c' (V0 hx10) rfl rfl (e' rfl (ci' rfl hh (fun hh=>?_) (fun hh=>?_))))
  ·obtain ⟨x11,hx11,hh⟩:=bs' hh
   exact p' 1 rfl (F0.s hC rfl (n' (P' 3 rfl (c' (I7 hx11) rfl rfl (o' 5 rfl (F0.s hC rfl (e' rfl (ew' (Ve hh) rfl rfl rfl))))))))
  obtain ⟨x12,hx12,hh⟩:=bs' hh
  refine p' 2 rfl (c' (V0 hx12) rfl rfl (e' rfl (ci' rfl hh (fun hh=>?_) (fun hh=>?_))))
  ·obtain ⟨x13,hx13,hh⟩:=bs' hh
   exact p' 1 rfl (F0.s hC rfl (n' (P' 3 rfl (c' (U18 hx13) rfl rfl (o' 5 rfl (F0.s hC rfl (e' rfl (ew' (Ve hh) rfl rfl rfl))))))))
  obtain ⟨x14,hx14,hh⟩:=bs' hh
  exact P' 2 rfl (c' (D15 hx14) rfl rfl (o' 4 rfl (F0.s hC rfl (e' rfl (ew' (Ve hh) rfl rfl rfl)))))
 ·intro g4 ih4 atV res hh
  obtain ⟨x1,hx1,hh⟩:=bs' hh
  obtain ⟨x2,hx2,hh⟩:=bs' hh
  refine O0.intro hC Tryz.func184 rfl rfl rfl (s' rfl rfl (F0.nf hC rfl (e' rfl (p' 1 rfl (F0.nf hC rfl (F0.s hC rfl (n' (p' 2 rfl (c' (N9 hx1) rfl rfl (e' rfl (S' (sg' 8 rfl (G' 5 rfl ?_)))))))))))))
  refine AG.c rfl rfl (fun hg=>⟨hg,hg,trivial⟩) (fun hw=>V0 (E1 hw hx2)) (a1' rfl (po' rfl (an' (n' (ci' rfl hh (fun hh=>?_) (fun hh=>?_))))))
  ·cases hh
   exact p' 2 rfl (F0.s hC rfl (e' rfl (re' (rt' rfl rfl rfl))))
  obtain ⟨x3,hx3,hh⟩:=bs' hh
  obtain ⟨x4,hx4,hh⟩:=bs' hh
  refine sk' (p' 2 rfl (F0.s hC rfl (n' (p' 3 rfl (c' (I7 hx3) rfl rfl (o' 5 rfl (F0.s hC rfl (e' rfl (S' (sg' 8 rfl (G' 5 rfl (AG.c rfl rfl (fun hg=>⟨hg,hg,trivial⟩) (fun hw=>V0 (E1 hw hx4)) (a1' rfl ?_)))))))))))))
  refine po' rfl (an' (n' (ci' rfl hh (fun hh=>?_) (fun hh=>?_))))
  ·cases hh
   exact p' 2 rfl (F0.s hC rfl (e' rfl (re' (rt' rfl rfl rfl))))
  obtain ⟨x5,hx5,hh⟩:=bs' hh
  refine sk' (p' 3 rfl (c' (I7 hx5) rfl rfl (o' 5 rfl (F0.s hC rfl (e' rfl (S' (t' rfl (ci' rfl hh (fun hh=>?_) (fun hh=>?_)))))))))
  ·cases hh
   exact p' 2 rfl (F0.s hC rfl (e' rfl (re' (rt' rfl rfl rfl))))
  obtain ⟨x6,hx6,hh⟩:=bs' hh
  cases hh
  exact sk' (p' 2 rfl (c' (ih4 _ _ hx6) rfl rfl (o' 5 rfl (F0.s hC rfl (e' rfl (p' 3 rfl (F0.s hC rfl (e' rfl (re' (rt' rfl rfl rfl))))))))))
 ·intro g0 ih0 atV res hh
  obtain ⟨x1,hx1,hh⟩:=bs' hh
  refine O0.intro hC Tryz.func199 rfl rfl rfl (t' rfl (S' (p' 2 rfl (c' (V0 hx1) rfl rfl (e' rfl (ci' rfl hh (fun hh=>?_) (fun hh=>?_)))))))
  ·refine t' rfl (re' ?_)
   obtain rfl:=oi' hh
   exact ⟨_,.tup [.d (.sl (D0.rows [])),.d (.int .i64 atV),.d (.bool false)],[],rfl,(.tupL ⟨.full,.rfl,.rfl,trivial⟩),trivial,rfl,rfl,rfl,rfl⟩
  obtain ⟨x2,hx2,hh⟩:=bs' hh
  obtain ⟨x3,hx3,hh⟩:=bs' hh
  refine sk' (p' 3 rfl (c' (ih0 _ _ hx2) rfl rfl (e' rfl (S' (sg' 8 rfl (G' 5 rfl (AG.c rfl rfl (fun hg=>⟨hg,hg,trivial⟩) (fun hw=>V0 (E1 hw hx3)) (a1' rfl (po' rfl (an' (n' (ci' rfl hh (fun hh=>?_) (fun hh=>?_)))))))))))))
  ·cases hh
   exact t' rfl (re' (rt' rfl rfl rfl))
  cases hh
  exact sk' (t' rfl (re' (rt' rfl rfl rfl)))
 ·intro g4 ih4 atV res hh
  obtain ⟨x1,hx1,hh⟩:=bs' hh
  obtain ⟨x2,hx2,hh⟩:=bs' hh
  refine O0.intro hC Tryz.func183 rfl rfl rfl (s' rfl rfl (F0.nf hC rfl (e' rfl (p' 1 rfl (F0.nf hC rfl (F0.s hC rfl (n' (p' 2 rfl (c' (E8 hx1) rfl rfl (o' 4 rfl (F0.nf hC rfl (F0.s hC rfl (e' rfl ?_)))))))))))))
  refine S' (sg' 8 rfl (G' 5 rfl (AG.c rfl rfl (fun hg=>⟨hg,hg,trivial⟩) (fun hw=>V0 (E1 hw hx2)) (a1' rfl (po' rfl (an' (n' (ci' rfl hh (fun hh=>?_) (fun hh=>?_)))))))))
  ·cases hh
   exact p' 2 rfl (F0.s hC rfl (e' rfl (re' (rt' rfl rfl rfl))))
  obtain ⟨x3,hx3,hh⟩:=bs' hh
  refine sk' (p' 2 rfl (F0.s hC rfl (n' (p' 3 rfl (c' (I7 hx3) rfl rfl (o' 5 rfl (F0.s hC rfl (e' rfl (S' (t' rfl (ci' rfl hh (fun hh=>?_) (fun hh=>?_))))))))))))
  ·cases hh
   exact p' 2 rfl (F0.s hC rfl (e' rfl (re' (rt' rfl rfl rfl))))
  obtain ⟨x4,hx4,hh⟩:=bs' hh
  cases hh
  exact sk' (p' 2 rfl (c' (ih4 _ _ hx4) rfl rfl (o' 5 rfl (F0.s hC rfl (e' rfl (p' 3 rfl (F0.s hC rfl (e' rfl (re' (rt' rfl rfl rfl))))))))))
 ·intro g4 ih4 atV res hh
  obtain ⟨x1,hx1,hh⟩:=bs' hh
  refine O0.intro hC Tryz.func182 rfl rfl rfl (s' rfl rfl (F0.nf hC rfl (e' rfl (p' 1 rfl (F0.nf hC rfl (F0.s hC rfl (n' (p' 2 rfl (c' (E8 hx1) rfl rfl (o' 4 rfl (F0.nf hC rfl (F0.s hC rfl (e' rfl ?_)))))))))))))
  refine S' (t' rfl (ci' rfl hh (fun hh=>?_) (fun hh=>?_)))
  ·cases hh
   exact p' 2 rfl (F0.s hC rfl (e' rfl (re' (rt' rfl rfl rfl))))
  obtain ⟨x2,hx2,hh⟩:=bs' hh
  refine sk' (p' 2 rfl (F0.s hC rfl (n' (p' 2 rfl (c' (ih4 _ _ hx2) rfl rfl (o' 5 rfl (F0.s hC rfl (e' rfl (S' (t' rfl (ci' rfl hh (fun hh=>?_) (fun hh=>?_))))))))))))
  ·cases hh
   exact p' 2 rfl (F0.s hC rfl (e' rfl (re' (rt' rfl rfl rfl))))
  obtain ⟨x3,hx3,hh⟩:=bs' hh
  refine sk' (S' (p' 2 rfl (c' (V0 hx3) rfl rfl (n' (ci' rfl hh (fun hh=>?_) (fun hh=>?_))))))
  ·obtain ⟨x4,hx4,hh⟩:=bs' hh
   cases hh
   exact P' 3 rfl (c' (ih4 _ _ hx4) rfl rfl (o' 5 rfl (F0.s hC rfl (e' rfl (p' 3 rfl (F0.s hC rfl (e' rfl (re' (rt' rfl rfl rfl)))))))))
  cases hh
  exact sk' (p' 3 rfl (F0.s hC rfl (e' rfl (re' (rt' rfl rfl rfl)))))
theorem Wq {l atV res}(hh:K7 l atV=some res):Ut l atV res:=(X12 l).1 _ _ hh
def Ca (l:List K0)(x1:Str×Int×Bool)(x5:I0×Int×Bool)(o1_Params:List C0)(o1_Vars:List C0)(atV3:Int):Option (C0×Int×Bool):=
 Y0 l atV3 [118,97,114]>>=fun x9=>
 if x9=true then
  Fg l (IntKind.i64.wrap (atV3+1))>>=fun x10=>
  if (!x10.2.2)=true then
   some ((C0.mk 6 x1.1 x5.1 0 (A0.mk 0 0 [] []) o1_Params o1_Vars []),x10.2.1,false)
  else
   if (decide ((o1_Vars.length+1) * 257≤140737488355328))=true then
    Ca l x1 x5 o1_Params (o1_Vars++[x10.1]) x10.2.1
   else none
 else
  K7 l atV3>>=fun x11=>
  (if (!(!x11.2.2))=true then Y0 l x11.2.1 [114,101,116,117,114,110] else some default)>>=fun x12=>
  if (bif (!x11.2.2) then true else (!x12))=true then
   some ((C0.mk 6 x1.1 x5.1 0 (A0.mk 0 0 [] []) o1_Params o1_Vars x11.1),x11.2.1,false)
  else
   T2 l (IntKind.i64.wrap (x11.2.1+1))>>=fun x13=>
   if (!x13.2.2)=true then
    some ((C0.mk 6 x1.1 x5.1 0 x13.1 o1_Params o1_Vars x11.1),x13.2.1,false)
   else
    Fl l x13.2.1 [[59],[125]]>>=fun x14=>
    some ((C0.mk 6 x1.1 x5.1 0 x13.1 o1_Params o1_Vars x11.1),x14.1,x14.2)
 partial_fixpoint
abbrev Xq (l:List K0)(x1:Str×Int×Bool)(x5:I0×Int×Bool)(o1_Params:List C0)(o1_Vars:List C0)(atV3:Int)(res:C0×Int×Bool):Prop:=LM C 159 0 Tryz.f146 [1,1,1,1,1,1,1,1,1,1,1,0,4] [(0,.d (.sl (K0.rows l))),(1,.d (.int .i64 atV3)),(4,.ref 0 0),(9,.ref 1 0)] [.row [.d (.int .i64 0),.d (.str []),.d (.int .i64 0),.d (.int .i64 0),.d (.int .i64 0),.d (.int .i64 0),.d (.str []),.full (estr.rows []),.full (I0.rows []),.d (.int .i64 0),.d (.int .i64 0),.d (.int .i64 0),.d (.str []),.full (A0.rows []),.full (C0.rows []),.full (C0.rows []),.full (D0.rows [])] 128,.row [.d (.int .i64 6),.d (.str x1.1),.d (.int .i64 x5.1.Kind),.d (.int .i64 x5.1.Low),.d (.int .i64 x5.1.High),.d (.int .i64 x5.1.Size),.d (.str x5.1.Name),.d (.sl (estr.rows x5.1.Names)),.d (.sl (I0.rows x5.1.Of)),.d (.int .i64 0),.d (.int .i64 0),.d (.int .i64 0),.d (.str []),.full (A0.rows []),.osl 2 (C0.rows o1_Params),.osl 3 (C0.rows o1_Vars),.full (D0.rows [])] 128,.tok 128 17,.tok 128 17] (Ret [] (.tup [.agg (C0.cells res.1),.d (.int .i64 res.2.1),.d (.bool res.2.2)]))
theorem C11 (l:List K0)(x1:Str×Int×Bool)(x5:I0×Int×Bool)(o1_Params:List C0):(∀ o1_Vars atV3 res,Ca l x1 x5 o1_Params o1_Vars atV3=some res→Xq l x1 x5 o1_Params o1_Vars atV3 res):=by
 refine Ca.partial_correctness l x1 x5 o1_Params _ ?_
 ·intro g0 ih0 o1_Vars atV3 res hh
  obtain ⟨x9,hx9,hh⟩:=bs' hh
  refine W0.unroll (S' (p' 2 rfl (c' (V0 hx9) rfl rfl (n' (ci' rfl hh (fun hh=>?_) (fun hh=>?_))))))
  ·obtain ⟨x10,hx10,hh⟩:=bs' hh
   refine sk' (bk' (p' 3 rfl (c' (Iv hx10) rfl rfl (o' 4 rfl (F0.nf hC rfl (F0.s hC rfl (e' rfl (S' (t' rfl (ci' rfl hh (fun hh=>?_) (fun hh=>?_)))))))))))
   ·refine p' 2 rfl (F0.s hC rfl (e' rfl (re' ?_)))
    obtain rfl:=oi' hh
    exact ⟨_,.tup [.agg [.d (.int .i64 6),.d (.str x1.1),.d (.int .i64 x5.1.Kind),.d (.int .i64 x5.1.Low),.d (.int .i64 x5.1.High),.d (.int .i64 x5.1.Size),.d (.str x5.1.Name),.d (.sl (estr.rows x5.1.Names)),.d (.sl (I0.rows x5.1.Of)),.d (.int .i64 0),.d (.int .i64 0),.d (.int .i64 0),.d (.str []),.d (.sl (A0.rows [])),.d (.sl (C0.rows o1_Params)),.d (.sl (C0.rows o1_Vars)),.d (.sl (D0.rows []))],.d (.int .i64 x10.2.1),.d (.bool false)],[],rfl,(.tupL ⟨(.aggL ⟨.rfl,.rfl,.rfl,.rfl,.rfl,.rfl,.rfl,.rfl,.rfl,.rfl,.rfl,.rfl,.rfl,.full,.osl,.osl,.full,trivial⟩),.rfl,.rfl,trivial⟩),trivial,rfl,rfl,rfl,rfl⟩
   obtain ⟨c18,hh⟩:=I4 hh
   exact sk' (p' 3 rfl (F0.be hC rfl (C0.rows_map [x10.1]).symm (F0.ap hC rfl (rs:=C0.rows (o1_Vars++[x10.1])) (C0.app o1_Vars [x10.1]) (C0.sz o1_Vars) (C0.sz [x10.1]) (P1 (C0.len o1_Vars) (C0.len [x10.1]) c18) (q' rfl (F0.s hC rfl (n' (T' rfl (lw' (ih0 _ _ _ hh) rfl rfl rfl))))))))
  obtain ⟨x11,hx11,hh⟩:=bs' hh
  obtain ⟨x12,hx12,hh⟩:=bs' hh
  refine ex' (p' 2 rfl (c' (Wq hx11) rfl rfl (o' 5 rfl (F0.s hC rfl (e' rfl (S' (sg' 8 rfl (G' 5 rfl (AG.c rfl rfl (fun hg=>⟨hg,hg,trivial⟩) (fun hw=>V0 (E1 hw hx12)) (a1' rfl (po' rfl (an' (n' (ci' rfl hh (fun hh=>?_) (fun hh=>?_)))))))))))))))
  ·refine p' 2 rfl (F0.s hC rfl (e' rfl (re' ?_)))
   obtain rfl:=oi' hh
   exact ⟨_,.tup [.agg [.d (.int .i64 6),.d (.str x1.1),.d (.int .i64 x5.1.Kind),.d (.int .i64 x5.1.Low),.d (.int .i64 x5.1.High),.d (.int .i64 x5.1.Size),.d (.str x5.1.Name),.d (.sl (estr.rows x5.1.Names)),.d (.sl (I0.rows x5.1.Of)),.d (.int .i64 0),.d (.int .i64 0),.d (.int .i64 0),.d (.str []),.d (.sl (A0.rows [])),.d (.sl (C0.rows o1_Params)),.d (.sl (C0.rows o1_Vars)),.d (.sl (D0.rows x11.1))],.d (.int .i64 x11.2.1),.d (.bool false)],[],rfl,(.tupL ⟨(.aggL ⟨.rfl,.rfl,.rfl,.rfl,.rfl,.rfl,.rfl,.rfl,.rfl,.rfl,.rfl,.rfl,.rfl,.full,.osl,.osl,.rfl,trivial⟩),.rfl,.rfl,trivial⟩),trivial,rfl,rfl,rfl,rfl⟩
  obtain ⟨x13,hx13,hh⟩:=bs' hh
  refine sk' (p' 3 rfl (c' (E8 hx13) rfl rfl (o' 5 rfl (F0.s hC rfl (e' rfl (S' (t' rfl (ci' rfl hh (fun hh=>?_) (fun hh=>?_)))))))))
  ·refine p' 2 rfl (F0.s hC rfl (e' rfl (re' ?_)))
   obtain rfl:=oi' hh
   exact ⟨_,.tup [.agg [.d (.int .i64 6),.d (.str x1.1),.d (.int .i64 x5.1.Kind),.d (.int .i64 x5.1.Low),.d (.int .i64 x5.1.High),.d (.int .i64 x5.1.Size),.d (.str x5.1.Name),.d (.sl (estr.rows x5.1.Names)),.d (.sl (I0.rows x5.1.Of)),.d (.int .i64 0),.d (.int .i64 x13.1.Op),.d (.int .i64 x13.1.NV),.d (.str x13.1.Name),.d (.sl (A0.rows x13.1.Kids)),.d (.sl (C0.rows o1_Params)),.d (.sl (C0.rows o1_Vars)),.d (.sl (D0.rows x11.1))],.d (.int .i64 x13.2.1),.d (.bool false)],[],rfl,(.tupL ⟨(.aggL ⟨.rfl,.rfl,.rfl,.rfl,.rfl,.rfl,.rfl,.rfl,.rfl,.rfl,.rfl,.rfl,.rfl,.rfl,.osl,.osl,.rfl,trivial⟩),.rfl,.rfl,trivial⟩),trivial,rfl,rfl,rfl,rfl⟩
  obtain ⟨x14,hx14,hh⟩:=bs' hh
  refine sk' (p' 2 rfl (F0.be hC rfl (estr.rows_map [[59],[125]]).symm (F0.cl rfl (Y10 hx14) ⟨.rfl,.rfl,.full,trivial⟩ rfl (e' rfl (p' 3 rfl (F0.s hC rfl (e' rfl (re' ?_))))))))
  obtain rfl:=oi' hh
  exact ⟨_,.tup [.agg [.d (.int .i64 6),.d (.str x1.1),.d (.int .i64 x5.1.Kind),.d (.int .i64 x5.1.Low),.d (.int .i64 x5.1.High),.d (.int .i64 x5.1.Size),.d (.str x5.1.Name),.d (.sl (estr.rows x5.1.Names)),.d (.sl (I0.rows x5.1.Of)),.d (.int .i64 0),.d (.int .i64 x13.1.Op),.d (.int .i64 x13.1.NV),.d (.str x13.1.Name),.d (.sl (A0.rows x13.1.Kids)),.d (.sl (C0.rows o1_Params)),.d (.sl (C0.rows o1_Vars)),.d (.sl (D0.rows x11.1))],.d (.int .i64 x14.1),.d (.bool x14.2)],[],rfl,(.tupL ⟨(.aggL ⟨.rfl,.rfl,.rfl,.rfl,.rfl,.rfl,.rfl,.rfl,.rfl,.rfl,.rfl,.rfl,.rfl,.rfl,.osl,.osl,.rfl,trivial⟩),.rfl,.rfl,trivial⟩),trivial,rfl,rfl,rfl,rfl⟩
theorem Y12 {l x1 x5 o1_Params o1_Vars atV3 res}(hh:Ca l x1 x5 o1_Params o1_Vars atV3=some res):Xq l x1 x5 o1_Params o1_Vars atV3 res:=(C11 l x1 x5 o1_Params) _ _ _ hh
end Go.Proofs.YtmnhfbekncjnfaaGreatDoor

set_option maxRecDepth 100000
set_option maxHeartbeats 4000000
set_option synthInstance.maxSize 20000
set_option linter.unusedVariables false
namespace Go.Proofs.YtmnhfbekncjnfaaGreatDoor
open Go.Am
def Da (l:List K0)(x1:Str×Int×Bool)(o1_Params:List C0)(atV1:Int):Option (C0×Int×Bool):=
 Fl l atV1 [[41],[58]]>>=fun x4=>
 if (!x4.2)=true then
  some ((C0.mk 6 x1.1 (I0.mk 0 0 0 0 [] [] []) 0 (A0.mk 0 0 [] []) o1_Params [] []),x4.1,false)
 else
  Bg l x4.1>>=fun x5=>
  (if (!(!x5.2.2))=true then Y0 l x5.2.1 [123] else some default)>>=fun x6=>
  if (bif (!x5.2.2) then true else (!x6))=true then
   some ((C0.mk 6 x1.1 x5.1 0 (A0.mk 0 0 [] []) o1_Params [] []),x5.2.1,false)
  else
   Ca l x1 x5 o1_Params [] (IntKind.i64.wrap (x5.2.1+1))
theorem Vp {l x1 o1_Params atV1 res}(hh:Da l x1 o1_Params atV1=some res):JM C 159 0 Tryz.f146 [1,1,1,1,1,1] [(0,.d (.sl (K0.rows l))),(1,.d (.int .i64 atV1)),(4,.ref 0 0),(9,.ref 1 0)] [.row [.d (.int .i64 0),.d (.str []),.d (.int .i64 0),.d (.int .i64 0),.d (.int .i64 0),.d (.int .i64 0),.d (.str []),.full (estr.rows []),.full (I0.rows []),.d (.int .i64 0),.d (.int .i64 0),.d (.int .i64 0),.d (.str []),.full (A0.rows []),.full (C0.rows []),.full (C0.rows []),.full (D0.rows [])] 128,.row [.d (.int .i64 6),.d (.str x1.1),.d (.int .i64 0),.d (.int .i64 0),.d (.int .i64 0),.d (.int .i64 0),.d (.str []),.full (estr.rows []),.full (I0.rows []),.d (.int .i64 0),.d (.int .i64 0),.d (.int .i64 0),.d (.str []),.full (A0.rows []),.osl 2 (C0.rows o1_Params),.osl 3 (C0.rows []),.full (D0.rows [])] 128,.tok 128 17,.tok 128 17] (Ret [] (.tup [.agg (C0.cells res.1),.d (.int .i64 res.2.1),.d (.bool res.2.2)])):=by
 unfold Da at hh
 obtain ⟨x4,hx4,hh⟩:=bs' hh
 refine p' 2 rfl (F0.be hC rfl (estr.rows_map [[41],[58]]).symm (F0.cl rfl (Y10 hx4) ⟨.rfl,.rfl,.full,trivial⟩ rfl (e' rfl (S' (t' rfl (ci' rfl hh (fun hh=>?_) (fun hh=>?_)))))))
 ·refine p' 2 rfl (F0.s hC rfl (e' rfl (re' ?_)))
  obtain rfl:=oi' hh
  exact ⟨_,.tup [.agg [.d (.int .i64 6),.d (.str x1.1),.d (.int .i64 0),.d (.int .i64 0),.d (.int .i64 0),.d (.int .i64 0),.d (.str []),.d (.sl (estr.rows [])),.d (.sl (I0.rows [])),.d (.int .i64 0),.d (.int .i64 0),.d (.int .i64 0),.d (.str []),.d (.sl (A0.rows [])),.d (.sl (C0.rows o1_Params)),.d (.sl (C0.rows [])),.d (.sl (D0.rows []))],.d (.int .i64 x4.1),.d (.bool false)],[],rfl,(.tupL ⟨(.aggL ⟨.rfl,.rfl,.rfl,.rfl,.rfl,.rfl,.rfl,.full,.full,.rfl,.rfl,.rfl,.rfl,.full,.osl,.osl,.full,trivial⟩),.rfl,.rfl,trivial⟩),trivial,rfl,rfl,rfl,rfl⟩
 obtain ⟨x5,hx5,hh⟩:=bs' hh
 obtain ⟨x6,hx6,hh⟩:=bs' hh
 refine sk' (p' 2 rfl (c' (X16 hx5) rfl rfl (o' 5 rfl (F0.s hC rfl (e' rfl (S' (sg' 8 rfl (G' 5 rfl (AG.c rfl rfl (fun hg=>⟨hg,hg,trivial⟩) (fun hw=>V0 (E1 hw hx6)) (a1' rfl (po' rfl (an' (n' (ci' rfl hh (fun hh=>?_) (fun hh=>?_)))))))))))))))
 ·refine p' 2 rfl (F0.s hC rfl (e' rfl (re' ?_)))
  obtain rfl:=oi' hh
  exact ⟨_,.tup [.agg [.d (.int .i64 6),.d (.str x1.1),.d (.int .i64 x5.1.Kind),.d (.int .i64 x5.1.Low),.d (.int .i64 x5.1.High),.d (.int .i64 x5.1.Size),.d (.str x5.1.Name),.d (.sl (estr.rows x5.1.Names)),.d (.sl (I0.rows x5.1.Of)),.d (.int .i64 0),.d (.int .i64 0),.d (.int .i64 0),.d (.str []),.d (.sl (A0.rows [])),.d (.sl (C0.rows o1_Params)),.d (.sl (C0.rows [])),.d (.sl (D0.rows []))],.d (.int .i64 x5.2.1),.d (.bool false)],[],rfl,(.tupL ⟨(.aggL ⟨.rfl,.rfl,.rfl,.rfl,.rfl,.rfl,.rfl,.rfl,.rfl,.rfl,.rfl,.rfl,.rfl,.full,.osl,.osl,.full,trivial⟩),.rfl,.rfl,trivial⟩),trivial,rfl,rfl,rfl,rfl⟩
 exact sk' (t' rfl (S' (bk' (fw' (Y12 hh) rfl rfl rfl))))
def M6 (l:List K0)(x1:Str×Int×Bool)(o1_Params1:List C0)(atV2:Int):Option (C0×Int×Bool):=
 V6 l atV2>>=fun x7=>
 if (!x7.2.2)=true then
  some ((C0.mk 6 x1.1 (I0.mk 0 0 0 0 [] [] []) 0 (A0.mk 0 0 [] []) o1_Params1 [] []),x7.2.1,false)
 else
  if (decide ((o1_Params1.length+1) * 257≤140737488355328))=true then
   Y0 l x7.2.1 [44]>>=fun x8=>
   if (!x8)=true then
    Da l x1 (o1_Params1++[x7.1]) x7.2.1
   else
    M6 l x1 (o1_Params1++[x7.1]) (IntKind.i64.wrap (x7.2.1+1))
  else none
 partial_fixpoint
abbrev Yq (l:List K0)(x1:Str×Int×Bool)(o1_Params1:List C0)(atV2:Int)(res:C0×Int×Bool):Prop:=LM C 159 0 Tryz.f146 [1,1,1,1,1,0,1,2,4] [(0,.d (.sl (K0.rows l))),(1,.d (.int .i64 atV2)),(4,.ref 0 0),(9,.ref 1 0)] [.row [.d (.int .i64 0),.d (.str []),.d (.int .i64 0),.d (.int .i64 0),.d (.int .i64 0),.d (.int .i64 0),.d (.str []),.full (estr.rows []),.full (I0.rows []),.d (.int .i64 0),.d (.int .i64 0),.d (.int .i64 0),.d (.str []),.full (A0.rows []),.full (C0.rows []),.full (C0.rows []),.full (D0.rows [])] 128,.row [.d (.int .i64 6),.d (.str x1.1),.d (.int .i64 0),.d (.int .i64 0),.d (.int .i64 0),.d (.int .i64 0),.d (.str []),.full (estr.rows []),.full (I0.rows []),.d (.int .i64 0),.d (.int .i64 0),.d (.int .i64 0),.d (.str []),.full (A0.rows []),.osl 2 (C0.rows o1_Params1),.osl 3 (C0.rows []),.full (D0.rows [])] 128,.tok 128 17,.tok 128 17] (Ret [] (.tup [.agg (C0.cells res.1),.d (.int .i64 res.2.1),.d (.bool res.2.2)]))
theorem D11 (l:List K0)(x1:Str×Int×Bool):(∀ o1_Params1 atV2 res,M6 l x1 o1_Params1 atV2=some res→Yq l x1 o1_Params1 atV2 res):=by
 refine M6.partial_correctness l x1 _ ?_
 ·intro g0 ih0 o1_Params1 atV2 res hh
  obtain ⟨x7,hx7,hh⟩:=bs' hh
  refine W0.unroll (bk' (p' 2 rfl (c' (Nr hx7) rfl rfl (o' 4 rfl (F0.nf hC rfl (F0.s hC rfl (e' rfl (S' (t' rfl (ci' rfl hh (fun hh=>?_) (fun hh=>?_)))))))))))
  ·refine p' 2 rfl (F0.s hC rfl (e' rfl (re' ?_)))
   obtain rfl:=oi' hh
   exact ⟨_,.tup [.agg [.d (.int .i64 6),.d (.str x1.1),.d (.int .i64 0),.d (.int .i64 0),.d (.int .i64 0),.d (.int .i64 0),.d (.str []),.d (.sl (estr.rows [])),.d (.sl (I0.rows [])),.d (.int .i64 0),.d (.int .i64 0),.d (.int .i64 0),.d (.str []),.d (.sl (A0.rows [])),.d (.sl (C0.rows o1_Params1)),.d (.sl (C0.rows [])),.d (.sl (D0.rows []))],.d (.int .i64 x7.2.1),.d (.bool false)],[],rfl,(.tupL ⟨(.aggL ⟨.rfl,.rfl,.rfl,.rfl,.rfl,.rfl,.rfl,.full,.full,.rfl,.rfl,.rfl,.rfl,.full,.osl,.osl,.full,trivial⟩),.rfl,.rfl,trivial⟩),trivial,rfl,rfl,rfl,rfl⟩
  obtain ⟨c17,hh⟩:=I4 hh
  obtain ⟨x8,hx8,hh⟩:=bs' hh
  refine sk' (p' 3 rfl (F0.be hC rfl (C0.rows_map [x7.1]).symm (F0.ap hC rfl (rs:=C0.rows (o1_Params1++[x7.1])) (C0.app o1_Params1 [x7.1]) (C0.sz o1_Params1) (C0.sz [x7.1]) (P1 (C0.len o1_Params1) (C0.len [x7.1]) c17) (q' rfl (F0.s hC rfl (n' (t' rfl (S' (p' 2 rfl (c' (V0 hx8) rfl rfl (e' rfl (ci' rfl hh (fun hh=>?_) (fun hh=>?_)))))))))))))
  ·exact ex' (ew' (Vp hh) rfl rfl rfl)
  exact sk' (T' rfl (lw' (ih0 _ _ _ hh) rfl rfl rfl))
theorem Z12 {l x1 o1_Params1 atV2 res}(hh:M6 l x1 o1_Params1 atV2=some res):Yq l x1 o1_Params1 atV2 res:=(D11 l x1) _ _ _ hh
def Dj (l:List K0)(atV:Int):Option (C0×Int×Bool):=
 I8 l atV>>=fun x1=>
 (if (!(!x1.2.2))=true then Y0 l x1.2.1 [40] else some default)>>=fun x2=>
 if (bif (!x1.2.2) then true else (!x2))=true then
  some ((C0.mk 6 x1.1 (I0.mk 0 0 0 0 [] [] []) 0 (A0.mk 0 0 [] []) [] [] []),x1.2.1,false)
 else
  Y0 l (IntKind.i64.wrap (x1.2.1+1)) [41]>>=fun x3=>
  if (!x3)=true then
   M6 l x1 [] (IntKind.i64.wrap (x1.2.1+1))
  else
   Da l x1 [] (IntKind.i64.wrap (x1.2.1+1))
theorem W18 {l atV res}(hh:Dj l atV=some res):O0 C 146 [.d (.sl (K0.rows l)),.d (.int .i64 atV)] [] (Ret [] (.tup [.agg (C0.cells res.1),.d (.int .i64 res.2.1),.d (.bool res.2.2)])):=by
 unfold Dj at hh
 obtain ⟨x1,hx1,hh⟩:=bs' hh
 obtain ⟨x2,hx2,hh⟩:=bs' hh
 refine O0.intro hC Tryz.func146 rfl rfl rfl (s' rfl rfl (F0.nf hC rfl (e' rfl (p' 2 rfl (c' (N9 hx1) rfl rfl (e' rfl (p' 1 rfl (F0.bz hC rfl (F0.nf hC rfl (F0.s hC rfl (F0.tokC 1 14 128 17 rfl rfl rfl rfl rfl (F0.tokC 1 15 128 17 rfl rfl rfl rfl rfl (n' ?_)))))))))))))
 refine S' (sg' 8 rfl (G' 5 rfl (AG.c rfl rfl (fun hg=>⟨hg,hg,trivial⟩) (fun hw=>V0 (E1 hw hx2)) (a1' rfl (po' rfl (an' (n' (ci' rfl hh (fun hh=>?_) (fun hh=>?_)))))))))
 ·refine p' 2 rfl (F0.s hC rfl (e' rfl (re' ?_)))
  obtain rfl:=oi' hh
  exact ⟨_,.tup [.agg [.d (.int .i64 6),.d (.str x1.1),.d (.int .i64 0),.d (.int .i64 0),.d (.int .i64 0),.d (.int .i64 0),.d (.str []),.d (.sl (estr.rows [])),.d (.sl (I0.rows [])),.d (.int .i64 0),.d (.int .i64 0),.d (.int .i64 0),.d (.str []),.d (.sl (A0.rows [])),.d (.sl (C0.rows [])),.d (.sl (C0.rows [])),.d (.sl (D0.rows []))],.d (.int .i64 x1.2.1),.d (.bool false)],[],rfl,(.tupL ⟨(.aggL ⟨.rfl,.rfl,.rfl,.rfl,.rfl,.rfl,.rfl,.full,.full,.rfl,.rfl,.rfl,.rfl,.full,.osl,.osl,.full,trivial⟩),.rfl,.rfl,trivial⟩),trivial,rfl,rfl,rfl,rfl⟩
 obtain ⟨x3,hx3,hh⟩:=bs' hh
 refine sk' (t' rfl (S' (p' 2 rfl (c' (V0 hx3) rfl rfl (e' rfl (ci' rfl hh (fun hh=>?_) (fun hh=>?_)))))))
 ·exact bk' (fw' (Z12 hh) rfl rfl rfl)
 exact sk' (ew' (Vp hh) rfl rfl rfl)
def Z5 (l:List K0)(o1_Kind:Int)(x11:C0×Int×Bool)(o1_Value:A0)(atV1:Int):Option (C0×Int×Bool):=
 Y0 l atV1 [59]>>=fun x12=>
 if (!x12)=true then
  some ((C0.mk o1_Kind x11.1.Name x11.1.TypeV x11.1.Init o1_Value x11.1.Params x11.1.Vars x11.1.Body),atV1,false)
 else
  some ((C0.mk o1_Kind x11.1.Name x11.1.TypeV x11.1.Init o1_Value x11.1.Params x11.1.Vars x11.1.Body),(IntKind.i64.wrap (atV1+1)),true)
theorem Id {l o1_Kind x11 o1_Value atV1 res}(hh:Z5 l o1_Kind x11 o1_Value atV1=some res):JM C 134 0 Tryz.f91 [1,1,1,1,1,1,1,1] [(0,.d (.sl (K0.rows l))),(1,.d (.int .i64 atV1)),(4,.ref 0 0),(12,.ref 1 0)] [.row [.d (.int .i64 0),.d (.str []),.d (.int .i64 0),.d (.int .i64 0),.d (.int .i64 0),.d (.int .i64 0),.d (.str []),.full (estr.rows []),.full (I0.rows []),.d (.int .i64 0),.d (.int .i64 0),.d (.int .i64 0),.d (.str []),.full (A0.rows []),.full (C0.rows []),.full (C0.rows []),.full (D0.rows [])] 128,.row [.d (.int .i64 o1_Kind),.d (.str x11.1.Name),.d (.int .i64 x11.1.TypeV.Kind),.d (.int .i64 x11.1.TypeV.Low),.d (.int .i64 x11.1.TypeV.High),.d (.int .i64 x11.1.TypeV.Size),.d (.str x11.1.TypeV.Name),.d (.sl (estr.rows x11.1.TypeV.Names)),.d (.sl (I0.rows x11.1.TypeV.Of)),.d (.int .i64 x11.1.Init),.d (.int .i64 o1_Value.Op),.d (.int .i64 o1_Value.NV),.d (.str o1_Value.Name),.d (.sl (A0.rows o1_Value.Kids)),.d (.sl (C0.rows x11.1.Params)),.d (.sl (C0.rows x11.1.Vars)),.d (.sl (D0.rows x11.1.Body))] 128] (Ret [] (.tup [.agg (C0.cells res.1),.d (.int .i64 res.2.1),.d (.bool res.2.2)])):=by
 unfold Z5 at hh
 obtain ⟨x12,hx12,hh⟩:=bs' hh
 refine S' (p' 2 rfl (c' (V0 hx12) rfl rfl (e' rfl (ci' rfl hh (fun hh=>?_) (fun hh=>?_)))))
 ·cases hh
  exact p' 2 rfl (F0.s hC rfl (e' rfl (re' (rt' rfl rfl rfl))))
 cases hh
 exact sk' (p' 3 rfl (F0.s hC rfl (e' rfl (re' (rt' rfl rfl rfl)))))
def Df (l:List K0)(atV:Int):Option (C0×Int×Bool):=
 Y0 l atV [118,97,114]>>=fun x1=>
 if x1=true then
  Fg l (IntKind.i64.wrap (atV+1))>>=fun x2=>
  some (x2.1,x2.2.1,x2.2.2)
 else
  Y0 l atV [102,117,110,99]>>=fun x3=>
  if x3=true then
   Dj l (IntKind.i64.wrap (atV+1))>>=fun x4=>
   some (x4.1,x4.2.1,x4.2.2)
  else
   Y0 l atV [116,121,112,101]>>=fun x5=>
   if x5=true then
    I8 l (IntKind.i64.wrap (atV+1))>>=fun x6=>
    (if (!(!x6.2.2))=true then Y0 l x6.2.1 [61] else some default)>>=fun x7=>
    if (bif (!x6.2.2) then true else (!x7))=true then
     some ((C0.mk 0 [] (I0.mk 0 0 0 0 [] [] []) 0 (A0.mk 0 0 [] []) [] [] []),x6.2.1,false)
    else
     Bg l (IntKind.i64.wrap (x6.2.1+1))>>=fun x8=>
     (if (!(!x8.2.2))=true then Y0 l x8.2.1 [59] else some default)>>=fun x9=>
     if (bif (!x8.2.2) then true else (!x9))=true then
      some ((C0.mk 0 [] (I0.mk 0 0 0 0 [] [] []) 0 (A0.mk 0 0 [] []) [] [] []),x8.2.1,false)
     else
      some ((C0.mk 0 x6.1 x8.1 0 (A0.mk 0 0 [] []) [] [] []),(IntKind.i64.wrap (x8.2.1+1)),true)
   else
    idx l atV>>=fun x10=>
    V6 l (IntKind.i64.wrap (atV+1))>>=fun x11=>
    if (!x11.2.2)=true then
     some (x11.1,x11.2.1,false)
    else
     if (x10.Text == [115,101,99,114,101,116])=true then
      Z5 l 1 x11 x11.1.Value x11.2.1
     else
      if (x10.Text == [112,117,98,108,105,99])=true then
       Z5 l 2 x11 x11.1.Value x11.2.1
      else
       if (x10.Text == [114,97,110,100,111,109])=true then
        Z5 l 3 x11 x11.1.Value x11.2.1
       else
        Y0 l x11.2.1 [61]>>=fun x13=>
        if (!x13)=true then
         some ((C0.mk 5 x11.1.Name x11.1.TypeV x11.1.Init x11.1.Value x11.1.Params x11.1.Vars x11.1.Body),x11.2.1,false)
        else
         T2 l (IntKind.i64.wrap (x11.2.1+1))>>=fun x14=>
         if (!x14.2.2)=true then
          some ((C0.mk 5 x11.1.Name x11.1.TypeV x11.1.Init x14.1 x11.1.Params x11.1.Vars x11.1.Body),x14.2.1,false)
         else
          Z5 l 5 x11 x14.1 x14.2.1
theorem A13 {l atV res}(hh:Df l atV=some res):O0 C 91 [.d (.sl (K0.rows l)),.d (.int .i64 atV)] [] (Ret [] (.tup [.agg (C0.cells res.1),.d (.int .i64 res.2.1),.d (.bool res.2.2)])):=by
 unfold Df at hh
 obtain ⟨x1,hx1,hh⟩:=bs' hh
 refine O0.intro hC Tryz.func91 rfl rfl rfl (s' rfl rfl (F0.nf hC rfl (e' rfl (S' (p' 2 rfl (c' (V0 hx1) rfl rfl (n' (ci' rfl hh (fun hh=>?_) (fun hh=>?_)))))))))
 ·obtain ⟨x2,hx2,hh⟩:=bs' hh
  cases hh
  exact p' 3 rfl (c' (Iv hx2) rfl rfl (o' 3 rfl (F0.s hC rfl (e' rfl (re' (rt' rfl rfl rfl))))))
 obtain ⟨x3,hx3,hh⟩:=bs' hh
 refine sk' (S' (p' 2 rfl (c' (V0 hx3) rfl rfl (n' (ci' rfl hh (fun hh=>?_) (fun hh=>?_))))))
 ·obtain ⟨x4,hx4,hh⟩:=bs' hh
  cases hh
  exact p' 3 rfl (c' (W18 hx4) rfl rfl (o' 3 rfl (F0.s hC rfl (e' rfl (re' (rt' rfl rfl rfl))))))
 obtain ⟨x5,hx5,hh⟩:=bs' hh
 refine sk' (S' (p' 2 rfl (c' (V0 hx5) rfl rfl (n' (ci' rfl hh (fun hh=>?_) (fun hh=>?_))))))
 ·obtain ⟨x6,hx6,hh⟩:=bs' hh
  obtain ⟨x7,hx7,hh⟩:=bs' hh
  refine p' 3 rfl (c' (N9 hx6) rfl rfl (e' rfl (S' (sg' 8 rfl (G' 5 rfl (AG.c rfl rfl (fun hg=>⟨hg,hg,trivial⟩) (fun hw=>V0 (E1 hw hx7)) (a1' rfl (po' rfl (an' (n' (ci' rfl hh (fun hh=>?_) (fun hh=>?_))))))))))))
  ·cases hh
   exact p' 2 rfl (F0.s hC rfl (e' rfl (re' (rt' rfl rfl rfl))))
  obtain ⟨x8,hx8,hh⟩:=bs' hh
  obtain ⟨x9,hx9,hh⟩:=bs' hh
  refine sk' (p' 3 rfl (c' (X16 hx8) rfl rfl (o' 4 rfl (F0.nf hC rfl (F0.s hC rfl (e' rfl (S' (sg' 8 rfl (G' 5 rfl (AG.c rfl rfl (fun hg=>⟨hg,hg,trivial⟩) (fun hw=>V0 (E1 hw hx9)) (a1' rfl (po' rfl (an' ?_)))))))))))))
  refine n' (ci' rfl hh (fun hh=>?_) (fun hh=>?_))
  ·cases hh
   exact p' 2 rfl (F0.s hC rfl (e' rfl (re' (rt' rfl rfl rfl))))
  cases hh
  exact sk' (p' 5 rfl (F0.s hC rfl (e' rfl (re' (rt' rfl rfl rfl)))))
 obtain ⟨x10,hx10,hh⟩:=bs' hh
 obtain ⟨x11,hx11,hh⟩:=bs' hh
 refine sk' (p' 2 rfl (i' rfl (C1 hx10) (K0.idx hx10) rfl (e' rfl (p' 3 rfl (c' (Nr hx11) rfl rfl (o' 4 rfl (F0.nf hC rfl (F0.s hC rfl (e' rfl (S' (t' rfl (ci' rfl hh (fun hh=>?_) (fun hh=>?_)))))))))))))
 ·cases hh
  exact p' 2 rfl (F0.s hC rfl (e' rfl (re' (rt' rfl rfl rfl))))
 refine sk' (S' (t' rfl (bk' (t' rfl (ci' rfl hh (fun hh=>?_) (fun hh=>?_))))))
 ·exact P' 1 rfl (F0.s hC rfl (n' (ew' (Id hh) rfl rfl rfl)))
 refine t' rfl (ci' rfl hh (fun hh=>?_) (fun hh=>?_))
 ·exact P' 1 rfl (F0.s hC rfl (n' (ew' (Id hh) rfl rfl rfl)))
 refine t' rfl (ci' rfl hh (fun hh=>?_) (fun hh=>?_))
 ·exact P' 1 rfl (F0.s hC rfl (n' (ew' (Id hh) rfl rfl rfl)))
 obtain ⟨x13,hx13,hh⟩:=bs' hh
 refine p' 1 rfl (F0.s hC rfl (n' (S' (p' 2 rfl (c' (V0 hx13) rfl rfl (e' rfl (ci' rfl hh (fun hh=>?_) (fun hh=>?_))))))))
 ·cases hh
  exact p' 2 rfl (F0.s hC rfl (e' rfl (re' (rt' rfl rfl rfl))))
 obtain ⟨x14,hx14,hh⟩:=bs' hh
 refine sk' (p' 3 rfl (c' (E8 hx14) rfl rfl (o' 5 rfl (F0.s hC rfl (e' rfl (t' rfl (ci' rfl hh (fun hh=>?_) (fun hh=>?_))))))))
 ·cases hh
  exact p' 2 rfl (F0.s hC rfl (e' rfl (re' (rt' rfl rfl rfl))))
 exact sk' (ew' (Id hh) rfl rfl rfl)
def Nb (l:List K0)(o1_Decls:List C0)(atV1:Int):Option (A1×Int×Bool):=
 Cj l atV1>>=fun x1=>
 if x1=true then
  Df l atV1>>=fun x2=>
  if (!x2.2.2)=true then
   some ((A1.mk o1_Decls []),x2.2.1,false)
  else
   if (decide ((o1_Decls.length+1) * 257≤140737488355328))=true then
    Nb l (o1_Decls++[x2.1]) x2.2.1
   else none
 else
  Y0 l atV1 [98,101,103,105,110]>>=fun x3=>
  if (!x3)=true then
   some ((A1.mk o1_Decls []),atV1,false)
  else
   K7 l (IntKind.i64.wrap (atV1+1))>>=fun x4=>
   (if (!(!x4.2.2))=true then Y0 l x4.2.1 [101,110,100] else some default)>>=fun x5=>
   if (bif (!x4.2.2) then true else (!x5))=true then
    some ((A1.mk o1_Decls []),x4.2.1,false)
   else
    some ((A1.mk o1_Decls x4.1),(IntKind.i64.wrap (x4.2.1+1)),true)
 partial_fixpoint
abbrev Vt (l:List K0)(o1_Decls:List C0)(atV1:Int)(res:A1×Int×Bool):Prop:=LM C 64 0 Tryz.f48 [1,1,0,4] [(0,.d (.sl (K0.rows l))),(1,.d (.int .i64 atV1)),(4,.ref 0 0),(7,.ref 1 0)] [.row [.full (C0.rows []),.full (D0.rows [])] 49,.row [.osl 2 (C0.rows o1_Decls),.full (D0.rows [])] 49,.tok 128 17] (Ret [] (.tup [.agg (A1.cells res.1),.d (.int .i64 res.2.1),.d (.bool res.2.2)]))
theorem B13 (l:List K0):(∀ o1_Decls atV1 res,Nb l o1_Decls atV1=some res→Vt l o1_Decls atV1 res):=by
 refine Nb.partial_correctness l _ ?_
 ·intro g0 ih0 o1_Decls atV1 res hh
  obtain ⟨x1,hx1,hh⟩:=bs' hh
  refine W0.unroll (S' (p' 2 rfl (c' (S18 hx1) rfl rfl (n' (ci' rfl hh (fun hh=>?_) (fun hh=>?_))))))
  ·obtain ⟨x2,hx2,hh⟩:=bs' hh
   refine sk' (bk' (p' 2 rfl (c' (A13 hx2) rfl rfl (o' 4 rfl (F0.nf hC rfl (F0.s hC rfl (e' rfl (S' (t' rfl (ci' rfl hh (fun hh=>?_) (fun hh=>?_)))))))))))
   ·refine p' 2 rfl (F0.s hC rfl (e' rfl (re' ?_)))
    obtain rfl:=oi' hh
    exact ⟨_,.tup [.agg [.d (.sl (C0.rows o1_Decls)),.d (.sl (D0.rows []))],.d (.int .i64 x2.2.1),.d (.bool false)],[],rfl,(.tupL ⟨(.aggL ⟨.osl,.full,trivial⟩),.rfl,.rfl,trivial⟩),trivial,rfl,rfl,rfl,rfl⟩
   obtain ⟨c6,hh⟩:=I4 hh
   exact sk' (p' 3 rfl (F0.be hC rfl (C0.rows_map [x2.1]).symm (F0.ap hC rfl (rs:=C0.rows (o1_Decls++[x2.1])) (C0.app o1_Decls [x2.1]) (C0.sz o1_Decls) (C0.sz [x2.1]) (P1 (C0.len o1_Decls) (C0.len [x2.1]) c6) (q' rfl (F0.s hC rfl (n' (T' rfl (lw' (ih0 _ _ _ hh) rfl rfl rfl))))))))
  obtain ⟨x3,hx3,hh⟩:=bs' hh
  refine ex' (S' (p' 2 rfl (c' (V0 hx3) rfl rfl (e' rfl (ci' rfl hh (fun hh=>?_) (fun hh=>?_))))))
  ·refine p' 2 rfl (F0.s hC rfl (e' rfl (re' ?_)))
   obtain rfl:=oi' hh
   exact ⟨_,.tup [.agg [.d (.sl (C0.rows o1_Decls)),.d (.sl (D0.rows []))],.d (.int .i64 atV1),.d (.bool false)],[],rfl,(.tupL ⟨(.aggL ⟨.osl,.full,trivial⟩),.rfl,.rfl,trivial⟩),trivial,rfl,rfl,rfl,rfl⟩
  obtain ⟨x4,hx4,hh⟩:=bs' hh
  obtain ⟨x5,hx5,hh⟩:=bs' hh
  refine sk' (p' 3 rfl (c' (Wq hx4) rfl rfl (e' rfl (S' (sg' 8 rfl (G' 5 rfl (AG.c rfl rfl (fun hg=>⟨hg,hg,trivial⟩) (fun hw=>V0 (E1 hw hx5)) (a1' rfl (po' rfl (an' (n' (ci' rfl hh (fun hh=>?_) (fun hh=>?_)))))))))))))
  ·refine p' 2 rfl (F0.s hC rfl (e' rfl (re' ?_)))
   obtain rfl:=oi' hh
   exact ⟨_,.tup [.agg [.d (.sl (C0.rows o1_Decls)),.d (.sl (D0.rows []))],.d (.int .i64 x4.2.1),.d (.bool false)],[],rfl,(.tupL ⟨(.aggL ⟨.osl,.full,trivial⟩),.rfl,.rfl,trivial⟩),trivial,rfl,rfl,rfl,rfl⟩
  refine sk' (p' 2 rfl (F0.s hC rfl (n' (p' 3 rfl (F0.s hC rfl (e' rfl (re' ?_)))))))
  obtain rfl:=oi' hh
  exact ⟨_,.tup [.agg [.d (.sl (C0.rows o1_Decls)),.d (.sl (D0.rows x4.1))],.d (.int .i64 (IntKind.i64.wrap (x4.2.1+1))),.d (.bool true)],[],rfl,(.tupL ⟨(.aggL ⟨.osl,.rfl,trivial⟩),.rfl,.rfl,trivial⟩),trivial,rfl,rfl,rfl,rfl⟩
theorem F15 {l o1_Decls atV1 res}(hh:Nb l o1_Decls atV1=some res):Vt l o1_Decls atV1 res:=(B13 l) _ _ _ hh
def Cf (l:List K0)(atV:Int):Option (A1×Int×Bool):=
 Nb l [] atV
theorem F1a {l atV res}(hh:Cf l atV=some res):O0 C 48 [.d (.sl (K0.rows l)),.d (.int .i64 atV)] [] (Ret [] (.tup [.agg (A1.cells res.1),.d (.int .i64 res.2.1),.d (.bool res.2.2)])):=by
 unfold Cf at hh
 exact O0.intro hC Tryz.func48 rfl rfl rfl (s' rfl rfl (F0.nf hC rfl (e' rfl (s' rfl rfl (F0.bz hC rfl (F0.nf hC rfl (F0.s hC rfl (F0.tokC 1 0 128 17 rfl rfl rfl rfl rfl (n' (S' (bk' (fw' (F15 hh) rfl rfl rfl))))))))))))
def Ej (k:Int):Option Bool:=
 some (bif (decide (k≥0)) then (decide (k≤6)) else false)
theorem Jv {k res}(hh:Ej k=some res):O0 C 151 [.d (.int .i64 k)] [] (Ret [] (.d (.bool res))):=by
 unfold Ej at hh
 cases hh
 exact O0.intro hC Tryz.func151 rfl rfl rfl (t' rfl (sg' 7 rfl (G' 4 rfl (a1' rfl (pa' rfl (a0' rfl (an' (n' (re' (rt' rfl rfl rfl))))))))))
def We (k:Int):Option Bool:=
 some (bif (k == 5) then true else (k == 6))
theorem Em {k res}(hh:We k=some res):O0 C 152 [.d (.int .i64 k)] [] (Ret [] (.d (.bool res))):=by
 unfold We at hh
 cases hh
 exact O0.intro hC Tryz.func152 rfl rfl rfl (t' rfl (sg' 7 rfl (G' 4 rfl (a1' rfl (po' rfl (a0' rfl (an' (n' (re' (rt' rfl rfl rfl))))))))))
def Xe (v:Int):Option Bool:=
 some (bif (bif (v == 0) then true else (v == 1)) then true else (v == 2))
theorem Fm {v res}(hh:Xe v=some res):O0 C 153 [.d (.int .i64 v)] [] (Ret [] (.d (.bool res))):=by
 unfold Xe at hh
 cases hh
 exact O0.intro hC Tryz.func153 rfl rfl rfl (t' rfl (sg' 11 rfl (G' 4 rfl (a1' rfl (po' rfl (G' 2 rfl (a1' rfl (po' rfl (a0' rfl (an' (n' (re' (rt' rfl rfl rfl)))))))))))))
def Ye (v:Int):Option Bool:=
 some (bif (bif (bif (v == 0) then true else (v == 3)) then true else (v == 5)) then true else (v == 6))
theorem Gm {v res}(hh:Ye v=some res):O0 C 154 [.d (.int .i64 v)] [] (Ret [] (.d (.bool res))):=by
 unfold Ye at hh
 cases hh
 refine O0.intro hC Tryz.func154 rfl rfl rfl (t' rfl (sg' 15 rfl (G' 4 rfl (a1' rfl (po' rfl (G' 2 rfl (a1' rfl (po' rfl (G' 2 rfl (a1' rfl (po' rfl (a0' rfl (an' ?_)))))))))))))
 exact n' (re' (rt' rfl rfl rfl))
mutual
def X9 (s:P0)(l:List D0)(d:Int):Option P0:=
 Dd l d s 0
 partial_fixpoint
def Dd (l:List D0)(d:Int)(o01:P0)(i:Int):Option P0:=
 if (decide (i < ((l).length:Int)))=true then
  idx l i>>=fun x1=>
  Y7 (P0.mk (IntKind.i64.wrap (o01.nodes+1)) o01.depth) d>>=fun x2=>
  Xe x1.Verb>>=fun x3=>
  Jb x2 x1.Place x3>>=fun x4=>
  Ye x1.Verb>>=fun x5=>
  Jb x4 x1.Value x5>>=fun x6=>
  Ef l d x6 x1 i 0
 else
  some o01
 partial_fixpoint
def Ef (l:List D0)(d:Int)(o0:P0)(x1:D0)(i1:Int)(k:Int):Option P0:=
 if (decide (k < ((x1.Args).length:Int)))=true then
  idx x1.Args k>>=fun x7=>
  Jb o0 x7 true>>=fun x8=>
  Ef l d x8 x1 i1 (IntKind.i64.wrap (k+1))
 else
  X9 o0 x1.Then (IntKind.i64.wrap (d+1))>>=fun x9=>
  X9 x9 x1.Else (IntKind.i64.wrap (d+1))>>=fun x10=>
  Dd l d x10 (IntKind.i64.wrap (i1+1))
 partial_fixpoint
end
abbrev Jx (s:P0)(l:List D0)(d:Int)(res:P0):Prop:=O0 C 149 [.agg (P0.cells s),.d (.sl (D0.rows l)),.d (.int .i64 d)] [] (Ret [] (.agg (P0.cells res)))
abbrev G15 (l:List D0)(d:Int)(o01:P0)(i:Int)(res:P0):Prop:=LM C 68 0 Tryz.f149 [1,0,1,4] [(1,.d (.sl (D0.rows l))),(2,.d (.int .i64 d)),(3,.ref 0 0),(6,.ref 1 0),(7,.d (.int .i64 i))] [.row (P0.cells o01) 110,.row [.d (.int .i64 0),.d (.int .i64 0)] 110] (Ret [] (.agg (P0.cells res)))
abbrev H15 (l:List D0)(d:Int)(o0:P0)(x1:D0)(i1:Int)(k:Int)(res:P0):Prop:=LM C 68 0 Tryz.f149 [1,0,1,4,5,1,0,4,1,1,1,1,1,0,1,4] [(1,.d (.sl (D0.rows l))),(2,.d (.int .i64 d)),(3,.ref 0 0),(6,.ref 1 0),(7,.d (.int .i64 i1)),(8,.ref 2 0),(9,.d (.int .i64 k))] [.row (P0.cells o0) 110,.row [.d (.int .i64 0),.d (.int .i64 0)] 110,.row (D0.cells x1) 144] (Ret [] (.agg (P0.cells res)))
theorem F17:(∀ s l d res,X9 s l d=some res→Jx s l d res)∧(∀ l d o01 i res,Dd l d o01 i=some res→G15 l d o01 i res)∧(∀ l d o0 x1 i1 k res,Ef l d o0 x1 i1 k=some res→H15 l d o0 x1 i1 k res):=by
 refine X9.mutual_partial_correctness _ _ _ ?_ ?_ ?_
 ·intro g1 ih1 s l d res hh
  exact O0.intro hC Tryz.func149 rfl rfl rfl (s' rfl rfl (F0.n hC rfl (F0.n hC rfl (n' (S' (t' rfl (bk' (fw' (ih1 _ _ _ _ _ hh) rfl rfl rfl))))))))
 ·intro g2 ih2 l d o01 i res hh
  refine W0.unroll (S' (p' 2 rfl (qe' rfl trivial (D0.lenA _) (e' rfl (ci' rfl hh (fun hh=>?_) (fun hh=>?_))))))
  ·obtain ⟨x1,hx1,hh⟩:=bs' hh
   obtain ⟨x2,hx2,hh⟩:=bs' hh
   obtain ⟨x3,hx3,hh⟩:=bs' hh
   obtain ⟨x4,hx4,hh⟩:=bs' hh
   obtain ⟨x5,hx5,hh⟩:=bs' hh
   obtain ⟨x6,hx6,hh⟩:=bs' hh
   refine sk' (S' (bk' (p' 2 rfl (i' rfl (C1 hx1) (D0.idx hx1) rfl (q' rfl (F0.nf hC rfl (F0.s hC rfl (n' (p' 4 rfl (F0.s hC rfl (n' (p' 2 rfl (c' (Fk hx2) rfl rfl ?_)))))))))))))
   refine F0.s hC rfl (n' (S' (AEx.draw hC 7 rfl rfl rfl (O' 5 rfl (Qc' (Fm hx3) rfl rfl (Qc' (Gk hx4) rfl rfl (Qn' (F0.s hC rfl (n' (S' (AEx.draw hC 7 rfl rfl rfl (O' 5 rfl (Qc' (Gm hx5) rfl rfl ?_)))))))))))))
   exact Qc' (Gk hx6) rfl rfl (Qn' (F0.s hC rfl (n' (S' (t' rfl (bk' (fw' (ih2 _ _ _ _ _ _ _ hh) rfl rfl rfl)))))))
  cases hh
  exact ex' (p' 1 rfl (F0.s hC rfl (n' (re' (rt' rfl rfl rfl)))))
 ·intro g0 g1 g2 ih0 ih1 ih2 l d o0 x1 i1 k res hh
  refine W0.unroll (S' (p' 3 rfl (qe' rfl trivial (A0.lenA _) (e' rfl (ci' rfl hh (fun hh=>?_) (fun hh=>?_))))))
  ·obtain ⟨x7,hx7,hh⟩:=bs' hh
   obtain ⟨x8,hx8,hh⟩:=bs' hh
   exact sk' (S' (bk' (AEx.draw hC 7 rfl rfl rfl (O' 4 rfl (AQ.i hC rfl (C1 hx7) (A0.idx hx7) rfl (Q' rfl (Qc' (Gk hx8) rfl rfl (Qn' (F0.s hC rfl (n' (T' rfl (lw' (ih2 _ _ _ _ _ _ _ hh) rfl rfl rfl))))))))))))
  obtain ⟨x9,hx9,hh⟩:=bs' hh
  obtain ⟨x10,hx10,hh⟩:=bs' hh
  exact ex' (p' 5 rfl (c' (ih0 _ _ _ _ hx9) rfl rfl (F0.s hC rfl (n' (P' 5 rfl (c' (ih0 _ _ _ _ hx10) rfl rfl (F0.s hC rfl (n' (T' rfl (lw' (ih1 _ _ _ _ _ hh) rfl rfl rfl))))))))))
theorem Kv {s l d res}(hh:X9 s l d=some res):Jx s l d res:=(F17).1 _ _ _ _ hh
mutual
def Ec (s:P0)(l:List C0):Option P0:=
 Ed l s 0
 partial_fixpoint
def Ed (l:List C0)(o0:P0)(i:Int):Option P0:=
 if (decide (i < ((l).length:Int)))=true then
  idx l i>>=fun x1=>
  Ej x1.Kind>>=fun x2=>
  Yk (P0.mk (IntKind.i64.wrap (o0.nodes+1)) o0.depth) x1.TypeV x2>>=fun x3=>
  We x1.Kind>>=fun x4=>
  Jb x3 x1.Value x4>>=fun x5=>
  Ec x5 x1.Params>>=fun x6=>
  Ec x6 x1.Vars>>=fun x7=>
  X9 x7 x1.Body 1>>=fun x8=>
  Ed l x8 (IntKind.i64.wrap (i+1))
 else
  some o0
 partial_fixpoint
end
abbrev Kx (s:P0)(l:List C0)(res:P0):Prop:=O0 C 150 [.agg (P0.cells s),.d (.sl (C0.rows l))] [] (Ret [] (.agg (P0.cells res)))
abbrev I15 (l:List C0)(o0:P0)(i:Int)(res:P0):Prop:=LM C 48 0 Tryz.f150 [1,0,1,4] [(1,.d (.sl (C0.rows l))),(2,.ref 0 0),(4,.ref 1 0),(5,.d (.int .i64 i))] [.row (P0.cells o0) 110,.row [.d (.int .i64 0),.d (.int .i64 0)] 110] (Ret [] (.agg (P0.cells res)))
theorem G17:(∀ s l res,Ec s l=some res→Kx s l res)∧(∀ l o0 i res,Ed l o0 i=some res→I15 l o0 i res):=by
 refine Ec.mutual_partial_correctness _ _ ?_ ?_
 ·intro g1 ih1 s l res hh
  exact O0.intro hC Tryz.func150 rfl rfl rfl (s' rfl rfl (F0.n hC rfl (F0.n hC rfl (n' (S' (t' rfl (bk' (fw' (ih1 _ _ _ _ hh) rfl rfl rfl))))))))
 ·intro g0 g1 ih0 ih1 l o0 i res hh
  refine W0.unroll (S' (p' 2 rfl (qe' rfl trivial (C0.lenA _) (e' rfl (ci' rfl hh (fun hh=>?_) (fun hh=>?_))))))
  ·obtain ⟨x1,hx1,hh⟩:=bs' hh
   obtain ⟨x2,hx2,hh⟩:=bs' hh
   obtain ⟨x3,hx3,hh⟩:=bs' hh
   obtain ⟨x4,hx4,hh⟩:=bs' hh
   obtain ⟨x5,hx5,hh⟩:=bs' hh
   obtain ⟨x6,hx6,hh⟩:=bs' hh
   obtain ⟨x7,hx7,hh⟩:=bs' hh
   obtain ⟨x8,hx8,hh⟩:=bs' hh
   refine sk' (S' (bk' (p' 2 rfl (i' rfl (C1 hx1) (C0.idx hx1) rfl (q' rfl (F0.nf hC rfl (F0.s hC rfl (n' (p' 4 rfl (F0.s hC rfl (n' (S' (AEx.draw hC 7 rfl rfl rfl ?_)))))))))))))
   refine O' 5 rfl (Qc' (Jv hx2) rfl rfl (Qc' (E1a hx3) rfl rfl (Qn' (F0.s hC rfl (n' (S' (AEx.draw hC 7 rfl rfl rfl (O' 5 rfl (Qc' (Em hx4) rfl rfl (Qc' (Gk hx5) rfl rfl (Qn' (F0.s hC rfl (n' ?_)))))))))))))
   exact p' 3 rfl (c' (ih0 _ _ _ hx6) rfl rfl (F0.s hC rfl (n' (p' 3 rfl (c' (ih0 _ _ _ hx7) rfl rfl (F0.s hC rfl (n' (P' 3 rfl (c' (Kv hx8) rfl rfl (F0.s hC rfl (n' (T' rfl (lw' (ih1 _ _ _ _ hh) rfl rfl rfl)))))))))))))
  cases hh
  exact ex' (p' 1 rfl (F0.s hC rfl (n' (re' (rt' rfl rfl rfl)))))
theorem X18 {s l res}(hh:Ec s l=some res):Kx s l res:=(G17).1 _ _ _ hh
def Sn (p:A1):Option P0:=
 Ec (P0.mk 0 0) p.Decls>>=fun x1=>
 X9 x1 p.Body 1>>=fun x2=>
 some x2
theorem W1d {p res}(hh:Sn p=some res):O0 C 93 [.agg (A1.cells p)] [] (Ret [] (.agg (P0.cells res))):=by
 unfold Sn at hh
 obtain ⟨x1,hx1,hh⟩:=bs' hh
 obtain ⟨x2,hx2,hh⟩:=bs' hh
 cases hh
 refine O0.intro hC Tryz.func93 rfl rfl rfl (s' rfl rfl (F0.n hC rfl (F0.n hC rfl (n' (S' (AEx.draw hC 7 rfl rfl rfl (O' 3 rfl (Qc' (X18 hx1) rfl rfl (O' 2 rfl (Qc' (Kv hx2) rfl rfl (Qn' (F0.s hC rfl (n' ?_)))))))))))))
 exact re' (rt' rfl rfl rfl)
def Fj (v:Int):Option Bool:=
 some (bif (bif (v == 1) then true else (v == 2)) then true else (v == 7))
theorem Lv {v res}(hh:Fj v=some res):O0 C 155 [.d (.int .i64 v)] [] (Ret [] (.d (.bool res))):=by
 unfold Fj at hh
 cases hh
 exact O0.intro hC Tryz.func155 rfl rfl rfl (t' rfl (sg' 11 rfl (G' 4 rfl (a1' rfl (po' rfl (G' 2 rfl (a1' rfl (po' rfl (a0' rfl (an' (n' (re' (rt' rfl rfl rfl)))))))))))))
def Ps (v:Int):Option Bool:=
 some (bif (v == 4) then true else (v == 6))
theorem X1d {v res}(hh:Ps v=some res):O0 C 156 [.d (.int .i64 v)] [] (Ret [] (.d (.bool res))):=by
 unfold Ps at hh
 cases hh
 exact O0.intro hC Tryz.func156 rfl rfl rfl (t' rfl (sg' 7 rfl (G' 4 rfl (a1' rfl (po' rfl (a0' rfl (an' (n' (re' (rt' rfl rfl rfl))))))))))
def Bn (v:Int):Option Bool:=
 some (bif (bif (v == 5) then true else (v == 6)) then true else (v == 7))
theorem Y18 {v res}(hh:Bn v=some res):O0 C 157 [.d (.int .i64 v)] [] (Ret [] (.d (.bool res))):=by
 unfold Bn at hh
 cases hh
 exact O0.intro hC Tryz.func157 rfl rfl rfl (t' rfl (sg' 11 rfl (G' 4 rfl (a1' rfl (po' rfl (G' 2 rfl (a1' rfl (po' rfl (a0' rfl (an' (n' (re' (rt' rfl rfl rfl)))))))))))))
mutual
def K8 (l:List D0):Option Bool:=
 Fc l 0
 partial_fixpoint
def Fc (l:List D0)(i:Int):Option Bool:=
 if (decide (i < ((l).length:Int)))=true then
  idx l i>>=fun x1=>
  if (bif (decide (x1.Verb < 0)) then true else (decide (x1.Verb > 8)))=true then
   some false
  else
   Xe x1.Verb>>=fun x2=>
   (if x2=true then Hd x1.Place else some default)>>=fun x3=>
   (if (x2&&(!(!x3)))=true then S5 x1.Place else some default)>>=fun x4=>
   (if (!(bif x2 then (bif (!x3) then true else (!x4)) else false))=true then Xe x1.Verb else some default)>>=fun x5=>
   (if ((!(bif x2 then (bif (!x3) then true else (!x4)) else false))&&(!x5))=true then Wb x1.Place else some default)>>=fun x6=>
   if (bif (bif x2 then (bif (!x3) then true else (!x4)) else false) then true else (bif (!x5) then (!x6) else false))=true then
    some false
   else
    Ye x1.Verb>>=fun x7=>
    (if x7=true then S5 x1.Value else some default)>>=fun x8=>
    (if (!(bif x7 then (!x8) else false))=true then Ye x1.Verb else some default)>>=fun x9=>
    (if ((!(bif x7 then (!x8) else false))&&(!x9))=true then Wb x1.Value else some default)>>=fun x10=>
    if (bif (bif x7 then (!x8) else false) then true else (bif (!x9) then (!x10) else false))=true then
     some false
    else
     Fj x1.Verb>>=fun x11=>
     (if (!(bif (bif (!x11) then (!(x1.Name == [])) else false) then true else (bif (x1.Verb != 1) then (((x1.Args).length:Int) != 0) else false)))=true then Ps x1.Verb else some default)>>=fun x12=>
     if (bif (bif (bif (bif (bif (!x11) then (!(x1.Name == [])) else false) then true else (bif (x1.Verb != 1) then (((x1.Args).length:Int) != 0) else false)) then true else (bif (!x12) then (x1.NV != 0) else false)) then true else (bif (x1.Verb != 7) then (bif (x1.Low != 0) then true else (x1.High != 0)) else false)) then true else (bif (x1.Verb != 8) then (((x1.Numbers).length:Int) != 0) else false))=true then
      some false
     else
      Bn x1.Verb>>=fun x13=>
      if (bif (bif (!x13) then (((x1.Then).length:Int) != 0) else false) then true else (bif (x1.Verb != 5) then (((x1.Else).length:Int) != 0) else false))=true then
       some false
      else
       Re l x1 i 0
 else
  some true
 partial_fixpoint
def Re (l:List D0)(x1:D0)(i1:Int)(k:Int):Option Bool:=
 if (decide (k < ((x1.Args).length:Int)))=true then
  idx x1.Args k>>=fun x14=>
  S5 x14>>=fun x15=>
  if (!x15)=true then
   some false
  else
   Re l x1 i1 (IntKind.i64.wrap (k+1))
 else
  K8 x1.Then>>=fun x16=>
  (if (!(!x16))=true then K8 x1.Else else some default)>>=fun x17=>
  if (bif (!x16) then true else (!x17))=true then
   some false
  else
   Fc l (IntKind.i64.wrap (i1+1))
 partial_fixpoint
end
abbrev Mv (l:List D0)(res:Bool):Prop:=O0 C 95 [.d (.sl (D0.rows l))] [] (Ret [] (.d (.bool res)))
abbrev C13 (l:List D0)(i:Int)(res:Bool):Prop:=LM C 174 0 Tryz.f95 [1,0,1,4] [(0,.d (.sl (D0.rows l))),(3,.d (.int .i64 i))] [] (Ret [] (.d (.bool res)))
abbrev D13 (l:List D0)(x1:D0)(i1:Int)(k:Int)(res:Bool):Prop:=LM C 174 0 Tryz.f95 [1,0,1,4,5,1,0,4,1,1,1,1,1,1,0,1,4] [(0,.d (.sl (D0.rows l))),(3,.d (.int .i64 i1)),(4,.ref 0 0),(5,.d (.int .i64 k))] [.row (D0.cells x1) 144] (Ret [] (.d (.bool res)))
theorem J15:(∀ l res,K8 l=some res→Mv l res)∧(∀ l i res,Fc l i=some res→C13 l i res)∧(∀ l x1 i1 k res,Re l x1 i1 k=some res→D13 l x1 i1 k res):=by
 refine K8.mutual_partial_correctness _ _ _ ?_ ?_ ?_
 ·intro g1 ih1 l res hh
  exact O0.intro hC Tryz.func95 rfl rfl rfl (t' rfl (S' (t' rfl (bk' (fw' (ih1 _ _ _ hh) rfl rfl rfl)))))
 ·intro g2 ih2 l i res hh
  refine W0.unroll (S' (p' 2 rfl (qe' rfl trivial (D0.lenA _) (e' rfl (ci' rfl hh (fun hh=>?_) (fun hh=>?_))))))
  ·obtain ⟨x1,hx1,hh⟩:=bs' hh
   refine sk' (S' (bk' (p' 2 rfl (i' rfl (C1 hx1) (D0.idx hx1) rfl (q' rfl (F0.nf hC rfl (F0.s hC rfl (n' (S' (sg' 8 rfl (G' 5 rfl (a1' rfl (a1' rfl ?_)))))))))))))
   refine po' rfl (an' (n' (ci' rfl hh (fun hh=>?_) (fun hh=>?_))))
   ·cases hh
    exact t' rfl (re' (rt' rfl rfl rfl))
   obtain ⟨x2,hx2,hh⟩:=bs' hh
   obtain ⟨x3,hx3,hh⟩:=bs' hh
   obtain ⟨x4,hx4,hh⟩:=bs' hh
   obtain ⟨x5,hx5,hh⟩:=bs' hh
   obtain ⟨x6,hx6,hh⟩:=bs' hh
   refine sk' (S' (sg' 27 rfl (G' 2 rfl (AG.c rfl rfl (fun _=>trivial) (fun _=>Fm hx2) (G' 2 rfl (a1' rfl (AG.c rfl rfl (fun hg=>⟨hg,trivial⟩) (fun hw=>Sw (E1 hw hx3)) (a1' rfl (a1' rfl (a0' rfl (a1' rfl (AG.c rfl rfl (fun hg=>⟨hg,trivial⟩) (fun hw=>Ji (E1 hw hx4)) (a1' rfl ?_)))))))))))))
   refine pO' rfl (pa' rfl (G' 2 rfl (a1' rfl (AG.c rfl rfl (fun hg=>⟨hg,trivial⟩) (fun hw=>Fm (E1 hw hx5)) (a1' rfl (a1' rfl (a0' rfl (a1' rfl (AG.c rfl rfl (fun hg=>⟨hg,trivial⟩) (fun hw=>Ii (E1 hw hx6)) (a1' rfl (pA' rfl (po' rfl (an' ?_)))))))))))))
   refine n' (ci' rfl hh (fun hh=>?_) (fun hh=>?_))
   ·cases hh
    exact t' rfl (re' (rt' rfl rfl rfl))
   obtain ⟨x7,hx7,hh⟩:=bs' hh
   obtain ⟨x8,hx8,hh⟩:=bs' hh
   obtain ⟨x9,hx9,hh⟩:=bs' hh
   obtain ⟨x10,hx10,hh⟩:=bs' hh
   refine sk' (S' (sg' 21 rfl (G' 2 rfl (AG.c rfl rfl (fun _=>trivial) (fun _=>Gm hx7) (G' 2 rfl (a1' rfl (AG.c rfl rfl (fun hg=>⟨hg,trivial⟩) (fun hw=>Ji (E1 hw hx8)) (a1' rfl (pa' rfl (G' 2 rfl (a1' rfl (AG.c rfl rfl (fun hg=>⟨hg,trivial⟩) (fun hw=>Gm (E1 hw hx9)) (a1' rfl ?_)))))))))))))
   refine a1' rfl (a0' rfl (a1' rfl (AG.c rfl rfl (fun hg=>⟨hg,trivial⟩) (fun hw=>Ii (E1 hw hx10)) (a1' rfl (pA' rfl (po' rfl (an' (n' (ci' rfl hh (fun hh=>?_) (fun hh=>?_))))))))))
   ·cases hh
    exact t' rfl (re' (rt' rfl rfl rfl))
   obtain ⟨x11,hx11,hh⟩:=bs' hh
   obtain ⟨x12,hx12,hh⟩:=bs' hh
   refine sk' (S' (sg' 57 rfl (G' 2 rfl (AG.c rfl rfl (fun _=>trivial) (fun _=>Lv hx11) (G' 3 rfl (a1' rfl (a1' rfl (pa' rfl (G' 2 rfl (a1' rfl (a1' rfl (a1' rfl (a0' rfl ?_)))))))))))))
   refine a1' rfl (AG.qe hC rfl (fun hg=>⟨⟨hg,trivial⟩,trivial⟩) (A0.lenA _) (a1' rfl (pA' rfl (po' rfl (G' 2 rfl (a1' rfl (AG.c rfl rfl (fun hg=>⟨hg,trivial⟩) (fun hw=>X1d (E1 hw hx12)) (a1' rfl (a1' rfl (a0' rfl (a1' rfl (a1' rfl (pA' rfl ?_)))))))))))))
   refine po' rfl (G' 2 rfl (a1' rfl (a1' rfl (a1' rfl (a0' rfl (a1' rfl (a1' rfl (a1' rfl (a0' rfl (a1' rfl (a1' rfl (pO' rfl (pA' rfl ?_)))))))))))))
   refine po' rfl (G' 2 rfl (a1' rfl (a1' rfl (a1' rfl (a0' rfl (a1' rfl (AG.qe hC rfl (fun hg=>⟨⟨hg,trivial⟩,trivial⟩) (ei64.lenA _) (a1' rfl (pA' rfl (po' rfl (an' (n' (ci' rfl hh (fun hh=>?_) (fun hh=>?_))))))))))))))
   ·cases hh
    exact t' rfl (re' (rt' rfl rfl rfl))
   obtain ⟨x13,hx13,hh⟩:=bs' hh
   refine sk' (S' (sg' 21 rfl (G' 2 rfl (AG.c rfl rfl (fun _=>trivial) (fun _=>Y18 hx13) (G' 3 rfl (a1' rfl (AG.qe hC rfl (fun hg=>⟨⟨hg,trivial⟩,trivial⟩) (D0.lenA _) (a1' rfl (pa' rfl (G' 2 rfl (a1' rfl (a1' rfl (a1' rfl ?_)))))))))))))
   refine a0' rfl (a1' rfl (AG.qe hC rfl (fun hg=>⟨⟨hg,trivial⟩,trivial⟩) (D0.lenA _) (a1' rfl (pA' rfl (po' rfl (an' (n' (ci' rfl hh (fun hh=>?_) (fun hh=>?_)))))))))
   ·cases hh
    exact t' rfl (re' (rt' rfl rfl rfl))
   exact sk' (S' (t' rfl (bk' (fw' (ih2 _ _ _ _ _ hh) rfl rfl rfl))))
  cases hh
  exact ex' (t' rfl (re' (rt' rfl rfl rfl)))
 ·intro g0 g1 g2 ih0 ih1 ih2 l x1 i1 k res hh
  refine W0.unroll (S' (p' 3 rfl (qe' rfl trivial (A0.lenA _) (e' rfl (ci' rfl hh (fun hh=>?_) (fun hh=>?_))))))
  ·obtain ⟨x14,hx14,hh⟩:=bs' hh
   obtain ⟨x15,hx15,hh⟩:=bs' hh
   refine sk' (S' (bk' (p' 3 rfl (i' rfl (C1 hx14) (A0.idx hx14) rfl (q' rfl (c' (Ji hx15) rfl rfl (e' rfl (ci' rfl hh (fun hh=>?_) (fun hh=>?_)))))))))
   ·cases hh
    exact t' rfl (re' (rt' rfl rfl rfl))
   exact sk' (T' rfl (lw' (ih2 _ _ _ _ _ hh) rfl rfl rfl))
  obtain ⟨x16,hx16,hh⟩:=bs' hh
  obtain ⟨x17,hx17,hh⟩:=bs' hh
  refine ex' (sg' 10 rfl (G' 2 rfl (AG.c rfl rfl (fun _=>trivial) (fun _=>ih0 _ _ hx16) (G' 3 rfl (a1' rfl (AG.c rfl rfl (fun hg=>⟨hg,trivial⟩) (fun hw=>ih0 _ _ (E1 hw hx17)) (a1' rfl (po' rfl (an' (n' (ci' rfl hh (fun hh=>?_) (fun hh=>?_))))))))))))
  ·cases hh
   exact t' rfl (re' (rt' rfl rfl rfl))
  exact sk' (T' rfl (lw' (ih1 _ _ _ hh) rfl rfl rfl))
theorem Wt {l res}(hh:K8 l=some res):Mv l res:=(J15).1 _ _ hh
mutual
def Oa (l:List C0):Option Bool:=
 Gc l 0
 partial_fixpoint
def Gc (l:List C0)(i:Int):Option Bool:=
 if (decide (i < ((l).length:Int)))=true then
  idx l i>>=fun x1=>
  Ej x1.Kind>>=fun x2=>
  (if (!(!x2))=true then Bc x1.TypeV else some default)>>=fun x3=>
  if (bif (!x2) then true else (!x3))=true then
   some false
  else
   We x1.Kind>>=fun x4=>
   (if x4=true then S5 x1.Value else some default)>>=fun x5=>
   (if (!(bif x4 then (!x5) else false))=true then We x1.Kind else some default)>>=fun x6=>
   (if ((!(bif x4 then (!x5) else false))&&(!x6))=true then Wb x1.Value else some default)>>=fun x7=>
   if (bif (bif (bif x4 then (!x5) else false) then true else (bif (!x6) then (!x7) else false)) then true else (bif (x1.Kind != 4) then (x1.Init != 0) else false))=true then
    some false
   else
    if (bif (x1.Kind != 6) then (bif (bif (((x1.Params).length:Int) != 0) then true else (((x1.Vars).length:Int) != 0)) then true else (((x1.Body).length:Int) != 0)) else false)=true then
     some false
    else
     C7 l x1 i 0
 else
  some true
 partial_fixpoint
def C7 (l:List C0)(x1:C0)(i1:Int)(k:Int):Option Bool:=
 if (decide (k < ((x1.Params).length:Int)))=true then
  idx x1.Params k>>=fun x8=>
  (if (!(x8.Kind != 4))=true then idx x1.Params k else some default)>>=fun x9=>
  if (bif (x8.Kind != 4) then true else (x9.Init != 0))=true then
   some false
  else
   C7 l x1 i1 (IntKind.i64.wrap (k+1))
 else
  D7 l x1 i1 0
 partial_fixpoint
def D7 (l:List C0)(x1:C0)(i2:Int)(k1:Int):Option Bool:=
 if (decide (k1 < ((x1.Vars).length:Int)))=true then
  idx x1.Vars k1>>=fun x10=>
  if (x10.Kind != 4)=true then
   some false
  else
   D7 l x1 i2 (IntKind.i64.wrap (k1+1))
 else
  Oa x1.Params>>=fun x11=>
  (if (!(!x11))=true then Oa x1.Vars else some default)>>=fun x12=>
  (if (!(bif (!x11) then true else (!x12)))=true then K8 x1.Body else some default)>>=fun x13=>
  if (bif (bif (!x11) then true else (!x12)) then true else (!x13))=true then
   some false
  else
   Gc l (IntKind.i64.wrap (i2+1))
 partial_fixpoint
end
abbrev Nv (l:List C0)(res:Bool):Prop:=O0 C 94 [.d (.sl (C0.rows l))] [] (Ret [] (.d (.bool res)))
abbrev E13 (l:List C0)(i:Int)(res:Bool):Prop:=LM C 132 0 Tryz.f94 [1,0,1,4] [(0,.d (.sl (C0.rows l))),(3,.d (.int .i64 i))] [] (Ret [] (.d (.bool res)))
abbrev F13 (l:List C0)(x1:C0)(i1:Int)(k:Int)(res:Bool):Prop:=LM C 132 0 Tryz.f94 [1,0,1,4,5,1,0,4,1,1,1,1,0,1,4] [(0,.d (.sl (C0.rows l))),(3,.d (.int .i64 i1)),(4,.ref 0 0),(5,.d (.int .i64 k))] [.row (C0.cells x1) 128] (Ret [] (.d (.bool res)))
abbrev G13 (l:List C0)(x1:C0)(i2:Int)(k1:Int)(res:Bool):Prop:=LM C 132 0 Tryz.f94 [1,0,1,4,5,1,0,4,1,1,1,1,1,0,1,4] [(0,.d (.sl (C0.rows l))),(3,.d (.int .i64 i2)),(4,.ref 0 0),(6,.d (.int .i64 k1))] [.row (C0.cells x1) 128] (Ret [] (.d (.bool res)))
theorem K15:(∀ l res,Oa l=some res→Nv l res)∧(∀ l i res,Gc l i=some res→E13 l i res)∧(∀ l x1 i1 k res,C7 l x1 i1 k=some res→F13 l x1 i1 k res)∧(∀ l x1 i2 k1 res,D7 l x1 i2 k1=some res→G13 l x1 i2 k1 res):=by
 refine Oa.mutual_partial_correctness _ _ _ _ ?_ ?_ ?_ ?_
 ·intro g1 ih1 l res hh
  exact O0.intro hC Tryz.func94 rfl rfl rfl (t' rfl (S' (t' rfl (bk' (fw' (ih1 _ _ _ hh) rfl rfl rfl)))))
 ·intro g2 ih2 l i res hh
  refine W0.unroll (S' (p' 2 rfl (qe' rfl trivial (C0.lenA _) (e' rfl (ci' rfl hh (fun hh=>?_) (fun hh=>?_))))))
  ·obtain ⟨x1,hx1,hh⟩:=bs' hh
   obtain ⟨x2,hx2,hh⟩:=bs' hh
   obtain ⟨x3,hx3,hh⟩:=bs' hh
   refine sk' (S' (bk' (p' 2 rfl (i' rfl (C1 hx1) (C0.idx hx1) rfl (q' rfl (F0.nf hC rfl (F0.s hC rfl (n' (S' (sg' 10 rfl (G' 2 rfl (AG.c rfl rfl (fun _=>trivial) (fun _=>Jv hx2) (G' 3 rfl ?_)))))))))))))
   refine a1' rfl (AG.c rfl rfl (fun hg=>⟨hg,trivial⟩) (fun hw=>P18 (E1 hw hx3)) (a1' rfl (po' rfl (an' (n' (ci' rfl hh (fun hh=>?_) (fun hh=>?_)))))))
   ·cases hh
    exact t' rfl (re' (rt' rfl rfl rfl))
   obtain ⟨x4,hx4,hh⟩:=bs' hh
   obtain ⟨x5,hx5,hh⟩:=bs' hh
   obtain ⟨x6,hx6,hh⟩:=bs' hh
   obtain ⟨x7,hx7,hh⟩:=bs' hh
   refine sk' (S' (sg' 31 rfl (G' 2 rfl (AG.c rfl rfl (fun _=>trivial) (fun _=>Em hx4) (G' 2 rfl (a1' rfl (AG.c rfl rfl (fun hg=>⟨hg,trivial⟩) (fun hw=>Ji (E1 hw hx5)) (a1' rfl (pa' rfl (G' 2 rfl (a1' rfl (AG.c rfl rfl (fun hg=>⟨hg,trivial⟩) (fun hw=>Em (E1 hw hx6)) (a1' rfl ?_)))))))))))))
   refine a1' rfl (a0' rfl (a1' rfl (AG.c rfl rfl (fun hg=>⟨hg,trivial⟩) (fun hw=>Ii (E1 hw hx7)) (a1' rfl (pA' rfl (po' rfl (G' 2 rfl (a1' rfl (a1' rfl (a1' rfl (a0' rfl (a1' rfl (a1' rfl ?_)))))))))))))
   refine pA' rfl (po' rfl (an' (n' (ci' rfl hh (fun hh=>?_) (fun hh=>?_)))))
   ·cases hh
    exact t' rfl (re' (rt' rfl rfl rfl))
   refine sk' (S' (sg' 21 rfl (G' 5 rfl (a1' rfl (AG.qe hC rfl (fun hg=>⟨⟨hg,trivial⟩,trivial⟩) (C0.lenA _) (a1' rfl (a1' rfl (a0' rfl (a1' rfl (AG.qe hC rfl (fun hg=>⟨⟨hg,trivial⟩,trivial⟩) (C0.lenA _) (a1' rfl (pO' rfl (a1' rfl ?_)))))))))))))
   refine a0' rfl (a1' rfl (AG.qe hC rfl (fun hg=>⟨⟨hg,trivial⟩,trivial⟩) (D0.lenA _) (a1' rfl (pO' rfl (pa' rfl (an' (n' (ci' rfl hh (fun hh=>?_) (fun hh=>?_)))))))))
   ·cases hh
    exact t' rfl (re' (rt' rfl rfl rfl))
   exact sk' (S' (t' rfl (bk' (fw' (ih2 _ _ _ _ _ hh) rfl rfl rfl))))
  cases hh
  exact ex' (t' rfl (re' (rt' rfl rfl rfl)))
 ·intro g2 g3 ih2 ih3 l x1 i1 k res hh
  refine W0.unroll (S' (p' 3 rfl (qe' rfl trivial (C0.lenA _) (e' rfl (ci' rfl hh (fun hh=>?_) (fun hh=>?_))))))
  ·obtain ⟨x8,hx8,hh⟩:=bs' hh
   obtain ⟨x9,hx9,hh⟩:=bs' hh
   refine sk' (S' (bk' (sg' 16 rfl (G' 3 rfl (AG.i hC rfl rfl (fun _=>trivial) (fun hw=>⟨C1 hx8,C0.idx hx8,rfl⟩) (G' 5 rfl (a1' rfl (a0' rfl (AG.i hC rfl rfl (fun hg=>⟨hg,hg,trivial⟩) (fun hw=>⟨C1 (E1 hw hx9),C0.idx (E1 hw hx9),rfl⟩) (a1' rfl (a1' rfl (a1' rfl (po' rfl ?_)))))))))))))
   refine an' (n' (ci' rfl hh (fun hh=>?_) (fun hh=>?_)))
   ·cases hh
    exact t' rfl (re' (rt' rfl rfl rfl))
   exact sk' (T' rfl (lw' (ih2 _ _ _ _ _ hh) rfl rfl rfl))
  exact ex' (S' (t' rfl (bk' (fw' (ih3 _ _ _ _ _ hh) rfl rfl rfl))))
 ·intro g0 g1 g3 ih0 ih1 ih3 l x1 i2 k1 res hh
  refine W0.unroll (S' (p' 3 rfl (qe' rfl trivial (C0.lenA _) (e' rfl (ci' rfl hh (fun hh=>?_) (fun hh=>?_))))))
  ·obtain ⟨x10,hx10,hh⟩:=bs' hh
   refine sk' (S' (bk' (p' 3 rfl (i' rfl (C1 hx10) (C0.idx hx10) rfl (e' rfl (ci' rfl hh (fun hh=>?_) (fun hh=>?_)))))))
   ·cases hh
    exact t' rfl (re' (rt' rfl rfl rfl))
   exact sk' (T' rfl (lw' (ih3 _ _ _ _ _ hh) rfl rfl rfl))
  obtain ⟨x11,hx11,hh⟩:=bs' hh
  obtain ⟨x12,hx12,hh⟩:=bs' hh
  obtain ⟨x13,hx13,hh⟩:=bs' hh
  refine ex' (sg' 16 rfl (G' 2 rfl (AG.c rfl rfl (fun _=>trivial) (fun _=>ih0 _ _ hx11) (G' 3 rfl (a1' rfl (AG.c rfl rfl (fun hg=>⟨hg,trivial⟩) (fun hw=>ih0 _ _ (E1 hw hx12)) (a1' rfl (po' rfl (G' 2 rfl (a1' rfl (AG.c rfl rfl (fun hg=>⟨hg,trivial⟩) (fun hw=>Wt (E1 hw hx13)) (a1' rfl (po' rfl ?_)))))))))))))
  refine an' (n' (ci' rfl hh (fun hh=>?_) (fun hh=>?_)))
  ·cases hh
   exact t' rfl (re' (rt' rfl rfl rfl))
  exact sk' (T' rfl (lw' (ih1 _ _ _ hh) rfl rfl rfl))
theorem H17 {l res}(hh:Oa l=some res):Nv l res:=(K15).1 _ _ hh
mutual
def L7 (l:List D0):Option Bool:=
 Ua l 0
 partial_fixpoint
def Ua (l:List D0)(i:Int):Option Bool:=
 if (decide (i < ((l).length:Int)))=true then
  idx l i>>=fun x1=>
  Fj x1.Verb>>=fun x2=>
  (if x2=true then Tc x1.Name else some default)>>=fun x3=>
  (if (!(bif x2 then (!x3) else false))=true then J5 x1.Place else some default)>>=fun x4=>
  (if (!(bif (bif x2 then (!x3) else false) then true else (!x4)))=true then J5 x1.Value else some default)>>=fun x5=>
  (if (!(bif (bif (bif x2 then (!x3) else false) then true else (!x4)) then true else (!x5)))=true then L7 x1.Then else some default)>>=fun x6=>
  (if (!(bif (bif (bif (bif x2 then (!x3) else false) then true else (!x4)) then true else (!x5)) then true else (!x6)))=true then L7 x1.Else else some default)>>=fun x7=>
  if (bif (bif (bif (bif (bif x2 then (!x3) else false) then true else (!x4)) then true else (!x5)) then true else (!x6)) then true else (!x7))=true then
   some false
  else
   Ud l x1 i 0
 else
  some true
 partial_fixpoint
def Ud (l:List D0)(x1:D0)(i1:Int)(k:Int):Option Bool:=
 if (decide (k < ((x1.Args).length:Int)))=true then
  idx x1.Args k>>=fun x8=>
  J5 x8>>=fun x9=>
  if (!x9)=true then
   some false
  else
   Ud l x1 i1 (IntKind.i64.wrap (k+1))
 else
  Ua l (IntKind.i64.wrap (i1+1))
 partial_fixpoint
end
abbrev Xt (l:List D0)(res:Bool):Prop:=O0 C 97 [.d (.sl (D0.rows l))] [] (Ret [] (.d (.bool res)))
abbrev E11 (l:List D0)(i:Int)(res:Bool):Prop:=LM C 63 0 Tryz.f97 [1,0,1,4] [(0,.d (.sl (D0.rows l))),(3,.d (.int .i64 i))] [] (Ret [] (.d (.bool res)))
abbrev F11 (l:List D0)(x1:D0)(i1:Int)(k:Int)(res:Bool):Prop:=LM C 63 0 Tryz.f97 [1,0,1,4,5,1,0,4,1,1,1,4] [(0,.d (.sl (D0.rows l))),(3,.d (.int .i64 i1)),(4,.ref 0 0),(5,.d (.int .i64 k))] [.row (D0.cells x1) 144] (Ret [] (.d (.bool res)))
theorem H13:(∀ l res,L7 l=some res→Xt l res)∧(∀ l i res,Ua l i=some res→E11 l i res)∧(∀ l x1 i1 k res,Ud l x1 i1 k=some res→F11 l x1 i1 k res):=by
 refine L7.mutual_partial_correctness _ _ _ ?_ ?_ ?_
 ·intro g1 ih1 l res hh
  exact O0.intro hC Tryz.func97 rfl rfl rfl (t' rfl (S' (t' rfl (bk' (fw' (ih1 _ _ _ hh) rfl rfl rfl)))))
 ·intro g0 g2 ih0 ih2 l i res hh
  refine W0.unroll (S' (p' 2 rfl (qe' rfl trivial (D0.lenA _) (e' rfl (ci' rfl hh (fun hh=>?_) (fun hh=>?_))))))
  ·obtain ⟨x1,hx1,hh⟩:=bs' hh
   obtain ⟨x2,hx2,hh⟩:=bs' hh
   obtain ⟨x3,hx3,hh⟩:=bs' hh
   obtain ⟨x4,hx4,hh⟩:=bs' hh
   obtain ⟨x5,hx5,hh⟩:=bs' hh
   obtain ⟨x6,hx6,hh⟩:=bs' hh
   obtain ⟨x7,hx7,hh⟩:=bs' hh
   refine sk' (S' (bk' (p' 2 rfl (i' rfl (C1 hx1) (D0.idx hx1) rfl (q' rfl (F0.nf hC rfl (F0.s hC rfl (n' (S' (sg' 33 rfl (G' 2 rfl (AG.c rfl rfl (fun _=>trivial) (fun _=>Lv hx2) (G' 2 rfl ?_)))))))))))))
   refine a1' rfl (AG.c rfl rfl (fun hg=>⟨hg,trivial⟩) (fun hw=>Oh (E1 hw hx3)) (a1' rfl (pa' rfl (G' 2 rfl (a1' rfl (AG.c rfl rfl (fun hg=>⟨hg,trivial⟩) (fun hw=>Ph (E1 hw hx4)) (a1' rfl (po' rfl (G' 2 rfl (a1' rfl (AG.c rfl rfl (fun hg=>⟨hg,trivial⟩) (fun hw=>Ph (E1 hw hx5)) (a1' rfl (po' rfl ?_)))))))))))))
   refine G' 2 rfl (a1' rfl (AG.c rfl rfl (fun hg=>⟨hg,trivial⟩) (fun hw=>ih0 _ _ (E1 hw hx6)) (a1' rfl (po' rfl (G' 2 rfl (a1' rfl (AG.c rfl rfl (fun hg=>⟨hg,trivial⟩) (fun hw=>ih0 _ _ (E1 hw hx7)) (a1' rfl (po' rfl (an' (n' (ci' rfl hh (fun hh=>?_) (fun hh=>?_)))))))))))))
   ·cases hh
    exact t' rfl (re' (rt' rfl rfl rfl))
   exact sk' (t' rfl (bk' (fw' (ih2 _ _ _ _ _ hh) rfl rfl rfl)))
  cases hh
  exact ex' (t' rfl (re' (rt' rfl rfl rfl)))
 ·intro g1 g2 ih1 ih2 l x1 i1 k res hh
  refine W0.unroll (S' (p' 3 rfl (qe' rfl trivial (A0.lenA _) (e' rfl (ci' rfl hh (fun hh=>?_) (fun hh=>?_))))))
  ·obtain ⟨x8,hx8,hh⟩:=bs' hh
   obtain ⟨x9,hx9,hh⟩:=bs' hh
   refine sk' (S' (bk' (p' 3 rfl (i' rfl (C1 hx8) (A0.idx hx8) rfl (q' rfl (c' (Ph hx9) rfl rfl (e' rfl (ci' rfl hh (fun hh=>?_) (fun hh=>?_)))))))))
   ·cases hh
    exact t' rfl (re' (rt' rfl rfl rfl))
   exact sk' (T' rfl (lw' (ih2 _ _ _ _ _ hh) rfl rfl rfl))
  exact ex' (T' rfl (lw' (ih1 _ _ _ hh) rfl rfl rfl))
theorem Zq {l res}(hh:L7 l=some res):Xt l res:=(H13).1 _ _ hh
end Go.Proofs.YtmnhfbekncjnfaaGreatDoor

set_option maxRecDepth 100000
set_option maxHeartbeats 4000000
set_option synthInstance.maxSize 20000
set_option linter.unusedVariables false
namespace Go.Proofs.YtmnhfbekncjnfaaGreatDoor
open Go.Am
mutual
def I9 (l:List C0):Option Bool:=
 Va l 0
 partial_fixpoint
def Va (l:List C0)(i:Int):Option Bool:=
 if (decide (i < ((l).length:Int)))=true then
  idx l i>>=fun x1=>
  Tc x1.Name>>=fun x2=>
  (if (!(!x2))=true then La x1.TypeV else some default)>>=fun x3=>
  (if (!(bif (!x2) then true else (!x3)))=true then J5 x1.Value else some default)>>=fun x4=>
  (if (!(bif (bif (!x2) then true else (!x3)) then true else (!x4)))=true then I9 x1.Params else some default)>>=fun x5=>
  (if (!(bif (bif (bif (!x2) then true else (!x3)) then true else (!x4)) then true else (!x5)))=true then I9 x1.Vars else some default)>>=fun x6=>
  (if (!(bif (bif (bif (bif (!x2) then true else (!x3)) then true else (!x4)) then true else (!x5)) then true else (!x6)))=true then L7 x1.Body else some default)>>=fun x7=>
  if (bif (bif (bif (bif (bif (!x2) then true else (!x3)) then true else (!x4)) then true else (!x5)) then true else (!x6)) then true else (!x7))=true then
   some false
  else
   Va l (IntKind.i64.wrap (i+1))
 else
  some true
 partial_fixpoint
end
abbrev Yt (l:List C0)(res:Bool):Prop:=O0 C 96 [.d (.sl (C0.rows l))] [] (Ret [] (.d (.bool res)))
abbrev G11 (l:List C0)(i:Int)(res:Bool):Prop:=LM C 49 0 Tryz.f96 [1,0,1,4] [(0,.d (.sl (C0.rows l))),(3,.d (.int .i64 i))] [] (Ret [] (.d (.bool res)))
theorem I13:(∀ l res,I9 l=some res→Yt l res)∧(∀ l i res,Va l i=some res→G11 l i res):=by
 refine I9.mutual_partial_correctness _ _ ?_ ?_
 ·intro g1 ih1 l res hh
  exact O0.intro hC Tryz.func96 rfl rfl rfl (t' rfl (S' (t' rfl (bk' (fw' (ih1 _ _ _ hh) rfl rfl rfl)))))
 ·intro g0 g1 ih0 ih1 l i res hh
  refine W0.unroll (S' (p' 2 rfl (qe' rfl trivial (C0.lenA _) (e' rfl (ci' rfl hh (fun hh=>?_) (fun hh=>?_))))))
  ·obtain ⟨x1,hx1,hh⟩:=bs' hh
   obtain ⟨x2,hx2,hh⟩:=bs' hh
   obtain ⟨x3,hx3,hh⟩:=bs' hh
   obtain ⟨x4,hx4,hh⟩:=bs' hh
   obtain ⟨x5,hx5,hh⟩:=bs' hh
   obtain ⟨x6,hx6,hh⟩:=bs' hh
   obtain ⟨x7,hx7,hh⟩:=bs' hh
   refine sk' (S' (bk' (p' 2 rfl (i' rfl (C1 hx1) (C0.idx hx1) rfl (q' rfl (F0.nf hC rfl (F0.s hC rfl (n' (sg' 34 rfl (G' 2 rfl (AG.c rfl rfl (fun _=>trivial) (fun _=>Oh hx2) (G' 3 rfl (a1' rfl ?_)))))))))))))
   refine AG.c rfl rfl (fun hg=>⟨hg,trivial⟩) (fun hw=>B17 (E1 hw hx3)) (a1' rfl (po' rfl (G' 2 rfl (a1' rfl (AG.c rfl rfl (fun hg=>⟨hg,trivial⟩) (fun hw=>Ph (E1 hw hx4)) (a1' rfl (po' rfl (G' 2 rfl (a1' rfl (AG.c rfl rfl (fun hg=>⟨hg,trivial⟩) (fun hw=>ih0 _ _ (E1 hw hx5)) (a1' rfl (po' rfl (G' 2 rfl ?_)))))))))))))
   refine a1' rfl (AG.c rfl rfl (fun hg=>⟨hg,trivial⟩) (fun hw=>ih0 _ _ (E1 hw hx6)) (a1' rfl (po' rfl (G' 2 rfl (a1' rfl (AG.c rfl rfl (fun hg=>⟨hg,trivial⟩) (fun hw=>Zq (E1 hw hx7)) (a1' rfl (po' rfl (an' (n' (ci' rfl hh (fun hh=>?_) (fun hh=>?_))))))))))))
   ·cases hh
    exact t' rfl (re' (rt' rfl rfl rfl))
   exact sk' (T' rfl (lw' (ih1 _ _ _ hh) rfl rfl rfl))
  cases hh
  exact ex' (t' rfl (re' (rt' rfl rfl rfl)))
theorem L15 {l res}(hh:I9 l=some res):Yt l res:=(I13).1 _ _ hh
def A6 (s:D0)(k:Int):Option Bool:=
 if (decide (k < ((s.Numbers).length:Int)))=true then
  idx s.Numbers k>>=fun x3=>
  (if (!(decide (x3 < 0)))=true then idx s.Numbers k else some default)>>=fun x4=>
  (if ((!(bif (decide (x3 < 0)) then true else (decide (x4 > 1048576))))&&(decide (k > 0)))=true then idx s.Numbers k else some default)>>=fun x5=>
  (if ((!(bif (decide (x3 < 0)) then true else (decide (x4 > 1048576))))&&(decide (k > 0)))=true then idx s.Numbers (IntKind.i64.wrap (k - 1)) else some default)>>=fun x6=>
  if (bif (bif (decide (x3 < 0)) then true else (decide (x4 > 1048576))) then true else (bif (decide (k > 0)) then (decide (x5≤x6)) else false))=true then
   some false
  else
   A6 s (IntKind.i64.wrap (k+1))
 else
  some true
 partial_fixpoint
abbrev Tn (s:D0)(k:Int)(res:Bool):Prop:=LM C 105 0 Tryz.f158 [1,1,1,1,0,1,2,1,1,4] [(1,.ref 0 0),(3,.d (.int .i64 k))] [.row (D0.cells s) 144] (Ret [] (.d (.bool res)))
theorem Lx (s:D0):(∀ k res,A6 s k=some res→Tn s k res):=by
 refine A6.partial_correctness s _ ?_
 ·intro g0 ih0 k res hh
  refine W0.unroll (S' (p' 3 rfl (qe' rfl trivial (ei64.lenA _) (e' rfl (ci' rfl hh (fun hh=>?_) (fun hh=>?_))))))
  ·obtain ⟨x3,hx3,hh⟩:=bs' hh
   obtain ⟨x4,hx4,hh⟩:=bs' hh
   obtain ⟨x5,hx5,hh⟩:=bs' hh
   obtain ⟨x6,hx6,hh⟩:=bs' hh
   refine sk' (S' (bk' (S' (AEx.drawG hC 32 rfl rfl rfl (G' 3 rfl (AG.i hC rfl rfl (fun _=>trivial) (fun hw=>⟨C1 hx3,ei64.idx hx3,rfl⟩) (G' 4 rfl (a1' rfl (a0' rfl (AG.i hC rfl rfl (fun hg=>⟨hg,hg,trivial⟩) (fun hw=>⟨C1 (E1 hw hx4),ei64.idx (E1 hw hx4),rfl⟩) (a1' rfl (a1' rfl (po' rfl ?_)))))))))))))
   refine G' 2 rfl (a1' rfl (a1' rfl (a0' rfl (a1' rfl (a0' rfl (AG.i hC rfl rfl (fun hg=>⟨hg,hg,trivial⟩) (fun hw=>⟨C1 (E1 hw hx5),ei64.idx (E1 hw hx5),rfl⟩) (a1' rfl (a0' rfl (a1' rfl (a0' rfl (a1' rfl (AG.i hC rfl rfl (fun hg=>⟨hg,hg,trivial⟩) (fun hw=>⟨C1 (E1 hw hx6),ei64.idx (E1 hw hx6),rfl⟩) (a1' rfl ?_)))))))))))))
   refine a2' rfl (pA' rfl (po' rfl (an' (n' (ci' rfl hh (fun hh=>?_) (fun hh=>?_))))))
   ·cases hh
    exact t' rfl (re' (rt' rfl rfl rfl))
   exact sk' (T' rfl (lw' (ih0 _ _ hh) rfl rfl rfl))
  cases hh
  exact ex' (t' rfl (re' (rt' rfl rfl rfl)))
theorem Ey {s k res}(hh:A6 s k=some res):Tn s k res:=(Lx s) _ _ hh
def Ff (s:D0):Option Bool:=
 if (s.Verb == 4)=true then
  some (bif (decide (s.NV≥0)) then (decide (s.NV≤1048576)) else false)
 else
  if (s.Verb == 6)=true then
   some (bif (decide (s.NV≥0)) then (decide (s.NV≤4096)) else false)
  else
   if (s.Verb == 7)=true then
    Oe s.Low>>=fun x1=>
    (if x1=true then Oe s.High else some default)>>=fun x2=>
    some (bif (bif (bif x1 then x2 else false) then (decide (s.Low≤s.High)) else false) then (decide ((IntKind.i64.wrap ((IntKind.i64.wrap (s.High - s.Low))+1))≤4096)) else false)
   else
    if (s.Verb == 8)=true then
     if (bif (decide (((s.Numbers).length:Int) < 1)) then true else (decide (((s.Numbers).length:Int) > 32)))=true then
      some false
     else
      A6 s 0
    else
     some true
theorem J13 {s res}(hh:Ff s=some res):O0 C 158 [.agg (D0.cells s)] [] (Ret [] (.d (.bool res))):=by
 unfold Ff at hh
 refine O0.intro hC Tryz.func158 rfl rfl rfl (s' rfl rfl (F0.n hC rfl (e' rfl (S' (t' rfl (ci' rfl hh (fun hh=>?_) (fun hh=>?_)))))))
 ·cases hh
  exact sg' 9 rfl (G' 5 rfl (a1' rfl (a1' rfl (pa' rfl (a0' rfl (an' (n' (re' (rt' rfl rfl rfl)))))))))
 refine sk' (S' (t' rfl (ci' rfl hh (fun hh=>?_) (fun hh=>?_))))
 ·cases hh
  exact sg' 9 rfl (G' 5 rfl (a1' rfl (a1' rfl (pa' rfl (a0' rfl (an' (n' (re' (rt' rfl rfl rfl)))))))))
 refine sk' (S' (t' rfl (ci' rfl hh (fun hh=>?_) (fun hh=>?_))))
 ·obtain ⟨x1,hx1,hh⟩:=bs' hh
  obtain ⟨x2,hx2,hh⟩:=bs' hh
  cases hh
  refine sg' 25 rfl (G' 2 rfl (AG.c rfl rfl (fun _=>trivial) (fun _=>Qh hx1) (G' 2 rfl (a1' rfl (AG.c rfl rfl (fun hg=>⟨hg,trivial⟩) (fun hw=>Qh (E1 hw hx2)) (pa' rfl (G' 2 rfl (a1' rfl (a0' rfl (a1' rfl (a2' rfl (pa' rfl (G' 2 rfl ?_)))))))))))))
  exact a1' rfl (a0' rfl (a1' rfl (a2' rfl (a1' rfl (a1' rfl (pa' rfl (a0' rfl (an' (n' (re' (rt' rfl rfl rfl)))))))))))
 refine sk' (S' (t' rfl (ci' rfl hh (fun hh=>?_) (fun hh=>?_))))
 ·refine S' (sg' 10 rfl (G' 2 rfl (AG.qe hC rfl (fun hg=>⟨trivial,trivial⟩) (ei64.lenA _) (G' 3 rfl (a1' rfl (AG.qe hC rfl (fun hg=>⟨⟨hg,trivial⟩,trivial⟩) (ei64.lenA _) (a1' rfl (po' rfl (an' (n' (ci' rfl hh (fun hh=>?_) (fun hh=>?_))))))))))))
  ·cases hh
   exact t' rfl (re' (rt' rfl rfl rfl))
  exact sk' (t' rfl (bk' (fw' (Ey hh) rfl rfl rfl)))
 cases hh
 exact sk' (t' rfl (re' (rt' rfl rfl rfl)))
mutual
def B6 (l:List D0):Option Bool:=
 R8 l 0
 partial_fixpoint
def R8 (l:List D0)(i:Int):Option Bool:=
 if (decide (i < ((l).length:Int)))=true then
  idx l i>>=fun x1=>
  Ff x1>>=fun x2=>
  (if (!(!x2))=true then J4 x1.Place else some default)>>=fun x3=>
  (if (!(bif (!x2) then true else (!x3)))=true then J4 x1.Value else some default)>>=fun x4=>
  (if (!(bif (bif (!x2) then true else (!x3)) then true else (!x4)))=true then B6 x1.Then else some default)>>=fun x5=>
  (if (!(bif (bif (bif (!x2) then true else (!x3)) then true else (!x4)) then true else (!x5)))=true then B6 x1.Else else some default)>>=fun x6=>
  if (bif (bif (bif (bif (!x2) then true else (!x3)) then true else (!x4)) then true else (!x5)) then true else (!x6))=true then
   some false
  else
   Hc l x1 i 0
 else
  some true
 partial_fixpoint
def Hc (l:List D0)(x1:D0)(i1:Int)(k:Int):Option Bool:=
 if (decide (k < ((x1.Args).length:Int)))=true then
  idx x1.Args k>>=fun x7=>
  J4 x7>>=fun x8=>
  if (!x8)=true then
   some false
  else
   Hc l x1 i1 (IntKind.i64.wrap (k+1))
 else
  R8 l (IntKind.i64.wrap (i1+1))
 partial_fixpoint
end
abbrev Wp (l:List D0)(res:Bool):Prop:=O0 C 99 [.d (.sl (D0.rows l))] [] (Ret [] (.d (.bool res)))
abbrev Fy (l:List D0)(i:Int)(res:Bool):Prop:=LM C 57 0 Tryz.f99 [1,0,1,4] [(0,.d (.sl (D0.rows l))),(3,.d (.int .i64 i))] [] (Ret [] (.d (.bool res)))
abbrev Gy (l:List D0)(x1:D0)(i1:Int)(k:Int)(res:Bool):Prop:=LM C 57 0 Tryz.f99 [1,0,1,4,5,1,0,4,1,1,1,4] [(0,.d (.sl (D0.rows l))),(3,.d (.int .i64 i1)),(4,.ref 0 0),(5,.d (.int .i64 k))] [.row (D0.cells x1) 144] (Ret [] (.d (.bool res)))
theorem Nz:(∀ l res,B6 l=some res→Wp l res)∧(∀ l i res,R8 l i=some res→Fy l i res)∧(∀ l x1 i1 k res,Hc l x1 i1 k=some res→Gy l x1 i1 k res):=by
 refine B6.mutual_partial_correctness _ _ _ ?_ ?_ ?_
 ·intro g1 ih1 l res hh
  exact O0.intro hC Tryz.func99 rfl rfl rfl (t' rfl (S' (t' rfl (bk' (fw' (ih1 _ _ _ hh) rfl rfl rfl)))))
 ·intro g0 g2 ih0 ih2 l i res hh
  refine W0.unroll (S' (p' 2 rfl (qe' rfl trivial (D0.lenA _) (e' rfl (ci' rfl hh (fun hh=>?_) (fun hh=>?_))))))
  ·obtain ⟨x1,hx1,hh⟩:=bs' hh
   obtain ⟨x2,hx2,hh⟩:=bs' hh
   obtain ⟨x3,hx3,hh⟩:=bs' hh
   obtain ⟨x4,hx4,hh⟩:=bs' hh
   obtain ⟨x5,hx5,hh⟩:=bs' hh
   obtain ⟨x6,hx6,hh⟩:=bs' hh
   refine sk' (S' (bk' (p' 2 rfl (i' rfl (C1 hx1) (D0.idx hx1) rfl (q' rfl (F0.nf hC rfl (F0.s hC rfl (n' (S' (sg' 27 rfl (a0' rfl (AG.c rfl rfl (fun _=>trivial) (fun _=>J13 hx2) (G' 3 rfl ?_)))))))))))))
   refine a1' rfl (AG.c rfl rfl (fun hg=>⟨hg,trivial⟩) (fun hw=>Rf (E1 hw hx3)) (a1' rfl (po' rfl (G' 2 rfl (a1' rfl (AG.c rfl rfl (fun hg=>⟨hg,trivial⟩) (fun hw=>Rf (E1 hw hx4)) (a1' rfl (po' rfl (G' 2 rfl (a1' rfl (AG.c rfl rfl (fun hg=>⟨hg,trivial⟩) (fun hw=>ih0 _ _ (E1 hw hx5)) (a1' rfl (po' rfl ?_)))))))))))))
   refine G' 2 rfl (a1' rfl (AG.c rfl rfl (fun hg=>⟨hg,trivial⟩) (fun hw=>ih0 _ _ (E1 hw hx6)) (a1' rfl (po' rfl (an' (n' (ci' rfl hh (fun hh=>?_) (fun hh=>?_))))))))
   ·cases hh
    exact t' rfl (re' (rt' rfl rfl rfl))
   exact sk' (t' rfl (bk' (fw' (ih2 _ _ _ _ _ hh) rfl rfl rfl)))
  cases hh
  exact ex' (t' rfl (re' (rt' rfl rfl rfl)))
 ·intro g1 g2 ih1 ih2 l x1 i1 k res hh
  refine W0.unroll (S' (p' 3 rfl (qe' rfl trivial (A0.lenA _) (e' rfl (ci' rfl hh (fun hh=>?_) (fun hh=>?_))))))
  ·obtain ⟨x7,hx7,hh⟩:=bs' hh
   obtain ⟨x8,hx8,hh⟩:=bs' hh
   refine sk' (S' (bk' (p' 3 rfl (i' rfl (C1 hx7) (A0.idx hx7) rfl (q' rfl (c' (Rf hx8) rfl rfl (e' rfl (ci' rfl hh (fun hh=>?_) (fun hh=>?_)))))))))
   ·cases hh
    exact t' rfl (re' (rt' rfl rfl rfl))
   exact sk' (T' rfl (lw' (ih2 _ _ _ _ _ hh) rfl rfl rfl))
  exact ex' (T' rfl (lw' (ih1 _ _ _ hh) rfl rfl rfl))
theorem Wo {l res}(hh:B6 l=some res):Wp l res:=(Nz).1 _ _ hh
mutual
def E7 (l:List C0):Option Bool:=
 S8 l 0
 partial_fixpoint
def S8 (l:List C0)(i:Int):Option Bool:=
 if (decide (i < ((l).length:Int)))=true then
  idx l i>>=fun x1=>
  Oe x1.Init>>=fun x2=>
  if (bif (!x2) then true else (bif (x1.TypeV.Kind == 0) then (bif (decide (x1.Init < 0)) then true else (decide (x1.Init > 1))) else false))=true then
   some false
  else
   Z7 x1.TypeV>>=fun x3=>
   (if (!(!x3))=true then J4 x1.Value else some default)>>=fun x4=>
   (if (!(bif (!x3) then true else (!x4)))=true then E7 x1.Params else some default)>>=fun x5=>
   (if (!(bif (bif (!x3) then true else (!x4)) then true else (!x5)))=true then E7 x1.Vars else some default)>>=fun x6=>
   (if (!(bif (bif (bif (!x3) then true else (!x4)) then true else (!x5)) then true else (!x6)))=true then B6 x1.Body else some default)>>=fun x7=>
   if (bif (bif (bif (bif (!x3) then true else (!x4)) then true else (!x5)) then true else (!x6)) then true else (!x7))=true then
    some false
   else
    S8 l (IntKind.i64.wrap (i+1))
 else
  some true
 partial_fixpoint
end
abbrev Xp (l:List C0)(res:Bool):Prop:=O0 C 98 [.d (.sl (C0.rows l))] [] (Ret [] (.d (.bool res)))
abbrev Hy (l:List C0)(i:Int)(res:Bool):Prop:=LM C 63 0 Tryz.f98 [1,0,1,4] [(0,.d (.sl (C0.rows l))),(3,.d (.int .i64 i))] [] (Ret [] (.d (.bool res)))
theorem Oz:(∀ l res,E7 l=some res→Xp l res)∧(∀ l i res,S8 l i=some res→Hy l i res):=by
 refine E7.mutual_partial_correctness _ _ ?_ ?_
 ·intro g1 ih1 l res hh
  exact O0.intro hC Tryz.func98 rfl rfl rfl (t' rfl (S' (t' rfl (bk' (fw' (ih1 _ _ _ hh) rfl rfl rfl)))))
 ·intro g0 g1 ih0 ih1 l i res hh
  refine W0.unroll (S' (p' 2 rfl (qe' rfl trivial (C0.lenA _) (e' rfl (ci' rfl hh (fun hh=>?_) (fun hh=>?_))))))
  ·obtain ⟨x1,hx1,hh⟩:=bs' hh
   obtain ⟨x2,hx2,hh⟩:=bs' hh
   refine sk' (S' (bk' (p' 2 rfl (i' rfl (C1 hx1) (C0.idx hx1) rfl (q' rfl (F0.nf hC rfl (F0.s hC rfl (n' (S' (sg' 20 rfl (G' 2 rfl (AG.c rfl rfl (fun _=>trivial) (fun _=>Qh hx2) (G' 3 rfl ?_)))))))))))))
   refine a1' rfl (a1' rfl (a1' rfl (a1' rfl (a0' rfl (a1' rfl (a1' rfl (a1' rfl (a0' rfl (a1' rfl (a1' rfl (pO' rfl (pA' rfl (po' rfl ?_)))))))))))))
   refine an' (n' (ci' rfl hh (fun hh=>?_) (fun hh=>?_)))
   ·cases hh
    exact t' rfl (re' (rt' rfl rfl rfl))
   obtain ⟨x3,hx3,hh⟩:=bs' hh
   obtain ⟨x4,hx4,hh⟩:=bs' hh
   obtain ⟨x5,hx5,hh⟩:=bs' hh
   obtain ⟨x6,hx6,hh⟩:=bs' hh
   obtain ⟨x7,hx7,hh⟩:=bs' hh
   refine sk' (sg' 28 rfl (G' 2 rfl (AG.c rfl rfl (fun _=>trivial) (fun _=>T12 hx3) (G' 3 rfl (a1' rfl (AG.c rfl rfl (fun hg=>⟨hg,trivial⟩) (fun hw=>Rf (E1 hw hx4)) (a1' rfl (po' rfl (G' 2 rfl (a1' rfl (AG.c rfl rfl (fun hg=>⟨hg,trivial⟩) (fun hw=>ih0 _ _ (E1 hw hx5)) (a1' rfl (po' rfl ?_)))))))))))))
   refine G' 2 rfl (a1' rfl (AG.c rfl rfl (fun hg=>⟨hg,trivial⟩) (fun hw=>ih0 _ _ (E1 hw hx6)) (a1' rfl (po' rfl (G' 2 rfl (a1' rfl (AG.c rfl rfl (fun hg=>⟨hg,trivial⟩) (fun hw=>Wo (E1 hw hx7)) (a1' rfl (po' rfl (an' (n' (ci' rfl hh (fun hh=>?_) (fun hh=>?_)))))))))))))
   ·cases hh
    exact t' rfl (re' (rt' rfl rfl rfl))
   exact sk' (T' rfl (lw' (ih1 _ _ _ hh) rfl rfl rfl))
  cases hh
  exact ex' (t' rfl (re' (rt' rfl rfl rfl)))
theorem H11 {l res}(hh:E7 l=some res):Xp l res:=(Oz).1 _ _ hh
def Un (p:A1):Option Int:=
 Sn p>>=fun x1=>
 Oa p.Decls>>=fun x2=>
 (if x2=true then K8 p.Body else some default)>>=fun x3=>
 I9 p.Decls>>=fun x4=>
 (if x4=true then L7 p.Body else some default)>>=fun x5=>
 E7 p.Decls>>=fun x6=>
 (if x6=true then B6 p.Body else some default)>>=fun x7=>
 Xk x1 (bif x2 then x3 else false) (bif x4 then x5 else false) (bif x6 then x7 else false)>>=fun x8=>
 some x8
theorem Y1d {p res}(hh:Un p=some res):O0 C 49 [.agg (A1.cells p)] [] (Ret [] (.d (.int .i64 res))):=by
 unfold Un at hh
 obtain ⟨x1,hx1,hh⟩:=bs' hh
 obtain ⟨x2,hx2,hh⟩:=bs' hh
 obtain ⟨x3,hx3,hh⟩:=bs' hh
 obtain ⟨x4,hx4,hh⟩:=bs' hh
 obtain ⟨x5,hx5,hh⟩:=bs' hh
 obtain ⟨x6,hx6,hh⟩:=bs' hh
 obtain ⟨x7,hx7,hh⟩:=bs' hh
 obtain ⟨x8,hx8,hh⟩:=bs' hh
 cases hh
 refine O0.intro hC Tryz.func49 rfl rfl rfl (s' rfl rfl (F0.n hC rfl (e' rfl (S' (AEx.drawG hC 28 rfl rfl rfl (a0' rfl (AG.c rfl rfl (fun _=>trivial) (fun _=>W1d hx1) (G' 2 rfl (AG.c rfl rfl (fun _=>trivial) (fun _=>H17 hx2) (G' 2 rfl (a1' rfl (AG.c rfl rfl (fun hg=>⟨hg,trivial⟩) (fun hw=>Wt (E1 hw hx3)) (pa' rfl ?_)))))))))))))
 refine G' 2 rfl (AG.c rfl rfl (fun _=>trivial) (fun _=>L15 hx4) (G' 2 rfl (a1' rfl (AG.c rfl rfl (fun hg=>⟨hg,trivial⟩) (fun hw=>Zq (E1 hw hx5)) (pa' rfl (G' 2 rfl (AG.c rfl rfl (fun _=>trivial) (fun _=>H11 hx6) (G' 2 rfl (a1' rfl (AG.c rfl rfl (fun hg=>⟨hg,trivial⟩) (fun hw=>Wo (E1 hw hx7)) (pa' rfl ?_)))))))))))
 exact AG.c rfl rfl (fun _=>trivial) (fun _=>D1a hx8) (a0' rfl (an' (n' (re' (rt' rfl rfl rfl)))))
def Vn (text:Str):Option (A1×Int×Int):=
 Mt text>>=fun x1=>
 if (x1.2.2 != 0)=true then
  some ((A1.mk [] []),x1.2.1,x1.2.2)
 else
  Cf x1.1 0>>=fun x2=>
  if (bif (!x2.2.2) then true else (decide (x2.2.1 < ((x1.1).length:Int))))=true then
   Yl text x1.1 x2.2.1>>=fun x3=>
   some ((A1.mk [] []),x3,6)
  else
   Un x2.1>>=fun x4=>
   if (x4 != 0)=true then
    some ((A1.mk [] []),0,x4)
   else
    some (x2.1,0,0)
theorem Z1d {text res}(hh:Vn text=some res):O0 C 22 [.d (.str text)] [] (Ret [] (.tup [.agg (A1.cells res.1),.d (.int .i64 res.2.1),.d (.int .i64 res.2.2)])):=by
 unfold Vn at hh
 obtain ⟨x1,hx1,hh⟩:=bs' hh
 refine O0.intro hC Tryz.func22 rfl rfl rfl (s' rfl rfl (F0.nf hC rfl (e' rfl (p' 1 rfl (c' (W1h hx1) rfl rfl (e' rfl (S' (t' rfl (ci' rfl hh (fun hh=>?_) (fun hh=>?_))))))))))
 ·cases hh
  exact p' 3 rfl (F0.s hC rfl (e' rfl (re' (rt' rfl rfl rfl))))
 obtain ⟨x2,hx2,hh⟩:=bs' hh
 refine sk' (p' 1 rfl (c' (F1a hx2) rfl rfl (o' 4 rfl (F0.nf hC rfl (F0.s hC rfl (e' rfl (S' (sg' 8 rfl (G' 5 rfl (AG.qe hC rfl (fun hg=>⟨⟨hg,trivial⟩,trivial⟩) (K0.lenA _) (a2' rfl (po' rfl (an' ?_)))))))))))))
 refine n' (ci' rfl hh (fun hh=>?_) (fun hh=>?_))
 ·obtain ⟨x3,hx3,hh⟩:=bs' hh
  cases hh
  exact p' 4 rfl (c' (G1c hx3) rfl rfl (F0.s hC rfl (e' rfl (re' (rt' rfl rfl rfl)))))
 obtain ⟨x4,hx4,hh⟩:=bs' hh
 refine sk' (p' 1 rfl (c' (Y1d hx4) rfl rfl (e' rfl (S' (t' rfl (ci' rfl hh (fun hh=>?_) (fun hh=>?_)))))))
 ·cases hh
  exact p' 2 rfl (F0.s hC rfl (e' rfl (re' (rt' rfl rfl rfl))))
 cases hh
 exact sk' (p' 1 rfl (F0.s hC rfl (e' rfl (re' (rt' rfl rfl rfl)))))
mutual
def M7 (a:List D0)(b:List D0):Option Bool:=
 if (((a).length:Int) != ((b).length:Int))=true then
  some false
 else
  Wa a b 0
 partial_fixpoint
def Wa (a:List D0)(b:List D0)(i:Int):Option Bool:=
 if (decide (i < ((a).length:Int)))=true then
  idx a i>>=fun x1=>
  idx b i>>=fun x2=>
  if (bif (bif (bif (bif (bif (bif (x1.Verb != x2.Verb) then true else (!(x1.Name == x2.Name))) then true else (x1.NV != x2.NV)) then true else (x1.Low != x2.Low)) then true else (x1.High != x2.High)) then true else (((x1.Args).length:Int) != ((x2.Args).length:Int))) then true else (((x1.Numbers).length:Int) != ((x2.Numbers).length:Int)))=true then
   some false
  else
   Xa a b x1 x2 i 0
 else
  some true
 partial_fixpoint
def Xa (a:List D0)(b:List D0)(x1:D0)(x2:D0)(i1:Int)(k:Int):Option Bool:=
 if (decide (k < ((x1.Args).length:Int)))=true then
  idx x1.Args k>>=fun x3=>
  idx x2.Args k>>=fun x4=>
  U3 x3 x4>>=fun x5=>
  if (!x5)=true then
   some false
  else
   Xa a b x1 x2 i1 (IntKind.i64.wrap (k+1))
 else
  F8 a b x1 x2 i1 0
 partial_fixpoint
def F8 (a:List D0)(b:List D0)(x1:D0)(x2:D0)(i2:Int)(k1:Int):Option Bool:=
 if (decide (k1 < ((x1.Numbers).length:Int)))=true then
  idx x1.Numbers k1>>=fun x6=>
  idx x2.Numbers k1>>=fun x7=>
  if (x6 != x7)=true then
   some false
  else
   F8 a b x1 x2 i2 (IntKind.i64.wrap (k1+1))
 else
  U3 x1.Place x2.Place>>=fun x8=>
  (if (!(!x8))=true then U3 x1.Value x2.Value else some default)>>=fun x9=>
  (if (!(bif (!x8) then true else (!x9)))=true then M7 x1.Then x2.Then else some default)>>=fun x10=>
  (if (!(bif (bif (!x8) then true else (!x9)) then true else (!x10)))=true then M7 x1.Else x2.Else else some default)>>=fun x11=>
  if (bif (bif (bif (!x8) then true else (!x9)) then true else (!x10)) then true else (!x11))=true then
   some false
  else
   Wa a b (IntKind.i64.wrap (i2+1))
 partial_fixpoint
end
abbrev Zt (a:List D0)(b:List D0)(res:Bool):Prop:=O0 C 51 [.d (.sl (D0.rows a)),.d (.sl (D0.rows b))] [] (Ret [] (.d (.bool res)))
abbrev I11 (a:List D0)(b:List D0)(i:Int)(res:Bool):Prop:=LM C 147 0 Tryz.f51 [1,1,0,1,4] [(0,.d (.sl (D0.rows a))),(1,.d (.sl (D0.rows b))),(5,.d (.int .i64 i))] [] (Ret [] (.d (.bool res)))
abbrev J11 (a:List D0)(b:List D0)(x1:D0)(x2:D0)(i1:Int)(k:Int)(res:Bool):Prop:=LM C 147 0 Tryz.f51 [1,1,0,1,4,5,1,0,4,1,1,1,0,1,4] [(0,.d (.sl (D0.rows a))),(1,.d (.sl (D0.rows b))),(5,.d (.int .i64 i1)),(6,.ref 0 0),(7,.ref 1 0),(8,.d (.int .i64 k))] [.row (D0.cells x1) 144,.row (D0.cells x2) 144] (Ret [] (.d (.bool res)))
abbrev K11 (a:List D0)(b:List D0)(x1:D0)(x2:D0)(i2:Int)(k1:Int)(res:Bool):Prop:=LM C 147 0 Tryz.f51 [1,1,0,1,4,5,1,0,4,1,1,1,1,0,1,4] [(0,.d (.sl (D0.rows a))),(1,.d (.sl (D0.rows b))),(5,.d (.int .i64 i2)),(6,.ref 0 0),(7,.ref 1 0),(9,.d (.int .i64 k1))] [.row (D0.cells x1) 144,.row (D0.cells x2) 144] (Ret [] (.d (.bool res)))
theorem K13:(∀ a b res,M7 a b=some res→Zt a b res)∧(∀ a b i res,Wa a b i=some res→I11 a b i res)∧(∀ a b x1 x2 i1 k res,Xa a b x1 x2 i1 k=some res→J11 a b x1 x2 i1 k res)∧(∀ a b x1 x2 i2 k1 res,F8 a b x1 x2 i2 k1=some res→K11 a b x1 x2 i2 k1 res):=by
 refine M7.mutual_partial_correctness _ _ _ _ ?_ ?_ ?_ ?_
 ·intro g1 ih1 a b res hh
  refine O0.intro hC Tryz.func51 rfl rfl rfl (t' rfl (S' (p' 1 rfl (qe' rfl trivial (D0.lenA _) (q' rfl (qe' rfl trivial (D0.lenA _) (e' rfl (ci' rfl hh (fun hh=>?_) (fun hh=>?_)))))))))
  ·cases hh
   exact t' rfl (re' (rt' rfl rfl rfl))
  exact sk' (S' (t' rfl (bk' (fw' (ih1 _ _ _ _ hh) rfl rfl rfl))))
 ·intro g2 ih2 a b i res hh
  refine W0.unroll (S' (p' 2 rfl (qe' rfl trivial (D0.lenA _) (e' rfl (ci' rfl hh (fun hh=>?_) (fun hh=>?_))))))
  ·obtain ⟨x1,hx1,hh⟩:=bs' hh
   obtain ⟨x2,hx2,hh⟩:=bs' hh
   refine sk' (S' (bk' (p' 2 rfl (i' rfl (C1 hx1) (D0.idx hx1) rfl (q' rfl (F0.nf hC rfl (F0.s hC rfl (n' (p' 2 rfl (i' rfl (C1 hx2) (D0.idx hx2) rfl (q' rfl (F0.nf hC rfl (F0.s hC rfl ?_)))))))))))))
   refine n' (S' (sg' 51 rfl (G' 7 rfl (a1' rfl (a0' rfl (a1' rfl (a2' rfl (po' rfl (G' 2 rfl (a1' rfl (a0' rfl (a1' rfl (a2' rfl ?_)))))))))))))
   refine po' rfl (G' 2 rfl (a1' rfl (a0' rfl (a1' rfl (a2' rfl (po' rfl (G' 2 rfl (a1' rfl (a0' rfl (a1' rfl (a2' rfl (po' rfl (G' 2 rfl ?_)))))))))))))
   refine a1' rfl (AG.qe hC rfl (fun hg=>⟨⟨hg,trivial⟩,trivial⟩) (A0.lenA _) (a0' rfl (a1' rfl (AG.qe hC rfl (fun hg=>⟨⟨hg,trivial⟩,trivial⟩) (A0.lenA _) (a2' rfl (po' rfl (G' 2 rfl (a1' rfl (AG.qe hC rfl (fun hg=>⟨⟨hg,trivial⟩,trivial⟩) (ei64.lenA _) (a0' rfl (a1' rfl (AG.qe hC rfl (fun hg=>⟨⟨hg,trivial⟩,trivial⟩) (ei64.lenA _) (a2' rfl ?_)))))))))))))
   refine po' rfl (an' (n' (ci' rfl hh (fun hh=>?_) (fun hh=>?_))))
   ·cases hh
    exact t' rfl (re' (rt' rfl rfl rfl))
   exact sk' (S' (t' rfl (bk' (fw' (ih2 _ _ _ _ _ _ _ hh) rfl rfl rfl))))
  cases hh
  exact ex' (t' rfl (re' (rt' rfl rfl rfl)))
 ·intro g2 g3 ih2 ih3 a b x1 x2 i1 k res hh
  refine W0.unroll (S' (p' 3 rfl (qe' rfl trivial (A0.lenA _) (e' rfl (ci' rfl hh (fun hh=>?_) (fun hh=>?_))))))
  ·obtain ⟨x3,hx3,hh⟩:=bs' hh
   obtain ⟨x4,hx4,hh⟩:=bs' hh
   obtain ⟨x5,hx5,hh⟩:=bs' hh
   refine sk' (S' (bk' (S' (AEx.draw hC 12 rfl rfl rfl (O' 3 rfl (AQ.i hC rfl (C1 hx3) (A0.idx hx3) rfl (O' 4 rfl (AQ.i hC rfl (C1 hx4) (A0.idx hx4) rfl (Q' rfl (Qc' (Ub hx5) rfl rfl (E' rfl (n' (ci' rfl hh (fun hh=>?_) (fun hh=>?_))))))))))))))
   ·cases hh
    exact t' rfl (re' (rt' rfl rfl rfl))
   exact sk' (T' rfl (lw' (ih2 _ _ _ _ _ _ _ hh) rfl rfl rfl))
  exact ex' (S' (t' rfl (bk' (fw' (ih3 _ _ _ _ _ _ _ hh) rfl rfl rfl))))
 ·intro g0 g1 g3 ih0 ih1 ih3 a b x1 x2 i2 k1 res hh
  refine W0.unroll (S' (p' 3 rfl (qe' rfl trivial (ei64.lenA _) (e' rfl (ci' rfl hh (fun hh=>?_) (fun hh=>?_))))))
  ·obtain ⟨x6,hx6,hh⟩:=bs' hh
   obtain ⟨x7,hx7,hh⟩:=bs' hh
   refine sk' (S' (bk' (S' (AEx.draw hC 11 rfl rfl rfl (O' 3 rfl (AQ.i hC rfl (C1 hx6) (ei64.idx hx6) rfl (O' 4 rfl (AQ.i hC rfl (C1 hx7) (ei64.idx hx7) rfl (E' rfl (n' (ci' rfl hh (fun hh=>?_) (fun hh=>?_))))))))))))
   ·cases hh
    exact t' rfl (re' (rt' rfl rfl rfl))
   exact sk' (T' rfl (lw' (ih3 _ _ _ _ _ _ _ hh) rfl rfl rfl))
  obtain ⟨x8,hx8,hh⟩:=bs' hh
  obtain ⟨x9,hx9,hh⟩:=bs' hh
  obtain ⟨x10,hx10,hh⟩:=bs' hh
  obtain ⟨x11,hx11,hh⟩:=bs' hh
  refine ex' (sg' 30 rfl (G' 4 rfl (AG.c rfl rfl (fun _=>trivial) (fun _=>Ub hx8) (G' 3 rfl (a1' rfl (a0' rfl (a1' rfl (AG.c rfl rfl (fun hg=>⟨hg,hg,trivial⟩) (fun hw=>Ub (E1 hw hx9)) (a1' rfl (po' rfl (G' 2 rfl (a1' rfl (a0' rfl ?_)))))))))))))
  refine a1' rfl (AG.c rfl rfl (fun hg=>⟨hg,hg,trivial⟩) (fun hw=>ih0 _ _ _ (E1 hw hx10)) (a1' rfl (po' rfl (G' 2 rfl (a1' rfl (a0' rfl (a1' rfl (AG.c rfl rfl (fun hg=>⟨hg,hg,trivial⟩) (fun hw=>ih0 _ _ _ (E1 hw hx11)) (a1' rfl (po' rfl (an' (n' (ci' rfl hh (fun hh=>?_) (fun hh=>?_))))))))))))))
  ·cases hh
   exact t' rfl (re' (rt' rfl rfl rfl))
  exact sk' (T' rfl (lw' (ih1 _ _ _ _ hh) rfl rfl rfl))
theorem Ar {a b res}(hh:M7 a b=some res):Zt a b res:=(K13).1 _ _ _ hh
mutual
def J9 (a:List C0)(b:List C0):Option Bool:=
 if (((a).length:Int) != ((b).length:Int))=true then
  some false
 else
  Ya a b 0
 partial_fixpoint
def Ya (a:List C0)(b:List C0)(i:Int):Option Bool:=
 if (decide (i < ((a).length:Int)))=true then
  idx a i>>=fun x1=>
  idx b i>>=fun x2=>
  (if (!(bif (bif (x1.Kind != x2.Kind) then true else (!(x1.Name == x2.Name))) then true else (x1.Init != x2.Init)))=true then J8 x1.TypeV x2.TypeV else some default)>>=fun x3=>
  (if (!(bif (bif (bif (x1.Kind != x2.Kind) then true else (!(x1.Name == x2.Name))) then true else (x1.Init != x2.Init)) then true else (!x3)))=true then U3 x1.Value x2.Value else some default)>>=fun x4=>
  (if (!(bif (bif (bif (bif (x1.Kind != x2.Kind) then true else (!(x1.Name == x2.Name))) then true else (x1.Init != x2.Init)) then true else (!x3)) then true else (!x4)))=true then J9 x1.Params x2.Params else some default)>>=fun x5=>
  (if (!(bif (bif (bif (bif (bif (x1.Kind != x2.Kind) then true else (!(x1.Name == x2.Name))) then true else (x1.Init != x2.Init)) then true else (!x3)) then true else (!x4)) then true else (!x5)))=true then J9 x1.Vars x2.Vars else some default)>>=fun x6=>
  (if (!(bif (bif (bif (bif (bif (bif (x1.Kind != x2.Kind) then true else (!(x1.Name == x2.Name))) then true else (x1.Init != x2.Init)) then true else (!x3)) then true else (!x4)) then true else (!x5)) then true else (!x6)))=true then M7 x1.Body x2.Body else some default)>>=fun x7=>
  if (bif (bif (bif (bif (bif (bif (bif (x1.Kind != x2.Kind) then true else (!(x1.Name == x2.Name))) then true else (x1.Init != x2.Init)) then true else (!x3)) then true else (!x4)) then true else (!x5)) then true else (!x6)) then true else (!x7))=true then
   some false
  else
   Ya a b (IntKind.i64.wrap (i+1))
 else
  some true
 partial_fixpoint
end
abbrev Au (a:List C0)(b:List C0)(res:Bool):Prop:=O0 C 50 [.d (.sl (C0.rows a)),.d (.sl (C0.rows b))] [] (Ret [] (.d (.bool res)))
abbrev L11 (a:List C0)(b:List C0)(i:Int)(res:Bool):Prop:=LM C 86 0 Tryz.f50 [1,1,0,1,4] [(0,.d (.sl (C0.rows a))),(1,.d (.sl (C0.rows b))),(5,.d (.int .i64 i))] [] (Ret [] (.d (.bool res)))
theorem L13:(∀ a b res,J9 a b=some res→Au a b res)∧(∀ a b i res,Ya a b i=some res→L11 a b i res):=by
 refine J9.mutual_partial_correctness _ _ ?_ ?_
 ·intro g1 ih1 a b res hh
  refine O0.intro hC Tryz.func50 rfl rfl rfl (t' rfl (S' (p' 1 rfl (qe' rfl trivial (C0.lenA _) (q' rfl (qe' rfl trivial (C0.lenA _) (e' rfl (ci' rfl hh (fun hh=>?_) (fun hh=>?_)))))))))
  ·cases hh
   exact t' rfl (re' (rt' rfl rfl rfl))
  exact sk' (S' (t' rfl (bk' (fw' (ih1 _ _ _ _ hh) rfl rfl rfl))))
 ·intro g0 g1 ih0 ih1 a b i res hh
  refine W0.unroll (S' (p' 2 rfl (qe' rfl trivial (C0.lenA _) (e' rfl (ci' rfl hh (fun hh=>?_) (fun hh=>?_))))))
  ·obtain ⟨x1,hx1,hh⟩:=bs' hh
   obtain ⟨x2,hx2,hh⟩:=bs' hh
   obtain ⟨x3,hx3,hh⟩:=bs' hh
   obtain ⟨x4,hx4,hh⟩:=bs' hh
   obtain ⟨x5,hx5,hh⟩:=bs' hh
   obtain ⟨x6,hx6,hh⟩:=bs' hh
   obtain ⟨x7,hx7,hh⟩:=bs' hh
   refine sk' (S' (bk' (p' 2 rfl (i' rfl (C1 hx1) (C0.idx hx1) rfl (q' rfl (F0.nf hC rfl (F0.s hC rfl (n' (p' 2 rfl (i' rfl (C1 hx2) (C0.idx hx2) rfl (q' rfl (F0.nf hC rfl (F0.s hC rfl ?_)))))))))))))
   refine n' (sg' 59 rfl (G' 7 rfl (a1' rfl (a0' rfl (a1' rfl (a2' rfl (po' rfl (G' 2 rfl (a1' rfl (a0' rfl (a1' rfl (a2' rfl (po' rfl ?_)))))))))))))
   refine G' 2 rfl (a1' rfl (a0' rfl (a1' rfl (AG.c rfl rfl (fun hg=>⟨hg,hg,trivial⟩) (fun hw=>Ot (E1 hw hx3)) (a1' rfl (po' rfl (G' 2 rfl (a1' rfl (a0' rfl (a1' rfl (AG.c rfl rfl (fun hg=>⟨hg,hg,trivial⟩) (fun hw=>Ub (E1 hw hx4)) (a1' rfl (po' rfl ?_)))))))))))))
   refine G' 2 rfl (a1' rfl (a0' rfl (a1' rfl (AG.c rfl rfl (fun hg=>⟨hg,hg,trivial⟩) (fun hw=>ih0 _ _ _ (E1 hw hx5)) (a1' rfl (po' rfl (G' 2 rfl (a1' rfl (a0' rfl (a1' rfl (AG.c rfl rfl (fun hg=>⟨hg,hg,trivial⟩) (fun hw=>ih0 _ _ _ (E1 hw hx6)) (a1' rfl (po' rfl ?_)))))))))))))
   refine G' 2 rfl (a1' rfl (a0' rfl (a1' rfl (AG.c rfl rfl (fun hg=>⟨hg,hg,trivial⟩) (fun hw=>Ar (E1 hw hx7)) (a1' rfl (po' rfl (an' (n' (ci' rfl hh (fun hh=>?_) (fun hh=>?_))))))))))
   ·cases hh
    exact t' rfl (re' (rt' rfl rfl rfl))
   exact sk' (T' rfl (lw' (ih1 _ _ _ _ hh) rfl rfl rfl))
  cases hh
  exact ex' (t' rfl (re' (rt' rfl rfl rfl)))
theorem M15 {a b res}(hh:J9 a b=some res):Au a b res:=(L13).1 _ _ _ hh
def Wn (p:A1)(q:A1):Option Bool:=
 J9 p.Decls q.Decls>>=fun x1=>
 (if x1=true then M7 p.Body q.Body else some default)>>=fun x2=>
 some (bif x1 then x2 else false)
theorem A1e {p q res}(hh:Wn p q=some res):O0 C 23 [.agg (A1.cells p),.agg (A1.cells q)] [] (Ret [] (.d (.bool res))):=by
 unfold Wn at hh
 obtain ⟨x1,hx1,hh⟩:=bs' hh
 obtain ⟨x2,hx2,hh⟩:=bs' hh
 cases hh
 refine O0.intro hC Tryz.func23 rfl rfl rfl (s' rfl rfl (F0.n hC rfl (F0.n hC rfl (e' rfl (sg' 13 rfl (G' 4 rfl (AG.c rfl rfl (fun _=>trivial) (fun _=>M15 hx1) (G' 2 rfl (a1' rfl (a0' rfl (a1' rfl (AG.c rfl rfl (fun hg=>⟨hg,hg,trivial⟩) (fun hw=>Ar (E1 hw hx2)) (pa' rfl ?_)))))))))))))
 exact a0' rfl (an' (n' (re' (rt' rfl rfl rfl))))
def Rh (text:Str):Option Bool:=
 Ci>>=fun x1=>
 if (!x1)=true then
  some false
 else
  if (decide (((text).length:Int) > 2000))=true then
   some true
  else
   Cm text>>=fun x2=>
   Vn text>>=fun x3=>
   (if (bif (x2.2.2 == x3.2.2) then (x2.2.1 == x3.2.1) else false)=true then Wn x2.1 x3.1 else some default)>>=fun x4=>
   some (bif (bif (x2.2.2 == x3.2.2) then (x2.2.1 == x3.2.1) else false) then x4 else false)
theorem M11 {text res}(hh:Rh text=some res):O0 C 6 [.d (.str text)] [] (Ret [] (.d (.bool res))):=by
 unfold Rh at hh
 obtain ⟨x1,hx1,hh⟩:=bs' hh
 refine O0.intro hC Tryz.func6 rfl rfl rfl (t' rfl (S' (s' rfl rfl (c' (R1d hx1) rfl rfl (e' rfl (ci' rfl hh (fun hh=>?_) (fun hh=>?_)))))))
 ·cases hh
  exact t' rfl (re' (rt' rfl rfl rfl))
 refine sk' (S' (t' rfl (ci' rfl hh (fun hh=>?_) (fun hh=>?_))))
 ·cases hh
  exact t' rfl (re' (rt' rfl rfl rfl))
 obtain ⟨x2,hx2,hh⟩:=bs' hh
 obtain ⟨x3,hx3,hh⟩:=bs' hh
 obtain ⟨x4,hx4,hh⟩:=bs' hh
 cases hh
 refine sk' (p' 1 rfl (c' (J1c hx2) rfl rfl (o' 4 rfl (F0.nf hC rfl (F0.s hC rfl (e' rfl (p' 1 rfl (c' (Z1d hx3) rfl rfl (o' 4 rfl (F0.nf hC rfl (F0.s hC rfl (e' rfl (sg' 14 rfl ?_)))))))))))))
 exact G' 6 rfl (a2' rfl (pa' rfl (G' 3 rfl (AG.c rfl rfl (fun hg=>⟨hg,hg,trivial⟩) (fun hw=>A1e (E1 hw hx4)) (pa' rfl (a0' rfl (an' (n' (re' (rt' rfl rfl rfl))))))))))
end Go.Proofs.YtmnhfbekncjnfaaGreatDoor

set_option maxRecDepth 100000
set_option maxHeartbeats 4000000
set_option synthInstance.maxSize 20000
set_option linter.unusedVariables false
namespace Go.Proofs.YtmnhfbekncjnfaaGreatDoor
open Go.Am
def Ug (fu:Nat)(c:Int):Option Bool:=
 some (bif (decide (c≥97)) then (decide (c≤122)) else false)
theorem Hn (fu:Nat)(c:Int):Le (Ug fu c) (Sb c):=by
 unfold Ug Sb
 repeat (first | exact Le.rfl | exact D1 _ | refine Le.bind ?_ (fun _=>?_) | refine Le.ite ?_ ?_ | (rename_i x; cases x))
def Ze (fu:Nat)(c:Int):Option Bool:=
 some (bif (decide (c≥48)) then (decide (c≤57)) else false)
theorem Hk (fu:Nat)(c:Int):Le (Ze fu c) (M9 c):=by
 unfold Ze M9
 repeat (first | exact Le.rfl | exact D1 _ | refine Le.bind ?_ (fun _=>?_) | refine Le.ite ?_ ?_ | (rename_i x; cases x))
def Gj:Nat→Str→Int→Option Int
 | 0,_,_=>none
 | fu+1,s,i1=>
  (if (decide (i1 < ((s).length:Int)))=true then idx s i1 else some default)>>=fun x1=>
  (if (decide (i1 < ((s).length:Int)))=true then Ug fu (x1.toNat:Int) else some default)>>=fun x2=>
  (if ((decide (i1 < ((s).length:Int)))&&(!x2))=true then idx s i1 else some default)>>=fun x3=>
  (if ((decide (i1 < ((s).length:Int)))&&(!x2))=true then Ze fu (x3.toNat:Int) else some default)>>=fun x4=>
  if (bif (decide (i1 < ((s).length:Int))) then (bif x2 then true else x4) else false)=true then
   Gj fu s (IntKind.i64.wrap (i1+1))
  else
   some i1
theorem G1a (fu:Nat):(∀ (s:Str) (i1:Int),Le (Gj fu s i1) (W8 s i1)):=by
 induction fu with
 | zero=>exact fun _ _=>Le.none
 | succ fu ih=>
  have ih0:=ih
  refine fun s i1=>?_
  ·rw [Gj,W8]
   repeat (first | exact Le.rfl | exact ih0 _ _ | exact Hn fu _ | exact Hk fu _ | exact D1 _ | refine Le.bind ?_ (fun _=>?_) | refine Le.ite ?_ ?_ | (rename_i x; cases x))
theorem M1c (fu:Nat)(s:Str)(i1:Int):Le (Gj fu s i1) (W8 s i1):=(G1a fu) s i1
def Qs (fu:Nat)(s:Str)(i:Int):Option Int:=
 Gj fu s i
theorem X1h (fu:Nat)(s:Str)(i:Int):Le (Qs fu s i) (Tl s i):=by
 unfold Qs Tl
 repeat (first | exact Le.rfl | exact M1c fu _ _ | exact D1 _ | refine Le.bind ?_ (fun _=>?_) | refine Le.ite ?_ ?_ | (rename_i x; cases x))
def Ik (fu:Nat)(word:Str):Option Bool:=
 (if (!(word == []))=true then Ck word [32] else some default)>>=fun x1=>
 if (!(bif (!(word == [])) then (!x1) else false)||(decide (1+word.length≤maxLen)))=true then
  if (!(bif (!(word == [])) then (!x1) else false)||(decide (([32]++word).length+1≤maxLen)))=true then
   (if (bif (!(word == [])) then (!x1) else false)=true then Ck [32,116,121,112,101,32,115,101,99,114,101,116,32,112,117,98,108,105,99,32,114,97,110,100,111,109,32,118,97,114,32,104,97,116,99,104,32,102,117,110,99,32,114,101,116,117,114,110,32,98,101,103,105,110,32,101,110,100,32,98,111,111,108,32,105,110,116,32,97,114,114,97,121,32,111,102,32,114,101,99,111,114,100,32,116,114,117,101,32,102,97,108,115,101,32,99,97,108,108,32,114,101,108,101,97,115,101,32,111,117,116,112,117,116,32,119,97,105,116,32,105,102,32,101,108,115,101,32,119,104,105,108,101,32,108,105,109,105,116,32,102,111,114,32,116,111,32,115,101,116,116,108,101,32,109,105,110,32,109,97,120,32] (([32]++word)++[32]) else some default)>>=fun x2=>
   some (bif (bif (!(word == [])) then (!x1) else false) then x2 else false)
  else none
 else none
theorem Ov (fu:Nat)(word:Str):Le (Ik fu word) (Q9 word):=by
 unfold Ik Q9
 repeat (first | exact Le.rfl | exact D1 _ | refine Le.bind ?_ (fun _=>?_) | refine Le.ite ?_ ?_ | (rename_i x; cases x))
def Gf:Nat→Str→Int→Int→Option Int
 | 0,_,_,_=>none
 | fu+1,s,n,v7=>
  if (decide (v7 < ((s).length:Int)))=true then
   idx s v7>>=fun x1=>
   Ze fu (x1.toNat:Int)>>=fun x2=>
   if (!x2)=true then
    some 6
   else
    idx s v7>>=fun x3=>
    Gf fu s (min (IntKind.i64.wrap ((IntKind.i64.wrap (10 * n))+(IntKind.i64.wrap (IntKind.u8.wrap ((x3.toNat:Int) - 48))))) 1048577) (IntKind.i64.wrap (v7+1))
  else
   idx s 0>>=fun x4=>
   if (bif ((x4.toNat:Int) == 48) then (decide (((s).length:Int) > 1)) else false)=true then
    some 6
   else
    if (decide (n > 1048576))=true then
     some 3
    else
     some 0
theorem N15 (fu:Nat):(∀ (s:Str) (n:Int) (v7:Int),Le (Gf fu s n v7) (I5 s n v7)):=by
 induction fu with
 | zero=>exact fun _ _ _=>Le.none
 | succ fu ih=>
  have ih0:=ih
  refine fun s n v7=>?_
  ·rw [Gf,I5]
   repeat (first | exact Le.rfl | exact ih0 _ _ _ | exact Hk fu _ | exact D1 _ | refine Le.bind ?_ (fun _=>?_) | refine Le.ite ?_ ?_ | (rename_i x; cases x))
theorem I17 (fu:Nat)(s:Str)(n:Int)(v7:Int):Le (Gf fu s n v7) (I5 s n v7):=(N15 fu) s n v7
def Vr (fu:Nat)(s:Str):Option Int:=
 Gf fu s 0 0
theorem N1c (fu:Nat)(s:Str):Le (Vr fu s) (Qi s):=by
 unfold Vr Qi
 repeat (first | exact Le.rfl | exact I17 fu _ _ _ | exact D1 _ | refine Le.bind ?_ (fun _=>?_) | refine Le.ite ?_ ?_ | (rename_i x; cases x))
def Ol (fu:Nat)(s:Str):Option Str:=
 idx s 0>>=fun x3=>
 Ms [59,58,44,46,61,43,45,42,47,37,60,62,33,63,40,41,91,93,123,125] (x3.toNat:Int)>>=fun x4=>
 if (decide (x4≥0))=true then
  slc s 0 1>>=fun x5=>
  some x5
 else
  some []
theorem Mx (fu:Nat)(s:Str):Le (Ol fu s) (Gd s):=by
 unfold Ol Gd
 repeat (first | exact Le.rfl | exact D1 _ | refine Le.bind ?_ (fun _=>?_) | refine Le.ite ?_ ?_ | (rename_i x; cases x))
def L8 (fu:Nat)(s:Str)(v8:Bool):Option Str:=
 if v8=true then
  slc s 0 2>>=fun x2=>
  some x2
 else
  Ol fu s
theorem H1a (fu:Nat)(s:Str)(v8:Bool):Le (L8 fu s v8) (O6 s v8):=by
 unfold L8 O6
 repeat (first | exact Le.rfl | exact Mx fu _ | exact D1 _ | refine Le.bind ?_ (fun _=>?_) | refine Le.ite ?_ ?_ | (rename_i x; cases x))
def Nx (fu:Nat)(s:Str):Option Str:=
 if (decide (((s).length:Int)≥2))=true then
  slc s 0 2>>=fun x1=>
  if (x1 == [46,46])=true then
   L8 fu s (x1 == [46,46])
  else
   if (x1 == [61,61])=true then
    L8 fu s (x1 == [61,61])
   else
    if (x1 == [33,61])=true then
     L8 fu s (x1 == [33,61])
    else
     if (x1 == [60,61])=true then
      L8 fu s (x1 == [60,61])
     else
      if (x1 == [62,61])=true then
       L8 fu s (x1 == [62,61])
      else
       if (x1 == [38,38])=true then
        L8 fu s (x1 == [38,38])
       else
        L8 fu s (x1 == [124,124])
 else
  Ol fu s
theorem F1g (fu:Nat)(s:Str):Le (Nx fu s) (Qf s):=by
 unfold Nx Qf
 repeat (first | exact Le.rfl | exact H1a fu _ _ | exact Mx fu _ | exact D1 _ | refine Le.bind ?_ (fun _=>?_) | refine Le.ite ?_ ?_ | (rename_i x; cases x))
def Ox (fu:Nat)(s:Str)(i:Int):Option (K0×Int):=
 idx s i>>=fun x1=>
 Ug fu (x1.toNat:Int)>>=fun x2=>
 if x2=true then
  Qs fu s i>>=fun x3=>
  slc s i x3>>=fun x4=>
  Ik fu x4>>=fun x5=>
  if x5=true then
   some ((K0.mk 2 x4 i),0)
  else
   if (decide (((x4).length:Int) > 12))=true then
    some ((K0.mk 0 x4 i),7)
   else
    some ((K0.mk 0 x4 i),0)
 else
  Ze fu (x1.toNat:Int)>>=fun x6=>
  if x6=true then
   Qs fu s i>>=fun x7=>
   slc s i x7>>=fun x8=>
   Vr fu x8>>=fun x9=>
   some ((K0.mk 1 x8 i),x9)
  else
   slc s i ((s).length:Int)>>=fun x10=>
   Nx fu x10>>=fun x11=>
   if (x11 == [])=true then
    some ((K0.mk 3 x11 i),6)
   else
    some ((K0.mk 3 x11 i),0)
theorem Ou (fu:Nat)(s:Str)(i:Int):Le (Ox fu s i) (Mh s i):=by
 unfold Ox Mh
 repeat (first | exact Le.rfl | exact Hn fu _ | exact X1h fu _ _ | exact Ov fu _ | exact Hk fu _ | exact N1c fu _ | exact F1g fu _ | exact D1 _ | refine Le.bind ?_ (fun _=>?_) | refine Le.ite ?_ ?_ | (rename_i x; cases x))
mutual
def Zd:Nat→Str→(List K0)→Int→Option (List K0×Int×Int)
 | 0,_,_,_=>none
 | fu+1,s,out,i=>
  if (decide (i < ((s).length:Int)))=true then
   idx s i>>=fun x1=>
   if ((x1.toNat:Int) == 32)=true then
    Hj fu s out i x1 ((x1.toNat:Int) == 32)
   else
    if ((x1.toNat:Int) == 9)=true then
     Hj fu s out i x1 ((x1.toNat:Int) == 9)
    else
     Hj fu s out i x1 ((x1.toNat:Int) == 10)
  else
   some (out,0,0)
def Hj:Nat→Str→(List K0)→Int→UInt8→Bool→Option (List K0×Int×Int)
 | 0,_,_,_,_,_=>none
 | fu+1,s,out1,i1,x1,v19=>
  if v19=true then
   Zd fu s out1 (IntKind.i64.wrap (i1+1))
  else
   if ((x1.toNat:Int) == 35)=true then
    Cn fu s out1 i1
   else
    Ox fu s i1>>=fun x2=>
    if (x2.2 != 0)=true then
     some ([],i1,x2.2)
    else
     if (decide ((out1.length+1) * 33≤140737488355328))=true then
      Zd fu s (out1++[x2.1]) (IntKind.i64.wrap (i1+((x2.1.Text).length:Int)))
     else none
def Cn:Nat→Str→(List K0)→Int→Option (List K0×Int×Int)
 | 0,_,_,_=>none
 | fu+1,s,out2,i2=>
  (if (decide (i2 < ((s).length:Int)))=true then idx s i2 else some default)>>=fun x3=>
  if (bif (decide (i2 < ((s).length:Int))) then ((x3.toNat:Int) != 10) else false)=true then
   Cn fu s out2 (IntKind.i64.wrap (i2+1))
  else
   Zd fu s out2 i2
end
theorem I1a (fu:Nat):(∀ (s:Str) (out:List K0) (i:Int),Le (Zd fu s out i) (F4 s out i))∧(∀ (s:Str) (out1:List K0) (i1:Int) (x1:UInt8) (v19:Bool),Le (Hj fu s out1 i1 x1 v19) (Ie s out1 i1 x1 v19))∧(∀ (s:Str) (out2:List K0) (i2:Int),Le (Cn fu s out2 i2) (Ab s out2 i2)):=by
 induction fu with
 | zero=>exact ⟨fun _ _ _=>Le.none,fun _ _ _ _ _=>Le.none,fun _ _ _=>Le.none⟩
 | succ fu ih=>
  obtain ⟨ih0,ih1,ih2⟩:=ih
  refine ⟨fun s out i=>?_,fun s out1 i1 x1 v19=>?_,fun s out2 i2=>?_⟩
  ·rw [Zd,F4]
   repeat (first | exact Le.rfl | exact ih0 _ _ _ | exact ih1 _ _ _ _ _ | exact ih2 _ _ _ | exact Ou fu _ _ | exact D1 _ | refine Le.bind ?_ (fun _=>?_) | refine Le.ite ?_ ?_ | (rename_i x; cases x))
  ·rw [Hj,Ie]
   repeat (first | exact Le.rfl | exact ih0 _ _ _ | exact ih1 _ _ _ _ _ | exact ih2 _ _ _ | exact Ou fu _ _ | exact D1 _ | refine Le.bind ?_ (fun _=>?_) | refine Le.ite ?_ ?_ | (rename_i x; cases x))
  ·rw [Cn,Ab]
   repeat (first | exact Le.rfl | exact ih0 _ _ _ | exact ih1 _ _ _ _ _ | exact ih2 _ _ _ | exact Ou fu _ _ | exact D1 _ | refine Le.bind ?_ (fun _=>?_) | refine Le.ite ?_ ?_ | (rename_i x; cases x))
theorem O1c (fu:Nat)(s:Str)(out:List K0)(i:Int):Le (Zd fu s out i) (F4 s out i):=(I1a fu).1 s out i
def Pz (fu:Nat)(s:Str):Option (List K0×Int×Int):=
 if (decide (((s).length:Int) > 8192))=true then
  some ([],0,5)
 else
  Zd fu s [] 0
theorem Y1h (fu:Nat)(s:Str):Le (Pz fu s) (Qj s):=by
 unfold Pz Qj
 repeat (first | exact Le.rfl | exact O1c fu _ _ _ | exact D1 _ | refine Le.bind ?_ (fun _=>?_) | refine Le.ite ?_ ?_ | (rename_i x; cases x))
def Im (fu:Nat)(text:Str)(parserParser:B0):Option Bool:=
 if (decide (parserParser.next≥((parserParser.tokens).length:Int)))=true then
  some false
 else
  idx parserParser.tokens parserParser.next>>=fun x1=>
  some (bif (x1.Text == text) then (bif (x1.Kind == 2) then true else (x1.Kind == 3)) else false)
theorem O15 (fu:Nat)(text:Str)(parserParser:B0):Le (Im fu text parserParser) (X8 text parserParser):=by
 unfold Im X8
 repeat (first | exact Le.rfl | exact D1 _ | refine Le.bind ?_ (fun _=>?_) | refine Le.ite ?_ ?_ | (rename_i x; cases x))
def O1 (fu:Nat)(text:Str)(parserParser:B0):Option (Bool×B0):=
 Im fu text parserParser>>=fun x1=>
 if (!x1)=true then
  some (false,parserParser)
 else
  some (true,(B0.mk parserParser.tokens (IntKind.i64.wrap (parserParser.next+1)) parserParser.endV))
theorem L1 (fu:Nat)(text:Str)(parserParser:B0):Le (O1 fu text parserParser) (R0 text parserParser):=by
 unfold O1 R0
 repeat (first | exact Le.rfl | exact O15 fu _ _ | exact D1 _ | refine Le.bind ?_ (fun _=>?_) | refine Le.ite ?_ ?_ | (rename_i x; cases x))
def Ei (fu:Nat)(parserParser:B0):Option Bool:=
 (if (decide (parserParser.next < ((parserParser.tokens).length:Int)))=true then idx parserParser.tokens parserParser.next else some default)>>=fun x1=>
 some (bif (decide (parserParser.next < ((parserParser.tokens).length:Int))) then (x1.Kind == 0) else false)
theorem T1 (fu:Nat)(parserParser:B0):Le (Ei fu parserParser) (Z4 parserParser):=by
 unfold Ei Z4
 repeat (first | exact Le.rfl | exact D1 _ | refine Le.bind ?_ (fun _=>?_) | refine Le.ite ?_ ?_ | (rename_i x; cases x))
def Vc (fu:Nat)(parserParser:B0):Option (Pn Unit):=
 if (decide (parserParser.next < ((parserParser.tokens).length:Int)))=true then
  idx parserParser.tokens parserParser.next>>=fun x1=>
  some (.pn x1.At)
 else
  some (.pn parserParser.endV)
theorem Ij (fu:Nat)(parserParser:B0):Le (Vc fu parserParser) (F5 parserParser):=by
 unfold Vc F5
 repeat (first | exact Le.rfl | exact D1 _ | refine Le.bind ?_ (fun _=>?_) | refine Le.ite ?_ ?_ | (rename_i x; cases x))
def Jd (fu:Nat)(parserParser:B0):Option (Pn (Str×B0)):=
 idx parserParser.tokens (IntKind.i64.wrap ((IntKind.i64.wrap (parserParser.next+1)) - 1))>>=fun x3=>
 some (.ok (x3.Text,(B0.mk parserParser.tokens (IntKind.i64.wrap (parserParser.next+1)) parserParser.endV)))
theorem Px (fu:Nat)(parserParser:B0):Le (Jd fu parserParser) (P6 parserParser):=by
 unfold Jd P6
 repeat (first | exact Le.rfl | exact D1 _ | refine Le.bind ?_ (fun _=>?_) | refine Le.ite ?_ ?_ | (rename_i x; cases x))
def Tf (fu:Nat)(k:Int)(parserParser:B0):Option (Pn (Str×B0)):=
 (if (!(decide (parserParser.next≥((parserParser.tokens).length:Int))))=true then idx parserParser.tokens parserParser.next else some default)>>=fun x1=>
 if (bif (decide (parserParser.next≥((parserParser.tokens).length:Int))) then true else (x1.Kind != k))=true then
  Vc fu parserParser>>=fun x2=>match x2 with
  | .pn nn=>
  some (.pn nn)
  | .ok x2=>
  Jd fu parserParser
 else
  Jd fu parserParser
theorem Xo (fu:Nat)(k:Int)(parserParser:B0):Le (Tf fu k parserParser) (Y6 k parserParser):=by
 unfold Tf Y6
 repeat (first | exact Le.rfl | exact Ij fu _ | exact Px fu _ | exact D1 _ | refine Le.bind ?_ (fun _=>?_) | refine Le.ite ?_ ?_ | (rename_i x; cases x))
def Uf (fu:Nat)(parserParser:B0):Option (Pn (Str×B0)):=
 Tf fu 0 parserParser>>=fun x1=>match x1 with
 | .pn nn=>
 some (.pn nn)
 | .ok x1=>
 some (.ok (x1.1,x1.2))
theorem X1 (fu:Nat)(parserParser:B0):Le (Uf fu parserParser) (X2 parserParser):=by
 unfold Uf X2
 repeat (first | exact Le.rfl | exact Xo fu _ _ | exact D1 _ | refine Le.bind ?_ (fun _=>?_) | refine Le.ite ?_ ?_ | (rename_i x; cases x))
def C6 (fu:Nat)(text:Str)(parserParser:B0):Option (Pn B0):=
 O1 fu text parserParser>>=fun x1=>
 if (!x1.1)=true then
  Vc fu x1.2>>=fun x2=>match x2 with
  | .pn nn=>
  some (.pn nn)
  | .ok x2=>
  some (.ok x1.2)
 else
  some (.ok x1.2)
theorem Y1 (fu:Nat)(text:Str)(parserParser:B0):Le (C6 fu text parserParser) (T0 text parserParser):=by
 unfold C6 T0
 repeat (first | exact Le.rfl | exact L1 fu _ _ | exact Ij fu _ | exact D1 _ | refine Le.bind ?_ (fun _=>?_) | refine Le.ite ?_ ?_ | (rename_i x; cases x))
def Fi (fu:Nat)(parserParser:B0):Option (Pn (Int×B0)):=
 Tf fu 1 parserParser>>=fun x1=>match x1 with
 | .pn nn=>
 some (.pn nn)
 | .ok x1=>
 I10 x1.1>>=fun x2=>
 some (.ok (x2,x1.2))
theorem U1 (fu:Nat)(parserParser:B0):Le (Fi fu parserParser) (A5 parserParser):=by
 unfold Fi A5
 repeat (first | exact Le.rfl | exact Xo fu _ _ | exact D1 _ | refine Le.bind ?_ (fun _=>?_) | refine Le.ite ?_ ?_ | (rename_i x; cases x))
def Vf (fu:Nat)(parserParser:B0):Option (Int×Bool×B0):=
 O1 fu [42] parserParser>>=fun x1=>
 if x1.1=true then
  some (10,true,x1.2)
 else
  O1 fu [47] x1.2>>=fun x2=>
  if x2.1=true then
   some (11,true,x2.2)
  else
   O1 fu [37] x2.2>>=fun x3=>
   some (12,x3.1,x3.2)
theorem N1 (fu:Nat)(parserParser:B0):Le (Vf fu parserParser) (R5 parserParser):=by
 unfold Vf R5
 repeat (first | exact Le.rfl | exact L1 fu _ _ | exact D1 _ | refine Le.bind ?_ (fun _=>?_) | refine Le.ite ?_ ?_ | (rename_i x; cases x))
def Jj (fu:Nat)(parserParser:B0):Option (Int×Bool×B0):=
 O1 fu [43] parserParser>>=fun x1=>
 if x1.1=true then
  some (8,true,x1.2)
 else
  O1 fu [45] x1.2>>=fun x2=>
  some (9,x2.1,x2.2)
theorem V1 (fu:Nat)(parserParser:B0):Le (Jj fu parserParser) (C8 parserParser):=by
 unfold Jj C8
 repeat (first | exact Le.rfl | exact L1 fu _ _ | exact D1 _ | refine Le.bind ?_ (fun _=>?_) | refine Le.ite ?_ ?_ | (rename_i x; cases x))
def Kj (fu:Nat)(parserParser:B0):Option (Int×Bool×B0):=
 O1 fu [38,38] parserParser>>=fun x1=>
 some (19,x1.1,x1.2)
theorem W1 (fu:Nat)(parserParser:B0):Le (Kj fu parserParser) (D8 parserParser):=by
 unfold Kj D8
 repeat (first | exact Le.rfl | exact L1 fu _ _ | exact D1 _ | refine Le.bind ?_ (fun _=>?_) | refine Le.ite ?_ ?_ | (rename_i x; cases x))
def Jk (fu:Nat)(parserParser:B0):Option (Int×Bool×B0):=
 O1 fu [124,124] parserParser>>=fun x1=>
 some (20,x1.1,x1.2)
theorem Z1 (fu:Nat)(parserParser:B0):Le (Jk fu parserParser) (Y8 parserParser):=by
 unfold Jk Y8
 repeat (first | exact Le.rfl | exact L1 fu _ _ | exact D1 _ | refine Le.bind ?_ (fun _=>?_) | refine Le.ite ?_ ?_ | (rename_i x; cases x))
mutual
def D3:Nat→B0→Option (Pn (A0×B0))
 | 0,_=>none
 | fu+1,parserParser=>
  Jm fu parserParser>>=fun x1=>match x1 with
  | .pn nn=>
  some (.pn nn)
  | .ok x1=>
  O1 fu [63] x1.2>>=fun x2=>
  if (!x2.1)=true then
   some (.ok (x1.1,x2.2))
  else
   D3 fu x2.2>>=fun x3=>match x3 with
   | .pn nn=>
   some (.pn nn)
   | .ok x3=>
   C6 fu [58] x3.2>>=fun x4=>match x4 with
   | .pn nn=>
   some (.pn nn)
   | .ok x4=>
   D3 fu x4>>=fun x5=>match x5 with
   | .pn nn=>
   some (.pn nn)
   | .ok x5=>
   some (.ok ((A0.mk 23 0 [] [x1.1,x3.1,x5.1]),x5.2))
def Jm:Nat→B0→Option (Pn (A0×B0))
 | 0,_=>none
 | fu+1,parserParser=>
  Lj fu parserParser>>=fun x1=>match x1 with
  | .pn nn=>
  some (.pn nn)
  | .ok x1=>
  some (.ok (x1.1,x1.2))
def Lj:Nat→B0→Option (Pn (A0×B0))
 | 0,_=>none
 | fu+1,parserParser=>
  Ch fu parserParser>>=fun x1=>match x1 with
  | .pn nn=>
  some (.pn nn)
  | .ok x1=>
  Wc fu x1.2 x1.1
def Ch:Nat→B0→Option (Pn (A0×B0))
 | 0,_=>none
 | fu+1,parserParser=>
  Vg fu parserParser>>=fun x1=>match x1 with
  | .pn nn=>
  some (.pn nn)
  | .ok x1=>
  some (.ok (x1.1,x1.2))
def Vg:Nat→B0→Option (Pn (A0×B0))
 | 0,_=>none
 | fu+1,parserParser=>
  Kb fu parserParser>>=fun x1=>match x1 with
  | .pn nn=>
  some (.pn nn)
  | .ok x1=>
  Ra fu x1.2 x1.1
def Kb:Nat→B0→Option (Pn (A0×B0))
 | 0,_=>none
 | fu+1,parserParser=>
  Dh fu parserParser>>=fun x1=>match x1 with
  | .pn nn=>
  some (.pn nn)
  | .ok x1=>
  O1 fu [61,61] x1.2>>=fun x2=>
  if x2.1=true then
   N3 fu x2.2 x1 13
  else
   O1 fu [33,61] x2.2>>=fun x4=>
   if x4.1=true then
    N3 fu x4.2 x1 14
   else
    O1 fu [60] x4.2>>=fun x5=>
    if x5.1=true then
     N3 fu x5.2 x1 15
    else
     O1 fu [60,61] x5.2>>=fun x6=>
     if x6.1=true then
      N3 fu x6.2 x1 16
     else
      O1 fu [62] x6.2>>=fun x7=>
      if x7.1=true then
       N3 fu x7.2 x1 17
      else
       O1 fu [62,61] x7.2>>=fun x8=>
       if x8.1=true then
        N3 fu x8.2 x1 18
       else
        some (.ok (x1.1,x8.2))
def Dh:Nat→B0→Option (Pn (A0×B0))
 | 0,_=>none
 | fu+1,parserParser=>
  Wg fu parserParser>>=fun x1=>match x1 with
  | .pn nn=>
  some (.pn nn)
  | .ok x1=>
  some (.ok (x1.1,x1.2))
def Wg:Nat→B0→Option (Pn (A0×B0))
 | 0,_=>none
 | fu+1,parserParser=>
  Kd fu parserParser>>=fun x1=>match x1 with
  | .pn nn=>
  some (.pn nn)
  | .ok x1=>
  Qa fu x1.2 x1.1
def Kd:Nat→B0→Option (Pn (A0×B0))
 | 0,_=>none
 | fu+1,parserParser=>
  Xg fu parserParser>>=fun x1=>match x1 with
  | .pn nn=>
  some (.pn nn)
  | .ok x1=>
  some (.ok (x1.1,x1.2))
def Xg:Nat→B0→Option (Pn (A0×B0))
 | 0,_=>none
 | fu+1,parserParser=>
  T8 fu parserParser>>=fun x1=>match x1 with
  | .pn nn=>
  some (.pn nn)
  | .ok x1=>
  Pa fu x1.2 x1.1
def T8:Nat→B0→Option (Pn (A0×B0))
 | 0,_=>none
 | fu+1,parserParser=>
  O1 fu [45] parserParser>>=fun x1=>
  if x1.1=true then
   T8 fu x1.2>>=fun x4=>match x4 with
   | .pn nn=>
   some (.pn nn)
   | .ok x4=>
   some (.ok ((A0.mk 6 0 [] [x4.1]),x4.2))
  else
   O1 fu [33] x1.2>>=fun x2=>
   if x2.1=true then
    T8 fu x2.2>>=fun x5=>match x5 with
    | .pn nn=>
    some (.pn nn)
    | .ok x5=>
    some (.ok ((A0.mk 7 0 [] [x5.1]),x5.2))
   else
    Hh fu x2.2>>=fun x3=>match x3 with
    | .pn nn=>
    some (.pn nn)
    | .ok x3=>
    some (.ok (x3.1,x3.2))
def Hh:Nat→B0→Option (Pn (A0×B0))
 | 0,_=>none
 | fu+1,parserParser=>
  Ei fu parserParser>>=fun x1=>
  if x1=true then
   Mj fu parserParser>>=fun x2=>match x2 with
   | .pn nn=>
   some (.pn nn)
   | .ok x2=>
   some (.ok (x2.1,x2.2))
  else
   O1 fu [116,114,117,101] parserParser>>=fun x3=>
   if x3.1=true then
    some (.ok ((A0.mk 1 0 [] []),x3.2))
   else
    O1 fu [102,97,108,115,101] x3.2>>=fun x4=>
    if x4.1=true then
     some (.ok ((A0.mk 2 0 [] []),x4.2))
    else
     O1 fu [109,105,110] x4.2>>=fun x5=>
     if x5.1=true then
      Wf fu 21 x5.2>>=fun x11=>match x11 with
      | .pn nn=>
      some (.pn nn)
      | .ok x11=>
      some (.ok (x11.1,x11.2))
     else
      O1 fu [109,97,120] x5.2>>=fun x6=>
      if x6.1=true then
       Wf fu 22 x6.2>>=fun x12=>match x12 with
       | .pn nn=>
       some (.pn nn)
       | .ok x12=>
       some (.ok (x12.1,x12.2))
      else
       O1 fu [40] x6.2>>=fun x7=>
       if x7.1=true then
        D3 fu x7.2>>=fun x9=>match x9 with
        | .pn nn=>
        some (.pn nn)
        | .ok x9=>
        C6 fu [41] x9.2>>=fun x10=>match x10 with
        | .pn nn=>
        some (.pn nn)
        | .ok x10=>
        some (.ok (x9.1,x10))
       else
        Fi fu x7.2>>=fun x8=>match x8 with
        | .pn nn=>
        some (.pn nn)
        | .ok x8=>
        some (.ok ((A0.mk 0 x8.1 [] []),x8.2))
def Mj:Nat→B0→Option (Pn (A0×B0))
 | 0,_=>none
 | fu+1,parserParser=>
  Uf fu parserParser>>=fun x1=>match x1 with
  | .pn nn=>
  some (.pn nn)
  | .ok x1=>
  K9 fu x1.2 3 x1.1 []
def K9:Nat→B0→Int→Str→(List A0)→Option (Pn (A0×B0))
 | 0,_,_,_,_=>none
 | fu+1,o0,o2_Op,o2_Name,o2_Kids=>
  O1 fu [46] o0>>=fun x2=>
  if x2.1=true then
   Uf fu x2.2>>=fun x3=>match x3 with
   | .pn nn=>
   some (.pn nn)
   | .ok x3=>
   K9 fu x3.2 4 x3.1 [(A0.mk o2_Op 0 o2_Name o2_Kids)]
  else
   O1 fu [91] x2.2>>=fun x4=>
   if x4.1=true then
    D3 fu x4.2>>=fun x5=>match x5 with
    | .pn nn=>
    some (.pn nn)
    | .ok x5=>
    C6 fu [93] x5.2>>=fun x6=>match x6 with
    | .pn nn=>
    some (.pn nn)
    | .ok x6=>
    K9 fu x6 5 [] [(A0.mk o2_Op 0 o2_Name o2_Kids),x5.1]
   else
    some (.ok ((A0.mk o2_Op 0 o2_Name o2_Kids),x4.2))
def Wf:Nat→Int→B0→Option (Pn (A0×B0))
 | 0,_,_=>none
 | fu+1,op,parserParser=>
  C6 fu [40] parserParser>>=fun x1=>match x1 with
  | .pn nn=>
  some (.pn nn)
  | .ok x1=>
  D3 fu x1>>=fun x2=>match x2 with
  | .pn nn=>
  some (.pn nn)
  | .ok x2=>
  C6 fu [44] x2.2>>=fun x3=>match x3 with
  | .pn nn=>
  some (.pn nn)
  | .ok x3=>
  D3 fu x3>>=fun x4=>match x4 with
  | .pn nn=>
  some (.pn nn)
  | .ok x4=>
  C6 fu [41] x4.2>>=fun x5=>match x5 with
  | .pn nn=>
  some (.pn nn)
  | .ok x5=>
  some (.ok ((A0.mk op 0 [] [x2.1,x4.1]),x5))
def Pa:Nat→B0→A0→Option (Pn (A0×B0))
 | 0,_,_=>none
 | fu+1,o0,o3=>
  Vf fu o0>>=fun x2=>
  if (!x2.2.1)=true then
   some (.ok (o3,x2.2.2))
  else
   T8 fu x2.2.2>>=fun x3=>match x3 with
   | .pn nn=>
   some (.pn nn)
   | .ok x3=>
   Pa fu x3.2 (A0.mk x2.1 0 [] [o3,x3.1])
def Qa:Nat→B0→A0→Option (Pn (A0×B0))
 | 0,_,_=>none
 | fu+1,o0,o3=>
  Jj fu o0>>=fun x2=>
  if (!x2.2.1)=true then
   some (.ok (o3,x2.2.2))
  else
   Kd fu x2.2.2>>=fun x3=>match x3 with
   | .pn nn=>
   some (.pn nn)
   | .ok x3=>
   Qa fu x3.2 (A0.mk x2.1 0 [] [o3,x3.1])
def N3:Nat→B0→(A0×B0)→Int→Option (Pn (A0×B0))
 | 0,_,_,_=>none
 | fu+1,o0,x1,op=>
  Dh fu o0>>=fun x3=>match x3 with
  | .pn nn=>
  some (.pn nn)
  | .ok x3=>
  some (.ok ((A0.mk op 0 [] [x1.1,x3.1]),x3.2))
def Ra:Nat→B0→A0→Option (Pn (A0×B0))
 | 0,_,_=>none
 | fu+1,o0,o3=>
  Kj fu o0>>=fun x2=>
  if (!x2.2.1)=true then
   some (.ok (o3,x2.2.2))
  else
   Kb fu x2.2.2>>=fun x3=>match x3 with
   | .pn nn=>
   some (.pn nn)
   | .ok x3=>
   Ra fu x3.2 (A0.mk x2.1 0 [] [o3,x3.1])
def Wc:Nat→B0→A0→Option (Pn (A0×B0))
 | 0,_,_=>none
 | fu+1,o0,o3=>
  Jk fu o0>>=fun x2=>
  if (!x2.2.1)=true then
   some (.ok (o3,x2.2.2))
  else
   Ch fu x2.2.2>>=fun x3=>match x3 with
   | .pn nn=>
   some (.pn nn)
   | .ok x3=>
   Wc fu x3.2 (A0.mk x2.1 0 [] [o3,x3.1])
end
theorem Wr (fu:Nat):(∀ (parserParser:B0),Le (D3 fu parserParser) (G1 parserParser))∧(∀ (parserParser:B0),Le (Jm fu parserParser) (Z8 parserParser))∧(∀ (parserParser:B0),Le (Lj fu parserParser) (Qd parserParser))∧(∀ (parserParser:B0),Le (Ch fu parserParser) (K6 parserParser))∧(∀ (parserParser:B0),Le (Vg fu parserParser) (Bb parserParser))∧(∀ (parserParser:B0),Le (Kb fu parserParser) (Z3 parserParser))∧(∀ (parserParser:B0),Le (Dh fu parserParser) (Q5 parserParser))∧(∀ (parserParser:B0),Le (Wg fu parserParser) (Cb parserParser))∧(∀ (parserParser:B0),Le (Kd fu parserParser) (S4 parserParser))∧(∀ (parserParser:B0),Le (Xg fu parserParser) (Db parserParser))∧(∀ (parserParser:B0),Le (T8 fu parserParser) (W3 parserParser))∧(∀ (parserParser:B0),Le (Hh fu parserParser) (N8 parserParser))∧(∀ (parserParser:B0),Le (Mj fu parserParser) (H6 parserParser))∧(∀ (o0:B0) (o2_Op:Int) (o2_Name:Str) (o2_Kids:List A0),Le (K9 fu o0 o2_Op o2_Name o2_Kids) (K4 o0 o2_Op o2_Name o2_Kids))∧(∀ (op:Int) (parserParser:B0),Le (Wf fu op parserParser) (A9 op parserParser))∧(∀ (o0:B0) (o3:A0),Le (Pa fu o0 o3) (H3 o0 o3))∧(∀ (o0:B0) (o3:A0),Le (Qa fu o0 o3) (F3 o0 o3))∧(∀ (o0:B0) (x1:A0×B0) (op:Int),Le (N3 fu o0 x1 op) (Q1 o0 x1 op))∧(∀ (o0:B0) (o3:A0),Le (Ra fu o0 o3) (E3 o0 o3))∧(∀ (o0:B0) (o3:A0),Le (Wc fu o0 o3) (Y3 o0 o3)):=by
 induction fu with
 | zero=>exact ⟨fun _=>Le.none,fun _=>Le.none,fun _=>Le.none,fun _=>Le.none,fun _=>Le.none,fun _=>Le.none,fun _=>Le.none,fun _=>Le.none,fun _=>Le.none,fun _=>Le.none,fun _=>Le.none,fun _=>Le.none,fun _=>Le.none,fun _ _ _ _=>Le.none,fun _ _=>Le.none,fun _ _=>Le.none,fun _ _=>Le.none,fun _ _ _=>Le.none,fun _ _=>Le.none,fun _ _=>Le.none⟩
 | succ fu ih=>
  obtain ⟨ih0,ih1,ih2,ih3,ih4,ih5,ih6,ih7,ih8,ih9,ih10,ih11,ih12,ih13,ih14,ih15,ih16,ih17,ih18,ih19⟩:=ih
  refine ⟨fun parserParser=>?_,fun parserParser=>?_,fun parserParser=>?_,fun parserParser=>?_,fun parserParser=>?_,fun parserParser=>?_,fun parserParser=>?_,fun parserParser=>?_,fun parserParser=>?_,fun parserParser=>?_,fun parserParser=>?_,fun parserParser=>?_,fun parserParser=>?_,fun o0 o2_Op o2_Name o2_Kids=>?_,fun op parserParser=>?_,fun o0 o3=>?_,fun o0 o3=>?_,fun o0 x1 op=>?_,fun o0 o3=>?_,fun o0 o3=>?_⟩
  ·rw [D3,G1]
   repeat (first | exact Le.rfl | exact ih0 _ | exact ih1 _ | exact ih2 _ | exact ih3 _ | exact ih4 _ | exact ih5 _ | exact ih6 _ | exact ih7 _ | exact ih8 _ | exact ih9 _ | exact ih10 _ | exact ih11 _ | exact ih12 _ | exact ih13 _ _ _ _ | exact ih14 _ _ | exact ih15 _ _ | exact ih16 _ _ | exact ih17 _ _ _ | exact ih18 _ _ | exact ih19 _ _ | exact L1 fu _ _ | exact Y1 fu _ _ | exact T1 fu _ | exact U1 fu _ | exact X1 fu _ | exact N1 fu _ | exact V1 fu _ | exact W1 fu _ | exact Z1 fu _ | exact D1 _ | refine Le.bind ?_ (fun _=>?_) | refine Le.ite ?_ ?_ | (rename_i x; cases x))
  ·rw [Jm,Z8]
   repeat (first | exact Le.rfl | exact ih0 _ | exact ih1 _ | exact ih2 _ | exact ih3 _ | exact ih4 _ | exact ih5 _ | exact ih6 _ | exact ih7 _ | exact ih8 _ | exact ih9 _ | exact ih10 _ | exact ih11 _ | exact ih12 _ | exact ih13 _ _ _ _ | exact ih14 _ _ | exact ih15 _ _ | exact ih16 _ _ | exact ih17 _ _ _ | exact ih18 _ _ | exact ih19 _ _ | exact L1 fu _ _ | exact Y1 fu _ _ | exact T1 fu _ | exact U1 fu _ | exact X1 fu _ | exact N1 fu _ | exact V1 fu _ | exact W1 fu _ | exact Z1 fu _ | exact D1 _ | refine Le.bind ?_ (fun _=>?_) | refine Le.ite ?_ ?_ | (rename_i x; cases x))
  ·rw [Lj,Qd]
   repeat (first | exact Le.rfl | exact ih0 _ | exact ih1 _ | exact ih2 _ | exact ih3 _ | exact ih4 _ | exact ih5 _ | exact ih6 _ | exact ih7 _ | exact ih8 _ | exact ih9 _ | exact ih10 _ | exact ih11 _ | exact ih12 _ | exact ih13 _ _ _ _ | exact ih14 _ _ | exact ih15 _ _ | exact ih16 _ _ | exact ih17 _ _ _ | exact ih18 _ _ | exact ih19 _ _ | exact L1 fu _ _ | exact Y1 fu _ _ | exact T1 fu _ | exact U1 fu _ | exact X1 fu _ | exact N1 fu _ | exact V1 fu _ | exact W1 fu _ | exact Z1 fu _ | exact D1 _ | refine Le.bind ?_ (fun _=>?_) | refine Le.ite ?_ ?_ | (rename_i x; cases x))
  ·rw [Ch,K6]
   repeat (first | exact Le.rfl | exact ih0 _ | exact ih1 _ | exact ih2 _ | exact ih3 _ | exact ih4 _ | exact ih5 _ | exact ih6 _ | exact ih7 _ | exact ih8 _ | exact ih9 _ | exact ih10 _ | exact ih11 _ | exact ih12 _ | exact ih13 _ _ _ _ | exact ih14 _ _ | exact ih15 _ _ | exact ih16 _ _ | exact ih17 _ _ _ | exact ih18 _ _ | exact ih19 _ _ | exact L1 fu _ _ | exact Y1 fu _ _ | exact T1 fu _ | exact U1 fu _ | exact X1 fu _ | exact N1 fu _ | exact V1 fu _ | exact W1 fu _ | exact Z1 fu _ | exact D1 _ | refine Le.bind ?_ (fun _=>?_) | refine Le.ite ?_ ?_ | (rename_i x; cases x))
  ·rw [Vg,Bb]
   repeat (first | exact Le.rfl | exact ih0 _ | exact ih1 _ | exact ih2 _ | exact ih3 _ | exact ih4 _ | exact ih5 _ | exact ih6 _ | exact ih7 _ | exact ih8 _ | exact ih9 _ | exact ih10 _ | exact ih11 _ | exact ih12 _ | exact ih13 _ _ _ _ | exact ih14 _ _ | exact ih15 _ _ | exact ih16 _ _ | exact ih17 _ _ _ | exact ih18 _ _ | exact ih19 _ _ | exact L1 fu _ _ | exact Y1 fu _ _ | exact T1 fu _ | exact U1 fu _ | exact X1 fu _ | exact N1 fu _ | exact V1 fu _ | exact W1 fu _ | exact Z1 fu _ | exact D1 _ | refine Le.bind ?_ (fun _=>?_) | refine Le.ite ?_ ?_ | (rename_i x; cases x))
  ·rw [Kb,Z3]
   repeat (first | exact Le.rfl | exact ih0 _ | exact ih1 _ | exact ih2 _ | exact ih3 _ | exact ih4 _ | exact ih5 _ | exact ih6 _ | exact ih7 _ | exact ih8 _ | exact ih9 _ | exact ih10 _ | exact ih11 _ | exact ih12 _ | exact ih13 _ _ _ _ | exact ih14 _ _ | exact ih15 _ _ | exact ih16 _ _ | exact ih17 _ _ _ | exact ih18 _ _ | exact ih19 _ _ | exact L1 fu _ _ | exact Y1 fu _ _ | exact T1 fu _ | exact U1 fu _ | exact X1 fu _ | exact N1 fu _ | exact V1 fu _ | exact W1 fu _ | exact Z1 fu _ | exact D1 _ | refine Le.bind ?_ (fun _=>?_) | refine Le.ite ?_ ?_ | (rename_i x; cases x))
  ·rw [Dh,Q5]
   repeat (first | exact Le.rfl | exact ih0 _ | exact ih1 _ | exact ih2 _ | exact ih3 _ | exact ih4 _ | exact ih5 _ | exact ih6 _ | exact ih7 _ | exact ih8 _ | exact ih9 _ | exact ih10 _ | exact ih11 _ | exact ih12 _ | exact ih13 _ _ _ _ | exact ih14 _ _ | exact ih15 _ _ | exact ih16 _ _ | exact ih17 _ _ _ | exact ih18 _ _ | exact ih19 _ _ | exact L1 fu _ _ | exact Y1 fu _ _ | exact T1 fu _ | exact U1 fu _ | exact X1 fu _ | exact N1 fu _ | exact V1 fu _ | exact W1 fu _ | exact Z1 fu _ | exact D1 _ | refine Le.bind ?_ (fun _=>?_) | refine Le.ite ?_ ?_ | (rename_i x; cases x))
  ·rw [Wg,Cb]
   repeat (first | exact Le.rfl | exact ih0 _ | exact ih1 _ | exact ih2 _ | exact ih3 _ | exact ih4 _ | exact ih5 _ | exact ih6 _ | exact ih7 _ | exact ih8 _ | exact ih9 _ | exact ih10 _ | exact ih11 _ | exact ih12 _ | exact ih13 _ _ _ _ | exact ih14 _ _ | exact ih15 _ _ | exact ih16 _ _ | exact ih17 _ _ _ | exact ih18 _ _ | exact ih19 _ _ | exact L1 fu _ _ | exact Y1 fu _ _ | exact T1 fu _ | exact U1 fu _ | exact X1 fu _ | exact N1 fu _ | exact V1 fu _ | exact W1 fu _ | exact Z1 fu _ | exact D1 _ | refine Le.bind ?_ (fun _=>?_) | refine Le.ite ?_ ?_ | (rename_i x; cases x))
  ·rw [Kd,S4]
   repeat (first | exact Le.rfl | exact ih0 _ | exact ih1 _ | exact ih2 _ | exact ih3 _ | exact ih4 _ | exact ih5 _ | exact ih6 _ | exact ih7 _ | exact ih8 _ | exact ih9 _ | exact ih10 _ | exact ih11 _ | exact ih12 _ | exact ih13 _ _ _ _ | exact ih14 _ _ | exact ih15 _ _ | exact ih16 _ _ | exact ih17 _ _ _ | exact ih18 _ _ | exact ih19 _ _ | exact L1 fu _ _ | exact Y1 fu _ _ | exact T1 fu _ | exact U1 fu _ | exact X1 fu _ | exact N1 fu _ | exact V1 fu _ | exact W1 fu _ | exact Z1 fu _ | exact D1 _ | refine Le.bind ?_ (fun _=>?_) | refine Le.ite ?_ ?_ | (rename_i x; cases x))
  ·rw [Xg,Db]
   repeat (first | exact Le.rfl | exact ih0 _ | exact ih1 _ | exact ih2 _ | exact ih3 _ | exact ih4 _ | exact ih5 _ | exact ih6 _ | exact ih7 _ | exact ih8 _ | exact ih9 _ | exact ih10 _ | exact ih11 _ | exact ih12 _ | exact ih13 _ _ _ _ | exact ih14 _ _ | exact ih15 _ _ | exact ih16 _ _ | exact ih17 _ _ _ | exact ih18 _ _ | exact ih19 _ _ | exact L1 fu _ _ | exact Y1 fu _ _ | exact T1 fu _ | exact U1 fu _ | exact X1 fu _ | exact N1 fu _ | exact V1 fu _ | exact W1 fu _ | exact Z1 fu _ | exact D1 _ | refine Le.bind ?_ (fun _=>?_) | refine Le.ite ?_ ?_ | (rename_i x; cases x))
  ·rw [T8,W3]
   repeat (first | exact Le.rfl | exact ih0 _ | exact ih1 _ | exact ih2 _ | exact ih3 _ | exact ih4 _ | exact ih5 _ | exact ih6 _ | exact ih7 _ | exact ih8 _ | exact ih9 _ | exact ih10 _ | exact ih11 _ | exact ih12 _ | exact ih13 _ _ _ _ | exact ih14 _ _ | exact ih15 _ _ | exact ih16 _ _ | exact ih17 _ _ _ | exact ih18 _ _ | exact ih19 _ _ | exact L1 fu _ _ | exact Y1 fu _ _ | exact T1 fu _ | exact U1 fu _ | exact X1 fu _ | exact N1 fu _ | exact V1 fu _ | exact W1 fu _ | exact Z1 fu _ | exact D1 _ | refine Le.bind ?_ (fun _=>?_) | refine Le.ite ?_ ?_ | (rename_i x; cases x))
  ·rw [Hh,N8]
   repeat (first | exact Le.rfl | exact ih0 _ | exact ih1 _ | exact ih2 _ | exact ih3 _ | exact ih4 _ | exact ih5 _ | exact ih6 _ | exact ih7 _ | exact ih8 _ | exact ih9 _ | exact ih10 _ | exact ih11 _ | exact ih12 _ | exact ih13 _ _ _ _ | exact ih14 _ _ | exact ih15 _ _ | exact ih16 _ _ | exact ih17 _ _ _ | exact ih18 _ _ | exact ih19 _ _ | exact L1 fu _ _ | exact Y1 fu _ _ | exact T1 fu _ | exact U1 fu _ | exact X1 fu _ | exact N1 fu _ | exact V1 fu _ | exact W1 fu _ | exact Z1 fu _ | exact D1 _ | refine Le.bind ?_ (fun _=>?_) | refine Le.ite ?_ ?_ | (rename_i x; cases x))
  ·rw [Mj,H6]
   repeat (first | exact Le.rfl | exact ih0 _ | exact ih1 _ | exact ih2 _ | exact ih3 _ | exact ih4 _ | exact ih5 _ | exact ih6 _ | exact ih7 _ | exact ih8 _ | exact ih9 _ | exact ih10 _ | exact ih11 _ | exact ih12 _ | exact ih13 _ _ _ _ | exact ih14 _ _ | exact ih15 _ _ | exact ih16 _ _ | exact ih17 _ _ _ | exact ih18 _ _ | exact ih19 _ _ | exact L1 fu _ _ | exact Y1 fu _ _ | exact T1 fu _ | exact U1 fu _ | exact X1 fu _ | exact N1 fu _ | exact V1 fu _ | exact W1 fu _ | exact Z1 fu _ | exact D1 _ | refine Le.bind ?_ (fun _=>?_) | refine Le.ite ?_ ?_ | (rename_i x; cases x))
  ·rw [K9,K4]
   repeat (first | exact Le.rfl | exact ih0 _ | exact ih1 _ | exact ih2 _ | exact ih3 _ | exact ih4 _ | exact ih5 _ | exact ih6 _ | exact ih7 _ | exact ih8 _ | exact ih9 _ | exact ih10 _ | exact ih11 _ | exact ih12 _ | exact ih13 _ _ _ _ | exact ih14 _ _ | exact ih15 _ _ | exact ih16 _ _ | exact ih17 _ _ _ | exact ih18 _ _ | exact ih19 _ _ | exact L1 fu _ _ | exact Y1 fu _ _ | exact T1 fu _ | exact U1 fu _ | exact X1 fu _ | exact N1 fu _ | exact V1 fu _ | exact W1 fu _ | exact Z1 fu _ | exact D1 _ | refine Le.bind ?_ (fun _=>?_) | refine Le.ite ?_ ?_ | (rename_i x; cases x))
  ·rw [Wf,A9]
   repeat (first | exact Le.rfl | exact ih0 _ | exact ih1 _ | exact ih2 _ | exact ih3 _ | exact ih4 _ | exact ih5 _ | exact ih6 _ | exact ih7 _ | exact ih8 _ | exact ih9 _ | exact ih10 _ | exact ih11 _ | exact ih12 _ | exact ih13 _ _ _ _ | exact ih14 _ _ | exact ih15 _ _ | exact ih16 _ _ | exact ih17 _ _ _ | exact ih18 _ _ | exact ih19 _ _ | exact L1 fu _ _ | exact Y1 fu _ _ | exact T1 fu _ | exact U1 fu _ | exact X1 fu _ | exact N1 fu _ | exact V1 fu _ | exact W1 fu _ | exact Z1 fu _ | exact D1 _ | refine Le.bind ?_ (fun _=>?_) | refine Le.ite ?_ ?_ | (rename_i x; cases x))
  ·rw [Pa,H3]
   repeat (first | exact Le.rfl | exact ih0 _ | exact ih1 _ | exact ih2 _ | exact ih3 _ | exact ih4 _ | exact ih5 _ | exact ih6 _ | exact ih7 _ | exact ih8 _ | exact ih9 _ | exact ih10 _ | exact ih11 _ | exact ih12 _ | exact ih13 _ _ _ _ | exact ih14 _ _ | exact ih15 _ _ | exact ih16 _ _ | exact ih17 _ _ _ | exact ih18 _ _ | exact ih19 _ _ | exact L1 fu _ _ | exact Y1 fu _ _ | exact T1 fu _ | exact U1 fu _ | exact X1 fu _ | exact N1 fu _ | exact V1 fu _ | exact W1 fu _ | exact Z1 fu _ | exact D1 _ | refine Le.bind ?_ (fun _=>?_) | refine Le.ite ?_ ?_ | (rename_i x; cases x))
  ·rw [Qa,F3]
   repeat (first | exact Le.rfl | exact ih0 _ | exact ih1 _ | exact ih2 _ | exact ih3 _ | exact ih4 _ | exact ih5 _ | exact ih6 _ | exact ih7 _ | exact ih8 _ | exact ih9 _ | exact ih10 _ | exact ih11 _ | exact ih12 _ | exact ih13 _ _ _ _ | exact ih14 _ _ | exact ih15 _ _ | exact ih16 _ _ | exact ih17 _ _ _ | exact ih18 _ _ | exact ih19 _ _ | exact L1 fu _ _ | exact Y1 fu _ _ | exact T1 fu _ | exact U1 fu _ | exact X1 fu _ | exact N1 fu _ | exact V1 fu _ | exact W1 fu _ | exact Z1 fu _ | exact D1 _ | refine Le.bind ?_ (fun _=>?_) | refine Le.ite ?_ ?_ | (rename_i x; cases x))
  ·rw [N3,Q1]
   repeat (first | exact Le.rfl | exact ih0 _ | exact ih1 _ | exact ih2 _ | exact ih3 _ | exact ih4 _ | exact ih5 _ | exact ih6 _ | exact ih7 _ | exact ih8 _ | exact ih9 _ | exact ih10 _ | exact ih11 _ | exact ih12 _ | exact ih13 _ _ _ _ | exact ih14 _ _ | exact ih15 _ _ | exact ih16 _ _ | exact ih17 _ _ _ | exact ih18 _ _ | exact ih19 _ _ | exact L1 fu _ _ | exact Y1 fu _ _ | exact T1 fu _ | exact U1 fu _ | exact X1 fu _ | exact N1 fu _ | exact V1 fu _ | exact W1 fu _ | exact Z1 fu _ | exact D1 _ | refine Le.bind ?_ (fun _=>?_) | refine Le.ite ?_ ?_ | (rename_i x; cases x))
  ·rw [Ra,E3]
   repeat (first | exact Le.rfl | exact ih0 _ | exact ih1 _ | exact ih2 _ | exact ih3 _ | exact ih4 _ | exact ih5 _ | exact ih6 _ | exact ih7 _ | exact ih8 _ | exact ih9 _ | exact ih10 _ | exact ih11 _ | exact ih12 _ | exact ih13 _ _ _ _ | exact ih14 _ _ | exact ih15 _ _ | exact ih16 _ _ | exact ih17 _ _ _ | exact ih18 _ _ | exact ih19 _ _ | exact L1 fu _ _ | exact Y1 fu _ _ | exact T1 fu _ | exact U1 fu _ | exact X1 fu _ | exact N1 fu _ | exact V1 fu _ | exact W1 fu _ | exact Z1 fu _ | exact D1 _ | refine Le.bind ?_ (fun _=>?_) | refine Le.ite ?_ ?_ | (rename_i x; cases x))
  ·rw [Wc,Y3]
   repeat (first | exact Le.rfl | exact ih0 _ | exact ih1 _ | exact ih2 _ | exact ih3 _ | exact ih4 _ | exact ih5 _ | exact ih6 _ | exact ih7 _ | exact ih8 _ | exact ih9 _ | exact ih10 _ | exact ih11 _ | exact ih12 _ | exact ih13 _ _ _ _ | exact ih14 _ _ | exact ih15 _ _ | exact ih16 _ _ | exact ih17 _ _ _ | exact ih18 _ _ | exact ih19 _ _ | exact L1 fu _ _ | exact Y1 fu _ _ | exact T1 fu _ | exact U1 fu _ | exact X1 fu _ | exact N1 fu _ | exact V1 fu _ | exact W1 fu _ | exact Z1 fu _ | exact D1 _ | refine Le.bind ?_ (fun _=>?_) | refine Le.ite ?_ ?_ | (rename_i x; cases x))
theorem Bu (fu:Nat)(parserParser:B0):Le (D3 fu parserParser) (G1 parserParser):=(Wr fu).1 parserParser
def Kk (fu:Nat)(parserParser:B0)(apiExpr:A0):Option (Pn (B0×A0)):=
 D3 fu parserParser>>=fun x1=>match x1 with
 | .pn nn=>
 some (.pn nn)
 | .ok x1=>
 some (.ok (x1.2,x1.1))
theorem N11 (fu:Nat)(parserParser:B0)(apiExpr:A0):Le (Kk fu parserParser apiExpr) (Je parserParser apiExpr):=by
 unfold Kk Je
 repeat (first | exact Le.rfl | exact Bu fu _ | exact D1 _ | refine Le.bind ?_ (fun _=>?_) | refine Le.ite ?_ ?_ | (rename_i x; cases x))
def Pu (fu:Nat)(text:Str)(apiExpr:A0):Option (Int×Int×A0):=
 Pz fu text>>=fun x1=>
 if (x1.2.2 != 0)=true then
  some (x1.2.1,x1.2.2,apiExpr)
 else
  Kk fu (B0.mk x1.1 0 ((text).length:Int)) apiExpr>>=fun x2=>match x2 with
  | .pn nn=>
  some (nn,6,apiExpr)
  | .ok x2=>
  if (decide (x2.1.next < ((x2.1.tokens).length:Int)))=true then
   Vc fu x2.1>>=fun x3=>match x3 with
   | .pn nn=>
   some (nn,6,x2.2)
   | .ok x3=>
   some (0,0,x2.2)
  else
   some (0,0,x2.2)
theorem B1e (fu:Nat)(text:Str)(apiExpr:A0):Le (Pu fu text apiExpr) (Nn text apiExpr):=by
 unfold Pu Nn
 repeat (first | exact Le.rfl | exact Y1h fu _ | exact N11 fu _ _ | exact Ij fu _ | exact D1 _ | refine Le.bind ?_ (fun _=>?_) | refine Le.ite ?_ ?_ | (rename_i x; cases x))
def Lk (fu:Nat)(d:Int)(syntaxReport:J0):Option J0:=
 some (J0.mk syntaxReport.nodes (max syntaxReport.depth d) syntaxReport.badForm syntaxReport.badName syntaxReport.badNumber)
theorem Ic (fu:Nat)(d:Int)(syntaxReport:J0):Le (Lk fu d syntaxReport) (V5 d syntaxReport):=by
 unfold Lk V5
 repeat (first | exact Le.rfl | exact D1 _ | refine Le.bind ?_ (fun _=>?_) | refine Le.ite ?_ ?_ | (rename_i x; cases x))
def Jf (fu:Nat)(op:Int)(v9:Bool):Option Int:=
 if v9=true then
  some 1
 else
  if (op == 5)=true then
   some 2
  else
   if (op == 23)=true then
    some 3
   else
    if (bif (decide (op≥8)) then (decide (op≤22)) else false)=true then
     some 2
    else
     some (-1)
theorem J17 (fu:Nat)(op:Int)(v9:Bool):Le (Jf fu op v9) (Ea op v9):=by
 unfold Jf Ea
 repeat (first | exact Le.rfl | exact D1 _ | refine Le.bind ?_ (fun _=>?_) | refine Le.ite ?_ ?_ | (rename_i x; cases x))
def Fd (fu:Nat)(op:Int)(v4:Bool):Option Int:=
 if v4=true then
  some 0
 else
  if (op == 4)=true then
   Jf fu op (op == 4)
  else
   if (op == 6)=true then
    Jf fu op (op == 6)
   else
    Jf fu op (op == 7)
theorem K17 (fu:Nat)(op:Int)(v4:Bool):Le (Fd fu op v4) (G8 op v4):=by
 unfold Fd G8
 repeat (first | exact Le.rfl | exact J17 fu _ _ | exact D1 _ | refine Le.bind ?_ (fun _=>?_) | refine Le.ite ?_ ?_ | (rename_i x; cases x))
def Xr (fu:Nat)(op:Int):Option Int:=
 if (op == 0)=true then
  Fd fu op (op == 0)
 else
  if (op == 1)=true then
   Fd fu op (op == 1)
  else
   if (op == 2)=true then
    Fd fu op (op == 2)
   else
    Fd fu op (op == 3)
theorem Sh (fu:Nat)(op:Int):Le (Xr fu op) (Mg op):=by
 unfold Xr Mg
 repeat (first | exact Le.rfl | exact K17 fu _ _ | exact D1 _ | refine Le.bind ?_ (fun _=>?_) | refine Le.ite ?_ ?_ | (rename_i x; cases x))
def Y9 (fu:Nat)(ok:Bool)(syntaxReport:J0):Option J0:=
 some (J0.mk syntaxReport.nodes syntaxReport.depth (bif syntaxReport.badForm then true else (!ok)) syntaxReport.badName syntaxReport.badNumber)
theorem Jc (fu:Nat)(ok:Bool)(syntaxReport:J0):Le (Y9 fu ok syntaxReport) (Z0 ok syntaxReport):=by
 unfold Y9 Z0
 repeat (first | exact Le.rfl | exact D1 _ | refine Le.bind ?_ (fun _=>?_) | refine Le.ite ?_ ?_ | (rename_i x; cases x))
def Kf:Nat→A0→Option Bool
 | 0,_=>none
 | fu+1,o0=>
  if (bif (o0.Op == 4) then true else (o0.Op == 5))=true then
   if (((o0.Kids).length:Int) == 0)=true then
    some false
   else
    idx o0.Kids 0>>=fun x1=>
    Kf fu x1
  else
   some (o0.Op == 3)
theorem P15 (fu:Nat):(∀ (o0:A0),Le (Kf fu o0) (H8 o0)):=by
 induction fu with
 | zero=>exact fun _=>Le.none
 | succ fu ih=>
  have ih0:=ih
  refine fun o0=>?_
  ·rw [Kf,H8]
   repeat (first | exact Le.rfl | exact ih0 _ | exact D1 _ | refine Le.bind ?_ (fun _=>?_) | refine Le.ite ?_ ?_ | (rename_i x; cases x))
theorem L17 (fu:Nat)(o0:A0):Le (Kf fu o0) (H8 o0):=(P15 fu) o0
def Yr (fu:Nat)(e:A0):Option Bool:=
 Kf fu e
theorem Th (fu:Nat)(e:A0):Le (Yr fu e) (Ke e):=by
 unfold Yr Ke
 repeat (first | exact Le.rfl | exact L17 fu _ | exact D1 _ | refine Le.bind ?_ (fun _=>?_) | refine Le.ite ?_ ?_ | (rename_i x; cases x))
def Lf:Nat→Str→Int→Option Bool
 | 0,_,_=>none
 | fu+1,s,v6=>
  if (decide (v6 < ((s).length:Int)))=true then
   idx s v6>>=fun x1=>
   Ug fu (x1.toNat:Int)>>=fun x2=>
   (if ((!x2)&&(!(v6 == 0)))=true then idx s v6 else some default)>>=fun x3=>
   (if ((!x2)&&(!(v6 == 0)))=true then Ze fu (x3.toNat:Int) else some default)>>=fun x4=>
   if (bif (!x2) then (bif (v6 == 0) then true else (!x4)) else false)=true then
    some false
   else
    Lf fu s (IntKind.i64.wrap (v6+1))
  else
   some (!(s == []))
theorem Q15 (fu:Nat):(∀ (s:Str) (v6:Int),Le (Lf fu s v6) (W5 s v6)):=by
 induction fu with
 | zero=>exact fun _ _=>Le.none
 | succ fu ih=>
  have ih0:=ih
  refine fun s v6=>?_
  ·rw [Lf,W5]
   repeat (first | exact Le.rfl | exact ih0 _ _ | exact Hn fu _ | exact Hk fu _ | exact D1 _ | refine Le.bind ?_ (fun _=>?_) | refine Le.ite ?_ ?_ | (rename_i x; cases x))
theorem M17 (fu:Nat)(s:Str)(v6:Int):Le (Lf fu s v6) (W5 s v6):=(Q15 fu) s v6
def Zr (fu:Nat)(s:Str):Option Bool:=
 Lf fu s 0
theorem P1c (fu:Nat)(s:Str):Le (Zr fu s) (Ti s):=by
 unfold Zr Ti
 repeat (first | exact Le.rfl | exact M17 fu _ _ | exact D1 _ | refine Le.bind ?_ (fun _=>?_) | refine Le.ite ?_ ?_ | (rename_i x; cases x))
def As (fu:Nat)(s:Str):Option Bool:=
 (if (decide (((s).length:Int)≤12))=true then Zr fu s else some default)>>=fun x1=>
 (if (bif (decide (((s).length:Int)≤12)) then x1 else false)=true then Ik fu s else some default)>>=fun x2=>
 some (bif (bif (decide (((s).length:Int)≤12)) then x1 else false) then (!x2) else false)
theorem Q1c (fu:Nat)(s:Str):Le (As fu s) (Ui s):=by
 unfold As Ui
 repeat (first | exact Le.rfl | exact P1c fu _ | exact Ov fu _ | exact D1 _ | refine Le.bind ?_ (fun _=>?_) | refine Le.ite ?_ ?_ | (rename_i x; cases x))
def Yp (fu:Nat)(s:Str):Option Bool:=
 As fu s>>=fun x1=>
 some x1
theorem J1a (fu:Nat)(s:Str):Le (Yp fu s) (Bf s):=by
 unfold Yp Bf
 repeat (first | exact Le.rfl | exact Q1c fu _ | exact D1 _ | refine Le.bind ?_ (fun _=>?_) | refine Le.ite ?_ ?_ | (rename_i x; cases x))
def Mk (fu:Nat)(s:Str)(syntaxReport:J0):Option J0:=
 (if (!syntaxReport.badName)=true then Yp fu s else some default)>>=fun x1=>
 some (J0.mk syntaxReport.nodes syntaxReport.depth syntaxReport.badForm (bif syntaxReport.badName then true else (!x1)) syntaxReport.badNumber)
theorem Kc (fu:Nat)(s:Str)(syntaxReport:J0):Le (Mk fu s syntaxReport) (C4 s syntaxReport):=by
 unfold Mk C4
 repeat (first | exact Le.rfl | exact J1a fu _ | exact D1 _ | refine Le.bind ?_ (fun _=>?_) | refine Le.ite ?_ ?_ | (rename_i x; cases x))
def Zp (fu:Nat)(n:Int)(low:Int)(high:Int):Option Bool:=
 some (bif (decide (n≥low)) then (decide (n≤high)) else false)
theorem Yg (fu:Nat)(n:Int)(low:Int)(high:Int):Le (Zp fu n low high) (X3 n low high):=by
 unfold Zp X3
 repeat (first | exact Le.rfl | exact D1 _ | refine Le.bind ?_ (fun _=>?_) | refine Le.ite ?_ ?_ | (rename_i x; cases x))
def Gi (fu:Nat)(ok:Bool)(syntaxReport:J0):Option J0:=
 some (J0.mk syntaxReport.nodes syntaxReport.depth syntaxReport.badForm syntaxReport.badName (bif syntaxReport.badNumber then true else (!ok)))
theorem Aa (fu:Nat)(ok:Bool)(syntaxReport:J0):Le (Gi fu ok syntaxReport) (I2 ok syntaxReport):=by
 unfold Gi I2
 repeat (first | exact Le.rfl | exact D1 _ | refine Le.bind ?_ (fun _=>?_) | refine Le.ite ?_ ?_ | (rename_i x; cases x))
mutual
def Xc:Nat→A0→Int→J0→Option J0
 | 0,_,_,_=>none
 | fu+1,e,depth,syntaxReport=>
  Lk fu depth (J0.mk (IntKind.i64.wrap (syntaxReport.nodes+1)) syntaxReport.depth syntaxReport.badForm syntaxReport.badName syntaxReport.badNumber)>>=fun x1=>
  Xr fu e.Op>>=fun x2=>
  Y9 fu (x2 == ((e.Kids).length:Int)) x1>>=fun x3=>
  Y9 fu (bif (e.NV == 0) then true else (e.Op == 0)) x3>>=fun x4=>
  Y9 fu (bif (e.Name == []) then true else (bif (e.Op == 3) then true else (e.Op == 4))) x4>>=fun x5=>
  if (bif (e.Op == 4) then true else (e.Op == 5))=true then
   Yr fu e>>=fun x6=>
   Y9 fu x6 x5>>=fun x7=>
   Ld fu e depth x7
  else
   Ld fu e depth x5
def Ld:Nat→A0→Int→J0→Option J0
 | 0,_,_,_=>none
 | fu+1,e,depth,o0=>
  if (bif (e.Op == 3) then true else (e.Op == 4))=true then
   Mk fu e.Name o0>>=fun x8=>
   Md fu e depth x8
  else
   Md fu e depth o0
def Md:Nat→A0→Int→J0→Option J0
 | 0,_,_,_=>none
 | fu+1,e,depth,o01=>
  if (e.Op == 0)=true then
   Zp fu e.NV 0 1048576>>=fun x9=>
   Gi fu x9 o01>>=fun x10=>
   Nd fu e depth x10
  else
   Nd fu e depth o01
def Nd:Nat→A0→Int→J0→Option J0
 | 0,_,_,_=>none
 | fu+1,e,depth,o02=>
  Od fu e depth o02 0
def Od:Nat→A0→Int→J0→Int→Option J0
 | 0,_,_,_,_=>none
 | fu+1,e,depth,o03,v82=>
  if (decide (v82 < ((e.Kids).length:Int)))=true then
   idx e.Kids v82>>=fun x11=>
   Xc fu x11 (IntKind.i64.wrap (depth+1)) o03>>=fun x12=>
   Od fu e depth x12 (IntKind.i64.wrap (v82+1))
  else
   some o03
end
theorem Qz (fu:Nat):(∀ (e:A0) (depth:Int) (syntaxReport:J0),Le (Xc fu e depth syntaxReport) (B3 e depth syntaxReport))∧(∀ (e:A0) (depth:Int) (o0:J0),Le (Ld fu e depth o0) (Q6 e depth o0))∧(∀ (e:A0) (depth:Int) (o01:J0),Le (Md fu e depth o01) (O8 e depth o01))∧(∀ (e:A0) (depth:Int) (o02:J0),Le (Nd fu e depth o02) (P8 e depth o02))∧(∀ (e:A0) (depth:Int) (o03:J0) (v82:Int),Le (Od fu e depth o03 v82) (E4 e depth o03 v82)):=by
 induction fu with
 | zero=>exact ⟨fun _ _ _=>Le.none,fun _ _ _=>Le.none,fun _ _ _=>Le.none,fun _ _ _=>Le.none,fun _ _ _ _=>Le.none⟩
 | succ fu ih=>
  obtain ⟨ih0,ih1,ih2,ih3,ih4⟩:=ih
  refine ⟨fun e depth syntaxReport=>?_,fun e depth o0=>?_,fun e depth o01=>?_,fun e depth o02=>?_,fun e depth o03 v82=>?_⟩
  ·rw [Xc,B3]
   repeat (first | exact Le.rfl | exact ih0 _ _ _ | exact ih1 _ _ _ | exact ih2 _ _ _ | exact ih3 _ _ _ | exact ih4 _ _ _ _ | exact Ic fu _ _ | exact Sh fu _ | exact Jc fu _ _ | exact Th fu _ | exact Kc fu _ _ | exact Yg fu _ _ _ | exact Aa fu _ _ | exact D1 _ | refine Le.bind ?_ (fun _=>?_) | refine Le.ite ?_ ?_ | (rename_i x; cases x))
  ·rw [Ld,Q6]
   repeat (first | exact Le.rfl | exact ih0 _ _ _ | exact ih1 _ _ _ | exact ih2 _ _ _ | exact ih3 _ _ _ | exact ih4 _ _ _ _ | exact Ic fu _ _ | exact Sh fu _ | exact Jc fu _ _ | exact Th fu _ | exact Kc fu _ _ | exact Yg fu _ _ _ | exact Aa fu _ _ | exact D1 _ | refine Le.bind ?_ (fun _=>?_) | refine Le.ite ?_ ?_ | (rename_i x; cases x))
  ·rw [Md,O8]
   repeat (first | exact Le.rfl | exact ih0 _ _ _ | exact ih1 _ _ _ | exact ih2 _ _ _ | exact ih3 _ _ _ | exact ih4 _ _ _ _ | exact Ic fu _ _ | exact Sh fu _ | exact Jc fu _ _ | exact Th fu _ | exact Kc fu _ _ | exact Yg fu _ _ _ | exact Aa fu _ _ | exact D1 _ | refine Le.bind ?_ (fun _=>?_) | refine Le.ite ?_ ?_ | (rename_i x; cases x))
  ·rw [Nd,P8]
   repeat (first | exact Le.rfl | exact ih0 _ _ _ | exact ih1 _ _ _ | exact ih2 _ _ _ | exact ih3 _ _ _ | exact ih4 _ _ _ _ | exact Ic fu _ _ | exact Sh fu _ | exact Jc fu _ _ | exact Th fu _ | exact Kc fu _ _ | exact Yg fu _ _ _ | exact Aa fu _ _ | exact D1 _ | refine Le.bind ?_ (fun _=>?_) | refine Le.ite ?_ ?_ | (rename_i x; cases x))
  ·rw [Od,E4]
   repeat (first | exact Le.rfl | exact ih0 _ _ _ | exact ih1 _ _ _ | exact ih2 _ _ _ | exact ih3 _ _ _ | exact ih4 _ _ _ _ | exact Ic fu _ _ | exact Sh fu _ | exact Jc fu _ _ | exact Th fu _ | exact Kc fu _ _ | exact Yg fu _ _ _ | exact Aa fu _ _ | exact D1 _ | refine Le.bind ?_ (fun _=>?_) | refine Le.ite ?_ ?_ | (rename_i x; cases x))
theorem O11 (fu:Nat)(e:A0)(depth:Int)(syntaxReport:J0):Le (Xc fu e depth syntaxReport) (B3 e depth syntaxReport):=(Qz fu).1 e depth syntaxReport
def Qk (fu:Nat)(syntaxReport:J0):Option Int:=
 if (bif (decide (syntaxReport.nodes > 1024)) then true else (decide (syntaxReport.depth > 12)))=true then
  some 4
 else
  if syntaxReport.badForm=true then
   some 1
  else
   if syntaxReport.badName=true then
    some 7
   else
    if syntaxReport.badNumber=true then
     some 3
    else
     some 0
theorem P11 (fu:Nat)(syntaxReport:J0):Le (Qk fu syntaxReport) (X5 syntaxReport):=by
 unfold Qk X5
 repeat (first | exact Le.rfl | exact D1 _ | refine Le.bind ?_ (fun _=>?_) | refine Le.ite ?_ ?_ | (rename_i x; cases x))
def Km (fu:Nat)(e:A0):Option Int:=
 Xc fu e 1 (J0.mk 0 0 false false false)>>=fun x1=>
 Qk fu x1>>=fun x2=>
 some x2
theorem R15 (fu:Nat)(e:A0):Le (Km fu e) (Ng e):=by
 unfold Km Ng
 repeat (first | exact Le.rfl | exact O11 fu _ _ _ | exact P11 fu _ | exact D1 _ | refine Le.bind ?_ (fun _=>?_) | refine Le.ite ?_ ?_ | (rename_i x; cases x))
def Uh (fu:Nat)(text:Str):Option (A0×Int×Int):=
 Pu fu text (A0.mk 0 0 [] [])>>=fun x1=>
 if (x1.2.1 != 0)=true then
  some ((A0.mk 0 0 [] []),x1.1,x1.2.1)
 else
  Km fu x1.2.2>>=fun x2=>
  if (x2 != 0)=true then
   some ((A0.mk 0 0 [] []),0,x2)
  else
   some (x1.2.2,0,0)
theorem S15 (fu:Nat)(text:Str):Le (Uh fu text) (Xd text):=by
 unfold Uh Xd
 repeat (first | exact Le.rfl | exact B1e fu _ _ | exact R15 fu _ | exact D1 _ | refine Le.bind ?_ (fun _=>?_) | refine Le.ite ?_ ?_ | (rename_i x; cases x))
def Lm (fu:Nat)(s:Str):Option A0:=
 some (A0.mk 3 0 s [])
theorem G1g (fu:Nat)(s:Str):Le (Lm fu s) (Ek s):=by
 unfold Lm Ek
 repeat (first | exact Le.rfl | exact D1 _ | refine Le.bind ?_ (fun _=>?_) | refine Le.ite ?_ ?_ | (rename_i x; cases x))
mutual
def Mf:Nat→A0→A0→Option Bool
 | 0,_,_=>none
 | fu+1,a,b=>
  if (bif (bif (bif (a.Op != b.Op) then true else (a.NV != b.NV)) then true else (!(a.Name == b.Name))) then true else (((a.Kids).length:Int) != ((b.Kids).length:Int)))=true then
   some false
  else
   Xf fu a b 0
def Xf:Nat→A0→A0→Int→Option Bool
 | 0,_,_,_=>none
 | fu+1,a,b,i=>
  if (decide (i < ((a.Kids).length:Int)))=true then
   idx a.Kids i>>=fun x1=>
   idx b.Kids i>>=fun x2=>
   Mf fu x1 x2>>=fun x3=>
   if (!x3)=true then
    some false
   else
    Xf fu a b (IntKind.i64.wrap (i+1))
  else
   some true
end
theorem T15 (fu:Nat):(∀ (a:A0) (b:A0),Le (Mf fu a b) (U3 a b))∧(∀ (a:A0) (b:A0) (i:Int),Le (Xf fu a b i) (Z6 a b i)):=by
 induction fu with
 | zero=>exact ⟨fun _ _=>Le.none,fun _ _ _=>Le.none⟩
 | succ fu ih=>
  obtain ⟨ih0,ih1⟩:=ih
  refine ⟨fun a b=>?_,fun a b i=>?_⟩
  ·rw [Mf,U3]
   repeat (first | exact Le.rfl | exact ih0 _ _ | exact ih1 _ _ _ | exact D1 _ | refine Le.bind ?_ (fun _=>?_) | refine Le.ite ?_ ?_ | (rename_i x; cases x))
  ·rw [Xf,Z6]
   repeat (first | exact Le.rfl | exact ih0 _ _ | exact ih1 _ _ _ | exact D1 _ | refine Le.bind ?_ (fun _=>?_) | refine Le.ite ?_ ?_ | (rename_i x; cases x))
theorem N17 (fu:Nat)(a:A0)(b:A0):Le (Mf fu a b) (U3 a b):=(T15 fu).1 a b
def D14 (fu:Nat):Option Bool:=
 Uh fu [97,32,45,32,98,32,45,32,99,91,49,93,46,100]>>=fun x1=>
 Lm fu [99]>>=fun x2=>
 Lm fu [97]>>=fun x3=>
 Lm fu [98]>>=fun x4=>
 Uh fu [97,32,61,61,32,98,32,61,61,32,99]>>=fun x5=>
 (if (x1.2.2 == 0)=true then Mf fu x1.1 (A0.mk 9 0 [] [(A0.mk 9 0 [] [x3,x4]),(A0.mk 4 0 [100] [(A0.mk 5 0 [] [x2,(A0.mk 0 1 [] [])])])]) else some default)>>=fun x6=>
 some (bif (bif (bif (x1.2.2 == 0) then x6 else false) then (x5.2.2 == 6) else false) then (x5.2.1 == 7) else false)
theorem C1e (fu:Nat):Le (D14 fu ) (Ci ):=by
 unfold D14 Ci
 repeat (first | exact Le.rfl | exact S15 fu _ | exact G1g fu _ | exact N17 fu _ _ | exact D1 _ | refine Le.bind ?_ (fun _=>?_) | refine Le.ite ?_ ?_ | (rename_i x; cases x))
end Go.Proofs.YtmnhfbekncjnfaaGreatDoor

