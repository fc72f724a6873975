/- A part of the proof of ParserBrackets. -/
import Derived.Test.YtmnhfbekncjnfaaDoorDgA
import Derived.Test.YtmnhfbekncjnfaaDoorAmB
set_option maxRecDepth 100000
set_option maxHeartbeats 4000000
set_option synthInstance.maxSize 20000
set_option linter.unusedVariables false
namespace Go.Proofs.YtmnhfbekncjnfaaDoor
open Go.Am
def Ea (fu:Nat)(c:Int):Option Bool:=
 some (bif (decide (c≥97)) then (decide (c≤122)) else false)
theorem Te (fu:Nat)(c:Int):Le (Ea fu c) (U6 c):=by
 unfold Ea U6
 repeat (first | exact Le.rfl | exact K0 _ | refine Le.bind ?_ (fun _=>?_) | refine Le.ite ?_ ?_ | (rename_i x; cases x))
def R8 (fu:Nat)(c:Int):Option Bool:=
 some (bif (decide (c≥48)) then (decide (c≤57)) else false)
theorem Nc (fu:Nat)(c:Int):Le (R8 fu c) (Q5 c):=by
 unfold R8 Q5
 repeat (first | exact Le.rfl | exact K0 _ | refine Le.bind ?_ (fun _=>?_) | refine Le.ite ?_ ?_ | (rename_i x; cases x))
def Ub:Nat→Str→Int→Option Int
 | 0,_,_=>none
 | fu+1,s,i1=>
  (if (decide (i1 < ((s).length:Int)))=true then idx s i1 else some default)>>=fun x1=>
  (if (decide (i1 < ((s).length:Int)))=true then Ea fu (x1.toNat:Int) else some default)>>=fun x2=>
  (if ((decide (i1 < ((s).length:Int)))&&(!x2))=true then idx s i1 else some default)>>=fun x3=>
  (if ((decide (i1 < ((s).length:Int)))&&(!x2))=true then R8 fu (x3.toNat:Int) else some default)>>=fun x4=>
  if (bif (decide (i1 < ((s).length:Int))) then (bif x2 then true else x4) else false)=true then
   Ub fu s (IntKind.i64.wrap (i1+1))
  else
   some i1
theorem Mr (fu:Nat):(∀ (s:Str) (i1:Int),Le (Ub fu s i1) (K5 s i1)):=by
 induction fu with
 | zero=>exact fun _ _=>Le.none
 | succ fu ih=>
  have ih0:=ih
  refine fun s i1=>?_
  ·rw [Ub,K5]
   repeat (first | exact Le.rfl | exact ih0 _ _ | exact Te fu _ | exact Nc fu _ | exact K0 _ | refine Le.bind ?_ (fun _=>?_) | refine Le.ite ?_ ?_ | (rename_i x; cases x))
theorem Nt (fu:Nat)(s:Str)(i1:Int):Le (Ub fu s i1) (K5 s i1):=(Mr fu) s i1
def Th (fu:Nat)(s:Str)(i:Int):Option Int:=
 Ub fu s i
theorem Xy (fu:Nat)(s:Str)(i:Int):Le (Th fu s i) (Ld s i):=by
 unfold Th Ld
 repeat (first | exact Le.rfl | exact Nt fu _ _ | exact K0 _ | refine Le.bind ?_ (fun _=>?_) | refine Le.ite ?_ ?_ | (rename_i x; cases x))
def Oc (fu:Nat)(word:Str):Option Bool:=
 (if (!(word == []))=true then Kc word [32] else some default)>>=fun x1=>
 if (!(bif (!(word == [])) then (!x1) else false)||(decide (1+word.length≤maxLen)))=true then
  if (!(bif (!(word == [])) then (!x1) else false)||(decide (([32]++word).length+1≤maxLen)))=true then
   (if (bif (!(word == [])) then (!x1) else false)=true then Kc [32,116,121,112,101,32,115,101,99,114,101,116,32,112,117,98,108,105,99,32,114,97,110,100,111,109,32,118,97,114,32,104,97,116,99,104,32,102,117,110,99,32,114,101,116,117,114,110,32,98,101,103,105,110,32,101,110,100,32,98,111,111,108,32,105,110,116,32,97,114,114,97,121,32,111,102,32,114,101,99,111,114,100,32,116,114,117,101,32,102,97,108,115,101,32,99,97,108,108,32,114,101,108,101,97,115,101,32,111,117,116,112,117,116,32,119,97,105,116,32,105,102,32,101,108,115,101,32,119,104,105,108,101,32,108,105,109,105,116,32,102,111,114,32,116,111,32,115,101,116,116,108,101,32,109,105,110,32,109,97,120,32] (([32]++word)++[32]) else some default)>>=fun x2=>
   some (bif (bif (!(word == [])) then (!x1) else false) then x2 else false)
  else none
 else none
theorem Zi (fu:Nat)(word:Str):Le (Oc fu word) (R5 word):=by
 unfold Oc R5
 repeat (first | exact Le.rfl | exact K0 _ | refine Le.bind ?_ (fun _=>?_) | refine Le.ite ?_ ?_ | (rename_i x; cases x))
def B9:Nat→Str→Int→Int→Option Int
 | 0,_,_,_=>none
 | fu+1,s,n,v7=>
  if (decide (v7 < ((s).length:Int)))=true then
   idx s v7>>=fun x1=>
   R8 fu (x1.toNat:Int)>>=fun x2=>
   if (!x2)=true then
    some 6
   else
    idx s v7>>=fun x3=>
    B9 fu s (min (IntKind.i64.wrap ((IntKind.i64.wrap (10 * n))+(IntKind.i64.wrap (IntKind.u8.wrap ((x3.toNat:Int) - 48))))) 1048577) (IntKind.i64.wrap (v7+1))
  else
   idx s 0>>=fun x4=>
   if (bif ((x4.toNat:Int) == 48) then (decide (((s).length:Int) > 1)) else false)=true then
    some 6
   else
    if (decide (n > 1048576))=true then
     some 3
    else
     some 0
theorem Do (fu:Nat):(∀ (s:Str) (n:Int) (v7:Int),Le (B9 fu s n v7) (M3 s n v7)):=by
 induction fu with
 | zero=>exact fun _ _ _=>Le.none
 | succ fu ih=>
  have ih0:=ih
  refine fun s n v7=>?_
  ·rw [B9,M3]
   repeat (first | exact Le.rfl | exact ih0 _ _ _ | exact Nc fu _ | exact K0 _ | refine Le.bind ?_ (fun _=>?_) | refine Le.ite ?_ ?_ | (rename_i x; cases x))
theorem Dp (fu:Nat)(s:Str)(n:Int)(v7:Int):Le (B9 fu s n v7) (M3 s n v7):=(Do fu) s n v7
def Dh (fu:Nat)(s:Str):Option Int:=
 B9 fu s 0 0
theorem Ot (fu:Nat)(s:Str):Le (Dh fu s) (Rb s):=by
 unfold Dh Rb
 repeat (first | exact Le.rfl | exact Dp fu _ _ _ | exact K0 _ | refine Le.bind ?_ (fun _=>?_) | refine Le.ite ?_ ?_ | (rename_i x; cases x))
def Fd (fu:Nat)(s:Str):Option Str:=
 idx s 0>>=fun x3=>
 Sh [59,58,44,46,61,43,45,42,47,37,60,62,33,63,40,41,91,93,123,125] (x3.toNat:Int)>>=fun x4=>
 if (decide (x4≥0))=true then
  slc s 0 1>>=fun x5=>
  some x5
 else
  some []
theorem Zj (fu:Nat)(s:Str):Le (Fd fu s) (U7 s):=by
 unfold Fd U7
 repeat (first | exact Le.rfl | exact K0 _ | refine Le.bind ?_ (fun _=>?_) | refine Le.ite ?_ ?_ | (rename_i x; cases x))
def E5 (fu:Nat)(s:Str)(v8:Bool):Option Str:=
 if v8=true then
  slc s 0 2>>=fun x2=>
  some x2
 else
  Fd fu s
theorem Nr (fu:Nat)(s:Str)(v8:Bool):Le (E5 fu s v8) (D4 s v8):=by
 unfold E5 D4
 repeat (first | exact Le.rfl | exact Zj fu _ | exact K0 _ | refine Le.bind ?_ (fun _=>?_) | refine Le.ite ?_ ?_ | (rename_i x; cases x))
def Ak (fu:Nat)(s:Str):Option Str:=
 if (decide (((s).length:Int)≥2))=true then
  slc s 0 2>>=fun x1=>
  if (x1 == [46,46])=true then
   E5 fu s (x1 == [46,46])
  else
   if (x1 == [61,61])=true then
    E5 fu s (x1 == [61,61])
   else
    if (x1 == [33,61])=true then
     E5 fu s (x1 == [33,61])
    else
     if (x1 == [60,61])=true then
      E5 fu s (x1 == [60,61])
     else
      if (x1 == [62,61])=true then
       E5 fu s (x1 == [62,61])
      else
       if (x1 == [38,38])=true then
        E5 fu s (x1 == [38,38])
       else
        E5 fu s (x1 == [124,124])
 else
  Fd fu s
theorem Jw (fu:Nat)(s:Str):Le (Ak fu s) (L9 s):=by
 unfold Ak L9
 repeat (first | exact Le.rfl | exact Nr fu _ _ | exact Zj fu _ | exact K0 _ | refine Le.bind ?_ (fun _=>?_) | refine Le.ite ?_ ?_ | (rename_i x; cases x))
def Bk (fu:Nat)(s:Str)(i:Int):Option (E0×Int):=
 idx s i>>=fun x1=>
 Ea fu (x1.toNat:Int)>>=fun x2=>
 if x2=true then
  Th fu s i>>=fun x3=>
  slc s i x3>>=fun x4=>
  Oc fu x4>>=fun x5=>
  if x5=true then
   some ((E0.mk 2 x4 i),0)
  else
   if (decide (((x4).length:Int) > 12))=true then
    some ((E0.mk 0 x4 i),7)
   else
    some ((E0.mk 0 x4 i),0)
 else
  R8 fu (x1.toNat:Int)>>=fun x6=>
  if x6=true then
   Th fu s i>>=fun x7=>
   slc s i x7>>=fun x8=>
   Dh fu x8>>=fun x9=>
   some ((E0.mk 1 x8 i),x9)
  else
   slc s i ((s).length:Int)>>=fun x10=>
   Ak fu x10>>=fun x11=>
   if (x11 == [])=true then
    some ((E0.mk 3 x11 i),6)
   else
    some ((E0.mk 3 x11 i),0)
theorem Ri (fu:Nat)(s:Str)(i:Int):Le (Bk fu s i) (Ua s i):=by
 unfold Bk Ua
 repeat (first | exact Le.rfl | exact Te fu _ | exact Xy fu _ _ | exact Zi fu _ | exact Nc fu _ | exact Ot fu _ | exact Jw fu _ | exact K0 _ | refine Le.bind ?_ (fun _=>?_) | refine Le.ite ?_ ?_ | (rename_i x; cases x))
mutual
def C8:Nat→Str→(List E0)→Int→Option (List E0×Int×Int)
 | 0,_,_,_=>none
 | fu+1,s,out,i=>
  if (decide (i < ((s).length:Int)))=true then
   idx s i>>=fun x1=>
   if ((x1.toNat:Int) == 32)=true then
    S9 fu s out i x1 ((x1.toNat:Int) == 32)
   else
    if ((x1.toNat:Int) == 9)=true then
     S9 fu s out i x1 ((x1.toNat:Int) == 9)
    else
     S9 fu s out i x1 ((x1.toNat:Int) == 10)
  else
   some (out,0,0)
def S9:Nat→Str→(List E0)→Int→UInt8→Bool→Option (List E0×Int×Int)
 | 0,_,_,_,_,_=>none
 | fu+1,s,out1,i1,x1,v19=>
  if v19=true then
   C8 fu s out1 (IntKind.i64.wrap (i1+1))
  else
   if ((x1.toNat:Int) == 35)=true then
    Vb fu s out1 i1
   else
    Bk fu s i1>>=fun x2=>
    if (x2.2 != 0)=true then
     some ([],i1,x2.2)
    else
     if (decide ((out1.length+1) * 33≤140737488355328))=true then
      C8 fu s (out1++[x2.1]) (IntKind.i64.wrap (i1+((x2.1.Text).length:Int)))
     else none
def Vb:Nat→Str→(List E0)→Int→Option (List E0×Int×Int)
 | 0,_,_,_=>none
 | fu+1,s,out2,i2=>
  (if (decide (i2 < ((s).length:Int)))=true then idx s i2 else some default)>>=fun x3=>
  if (bif (decide (i2 < ((s).length:Int))) then ((x3.toNat:Int) != 10) else false)=true then
   Vb fu s out2 (IntKind.i64.wrap (i2+1))
  else
   C8 fu s out2 i2
end
theorem Nf (fu:Nat):(∀ (s:Str) (out:List E0) (i:Int),Le (C8 fu s out i) (Y2 s out i))∧(∀ (s:Str) (out1:List E0) (i1:Int) (x1:UInt8) (v19:Bool),Le (S9 fu s out1 i1 x1 v19) (I6 s out1 i1 x1 v19))∧(∀ (s:Str) (out2:List E0) (i2:Int),Le (Vb fu s out2 i2) (T4 s out2 i2)):=by
 induction fu with
 | zero=>exact ⟨fun _ _ _=>Le.none,fun _ _ _ _ _=>Le.none,fun _ _ _=>Le.none⟩
 | succ fu ih=>
  obtain ⟨ih0,ih1,ih2⟩:=ih
  refine ⟨fun s out i=>?_,fun s out1 i1 x1 v19=>?_,fun s out2 i2=>?_⟩
  ·rw [C8,Y2]
   repeat (first | exact Le.rfl | exact ih0 _ _ _ | exact ih1 _ _ _ _ _ | exact ih2 _ _ _ | exact Ri fu _ _ | exact K0 _ | refine Le.bind ?_ (fun _=>?_) | refine Le.ite ?_ ?_ | (rename_i x; cases x))
  ·rw [S9,I6]
   repeat (first | exact Le.rfl | exact ih0 _ _ _ | exact ih1 _ _ _ _ _ | exact ih2 _ _ _ | exact Ri fu _ _ | exact K0 _ | refine Le.bind ?_ (fun _=>?_) | refine Le.ite ?_ ?_ | (rename_i x; cases x))
  ·rw [Vb,T4]
   repeat (first | exact Le.rfl | exact ih0 _ _ _ | exact ih1 _ _ _ _ _ | exact ih2 _ _ _ | exact Ri fu _ _ | exact K0 _ | refine Le.bind ?_ (fun _=>?_) | refine Le.ite ?_ ?_ | (rename_i x; cases x))
theorem Pt (fu:Nat)(s:Str)(out:List E0)(i:Int):Le (C8 fu s out i) (Y2 s out i):=(Nf fu).1 s out i
theorem A17 (fu:Nat)(s:Str)(out1:List E0)(i1:Int)(x1:UInt8)(v19:Bool):Le (S9 fu s out1 i1 x1 v19) (I6 s out1 i1 x1 v19):=(Nf fu).2.1 s out1 i1 x1 v19
theorem B17 (fu:Nat)(s:Str)(out2:List E0)(i2:Int):Le (Vb fu s out2 i2) (T4 s out2 i2):=(Nf fu).2.2 s out2 i2
def Ql (fu:Nat)(s:Str):Option (List E0×Int×Int):=
 if (decide (((s).length:Int) > 8192))=true then
  some ([],0,5)
 else
  C8 fu s [] 0
theorem Yy (fu:Nat)(s:Str):Le (Ql fu s) (Md s):=by
 unfold Ql Md
 repeat (first | exact Le.rfl | exact Pt fu _ _ _ | exact K0 _ | refine Le.bind ?_ (fun _=>?_) | refine Le.ite ?_ ?_ | (rename_i x; cases x))
def Vd (fu:Nat)(text:Str)(parserParser:B0):Option Bool:=
 if (decide (parserParser.next≥((parserParser.tokens).length:Int)))=true then
  some false
 else
  idx parserParser.tokens parserParser.next>>=fun x1=>
  some (bif (x1.Text == text) then (bif (x1.Kind == 2) then true else (x1.Kind == 3)) else false)
theorem Eo (fu:Nat)(text:Str)(parserParser:B0):Le (Vd fu text parserParser) (Q6 text parserParser):=by
 unfold Vd Q6
 repeat (first | exact Le.rfl | exact K0 _ | refine Le.bind ?_ (fun _=>?_) | refine Le.ite ?_ ?_ | (rename_i x; cases x))
def V0 (fu:Nat)(text:Str)(parserParser:B0):Option (Bool×B0):=
 Vd fu text parserParser>>=fun x1=>
 if (!x1)=true then
  some (false,parserParser)
 else
  some (true,(B0.mk parserParser.tokens (IntKind.i64.wrap (parserParser.next+1)) parserParser.endV))
theorem T0 (fu:Nat)(text:Str)(parserParser:B0):Le (V0 fu text parserParser) (L0 text parserParser):=by
 unfold V0 L0
 repeat (first | exact Le.rfl | exact Eo fu _ _ | exact K0 _ | refine Le.bind ?_ (fun _=>?_) | refine Le.ite ?_ ?_ | (rename_i x; cases x))
def Hb (fu:Nat)(parserParser:B0):Option Bool:=
 (if (decide (parserParser.next < ((parserParser.tokens).length:Int)))=true then idx parserParser.tokens parserParser.next else some default)>>=fun x1=>
 some (bif (decide (parserParser.next < ((parserParser.tokens).length:Int))) then (x1.Kind == 0) else false)
theorem X0 (fu:Nat)(parserParser:B0):Le (Hb fu parserParser) (Q4 parserParser):=by
 unfold Hb Q4
 repeat (first | exact Le.rfl | exact K0 _ | refine Le.bind ?_ (fun _=>?_) | refine Le.ite ?_ ?_ | (rename_i x; cases x))
def I7 (fu:Nat)(parserParser:B0):Option (Pn Unit):=
 if (decide (parserParser.next < ((parserParser.tokens).length:Int)))=true then
  idx parserParser.tokens parserParser.next>>=fun x1=>
  some (.pn x1.At)
 else
  some (.pn parserParser.endV)
theorem Wb (fu:Nat)(parserParser:B0):Le (I7 fu parserParser) (T3 parserParser):=by
 unfold I7 T3
 repeat (first | exact Le.rfl | exact K0 _ | refine Le.bind ?_ (fun _=>?_) | refine Le.ite ?_ ?_ | (rename_i x; cases x))
def W7 (fu:Nat)(parserParser:B0):Option (Pn (Str×B0)):=
 idx parserParser.tokens (IntKind.i64.wrap ((IntKind.i64.wrap (parserParser.next+1)) - 1))>>=fun x3=>
 some (.ok (x3.Text,(B0.mk parserParser.tokens (IntKind.i64.wrap (parserParser.next+1)) parserParser.endV)))
theorem Ck (fu:Nat)(parserParser:B0):Le (W7 fu parserParser) (F4 parserParser):=by
 unfold W7 F4
 repeat (first | exact Le.rfl | exact K0 _ | refine Le.bind ?_ (fun _=>?_) | refine Le.ite ?_ ?_ | (rename_i x; cases x))
def N9 (fu:Nat)(k:Int)(parserParser:B0):Option (Pn (Str×B0)):=
 (if (!(decide (parserParser.next≥((parserParser.tokens).length:Int))))=true then idx parserParser.tokens parserParser.next else some default)>>=fun x1=>
 if (bif (decide (parserParser.next≥((parserParser.tokens).length:Int))) then true else (x1.Kind != k))=true then
  I7 fu parserParser>>=fun x2=>match x2 with
  | .pn nn=>
  some (.pn nn)
  | .ok x2=>
  W7 fu parserParser
 else
  W7 fu parserParser
theorem Cg (fu:Nat)(k:Int)(parserParser:B0):Le (N9 fu k parserParser) (L4 k parserParser):=by
 unfold N9 L4
 repeat (first | exact Le.rfl | exact Wb fu _ | exact Ck fu _ | exact K0 _ | refine Le.bind ?_ (fun _=>?_) | refine Le.ite ?_ ?_ | (rename_i x; cases x))
def O9 (fu:Nat)(parserParser:B0):Option (Pn (Str×B0)):=
 N9 fu 0 parserParser>>=fun x1=>match x1 with
 | .pn nn=>
 some (.pn nn)
 | .ok x1=>
 some (.ok (x1.1,x1.2))
theorem F1 (fu:Nat)(parserParser:B0):Le (O9 fu parserParser) (M4 parserParser):=by
 unfold O9 M4
 repeat (first | exact Le.rfl | exact Cg fu _ _ | exact K0 _ | refine Le.bind ?_ (fun _=>?_) | refine Le.ite ?_ ?_ | (rename_i x; cases x))
def W3 (fu:Nat)(text:Str)(parserParser:B0):Option (Pn B0):=
 V0 fu text parserParser>>=fun x1=>
 if (!x1.1)=true then
  I7 fu x1.2>>=fun x2=>match x2 with
  | .pn nn=>
  some (.pn nn)
  | .ok x2=>
  some (.ok x1.2)
 else
  some (.ok x1.2)
theorem G1 (fu:Nat)(text:Str)(parserParser:B0):Le (W3 fu text parserParser) (X2 text parserParser):=by
 unfold W3 X2
 repeat (first | exact Le.rfl | exact T0 fu _ _ | exact Wb fu _ | exact K0 _ | refine Le.bind ?_ (fun _=>?_) | refine Le.ite ?_ ?_ | (rename_i x; cases x))
def Ib (fu:Nat)(parserParser:B0):Option (Pn (Int×B0)):=
 N9 fu 1 parserParser>>=fun x1=>match x1 with
 | .pn nn=>
 some (.pn nn)
 | .ok x1=>
 Jm x1.1>>=fun x2=>
 some (.ok (x2,x1.2))
theorem Y0 (fu:Nat)(parserParser:B0):Le (Ib fu parserParser) (R4 parserParser):=by
 unfold Ib R4
 repeat (first | exact Le.rfl | exact Cg fu _ _ | exact K0 _ | refine Le.bind ?_ (fun _=>?_) | refine Le.ite ?_ ?_ | (rename_i x; cases x))
def P9 (fu:Nat)(parserParser:B0):Option (Int×Bool×B0):=
 V0 fu [42] parserParser>>=fun x1=>
 if x1.1=true then
  some (10,true,x1.2)
 else
  V0 fu [47] x1.2>>=fun x2=>
  if x2.1=true then
   some (11,true,x2.2)
  else
   V0 fu [37] x2.2>>=fun x3=>
   some (12,x3.1,x3.2)
theorem U0 (fu:Nat)(parserParser:B0):Le (P9 fu parserParser) (R3 parserParser):=by
 unfold P9 R3
 repeat (first | exact Le.rfl | exact T0 fu _ _ | exact K0 _ | refine Le.bind ?_ (fun _=>?_) | refine Le.ite ?_ ?_ | (rename_i x; cases x))
def Xb (fu:Nat)(parserParser:B0):Option (Int×Bool×B0):=
 V0 fu [43] parserParser>>=fun x1=>
 if x1.1=true then
  some (8,true,x1.2)
 else
  V0 fu [45] x1.2>>=fun x2=>
  some (9,x2.1,x2.2)
theorem A1 (fu:Nat)(parserParser:B0):Le (Xb fu parserParser) (Y4 parserParser):=by
 unfold Xb Y4
 repeat (first | exact Le.rfl | exact T0 fu _ _ | exact K0 _ | refine Le.bind ?_ (fun _=>?_) | refine Le.ite ?_ ?_ | (rename_i x; cases x))
def Yb (fu:Nat)(parserParser:B0):Option (Int×Bool×B0):=
 V0 fu [38,38] parserParser>>=fun x1=>
 some (19,x1.1,x1.2)
theorem B1 (fu:Nat)(parserParser:B0):Le (Yb fu parserParser) (Z4 parserParser):=by
 unfold Yb Z4
 repeat (first | exact Le.rfl | exact T0 fu _ _ | exact K0 _ | refine Le.bind ?_ (fun _=>?_) | refine Le.ite ?_ ?_ | (rename_i x; cases x))
def Rc (fu:Nat)(parserParser:B0):Option (Int×Bool×B0):=
 V0 fu [124,124] parserParser>>=fun x1=>
 some (20,x1.1,x1.2)
theorem I1 (fu:Nat)(parserParser:B0):Le (Rc fu parserParser) (L5 parserParser):=by
 unfold Rc L5
 repeat (first | exact Le.rfl | exact T0 fu _ _ | exact K0 _ | refine Le.bind ?_ (fun _=>?_) | refine Le.ite ?_ ?_ | (rename_i x; cases x))
mutual
def E2:Nat→B0→Option (Pn (A0×B0))
 | 0,_=>none
 | fu+1,parserParser=>
  Wa fu parserParser>>=fun x1=>match x1 with
  | .pn nn=>
  some (.pn nn)
  | .ok x1=>
  V0 fu [63] x1.2>>=fun x2=>
  if (!x2.1)=true then
   some (.ok (x1.1,x2.2))
  else
   E2 fu x2.2>>=fun x3=>match x3 with
   | .pn nn=>
   some (.pn nn)
   | .ok x3=>
   W3 fu [58] x3.2>>=fun x4=>match x4 with
   | .pn nn=>
   some (.pn nn)
   | .ok x4=>
   E2 fu x4>>=fun x5=>match x5 with
   | .pn nn=>
   some (.pn nn)
   | .ok x5=>
   some (.ok ((A0.mk 23 0 [] [x1.1,x3.1,x5.1]),x5.2))
def Wa:Nat→B0→Option (Pn (A0×B0))
 | 0,_=>none
 | fu+1,parserParser=>
  S8 fu parserParser>>=fun x1=>match x1 with
  | .pn nn=>
  some (.pn nn)
  | .ok x1=>
  some (.ok (x1.1,x1.2))
def S8:Nat→B0→Option (Pn (A0×B0))
 | 0,_=>none
 | fu+1,parserParser=>
  Y7 fu parserParser>>=fun x1=>match x1 with
  | .pn nn=>
  some (.pn nn)
  | .ok x1=>
  O5 fu x1.2 x1.1
def Y7:Nat→B0→Option (Pn (A0×B0))
 | 0,_=>none
 | fu+1,parserParser=>
  J7 fu parserParser>>=fun x1=>match x1 with
  | .pn nn=>
  some (.pn nn)
  | .ok x1=>
  some (.ok (x1.1,x1.2))
def J7:Nat→B0→Option (Pn (A0×B0))
 | 0,_=>none
 | fu+1,parserParser=>
  U4 fu parserParser>>=fun x1=>match x1 with
  | .pn nn=>
  some (.pn nn)
  | .ok x1=>
  P4 fu x1.2 x1.1
def U4:Nat→B0→Option (Pn (A0×B0))
 | 0,_=>none
 | fu+1,parserParser=>
  Z7 fu parserParser>>=fun x1=>match x1 with
  | .pn nn=>
  some (.pn nn)
  | .ok x1=>
  V0 fu [61,61] x1.2>>=fun x2=>
  if x2.1=true then
   A2 fu x2.2 x1 13
  else
   V0 fu [33,61] x2.2>>=fun x4=>
   if x4.1=true then
    A2 fu x4.2 x1 14
   else
    V0 fu [60] x4.2>>=fun x5=>
    if x5.1=true then
     A2 fu x5.2 x1 15
    else
     V0 fu [60,61] x5.2>>=fun x6=>
     if x6.1=true then
      A2 fu x6.2 x1 16
     else
      V0 fu [62] x6.2>>=fun x7=>
      if x7.1=true then
       A2 fu x7.2 x1 17
      else
       V0 fu [62,61] x7.2>>=fun x8=>
       if x8.1=true then
        A2 fu x8.2 x1 18
       else
        some (.ok (x1.1,x8.2))
def Z7:Nat→B0→Option (Pn (A0×B0))
 | 0,_=>none
 | fu+1,parserParser=>
  K7 fu parserParser>>=fun x1=>match x1 with
  | .pn nn=>
  some (.pn nn)
  | .ok x1=>
  some (.ok (x1.1,x1.2))
def K7:Nat→B0→Option (Pn (A0×B0))
 | 0,_=>none
 | fu+1,parserParser=>
  V5 fu parserParser>>=fun x1=>match x1 with
  | .pn nn=>
  some (.pn nn)
  | .ok x1=>
  O4 fu x1.2 x1.1
def V5:Nat→B0→Option (Pn (A0×B0))
 | 0,_=>none
 | fu+1,parserParser=>
  L7 fu parserParser>>=fun x1=>match x1 with
  | .pn nn=>
  some (.pn nn)
  | .ok x1=>
  some (.ok (x1.1,x1.2))
def L7:Nat→B0→Option (Pn (A0×B0))
 | 0,_=>none
 | fu+1,parserParser=>
  G4 fu parserParser>>=fun x1=>match x1 with
  | .pn nn=>
  some (.pn nn)
  | .ok x1=>
  N4 fu x1.2 x1.1
def G4:Nat→B0→Option (Pn (A0×B0))
 | 0,_=>none
 | fu+1,parserParser=>
  V0 fu [45] parserParser>>=fun x1=>
  if x1.1=true then
   G4 fu x1.2>>=fun x4=>match x4 with
   | .pn nn=>
   some (.pn nn)
   | .ok x4=>
   some (.ok ((A0.mk 6 0 [] [x4.1]),x4.2))
  else
   V0 fu [33] x1.2>>=fun x2=>
   if x2.1=true then
    G4 fu x2.2>>=fun x5=>match x5 with
    | .pn nn=>
    some (.pn nn)
    | .ok x5=>
    some (.ok ((A0.mk 7 0 [] [x5.1]),x5.2))
   else
    X7 fu x2.2>>=fun x3=>match x3 with
    | .pn nn=>
    some (.pn nn)
    | .ok x3=>
    some (.ok (x3.1,x3.2))
def X7:Nat→B0→Option (Pn (A0×B0))
 | 0,_=>none
 | fu+1,parserParser=>
  Hb fu parserParser>>=fun x1=>
  if x1=true then
   T8 fu parserParser>>=fun x2=>match x2 with
   | .pn nn=>
   some (.pn nn)
   | .ok x2=>
   some (.ok (x2.1,x2.2))
  else
   V0 fu [116,114,117,101] parserParser>>=fun x3=>
   if x3.1=true then
    some (.ok ((A0.mk 1 0 [] []),x3.2))
   else
    V0 fu [102,97,108,115,101] x3.2>>=fun x4=>
    if x4.1=true then
     some (.ok ((A0.mk 2 0 [] []),x4.2))
    else
     V0 fu [109,105,110] x4.2>>=fun x5=>
     if x5.1=true then
      M7 fu 21 x5.2>>=fun x11=>match x11 with
      | .pn nn=>
      some (.pn nn)
      | .ok x11=>
      some (.ok (x11.1,x11.2))
     else
      V0 fu [109,97,120] x5.2>>=fun x6=>
      if x6.1=true then
       M7 fu 22 x6.2>>=fun x12=>match x12 with
       | .pn nn=>
       some (.pn nn)
       | .ok x12=>
       some (.ok (x12.1,x12.2))
      else
       V0 fu [40] x6.2>>=fun x7=>
       if x7.1=true then
        E2 fu x7.2>>=fun x9=>match x9 with
        | .pn nn=>
        some (.pn nn)
        | .ok x9=>
        W3 fu [41] x9.2>>=fun x10=>match x10 with
        | .pn nn=>
        some (.pn nn)
        | .ok x10=>
        some (.ok (x9.1,x10))
       else
        Ib fu x7.2>>=fun x8=>match x8 with
        | .pn nn=>
        some (.pn nn)
        | .ok x8=>
        some (.ok ((A0.mk 0 x8.1 [] []),x8.2))
def T8:Nat→B0→Option (Pn (A0×B0))
 | 0,_=>none
 | fu+1,parserParser=>
  O9 fu parserParser>>=fun x1=>match x1 with
  | .pn nn=>
  some (.pn nn)
  | .ok x1=>
  H4 fu x1.2 3 x1.1 []
def H4:Nat→B0→Int→Str→(List A0)→Option (Pn (A0×B0))
 | 0,_,_,_,_=>none
 | fu+1,o0,o2_Op,o2_Name,o2_Kids=>
  V0 fu [46] o0>>=fun x2=>
  if x2.1=true then
   O9 fu x2.2>>=fun x3=>match x3 with
   | .pn nn=>
   some (.pn nn)
   | .ok x3=>
   H4 fu x3.2 4 x3.1 [(A0.mk o2_Op 0 o2_Name o2_Kids)]
  else
   V0 fu [91] x2.2>>=fun x4=>
   if x4.1=true then
    E2 fu x4.2>>=fun x5=>match x5 with
    | .pn nn=>
    some (.pn nn)
    | .ok x5=>
    W3 fu [93] x5.2>>=fun x6=>match x6 with
    | .pn nn=>
    some (.pn nn)
    | .ok x6=>
    H4 fu x6 5 [] [(A0.mk o2_Op 0 o2_Name o2_Kids),x5.1]
   else
    some (.ok ((A0.mk o2_Op 0 o2_Name o2_Kids),x4.2))
def M7:Nat→Int→B0→Option (Pn (A0×B0))
 | 0,_,_=>none
 | fu+1,op,parserParser=>
  W3 fu [40] parserParser>>=fun x1=>match x1 with
  | .pn nn=>
  some (.pn nn)
  | .ok x1=>
  E2 fu x1>>=fun x2=>match x2 with
  | .pn nn=>
  some (.pn nn)
  | .ok x2=>
  W3 fu [44] x2.2>>=fun x3=>match x3 with
  | .pn nn=>
  some (.pn nn)
  | .ok x3=>
  E2 fu x3>>=fun x4=>match x4 with
  | .pn nn=>
  some (.pn nn)
  | .ok x4=>
  W3 fu [41] x4.2>>=fun x5=>match x5 with
  | .pn nn=>
  some (.pn nn)
  | .ok x5=>
  some (.ok ((A0.mk op 0 [] [x2.1,x4.1]),x5))
def N4:Nat→B0→A0→Option (Pn (A0×B0))
 | 0,_,_=>none
 | fu+1,o0,o3=>
  P9 fu o0>>=fun x2=>
  if (!x2.2.1)=true then
   some (.ok (o3,x2.2.2))
  else
   G4 fu x2.2.2>>=fun x3=>match x3 with
   | .pn nn=>
   some (.pn nn)
   | .ok x3=>
   N4 fu x3.2 (A0.mk x2.1 0 [] [o3,x3.1])
def O4:Nat→B0→A0→Option (Pn (A0×B0))
 | 0,_,_=>none
 | fu+1,o0,o3=>
  Xb fu o0>>=fun x2=>
  if (!x2.2.1)=true then
   some (.ok (o3,x2.2.2))
  else
   V5 fu x2.2.2>>=fun x3=>match x3 with
   | .pn nn=>
   some (.pn nn)
   | .ok x3=>
   O4 fu x3.2 (A0.mk x2.1 0 [] [o3,x3.1])
def A2:Nat→B0→(A0×B0)→Int→Option (Pn (A0×B0))
 | 0,_,_,_=>none
 | fu+1,o0,x1,op=>
  Z7 fu o0>>=fun x3=>match x3 with
  | .pn nn=>
  some (.pn nn)
  | .ok x3=>
  some (.ok ((A0.mk op 0 [] [x1.1,x3.1]),x3.2))
def P4:Nat→B0→A0→Option (Pn (A0×B0))
 | 0,_,_=>none
 | fu+1,o0,o3=>
  Yb fu o0>>=fun x2=>
  if (!x2.2.1)=true then
   some (.ok (o3,x2.2.2))
  else
   U4 fu x2.2.2>>=fun x3=>match x3 with
   | .pn nn=>
   some (.pn nn)
   | .ok x3=>
   P4 fu x3.2 (A0.mk x2.1 0 [] [o3,x3.1])
def O5:Nat→B0→A0→Option (Pn (A0×B0))
 | 0,_,_=>none
 | fu+1,o0,o3=>
  Rc fu o0>>=fun x2=>
  if (!x2.2.1)=true then
   some (.ok (o3,x2.2.2))
  else
   Y7 fu x2.2.2>>=fun x3=>match x3 with
   | .pn nn=>
   some (.pn nn)
   | .ok x3=>
   O5 fu x3.2 (A0.mk x2.1 0 [] [o3,x3.1])
end
theorem P0 (fu:Nat):(∀ (parserParser:B0),Le (E2 fu parserParser) (C1 parserParser))∧(∀ (parserParser:B0),Le (Wa fu parserParser) (X3 parserParser))∧(∀ (parserParser:B0),Le (S8 fu parserParser) (A5 parserParser))∧(∀ (parserParser:B0),Le (Y7 fu parserParser) (H3 parserParser))∧(∀ (parserParser:B0),Le (J7 fu parserParser) (Y3 parserParser))∧(∀ (parserParser:B0),Le (U4 fu parserParser) (C2 parserParser))∧(∀ (parserParser:B0),Le (Z7 fu parserParser) (Z2 parserParser))∧(∀ (parserParser:B0),Le (K7 fu parserParser) (Z3 parserParser))∧(∀ (parserParser:B0),Le (V5 fu parserParser) (R2 parserParser))∧(∀ (parserParser:B0),Le (L7 fu parserParser) (A4 parserParser))∧(∀ (parserParser:B0),Le (G4 fu parserParser) (F2 parserParser))∧(∀ (parserParser:B0),Le (X7 fu parserParser) (N3 parserParser))∧(∀ (parserParser:B0),Le (T8 fu parserParser) (C4 parserParser))∧(∀ (o0:B0) (o2_Op:Int) (o2_Name:Str) (o2_Kids:List A0),Le (H4 fu o0 o2_Op o2_Name o2_Kids) (N2 o0 o2_Op o2_Name o2_Kids))∧(∀ (op:Int) (parserParser:B0),Le (M7 fu op parserParser) (U3 op parserParser))∧(∀ (o0:B0) (o3:A0),Le (N4 fu o0 o3) (V1 o0 o3))∧(∀ (o0:B0) (o3:A0),Le (O4 fu o0 o3) (U1 o0 o3))∧(∀ (o0:B0) (x1:A0×B0) (op:Int),Le (A2 fu o0 x1 op) (R0 o0 x1 op))∧(∀ (o0:B0) (o3:A0),Le (P4 fu o0 o3) (T1 o0 o3))∧(∀ (o0:B0) (o3:A0),Le (O5 fu o0 o3) (D2 o0 o3)):=by
 induction fu with
 | zero=>exact ⟨fun _=>Le.none,fun _=>Le.none,fun _=>Le.none,fun _=>Le.none,fun _=>Le.none,fun _=>Le.none,fun _=>Le.none,fun _=>Le.none,fun _=>Le.none,fun _=>Le.none,fun _=>Le.none,fun _=>Le.none,fun _=>Le.none,fun _ _ _ _=>Le.none,fun _ _=>Le.none,fun _ _=>Le.none,fun _ _=>Le.none,fun _ _ _=>Le.none,fun _ _=>Le.none,fun _ _=>Le.none⟩
 | succ fu ih=>
  obtain ⟨ih0,ih1,ih2,ih3,ih4,ih5,ih6,ih7,ih8,ih9,ih10,ih11,ih12,ih13,ih14,ih15,ih16,ih17,ih18,ih19⟩:=ih
  refine ⟨fun parserParser=>?_,fun parserParser=>?_,fun parserParser=>?_,fun parserParser=>?_,fun parserParser=>?_,fun parserParser=>?_,fun parserParser=>?_,fun parserParser=>?_,fun parserParser=>?_,fun parserParser=>?_,fun parserParser=>?_,fun parserParser=>?_,fun parserParser=>?_,fun o0 o2_Op o2_Name o2_Kids=>?_,fun op parserParser=>?_,fun o0 o3=>?_,fun o0 o3=>?_,fun o0 x1 op=>?_,fun o0 o3=>?_,fun o0 o3=>?_⟩
  ·rw [E2,C1]
   repeat (first | exact Le.rfl | exact ih0 _ | exact ih1 _ | exact ih2 _ | exact ih3 _ | exact ih4 _ | exact ih5 _ | exact ih6 _ | exact ih7 _ | exact ih8 _ | exact ih9 _ | exact ih10 _ | exact ih11 _ | exact ih12 _ | exact ih13 _ _ _ _ | exact ih14 _ _ | exact ih15 _ _ | exact ih16 _ _ | exact ih17 _ _ _ | exact ih18 _ _ | exact ih19 _ _ | exact T0 fu _ _ | exact G1 fu _ _ | exact X0 fu _ | exact Y0 fu _ | exact F1 fu _ | exact U0 fu _ | exact A1 fu _ | exact B1 fu _ | exact I1 fu _ | exact K0 _ | refine Le.bind ?_ (fun _=>?_) | refine Le.ite ?_ ?_ | (rename_i x; cases x))
  ·rw [Wa,X3]
   repeat (first | exact Le.rfl | exact ih0 _ | exact ih1 _ | exact ih2 _ | exact ih3 _ | exact ih4 _ | exact ih5 _ | exact ih6 _ | exact ih7 _ | exact ih8 _ | exact ih9 _ | exact ih10 _ | exact ih11 _ | exact ih12 _ | exact ih13 _ _ _ _ | exact ih14 _ _ | exact ih15 _ _ | exact ih16 _ _ | exact ih17 _ _ _ | exact ih18 _ _ | exact ih19 _ _ | exact T0 fu _ _ | exact G1 fu _ _ | exact X0 fu _ | exact Y0 fu _ | exact F1 fu _ | exact U0 fu _ | exact A1 fu _ | exact B1 fu _ | exact I1 fu _ | exact K0 _ | refine Le.bind ?_ (fun _=>?_) | refine Le.ite ?_ ?_ | (rename_i x; cases x))
  ·rw [S8,A5]
   repeat (first | exact Le.rfl | exact ih0 _ | exact ih1 _ | exact ih2 _ | exact ih3 _ | exact ih4 _ | exact ih5 _ | exact ih6 _ | exact ih7 _ | exact ih8 _ | exact ih9 _ | exact ih10 _ | exact ih11 _ | exact ih12 _ | exact ih13 _ _ _ _ | exact ih14 _ _ | exact ih15 _ _ | exact ih16 _ _ | exact ih17 _ _ _ | exact ih18 _ _ | exact ih19 _ _ | exact T0 fu _ _ | exact G1 fu _ _ | exact X0 fu _ | exact Y0 fu _ | exact F1 fu _ | exact U0 fu _ | exact A1 fu _ | exact B1 fu _ | exact I1 fu _ | exact K0 _ | refine Le.bind ?_ (fun _=>?_) | refine Le.ite ?_ ?_ | (rename_i x; cases x))
  ·rw [Y7,H3]
   repeat (first | exact Le.rfl | exact ih0 _ | exact ih1 _ | exact ih2 _ | exact ih3 _ | exact ih4 _ | exact ih5 _ | exact ih6 _ | exact ih7 _ | exact ih8 _ | exact ih9 _ | exact ih10 _ | exact ih11 _ | exact ih12 _ | exact ih13 _ _ _ _ | exact ih14 _ _ | exact ih15 _ _ | exact ih16 _ _ | exact ih17 _ _ _ | exact ih18 _ _ | exact ih19 _ _ | exact T0 fu _ _ | exact G1 fu _ _ | exact X0 fu _ | exact Y0 fu _ | exact F1 fu _ | exact U0 fu _ | exact A1 fu _ | exact B1 fu _ | exact I1 fu _ | exact K0 _ | refine Le.bind ?_ (fun _=>?_) | refine Le.ite ?_ ?_ | (rename_i x; cases x))
  ·rw [J7,Y3]
   repeat (first | exact Le.rfl | exact ih0 _ | exact ih1 _ | exact ih2 _ | exact ih3 _ | exact ih4 _ | exact ih5 _ | exact ih6 _ | exact ih7 _ | exact ih8 _ | exact ih9 _ | exact ih10 _ | exact ih11 _ | exact ih12 _ | exact ih13 _ _ _ _ | exact ih14 _ _ | exact ih15 _ _ | exact ih16 _ _ | exact ih17 _ _ _ | exact ih18 _ _ | exact ih19 _ _ | exact T0 fu _ _ | exact G1 fu _ _ | exact X0 fu _ | exact Y0 fu _ | exact F1 fu _ | exact U0 fu _ | exact A1 fu _ | exact B1 fu _ | exact I1 fu _ | exact K0 _ | refine Le.bind ?_ (fun _=>?_) | refine Le.ite ?_ ?_ | (rename_i x; cases x))
  ·rw [U4,C2]
   repeat (first | exact Le.rfl | exact ih0 _ | exact ih1 _ | exact ih2 _ | exact ih3 _ | exact ih4 _ | exact ih5 _ | exact ih6 _ | exact ih7 _ | exact ih8 _ | exact ih9 _ | exact ih10 _ | exact ih11 _ | exact ih12 _ | exact ih13 _ _ _ _ | exact ih14 _ _ | exact ih15 _ _ | exact ih16 _ _ | exact ih17 _ _ _ | exact ih18 _ _ | exact ih19 _ _ | exact T0 fu _ _ | exact G1 fu _ _ | exact X0 fu _ | exact Y0 fu _ | exact F1 fu _ | exact U0 fu _ | exact A1 fu _ | exact B1 fu _ | exact I1 fu _ | exact K0 _ | refine Le.bind ?_ (fun _=>?_) | refine Le.ite ?_ ?_ | (rename_i x; cases x))
  ·rw [Z7,Z2]
   repeat (first | exact Le.rfl | exact ih0 _ | exact ih1 _ | exact ih2 _ | exact ih3 _ | exact ih4 _ | exact ih5 _ | exact ih6 _ | exact ih7 _ | exact ih8 _ | exact ih9 _ | exact ih10 _ | exact ih11 _ | exact ih12 _ | exact ih13 _ _ _ _ | exact ih14 _ _ | exact ih15 _ _ | exact ih16 _ _ | exact ih17 _ _ _ | exact ih18 _ _ | exact ih19 _ _ | exact T0 fu _ _ | exact G1 fu _ _ | exact X0 fu _ | exact Y0 fu _ | exact F1 fu _ | exact U0 fu _ | exact A1 fu _ | exact B1 fu _ | exact I1 fu _ | exact K0 _ | refine Le.bind ?_ (fun _=>?_) | refine Le.ite ?_ ?_ | (rename_i x; cases x))
  ·rw [K7,Z3]
   repeat (first | exact Le.rfl | exact ih0 _ | exact ih1 _ | exact ih2 _ | exact ih3 _ | exact ih4 _ | exact ih5 _ | exact ih6 _ | exact ih7 _ | exact ih8 _ | exact ih9 _ | exact ih10 _ | exact ih11 _ | exact ih12 _ | exact ih13 _ _ _ _ | exact ih14 _ _ | exact ih15 _ _ | exact ih16 _ _ | exact ih17 _ _ _ | exact ih18 _ _ | exact ih19 _ _ | exact T0 fu _ _ | exact G1 fu _ _ | exact X0 fu _ | exact Y0 fu _ | exact F1 fu _ | exact U0 fu _ | exact A1 fu _ | exact B1 fu _ | exact I1 fu _ | exact K0 _ | refine Le.bind ?_ (fun _=>?_) | refine Le.ite ?_ ?_ | (rename_i x; cases x))
  ·rw [V5,R2]
   repeat (first | exact Le.rfl | exact ih0 _ | exact ih1 _ | exact ih2 _ | exact ih3 _ | exact ih4 _ | exact ih5 _ | exact ih6 _ | exact ih7 _ | exact ih8 _ | exact ih9 _ | exact ih10 _ | exact ih11 _ | exact ih12 _ | exact ih13 _ _ _ _ | exact ih14 _ _ | exact ih15 _ _ | exact ih16 _ _ | exact ih17 _ _ _ | exact ih18 _ _ | exact ih19 _ _ | exact T0 fu _ _ | exact G1 fu _ _ | exact X0 fu _ | exact Y0 fu _ | exact F1 fu _ | exact U0 fu _ | exact A1 fu _ | exact B1 fu _ | exact I1 fu _ | exact K0 _ | refine Le.bind ?_ (fun _=>?_) | refine Le.ite ?_ ?_ | (rename_i x; cases x))
  ·rw [L7,A4]
   repeat (first | exact Le.rfl | exact ih0 _ | exact ih1 _ | exact ih2 _ | exact ih3 _ | exact ih4 _ | exact ih5 _ | exact ih6 _ | exact ih7 _ | exact ih8 _ | exact ih9 _ | exact ih10 _ | exact ih11 _ | exact ih12 _ | exact ih13 _ _ _ _ | exact ih14 _ _ | exact ih15 _ _ | exact ih16 _ _ | exact ih17 _ _ _ | exact ih18 _ _ | exact ih19 _ _ | exact T0 fu _ _ | exact G1 fu _ _ | exact X0 fu _ | exact Y0 fu _ | exact F1 fu _ | exact U0 fu _ | exact A1 fu _ | exact B1 fu _ | exact I1 fu _ | exact K0 _ | refine Le.bind ?_ (fun _=>?_) | refine Le.ite ?_ ?_ | (rename_i x; cases x))
  ·rw [G4,F2]
   repeat (first | exact Le.rfl | exact ih0 _ | exact ih1 _ | exact ih2 _ | exact ih3 _ | exact ih4 _ | exact ih5 _ | exact ih6 _ | exact ih7 _ | exact ih8 _ | exact ih9 _ | exact ih10 _ | exact ih11 _ | exact ih12 _ | exact ih13 _ _ _ _ | exact ih14 _ _ | exact ih15 _ _ | exact ih16 _ _ | exact ih17 _ _ _ | exact ih18 _ _ | exact ih19 _ _ | exact T0 fu _ _ | exact G1 fu _ _ | exact X0 fu _ | exact Y0 fu _ | exact F1 fu _ | exact U0 fu _ | exact A1 fu _ | exact B1 fu _ | exact I1 fu _ | exact K0 _ | refine Le.bind ?_ (fun _=>?_) | refine Le.ite ?_ ?_ | (rename_i x; cases x))
  ·rw [X7,N3]
   repeat (first | exact Le.rfl | exact ih0 _ | exact ih1 _ | exact ih2 _ | exact ih3 _ | exact ih4 _ | exact ih5 _ | exact ih6 _ | exact ih7 _ | exact ih8 _ | exact ih9 _ | exact ih10 _ | exact ih11 _ | exact ih12 _ | exact ih13 _ _ _ _ | exact ih14 _ _ | exact ih15 _ _ | exact ih16 _ _ | exact ih17 _ _ _ | exact ih18 _ _ | exact ih19 _ _ | exact T0 fu _ _ | exact G1 fu _ _ | exact X0 fu _ | exact Y0 fu _ | exact F1 fu _ | exact U0 fu _ | exact A1 fu _ | exact B1 fu _ | exact I1 fu _ | exact K0 _ | refine Le.bind ?_ (fun _=>?_) | refine Le.ite ?_ ?_ | (rename_i x; cases x))
  ·rw [T8,C4]
   repeat (first | exact Le.rfl | exact ih0 _ | exact ih1 _ | exact ih2 _ | exact ih3 _ | exact ih4 _ | exact ih5 _ | exact ih6 _ | exact ih7 _ | exact ih8 _ | exact ih9 _ | exact ih10 _ | exact ih11 _ | exact ih12 _ | exact ih13 _ _ _ _ | exact ih14 _ _ | exact ih15 _ _ | exact ih16 _ _ | exact ih17 _ _ _ | exact ih18 _ _ | exact ih19 _ _ | exact T0 fu _ _ | exact G1 fu _ _ | exact X0 fu _ | exact Y0 fu _ | exact F1 fu _ | exact U0 fu _ | exact A1 fu _ | exact B1 fu _ | exact I1 fu _ | exact K0 _ | refine Le.bind ?_ (fun _=>?_) | refine Le.ite ?_ ?_ | (rename_i x; cases x))
  ·rw [H4,N2]
   repeat (first | exact Le.rfl | exact ih0 _ | exact ih1 _ | exact ih2 _ | exact ih3 _ | exact ih4 _ | exact ih5 _ | exact ih6 _ | exact ih7 _ | exact ih8 _ | exact ih9 _ | exact ih10 _ | exact ih11 _ | exact ih12 _ | exact ih13 _ _ _ _ | exact ih14 _ _ | exact ih15 _ _ | exact ih16 _ _ | exact ih17 _ _ _ | exact ih18 _ _ | exact ih19 _ _ | exact T0 fu _ _ | exact G1 fu _ _ | exact X0 fu _ | exact Y0 fu _ | exact F1 fu _ | exact U0 fu _ | exact A1 fu _ | exact B1 fu _ | exact I1 fu _ | exact K0 _ | refine Le.bind ?_ (fun _=>?_) | refine Le.ite ?_ ?_ | (rename_i x; cases x))
  ·rw [M7,U3]
   repeat (first | exact Le.rfl | exact ih0 _ | exact ih1 _ | exact ih2 _ | exact ih3 _ | exact ih4 _ | exact ih5 _ | exact ih6 _ | exact ih7 _ | exact ih8 _ | exact ih9 _ | exact ih10 _ | exact ih11 _ | exact ih12 _ | exact ih13 _ _ _ _ | exact ih14 _ _ | exact ih15 _ _ | exact ih16 _ _ | exact ih17 _ _ _ | exact ih18 _ _ | exact ih19 _ _ | exact T0 fu _ _ | exact G1 fu _ _ | exact X0 fu _ | exact Y0 fu _ | exact F1 fu _ | exact U0 fu _ | exact A1 fu _ | exact B1 fu _ | exact I1 fu _ | exact K0 _ | refine Le.bind ?_ (fun _=>?_) | refine Le.ite ?_ ?_ | (rename_i x; cases x))
  ·rw [N4,V1]
   repeat (first | exact Le.rfl | exact ih0 _ | exact ih1 _ | exact ih2 _ | exact ih3 _ | exact ih4 _ | exact ih5 _ | exact ih6 _ | exact ih7 _ | exact ih8 _ | exact ih9 _ | exact ih10 _ | exact ih11 _ | exact ih12 _ | exact ih13 _ _ _ _ | exact ih14 _ _ | exact ih15 _ _ | exact ih16 _ _ | exact ih17 _ _ _ | exact ih18 _ _ | exact ih19 _ _ | exact T0 fu _ _ | exact G1 fu _ _ | exact X0 fu _ | exact Y0 fu _ | exact F1 fu _ | exact U0 fu _ | exact A1 fu _ | exact B1 fu _ | exact I1 fu _ | exact K0 _ | refine Le.bind ?_ (fun _=>?_) | refine Le.ite ?_ ?_ | (rename_i x; cases x))
  ·rw [O4,U1]
   repeat (first | exact Le.rfl | exact ih0 _ | exact ih1 _ | exact ih2 _ | exact ih3 _ | exact ih4 _ | exact ih5 _ | exact ih6 _ | exact ih7 _ | exact ih8 _ | exact ih9 _ | exact ih10 _ | exact ih11 _ | exact ih12 _ | exact ih13 _ _ _ _ | exact ih14 _ _ | exact ih15 _ _ | exact ih16 _ _ | exact ih17 _ _ _ | exact ih18 _ _ | exact ih19 _ _ | exact T0 fu _ _ | exact G1 fu _ _ | exact X0 fu _ | exact Y0 fu _ | exact F1 fu _ | exact U0 fu _ | exact A1 fu _ | exact B1 fu _ | exact I1 fu _ | exact K0 _ | refine Le.bind ?_ (fun _=>?_) | refine Le.ite ?_ ?_ | (rename_i x; cases x))
  ·rw [A2,R0]
   repeat (first | exact Le.rfl | exact ih0 _ | exact ih1 _ | exact ih2 _ | exact ih3 _ | exact ih4 _ | exact ih5 _ | exact ih6 _ | exact ih7 _ | exact ih8 _ | exact ih9 _ | exact ih10 _ | exact ih11 _ | exact ih12 _ | exact ih13 _ _ _ _ | exact ih14 _ _ | exact ih15 _ _ | exact ih16 _ _ | exact ih17 _ _ _ | exact ih18 _ _ | exact ih19 _ _ | exact T0 fu _ _ | exact G1 fu _ _ | exact X0 fu _ | exact Y0 fu _ | exact F1 fu _ | exact U0 fu _ | exact A1 fu _ | exact B1 fu _ | exact I1 fu _ | exact K0 _ | refine Le.bind ?_ (fun _=>?_) | refine Le.ite ?_ ?_ | (rename_i x; cases x))
  ·rw [P4,T1]
   repeat (first | exact Le.rfl | exact ih0 _ | exact ih1 _ | exact ih2 _ | exact ih3 _ | exact ih4 _ | exact ih5 _ | exact ih6 _ | exact ih7 _ | exact ih8 _ | exact ih9 _ | exact ih10 _ | exact ih11 _ | exact ih12 _ | exact ih13 _ _ _ _ | exact ih14 _ _ | exact ih15 _ _ | exact ih16 _ _ | exact ih17 _ _ _ | exact ih18 _ _ | exact ih19 _ _ | exact T0 fu _ _ | exact G1 fu _ _ | exact X0 fu _ | exact Y0 fu _ | exact F1 fu _ | exact U0 fu _ | exact A1 fu _ | exact B1 fu _ | exact I1 fu _ | exact K0 _ | refine Le.bind ?_ (fun _=>?_) | refine Le.ite ?_ ?_ | (rename_i x; cases x))
  ·rw [O5,D2]
   repeat (first | exact Le.rfl | exact ih0 _ | exact ih1 _ | exact ih2 _ | exact ih3 _ | exact ih4 _ | exact ih5 _ | exact ih6 _ | exact ih7 _ | exact ih8 _ | exact ih9 _ | exact ih10 _ | exact ih11 _ | exact ih12 _ | exact ih13 _ _ _ _ | exact ih14 _ _ | exact ih15 _ _ | exact ih16 _ _ | exact ih17 _ _ _ | exact ih18 _ _ | exact ih19 _ _ | exact T0 fu _ _ | exact G1 fu _ _ | exact X0 fu _ | exact Y0 fu _ | exact F1 fu _ | exact U0 fu _ | exact A1 fu _ | exact B1 fu _ | exact I1 fu _ | exact K0 _ | refine Le.bind ?_ (fun _=>?_) | refine Le.ite ?_ ?_ | (rename_i x; cases x))
theorem Ii (fu:Nat)(parserParser:B0):Le (E2 fu parserParser) (C1 parserParser):=(P0 fu).1 parserParser
theorem C13 (fu:Nat)(parserParser:B0):Le (Wa fu parserParser) (X3 parserParser):=(P0 fu).2.1 parserParser
theorem J10 (fu:Nat)(parserParser:B0):Le (S8 fu parserParser) (A5 parserParser):=(P0 fu).2.2.1 parserParser
theorem N12 (fu:Nat)(parserParser:B0):Le (Y7 fu parserParser) (H3 parserParser):=(P0 fu).2.2.2.1 parserParser
theorem Xw (fu:Nat)(parserParser:B0):Le (J7 fu parserParser) (Y3 parserParser):=(P0 fu).2.2.2.2.1 parserParser
theorem Vv (fu:Nat)(parserParser:B0):Le (U4 fu parserParser) (C2 parserParser):=(P0 fu).2.2.2.2.2.1 parserParser
theorem O12 (fu:Nat)(parserParser:B0):Le (Z7 fu parserParser) (Z2 parserParser):=(P0 fu).2.2.2.2.2.2.1 parserParser
theorem Yw (fu:Nat)(parserParser:B0):Le (K7 fu parserParser) (Z3 parserParser):=(P0 fu).2.2.2.2.2.2.2.1 parserParser
theorem Zy (fu:Nat)(parserParser:B0):Le (V5 fu parserParser) (R2 parserParser):=(P0 fu).2.2.2.2.2.2.2.2.1 parserParser
theorem Zw (fu:Nat)(parserParser:B0):Le (L7 fu parserParser) (A4 parserParser):=(P0 fu).2.2.2.2.2.2.2.2.2.1 parserParser
theorem K10 (fu:Nat)(parserParser:B0):Le (G4 fu parserParser) (F2 parserParser):=(P0 fu).2.2.2.2.2.2.2.2.2.2.1 parserParser
theorem Az (fu:Nat)(parserParser:B0):Le (X7 fu parserParser) (N3 parserParser):=(P0 fu).2.2.2.2.2.2.2.2.2.2.2.1 parserParser
theorem L10 (fu:Nat)(parserParser:B0):Le (T8 fu parserParser) (C4 parserParser):=(P0 fu).2.2.2.2.2.2.2.2.2.2.2.2.1 parserParser
theorem Ax (fu:Nat)(o0:B0)(o2_Op:Int)(o2_Name:Str)(o2_Kids:List A0):Le (H4 fu o0 o2_Op o2_Name o2_Kids) (N2 o0 o2_Op o2_Name o2_Kids):=(P0 fu).2.2.2.2.2.2.2.2.2.2.2.2.2.1 o0 o2_Op o2_Name o2_Kids
theorem A11 (fu:Nat)(op:Int)(parserParser:B0):Le (M7 fu op parserParser) (U3 op parserParser):=(P0 fu).2.2.2.2.2.2.2.2.2.2.2.2.2.2.1 op parserParser
theorem Ru (fu:Nat)(o0:B0)(o3:A0):Le (N4 fu o0 o3) (V1 o0 o3):=(P0 fu).2.2.2.2.2.2.2.2.2.2.2.2.2.2.2.1 o0 o3
theorem Su (fu:Nat)(o0:B0)(o3:A0):Le (O4 fu o0 o3) (U1 o0 o3):=(P0 fu).2.2.2.2.2.2.2.2.2.2.2.2.2.2.2.2.1 o0 o3
theorem Qt (fu:Nat)(o0:B0)(x1:A0×B0)(op:Int):Le (A2 fu o0 x1 op) (R0 o0 x1 op):=(P0 fu).2.2.2.2.2.2.2.2.2.2.2.2.2.2.2.2.2.1 o0 x1 op
theorem Tu (fu:Nat)(o0:B0)(o3:A0):Le (P4 fu o0 o3) (T1 o0 o3):=(P0 fu).2.2.2.2.2.2.2.2.2.2.2.2.2.2.2.2.2.2.1 o0 o3
theorem Bx (fu:Nat)(o0:B0)(o3:A0):Le (O5 fu o0 o3) (D2 o0 o3):=(P0 fu).2.2.2.2.2.2.2.2.2.2.2.2.2.2.2.2.2.2.2 o0 o3
def Sc (fu:Nat)(parserParser:B0)(apiExpr:A0):Option (Pn (B0×A0)):=
 E2 fu parserParser>>=fun x1=>match x1 with
 | .pn nn=>
 some (.pn nn)
 | .ok x1=>
 some (.ok (x1.2,x1.1))
theorem Tm (fu:Nat)(parserParser:B0)(apiExpr:A0):Le (Sc fu parserParser apiExpr) (V6 parserParser apiExpr):=by
 unfold Sc V6
 repeat (first | exact Le.rfl | exact Ii fu _ | exact K0 _ | refine Le.bind ?_ (fun _=>?_) | refine Le.ite ?_ ?_ | (rename_i x; cases x))
def Si (fu:Nat)(text:Str)(apiExpr:A0):Option (Int×Int×A0):=
 Ql fu text>>=fun x1=>
 if (x1.2.2 != 0)=true then
  some (x1.2.1,x1.2.2,apiExpr)
 else
  Sc fu (B0.mk x1.1 0 ((text).length:Int)) apiExpr>>=fun x2=>match x2 with
  | .pn nn=>
  some (nn,6,apiExpr)
  | .ok x2=>
  if (decide (x2.1.next < ((x2.1.tokens).length:Int)))=true then
   I7 fu x2.1>>=fun x3=>match x3 with
   | .pn nn=>
   some (nn,6,x2.2)
   | .ok x3=>
   some (0,0,x2.2)
  else
   some (0,0,x2.2)
theorem Uu (fu:Nat)(text:Str)(apiExpr:A0):Le (Si fu text apiExpr) (Q9 text apiExpr):=by
 unfold Si Q9
 repeat (first | exact Le.rfl | exact Yy fu _ | exact Tm fu _ _ | exact Wb fu _ | exact K0 _ | refine Le.bind ?_ (fun _=>?_) | refine Le.ite ?_ ?_ | (rename_i x; cases x))
def Tc (fu:Nat)(d:Int)(syntaxReport:D0):Option D0:=
 some (D0.mk syntaxReport.nodes (max syntaxReport.depth d) syntaxReport.badForm syntaxReport.badName syntaxReport.badNumber)
theorem X6 (fu:Nat)(d:Int)(syntaxReport:D0):Le (Tc fu d syntaxReport) (W6 d syntaxReport):=by
 unfold Tc W6
 repeat (first | exact Le.rfl | exact K0 _ | refine Le.bind ?_ (fun _=>?_) | refine Le.ite ?_ ?_ | (rename_i x; cases x))
def C9 (fu:Nat)(op:Int)(v9:Bool):Option Int:=
 if v9=true then
  some 1
 else
  if (op == 5)=true then
   some 2
  else
   if (op == 23)=true then
    some 3
   else
    if (bif (decide (op≥8)) then (decide (op≤22)) else false)=true then
     some 2
    else
     some (-1)
theorem Ep (fu:Nat)(op:Int)(v9:Bool):Le (C9 fu op v9) (F6 op v9):=by
 unfold C9 F6
 repeat (first | exact Le.rfl | exact K0 _ | refine Le.bind ?_ (fun _=>?_) | refine Le.ite ?_ ?_ | (rename_i x; cases x))
def R7 (fu:Nat)(op:Int)(v4:Bool):Option Int:=
 if v4=true then
  some 0
 else
  if (op == 4)=true then
   C9 fu op (op == 4)
  else
   if (op == 6)=true then
    C9 fu op (op == 6)
   else
    C9 fu op (op == 7)
theorem Fp (fu:Nat)(op:Int)(v4:Bool):Le (R7 fu op v4) (C5 op v4):=by
 unfold R7 C5
 repeat (first | exact Le.rfl | exact Ep fu _ _ | exact K0 _ | refine Le.bind ?_ (fun _=>?_) | refine Le.ite ?_ ?_ | (rename_i x; cases x))
def Eh (fu:Nat)(op:Int):Option Int:=
 if (op == 0)=true then
  R7 fu op (op == 0)
 else
  if (op == 1)=true then
   R7 fu op (op == 1)
  else
   if (op == 2)=true then
    R7 fu op (op == 2)
   else
    R7 fu op (op == 3)
theorem Xa (fu:Nat)(op:Int):Le (Eh fu op) (Ca op):=by
 unfold Eh Ca
 repeat (first | exact Le.rfl | exact Fp fu _ _ | exact K0 _ | refine Le.bind ?_ (fun _=>?_) | refine Le.ite ?_ ?_ | (rename_i x; cases x))
def S5 (fu:Nat)(ok:Bool)(syntaxReport:D0):Option D0:=
 some (D0.mk syntaxReport.nodes syntaxReport.depth (bif syntaxReport.badForm then true else (!ok)) syntaxReport.badName syntaxReport.badNumber)
theorem Y6 (fu:Nat)(ok:Bool)(syntaxReport:D0):Le (S5 fu ok syntaxReport) (K3 ok syntaxReport):=by
 unfold S5 K3
 repeat (first | exact Le.rfl | exact K0 _ | refine Le.bind ?_ (fun _=>?_) | refine Le.ite ?_ ?_ | (rename_i x; cases x))
def D9:Nat→A0→Option Bool
 | 0,_=>none
 | fu+1,o0=>
  if (bif (o0.Op == 4) then true else (o0.Op == 5))=true then
   if (((o0.Kids).length:Int) == 0)=true then
    some false
   else
    idx o0.Kids 0>>=fun x1=>
    D9 fu x1
  else
   some (o0.Op == 3)
theorem Fo (fu:Nat):(∀ (o0:A0),Le (D9 fu o0) (D5 o0)):=by
 induction fu with
 | zero=>exact fun _=>Le.none
 | succ fu ih=>
  have ih0:=ih
  refine fun o0=>?_
  ·rw [D9,D5]
   repeat (first | exact Le.rfl | exact ih0 _ | exact K0 _ | refine Le.bind ?_ (fun _=>?_) | refine Le.ite ?_ ?_ | (rename_i x; cases x))
theorem Hp (fu:Nat)(o0:A0):Le (D9 fu o0) (D5 o0):=(Fo fu) o0
def Fh (fu:Nat)(e:A0):Option Bool:=
 D9 fu e
theorem Ya (fu:Nat)(e:A0):Le (Fh fu e) (Da e):=by
 unfold Fh Da
 repeat (first | exact Le.rfl | exact Hp fu _ | exact K0 _ | refine Le.bind ?_ (fun _=>?_) | refine Le.ite ?_ ?_ | (rename_i x; cases x))
def E9:Nat→Str→Int→Option Bool
 | 0,_,_=>none
 | fu+1,s,v6=>
  if (decide (v6 < ((s).length:Int)))=true then
   idx s v6>>=fun x1=>
   Ea fu (x1.toNat:Int)>>=fun x2=>
   (if ((!x2)&&(!(v6 == 0)))=true then idx s v6 else some default)>>=fun x3=>
   (if ((!x2)&&(!(v6 == 0)))=true then R8 fu (x3.toNat:Int) else some default)>>=fun x4=>
   if (bif (!x2) then (bif (v6 == 0) then true else (!x4)) else false)=true then
    some false
   else
    E9 fu s (IntKind.i64.wrap (v6+1))
  else
   some (!(s == []))
theorem Ho (fu:Nat):(∀ (s:Str) (v6:Int),Le (E9 fu s v6) (V3 s v6)):=by
 induction fu with
 | zero=>exact fun _ _=>Le.none
 | succ fu ih=>
  have ih0:=ih
  refine fun s v6=>?_
  ·rw [E9,V3]
   repeat (first | exact Le.rfl | exact ih0 _ _ | exact Te fu _ | exact Nc fu _ | exact K0 _ | refine Le.bind ?_ (fun _=>?_) | refine Le.ite ?_ ?_ | (rename_i x; cases x))
theorem Ip (fu:Nat)(s:Str)(v6:Int):Le (E9 fu s v6) (V3 s v6):=(Ho fu) s v6
def Gh (fu:Nat)(s:Str):Option Bool:=
 E9 fu s 0
theorem Rt (fu:Nat)(s:Str):Le (Gh fu s) (Sb s):=by
 unfold Gh Sb
 repeat (first | exact Le.rfl | exact Ip fu _ _ | exact K0 _ | refine Le.bind ?_ (fun _=>?_) | refine Le.ite ?_ ?_ | (rename_i x; cases x))
def Hh (fu:Nat)(s:Str):Option Bool:=
 (if (decide (((s).length:Int)≤12))=true then Gh fu s else some default)>>=fun x1=>
 (if (bif (decide (((s).length:Int)≤12)) then x1 else false)=true then Oc fu s else some default)>>=fun x2=>
 some (bif (bif (decide (((s).length:Int)≤12)) then x1 else false) then (!x2) else false)
theorem Tt (fu:Nat)(s:Str):Le (Hh fu s) (Tb s):=by
 unfold Hh Tb
 repeat (first | exact Le.rfl | exact Rt fu _ | exact Zi fu _ | exact K0 _ | refine Le.bind ?_ (fun _=>?_) | refine Le.ite ?_ ?_ | (rename_i x; cases x))
def Og (fu:Nat)(s:Str):Option Bool:=
 Hh fu s>>=fun x1=>
 some x1
theorem Rr (fu:Nat)(s:Str):Le (Og fu s) (Y8 s):=by
 unfold Og Y8
 repeat (first | exact Le.rfl | exact Tt fu _ | exact K0 _ | refine Le.bind ?_ (fun _=>?_) | refine Le.ite ?_ ?_ | (rename_i x; cases x))
def Uc (fu:Nat)(s:Str)(syntaxReport:D0):Option D0:=
 (if (!syntaxReport.badName)=true then Og fu s else some default)>>=fun x1=>
 some (D0.mk syntaxReport.nodes syntaxReport.depth syntaxReport.badForm (bif syntaxReport.badName then true else (!x1)) syntaxReport.badNumber)
theorem Z6 (fu:Nat)(s:Str)(syntaxReport:D0):Le (Uc fu s syntaxReport) (M5 s syntaxReport):=by
 unfold Uc M5
 repeat (first | exact Le.rfl | exact Rr fu _ | exact K0 _ | refine Le.bind ?_ (fun _=>?_) | refine Le.ite ?_ ?_ | (rename_i x; cases x))
def Pg (fu:Nat)(n:Int)(low:Int)(high:Int):Option Bool:=
 some (bif (decide (n≥low)) then (decide (n≤high)) else false)
theorem Fa (fu:Nat)(n:Int)(low:Int)(high:Int):Le (Pg fu n low high) (Qa n low high):=by
 unfold Pg Qa
 repeat (first | exact Le.rfl | exact K0 _ | refine Le.bind ?_ (fun _=>?_) | refine Le.ite ?_ ?_ | (rename_i x; cases x))
def Jb (fu:Nat)(ok:Bool)(syntaxReport:D0):Option D0:=
 some (D0.mk syntaxReport.nodes syntaxReport.depth syntaxReport.badForm syntaxReport.badName (bif syntaxReport.badNumber then true else (!ok)))
theorem W5 (fu:Nat)(ok:Bool)(syntaxReport:D0):Le (Jb fu ok syntaxReport) (S4 ok syntaxReport):=by
 unfold Jb S4
 repeat (first | exact Le.rfl | exact K0 _ | refine Le.bind ?_ (fun _=>?_) | refine Le.ite ?_ ?_ | (rename_i x; cases x))
mutual
def N7:Nat→A0→Int→D0→Option D0
 | 0,_,_,_=>none
 | fu+1,e,depth,syntaxReport=>
  Tc fu depth (D0.mk (IntKind.i64.wrap (syntaxReport.nodes+1)) syntaxReport.depth syntaxReport.badForm syntaxReport.badName syntaxReport.badNumber)>>=fun x1=>
  Eh fu e.Op>>=fun x2=>
  S5 fu (x2 == ((e.Kids).length:Int)) x1>>=fun x3=>
  S5 fu (bif (e.NV == 0) then true else (e.Op == 0)) x3>>=fun x4=>
  S5 fu (bif (e.Name == []) then true else (bif (e.Op == 3) then true else (e.Op == 4))) x4>>=fun x5=>
  if (bif (e.Op == 4) then true else (e.Op == 5))=true then
   Fh fu e>>=fun x6=>
   S5 fu x6 x5>>=fun x7=>
   X5 fu e depth x7
  else
   X5 fu e depth x5
def X5:Nat→A0→Int→D0→Option D0
 | 0,_,_,_=>none
 | fu+1,e,depth,o0=>
  if (bif (e.Op == 3) then true else (e.Op == 4))=true then
   Uc fu e.Name o0>>=fun x8=>
   Y5 fu e depth x8
  else
   Y5 fu e depth o0
def Y5:Nat→A0→Int→D0→Option D0
 | 0,_,_,_=>none
 | fu+1,e,depth,o01=>
  if (e.Op == 0)=true then
   Pg fu e.NV 0 1048576>>=fun x9=>
   Jb fu x9 o01>>=fun x10=>
   Z5 fu e depth x10
  else
   Z5 fu e depth o01
def Z5:Nat→A0→Int→D0→Option D0
 | 0,_,_,_=>none
 | fu+1,e,depth,o02=>
  A6 fu e depth o02 0
def A6:Nat→A0→Int→D0→Int→Option D0
 | 0,_,_,_,_=>none
 | fu+1,e,depth,o03,v82=>
  if (decide (v82 < ((e.Kids).length:Int)))=true then
   idx e.Kids v82>>=fun x11=>
   N7 fu x11 (IntKind.i64.wrap (depth+1)) o03>>=fun x12=>
   A6 fu e depth x12 (IntKind.i64.wrap (v82+1))
  else
   some o03
end
theorem K6 (fu:Nat):(∀ (e:A0) (depth:Int) (syntaxReport:D0),Le (N7 fu e depth syntaxReport) (C3 e depth syntaxReport))∧(∀ (e:A0) (depth:Int) (o0:D0),Le (X5 fu e depth o0) (E3 e depth o0))∧(∀ (e:A0) (depth:Int) (o01:D0),Le (Y5 fu e depth o01) (O3 e depth o01))∧(∀ (e:A0) (depth:Int) (o02:D0),Le (Z5 fu e depth o02) (P3 e depth o02))∧(∀ (e:A0) (depth:Int) (o03:D0) (v82:Int),Le (A6 fu e depth o03 v82) (L2 e depth o03 v82)):=by
 induction fu with
 | zero=>exact ⟨fun _ _ _=>Le.none,fun _ _ _=>Le.none,fun _ _ _=>Le.none,fun _ _ _=>Le.none,fun _ _ _ _=>Le.none⟩
 | succ fu ih=>
  obtain ⟨ih0,ih1,ih2,ih3,ih4⟩:=ih
  refine ⟨fun e depth syntaxReport=>?_,fun e depth o0=>?_,fun e depth o01=>?_,fun e depth o02=>?_,fun e depth o03 v82=>?_⟩
  ·rw [N7,C3]
   repeat (first | exact Le.rfl | exact ih0 _ _ _ | exact ih1 _ _ _ | exact ih2 _ _ _ | exact ih3 _ _ _ | exact ih4 _ _ _ _ | exact X6 fu _ _ | exact Xa fu _ | exact Y6 fu _ _ | exact Ya fu _ | exact Z6 fu _ _ | exact Fa fu _ _ _ | exact W5 fu _ _ | exact K0 _ | refine Le.bind ?_ (fun _=>?_) | refine Le.ite ?_ ?_ | (rename_i x; cases x))
  ·rw [X5,E3]
   repeat (first | exact Le.rfl | exact ih0 _ _ _ | exact ih1 _ _ _ | exact ih2 _ _ _ | exact ih3 _ _ _ | exact ih4 _ _ _ _ | exact X6 fu _ _ | exact Xa fu _ | exact Y6 fu _ _ | exact Ya fu _ | exact Z6 fu _ _ | exact Fa fu _ _ _ | exact W5 fu _ _ | exact K0 _ | refine Le.bind ?_ (fun _=>?_) | refine Le.ite ?_ ?_ | (rename_i x; cases x))
  ·rw [Y5,O3]
   repeat (first | exact Le.rfl | exact ih0 _ _ _ | exact ih1 _ _ _ | exact ih2 _ _ _ | exact ih3 _ _ _ | exact ih4 _ _ _ _ | exact X6 fu _ _ | exact Xa fu _ | exact Y6 fu _ _ | exact Ya fu _ | exact Z6 fu _ _ | exact Fa fu _ _ _ | exact W5 fu _ _ | exact K0 _ | refine Le.bind ?_ (fun _=>?_) | refine Le.ite ?_ ?_ | (rename_i x; cases x))
  ·rw [Z5,P3]
   repeat (first | exact Le.rfl | exact ih0 _ _ _ | exact ih1 _ _ _ | exact ih2 _ _ _ | exact ih3 _ _ _ | exact ih4 _ _ _ _ | exact X6 fu _ _ | exact Xa fu _ | exact Y6 fu _ _ | exact Ya fu _ | exact Z6 fu _ _ | exact Fa fu _ _ _ | exact W5 fu _ _ | exact K0 _ | refine Le.bind ?_ (fun _=>?_) | refine Le.ite ?_ ?_ | (rename_i x; cases x))
  ·rw [A6,L2]
   repeat (first | exact Le.rfl | exact ih0 _ _ _ | exact ih1 _ _ _ | exact ih2 _ _ _ | exact ih3 _ _ _ | exact ih4 _ _ _ _ | exact X6 fu _ _ | exact Xa fu _ | exact Y6 fu _ _ | exact Ya fu _ | exact Z6 fu _ _ | exact Fa fu _ _ _ | exact W5 fu _ _ | exact K0 _ | refine Le.bind ?_ (fun _=>?_) | refine Le.ite ?_ ?_ | (rename_i x; cases x))
theorem Um (fu:Nat)(e:A0)(depth:Int)(syntaxReport:D0):Le (N7 fu e depth syntaxReport) (C3 e depth syntaxReport):=(K6 fu).1 e depth syntaxReport
theorem Bz (fu:Nat)(e:A0)(depth:Int)(o0:D0):Le (X5 fu e depth o0) (E3 e depth o0):=(K6 fu).2.1 e depth o0
theorem Cz (fu:Nat)(e:A0)(depth:Int)(o01:D0):Le (Y5 fu e depth o01) (O3 e depth o01):=(K6 fu).2.2.1 e depth o01
theorem Dz (fu:Nat)(e:A0)(depth:Int)(o02:D0):Le (Z5 fu e depth o02) (P3 e depth o02):=(K6 fu).2.2.2.1 e depth o02
theorem Ez (fu:Nat)(e:A0)(depth:Int)(o03:D0)(v82:Int):Le (A6 fu e depth o03 v82) (L2 e depth o03 v82):=(K6 fu).2.2.2.2 e depth o03 v82
def Vc (fu:Nat)(syntaxReport:D0):Option Int:=
 if (bif (decide (syntaxReport.nodes > 1024)) then true else (decide (syntaxReport.depth > 12)))=true then
  some 4
 else
  if syntaxReport.badForm=true then
   some 1
  else
   if syntaxReport.badName=true then
    some 7
   else
    if syntaxReport.badNumber=true then
     some 3
    else
     some 0
theorem Vm (fu:Nat)(syntaxReport:D0):Le (Vc fu syntaxReport) (N5 syntaxReport):=by
 unfold Vc N5
 repeat (first | exact Le.rfl | exact K0 _ | refine Le.bind ?_ (fun _=>?_) | refine Le.ite ?_ ?_ | (rename_i x; cases x))
def Wd (fu:Nat)(e:A0):Option Int:=
 N7 fu e 1 (D0.mk 0 0 false false false)>>=fun x1=>
 Vc fu x1>>=fun x2=>
 some x2
theorem Io (fu:Nat)(e:A0):Le (Wd fu e) (R6 e):=by
 unfold Wd R6
 repeat (first | exact Le.rfl | exact Um fu _ _ _ | exact Vm fu _ | exact K0 _ | refine Le.bind ?_ (fun _=>?_) | refine Le.ite ?_ ?_ | (rename_i x; cases x))
def Za (fu:Nat)(text:Str):Option (A0×Int×Int):=
 Si fu text (A0.mk 0 0 [] [])>>=fun x1=>
 if (x1.2.1 != 0)=true then
  some ((A0.mk 0 0 [] []),x1.1,x1.2.1)
 else
  Wd fu x1.2.2>>=fun x2=>
  if (x2 != 0)=true then
   some ((A0.mk 0 0 [] []),0,x2)
  else
   some (x1.2.2,0,0)
theorem Jo (fu:Nat)(text:Str):Le (Za fu text) (P2 text):=by
 unfold Za P2
 repeat (first | exact Le.rfl | exact Uu fu _ _ | exact Io fu _ | exact K0 _ | refine Le.bind ?_ (fun _=>?_) | refine Le.ite ?_ ?_ | (rename_i x; cases x))
def Xd (fu:Nat)(s:Str):Option A0:=
 some (A0.mk 3 0 s [])
theorem Kw (fu:Nat)(s:Str):Le (Xd fu s) (Mc s):=by
 unfold Xd Mc
 repeat (first | exact Le.rfl | exact K0 _ | refine Le.bind ?_ (fun _=>?_) | refine Le.ite ?_ ?_ | (rename_i x; cases x))
mutual
def F9:Nat→A0→A0→Option Bool
 | 0,_,_=>none
 | fu+1,a,b=>
  if (bif (bif (bif (a.Op != b.Op) then true else (a.NV != b.NV)) then true else (!(a.Name == b.Name))) then true else (((a.Kids).length:Int) != ((b.Kids).length:Int)))=true then
   some false
  else
   O7 fu a b 0
def O7:Nat→A0→A0→Int→Option Bool
 | 0,_,_,_=>none
 | fu+1,a,b,i=>
  if (decide (i < ((a.Kids).length:Int)))=true then
   idx a.Kids i>>=fun x1=>
   idx b.Kids i>>=fun x2=>
   F9 fu x1 x2>>=fun x3=>
   if (!x3)=true then
    some false
   else
    O7 fu a b (IntKind.i64.wrap (i+1))
  else
   some true
end
theorem Xg (fu:Nat):(∀ (a:A0) (b:A0),Le (F9 fu a b) (F3 a b))∧(∀ (a:A0) (b:A0) (i:Int),Le (O7 fu a b i) (L3 a b i)):=by
 induction fu with
 | zero=>exact ⟨fun _ _=>Le.none,fun _ _ _=>Le.none⟩
 | succ fu ih=>
  obtain ⟨ih0,ih1⟩:=ih
  refine ⟨fun a b=>?_,fun a b i=>?_⟩
  ·rw [F9,F3]
   repeat (first | exact Le.rfl | exact ih0 _ _ | exact ih1 _ _ _ | exact K0 _ | refine Le.bind ?_ (fun _=>?_) | refine Le.ite ?_ ?_ | (rename_i x; cases x))
  ·rw [O7,L3]
   repeat (first | exact Le.rfl | exact ih0 _ _ | exact ih1 _ _ _ | exact K0 _ | refine Le.bind ?_ (fun _=>?_) | refine Le.ite ?_ ?_ | (rename_i x; cases x))
theorem Jp (fu:Nat)(a:A0)(b:A0):Le (F9 fu a b) (F3 a b):=(Xg fu).1 a b
theorem B11 (fu:Nat)(a:A0)(b:A0)(i:Int):Le (O7 fu a b i) (L3 a b i):=(Xg fu).2 a b i
def Un (fu:Nat):Option Bool:=
 Za fu [97,32,45,32,98,32,45,32,99,91,49,93,46,100]>>=fun x1=>
 Xd fu [99]>>=fun x2=>
 Xd fu [97]>>=fun x3=>
 Xd fu [98]>>=fun x4=>
 Za fu [97,32,61,61,32,98,32,61,61,32,99]>>=fun x5=>
 (if (x1.2.2 == 0)=true then F9 fu x1.1 (A0.mk 9 0 [] [(A0.mk 9 0 [] [x3,x4]),(A0.mk 4 0 [100] [(A0.mk 5 0 [] [x2,(A0.mk 0 1 [] [])])])]) else some default)>>=fun x6=>
 some (bif (bif (bif (x1.2.2 == 0) then x6 else false) then (x5.2.2 == 6) else false) then (x5.2.1 == 7) else false)
theorem Vu (fu:Nat):Le (Un fu ) (Gb ):=by
 unfold Un Gb
 repeat (first | exact Le.rfl | exact Jo fu _ | exact Kw fu _ | exact Jp fu _ _ | exact K0 _ | refine Le.bind ?_ (fun _=>?_) | refine Le.ite ?_ ?_ | (rename_i x; cases x))
end Go.Proofs.YtmnhfbekncjnfaaDoor

