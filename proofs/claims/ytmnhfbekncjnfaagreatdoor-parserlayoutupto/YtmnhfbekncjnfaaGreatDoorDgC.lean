/- A part of the proof of ParserLayout. -/
import Derived.Test.YtmnhfbekncjnfaaGreatDoorDgB
import Derived.Test.YtmnhfbekncjnfaaGreatDoorAmB
set_option maxRecDepth 100000
set_option maxHeartbeats 4000000
set_option synthInstance.maxSize 20000
set_option linter.unusedVariables false
namespace Go.Proofs.YtmnhfbekncjnfaaGreatDoor
open Go.Am
def Ge (fu:Nat)(c:Int):Option Bool:=
 some (bif (decide (c≥97)) then (decide (c≤122)) else false)
theorem Kk (fu:Nat)(c:Int):Le (Ge fu c) (Ma c):=by
 unfold Ge Ma
 repeat (first | exact Le.rfl | exact Y0 _ | refine Le.bind ?_ (fun _=>?_) | refine Le.ite ?_ ?_ | (rename_i x; cases x))
def Vc (fu:Nat)(c:Int):Option Bool:=
 some (bif (decide (c≥48)) then (decide (c≤57)) else false)
theorem Yh (fu:Nat)(c:Int):Le (Vc fu c) (V8 c):=by
 unfold Vc V8
 repeat (first | exact Le.rfl | exact Y0 _ | refine Le.bind ?_ (fun _=>?_) | refine Le.ite ?_ ?_ | (rename_i x; cases x))
def Xg:Nat→Str→Int→Option Int
 | 0,_,_=>none
 | fu+1,s,i1=>
  (if (decide (i1 < ((s).length:Int)))=true then idx s i1 else some default)>>=fun x1=>
  (if (decide (i1 < ((s).length:Int)))=true then Ge fu (x1.toNat:Int) else some default)>>=fun x2=>
  (if ((decide (i1 < ((s).length:Int)))&&(!x2))=true then idx s i1 else some default)>>=fun x3=>
  (if ((decide (i1 < ((s).length:Int)))&&(!x2))=true then Vc fu (x3.toNat:Int) else some default)>>=fun x4=>
  if (bif (decide (i1 < ((s).length:Int))) then (bif x2 then true else x4) else false)=true then
   Xg fu s (IntKind.i64.wrap (i1+1))
  else
   some i1
theorem U11 (fu:Nat):(∀ (s:Str) (i1:Int),Le (Xg fu s i1) (I8 s i1)):=by
 induction fu with
 | zero=>exact fun _ _=>Le.none
 | succ fu ih=>
  have ih0:=ih
  refine fun s i1=>?_
  ·rw [Xg,I8]
   repeat (first | exact Le.rfl | exact ih0 _ _ | exact Kk fu _ | exact Yh fu _ | exact Y0 _ | refine Le.bind ?_ (fun _=>?_) | refine Le.ite ?_ ?_ | (rename_i x; cases x))
theorem Q13 (fu:Nat)(s:Str)(i1:Int):Le (Xg fu s i1) (I8 s i1):=(U11 fu) s i1
def Ro (fu:Nat)(s:Str)(i:Int):Option Int:=
 Xg fu s i
theorem Q18 (fu:Nat)(s:Str)(i:Int):Le (Ro fu s i) (Fj s i):=by
 unfold Ro Fj
 repeat (first | exact Le.rfl | exact Q13 fu _ _ | exact Y0 _ | refine Le.bind ?_ (fun _=>?_) | refine Le.ite ?_ ?_ | (rename_i x; cases x))
def Zh (fu:Nat)(word:Str):Option Bool:=
 (if (!(word == []))=true then Uh word [32] else some default)>>=fun x1=>
 if (!(bif (!(word == [])) then (!x1) else false)||(decide (1+word.length≤maxLen)))=true then
  if (!(bif (!(word == [])) then (!x1) else false)||(decide (([32]++word).length+1≤maxLen)))=true then
   (if (bif (!(word == [])) then (!x1) else false)=true then Uh [32,116,121,112,101,32,115,101,99,114,101,116,32,112,117,98,108,105,99,32,114,97,110,100,111,109,32,118,97,114,32,104,97,116,99,104,32,102,117,110,99,32,114,101,116,117,114,110,32,98,101,103,105,110,32,101,110,100,32,98,111,111,108,32,105,110,116,32,97,114,114,97,121,32,111,102,32,114,101,99,111,114,100,32,116,114,117,101,32,102,97,108,115,101,32,99,97,108,108,32,114,101,108,101,97,115,101,32,111,117,116,112,117,116,32,119,97,105,116,32,105,102,32,101,108,115,101,32,119,104,105,108,101,32,108,105,109,105,116,32,102,111,114,32,116,111,32,115,101,116,116,108,101,32,109,105,110,32,109,97,120,32] (([32]++word)++[32]) else some default)>>=fun x2=>
   some (bif (bif (!(word == [])) then (!x1) else false) then x2 else false)
  else none
 else none
theorem Rq (fu:Nat)(word:Str):Le (Zh fu word) (Y8 word):=by
 unfold Zh Y8
 repeat (first | exact Le.rfl | exact Y0 _ | refine Le.bind ?_ (fun _=>?_) | refine Le.ite ?_ ?_ | (rename_i x; cases x))
def Bd:Nat→Str→Int→Int→Option Int
 | 0,_,_,_=>none
 | fu+1,s,n,v7=>
  if (decide (v7 < ((s).length:Int)))=true then
   idx s v7>>=fun x1=>
   Vc fu (x1.toNat:Int)>>=fun x2=>
   if (!x2)=true then
    some 6
   else
    idx s v7>>=fun x3=>
    Bd fu s (min (IntKind.i64.wrap ((IntKind.i64.wrap (10 * n))+(IntKind.i64.wrap (IntKind.u8.wrap ((x3.toNat:Int) - 48))))) 1048577) (IntKind.i64.wrap (v7+1))
  else
   idx s 0>>=fun x4=>
   if (bif ((x4.toNat:Int) == 48) then (decide (((s).length:Int) > 1)) else false)=true then
    some 6
   else
    if (decide (n > 1048576))=true then
     some 3
    else
     some 0
theorem Hy (fu:Nat):(∀ (s:Str) (n:Int) (v7:Int),Le (Bd fu s n v7) (L5 s n v7)):=by
 induction fu with
 | zero=>exact fun _ _ _=>Le.none
 | succ fu ih=>
  have ih0:=ih
  refine fun s n v7=>?_
  ·rw [Bd,L5]
   repeat (first | exact Le.rfl | exact ih0 _ _ _ | exact Yh fu _ | exact Y0 _ | refine Le.bind ?_ (fun _=>?_) | refine Le.ite ?_ ?_ | (rename_i x; cases x))
theorem Mz (fu:Nat)(s:Str)(n:Int)(v7:Int):Le (Bd fu s n v7) (L5 s n v7):=(Hy fu) s n v7
def Ao (fu:Nat)(s:Str):Option Int:=
 Bd fu s 0 0
theorem R13 (fu:Nat)(s:Str):Le (Ao fu s) (Hg s):=by
 unfold Ao Hg
 repeat (first | exact Le.rfl | exact Mz fu _ _ _ | exact Y0 _ | refine Le.bind ?_ (fun _=>?_) | refine Le.ite ?_ ?_ | (rename_i x; cases x))
def Bj (fu:Nat)(s:Str):Option Str:=
 idx s 0>>=fun x3=>
 Qo [59,58,44,46,61,43,45,42,47,37,60,62,33,63,40,41,91,93,123,125] (x3.toNat:Int)>>=fun x4=>
 if (decide (x4≥0))=true then
  slc s 0 1>>=fun x5=>
  some x5
 else
  some []
theorem Js (fu:Nat)(s:Str):Le (Bj fu s) (Nb s):=by
 unfold Bj Nb
 repeat (first | exact Le.rfl | exact Y0 _ | refine Le.bind ?_ (fun _=>?_) | refine Le.ite ?_ ?_ | (rename_i x; cases x))
def Y7 (fu:Nat)(s:Str)(v8:Bool):Option Str:=
 if v8=true then
  slc s 0 2>>=fun x2=>
  some x2
 else
  Bj fu s
theorem V11 (fu:Nat)(s:Str)(v8:Bool):Le (Y7 fu s v8) (Q6 s v8):=by
 unfold Y7 Q6
 repeat (first | exact Le.rfl | exact Js fu _ | exact Y0 _ | refine Le.bind ?_ (fun _=>?_) | refine Le.ite ?_ ?_ | (rename_i x; cases x))
def Ks (fu:Nat)(s:Str):Option Str:=
 if (decide (((s).length:Int)≥2))=true then
  slc s 0 2>>=fun x1=>
  if (x1 == [46,46])=true then
   Y7 fu s (x1 == [46,46])
  else
   if (x1 == [61,61])=true then
    Y7 fu s (x1 == [61,61])
   else
    if (x1 == [33,61])=true then
     Y7 fu s (x1 == [33,61])
    else
     if (x1 == [60,61])=true then
      Y7 fu s (x1 == [60,61])
     else
      if (x1 == [62,61])=true then
       Y7 fu s (x1 == [62,61])
      else
       if (x1 == [38,38])=true then
        Y7 fu s (x1 == [38,38])
       else
        Y7 fu s (x1 == [124,124])
 else
  Bj fu s
theorem U16 (fu:Nat)(s:Str):Le (Ks fu s) (Jd s):=by
 unfold Ks Jd
 repeat (first | exact Le.rfl | exact V11 fu _ _ | exact Js fu _ | exact Y0 _ | refine Le.bind ?_ (fun _=>?_) | refine Le.ite ?_ ?_ | (rename_i x; cases x))
def Ls (fu:Nat)(s:Str)(i:Int):Option (K0×Int):=
 idx s i>>=fun x1=>
 Ge fu (x1.toNat:Int)>>=fun x2=>
 if x2=true then
  Ro fu s i>>=fun x3=>
  slc s i x3>>=fun x4=>
  Zh fu x4>>=fun x5=>
  if x5=true then
   some ((K0.mk 2 x4 i),0)
  else
   if (decide (((x4).length:Int) > 12))=true then
    some ((K0.mk 0 x4 i),7)
   else
    some ((K0.mk 0 x4 i),0)
 else
  Vc fu (x1.toNat:Int)>>=fun x6=>
  if x6=true then
   Ro fu s i>>=fun x7=>
   slc s i x7>>=fun x8=>
   Ao fu x8>>=fun x9=>
   some ((K0.mk 1 x8 i),x9)
  else
   slc s i ((s).length:Int)>>=fun x10=>
   Ks fu x10>>=fun x11=>
   if (x11 == [])=true then
    some ((K0.mk 3 x11 i),6)
   else
    some ((K0.mk 3 x11 i),0)
theorem Fq (fu:Nat)(s:Str)(i:Int):Le (Ls fu s i) (Ef s i):=by
 unfold Ls Ef
 repeat (first | exact Le.rfl | exact Kk fu _ | exact Q18 fu _ _ | exact Rq fu _ | exact Yh fu _ | exact R13 fu _ | exact U16 fu _ | exact Y0 _ | refine Le.bind ?_ (fun _=>?_) | refine Le.ite ?_ ?_ | (rename_i x; cases x))
mutual
def Cc:Nat→Str→(List K0)→Int→Option (List K0×Int×Int)
 | 0,_,_,_=>none
 | fu+1,s,out,i=>
  if (decide (i < ((s).length:Int)))=true then
   idx s i>>=fun x1=>
   if ((x1.toNat:Int) == 32)=true then
    Yg fu s out i x1 ((x1.toNat:Int) == 32)
   else
    if ((x1.toNat:Int) == 9)=true then
     Yg fu s out i x1 ((x1.toNat:Int) == 9)
    else
     Yg fu s out i x1 ((x1.toNat:Int) == 10)
  else
   some (out,0,0)
def Yg:Nat→Str→(List K0)→Int→UInt8→Bool→Option (List K0×Int×Int)
 | 0,_,_,_,_,_=>none
 | fu+1,s,out1,i1,x1,v19=>
  if v19=true then
   Cc fu s out1 (IntKind.i64.wrap (i1+1))
  else
   if ((x1.toNat:Int) == 35)=true then
    Bk fu s out1 i1
   else
    Ls fu s i1>>=fun x2=>
    if (x2.2 != 0)=true then
     some ([],i1,x2.2)
    else
     if (decide ((out1.length+1) * 33≤140737488355328))=true then
      Cc fu s (out1++[x2.1]) (IntKind.i64.wrap (i1+((x2.1.Text).length:Int)))
     else none
def Bk:Nat→Str→(List K0)→Int→Option (List K0×Int×Int)
 | 0,_,_,_=>none
 | fu+1,s,out2,i2=>
  (if (decide (i2 < ((s).length:Int)))=true then idx s i2 else some default)>>=fun x3=>
  if (bif (decide (i2 < ((s).length:Int))) then ((x3.toNat:Int) != 10) else false)=true then
   Bk fu s out2 (IntKind.i64.wrap (i2+1))
  else
   Cc fu s out2 i2
end
theorem W11 (fu:Nat):(∀ (s:Str) (out:List K0) (i:Int),Le (Cc fu s out i) (C4 s out i))∧(∀ (s:Str) (out1:List K0) (i1:Int) (x1:UInt8) (v19:Bool),Le (Yg fu s out1 i1 x1 v19) (Kc s out1 i1 x1 v19))∧(∀ (s:Str) (out2:List K0) (i2:Int),Le (Bk fu s out2 i2) (U9 s out2 i2)):=by
 induction fu with
 | zero=>exact ⟨fun _ _ _=>Le.none,fun _ _ _ _ _=>Le.none,fun _ _ _=>Le.none⟩
 | succ fu ih=>
  obtain ⟨ih0,ih1,ih2⟩:=ih
  refine ⟨fun s out i=>?_,fun s out1 i1 x1 v19=>?_,fun s out2 i2=>?_⟩
  ·rw [Cc,C4]
   repeat (first | exact Le.rfl | exact ih0 _ _ _ | exact ih1 _ _ _ _ _ | exact ih2 _ _ _ | exact Fq fu _ _ | exact Y0 _ | refine Le.bind ?_ (fun _=>?_) | refine Le.ite ?_ ?_ | (rename_i x; cases x))
  ·rw [Yg,Kc]
   repeat (first | exact Le.rfl | exact ih0 _ _ _ | exact ih1 _ _ _ _ _ | exact ih2 _ _ _ | exact Fq fu _ _ | exact Y0 _ | refine Le.bind ?_ (fun _=>?_) | refine Le.ite ?_ ?_ | (rename_i x; cases x))
  ·rw [Bk,U9]
   repeat (first | exact Le.rfl | exact ih0 _ _ _ | exact ih1 _ _ _ _ _ | exact ih2 _ _ _ | exact Fq fu _ _ | exact Y0 _ | refine Le.bind ?_ (fun _=>?_) | refine Le.ite ?_ ?_ | (rename_i x; cases x))
theorem S13 (fu:Nat)(s:Str)(out:List K0)(i:Int):Le (Cc fu s out i) (C4 s out i):=(W11 fu).1 s out i
def Gu (fu:Nat)(s:Str):Option (List K0×Int×Int):=
 if (decide (((s).length:Int) > 8192))=true then
  some ([],0,5)
 else
  Cc fu s [] 0
theorem R18 (fu:Nat)(s:Str):Le (Gu fu s) (Jh s):=by
 unfold Gu Jh
 repeat (first | exact Le.rfl | exact S13 fu _ _ _ | exact Y0 _ | refine Le.bind ?_ (fun _=>?_) | refine Le.ite ?_ ?_ | (rename_i x; cases x))
def Mj (fu:Nat)(text:Str)(parserParser:B0):Option Bool:=
 if (decide (parserParser.next≥((parserParser.tokens).length:Int)))=true then
  some false
 else
  idx parserParser.tokens parserParser.next>>=fun x1=>
  some (bif (x1.Text == text) then (bif (x1.Kind == 2) then true else (x1.Kind == 3)) else false)
theorem Iy (fu:Nat)(text:Str)(parserParser:B0):Le (Mj fu text parserParser) (J8 text parserParser):=by
 unfold Mj J8
 repeat (first | exact Le.rfl | exact Y0 _ | refine Le.bind ?_ (fun _=>?_) | refine Le.ite ?_ ?_ | (rename_i x; cases x))
def I1 (fu:Nat)(text:Str)(parserParser:B0):Option (Bool×B0):=
 Mj fu text parserParser>>=fun x1=>
 if (!x1)=true then
  some (false,parserParser)
 else
  some (true,(B0.mk parserParser.tokens (IntKind.i64.wrap (parserParser.next+1)) parserParser.endV))
theorem F1 (fu:Nat)(text:Str)(parserParser:B0):Le (I1 fu text parserParser) (O0 text parserParser):=by
 unfold I1 O0
 repeat (first | exact Le.rfl | exact Iy fu _ _ | exact Y0 _ | refine Le.bind ?_ (fun _=>?_) | refine Le.ite ?_ ?_ | (rename_i x; cases x))
def Vf (fu:Nat)(parserParser:B0):Option Bool:=
 (if (decide (parserParser.next < ((parserParser.tokens).length:Int)))=true then idx parserParser.tokens parserParser.next else some default)>>=fun x1=>
 some (bif (decide (parserParser.next < ((parserParser.tokens).length:Int))) then (x1.Kind == 0) else false)
theorem N1 (fu:Nat)(parserParser:B0):Le (Vf fu parserParser) (B5 parserParser):=by
 unfold Vf B5
 repeat (first | exact Le.rfl | exact Y0 _ | refine Le.bind ?_ (fun _=>?_) | refine Le.ite ?_ ?_ | (rename_i x; cases x))
def Fb (fu:Nat)(parserParser:B0):Option (Pn Unit):=
 if (decide (parserParser.next < ((parserParser.tokens).length:Int)))=true then
  idx parserParser.tokens parserParser.next>>=fun x1=>
  some (.pn x1.At)
 else
  some (.pn parserParser.endV)
theorem Zg (fu:Nat)(parserParser:B0):Le (Fb fu parserParser) (I5 parserParser):=by
 unfold Fb I5
 repeat (first | exact Le.rfl | exact Y0 _ | refine Le.bind ?_ (fun _=>?_) | refine Le.ite ?_ ?_ | (rename_i x; cases x))
def Pb (fu:Nat)(parserParser:B0):Option (Pn (Str×B0)):=
 idx parserParser.tokens (IntKind.i64.wrap ((IntKind.i64.wrap (parserParser.next+1)) - 1))>>=fun x3=>
 some (.ok (x3.Text,(B0.mk parserParser.tokens (IntKind.i64.wrap (parserParser.next+1)) parserParser.endV)))
theorem Ms (fu:Nat)(parserParser:B0):Le (Pb fu parserParser) (R6 parserParser):=by
 unfold Pb R6
 repeat (first | exact Le.rfl | exact Y0 _ | refine Le.bind ?_ (fun _=>?_) | refine Le.ite ?_ ?_ | (rename_i x; cases x))
def Ld (fu:Nat)(k:Int)(parserParser:B0):Option (Pn (Str×B0)):=
 (if (!(decide (parserParser.next≥((parserParser.tokens).length:Int))))=true then idx parserParser.tokens parserParser.next else some default)>>=fun x1=>
 if (bif (decide (parserParser.next≥((parserParser.tokens).length:Int))) then true else (x1.Kind != k))=true then
  Fb fu parserParser>>=fun x2=>match x2 with
  | .pn nn=>
  some (.pn nn)
  | .ok x2=>
  Pb fu parserParser
 else
  Pb fu parserParser
theorem Ul (fu:Nat)(k:Int)(parserParser:B0):Le (Ld fu k parserParser) (Y6 k parserParser):=by
 unfold Ld Y6
 repeat (first | exact Le.rfl | exact Zg fu _ | exact Ms fu _ | exact Y0 _ | refine Le.bind ?_ (fun _=>?_) | refine Le.ite ?_ ?_ | (rename_i x; cases x))
def Md (fu:Nat)(parserParser:B0):Option (Pn (Str×B0)):=
 Ld fu 0 parserParser>>=fun x1=>match x1 with
 | .pn nn=>
 some (.pn nn)
 | .ok x1=>
 some (.ok (x1.1,x1.2))
theorem T1 (fu:Nat)(parserParser:B0):Le (Md fu parserParser) (T2 parserParser):=by
 unfold Md T2
 repeat (first | exact Le.rfl | exact Ul fu _ _ | exact Y0 _ | refine Le.bind ?_ (fun _=>?_) | refine Le.ite ?_ ?_ | (rename_i x; cases x))
def G6 (fu:Nat)(text:Str)(parserParser:B0):Option (Pn B0):=
 I1 fu text parserParser>>=fun x1=>
 if (!x1.1)=true then
  Fb fu x1.2>>=fun x2=>match x2 with
  | .pn nn=>
  some (.pn nn)
  | .ok x2=>
  some (.ok x1.2)
 else
  some (.ok x1.2)
theorem U1 (fu:Nat)(text:Str)(parserParser:B0):Le (G6 fu text parserParser) (R0 text parserParser):=by
 unfold G6 R0
 repeat (first | exact Le.rfl | exact F1 fu _ _ | exact Zg fu _ | exact Y0 _ | refine Le.bind ?_ (fun _=>?_) | refine Le.ite ?_ ?_ | (rename_i x; cases x))
def Wf (fu:Nat)(parserParser:B0):Option (Pn (Int×B0)):=
 Ld fu 1 parserParser>>=fun x1=>match x1 with
 | .pn nn=>
 some (.pn nn)
 | .ok x1=>
 Yu x1.1>>=fun x2=>
 some (.ok (x2,x1.2))
theorem O1 (fu:Nat)(parserParser:B0):Le (Wf fu parserParser) (C5 parserParser):=by
 unfold Wf C5
 repeat (first | exact Le.rfl | exact Ul fu _ _ | exact Y0 _ | refine Le.bind ?_ (fun _=>?_) | refine Le.ite ?_ ?_ | (rename_i x; cases x))
def Nd (fu:Nat)(parserParser:B0):Option (Int×Bool×B0):=
 I1 fu [42] parserParser>>=fun x1=>
 if x1.1=true then
  some (10,true,x1.2)
 else
  I1 fu [47] x1.2>>=fun x2=>
  if x2.1=true then
   some (11,true,x2.2)
  else
   I1 fu [37] x2.2>>=fun x3=>
   some (12,x3.1,x3.2)
theorem G1 (fu:Nat)(parserParser:B0):Le (Nd fu parserParser) (X5 parserParser):=by
 unfold Nd X5
 repeat (first | exact Le.rfl | exact F1 fu _ _ | exact Y0 _ | refine Le.bind ?_ (fun _=>?_) | refine Le.ite ?_ ?_ | (rename_i x; cases x))
def Ah (fu:Nat)(parserParser:B0):Option (Int×Bool×B0):=
 I1 fu [43] parserParser>>=fun x1=>
 if x1.1=true then
  some (8,true,x1.2)
 else
  I1 fu [45] x1.2>>=fun x2=>
  some (9,x2.1,x2.2)
theorem Q1 (fu:Nat)(parserParser:B0):Le (Ah fu parserParser) (S7 parserParser):=by
 unfold Ah S7
 repeat (first | exact Le.rfl | exact F1 fu _ _ | exact Y0 _ | refine Le.bind ?_ (fun _=>?_) | refine Le.ite ?_ ?_ | (rename_i x; cases x))
def Bh (fu:Nat)(parserParser:B0):Option (Int×Bool×B0):=
 I1 fu [38,38] parserParser>>=fun x1=>
 some (19,x1.1,x1.2)
theorem R1 (fu:Nat)(parserParser:B0):Le (Bh fu parserParser) (T7 parserParser):=by
 unfold Bh T7
 repeat (first | exact Le.rfl | exact F1 fu _ _ | exact Y0 _ | refine Le.bind ?_ (fun _=>?_) | refine Le.ite ?_ ?_ | (rename_i x; cases x))
def Ai (fu:Nat)(parserParser:B0):Option (Int×Bool×B0):=
 I1 fu [124,124] parserParser>>=fun x1=>
 some (20,x1.1,x1.2)
theorem V1 (fu:Nat)(parserParser:B0):Le (Ai fu parserParser) (K8 parserParser):=by
 unfold Ai K8
 repeat (first | exact Le.rfl | exact F1 fu _ _ | exact Y0 _ | refine Le.bind ?_ (fun _=>?_) | refine Le.ite ?_ ?_ | (rename_i x; cases x))
mutual
def Z2:Nat→B0→Option (Pn (A0×B0))
 | 0,_=>none
 | fu+1,parserParser=>
  Nj fu parserParser>>=fun x1=>match x1 with
  | .pn nn=>
  some (.pn nn)
  | .ok x1=>
  I1 fu [63] x1.2>>=fun x2=>
  if (!x2.1)=true then
   some (.ok (x1.1,x2.2))
  else
   Z2 fu x2.2>>=fun x3=>match x3 with
   | .pn nn=>
   some (.pn nn)
   | .ok x3=>
   G6 fu [58] x3.2>>=fun x4=>match x4 with
   | .pn nn=>
   some (.pn nn)
   | .ok x4=>
   Z2 fu x4>>=fun x5=>match x5 with
   | .pn nn=>
   some (.pn nn)
   | .ok x5=>
   some (.ok ((A0.mk 23 0 [] [x1.1,x3.1,x5.1]),x5.2))
def Nj:Nat→B0→Option (Pn (A0×B0))
 | 0,_=>none
 | fu+1,parserParser=>
  Ch fu parserParser>>=fun x1=>match x1 with
  | .pn nn=>
  some (.pn nn)
  | .ok x1=>
  some (.ok (x1.1,x1.2))
def Ch:Nat→B0→Option (Pn (A0×B0))
 | 0,_=>none
 | fu+1,parserParser=>
  Te fu parserParser>>=fun x1=>match x1 with
  | .pn nn=>
  some (.pn nn)
  | .ok x1=>
  Gb fu x1.2 x1.1
def Te:Nat→B0→Option (Pn (A0×B0))
 | 0,_=>none
 | fu+1,parserParser=>
  He fu parserParser>>=fun x1=>match x1 with
  | .pn nn=>
  some (.pn nn)
  | .ok x1=>
  some (.ok (x1.1,x1.2))
def He:Nat→B0→Option (Pn (A0×B0))
 | 0,_=>none
 | fu+1,parserParser=>
  Ea fu parserParser>>=fun x1=>match x1 with
  | .pn nn=>
  some (.pn nn)
  | .ok x1=>
  P9 fu x1.2 x1.1
def Ea:Nat→B0→Option (Pn (A0×B0))
 | 0,_=>none
 | fu+1,parserParser=>
  Ue fu parserParser>>=fun x1=>match x1 with
  | .pn nn=>
  some (.pn nn)
  | .ok x1=>
  I1 fu [61,61] x1.2>>=fun x2=>
  if x2.1=true then
   J3 fu x2.2 x1 13
  else
   I1 fu [33,61] x2.2>>=fun x4=>
   if x4.1=true then
    J3 fu x4.2 x1 14
   else
    I1 fu [60] x4.2>>=fun x5=>
    if x5.1=true then
     J3 fu x5.2 x1 15
    else
     I1 fu [60,61] x5.2>>=fun x6=>
     if x6.1=true then
      J3 fu x6.2 x1 16
     else
      I1 fu [62] x6.2>>=fun x7=>
      if x7.1=true then
       J3 fu x7.2 x1 17
      else
       I1 fu [62,61] x7.2>>=fun x8=>
       if x8.1=true then
        J3 fu x8.2 x1 18
       else
        some (.ok (x1.1,x8.2))
def Ue:Nat→B0→Option (Pn (A0×B0))
 | 0,_=>none
 | fu+1,parserParser=>
  Ie fu parserParser>>=fun x1=>match x1 with
  | .pn nn=>
  some (.pn nn)
  | .ok x1=>
  some (.ok (x1.1,x1.2))
def Ie:Nat→B0→Option (Pn (A0×B0))
 | 0,_=>none
 | fu+1,parserParser=>
  Qb fu parserParser>>=fun x1=>match x1 with
  | .pn nn=>
  some (.pn nn)
  | .ok x1=>
  O9 fu x1.2 x1.1
def Qb:Nat→B0→Option (Pn (A0×B0))
 | 0,_=>none
 | fu+1,parserParser=>
  Je fu parserParser>>=fun x1=>match x1 with
  | .pn nn=>
  some (.pn nn)
  | .ok x1=>
  some (.ok (x1.1,x1.2))
def Je:Nat→B0→Option (Pn (A0×B0))
 | 0,_=>none
 | fu+1,parserParser=>
  F8 fu parserParser>>=fun x1=>match x1 with
  | .pn nn=>
  some (.pn nn)
  | .ok x1=>
  N9 fu x1.2 x1.1
def F8:Nat→B0→Option (Pn (A0×B0))
 | 0,_=>none
 | fu+1,parserParser=>
  I1 fu [45] parserParser>>=fun x1=>
  if x1.1=true then
   F8 fu x1.2>>=fun x4=>match x4 with
   | .pn nn=>
   some (.pn nn)
   | .ok x4=>
   some (.ok ((A0.mk 6 0 [] [x4.1]),x4.2))
  else
   I1 fu [33] x1.2>>=fun x2=>
   if x2.1=true then
    F8 fu x2.2>>=fun x5=>match x5 with
    | .pn nn=>
    some (.pn nn)
    | .ok x5=>
    some (.ok ((A0.mk 7 0 [] [x5.1]),x5.2))
   else
    Xe fu x2.2>>=fun x3=>match x3 with
    | .pn nn=>
    some (.pn nn)
    | .ok x3=>
    some (.ok (x3.1,x3.2))
def Xe:Nat→B0→Option (Pn (A0×B0))
 | 0,_=>none
 | fu+1,parserParser=>
  Vf fu parserParser>>=fun x1=>
  if x1=true then
   Dh fu parserParser>>=fun x2=>match x2 with
   | .pn nn=>
   some (.pn nn)
   | .ok x2=>
   some (.ok (x2.1,x2.2))
  else
   I1 fu [116,114,117,101] parserParser>>=fun x3=>
   if x3.1=true then
    some (.ok ((A0.mk 1 0 [] []),x3.2))
   else
    I1 fu [102,97,108,115,101] x3.2>>=fun x4=>
    if x4.1=true then
     some (.ok ((A0.mk 2 0 [] []),x4.2))
    else
     I1 fu [109,105,110] x4.2>>=fun x5=>
     if x5.1=true then
      Od fu 21 x5.2>>=fun x11=>match x11 with
      | .pn nn=>
      some (.pn nn)
      | .ok x11=>
      some (.ok (x11.1,x11.2))
     else
      I1 fu [109,97,120] x5.2>>=fun x6=>
      if x6.1=true then
       Od fu 22 x6.2>>=fun x12=>match x12 with
       | .pn nn=>
       some (.pn nn)
       | .ok x12=>
       some (.ok (x12.1,x12.2))
      else
       I1 fu [40] x6.2>>=fun x7=>
       if x7.1=true then
        Z2 fu x7.2>>=fun x9=>match x9 with
        | .pn nn=>
        some (.pn nn)
        | .ok x9=>
        G6 fu [41] x9.2>>=fun x10=>match x10 with
        | .pn nn=>
        some (.pn nn)
        | .ok x10=>
        some (.ok (x9.1,x10))
       else
        Wf fu x7.2>>=fun x8=>match x8 with
        | .pn nn=>
        some (.pn nn)
        | .ok x8=>
        some (.ok ((A0.mk 0 x8.1 [] []),x8.2))
def Dh:Nat→B0→Option (Pn (A0×B0))
 | 0,_=>none
 | fu+1,parserParser=>
  Md fu parserParser>>=fun x1=>match x1 with
  | .pn nn=>
  some (.pn nn)
  | .ok x1=>
  T8 fu x1.2 3 x1.1 []
def T8:Nat→B0→Int→Str→(List A0)→Option (Pn (A0×B0))
 | 0,_,_,_,_=>none
 | fu+1,o0,o2_Op,o2_Name,o2_Kids=>
  I1 fu [46] o0>>=fun x2=>
  if x2.1=true then
   Md fu x2.2>>=fun x3=>match x3 with
   | .pn nn=>
   some (.pn nn)
   | .ok x3=>
   T8 fu x3.2 4 x3.1 [(A0.mk o2_Op 0 o2_Name o2_Kids)]
  else
   I1 fu [91] x2.2>>=fun x4=>
   if x4.1=true then
    Z2 fu x4.2>>=fun x5=>match x5 with
    | .pn nn=>
    some (.pn nn)
    | .ok x5=>
    G6 fu [93] x5.2>>=fun x6=>match x6 with
    | .pn nn=>
    some (.pn nn)
    | .ok x6=>
    T8 fu x6 5 [] [(A0.mk o2_Op 0 o2_Name o2_Kids),x5.1]
   else
    some (.ok ((A0.mk o2_Op 0 o2_Name o2_Kids),x4.2))
def Od:Nat→Int→B0→Option (Pn (A0×B0))
 | 0,_,_=>none
 | fu+1,op,parserParser=>
  G6 fu [40] parserParser>>=fun x1=>match x1 with
  | .pn nn=>
  some (.pn nn)
  | .ok x1=>
  Z2 fu x1>>=fun x2=>match x2 with
  | .pn nn=>
  some (.pn nn)
  | .ok x2=>
  G6 fu [44] x2.2>>=fun x3=>match x3 with
  | .pn nn=>
  some (.pn nn)
  | .ok x3=>
  Z2 fu x3>>=fun x4=>match x4 with
  | .pn nn=>
  some (.pn nn)
  | .ok x4=>
  G6 fu [41] x4.2>>=fun x5=>match x5 with
  | .pn nn=>
  some (.pn nn)
  | .ok x5=>
  some (.ok ((A0.mk op 0 [] [x2.1,x4.1]),x5))
def N9:Nat→B0→A0→Option (Pn (A0×B0))
 | 0,_,_=>none
 | fu+1,o0,o3=>
  Nd fu o0>>=fun x2=>
  if (!x2.2.1)=true then
   some (.ok (o3,x2.2.2))
  else
   F8 fu x2.2.2>>=fun x3=>match x3 with
   | .pn nn=>
   some (.pn nn)
   | .ok x3=>
   N9 fu x3.2 (A0.mk x2.1 0 [] [o3,x3.1])
def O9:Nat→B0→A0→Option (Pn (A0×B0))
 | 0,_,_=>none
 | fu+1,o0,o3=>
  Ah fu o0>>=fun x2=>
  if (!x2.2.1)=true then
   some (.ok (o3,x2.2.2))
  else
   Qb fu x2.2.2>>=fun x3=>match x3 with
   | .pn nn=>
   some (.pn nn)
   | .ok x3=>
   O9 fu x3.2 (A0.mk x2.1 0 [] [o3,x3.1])
def J3:Nat→B0→(A0×B0)→Int→Option (Pn (A0×B0))
 | 0,_,_,_=>none
 | fu+1,o0,x1,op=>
  Ue fu o0>>=fun x3=>match x3 with
  | .pn nn=>
  some (.pn nn)
  | .ok x3=>
  some (.ok ((A0.mk op 0 [] [x1.1,x3.1]),x3.2))
def P9:Nat→B0→A0→Option (Pn (A0×B0))
 | 0,_,_=>none
 | fu+1,o0,o3=>
  Bh fu o0>>=fun x2=>
  if (!x2.2.1)=true then
   some (.ok (o3,x2.2.2))
  else
   Ea fu x2.2.2>>=fun x3=>match x3 with
   | .pn nn=>
   some (.pn nn)
   | .ok x3=>
   P9 fu x3.2 (A0.mk x2.1 0 [] [o3,x3.1])
def Gb:Nat→B0→A0→Option (Pn (A0×B0))
 | 0,_,_=>none
 | fu+1,o0,o3=>
  Ai fu o0>>=fun x2=>
  if (!x2.2.1)=true then
   some (.ok (o3,x2.2.2))
  else
   Te fu x2.2.2>>=fun x3=>match x3 with
   | .pn nn=>
   some (.pn nn)
   | .ok x3=>
   Gb fu x3.2 (A0.mk x2.1 0 [] [o3,x3.1])
end
theorem Bo (fu:Nat):(∀ (parserParser:B0),Le (Z2 fu parserParser) (C1 parserParser))∧(∀ (parserParser:B0),Le (Nj fu parserParser) (L8 parserParser))∧(∀ (parserParser:B0),Le (Ch fu parserParser) (Vb parserParser))∧(∀ (parserParser:B0),Le (Te fu parserParser) (M6 parserParser))∧(∀ (parserParser:B0),Le (He fu parserParser) (V9 parserParser))∧(∀ (parserParser:B0),Le (Ea fu parserParser) (V3 parserParser))∧(∀ (parserParser:B0),Le (Ue fu parserParser) (V5 parserParser))∧(∀ (parserParser:B0),Le (Ie fu parserParser) (W9 parserParser))∧(∀ (parserParser:B0),Le (Qb fu parserParser) (Q4 parserParser))∧(∀ (parserParser:B0),Le (Je fu parserParser) (X9 parserParser))∧(∀ (parserParser:B0),Le (F8 fu parserParser) (S3 parserParser))∧(∀ (parserParser:B0),Le (Xe fu parserParser) (B8 parserParser))∧(∀ (parserParser:B0),Le (Dh fu parserParser) (I6 parserParser))∧(∀ (o0:B0) (o2_Op:Int) (o2_Name:Str) (o2_Kids:List A0),Le (T8 fu o0 o2_Op o2_Name o2_Kids) (F4 o0 o2_Op o2_Name o2_Kids))∧(∀ (op:Int) (parserParser:B0),Le (Od fu op parserParser) (M8 op parserParser))∧(∀ (o0:B0) (o3:A0),Le (N9 fu o0 o3) (C3 o0 o3))∧(∀ (o0:B0) (o3:A0),Le (O9 fu o0 o3) (B3 o0 o3))∧(∀ (o0:B0) (x1:A0×B0) (op:Int),Le (J3 fu o0 x1 op) (L1 o0 x1 op))∧(∀ (o0:B0) (o3:A0),Le (P9 fu o0 o3) (A3 o0 o3))∧(∀ (o0:B0) (o3:A0),Le (Gb fu o0 o3) (U3 o0 o3)):=by
 induction fu with
 | zero=>exact ⟨fun _=>Le.none,fun _=>Le.none,fun _=>Le.none,fun _=>Le.none,fun _=>Le.none,fun _=>Le.none,fun _=>Le.none,fun _=>Le.none,fun _=>Le.none,fun _=>Le.none,fun _=>Le.none,fun _=>Le.none,fun _=>Le.none,fun _ _ _ _=>Le.none,fun _ _=>Le.none,fun _ _=>Le.none,fun _ _=>Le.none,fun _ _ _=>Le.none,fun _ _=>Le.none,fun _ _=>Le.none⟩
 | succ fu ih=>
  obtain ⟨ih0,ih1,ih2,ih3,ih4,ih5,ih6,ih7,ih8,ih9,ih10,ih11,ih12,ih13,ih14,ih15,ih16,ih17,ih18,ih19⟩:=ih
  refine ⟨fun parserParser=>?_,fun parserParser=>?_,fun parserParser=>?_,fun parserParser=>?_,fun parserParser=>?_,fun parserParser=>?_,fun parserParser=>?_,fun parserParser=>?_,fun parserParser=>?_,fun parserParser=>?_,fun parserParser=>?_,fun parserParser=>?_,fun parserParser=>?_,fun o0 o2_Op o2_Name o2_Kids=>?_,fun op parserParser=>?_,fun o0 o3=>?_,fun o0 o3=>?_,fun o0 x1 op=>?_,fun o0 o3=>?_,fun o0 o3=>?_⟩
  ·rw [Z2,C1]
   repeat (first | exact Le.rfl | exact ih0 _ | exact ih1 _ | exact ih2 _ | exact ih3 _ | exact ih4 _ | exact ih5 _ | exact ih6 _ | exact ih7 _ | exact ih8 _ | exact ih9 _ | exact ih10 _ | exact ih11 _ | exact ih12 _ | exact ih13 _ _ _ _ | exact ih14 _ _ | exact ih15 _ _ | exact ih16 _ _ | exact ih17 _ _ _ | exact ih18 _ _ | exact ih19 _ _ | exact F1 fu _ _ | exact U1 fu _ _ | exact N1 fu _ | exact O1 fu _ | exact T1 fu _ | exact G1 fu _ | exact Q1 fu _ | exact R1 fu _ | exact V1 fu _ | exact Y0 _ | refine Le.bind ?_ (fun _=>?_) | refine Le.ite ?_ ?_ | (rename_i x; cases x))
  ·rw [Nj,L8]
   repeat (first | exact Le.rfl | exact ih0 _ | exact ih1 _ | exact ih2 _ | exact ih3 _ | exact ih4 _ | exact ih5 _ | exact ih6 _ | exact ih7 _ | exact ih8 _ | exact ih9 _ | exact ih10 _ | exact ih11 _ | exact ih12 _ | exact ih13 _ _ _ _ | exact ih14 _ _ | exact ih15 _ _ | exact ih16 _ _ | exact ih17 _ _ _ | exact ih18 _ _ | exact ih19 _ _ | exact F1 fu _ _ | exact U1 fu _ _ | exact N1 fu _ | exact O1 fu _ | exact T1 fu _ | exact G1 fu _ | exact Q1 fu _ | exact R1 fu _ | exact V1 fu _ | exact Y0 _ | refine Le.bind ?_ (fun _=>?_) | refine Le.ite ?_ ?_ | (rename_i x; cases x))
  ·rw [Ch,Vb]
   repeat (first | exact Le.rfl | exact ih0 _ | exact ih1 _ | exact ih2 _ | exact ih3 _ | exact ih4 _ | exact ih5 _ | exact ih6 _ | exact ih7 _ | exact ih8 _ | exact ih9 _ | exact ih10 _ | exact ih11 _ | exact ih12 _ | exact ih13 _ _ _ _ | exact ih14 _ _ | exact ih15 _ _ | exact ih16 _ _ | exact ih17 _ _ _ | exact ih18 _ _ | exact ih19 _ _ | exact F1 fu _ _ | exact U1 fu _ _ | exact N1 fu _ | exact O1 fu _ | exact T1 fu _ | exact G1 fu _ | exact Q1 fu _ | exact R1 fu _ | exact V1 fu _ | exact Y0 _ | refine Le.bind ?_ (fun _=>?_) | refine Le.ite ?_ ?_ | (rename_i x; cases x))
  ·rw [Te,M6]
   repeat (first | exact Le.rfl | exact ih0 _ | exact ih1 _ | exact ih2 _ | exact ih3 _ | exact ih4 _ | exact ih5 _ | exact ih6 _ | exact ih7 _ | exact ih8 _ | exact ih9 _ | exact ih10 _ | exact ih11 _ | exact ih12 _ | exact ih13 _ _ _ _ | exact ih14 _ _ | exact ih15 _ _ | exact ih16 _ _ | exact ih17 _ _ _ | exact ih18 _ _ | exact ih19 _ _ | exact F1 fu _ _ | exact U1 fu _ _ | exact N1 fu _ | exact O1 fu _ | exact T1 fu _ | exact G1 fu _ | exact Q1 fu _ | exact R1 fu _ | exact V1 fu _ | exact Y0 _ | refine Le.bind ?_ (fun _=>?_) | refine Le.ite ?_ ?_ | (rename_i x; cases x))
  ·rw [He,V9]
   repeat (first | exact Le.rfl | exact ih0 _ | exact ih1 _ | exact ih2 _ | exact ih3 _ | exact ih4 _ | exact ih5 _ | exact ih6 _ | exact ih7 _ | exact ih8 _ | exact ih9 _ | exact ih10 _ | exact ih11 _ | exact ih12 _ | exact ih13 _ _ _ _ | exact ih14 _ _ | exact ih15 _ _ | exact ih16 _ _ | exact ih17 _ _ _ | exact ih18 _ _ | exact ih19 _ _ | exact F1 fu _ _ | exact U1 fu _ _ | exact N1 fu _ | exact O1 fu _ | exact T1 fu _ | exact G1 fu _ | exact Q1 fu _ | exact R1 fu _ | exact V1 fu _ | exact Y0 _ | refine Le.bind ?_ (fun _=>?_) | refine Le.ite ?_ ?_ | (rename_i x; cases x))
  ·rw [Ea,V3]
   repeat (first | exact Le.rfl | exact ih0 _ | exact ih1 _ | exact ih2 _ | exact ih3 _ | exact ih4 _ | exact ih5 _ | exact ih6 _ | exact ih7 _ | exact ih8 _ | exact ih9 _ | exact ih10 _ | exact ih11 _ | exact ih12 _ | exact ih13 _ _ _ _ | exact ih14 _ _ | exact ih15 _ _ | exact ih16 _ _ | exact ih17 _ _ _ | exact ih18 _ _ | exact ih19 _ _ | exact F1 fu _ _ | exact U1 fu _ _ | exact N1 fu _ | exact O1 fu _ | exact T1 fu _ | exact G1 fu _ | exact Q1 fu _ | exact R1 fu _ | exact V1 fu _ | exact Y0 _ | refine Le.bind ?_ (fun _=>?_) | refine Le.ite ?_ ?_ | (rename_i x; cases x))
  ·rw [Ue,V5]
   repeat (first | exact Le.rfl | exact ih0 _ | exact ih1 _ | exact ih2 _ | exact ih3 _ | exact ih4 _ | exact ih5 _ | exact ih6 _ | exact ih7 _ | exact ih8 _ | exact ih9 _ | exact ih10 _ | exact ih11 _ | exact ih12 _ | exact ih13 _ _ _ _ | exact ih14 _ _ | exact ih15 _ _ | exact ih16 _ _ | exact ih17 _ _ _ | exact ih18 _ _ | exact ih19 _ _ | exact F1 fu _ _ | exact U1 fu _ _ | exact N1 fu _ | exact O1 fu _ | exact T1 fu _ | exact G1 fu _ | exact Q1 fu _ | exact R1 fu _ | exact V1 fu _ | exact Y0 _ | refine Le.bind ?_ (fun _=>?_) | refine Le.ite ?_ ?_ | (rename_i x; cases x))
  ·rw [Ie,W9]
   repeat (first | exact Le.rfl | exact ih0 _ | exact ih1 _ | exact ih2 _ | exact ih3 _ | exact ih4 _ | exact ih5 _ | exact ih6 _ | exact ih7 _ | exact ih8 _ | exact ih9 _ | exact ih10 _ | exact ih11 _ | exact ih12 _ | exact ih13 _ _ _ _ | exact ih14 _ _ | exact ih15 _ _ | exact ih16 _ _ | exact ih17 _ _ _ | exact ih18 _ _ | exact ih19 _ _ | exact F1 fu _ _ | exact U1 fu _ _ | exact N1 fu _ | exact O1 fu _ | exact T1 fu _ | exact G1 fu _ | exact Q1 fu _ | exact R1 fu _ | exact V1 fu _ | exact Y0 _ | refine Le.bind ?_ (fun _=>?_) | refine Le.ite ?_ ?_ | (rename_i x; cases x))
  ·rw [Qb,Q4]
   repeat (first | exact Le.rfl | exact ih0 _ | exact ih1 _ | exact ih2 _ | exact ih3 _ | exact ih4 _ | exact ih5 _ | exact ih6 _ | exact ih7 _ | exact ih8 _ | exact ih9 _ | exact ih10 _ | exact ih11 _ | exact ih12 _ | exact ih13 _ _ _ _ | exact ih14 _ _ | exact ih15 _ _ | exact ih16 _ _ | exact ih17 _ _ _ | exact ih18 _ _ | exact ih19 _ _ | exact F1 fu _ _ | exact U1 fu _ _ | exact N1 fu _ | exact O1 fu _ | exact T1 fu _ | exact G1 fu _ | exact Q1 fu _ | exact R1 fu _ | exact V1 fu _ | exact Y0 _ | refine Le.bind ?_ (fun _=>?_) | refine Le.ite ?_ ?_ | (rename_i x; cases x))
  ·rw [Je,X9]
   repeat (first | exact Le.rfl | exact ih0 _ | exact ih1 _ | exact ih2 _ | exact ih3 _ | exact ih4 _ | exact ih5 _ | exact ih6 _ | exact ih7 _ | exact ih8 _ | exact ih9 _ | exact ih10 _ | exact ih11 _ | exact ih12 _ | exact ih13 _ _ _ _ | exact ih14 _ _ | exact ih15 _ _ | exact ih16 _ _ | exact ih17 _ _ _ | exact ih18 _ _ | exact ih19 _ _ | exact F1 fu _ _ | exact U1 fu _ _ | exact N1 fu _ | exact O1 fu _ | exact T1 fu _ | exact G1 fu _ | exact Q1 fu _ | exact R1 fu _ | exact V1 fu _ | exact Y0 _ | refine Le.bind ?_ (fun _=>?_) | refine Le.ite ?_ ?_ | (rename_i x; cases x))
  ·rw [F8,S3]
   repeat (first | exact Le.rfl | exact ih0 _ | exact ih1 _ | exact ih2 _ | exact ih3 _ | exact ih4 _ | exact ih5 _ | exact ih6 _ | exact ih7 _ | exact ih8 _ | exact ih9 _ | exact ih10 _ | exact ih11 _ | exact ih12 _ | exact ih13 _ _ _ _ | exact ih14 _ _ | exact ih15 _ _ | exact ih16 _ _ | exact ih17 _ _ _ | exact ih18 _ _ | exact ih19 _ _ | exact F1 fu _ _ | exact U1 fu _ _ | exact N1 fu _ | exact O1 fu _ | exact T1 fu _ | exact G1 fu _ | exact Q1 fu _ | exact R1 fu _ | exact V1 fu _ | exact Y0 _ | refine Le.bind ?_ (fun _=>?_) | refine Le.ite ?_ ?_ | (rename_i x; cases x))
  ·rw [Xe,B8]
   repeat (first | exact Le.rfl | exact ih0 _ | exact ih1 _ | exact ih2 _ | exact ih3 _ | exact ih4 _ | exact ih5 _ | exact ih6 _ | exact ih7 _ | exact ih8 _ | exact ih9 _ | exact ih10 _ | exact ih11 _ | exact ih12 _ | exact ih13 _ _ _ _ | exact ih14 _ _ | exact ih15 _ _ | exact ih16 _ _ | exact ih17 _ _ _ | exact ih18 _ _ | exact ih19 _ _ | exact F1 fu _ _ | exact U1 fu _ _ | exact N1 fu _ | exact O1 fu _ | exact T1 fu _ | exact G1 fu _ | exact Q1 fu _ | exact R1 fu _ | exact V1 fu _ | exact Y0 _ | refine Le.bind ?_ (fun _=>?_) | refine Le.ite ?_ ?_ | (rename_i x; cases x))
  ·rw [Dh,I6]
   repeat (first | exact Le.rfl | exact ih0 _ | exact ih1 _ | exact ih2 _ | exact ih3 _ | exact ih4 _ | exact ih5 _ | exact ih6 _ | exact ih7 _ | exact ih8 _ | exact ih9 _ | exact ih10 _ | exact ih11 _ | exact ih12 _ | exact ih13 _ _ _ _ | exact ih14 _ _ | exact ih15 _ _ | exact ih16 _ _ | exact ih17 _ _ _ | exact ih18 _ _ | exact ih19 _ _ | exact F1 fu _ _ | exact U1 fu _ _ | exact N1 fu _ | exact O1 fu _ | exact T1 fu _ | exact G1 fu _ | exact Q1 fu _ | exact R1 fu _ | exact V1 fu _ | exact Y0 _ | refine Le.bind ?_ (fun _=>?_) | refine Le.ite ?_ ?_ | (rename_i x; cases x))
  ·rw [T8,F4]
   repeat (first | exact Le.rfl | exact ih0 _ | exact ih1 _ | exact ih2 _ | exact ih3 _ | exact ih4 _ | exact ih5 _ | exact ih6 _ | exact ih7 _ | exact ih8 _ | exact ih9 _ | exact ih10 _ | exact ih11 _ | exact ih12 _ | exact ih13 _ _ _ _ | exact ih14 _ _ | exact ih15 _ _ | exact ih16 _ _ | exact ih17 _ _ _ | exact ih18 _ _ | exact ih19 _ _ | exact F1 fu _ _ | exact U1 fu _ _ | exact N1 fu _ | exact O1 fu _ | exact T1 fu _ | exact G1 fu _ | exact Q1 fu _ | exact R1 fu _ | exact V1 fu _ | exact Y0 _ | refine Le.bind ?_ (fun _=>?_) | refine Le.ite ?_ ?_ | (rename_i x; cases x))
  ·rw [Od,M8]
   repeat (first | exact Le.rfl | exact ih0 _ | exact ih1 _ | exact ih2 _ | exact ih3 _ | exact ih4 _ | exact ih5 _ | exact ih6 _ | exact ih7 _ | exact ih8 _ | exact ih9 _ | exact ih10 _ | exact ih11 _ | exact ih12 _ | exact ih13 _ _ _ _ | exact ih14 _ _ | exact ih15 _ _ | exact ih16 _ _ | exact ih17 _ _ _ | exact ih18 _ _ | exact ih19 _ _ | exact F1 fu _ _ | exact U1 fu _ _ | exact N1 fu _ | exact O1 fu _ | exact T1 fu _ | exact G1 fu _ | exact Q1 fu _ | exact R1 fu _ | exact V1 fu _ | exact Y0 _ | refine Le.bind ?_ (fun _=>?_) | refine Le.ite ?_ ?_ | (rename_i x; cases x))
  ·rw [N9,C3]
   repeat (first | exact Le.rfl | exact ih0 _ | exact ih1 _ | exact ih2 _ | exact ih3 _ | exact ih4 _ | exact ih5 _ | exact ih6 _ | exact ih7 _ | exact ih8 _ | exact ih9 _ | exact ih10 _ | exact ih11 _ | exact ih12 _ | exact ih13 _ _ _ _ | exact ih14 _ _ | exact ih15 _ _ | exact ih16 _ _ | exact ih17 _ _ _ | exact ih18 _ _ | exact ih19 _ _ | exact F1 fu _ _ | exact U1 fu _ _ | exact N1 fu _ | exact O1 fu _ | exact T1 fu _ | exact G1 fu _ | exact Q1 fu _ | exact R1 fu _ | exact V1 fu _ | exact Y0 _ | refine Le.bind ?_ (fun _=>?_) | refine Le.ite ?_ ?_ | (rename_i x; cases x))
  ·rw [O9,B3]
   repeat (first | exact Le.rfl | exact ih0 _ | exact ih1 _ | exact ih2 _ | exact ih3 _ | exact ih4 _ | exact ih5 _ | exact ih6 _ | exact ih7 _ | exact ih8 _ | exact ih9 _ | exact ih10 _ | exact ih11 _ | exact ih12 _ | exact ih13 _ _ _ _ | exact ih14 _ _ | exact ih15 _ _ | exact ih16 _ _ | exact ih17 _ _ _ | exact ih18 _ _ | exact ih19 _ _ | exact F1 fu _ _ | exact U1 fu _ _ | exact N1 fu _ | exact O1 fu _ | exact T1 fu _ | exact G1 fu _ | exact Q1 fu _ | exact R1 fu _ | exact V1 fu _ | exact Y0 _ | refine Le.bind ?_ (fun _=>?_) | refine Le.ite ?_ ?_ | (rename_i x; cases x))
  ·rw [J3,L1]
   repeat (first | exact Le.rfl | exact ih0 _ | exact ih1 _ | exact ih2 _ | exact ih3 _ | exact ih4 _ | exact ih5 _ | exact ih6 _ | exact ih7 _ | exact ih8 _ | exact ih9 _ | exact ih10 _ | exact ih11 _ | exact ih12 _ | exact ih13 _ _ _ _ | exact ih14 _ _ | exact ih15 _ _ | exact ih16 _ _ | exact ih17 _ _ _ | exact ih18 _ _ | exact ih19 _ _ | exact F1 fu _ _ | exact U1 fu _ _ | exact N1 fu _ | exact O1 fu _ | exact T1 fu _ | exact G1 fu _ | exact Q1 fu _ | exact R1 fu _ | exact V1 fu _ | exact Y0 _ | refine Le.bind ?_ (fun _=>?_) | refine Le.ite ?_ ?_ | (rename_i x; cases x))
  ·rw [P9,A3]
   repeat (first | exact Le.rfl | exact ih0 _ | exact ih1 _ | exact ih2 _ | exact ih3 _ | exact ih4 _ | exact ih5 _ | exact ih6 _ | exact ih7 _ | exact ih8 _ | exact ih9 _ | exact ih10 _ | exact ih11 _ | exact ih12 _ | exact ih13 _ _ _ _ | exact ih14 _ _ | exact ih15 _ _ | exact ih16 _ _ | exact ih17 _ _ _ | exact ih18 _ _ | exact ih19 _ _ | exact F1 fu _ _ | exact U1 fu _ _ | exact N1 fu _ | exact O1 fu _ | exact T1 fu _ | exact G1 fu _ | exact Q1 fu _ | exact R1 fu _ | exact V1 fu _ | exact Y0 _ | refine Le.bind ?_ (fun _=>?_) | refine Le.ite ?_ ?_ | (rename_i x; cases x))
  ·rw [Gb,U3]
   repeat (first | exact Le.rfl | exact ih0 _ | exact ih1 _ | exact ih2 _ | exact ih3 _ | exact ih4 _ | exact ih5 _ | exact ih6 _ | exact ih7 _ | exact ih8 _ | exact ih9 _ | exact ih10 _ | exact ih11 _ | exact ih12 _ | exact ih13 _ _ _ _ | exact ih14 _ _ | exact ih15 _ _ | exact ih16 _ _ | exact ih17 _ _ _ | exact ih18 _ _ | exact ih19 _ _ | exact F1 fu _ _ | exact U1 fu _ _ | exact N1 fu _ | exact O1 fu _ | exact T1 fu _ | exact G1 fu _ | exact Q1 fu _ | exact R1 fu _ | exact V1 fu _ | exact Y0 _ | refine Le.bind ?_ (fun _=>?_) | refine Le.ite ?_ ?_ | (rename_i x; cases x))
theorem Wp (fu:Nat)(parserParser:B0):Le (Z2 fu parserParser) (C1 parserParser):=(Bo fu).1 parserParser
def Bi (fu:Nat)(parserParser:B0)(apiExpr:A0):Option (Pn (B0×A0)):=
 Z2 fu parserParser>>=fun x1=>match x1 with
 | .pn nn=>
 some (.pn nn)
 | .ok x1=>
 some (.ok (x1.2,x1.1))
theorem Rv (fu:Nat)(parserParser:B0)(apiExpr:A0):Le (Bi fu parserParser apiExpr) (Na parserParser apiExpr):=by
 unfold Bi Na
 repeat (first | exact Le.rfl | exact Wp fu _ | exact Y0 _ | refine Le.bind ?_ (fun _=>?_) | refine Le.ite ?_ ?_ | (rename_i x; cases x))
def Gq (fu:Nat)(text:Str)(apiExpr:A0):Option (Int×Int×A0):=
 Gu fu text>>=fun x1=>
 if (x1.2.2 != 0)=true then
  some (x1.2.1,x1.2.2,apiExpr)
 else
  Bi fu (B0.mk x1.1 0 ((text).length:Int)) apiExpr>>=fun x2=>match x2 with
  | .pn nn=>
  some (nn,6,apiExpr)
  | .ok x2=>
  if (decide (x2.1.next < ((x2.1.tokens).length:Int)))=true then
   Fb fu x2.1>>=fun x3=>match x3 with
   | .pn nn=>
   some (nn,6,x2.2)
   | .ok x3=>
   some (0,0,x2.2)
  else
   some (0,0,x2.2)
theorem X14 (fu:Nat)(text:Str)(apiExpr:A0):Le (Gq fu text apiExpr) (Qi text apiExpr):=by
 unfold Gq Qi
 repeat (first | exact Le.rfl | exact R18 fu _ | exact Rv fu _ _ | exact Zg fu _ | exact Y0 _ | refine Le.bind ?_ (fun _=>?_) | refine Le.ite ?_ ?_ | (rename_i x; cases x))
def Ci (fu:Nat)(d:Int)(syntaxReport:I0):Option I0:=
 some (I0.mk syntaxReport.nodes (max syntaxReport.depth d) syntaxReport.badForm syntaxReport.badName syntaxReport.badNumber)
theorem Ua (fu:Nat)(d:Int)(syntaxReport:I0):Le (Ci fu d syntaxReport) (A6 d syntaxReport):=by
 unfold Ci A6
 repeat (first | exact Le.rfl | exact Y0 _ | refine Le.bind ?_ (fun _=>?_) | refine Le.ite ?_ ?_ | (rename_i x; cases x))
def Cd (fu:Nat)(op:Int)(v9:Bool):Option Int:=
 if v9=true then
  some 1
 else
  if (op == 5)=true then
   some 2
  else
   if (op == 23)=true then
    some 3
   else
    if (bif (decide (op≥8)) then (decide (op≤22)) else false)=true then
     some 2
    else
     some (-1)
theorem Nz (fu:Nat)(op:Int)(v9:Bool):Le (Cd fu op v9) (H9 op v9):=by
 unfold Cd H9
 repeat (first | exact Le.rfl | exact Y0 _ | refine Le.bind ?_ (fun _=>?_) | refine Le.ite ?_ ?_ | (rename_i x; cases x))
def Mb (fu:Nat)(op:Int)(v4:Bool):Option Int:=
 if v4=true then
  some 0
 else
  if (op == 4)=true then
   Cd fu op (op == 4)
  else
   if (op == 6)=true then
    Cd fu op (op == 6)
   else
    Cd fu op (op == 7)
theorem Oz (fu:Nat)(op:Int)(v4:Bool):Le (Mb fu op v4) (V7 op v4):=by
 unfold Mb V7
 repeat (first | exact Le.rfl | exact Nz fu _ _ | exact Y0 _ | refine Le.bind ?_ (fun _=>?_) | refine Le.ite ?_ ?_ | (rename_i x; cases x))
def Co (fu:Nat)(op:Int):Option Int:=
 if (op == 0)=true then
  Mb fu op (op == 0)
 else
  if (op == 1)=true then
   Mb fu op (op == 1)
  else
   if (op == 2)=true then
    Mb fu op (op == 2)
   else
    Mb fu op (op == 3)
theorem Lf (fu:Nat)(op:Int):Le (Co fu op) (Be op):=by
 unfold Co Be
 repeat (first | exact Le.rfl | exact Oz fu _ _ | exact Y0 _ | refine Le.bind ?_ (fun _=>?_) | refine Le.ite ?_ ?_ | (rename_i x; cases x))
def E9 (fu:Nat)(ok:Bool)(syntaxReport:I0):Option I0:=
 some (I0.mk syntaxReport.nodes syntaxReport.depth (bif syntaxReport.badForm then true else (!ok)) syntaxReport.badName syntaxReport.badNumber)
theorem Va (fu:Nat)(ok:Bool)(syntaxReport:I0):Le (E9 fu ok syntaxReport) (W0 ok syntaxReport):=by
 unfold E9 W0
 repeat (first | exact Le.rfl | exact Y0 _ | refine Le.bind ?_ (fun _=>?_) | refine Le.ite ?_ ?_ | (rename_i x; cases x))
def Dd:Nat→A0→Option Bool
 | 0,_=>none
 | fu+1,o0=>
  if (bif (o0.Op == 4) then true else (o0.Op == 5))=true then
   if (((o0.Kids).length:Int) == 0)=true then
    some false
   else
    idx o0.Kids 0>>=fun x1=>
    Dd fu x1
  else
   some (o0.Op == 3)
theorem Jy (fu:Nat):(∀ (o0:A0),Le (Dd fu o0) (W7 o0)):=by
 induction fu with
 | zero=>exact fun _=>Le.none
 | succ fu ih=>
  have ih0:=ih
  refine fun o0=>?_
  ·rw [Dd,W7]
   repeat (first | exact Le.rfl | exact ih0 _ | exact Y0 _ | refine Le.bind ?_ (fun _=>?_) | refine Le.ite ?_ ?_ | (rename_i x; cases x))
theorem Pz (fu:Nat)(o0:A0):Le (Dd fu o0) (W7 o0):=(Jy fu) o0
def Do (fu:Nat)(e:A0):Option Bool:=
 Dd fu e
theorem Mf (fu:Nat)(e:A0):Le (Do fu e) (Lc e):=by
 unfold Do Lc
 repeat (first | exact Le.rfl | exact Pz fu _ | exact Y0 _ | refine Le.bind ?_ (fun _=>?_) | refine Le.ite ?_ ?_ | (rename_i x; cases x))
def Ed:Nat→Str→Int→Option Bool
 | 0,_,_=>none
 | fu+1,s,v6=>
  if (decide (v6 < ((s).length:Int)))=true then
   idx s v6>>=fun x1=>
   Ge fu (x1.toNat:Int)>>=fun x2=>
   (if ((!x2)&&(!(v6 == 0)))=true then idx s v6 else some default)>>=fun x3=>
   (if ((!x2)&&(!(v6 == 0)))=true then Vc fu (x3.toNat:Int) else some default)>>=fun x4=>
   if (bif (!x2) then (bif (v6 == 0) then true else (!x4)) else false)=true then
    some false
   else
    Ed fu s (IntKind.i64.wrap (v6+1))
  else
   some (!(s == []))
theorem Ky (fu:Nat):(∀ (s:Str) (v6:Int),Le (Ed fu s v6) (B6 s v6)):=by
 induction fu with
 | zero=>exact fun _ _=>Le.none
 | succ fu ih=>
  have ih0:=ih
  refine fun s v6=>?_
  ·rw [Ed,B6]
   repeat (first | exact Le.rfl | exact ih0 _ _ | exact Kk fu _ | exact Yh fu _ | exact Y0 _ | refine Le.bind ?_ (fun _=>?_) | refine Le.ite ?_ ?_ | (rename_i x; cases x))
theorem Qz (fu:Nat)(s:Str)(v6:Int):Le (Ed fu s v6) (B6 s v6):=(Ky fu) s v6
def Eo (fu:Nat)(s:Str):Option Bool:=
 Ed fu s 0
theorem T13 (fu:Nat)(s:Str):Le (Eo fu s) (Kg s):=by
 unfold Eo Kg
 repeat (first | exact Le.rfl | exact Qz fu _ _ | exact Y0 _ | refine Le.bind ?_ (fun _=>?_) | refine Le.ite ?_ ?_ | (rename_i x; cases x))
def Fo (fu:Nat)(s:Str):Option Bool:=
 (if (decide (((s).length:Int)≤12))=true then Eo fu s else some default)>>=fun x1=>
 (if (bif (decide (((s).length:Int)≤12)) then x1 else false)=true then Zh fu s else some default)>>=fun x2=>
 some (bif (bif (decide (((s).length:Int)≤12)) then x1 else false) then (!x2) else false)
theorem U13 (fu:Nat)(s:Str):Le (Fo fu s) (Lg s):=by
 unfold Fo Lg
 repeat (first | exact Le.rfl | exact T13 fu _ | exact Rq fu _ | exact Y0 _ | refine Le.bind ?_ (fun _=>?_) | refine Le.ite ?_ ?_ | (rename_i x; cases x))
def Om (fu:Nat)(s:Str):Option Bool:=
 Fo fu s>>=fun x1=>
 some x1
theorem X11 (fu:Nat)(s:Str):Le (Om fu s) (Yc s):=by
 unfold Om Yc
 repeat (first | exact Le.rfl | exact U13 fu _ | exact Y0 _ | refine Le.bind ?_ (fun _=>?_) | refine Le.ite ?_ ?_ | (rename_i x; cases x))
def Di (fu:Nat)(s:Str)(syntaxReport:I0):Option I0:=
 (if (!syntaxReport.badName)=true then Om fu s else some default)>>=fun x1=>
 some (I0.mk syntaxReport.nodes syntaxReport.depth syntaxReport.badForm (bif syntaxReport.badName then true else (!x1)) syntaxReport.badNumber)
theorem Wa (fu:Nat)(s:Str)(syntaxReport:I0):Le (Di fu s syntaxReport) (Y3 s syntaxReport):=by
 unfold Di Y3
 repeat (first | exact Le.rfl | exact X11 fu _ | exact Y0 _ | refine Le.bind ?_ (fun _=>?_) | refine Le.ite ?_ ?_ | (rename_i x; cases x))
def Pm (fu:Nat)(n:Int)(low:Int)(high:Int):Option Bool:=
 some (bif (decide (n≥low)) then (decide (n≤high)) else false)
theorem Ke (fu:Nat)(n:Int)(low:Int)(high:Int):Le (Pm fu n low high) (T3 n low high):=by
 unfold Pm T3
 repeat (first | exact Le.rfl | exact Y0 _ | refine Le.bind ?_ (fun _=>?_) | refine Le.ite ?_ ?_ | (rename_i x; cases x))
def Xf (fu:Nat)(ok:Bool)(syntaxReport:I0):Option I0:=
 some (I0.mk syntaxReport.nodes syntaxReport.depth syntaxReport.badForm syntaxReport.badName (bif syntaxReport.badNumber then true else (!ok)))
theorem F9 (fu:Nat)(ok:Bool)(syntaxReport:I0):Le (Xf fu ok syntaxReport) (E2 ok syntaxReport):=by
 unfold Xf E2
 repeat (first | exact Le.rfl | exact Y0 _ | refine Le.bind ?_ (fun _=>?_) | refine Le.ite ?_ ?_ | (rename_i x; cases x))
mutual
def Hb:Nat→A0→Int→I0→Option I0
 | 0,_,_,_=>none
 | fu+1,e,depth,syntaxReport=>
  Ci fu depth (I0.mk (IntKind.i64.wrap (syntaxReport.nodes+1)) syntaxReport.depth syntaxReport.badForm syntaxReport.badName syntaxReport.badNumber)>>=fun x1=>
  Co fu e.Op>>=fun x2=>
  E9 fu (x2 == ((e.Kids).length:Int)) x1>>=fun x3=>
  E9 fu (bif (e.NV == 0) then true else (e.Op == 0)) x3>>=fun x4=>
  E9 fu (bif (e.Name == []) then true else (bif (e.Op == 3) then true else (e.Op == 4))) x4>>=fun x5=>
  if (bif (e.Op == 4) then true else (e.Op == 5))=true then
   Do fu e>>=fun x6=>
   E9 fu x6 x5>>=fun x7=>
   Rb fu e depth x7
  else
   Rb fu e depth x5
def Rb:Nat→A0→Int→I0→Option I0
 | 0,_,_,_=>none
 | fu+1,e,depth,o0=>
  if (bif (e.Op == 3) then true else (e.Op == 4))=true then
   Di fu e.Name o0>>=fun x8=>
   Sb fu e depth x8
  else
   Sb fu e depth o0
def Sb:Nat→A0→Int→I0→Option I0
 | 0,_,_,_=>none
 | fu+1,e,depth,o01=>
  if (e.Op == 0)=true then
   Pm fu e.NV 0 1048576>>=fun x9=>
   Xf fu x9 o01>>=fun x10=>
   Tb fu e depth x10
  else
   Tb fu e depth o01
def Tb:Nat→A0→Int→I0→Option I0
 | 0,_,_,_=>none
 | fu+1,e,depth,o02=>
  Ub fu e depth o02 0
def Ub:Nat→A0→Int→I0→Int→Option I0
 | 0,_,_,_,_=>none
 | fu+1,e,depth,o03,v82=>
  if (decide (v82 < ((e.Kids).length:Int)))=true then
   idx e.Kids v82>>=fun x11=>
   Hb fu x11 (IntKind.i64.wrap (depth+1)) o03>>=fun x12=>
   Ub fu e depth x12 (IntKind.i64.wrap (v82+1))
  else
   some o03
end
theorem Hu (fu:Nat):(∀ (e:A0) (depth:Int) (syntaxReport:I0),Le (Hb fu e depth syntaxReport) (X2 e depth syntaxReport))∧(∀ (e:A0) (depth:Int) (o0:I0),Le (Rb fu e depth o0) (S6 e depth o0))∧(∀ (e:A0) (depth:Int) (o01:I0),Le (Sb fu e depth o01) (C8 e depth o01))∧(∀ (e:A0) (depth:Int) (o02:I0),Le (Tb fu e depth o02) (D8 e depth o02))∧(∀ (e:A0) (depth:Int) (o03:I0) (v82:Int),Le (Ub fu e depth o03 v82) (B4 e depth o03 v82)):=by
 induction fu with
 | zero=>exact ⟨fun _ _ _=>Le.none,fun _ _ _=>Le.none,fun _ _ _=>Le.none,fun _ _ _=>Le.none,fun _ _ _ _=>Le.none⟩
 | succ fu ih=>
  obtain ⟨ih0,ih1,ih2,ih3,ih4⟩:=ih
  refine ⟨fun e depth syntaxReport=>?_,fun e depth o0=>?_,fun e depth o01=>?_,fun e depth o02=>?_,fun e depth o03 v82=>?_⟩
  ·rw [Hb,X2]
   repeat (first | exact Le.rfl | exact ih0 _ _ _ | exact ih1 _ _ _ | exact ih2 _ _ _ | exact ih3 _ _ _ | exact ih4 _ _ _ _ | exact Ua fu _ _ | exact Lf fu _ | exact Va fu _ _ | exact Mf fu _ | exact Wa fu _ _ | exact Ke fu _ _ _ | exact F9 fu _ _ | exact Y0 _ | refine Le.bind ?_ (fun _=>?_) | refine Le.ite ?_ ?_ | (rename_i x; cases x))
  ·rw [Rb,S6]
   repeat (first | exact Le.rfl | exact ih0 _ _ _ | exact ih1 _ _ _ | exact ih2 _ _ _ | exact ih3 _ _ _ | exact ih4 _ _ _ _ | exact Ua fu _ _ | exact Lf fu _ | exact Va fu _ _ | exact Mf fu _ | exact Wa fu _ _ | exact Ke fu _ _ _ | exact F9 fu _ _ | exact Y0 _ | refine Le.bind ?_ (fun _=>?_) | refine Le.ite ?_ ?_ | (rename_i x; cases x))
  ·rw [Sb,C8]
   repeat (first | exact Le.rfl | exact ih0 _ _ _ | exact ih1 _ _ _ | exact ih2 _ _ _ | exact ih3 _ _ _ | exact ih4 _ _ _ _ | exact Ua fu _ _ | exact Lf fu _ | exact Va fu _ _ | exact Mf fu _ | exact Wa fu _ _ | exact Ke fu _ _ _ | exact F9 fu _ _ | exact Y0 _ | refine Le.bind ?_ (fun _=>?_) | refine Le.ite ?_ ?_ | (rename_i x; cases x))
  ·rw [Tb,D8]
   repeat (first | exact Le.rfl | exact ih0 _ _ _ | exact ih1 _ _ _ | exact ih2 _ _ _ | exact ih3 _ _ _ | exact ih4 _ _ _ _ | exact Ua fu _ _ | exact Lf fu _ | exact Va fu _ _ | exact Mf fu _ | exact Wa fu _ _ | exact Ke fu _ _ _ | exact F9 fu _ _ | exact Y0 _ | refine Le.bind ?_ (fun _=>?_) | refine Le.ite ?_ ?_ | (rename_i x; cases x))
  ·rw [Ub,B4]
   repeat (first | exact Le.rfl | exact ih0 _ _ _ | exact ih1 _ _ _ | exact ih2 _ _ _ | exact ih3 _ _ _ | exact ih4 _ _ _ _ | exact Ua fu _ _ | exact Lf fu _ | exact Va fu _ _ | exact Mf fu _ | exact Wa fu _ _ | exact Ke fu _ _ _ | exact F9 fu _ _ | exact Y0 _ | refine Le.bind ?_ (fun _=>?_) | refine Le.ite ?_ ?_ | (rename_i x; cases x))
theorem Sv (fu:Nat)(e:A0)(depth:Int)(syntaxReport:I0):Le (Hb fu e depth syntaxReport) (X2 e depth syntaxReport):=(Hu fu).1 e depth syntaxReport
def Ei (fu:Nat)(syntaxReport:I0):Option Int:=
 if (bif (decide (syntaxReport.nodes > 1024)) then true else (decide (syntaxReport.depth > 12)))=true then
  some 4
 else
  if syntaxReport.badForm=true then
   some 1
  else
   if syntaxReport.badName=true then
    some 7
   else
    if syntaxReport.badNumber=true then
     some 3
    else
     some 0
theorem Tv (fu:Nat)(syntaxReport:I0):Le (Ei fu syntaxReport) (C6 syntaxReport):=by
 unfold Ei C6
 repeat (first | exact Le.rfl | exact Y0 _ | refine Le.bind ?_ (fun _=>?_) | refine Le.ite ?_ ?_ | (rename_i x; cases x))
def Oj (fu:Nat)(e:A0):Option Int:=
 Hb fu e 1 (I0.mk 0 0 false false false)>>=fun x1=>
 Ei fu x1>>=fun x2=>
 some x2
theorem Ly (fu:Nat)(e:A0):Le (Oj fu e) (Ha e):=by
 unfold Oj Ha
 repeat (first | exact Le.rfl | exact Sv fu _ _ _ | exact Tv fu _ | exact Y0 _ | refine Le.bind ?_ (fun _=>?_) | refine Le.ite ?_ ?_ | (rename_i x; cases x))
def Nf (fu:Nat)(text:Str):Option (A0×Int×Int):=
 Gq fu text (A0.mk 0 0 [] [])>>=fun x1=>
 if (x1.2.1 != 0)=true then
  some ((A0.mk 0 0 [] []),x1.1,x1.2.1)
 else
  Oj fu x1.2.2>>=fun x2=>
  if (x2 != 0)=true then
   some ((A0.mk 0 0 [] []),0,x2)
  else
   some (x1.2.2,0,0)
theorem My (fu:Nat)(text:Str):Le (Nf fu text) (V4 text):=by
 unfold Nf V4
 repeat (first | exact Le.rfl | exact X14 fu _ _ | exact Ly fu _ | exact Y0 _ | refine Le.bind ?_ (fun _=>?_) | refine Le.ite ?_ ?_ | (rename_i x; cases x))
def Pj (fu:Nat)(s:Str):Option A0:=
 some (A0.mk 3 0 s [])
theorem V16 (fu:Nat)(s:Str):Le (Pj fu s) (Xh s):=by
 unfold Pj Xh
 repeat (first | exact Le.rfl | exact Y0 _ | refine Le.bind ?_ (fun _=>?_) | refine Le.ite ?_ ?_ | (rename_i x; cases x))
mutual
def Fd:Nat→A0→A0→Option Bool
 | 0,_,_=>none
 | fu+1,a,b=>
  if (bif (bif (bif (a.Op != b.Op) then true else (a.NV != b.NV)) then true else (!(a.Name == b.Name))) then true else (((a.Kids).length:Int) != ((b.Kids).length:Int)))=true then
   some false
  else
   Pd fu a b 0
def Pd:Nat→A0→A0→Int→Option Bool
 | 0,_,_,_=>none
 | fu+1,a,b,i=>
  if (decide (i < ((a.Kids).length:Int)))=true then
   idx a.Kids i>>=fun x1=>
   idx b.Kids i>>=fun x2=>
   Fd fu x1 x2>>=fun x3=>
   if (!x3)=true then
    some false
   else
    Pd fu a b (IntKind.i64.wrap (i+1))
  else
   some true
end
theorem Ny (fu:Nat):(∀ (a:A0) (b:A0),Le (Fd fu a b) (Q3 a b))∧(∀ (a:A0) (b:A0) (i:Int),Le (Pd fu a b i) (Z6 a b i)):=by
 induction fu with
 | zero=>exact ⟨fun _ _=>Le.none,fun _ _ _=>Le.none⟩
 | succ fu ih=>
  obtain ⟨ih0,ih1⟩:=ih
  refine ⟨fun a b=>?_,fun a b i=>?_⟩
  ·rw [Fd,Q3]
   repeat (first | exact Le.rfl | exact ih0 _ _ | exact ih1 _ _ _ | exact Y0 _ | refine Le.bind ?_ (fun _=>?_) | refine Le.ite ?_ ?_ | (rename_i x; cases x))
  ·rw [Pd,Z6]
   repeat (first | exact Le.rfl | exact ih0 _ _ | exact ih1 _ _ _ | exact Y0 _ | refine Le.bind ?_ (fun _=>?_) | refine Le.ite ?_ ?_ | (rename_i x; cases x))
theorem Rz (fu:Nat)(a:A0)(b:A0):Le (Fd fu a b) (Q3 a b):=(Ny fu).1 a b
def Nx (fu:Nat):Option Bool:=
 Nf fu [97,32,45,32,98,32,45,32,99,91,49,93,46,100]>>=fun x1=>
 Pj fu [99]>>=fun x2=>
 Pj fu [97]>>=fun x3=>
 Pj fu [98]>>=fun x4=>
 Nf fu [97,32,61,61,32,98,32,61,61,32,99]>>=fun x5=>
 (if (x1.2.2 == 0)=true then Fd fu x1.1 (A0.mk 9 0 [] [(A0.mk 9 0 [] [x3,x4]),(A0.mk 4 0 [100] [(A0.mk 5 0 [] [x2,(A0.mk 0 1 [] [])])])]) else some default)>>=fun x6=>
 some (bif (bif (bif (x1.2.2 == 0) then x6 else false) then (x5.2.2 == 6) else false) then (x5.2.1 == 7) else false)
theorem Y14 (fu:Nat):Le (Nx fu ) (Uf ):=by
 unfold Nx Uf
 repeat (first | exact Le.rfl | exact My fu _ | exact V16 fu _ | exact Rz fu _ _ | exact Y0 _ | refine Le.bind ?_ (fun _=>?_) | refine Le.ite ?_ ?_ | (rename_i x; cases x))
end Go.Proofs.YtmnhfbekncjnfaaGreatDoor

