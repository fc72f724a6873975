/- A part of the proof of ParserFirst. -/
import Derived.Test.YtmnhfbekncjnfaaGreatDoorDgB
import Derived.Test.YtmnhfbekncjnfaaGreatDoorAmB
set_option maxRecDepth 100000
set_option maxHeartbeats 4000000
set_option synthInstance.maxSize 20000
set_option linter.unusedVariables false
namespace Go.Proofs.YtmnhfbekncjnfaaGreatDoor
open Go.Am
def Bg (fu:Nat)(c:Int):Option Bool:=
 some (bif (decide (c≥97)) then (decide (c≤122)) else false)
theorem Pm (fu:Nat)(c:Int):Le (Bg fu c) (Oa c):=by
 unfold Bg Oa
 repeat (first | exact Le.rfl | exact A1 _ | refine Le.bind ?_ (fun _=>?_) | refine Le.ite ?_ ?_ | (rename_i x; cases x))
def Xd (fu:Nat)(c:Int):Option Bool:=
 some (bif (decide (c≥48)) then (decide (c≤57)) else false)
theorem Xj (fu:Nat)(c:Int):Le (Xd fu c) (Y8 c):=by
 unfold Xd Y8
 repeat (first | exact Le.rfl | exact A1 _ | refine Le.bind ?_ (fun _=>?_) | refine Le.ite ?_ ?_ | (rename_i x; cases x))
def Zi:Nat→Str→Int→Option Int
 | 0,_,_=>none
 | fu+1,s,i1=>
  (if (decide (i1 < ((s).length:Int)))=true then idx s i1 else some default)>>=fun x1=>
  (if (decide (i1 < ((s).length:Int)))=true then Bg fu (x1.toNat:Int) else some default)>>=fun x2=>
  (if ((decide (i1 < ((s).length:Int)))&&(!x2))=true then idx s i1 else some default)>>=fun x3=>
  (if ((decide (i1 < ((s).length:Int)))&&(!x2))=true then Xd fu (x3.toNat:Int) else some default)>>=fun x4=>
  if (bif (decide (i1 < ((s).length:Int))) then (bif x2 then true else x4) else false)=true then
   Zi fu s (IntKind.i64.wrap (i1+1))
  else
   some i1
theorem J14 (fu:Nat):(∀ (s:Str) (i1:Int),Le (Zi fu s i1) (L8 s i1)):=by
 induction fu with
 | zero=>exact fun _ _=>Le.none
 | succ fu ih=>
  have ih0:=ih
  refine fun s i1=>?_
  ·rw [Zi,L8]
   repeat (first | exact Le.rfl | exact ih0 _ _ | exact Pm fu _ | exact Xj fu _ | exact A1 _ | refine Le.bind ?_ (fun _=>?_) | refine Le.ite ?_ ?_ | (rename_i x; cases x))
theorem J16 (fu:Nat)(s:Str)(i1:Int):Le (Zi fu s i1) (L8 s i1):=(J14 fu) s i1
def Dr (fu:Nat)(s:Str)(i:Int):Option Int:=
 Zi fu s i
theorem Q1b (fu:Nat)(s:Str)(i:Int):Le (Dr fu s i) (Il s i):=by
 unfold Dr Il
 repeat (first | exact Le.rfl | exact J16 fu _ _ | exact A1 _ | refine Le.bind ?_ (fun _=>?_) | refine Le.ite ?_ ?_ | (rename_i x; cases x))
def Yj (fu:Nat)(word:Str):Option Bool:=
 (if (!(word == []))=true then Uj word [32] else some default)>>=fun x1=>
 if (!(bif (!(word == [])) then (!x1) else false)||(decide (1+word.length≤maxLen)))=true then
  if (!(bif (!(word == [])) then (!x1) else false)||(decide (([32]++word).length+1≤maxLen)))=true then
   (if (bif (!(word == [])) then (!x1) else false)=true then Uj [32,116,121,112,101,32,115,101,99,114,101,116,32,112,117,98,108,105,99,32,114,97,110,100,111,109,32,118,97,114,32,104,97,116,99,104,32,102,117,110,99,32,114,101,116,117,114,110,32,98,101,103,105,110,32,101,110,100,32,98,111,111,108,32,105,110,116,32,97,114,114,97,121,32,111,102,32,114,101,99,111,114,100,32,116,114,117,101,32,102,97,108,115,101,32,99,97,108,108,32,114,101,108,101,97,115,101,32,111,117,116,112,117,116,32,119,97,105,116,32,105,102,32,101,108,115,101,32,119,104,105,108,101,32,108,105,109,105,116,32,102,111,114,32,116,111,32,115,101,116,116,108,101,32,109,105,110,32,109,97,120,32] (([32]++word)++[32]) else some default)>>=fun x2=>
   some (bif (bif (!(word == [])) then (!x1) else false) then x2 else false)
  else none
 else none
theorem Kt (fu:Nat)(word:Str):Le (Yj fu word) (B9 word):=by
 unfold Yj B9
 repeat (first | exact Le.rfl | exact A1 _ | refine Le.bind ?_ (fun _=>?_) | refine Le.ite ?_ ?_ | (rename_i x; cases x))
def Ie:Nat→Str→Int→Int→Option Int
 | 0,_,_,_=>none
 | fu+1,s,n,v7=>
  if (decide (v7 < ((s).length:Int)))=true then
   idx s v7>>=fun x1=>
   Xd fu (x1.toNat:Int)>>=fun x2=>
   if (!x2)=true then
    some 6
   else
    idx s v7>>=fun x3=>
    Ie fu s (min (IntKind.i64.wrap ((IntKind.i64.wrap (10 * n))+(IntKind.i64.wrap (IntKind.u8.wrap ((x3.toNat:Int) - 48))))) 1048577) (IntKind.i64.wrap (v7+1))
  else
   idx s 0>>=fun x4=>
   if (bif ((x4.toNat:Int) == 48) then (decide (((s).length:Int) > 1)) else false)=true then
    some 6
   else
    if (decide (n > 1048576))=true then
     some 3
    else
     some 0
theorem S10 (fu:Nat):(∀ (s:Str) (n:Int) (v7:Int),Le (Ie fu s n v7) (L5 s n v7)):=by
 induction fu with
 | zero=>exact fun _ _ _=>Le.none
 | succ fu ih=>
  have ih0:=ih
  refine fun s n v7=>?_
  ·rw [Ie,L5]
   repeat (first | exact Le.rfl | exact ih0 _ _ _ | exact Xj fu _ | exact A1 _ | refine Le.bind ?_ (fun _=>?_) | refine Le.ite ?_ ?_ | (rename_i x; cases x))
theorem Z11 (fu:Nat)(s:Str)(n:Int)(v7:Int):Le (Ie fu s n v7) (L5 s n v7):=(S10 fu) s n v7
def Kq (fu:Nat)(s:Str):Option Int:=
 Ie fu s 0 0
theorem K16 (fu:Nat)(s:Str):Le (Kq fu s) (Gi s):=by
 unfold Kq Gi
 repeat (first | exact Le.rfl | exact Z11 fu _ _ _ | exact A1 _ | refine Le.bind ?_ (fun _=>?_) | refine Le.ite ?_ ?_ | (rename_i x; cases x))
def Dl (fu:Nat)(s:Str):Option Str:=
 idx s 0>>=fun x3=>
 Cr [59,58,44,46,61,43,45,42,47,37,60,62,33,63,40,41,91,93,123,125] (x3.toNat:Int)>>=fun x4=>
 if (decide (x4≥0))=true then
  slc s 0 1>>=fun x5=>
  some x5
 else
  some []
theorem Zu (fu:Nat)(s:Str):Le (Dl fu s) (Zb s):=by
 unfold Dl Zb
 repeat (first | exact Le.rfl | exact A1 _ | refine Le.bind ?_ (fun _=>?_) | refine Le.ite ?_ ?_ | (rename_i x; cases x))
def B8 (fu:Nat)(s:Str)(v8:Bool):Option Str:=
 if v8=true then
  slc s 0 2>>=fun x2=>
  some x2
 else
  Dl fu s
theorem K14 (fu:Nat)(s:Str)(v8:Bool):Le (B8 fu s v8) (U6 s v8):=by
 unfold B8 U6
 repeat (first | exact Le.rfl | exact Zu fu _ | exact A1 _ | refine Le.bind ?_ (fun _=>?_) | refine Le.ite ?_ ?_ | (rename_i x; cases x))
def Av (fu:Nat)(s:Str):Option Str:=
 if (decide (((s).length:Int)≥2))=true then
  slc s 0 2>>=fun x1=>
  if (x1 == [46,46])=true then
   B8 fu s (x1 == [46,46])
  else
   if (x1 == [61,61])=true then
    B8 fu s (x1 == [61,61])
   else
    if (x1 == [33,61])=true then
     B8 fu s (x1 == [33,61])
    else
     if (x1 == [60,61])=true then
      B8 fu s (x1 == [60,61])
     else
      if (x1 == [62,61])=true then
       B8 fu s (x1 == [62,61])
      else
       if (x1 == [38,38])=true then
        B8 fu s (x1 == [38,38])
       else
        B8 fu s (x1 == [124,124])
 else
  Dl fu s
theorem U19 (fu:Nat)(s:Str):Le (Av fu s) (Se s):=by
 unfold Av Se
 repeat (first | exact Le.rfl | exact K14 fu _ _ | exact Zu fu _ | exact A1 _ | refine Le.bind ?_ (fun _=>?_) | refine Le.ite ?_ ?_ | (rename_i x; cases x))
def Bv (fu:Nat)(s:Str)(i:Int):Option (K0×Int):=
 idx s i>>=fun x1=>
 Bg fu (x1.toNat:Int)>>=fun x2=>
 if x2=true then
  Dr fu s i>>=fun x3=>
  slc s i x3>>=fun x4=>
  Yj fu x4>>=fun x5=>
  if x5=true then
   some ((K0.mk 2 x4 i),0)
  else
   if (decide (((x4).length:Int) > 12))=true then
    some ((K0.mk 0 x4 i),7)
   else
    some ((K0.mk 0 x4 i),0)
 else
  Xd fu (x1.toNat:Int)>>=fun x6=>
  if x6=true then
   Dr fu s i>>=fun x7=>
   slc s i x7>>=fun x8=>
   Kq fu x8>>=fun x9=>
   some ((K0.mk 1 x8 i),x9)
  else
   slc s i ((s).length:Int)>>=fun x10=>
   Av fu x10>>=fun x11=>
   if (x11 == [])=true then
    some ((K0.mk 3 x11 i),6)
   else
    some ((K0.mk 3 x11 i),0)
theorem Ys (fu:Nat)(s:Str)(i:Int):Le (Bv fu s i) (Ug s i):=by
 unfold Bv Ug
 repeat (first | exact Le.rfl | exact Pm fu _ | exact Q1b fu _ _ | exact Kt fu _ | exact Xj fu _ | exact K16 fu _ | exact U19 fu _ | exact A1 _ | refine Le.bind ?_ (fun _=>?_) | refine Le.ite ?_ ?_ | (rename_i x; cases x))
mutual
def Uc:Nat→Str→(List K0)→Int→Option (List K0×Int×Int)
 | 0,_,_,_=>none
 | fu+1,s,out,i=>
  if (decide (i < ((s).length:Int)))=true then
   idx s i>>=fun x1=>
   if ((x1.toNat:Int) == 32)=true then
    Aj fu s out i x1 ((x1.toNat:Int) == 32)
   else
    if ((x1.toNat:Int) == 9)=true then
     Aj fu s out i x1 ((x1.toNat:Int) == 9)
    else
     Aj fu s out i x1 ((x1.toNat:Int) == 10)
  else
   some (out,0,0)
def Aj:Nat→Str→(List K0)→Int→UInt8→Bool→Option (List K0×Int×Int)
 | 0,_,_,_,_,_=>none
 | fu+1,s,out1,i1,x1,v19=>
  if v19=true then
   Uc fu s out1 (IntKind.i64.wrap (i1+1))
  else
   if ((x1.toNat:Int) == 35)=true then
    Im fu s out1 i1
   else
    Bv fu s i1>>=fun x2=>
    if (x2.2 != 0)=true then
     some ([],i1,x2.2)
    else
     if (decide ((out1.length+1) * 33≤140737488355328))=true then
      Uc fu s (out1++[x2.1]) (IntKind.i64.wrap (i1+((x2.1.Text).length:Int)))
     else none
def Im:Nat→Str→(List K0)→Int→Option (List K0×Int×Int)
 | 0,_,_,_=>none
 | fu+1,s,out2,i2=>
  (if (decide (i2 < ((s).length:Int)))=true then idx s i2 else some default)>>=fun x3=>
  if (bif (decide (i2 < ((s).length:Int))) then ((x3.toNat:Int) != 10) else false)=true then
   Im fu s out2 (IntKind.i64.wrap (i2+1))
  else
   Uc fu s out2 i2
end
theorem L14 (fu:Nat):(∀ (s:Str) (out:List K0) (i:Int),Le (Uc fu s out i) (E4 s out i))∧(∀ (s:Str) (out1:List K0) (i1:Int) (x1:UInt8) (v19:Bool),Le (Aj fu s out1 i1 x1 v19) (Cd s out1 i1 x1 v19))∧(∀ (s:Str) (out2:List K0) (i2:Int),Le (Im fu s out2 i2) (V9 s out2 i2)):=by
 induction fu with
 | zero=>exact ⟨fun _ _ _=>Le.none,fun _ _ _ _ _=>Le.none,fun _ _ _=>Le.none⟩
 | succ fu ih=>
  obtain ⟨ih0,ih1,ih2⟩:=ih
  refine ⟨fun s out i=>?_,fun s out1 i1 x1 v19=>?_,fun s out2 i2=>?_⟩
  ·rw [Uc,E4]
   repeat (first | exact Le.rfl | exact ih0 _ _ _ | exact ih1 _ _ _ _ _ | exact ih2 _ _ _ | exact Ys fu _ _ | exact A1 _ | refine Le.bind ?_ (fun _=>?_) | refine Le.ite ?_ ?_ | (rename_i x; cases x))
  ·rw [Aj,Cd]
   repeat (first | exact Le.rfl | exact ih0 _ _ _ | exact ih1 _ _ _ _ _ | exact ih2 _ _ _ | exact Ys fu _ _ | exact A1 _ | refine Le.bind ?_ (fun _=>?_) | refine Le.ite ?_ ?_ | (rename_i x; cases x))
  ·rw [Im,V9]
   repeat (first | exact Le.rfl | exact ih0 _ _ _ | exact ih1 _ _ _ _ _ | exact ih2 _ _ _ | exact Ys fu _ _ | exact A1 _ | refine Le.bind ?_ (fun _=>?_) | refine Le.ite ?_ ?_ | (rename_i x; cases x))
theorem L16 (fu:Nat)(s:Str)(out:List K0)(i:Int):Le (Uc fu s out i) (E4 s out i):=(L14 fu).1 s out i
def Ww (fu:Nat)(s:Str):Option (List K0×Int×Int):=
 if (decide (((s).length:Int) > 8192))=true then
  some ([],0,5)
 else
  Uc fu s [] 0
theorem R1b (fu:Nat)(s:Str):Le (Ww fu s) (Ij s):=by
 unfold Ww Ij
 repeat (first | exact Le.rfl | exact L16 fu _ _ _ | exact A1 _ | refine Le.bind ?_ (fun _=>?_) | refine Le.ite ?_ ?_ | (rename_i x; cases x))
def Rl (fu:Nat)(text:Str)(parserParser:B0):Option Bool:=
 if (decide (parserParser.next≥((parserParser.tokens).length:Int)))=true then
  some false
 else
  idx parserParser.tokens parserParser.next>>=fun x1=>
  some (bif (x1.Text == text) then (bif (x1.Kind == 2) then true else (x1.Kind == 3)) else false)
theorem T10 (fu:Nat)(text:Str)(parserParser:B0):Le (Rl fu text parserParser) (M8 text parserParser):=by
 unfold Rl M8
 repeat (first | exact Le.rfl | exact A1 _ | refine Le.bind ?_ (fun _=>?_) | refine Le.ite ?_ ?_ | (rename_i x; cases x))
def J1 (fu:Nat)(text:Str)(parserParser:B0):Option (Bool×B0):=
 Rl fu text parserParser>>=fun x1=>
 if (!x1)=true then
  some (false,parserParser)
 else
  some (true,(B0.mk parserParser.tokens (IntKind.i64.wrap (parserParser.next+1)) parserParser.endV))
theorem G1 (fu:Nat)(text:Str)(parserParser:B0):Le (J1 fu text parserParser) (O0 text parserParser):=by
 unfold J1 O0
 repeat (first | exact Le.rfl | exact T10 fu _ _ | exact A1 _ | refine Le.bind ?_ (fun _=>?_) | refine Le.ite ?_ ?_ | (rename_i x; cases x))
def Qh (fu:Nat)(parserParser:B0):Option Bool:=
 (if (decide (parserParser.next < ((parserParser.tokens).length:Int)))=true then idx parserParser.tokens parserParser.next else some default)>>=fun x1=>
 some (bif (decide (parserParser.next < ((parserParser.tokens).length:Int))) then (x1.Kind == 0) else false)
theorem O1 (fu:Nat)(parserParser:B0):Le (Qh fu parserParser) (B5 parserParser):=by
 unfold Qh B5
 repeat (first | exact Le.rfl | exact A1 _ | refine Le.bind ?_ (fun _=>?_) | refine Le.ite ?_ ?_ | (rename_i x; cases x))
def Qb (fu:Nat)(parserParser:B0):Option (Pn Unit):=
 if (decide (parserParser.next < ((parserParser.tokens).length:Int)))=true then
  idx parserParser.tokens parserParser.next>>=fun x1=>
  some (.pn x1.At)
 else
  some (.pn parserParser.endV)
theorem Bj (fu:Nat)(parserParser:B0):Le (Qb fu parserParser) (I5 parserParser):=by
 unfold Qb I5
 repeat (first | exact Le.rfl | exact A1 _ | refine Le.bind ?_ (fun _=>?_) | refine Le.ite ?_ ?_ | (rename_i x; cases x))
def Bc (fu:Nat)(parserParser:B0):Option (Pn (Str×B0)):=
 idx parserParser.tokens (IntKind.i64.wrap ((IntKind.i64.wrap (parserParser.next+1)) - 1))>>=fun x3=>
 some (.ok (x3.Text,(B0.mk parserParser.tokens (IntKind.i64.wrap (parserParser.next+1)) parserParser.endV)))
theorem Cv (fu:Nat)(parserParser:B0):Le (Bc fu parserParser) (V6 parserParser):=by
 unfold Bc V6
 repeat (first | exact Le.rfl | exact A1 _ | refine Le.bind ?_ (fun _=>?_) | refine Le.ite ?_ ?_ | (rename_i x; cases x))
def Ue (fu:Nat)(k:Int)(parserParser:B0):Option (Pn (Str×B0)):=
 (if (!(decide (parserParser.next≥((parserParser.tokens).length:Int))))=true then idx parserParser.tokens parserParser.next else some default)>>=fun x1=>
 if (bif (decide (parserParser.next≥((parserParser.tokens).length:Int))) then true else (x1.Kind != k))=true then
  Qb fu parserParser>>=fun x2=>match x2 with
  | .pn nn=>
  some (.pn nn)
  | .ok x2=>
  Bc fu parserParser
 else
  Bc fu parserParser
theorem Zn (fu:Nat)(k:Int)(parserParser:B0):Le (Ue fu k parserParser) (C7 k parserParser):=by
 unfold Ue C7
 repeat (first | exact Le.rfl | exact Bj fu _ | exact Cv fu _ | exact A1 _ | refine Le.bind ?_ (fun _=>?_) | refine Le.ite ?_ ?_ | (rename_i x; cases x))
def Ve (fu:Nat)(parserParser:B0):Option (Pn (Str×B0)):=
 Ue fu 0 parserParser>>=fun x1=>match x1 with
 | .pn nn=>
 some (.pn nn)
 | .ok x1=>
 some (.ok (x1.1,x1.2))
theorem U1 (fu:Nat)(parserParser:B0):Le (Ve fu parserParser) (V2 parserParser):=by
 unfold Ve V2
 repeat (first | exact Le.rfl | exact Zn fu _ _ | exact A1 _ | refine Le.bind ?_ (fun _=>?_) | refine Le.ite ?_ ?_ | (rename_i x; cases x))
def G6 (fu:Nat)(text:Str)(parserParser:B0):Option (Pn B0):=
 J1 fu text parserParser>>=fun x1=>
 if (!x1.1)=true then
  Qb fu x1.2>>=fun x2=>match x2 with
  | .pn nn=>
  some (.pn nn)
  | .ok x2=>
  some (.ok x1.2)
 else
  some (.ok x1.2)
theorem V1 (fu:Nat)(text:Str)(parserParser:B0):Le (G6 fu text parserParser) (R0 text parserParser):=by
 unfold G6 R0
 repeat (first | exact Le.rfl | exact G1 fu _ _ | exact Bj fu _ | exact A1 _ | refine Le.bind ?_ (fun _=>?_) | refine Le.ite ?_ ?_ | (rename_i x; cases x))
def Rh (fu:Nat)(parserParser:B0):Option (Pn (Int×B0)):=
 Ue fu 1 parserParser>>=fun x1=>match x1 with
 | .pn nn=>
 some (.pn nn)
 | .ok x1=>
 Sx x1.1>>=fun x2=>
 some (.ok (x2,x1.2))
theorem P1 (fu:Nat)(parserParser:B0):Le (Rh fu parserParser) (C5 parserParser):=by
 unfold Rh C5
 repeat (first | exact Le.rfl | exact Zn fu _ _ | exact A1 _ | refine Le.bind ?_ (fun _=>?_) | refine Le.ite ?_ ?_ | (rename_i x; cases x))
def We (fu:Nat)(parserParser:B0):Option (Int×Bool×B0):=
 J1 fu [42] parserParser>>=fun x1=>
 if x1.1=true then
  some (10,true,x1.2)
 else
  J1 fu [47] x1.2>>=fun x2=>
  if x2.1=true then
   some (11,true,x2.2)
  else
   J1 fu [37] x2.2>>=fun x3=>
   some (12,x3.1,x3.2)
theorem I1 (fu:Nat)(parserParser:B0):Le (We fu parserParser) (X5 parserParser):=by
 unfold We X5
 repeat (first | exact Le.rfl | exact G1 fu _ _ | exact A1 _ | refine Le.bind ?_ (fun _=>?_) | refine Le.ite ?_ ?_ | (rename_i x; cases x))
def Cj (fu:Nat)(parserParser:B0):Option (Int×Bool×B0):=
 J1 fu [43] parserParser>>=fun x1=>
 if x1.1=true then
  some (8,true,x1.2)
 else
  J1 fu [45] x1.2>>=fun x2=>
  some (9,x2.1,x2.2)
theorem R1 (fu:Nat)(parserParser:B0):Le (Cj fu parserParser) (V7 parserParser):=by
 unfold Cj V7
 repeat (first | exact Le.rfl | exact G1 fu _ _ | exact A1 _ | refine Le.bind ?_ (fun _=>?_) | refine Le.ite ?_ ?_ | (rename_i x; cases x))
def Dj (fu:Nat)(parserParser:B0):Option (Int×Bool×B0):=
 J1 fu [38,38] parserParser>>=fun x1=>
 some (19,x1.1,x1.2)
theorem T1 (fu:Nat)(parserParser:B0):Le (Dj fu parserParser) (W7 parserParser):=by
 unfold Dj W7
 repeat (first | exact Le.rfl | exact G1 fu _ _ | exact A1 _ | refine Le.bind ?_ (fun _=>?_) | refine Le.ite ?_ ?_ | (rename_i x; cases x))
def Zj (fu:Nat)(parserParser:B0):Option (Int×Bool×B0):=
 J1 fu [124,124] parserParser>>=fun x1=>
 some (20,x1.1,x1.2)
theorem W1 (fu:Nat)(parserParser:B0):Le (Zj fu parserParser) (N8 parserParser):=by
 unfold Zj N8
 repeat (first | exact Le.rfl | exact G1 fu _ _ | exact A1 _ | refine Le.bind ?_ (fun _=>?_) | refine Le.ite ?_ ?_ | (rename_i x; cases x))
mutual
def B3:Nat→B0→Option (Pn (A0×B0))
 | 0,_=>none
 | fu+1,parserParser=>
  Sl fu parserParser>>=fun x1=>match x1 with
  | .pn nn=>
  some (.pn nn)
  | .ok x1=>
  J1 fu [63] x1.2>>=fun x2=>
  if (!x2.1)=true then
   some (.ok (x1.1,x2.2))
  else
   B3 fu x2.2>>=fun x3=>match x3 with
   | .pn nn=>
   some (.pn nn)
   | .ok x3=>
   G6 fu [58] x3.2>>=fun x4=>match x4 with
   | .pn nn=>
   some (.pn nn)
   | .ok x4=>
   B3 fu x4>>=fun x5=>match x5 with
   | .pn nn=>
   some (.pn nn)
   | .ok x5=>
   some (.ok ((A0.mk 23 0 [] [x1.1,x3.1,x5.1]),x5.2))
def Sl:Nat→B0→Option (Pn (A0×B0))
 | 0,_=>none
 | fu+1,parserParser=>
  Ej fu parserParser>>=fun x1=>match x1 with
  | .pn nn=>
  some (.pn nn)
  | .ok x1=>
  some (.ok (x1.1,x1.2))
def Ej:Nat→B0→Option (Pn (A0×B0))
 | 0,_=>none
 | fu+1,parserParser=>
  Kg fu parserParser>>=fun x1=>match x1 with
  | .pn nn=>
  some (.pn nn)
  | .ok x1=>
  Rb fu x1.2 x1.1
def Kg:Nat→B0→Option (Pn (A0×B0))
 | 0,_=>none
 | fu+1,parserParser=>
  Cg fu parserParser>>=fun x1=>match x1 with
  | .pn nn=>
  some (.pn nn)
  | .ok x1=>
  some (.ok (x1.1,x1.2))
def Cg:Nat→B0→Option (Pn (A0×B0))
 | 0,_=>none
 | fu+1,parserParser=>
  Ha fu parserParser>>=fun x1=>match x1 with
  | .pn nn=>
  some (.pn nn)
  | .ok x1=>
  T9 fu x1.2 x1.1
def Ha:Nat→B0→Option (Pn (A0×B0))
 | 0,_=>none
 | fu+1,parserParser=>
  Lg fu parserParser>>=fun x1=>match x1 with
  | .pn nn=>
  some (.pn nn)
  | .ok x1=>
  J1 fu [61,61] x1.2>>=fun x2=>
  if x2.1=true then
   M3 fu x2.2 x1 13
  else
   J1 fu [33,61] x2.2>>=fun x4=>
   if x4.1=true then
    M3 fu x4.2 x1 14
   else
    J1 fu [60] x4.2>>=fun x5=>
    if x5.1=true then
     M3 fu x5.2 x1 15
    else
     J1 fu [60,61] x5.2>>=fun x6=>
     if x6.1=true then
      M3 fu x6.2 x1 16
     else
      J1 fu [62] x6.2>>=fun x7=>
      if x7.1=true then
       M3 fu x7.2 x1 17
      else
       J1 fu [62,61] x7.2>>=fun x8=>
       if x8.1=true then
        M3 fu x8.2 x1 18
       else
        some (.ok (x1.1,x8.2))
def Lg:Nat→B0→Option (Pn (A0×B0))
 | 0,_=>none
 | fu+1,parserParser=>
  Dg fu parserParser>>=fun x1=>match x1 with
  | .pn nn=>
  some (.pn nn)
  | .ok x1=>
  some (.ok (x1.1,x1.2))
def Dg:Nat→B0→Option (Pn (A0×B0))
 | 0,_=>none
 | fu+1,parserParser=>
  Cc fu parserParser>>=fun x1=>match x1 with
  | .pn nn=>
  some (.pn nn)
  | .ok x1=>
  S9 fu x1.2 x1.1
def Cc:Nat→B0→Option (Pn (A0×B0))
 | 0,_=>none
 | fu+1,parserParser=>
  Eg fu parserParser>>=fun x1=>match x1 with
  | .pn nn=>
  some (.pn nn)
  | .ok x1=>
  some (.ok (x1.1,x1.2))
def Eg:Nat→B0→Option (Pn (A0×B0))
 | 0,_=>none
 | fu+1,parserParser=>
  H8 fu parserParser>>=fun x1=>match x1 with
  | .pn nn=>
  some (.pn nn)
  | .ok x1=>
  R9 fu x1.2 x1.1
def H8:Nat→B0→Option (Pn (A0×B0))
 | 0,_=>none
 | fu+1,parserParser=>
  J1 fu [45] parserParser>>=fun x1=>
  if x1.1=true then
   H8 fu x1.2>>=fun x4=>match x4 with
   | .pn nn=>
   some (.pn nn)
   | .ok x4=>
   some (.ok ((A0.mk 6 0 [] [x4.1]),x4.2))
  else
   J1 fu [33] x1.2>>=fun x2=>
   if x2.1=true then
    H8 fu x2.2>>=fun x5=>match x5 with
    | .pn nn=>
    some (.pn nn)
    | .ok x5=>
    some (.ok ((A0.mk 7 0 [] [x5.1]),x5.2))
   else
    Og fu x2.2>>=fun x3=>match x3 with
    | .pn nn=>
    some (.pn nn)
    | .ok x3=>
    some (.ok (x3.1,x3.2))
def Og:Nat→B0→Option (Pn (A0×B0))
 | 0,_=>none
 | fu+1,parserParser=>
  Qh fu parserParser>>=fun x1=>
  if x1=true then
   Fj fu parserParser>>=fun x2=>match x2 with
   | .pn nn=>
   some (.pn nn)
   | .ok x2=>
   some (.ok (x2.1,x2.2))
  else
   J1 fu [116,114,117,101] parserParser>>=fun x3=>
   if x3.1=true then
    some (.ok ((A0.mk 1 0 [] []),x3.2))
   else
    J1 fu [102,97,108,115,101] x3.2>>=fun x4=>
    if x4.1=true then
     some (.ok ((A0.mk 2 0 [] []),x4.2))
    else
     J1 fu [109,105,110] x4.2>>=fun x5=>
     if x5.1=true then
      Xe fu 21 x5.2>>=fun x11=>match x11 with
      | .pn nn=>
      some (.pn nn)
      | .ok x11=>
      some (.ok (x11.1,x11.2))
     else
      J1 fu [109,97,120] x5.2>>=fun x6=>
      if x6.1=true then
       Xe fu 22 x6.2>>=fun x12=>match x12 with
       | .pn nn=>
       some (.pn nn)
       | .ok x12=>
       some (.ok (x12.1,x12.2))
      else
       J1 fu [40] x6.2>>=fun x7=>
       if x7.1=true then
        B3 fu x7.2>>=fun x9=>match x9 with
        | .pn nn=>
        some (.pn nn)
        | .ok x9=>
        G6 fu [41] x9.2>>=fun x10=>match x10 with
        | .pn nn=>
        some (.pn nn)
        | .ok x10=>
        some (.ok (x9.1,x10))
       else
        Rh fu x7.2>>=fun x8=>match x8 with
        | .pn nn=>
        some (.pn nn)
        | .ok x8=>
        some (.ok ((A0.mk 0 x8.1 [] []),x8.2))
def Fj:Nat→B0→Option (Pn (A0×B0))
 | 0,_=>none
 | fu+1,parserParser=>
  Ve fu parserParser>>=fun x1=>match x1 with
  | .pn nn=>
  some (.pn nn)
  | .ok x1=>
  W8 fu x1.2 3 x1.1 []
def W8:Nat→B0→Int→Str→(List A0)→Option (Pn (A0×B0))
 | 0,_,_,_,_=>none
 | fu+1,o0,o2_Op,o2_Name,o2_Kids=>
  J1 fu [46] o0>>=fun x2=>
  if x2.1=true then
   Ve fu x2.2>>=fun x3=>match x3 with
   | .pn nn=>
   some (.pn nn)
   | .ok x3=>
   W8 fu x3.2 4 x3.1 [(A0.mk o2_Op 0 o2_Name o2_Kids)]
  else
   J1 fu [91] x2.2>>=fun x4=>
   if x4.1=true then
    B3 fu x4.2>>=fun x5=>match x5 with
    | .pn nn=>
    some (.pn nn)
    | .ok x5=>
    G6 fu [93] x5.2>>=fun x6=>match x6 with
    | .pn nn=>
    some (.pn nn)
    | .ok x6=>
    W8 fu x6 5 [] [(A0.mk o2_Op 0 o2_Name o2_Kids),x5.1]
   else
    some (.ok ((A0.mk o2_Op 0 o2_Name o2_Kids),x4.2))
def Xe:Nat→Int→B0→Option (Pn (A0×B0))
 | 0,_,_=>none
 | fu+1,op,parserParser=>
  G6 fu [40] parserParser>>=fun x1=>match x1 with
  | .pn nn=>
  some (.pn nn)
  | .ok x1=>
  B3 fu x1>>=fun x2=>match x2 with
  | .pn nn=>
  some (.pn nn)
  | .ok x2=>
  G6 fu [44] x2.2>>=fun x3=>match x3 with
  | .pn nn=>
  some (.pn nn)
  | .ok x3=>
  B3 fu x3>>=fun x4=>match x4 with
  | .pn nn=>
  some (.pn nn)
  | .ok x4=>
  G6 fu [41] x4.2>>=fun x5=>match x5 with
  | .pn nn=>
  some (.pn nn)
  | .ok x5=>
  some (.ok ((A0.mk op 0 [] [x2.1,x4.1]),x5))
def R9:Nat→B0→A0→Option (Pn (A0×B0))
 | 0,_,_=>none
 | fu+1,o0,o3=>
  We fu o0>>=fun x2=>
  if (!x2.2.1)=true then
   some (.ok (o3,x2.2.2))
  else
   H8 fu x2.2.2>>=fun x3=>match x3 with
   | .pn nn=>
   some (.pn nn)
   | .ok x3=>
   R9 fu x3.2 (A0.mk x2.1 0 [] [o3,x3.1])
def S9:Nat→B0→A0→Option (Pn (A0×B0))
 | 0,_,_=>none
 | fu+1,o0,o3=>
  Cj fu o0>>=fun x2=>
  if (!x2.2.1)=true then
   some (.ok (o3,x2.2.2))
  else
   Cc fu x2.2.2>>=fun x3=>match x3 with
   | .pn nn=>
   some (.pn nn)
   | .ok x3=>
   S9 fu x3.2 (A0.mk x2.1 0 [] [o3,x3.1])
def M3:Nat→B0→(A0×B0)→Int→Option (Pn (A0×B0))
 | 0,_,_,_=>none
 | fu+1,o0,x1,op=>
  Lg fu o0>>=fun x3=>match x3 with
  | .pn nn=>
  some (.pn nn)
  | .ok x3=>
  some (.ok ((A0.mk op 0 [] [x1.1,x3.1]),x3.2))
def T9:Nat→B0→A0→Option (Pn (A0×B0))
 | 0,_,_=>none
 | fu+1,o0,o3=>
  Dj fu o0>>=fun x2=>
  if (!x2.2.1)=true then
   some (.ok (o3,x2.2.2))
  else
   Ha fu x2.2.2>>=fun x3=>match x3 with
   | .pn nn=>
   some (.pn nn)
   | .ok x3=>
   T9 fu x3.2 (A0.mk x2.1 0 [] [o3,x3.1])
def Rb:Nat→B0→A0→Option (Pn (A0×B0))
 | 0,_,_=>none
 | fu+1,o0,o3=>
  Zj fu o0>>=fun x2=>
  if (!x2.2.1)=true then
   some (.ok (o3,x2.2.2))
  else
   Kg fu x2.2.2>>=fun x3=>match x3 with
   | .pn nn=>
   some (.pn nn)
   | .ok x3=>
   Rb fu x3.2 (A0.mk x2.1 0 [] [o3,x3.1])
end
theorem Lq (fu:Nat):(∀ (parserParser:B0),Le (B3 fu parserParser) (D1 parserParser))∧(∀ (parserParser:B0),Le (Sl fu parserParser) (O8 parserParser))∧(∀ (parserParser:B0),Le (Ej fu parserParser) (Hc parserParser))∧(∀ (parserParser:B0),Le (Kg fu parserParser) (O6 parserParser))∧(∀ (parserParser:B0),Le (Cg fu parserParser) (W9 parserParser))∧(∀ (parserParser:B0),Le (Ha fu parserParser) (X3 parserParser))∧(∀ (parserParser:B0),Le (Lg fu parserParser) (V5 parserParser))∧(∀ (parserParser:B0),Le (Dg fu parserParser) (X9 parserParser))∧(∀ (parserParser:B0),Le (Cc fu parserParser) (S4 parserParser))∧(∀ (parserParser:B0),Le (Eg fu parserParser) (Y9 parserParser))∧(∀ (parserParser:B0),Le (H8 fu parserParser) (U3 parserParser))∧(∀ (parserParser:B0),Le (Og fu parserParser) (D8 parserParser))∧(∀ (parserParser:B0),Le (Fj fu parserParser) (K6 parserParser))∧(∀ (o0:B0) (o2_Op:Int) (o2_Name:Str) (o2_Kids:List A0),Le (W8 fu o0 o2_Op o2_Name o2_Kids) (I4 o0 o2_Op o2_Name o2_Kids))∧(∀ (op:Int) (parserParser:B0),Le (Xe fu op parserParser) (P8 op parserParser))∧(∀ (o0:B0) (o3:A0),Le (R9 fu o0 o3) (E3 o0 o3))∧(∀ (o0:B0) (o3:A0),Le (S9 fu o0 o3) (D3 o0 o3))∧(∀ (o0:B0) (x1:A0×B0) (op:Int),Le (M3 fu o0 x1 op) (N1 o0 x1 op))∧(∀ (o0:B0) (o3:A0),Le (T9 fu o0 o3) (C3 o0 o3))∧(∀ (o0:B0) (o3:A0),Le (Rb fu o0 o3) (W3 o0 o3)):=by
 induction fu with
 | zero=>exact ⟨fun _=>Le.none,fun _=>Le.none,fun _=>Le.none,fun _=>Le.none,fun _=>Le.none,fun _=>Le.none,fun _=>Le.none,fun _=>Le.none,fun _=>Le.none,fun _=>Le.none,fun _=>Le.none,fun _=>Le.none,fun _=>Le.none,fun _ _ _ _=>Le.none,fun _ _=>Le.none,fun _ _=>Le.none,fun _ _=>Le.none,fun _ _ _=>Le.none,fun _ _=>Le.none,fun _ _=>Le.none⟩
 | succ fu ih=>
  obtain ⟨ih0,ih1,ih2,ih3,ih4,ih5,ih6,ih7,ih8,ih9,ih10,ih11,ih12,ih13,ih14,ih15,ih16,ih17,ih18,ih19⟩:=ih
  refine ⟨fun parserParser=>?_,fun parserParser=>?_,fun parserParser=>?_,fun parserParser=>?_,fun parserParser=>?_,fun parserParser=>?_,fun parserParser=>?_,fun parserParser=>?_,fun parserParser=>?_,fun parserParser=>?_,fun parserParser=>?_,fun parserParser=>?_,fun parserParser=>?_,fun o0 o2_Op o2_Name o2_Kids=>?_,fun op parserParser=>?_,fun o0 o3=>?_,fun o0 o3=>?_,fun o0 x1 op=>?_,fun o0 o3=>?_,fun o0 o3=>?_⟩
  ·rw [B3,D1]
   repeat (first | exact Le.rfl | exact ih0 _ | exact ih1 _ | exact ih2 _ | exact ih3 _ | exact ih4 _ | exact ih5 _ | exact ih6 _ | exact ih7 _ | exact ih8 _ | exact ih9 _ | exact ih10 _ | exact ih11 _ | exact ih12 _ | exact ih13 _ _ _ _ | exact ih14 _ _ | exact ih15 _ _ | exact ih16 _ _ | exact ih17 _ _ _ | exact ih18 _ _ | exact ih19 _ _ | exact G1 fu _ _ | exact V1 fu _ _ | exact O1 fu _ | exact P1 fu _ | exact U1 fu _ | exact I1 fu _ | exact R1 fu _ | exact T1 fu _ | exact W1 fu _ | exact A1 _ | refine Le.bind ?_ (fun _=>?_) | refine Le.ite ?_ ?_ | (rename_i x; cases x))
  ·rw [Sl,O8]
   repeat (first | exact Le.rfl | exact ih0 _ | exact ih1 _ | exact ih2 _ | exact ih3 _ | exact ih4 _ | exact ih5 _ | exact ih6 _ | exact ih7 _ | exact ih8 _ | exact ih9 _ | exact ih10 _ | exact ih11 _ | exact ih12 _ | exact ih13 _ _ _ _ | exact ih14 _ _ | exact ih15 _ _ | exact ih16 _ _ | exact ih17 _ _ _ | exact ih18 _ _ | exact ih19 _ _ | exact G1 fu _ _ | exact V1 fu _ _ | exact O1 fu _ | exact P1 fu _ | exact U1 fu _ | exact I1 fu _ | exact R1 fu _ | exact T1 fu _ | exact W1 fu _ | exact A1 _ | refine Le.bind ?_ (fun _=>?_) | refine Le.ite ?_ ?_ | (rename_i x; cases x))
  ·rw [Ej,Hc]
   repeat (first | exact Le.rfl | exact ih0 _ | exact ih1 _ | exact ih2 _ | exact ih3 _ | exact ih4 _ | exact ih5 _ | exact ih6 _ | exact ih7 _ | exact ih8 _ | exact ih9 _ | exact ih10 _ | exact ih11 _ | exact ih12 _ | exact ih13 _ _ _ _ | exact ih14 _ _ | exact ih15 _ _ | exact ih16 _ _ | exact ih17 _ _ _ | exact ih18 _ _ | exact ih19 _ _ | exact G1 fu _ _ | exact V1 fu _ _ | exact O1 fu _ | exact P1 fu _ | exact U1 fu _ | exact I1 fu _ | exact R1 fu _ | exact T1 fu _ | exact W1 fu _ | exact A1 _ | refine Le.bind ?_ (fun _=>?_) | refine Le.ite ?_ ?_ | (rename_i x; cases x))
  ·rw [Kg,O6]
   repeat (first | exact Le.rfl | exact ih0 _ | exact ih1 _ | exact ih2 _ | exact ih3 _ | exact ih4 _ | exact ih5 _ | exact ih6 _ | exact ih7 _ | exact ih8 _ | exact ih9 _ | exact ih10 _ | exact ih11 _ | exact ih12 _ | exact ih13 _ _ _ _ | exact ih14 _ _ | exact ih15 _ _ | exact ih16 _ _ | exact ih17 _ _ _ | exact ih18 _ _ | exact ih19 _ _ | exact G1 fu _ _ | exact V1 fu _ _ | exact O1 fu _ | exact P1 fu _ | exact U1 fu _ | exact I1 fu _ | exact R1 fu _ | exact T1 fu _ | exact W1 fu _ | exact A1 _ | refine Le.bind ?_ (fun _=>?_) | refine Le.ite ?_ ?_ | (rename_i x; cases x))
  ·rw [Cg,W9]
   repeat (first | exact Le.rfl | exact ih0 _ | exact ih1 _ | exact ih2 _ | exact ih3 _ | exact ih4 _ | exact ih5 _ | exact ih6 _ | exact ih7 _ | exact ih8 _ | exact ih9 _ | exact ih10 _ | exact ih11 _ | exact ih12 _ | exact ih13 _ _ _ _ | exact ih14 _ _ | exact ih15 _ _ | exact ih16 _ _ | exact ih17 _ _ _ | exact ih18 _ _ | exact ih19 _ _ | exact G1 fu _ _ | exact V1 fu _ _ | exact O1 fu _ | exact P1 fu _ | exact U1 fu _ | exact I1 fu _ | exact R1 fu _ | exact T1 fu _ | exact W1 fu _ | exact A1 _ | refine Le.bind ?_ (fun _=>?_) | refine Le.ite ?_ ?_ | (rename_i x; cases x))
  ·rw [Ha,X3]
   repeat (first | exact Le.rfl | exact ih0 _ | exact ih1 _ | exact ih2 _ | exact ih3 _ | exact ih4 _ | exact ih5 _ | exact ih6 _ | exact ih7 _ | exact ih8 _ | exact ih9 _ | exact ih10 _ | exact ih11 _ | exact ih12 _ | exact ih13 _ _ _ _ | exact ih14 _ _ | exact ih15 _ _ | exact ih16 _ _ | exact ih17 _ _ _ | exact ih18 _ _ | exact ih19 _ _ | exact G1 fu _ _ | exact V1 fu _ _ | exact O1 fu _ | exact P1 fu _ | exact U1 fu _ | exact I1 fu _ | exact R1 fu _ | exact T1 fu _ | exact W1 fu _ | exact A1 _ | refine Le.bind ?_ (fun _=>?_) | refine Le.ite ?_ ?_ | (rename_i x; cases x))
  ·rw [Lg,V5]
   repeat (first | exact Le.rfl | exact ih0 _ | exact ih1 _ | exact ih2 _ | exact ih3 _ | exact ih4 _ | exact ih5 _ | exact ih6 _ | exact ih7 _ | exact ih8 _ | exact ih9 _ | exact ih10 _ | exact ih11 _ | exact ih12 _ | exact ih13 _ _ _ _ | exact ih14 _ _ | exact ih15 _ _ | exact ih16 _ _ | exact ih17 _ _ _ | exact ih18 _ _ | exact ih19 _ _ | exact G1 fu _ _ | exact V1 fu _ _ | exact O1 fu _ | exact P1 fu _ | exact U1 fu _ | exact I1 fu _ | exact R1 fu _ | exact T1 fu _ | exact W1 fu _ | exact A1 _ | refine Le.bind ?_ (fun _=>?_) | refine Le.ite ?_ ?_ | (rename_i x; cases x))
  ·rw [Dg,X9]
   repeat (first | exact Le.rfl | exact ih0 _ | exact ih1 _ | exact ih2 _ | exact ih3 _ | exact ih4 _ | exact ih5 _ | exact ih6 _ | exact ih7 _ | exact ih8 _ | exact ih9 _ | exact ih10 _ | exact ih11 _ | exact ih12 _ | exact ih13 _ _ _ _ | exact ih14 _ _ | exact ih15 _ _ | exact ih16 _ _ | exact ih17 _ _ _ | exact ih18 _ _ | exact ih19 _ _ | exact G1 fu _ _ | exact V1 fu _ _ | exact O1 fu _ | exact P1 fu _ | exact U1 fu _ | exact I1 fu _ | exact R1 fu _ | exact T1 fu _ | exact W1 fu _ | exact A1 _ | refine Le.bind ?_ (fun _=>?_) | refine Le.ite ?_ ?_ | (rename_i x; cases x))
  ·rw [Cc,S4]
   repeat (first | exact Le.rfl | exact ih0 _ | exact ih1 _ | exact ih2 _ | exact ih3 _ | exact ih4 _ | exact ih5 _ | exact ih6 _ | exact ih7 _ | exact ih8 _ | exact ih9 _ | exact ih10 _ | exact ih11 _ | exact ih12 _ | exact ih13 _ _ _ _ | exact ih14 _ _ | exact ih15 _ _ | exact ih16 _ _ | exact ih17 _ _ _ | exact ih18 _ _ | exact ih19 _ _ | exact G1 fu _ _ | exact V1 fu _ _ | exact O1 fu _ | exact P1 fu _ | exact U1 fu _ | exact I1 fu _ | exact R1 fu _ | exact T1 fu _ | exact W1 fu _ | exact A1 _ | refine Le.bind ?_ (fun _=>?_) | refine Le.ite ?_ ?_ | (rename_i x; cases x))
  ·rw [Eg,Y9]
   repeat (first | exact Le.rfl | exact ih0 _ | exact ih1 _ | exact ih2 _ | exact ih3 _ | exact ih4 _ | exact ih5 _ | exact ih6 _ | exact ih7 _ | exact ih8 _ | exact ih9 _ | exact ih10 _ | exact ih11 _ | exact ih12 _ | exact ih13 _ _ _ _ | exact ih14 _ _ | exact ih15 _ _ | exact ih16 _ _ | exact ih17 _ _ _ | exact ih18 _ _ | exact ih19 _ _ | exact G1 fu _ _ | exact V1 fu _ _ | exact O1 fu _ | exact P1 fu _ | exact U1 fu _ | exact I1 fu _ | exact R1 fu _ | exact T1 fu _ | exact W1 fu _ | exact A1 _ | refine Le.bind ?_ (fun _=>?_) | refine Le.ite ?_ ?_ | (rename_i x; cases x))
  ·rw [H8,U3]
   repeat (first | exact Le.rfl | exact ih0 _ | exact ih1 _ | exact ih2 _ | exact ih3 _ | exact ih4 _ | exact ih5 _ | exact ih6 _ | exact ih7 _ | exact ih8 _ | exact ih9 _ | exact ih10 _ | exact ih11 _ | exact ih12 _ | exact ih13 _ _ _ _ | exact ih14 _ _ | exact ih15 _ _ | exact ih16 _ _ | exact ih17 _ _ _ | exact ih18 _ _ | exact ih19 _ _ | exact G1 fu _ _ | exact V1 fu _ _ | exact O1 fu _ | exact P1 fu _ | exact U1 fu _ | exact I1 fu _ | exact R1 fu _ | exact T1 fu _ | exact W1 fu _ | exact A1 _ | refine Le.bind ?_ (fun _=>?_) | refine Le.ite ?_ ?_ | (rename_i x; cases x))
  ·rw [Og,D8]
   repeat (first | exact Le.rfl | exact ih0 _ | exact ih1 _ | exact ih2 _ | exact ih3 _ | exact ih4 _ | exact ih5 _ | exact ih6 _ | exact ih7 _ | exact ih8 _ | exact ih9 _ | exact ih10 _ | exact ih11 _ | exact ih12 _ | exact ih13 _ _ _ _ | exact ih14 _ _ | exact ih15 _ _ | exact ih16 _ _ | exact ih17 _ _ _ | exact ih18 _ _ | exact ih19 _ _ | exact G1 fu _ _ | exact V1 fu _ _ | exact O1 fu _ | exact P1 fu _ | exact U1 fu _ | exact I1 fu _ | exact R1 fu _ | exact T1 fu _ | exact W1 fu _ | exact A1 _ | refine Le.bind ?_ (fun _=>?_) | refine Le.ite ?_ ?_ | (rename_i x; cases x))
  ·rw [Fj,K6]
   repeat (first | exact Le.rfl | exact ih0 _ | exact ih1 _ | exact ih2 _ | exact ih3 _ | exact ih4 _ | exact ih5 _ | exact ih6 _ | exact ih7 _ | exact ih8 _ | exact ih9 _ | exact ih10 _ | exact ih11 _ | exact ih12 _ | exact ih13 _ _ _ _ | exact ih14 _ _ | exact ih15 _ _ | exact ih16 _ _ | exact ih17 _ _ _ | exact ih18 _ _ | exact ih19 _ _ | exact G1 fu _ _ | exact V1 fu _ _ | exact O1 fu _ | exact P1 fu _ | exact U1 fu _ | exact I1 fu _ | exact R1 fu _ | exact T1 fu _ | exact W1 fu _ | exact A1 _ | refine Le.bind ?_ (fun _=>?_) | refine Le.ite ?_ ?_ | (rename_i x; cases x))
  ·rw [W8,I4]
   repeat (first | exact Le.rfl | exact ih0 _ | exact ih1 _ | exact ih2 _ | exact ih3 _ | exact ih4 _ | exact ih5 _ | exact ih6 _ | exact ih7 _ | exact ih8 _ | exact ih9 _ | exact ih10 _ | exact ih11 _ | exact ih12 _ | exact ih13 _ _ _ _ | exact ih14 _ _ | exact ih15 _ _ | exact ih16 _ _ | exact ih17 _ _ _ | exact ih18 _ _ | exact ih19 _ _ | exact G1 fu _ _ | exact V1 fu _ _ | exact O1 fu _ | exact P1 fu _ | exact U1 fu _ | exact I1 fu _ | exact R1 fu _ | exact T1 fu _ | exact W1 fu _ | exact A1 _ | refine Le.bind ?_ (fun _=>?_) | refine Le.ite ?_ ?_ | (rename_i x; cases x))
  ·rw [Xe,P8]
   repeat (first | exact Le.rfl | exact ih0 _ | exact ih1 _ | exact ih2 _ | exact ih3 _ | exact ih4 _ | exact ih5 _ | exact ih6 _ | exact ih7 _ | exact ih8 _ | exact ih9 _ | exact ih10 _ | exact ih11 _ | exact ih12 _ | exact ih13 _ _ _ _ | exact ih14 _ _ | exact ih15 _ _ | exact ih16 _ _ | exact ih17 _ _ _ | exact ih18 _ _ | exact ih19 _ _ | exact G1 fu _ _ | exact V1 fu _ _ | exact O1 fu _ | exact P1 fu _ | exact U1 fu _ | exact I1 fu _ | exact R1 fu _ | exact T1 fu _ | exact W1 fu _ | exact A1 _ | refine Le.bind ?_ (fun _=>?_) | refine Le.ite ?_ ?_ | (rename_i x; cases x))
  ·rw [R9,E3]
   repeat (first | exact Le.rfl | exact ih0 _ | exact ih1 _ | exact ih2 _ | exact ih3 _ | exact ih4 _ | exact ih5 _ | exact ih6 _ | exact ih7 _ | exact ih8 _ | exact ih9 _ | exact ih10 _ | exact ih11 _ | exact ih12 _ | exact ih13 _ _ _ _ | exact ih14 _ _ | exact ih15 _ _ | exact ih16 _ _ | exact ih17 _ _ _ | exact ih18 _ _ | exact ih19 _ _ | exact G1 fu _ _ | exact V1 fu _ _ | exact O1 fu _ | exact P1 fu _ | exact U1 fu _ | exact I1 fu _ | exact R1 fu _ | exact T1 fu _ | exact W1 fu _ | exact A1 _ | refine Le.bind ?_ (fun _=>?_) | refine Le.ite ?_ ?_ | (rename_i x; cases x))
  ·rw [S9,D3]
   repeat (first | exact Le.rfl | exact ih0 _ | exact ih1 _ | exact ih2 _ | exact ih3 _ | exact ih4 _ | exact ih5 _ | exact ih6 _ | exact ih7 _ | exact ih8 _ | exact ih9 _ | exact ih10 _ | exact ih11 _ | exact ih12 _ | exact ih13 _ _ _ _ | exact ih14 _ _ | exact ih15 _ _ | exact ih16 _ _ | exact ih17 _ _ _ | exact ih18 _ _ | exact ih19 _ _ | exact G1 fu _ _ | exact V1 fu _ _ | exact O1 fu _ | exact P1 fu _ | exact U1 fu _ | exact I1 fu _ | exact R1 fu _ | exact T1 fu _ | exact W1 fu _ | exact A1 _ | refine Le.bind ?_ (fun _=>?_) | refine Le.ite ?_ ?_ | (rename_i x; cases x))
  ·rw [M3,N1]
   repeat (first | exact Le.rfl | exact ih0 _ | exact ih1 _ | exact ih2 _ | exact ih3 _ | exact ih4 _ | exact ih5 _ | exact ih6 _ | exact ih7 _ | exact ih8 _ | exact ih9 _ | exact ih10 _ | exact ih11 _ | exact ih12 _ | exact ih13 _ _ _ _ | exact ih14 _ _ | exact ih15 _ _ | exact ih16 _ _ | exact ih17 _ _ _ | exact ih18 _ _ | exact ih19 _ _ | exact G1 fu _ _ | exact V1 fu _ _ | exact O1 fu _ | exact P1 fu _ | exact U1 fu _ | exact I1 fu _ | exact R1 fu _ | exact T1 fu _ | exact W1 fu _ | exact A1 _ | refine Le.bind ?_ (fun _=>?_) | refine Le.ite ?_ ?_ | (rename_i x; cases x))
  ·rw [T9,C3]
   repeat (first | exact Le.rfl | exact ih0 _ | exact ih1 _ | exact ih2 _ | exact ih3 _ | exact ih4 _ | exact ih5 _ | exact ih6 _ | exact ih7 _ | exact ih8 _ | exact ih9 _ | exact ih10 _ | exact ih11 _ | exact ih12 _ | exact ih13 _ _ _ _ | exact ih14 _ _ | exact ih15 _ _ | exact ih16 _ _ | exact ih17 _ _ _ | exact ih18 _ _ | exact ih19 _ _ | exact G1 fu _ _ | exact V1 fu _ _ | exact O1 fu _ | exact P1 fu _ | exact U1 fu _ | exact I1 fu _ | exact R1 fu _ | exact T1 fu _ | exact W1 fu _ | exact A1 _ | refine Le.bind ?_ (fun _=>?_) | refine Le.ite ?_ ?_ | (rename_i x; cases x))
  ·rw [Rb,W3]
   repeat (first | exact Le.rfl | exact ih0 _ | exact ih1 _ | exact ih2 _ | exact ih3 _ | exact ih4 _ | exact ih5 _ | exact ih6 _ | exact ih7 _ | exact ih8 _ | exact ih9 _ | exact ih10 _ | exact ih11 _ | exact ih12 _ | exact ih13 _ _ _ _ | exact ih14 _ _ | exact ih15 _ _ | exact ih16 _ _ | exact ih17 _ _ _ | exact ih18 _ _ | exact ih19 _ _ | exact G1 fu _ _ | exact V1 fu _ _ | exact O1 fu _ | exact P1 fu _ | exact U1 fu _ | exact I1 fu _ | exact R1 fu _ | exact T1 fu _ | exact W1 fu _ | exact A1 _ | refine Le.bind ?_ (fun _=>?_) | refine Le.ite ?_ ?_ | (rename_i x; cases x))
theorem Is (fu:Nat)(parserParser:B0):Le (B3 fu parserParser) (D1 parserParser):=(Lq fu).1 parserParser
def Ak (fu:Nat)(parserParser:B0)(apiExpr:A0):Option (Pn (B0×A0)):=
 B3 fu parserParser>>=fun x1=>match x1 with
 | .pn nn=>
 some (.pn nn)
 | .ok x1=>
 some (.ok (x1.2,x1.1))
theorem Iy (fu:Nat)(parserParser:B0)(apiExpr:A0):Le (Ak fu parserParser apiExpr) (Dd parserParser apiExpr):=by
 unfold Ak Dd
 repeat (first | exact Le.rfl | exact Is fu _ | exact A1 _ | refine Le.bind ?_ (fun _=>?_) | refine Le.ite ?_ ?_ | (rename_i x; cases x))
def Zs (fu:Nat)(text:Str)(apiExpr:A0):Option (Int×Int×A0):=
 Ww fu text>>=fun x1=>
 if (x1.2.2 != 0)=true then
  some (x1.2.1,x1.2.2,apiExpr)
 else
  Ak fu (B0.mk x1.1 0 ((text).length:Int)) apiExpr>>=fun x2=>match x2 with
  | .pn nn=>
  some (nn,6,apiExpr)
  | .ok x2=>
  if (decide (x2.1.next < ((x2.1.tokens).length:Int)))=true then
   Qb fu x2.1>>=fun x3=>match x3 with
   | .pn nn=>
   some (nn,6,x2.2)
   | .ok x3=>
   some (0,0,x2.2)
  else
   some (0,0,x2.2)
theorem O17 (fu:Nat)(text:Str)(apiExpr:A0):Le (Zs fu text apiExpr) (Vm text apiExpr):=by
 unfold Zs Vm
 repeat (first | exact Le.rfl | exact R1b fu _ | exact Iy fu _ _ | exact Bj fu _ | exact A1 _ | refine Le.bind ?_ (fun _=>?_) | refine Le.ite ?_ ?_ | (rename_i x; cases x))
def Bk (fu:Nat)(d:Int)(syntaxReport:J0):Option J0:=
 some (J0.mk syntaxReport.nodes (max syntaxReport.depth d) syntaxReport.badForm syntaxReport.badName syntaxReport.badNumber)
theorem Ab (fu:Nat)(d:Int)(syntaxReport:J0):Le (Bk fu d syntaxReport) (A6 d syntaxReport):=by
 unfold Bk A6
 repeat (first | exact Le.rfl | exact A1 _ | refine Le.bind ?_ (fun _=>?_) | refine Le.ite ?_ ?_ | (rename_i x; cases x))
def Je (fu:Nat)(op:Int)(v9:Bool):Option Int:=
 if v9=true then
  some 1
 else
  if (op == 5)=true then
   some 2
  else
   if (op == 23)=true then
    some 3
   else
    if (bif (decide (op≥8)) then (decide (op≤22)) else false)=true then
     some 2
    else
     some (-1)
theorem A12 (fu:Nat)(op:Int)(v9:Bool):Le (Je fu op v9) (M9 op v9):=by
 unfold Je M9
 repeat (first | exact Le.rfl | exact A1 _ | refine Le.bind ?_ (fun _=>?_) | refine Le.ite ?_ ?_ | (rename_i x; cases x))
def Yb (fu:Nat)(op:Int)(v4:Bool):Option Int:=
 if v4=true then
  some 0
 else
  if (op == 4)=true then
   Je fu op (op == 4)
  else
   if (op == 6)=true then
    Je fu op (op == 6)
   else
    Je fu op (op == 7)
theorem B12 (fu:Nat)(op:Int)(v4:Bool):Le (Yb fu op v4) (X7 op v4):=by
 unfold Yb X7
 repeat (first | exact Le.rfl | exact A12 fu _ _ | exact A1 _ | refine Le.bind ?_ (fun _=>?_) | refine Le.ite ?_ ?_ | (rename_i x; cases x))
def Mq (fu:Nat)(op:Int):Option Int:=
 if (op == 0)=true then
  Yb fu op (op == 0)
 else
  if (op == 1)=true then
   Yb fu op (op == 1)
  else
   if (op == 2)=true then
    Yb fu op (op == 2)
   else
    Yb fu op (op == 3)
theorem Gh (fu:Nat)(op:Int):Le (Mq fu op) (Rf op):=by
 unfold Mq Rf
 repeat (first | exact Le.rfl | exact B12 fu _ _ | exact A1 _ | refine Le.bind ?_ (fun _=>?_) | refine Le.ite ?_ ?_ | (rename_i x; cases x))
def I9 (fu:Nat)(ok:Bool)(syntaxReport:J0):Option J0:=
 some (J0.mk syntaxReport.nodes syntaxReport.depth (bif syntaxReport.badForm then true else (!ok)) syntaxReport.badName syntaxReport.badNumber)
theorem Bb (fu:Nat)(ok:Bool)(syntaxReport:J0):Le (I9 fu ok syntaxReport) (W0 ok syntaxReport):=by
 unfold I9 W0
 repeat (first | exact Le.rfl | exact A1 _ | refine Le.bind ?_ (fun _=>?_) | refine Le.ite ?_ ?_ | (rename_i x; cases x))
def Ke:Nat→A0→Option Bool
 | 0,_=>none
 | fu+1,o0=>
  if (bif (o0.Op == 4) then true else (o0.Op == 5))=true then
   if (((o0.Kids).length:Int) == 0)=true then
    some false
   else
    idx o0.Kids 0>>=fun x1=>
    Ke fu x1
  else
   some (o0.Op == 3)
theorem U10 (fu:Nat):(∀ (o0:A0),Le (Ke fu o0) (Y7 o0)):=by
 induction fu with
 | zero=>exact fun _=>Le.none
 | succ fu ih=>
  have ih0:=ih
  refine fun o0=>?_
  ·rw [Ke,Y7]
   repeat (first | exact Le.rfl | exact ih0 _ | exact A1 _ | refine Le.bind ?_ (fun _=>?_) | refine Le.ite ?_ ?_ | (rename_i x; cases x))
theorem C12 (fu:Nat)(o0:A0):Le (Ke fu o0) (Y7 o0):=(U10 fu) o0
def Nq (fu:Nat)(e:A0):Option Bool:=
 Ke fu e
theorem Hh (fu:Nat)(e:A0):Le (Nq fu e) (Ed e):=by
 unfold Nq Ed
 repeat (first | exact Le.rfl | exact C12 fu _ | exact A1 _ | refine Le.bind ?_ (fun _=>?_) | refine Le.ite ?_ ?_ | (rename_i x; cases x))
def Me:Nat→Str→Int→Option Bool
 | 0,_,_=>none
 | fu+1,s,v6=>
  if (decide (v6 < ((s).length:Int)))=true then
   idx s v6>>=fun x1=>
   Bg fu (x1.toNat:Int)>>=fun x2=>
   (if ((!x2)&&(!(v6 == 0)))=true then idx s v6 else some default)>>=fun x3=>
   (if ((!x2)&&(!(v6 == 0)))=true then Xd fu (x3.toNat:Int) else some default)>>=fun x4=>
   if (bif (!x2) then (bif (v6 == 0) then true else (!x4)) else false)=true then
    some false
   else
    Me fu s (IntKind.i64.wrap (v6+1))
  else
   some (!(s == []))
theorem V10 (fu:Nat):(∀ (s:Str) (v6:Int),Le (Me fu s v6) (B6 s v6)):=by
 induction fu with
 | zero=>exact fun _ _=>Le.none
 | succ fu ih=>
  have ih0:=ih
  refine fun s v6=>?_
  ·rw [Me,B6]
   repeat (first | exact Le.rfl | exact ih0 _ _ | exact Pm fu _ | exact Xj fu _ | exact A1 _ | refine Le.bind ?_ (fun _=>?_) | refine Le.ite ?_ ?_ | (rename_i x; cases x))
theorem D12 (fu:Nat)(s:Str)(v6:Int):Le (Me fu s v6) (B6 s v6):=(V10 fu) s v6
def Oq (fu:Nat)(s:Str):Option Bool:=
 Me fu s 0
theorem M16 (fu:Nat)(s:Str):Le (Oq fu s) (Ji s):=by
 unfold Oq Ji
 repeat (first | exact Le.rfl | exact D12 fu _ _ | exact A1 _ | refine Le.bind ?_ (fun _=>?_) | refine Le.ite ?_ ?_ | (rename_i x; cases x))
def Pq (fu:Nat)(s:Str):Option Bool:=
 (if (decide (((s).length:Int)≤12))=true then Oq fu s else some default)>>=fun x1=>
 (if (bif (decide (((s).length:Int)≤12)) then x1 else false)=true then Yj fu s else some default)>>=fun x2=>
 some (bif (bif (decide (((s).length:Int)≤12)) then x1 else false) then (!x2) else false)
theorem N16 (fu:Nat)(s:Str):Le (Pq fu s) (Ki s):=by
 unfold Pq Ki
 repeat (first | exact Le.rfl | exact M16 fu _ | exact Kt fu _ | exact A1 _ | refine Le.bind ?_ (fun _=>?_) | refine Le.ite ?_ ?_ | (rename_i x; cases x))
def To (fu:Nat)(s:Str):Option Bool:=
 Pq fu s>>=fun x1=>
 some x1
theorem M14 (fu:Nat)(s:Str):Le (To fu s) (Zd s):=by
 unfold To Zd
 repeat (first | exact Le.rfl | exact N16 fu _ | exact A1 _ | refine Le.bind ?_ (fun _=>?_) | refine Le.ite ?_ ?_ | (rename_i x; cases x))
def Ck (fu:Nat)(s:Str)(syntaxReport:J0):Option J0:=
 (if (!syntaxReport.badName)=true then To fu s else some default)>>=fun x1=>
 some (J0.mk syntaxReport.nodes syntaxReport.depth syntaxReport.badForm (bif syntaxReport.badName then true else (!x1)) syntaxReport.badNumber)
theorem Cb (fu:Nat)(s:Str)(syntaxReport:J0):Le (Ck fu s syntaxReport) (A4 s syntaxReport):=by
 unfold Ck A4
 repeat (first | exact Le.rfl | exact M14 fu _ | exact A1 _ | refine Le.bind ?_ (fun _=>?_) | refine Le.ite ?_ ?_ | (rename_i x; cases x))
def Uo (fu:Nat)(n:Int)(low:Int)(high:Int):Option Bool:=
 some (bif (decide (n≥low)) then (decide (n≤high)) else false)
theorem Fg (fu:Nat)(n:Int)(low:Int)(high:Int):Le (Uo fu n low high) (V3 n low high):=by
 unfold Uo V3
 repeat (first | exact Le.rfl | exact A1 _ | refine Le.bind ?_ (fun _=>?_) | refine Le.ite ?_ ?_ | (rename_i x; cases x))
def Sh (fu:Nat)(ok:Bool)(syntaxReport:J0):Option J0:=
 some (J0.mk syntaxReport.nodes syntaxReport.depth syntaxReport.badForm syntaxReport.badName (bif syntaxReport.badNumber then true else (!ok)))
theorem K9 (fu:Nat)(ok:Bool)(syntaxReport:J0):Le (Sh fu ok syntaxReport) (E2 ok syntaxReport):=by
 unfold Sh E2
 repeat (first | exact Le.rfl | exact A1 _ | refine Le.bind ?_ (fun _=>?_) | refine Le.ite ?_ ?_ | (rename_i x; cases x))
mutual
def Sb:Nat→A0→Int→J0→Option J0
 | 0,_,_,_=>none
 | fu+1,e,depth,syntaxReport=>
  Bk fu depth (J0.mk (IntKind.i64.wrap (syntaxReport.nodes+1)) syntaxReport.depth syntaxReport.badForm syntaxReport.badName syntaxReport.badNumber)>>=fun x1=>
  Mq fu e.Op>>=fun x2=>
  I9 fu (x2 == ((e.Kids).length:Int)) x1>>=fun x3=>
  I9 fu (bif (e.NV == 0) then true else (e.Op == 0)) x3>>=fun x4=>
  I9 fu (bif (e.Name == []) then true else (bif (e.Op == 3) then true else (e.Op == 4))) x4>>=fun x5=>
  if (bif (e.Op == 4) then true else (e.Op == 5))=true then
   Nq fu e>>=fun x6=>
   I9 fu x6 x5>>=fun x7=>
   Dc fu e depth x7
  else
   Dc fu e depth x5
def Dc:Nat→A0→Int→J0→Option J0
 | 0,_,_,_=>none
 | fu+1,e,depth,o0=>
  if (bif (e.Op == 3) then true else (e.Op == 4))=true then
   Ck fu e.Name o0>>=fun x8=>
   Ec fu e depth x8
  else
   Ec fu e depth o0
def Ec:Nat→A0→Int→J0→Option J0
 | 0,_,_,_=>none
 | fu+1,e,depth,o01=>
  if (e.Op == 0)=true then
   Uo fu e.NV 0 1048576>>=fun x9=>
   Sh fu x9 o01>>=fun x10=>
   Fc fu e depth x10
  else
   Fc fu e depth o01
def Fc:Nat→A0→Int→J0→Option J0
 | 0,_,_,_=>none
 | fu+1,e,depth,o02=>
  Gc fu e depth o02 0
def Gc:Nat→A0→Int→J0→Int→Option J0
 | 0,_,_,_,_=>none
 | fu+1,e,depth,o03,v82=>
  if (decide (v82 < ((e.Kids).length:Int)))=true then
   idx e.Kids v82>>=fun x11=>
   Sb fu x11 (IntKind.i64.wrap (depth+1)) o03>>=fun x12=>
   Gc fu e depth x12 (IntKind.i64.wrap (v82+1))
  else
   some o03
end
theorem Xw (fu:Nat):(∀ (e:A0) (depth:Int) (syntaxReport:J0),Le (Sb fu e depth syntaxReport) (Z2 e depth syntaxReport))∧(∀ (e:A0) (depth:Int) (o0:J0),Le (Dc fu e depth o0) (W6 e depth o0))∧(∀ (e:A0) (depth:Int) (o01:J0),Le (Ec fu e depth o01) (E8 e depth o01))∧(∀ (e:A0) (depth:Int) (o02:J0),Le (Fc fu e depth o02) (F8 e depth o02))∧(∀ (e:A0) (depth:Int) (o03:J0) (v82:Int),Le (Gc fu e depth o03 v82) (D4 e depth o03 v82)):=by
 induction fu with
 | zero=>exact ⟨fun _ _ _=>Le.none,fun _ _ _=>Le.none,fun _ _ _=>Le.none,fun _ _ _=>Le.none,fun _ _ _ _=>Le.none⟩
 | succ fu ih=>
  obtain ⟨ih0,ih1,ih2,ih3,ih4⟩:=ih
  refine ⟨fun e depth syntaxReport=>?_,fun e depth o0=>?_,fun e depth o01=>?_,fun e depth o02=>?_,fun e depth o03 v82=>?_⟩
  ·rw [Sb,Z2]
   repeat (first | exact Le.rfl | exact ih0 _ _ _ | exact ih1 _ _ _ | exact ih2 _ _ _ | exact ih3 _ _ _ | exact ih4 _ _ _ _ | exact Ab fu _ _ | exact Gh fu _ | exact Bb fu _ _ | exact Hh fu _ | exact Cb fu _ _ | exact Fg fu _ _ _ | exact K9 fu _ _ | exact A1 _ | refine Le.bind ?_ (fun _=>?_) | refine Le.ite ?_ ?_ | (rename_i x; cases x))
  ·rw [Dc,W6]
   repeat (first | exact Le.rfl | exact ih0 _ _ _ | exact ih1 _ _ _ | exact ih2 _ _ _ | exact ih3 _ _ _ | exact ih4 _ _ _ _ | exact Ab fu _ _ | exact Gh fu _ | exact Bb fu _ _ | exact Hh fu _ | exact Cb fu _ _ | exact Fg fu _ _ _ | exact K9 fu _ _ | exact A1 _ | refine Le.bind ?_ (fun _=>?_) | refine Le.ite ?_ ?_ | (rename_i x; cases x))
  ·rw [Ec,E8]
   repeat (first | exact Le.rfl | exact ih0 _ _ _ | exact ih1 _ _ _ | exact ih2 _ _ _ | exact ih3 _ _ _ | exact ih4 _ _ _ _ | exact Ab fu _ _ | exact Gh fu _ | exact Bb fu _ _ | exact Hh fu _ | exact Cb fu _ _ | exact Fg fu _ _ _ | exact K9 fu _ _ | exact A1 _ | refine Le.bind ?_ (fun _=>?_) | refine Le.ite ?_ ?_ | (rename_i x; cases x))
  ·rw [Fc,F8]
   repeat (first | exact Le.rfl | exact ih0 _ _ _ | exact ih1 _ _ _ | exact ih2 _ _ _ | exact ih3 _ _ _ | exact ih4 _ _ _ _ | exact Ab fu _ _ | exact Gh fu _ | exact Bb fu _ _ | exact Hh fu _ | exact Cb fu _ _ | exact Fg fu _ _ _ | exact K9 fu _ _ | exact A1 _ | refine Le.bind ?_ (fun _=>?_) | refine Le.ite ?_ ?_ | (rename_i x; cases x))
  ·rw [Gc,D4]
   repeat (first | exact Le.rfl | exact ih0 _ _ _ | exact ih1 _ _ _ | exact ih2 _ _ _ | exact ih3 _ _ _ | exact ih4 _ _ _ _ | exact Ab fu _ _ | exact Gh fu _ | exact Bb fu _ _ | exact Hh fu _ | exact Cb fu _ _ | exact Fg fu _ _ _ | exact K9 fu _ _ | exact A1 _ | refine Le.bind ?_ (fun _=>?_) | refine Le.ite ?_ ?_ | (rename_i x; cases x))
theorem Jy (fu:Nat)(e:A0)(depth:Int)(syntaxReport:J0):Le (Sb fu e depth syntaxReport) (Z2 e depth syntaxReport):=(Xw fu).1 e depth syntaxReport
def Dk (fu:Nat)(syntaxReport:J0):Option Int:=
 if (bif (decide (syntaxReport.nodes > 1024)) then true else (decide (syntaxReport.depth > 12)))=true then
  some 4
 else
  if syntaxReport.badForm=true then
   some 1
  else
   if syntaxReport.badName=true then
    some 7
   else
    if syntaxReport.badNumber=true then
     some 3
    else
     some 0
theorem Ky (fu:Nat)(syntaxReport:J0):Le (Dk fu syntaxReport) (C6 syntaxReport):=by
 unfold Dk C6
 repeat (first | exact Le.rfl | exact A1 _ | refine Le.bind ?_ (fun _=>?_) | refine Le.ite ?_ ?_ | (rename_i x; cases x))
def Tl (fu:Nat)(e:A0):Option Int:=
 Sb fu e 1 (J0.mk 0 0 false false false)>>=fun x1=>
 Dk fu x1>>=fun x2=>
 some x2
theorem W10 (fu:Nat)(e:A0):Le (Tl fu e) (Sf e):=by
 unfold Tl Sf
 repeat (first | exact Le.rfl | exact Jy fu _ _ _ | exact Ky fu _ | exact A1 _ | refine Le.bind ?_ (fun _=>?_) | refine Le.ite ?_ ?_ | (rename_i x; cases x))
def Ih (fu:Nat)(text:Str):Option (A0×Int×Int):=
 Zs fu text (A0.mk 0 0 [] [])>>=fun x1=>
 if (x1.2.1 != 0)=true then
  some ((A0.mk 0 0 [] []),x1.1,x1.2.1)
 else
  Tl fu x1.2.2>>=fun x2=>
  if (x2 != 0)=true then
   some ((A0.mk 0 0 [] []),0,x2)
  else
   some (x1.2.2,0,0)
theorem X10 (fu:Nat)(text:Str):Le (Ih fu text) (Oc text):=by
 unfold Ih Oc
 repeat (first | exact Le.rfl | exact O17 fu _ _ | exact W10 fu _ | exact A1 _ | refine Le.bind ?_ (fun _=>?_) | refine Le.ite ?_ ?_ | (rename_i x; cases x))
def Ul (fu:Nat)(s:Str):Option A0:=
 some (A0.mk 3 0 s [])
theorem V19 (fu:Nat)(s:Str):Le (Ul fu s) (Wj s):=by
 unfold Ul Wj
 repeat (first | exact Le.rfl | exact A1 _ | refine Le.bind ?_ (fun _=>?_) | refine Le.ite ?_ ?_ | (rename_i x; cases x))
mutual
def Oe:Nat→A0→A0→Option Bool
 | 0,_,_=>none
 | fu+1,a,b=>
  if (bif (bif (bif (a.Op != b.Op) then true else (a.NV != b.NV)) then true else (!(a.Name == b.Name))) then true else (((a.Kids).length:Int) != ((b.Kids).length:Int)))=true then
   some false
  else
   Ye fu a b 0
def Ye:Nat→A0→A0→Int→Option Bool
 | 0,_,_,_=>none
 | fu+1,a,b,i=>
  if (decide (i < ((a.Kids).length:Int)))=true then
   idx a.Kids i>>=fun x1=>
   idx b.Kids i>>=fun x2=>
   Oe fu x1 x2>>=fun x3=>
   if (!x3)=true then
    some false
   else
    Ye fu a b (IntKind.i64.wrap (i+1))
  else
   some true
end
theorem Y10 (fu:Nat):(∀ (a:A0) (b:A0),Le (Oe fu a b) (M5 a b))∧(∀ (a:A0) (b:A0) (i:Int),Le (Ye fu a b i) (D7 a b i)):=by
 induction fu with
 | zero=>exact ⟨fun _ _=>Le.none,fun _ _ _=>Le.none⟩
 | succ fu ih=>
  obtain ⟨ih0,ih1⟩:=ih
  refine ⟨fun a b=>?_,fun a b i=>?_⟩
  ·rw [Oe,M5]
   repeat (first | exact Le.rfl | exact ih0 _ _ | exact ih1 _ _ _ | exact A1 _ | refine Le.bind ?_ (fun _=>?_) | refine Le.ite ?_ ?_ | (rename_i x; cases x))
  ·rw [Ye,D7]
   repeat (first | exact Le.rfl | exact ih0 _ _ | exact ih1 _ _ _ | exact A1 _ | refine Le.bind ?_ (fun _=>?_) | refine Le.ite ?_ ?_ | (rename_i x; cases x))
theorem E12 (fu:Nat)(a:A0)(b:A0):Le (Oe fu a b) (M5 a b):=(Y10 fu).1 a b
def B10 (fu:Nat):Option Bool:=
 Ih fu [97,32,45,32,98,32,45,32,99,91,49,93,46,100]>>=fun x1=>
 Ul fu [99]>>=fun x2=>
 Ul fu [97]>>=fun x3=>
 Ul fu [98]>>=fun x4=>
 Ih fu [97,32,61,61,32,98,32,61,61,32,99]>>=fun x5=>
 (if (x1.2.2 == 0)=true then Oe fu x1.1 (A0.mk 9 0 [] [(A0.mk 9 0 [] [x3,x4]),(A0.mk 4 0 [100] [(A0.mk 5 0 [] [x2,(A0.mk 0 1 [] [])])])]) else some default)>>=fun x6=>
 some (bif (bif (bif (x1.2.2 == 0) then x6 else false) then (x5.2.2 == 6) else false) then (x5.2.1 == 7) else false)
theorem P17 (fu:Nat):Le (B10 fu ) (Ph ):=by
 unfold B10 Ph
 repeat (first | exact Le.rfl | exact X10 fu _ | exact V19 fu _ | exact E12 fu _ _ | exact A1 _ | refine Le.bind ?_ (fun _=>?_) | refine Le.ite ?_ ?_ | (rename_i x; cases x))
end Go.Proofs.YtmnhfbekncjnfaaGreatDoor

