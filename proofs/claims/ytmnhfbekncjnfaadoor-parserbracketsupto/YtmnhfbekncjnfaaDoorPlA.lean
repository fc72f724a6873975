/- A part of the proof of ParserBrackets. -/
import Derived.Test.YtmnhfbekncjnfaaDoorDgB
import Derived.Lib.Atoi
import Derived.KernelRfl
set_option linter.unusedVariables false
namespace Go.Proofs.YtmnhfbekncjnfaaDoor
open Go.Am
structure J0 where
 Kind:Int
 Low:Int
 High:Int
 Size:Int
 Name:Str
 Names:List Str
 Of:List J0
instance:Inhabited J0:=⟨⟨0,0,0,0,[],[],[]⟩⟩
mutual
def A7 (s:Str)(atV1:Int):Option Int:=
 if (decide (atV1 < ((s).length:Int)))=true then
  idx s atV1>>=fun x1=>
  if ((x1.toNat:Int) == 35)=true then
   D8 s atV1
  else
   idx s atV1>>=fun x2=>
   (if (!((x2.toNat:Int) == 32))=true then idx s atV1 else some default)>>=fun x3=>
   (if (!(bif ((x2.toNat:Int) == 32) then true else ((x3.toNat:Int) == 9)))=true then idx s atV1 else some default)>>=fun x4=>
   if (bif (bif ((x2.toNat:Int) == 32) then true else ((x3.toNat:Int) == 9)) then true else ((x4.toNat:Int) == 10))=true then
    A7 s (IntKind.i64.wrap (atV1+1))
   else
    some atV1
 else
  some atV1
 partial_fixpoint
def D8 (s:Str)(atV2:Int):Option Int:=
 (if (decide (atV2 < ((s).length:Int)))=true then idx s atV2 else some default)>>=fun x5=>
 if (bif (decide (atV2 < ((s).length:Int))) then ((x5.toNat:Int) != 10) else false)=true then
  D8 s (IntKind.i64.wrap (atV2+1))
 else
  A7 s atV2
 partial_fixpoint
end
def Uh (s:Str)(atV:Int):Option Int:=
 A7 s atV
def Qg (c:Int):Option Bool:=
 some (bif (decide (c≥97)) then (decide (c≤122)) else false)
def Vh (c:Int):Option Bool:=
 some (bif (decide (c≥48)) then (decide (c≤57)) else false)
def Yd (s:Str)(atV1:Int):Option Int:=
 (if (decide (atV1 < ((s).length:Int)))=true then idx s atV1 else some default)>>=fun x1=>
 (if (decide (atV1 < ((s).length:Int)))=true then Qg (x1.toNat:Int) else some default)>>=fun x2=>
 (if ((decide (atV1 < ((s).length:Int)))&&(!x2))=true then idx s atV1 else some default)>>=fun x3=>
 (if ((decide (atV1 < ((s).length:Int)))&&(!x2))=true then Vh (x3.toNat:Int) else some default)>>=fun x4=>
 if (bif (decide (atV1 < ((s).length:Int))) then (bif x2 then true else x4) else false)=true then
  Yd s (IntKind.i64.wrap (atV1+1))
 else
  some atV1
 partial_fixpoint
def Wv (s:Str)(atV:Int):Option Int:=
 Yd s atV
def G9 (s:Str)(i1:Int):Option Bool:=
 if (decide ((IntKind.i64.wrap ((IntKind.i64.wrap (i1+((s).length:Int)))+2))≤162))=true then
  slc [32,116,121,112,101,32,115,101,99,114,101,116,32,112,117,98,108,105,99,32,114,97,110,100,111,109,32,118,97,114,32,104,97,116,99,104,32,102,117,110,99,32,114,101,116,117,114,110,32,98,101,103,105,110,32,101,110,100,32,98,111,111,108,32,105,110,116,32,97,114,114,97,121,32,111,102,32,114,101,99,111,114,100,32,116,114,117,101,32,102,97,108,115,101,32,99,97,108,108,32,114,101,108,101,97,115,101,32,111,117,116,112,117,116,32,119,97,105,116,32,105,102,32,101,108,115,101,32,119,104,105,108,101,32,108,105,109,105,116,32,102,111,114,32,116,111,32,115,101,116,116,108,101,32,109,105,110,32,109,97,120,32] i1 (IntKind.i64.wrap ((IntKind.i64.wrap (i1+((s).length:Int)))+2))>>=fun x3=>
  if (decide (1+s.length≤maxLen))=true then
   if (decide (([32]++s).length+1≤maxLen))=true then
    if (x3 == (([32]++s)++[32]))=true then
     some true
    else
     G9 s (IntKind.i64.wrap (i1+1))
   else none
  else none
 else
  some false
 partial_fixpoint
def H9 (s:Str)(i:Int):Option Bool:=
 if (decide (i < ((s).length:Int)))=true then
  idx s i>>=fun x1=>
  Qg (x1.toNat:Int)>>=fun x2=>
  if (!x2)=true then
   some false
  else
   H9 s (IntKind.i64.wrap (i+1))
 else
  G9 s 0
 partial_fixpoint
def Ih (s:Str):Option Bool:=
 if (((s).length:Int) == 0)=true then
  some false
 else
  H9 s 0
def P7 (s:Str)(n:Int)(i1:Int):Option Int:=
 if (decide (i1 < ((s).length:Int)))=true then
  idx s i1>>=fun x4=>
  if (decide ((IntKind.i64.wrap ((IntKind.i64.wrap (n * 10))+(IntKind.i64.wrap (IntKind.u8.wrap ((x4.toNat:Int) - 48))))) > 1048576))=true then
   some 3
  else
   P7 s (IntKind.i64.wrap ((IntKind.i64.wrap (n * 10))+(IntKind.i64.wrap (IntKind.u8.wrap ((x4.toNat:Int) - 48))))) (IntKind.i64.wrap (i1+1))
 else
  some 0
 partial_fixpoint
def Ab (s:Str)(i:Int):Option Int:=
 if (decide (i < ((s).length:Int)))=true then
  idx s i>>=fun x2=>
  Vh (x2.toNat:Int)>>=fun x3=>
  if (!x3)=true then
   some 6
  else
   Ab s (IntKind.i64.wrap (i+1))
 else
  P7 s 0 0
 partial_fixpoint
def Dk (s:Str):Option Int:=
 (if (decide (((s).length:Int) > 1))=true then idx s 0 else some default)>>=fun x1=>
 if (bif (decide (((s).length:Int) > 1)) then ((x1.toNat:Int) == 48) else false)=true then
  some 6
 else
  Ab s 0
def G6 (s:Str)(v4:Bool):Option Bool:=
 if v4=true then
  some true
 else
  if (s == [59])=true then
   if (s == [59])=true then
    some true
   else
    some false
  else
   if (s == [58])=true then
    if (s == [58])=true then
     some true
    else
     some false
   else
    if (s == [44])=true then
     if (s == [44])=true then
      some true
     else
      some false
    else
     if (s == [46])=true then
      if (s == [46])=true then
       some true
      else
       some false
     else
      if (s == [61])=true then
       if (s == [61])=true then
        some true
       else
        some false
      else
       if (s == [43])=true then
        if (s == [43])=true then
         some true
        else
         some false
       else
        if (s == [45])=true then
         if (s == [45])=true then
          some true
         else
          some false
        else
         if (s == [42])=true then
          if (s == [42])=true then
           some true
          else
           some false
         else
          if (s == [47])=true then
           if (s == [47])=true then
            some true
           else
            some false
          else
           if (s == [37])=true then
            if (s == [37])=true then
             some true
            else
             some false
           else
            if (s == [60])=true then
             if (s == [60])=true then
              some true
             else
              some false
            else
             if (s == [62])=true then
              if (s == [62])=true then
               some true
              else
               some false
             else
              if (s == [33])=true then
               if (s == [33])=true then
                some true
               else
                some false
              else
               if (s == [63])=true then
                if (s == [63])=true then
                 some true
                else
                 some false
               else
                if (s == [40])=true then
                 if (s == [40])=true then
                  some true
                 else
                  some false
                else
                 if (s == [41])=true then
                  if (s == [41])=true then
                   some true
                  else
                   some false
                 else
                  if (s == [91])=true then
                   if (s == [91])=true then
                    some true
                   else
                    some false
                  else
                   if (s == [93])=true then
                    if (s == [93])=true then
                     some true
                    else
                     some false
                   else
                    if (s == [123])=true then
                     if (s == [123])=true then
                      some true
                     else
                      some false
                    else
                     if (s == [125])=true then
                      some true
                     else
                      some false
def Ga (s:Str):Option Bool:=
 if (s == [46,46])=true then
  G6 s (s == [46,46])
 else
  if (s == [61,61])=true then
   G6 s (s == [61,61])
  else
   if (s == [33,61])=true then
    G6 s (s == [33,61])
   else
    if (s == [60,61])=true then
     G6 s (s == [60,61])
    else
     if (s == [62,61])=true then
      G6 s (s == [62,61])
     else
      if (s == [38,38])=true then
       G6 s (s == [38,38])
      else
       G6 s (s == [124,124])
def Rl (s:Str)(atV:Int):Option (E0×Int):=
 Wv s atV>>=fun x1=>
 idx s atV>>=fun x2=>
 Qg (x2.toNat:Int)>>=fun x3=>
 if x3=true then
  slc s atV x1>>=fun x4=>
  Ih x4>>=fun x5=>
  if x5=true then
   some ((E0.mk 2 x4 atV),0)
  else
   if (decide (((x4).length:Int) > 12))=true then
    some ((E0.mk 0 [] 0),7)
   else
    some ((E0.mk 0 x4 atV),0)
 else
  idx s atV>>=fun x6=>
  Vh (x6.toNat:Int)>>=fun x7=>
  if x7=true then
   slc s atV x1>>=fun x8=>
   Dk x8>>=fun x9=>
   if (x9 != 0)=true then
    some ((E0.mk 0 [] 0),x9)
   else
    slc s atV x1>>=fun x10=>
    some ((E0.mk 1 x10 atV),0)
  else
   (if (decide ((IntKind.i64.wrap (atV+2))≤((s).length:Int)))=true then slc s atV (IntKind.i64.wrap (atV+2)) else some default)>>=fun x11=>
   (if (decide ((IntKind.i64.wrap (atV+2))≤((s).length:Int)))=true then Ga x11 else some default)>>=fun x12=>
   if (bif (decide ((IntKind.i64.wrap (atV+2))≤((s).length:Int))) then x12 else false)=true then
    slc s atV (IntKind.i64.wrap (atV+2))>>=fun x13=>
    some ((E0.mk 3 x13 atV),0)
   else
    slc s atV (IntKind.i64.wrap (atV+1))>>=fun x14=>
    Ga x14>>=fun x15=>
    if x15=true then
     slc s atV (IntKind.i64.wrap (atV+1))>>=fun x16=>
     some ((E0.mk 3 x16 atV),0)
    else
     some ((E0.mk 0 [] 0),6)
def Rg (s:Str)(out:List E0)(atV:Int):Option (List E0×Int×Int):=
 if (decide (atV < ((s).length:Int)))=true then
  Rl s atV>>=fun x2=>
  if (x2.2 != 0)=true then
   some ([],atV,x2.2)
  else
   if (decide ((out.length+1) * 33≤140737488355328))=true then
    Uh s (IntKind.i64.wrap (atV+((x2.1.Text).length:Int)))>>=fun x3=>
    Rg s (out++[x2.1]) x3
   else none
 else
  some (out,0,0)
 partial_fixpoint
def Xv (s:Str):Option (List E0×Int×Int):=
 if (decide (((s).length:Int) > 8192))=true then
  some ([],0,5)
 else
  Uh s 0>>=fun x1=>
  Rg s [] x1
def V2 (l:List E0)(atV:Int)(text:Str):Option Bool:=
 (if (decide (atV < ((l).length:Int)))=true then idx l atV else some default)>>=fun x1=>
 (if ((decide (atV < ((l).length:Int)))&&(!(x1.Kind == 2)))=true then idx l atV else some default)>>=fun x2=>
 (if (bif (decide (atV < ((l).length:Int))) then (bif (x1.Kind == 2) then true else (x2.Kind == 3)) else false)=true then idx l atV else some default)>>=fun x3=>
 some (bif (bif (decide (atV < ((l).length:Int))) then (bif (x1.Kind == 2) then true else (x2.Kind == 3)) else false) then (x3.Text == text) else false)
def Kj (op:Int)(a:A0)(b:A0):Option A0:=
 some (A0.mk op 0 [] [a,b])
def Bb (l:List E0)(atV:Int)(n:Int)(i:Int):Option (Int×Int×Bool):=
 idx l atV>>=fun x2=>
 if (decide (i < ((x2.Text).length:Int)))=true then
  idx l atV>>=fun x3=>
  idx x3.Text i>>=fun x4=>
  Bb l atV (IntKind.i64.wrap ((IntKind.i64.wrap (10 * n))+(IntKind.i64.wrap (IntKind.u8.wrap ((x4.toNat:Int) - 48))))) (IntKind.i64.wrap (i+1))
 else
  some (n,(IntKind.i64.wrap (atV+1)),true)
 partial_fixpoint
def Ek (l:List E0)(atV:Int):Option (Int×Int×Bool):=
 (if (!(decide (atV≥((l).length:Int))))=true then idx l atV else some default)>>=fun x1=>
 if (bif (decide (atV≥((l).length:Int))) then true else (x1.Kind != 1))=true then
  some (0,atV,false)
 else
  Bb l atV 0 0
def He (l:List E0)(atV:Int):Option (Str×Int×Bool):=
 (if (decide (atV < ((l).length:Int)))=true then idx l atV else some default)>>=fun x1=>
 if (bif (decide (atV < ((l).length:Int))) then (x1.Kind == 0) else false)=true then
  idx l atV>>=fun x2=>
  some (x2.Text,(IntKind.i64.wrap (atV+1)),true)
 else
  some ([],atV,false)
def I3 (l:List E0)(atV:Int)(level:Int):Option (Int×Bool):=
 (if (!(decide (atV≥((l).length:Int))))=true then idx l atV else some default)>>=fun x1=>
 if (bif (decide (atV≥((l).length:Int))) then true else (x1.Kind != 3))=true then
  some (0,false)
 else
  idx l atV>>=fun x2=>
  if (x2.Text == [124,124])=true then
   some (20,(1 == level))
  else
   if (x2.Text == [38,38])=true then
    some (19,(2 == level))
   else
    if (x2.Text == [61,61])=true then
     some (13,(3 == level))
    else
     if (x2.Text == [33,61])=true then
      some (14,(3 == level))
     else
      if (x2.Text == [60])=true then
       some (15,(3 == level))
      else
       if (x2.Text == [60,61])=true then
        some (16,(3 == level))
       else
        if (x2.Text == [62])=true then
         some (17,(3 == level))
        else
         if (x2.Text == [62,61])=true then
          some (18,(3 == level))
         else
          if (x2.Text == [43])=true then
           some (8,(4 == level))
          else
           if (x2.Text == [45])=true then
            some (9,(4 == level))
           else
            if (x2.Text == [42])=true then
             some (10,(5 == level))
            else
             if (x2.Text == [47])=true then
              some (11,(5 == level))
             else
              if (x2.Text == [37])=true then
               some (12,(5 == level))
              else
               some (0,(0 == level))
mutual
def N1 (l:List E0)(atV:Int):Option (A0×Int×Bool):=
 J1 l atV 1>>=fun x1=>
 (if (!(!x1.2.2))=true then V2 l x1.2.1 [63] else some default)>>=fun x2=>
 if (bif (!x1.2.2) then true else (!x2))=true then
  some (x1.1,x1.2.1,x1.2.2)
 else
  N1 l (IntKind.i64.wrap (x1.2.1+1))>>=fun x3=>
  if (!x3.2.2)=true then
   some (x3.1,x3.2.1,false)
  else
   V2 l x3.2.1 [58]>>=fun x4=>
   if (!x4)=true then
    some (x3.1,x3.2.1,false)
   else
    N1 l (IntKind.i64.wrap (x3.2.1+1))>>=fun x5=>
    if (!x5.2.2)=true then
     some (x5.1,x5.2.1,false)
    else
     some ((A0.mk 23 0 [] [x1.1,x3.1,x5.1]),x5.2.1,true)
 partial_fixpoint
def J1 (l:List E0)(atV:Int)(n:Int):Option (A0×Int×Bool):=
 if (n == 6)=true then
  X4 l atV>>=fun x1=>
  some (x1.1,x1.2.1,x1.2.2)
 else
  J1 l atV (IntKind.i64.wrap (n+1))>>=fun x2=>
  if (!x2.2.2)=true then
   some (x2.1,x2.2.1,false)
  else
   P1 l n x2.1 x2.2.1
 partial_fixpoint
def P1 (l:List E0)(n:Int)(o1:A0)(atV1:Int):Option (A0×Int×Bool):=
 I3 l atV1 n>>=fun x3=>
 if (!x3.2)=true then
  some (o1,atV1,true)
 else
  J1 l (IntKind.i64.wrap (atV1+1)) (IntKind.i64.wrap (n+1))>>=fun x4=>
  if (!x4.2.2)=true then
   some (x4.1,x4.2.1,false)
  else
   Kj x3.1 o1 x4.1>>=fun x5=>
   if (n == 3)=true then
    some (x5,x4.2.1,true)
   else
    P1 l n x5 x4.2.1
 partial_fixpoint
def X4 (l:List E0)(atV:Int):Option (A0×Int×Bool):=
 V2 l atV [45]>>=fun x1=>
 (if (!x1)=true then V2 l atV [33] else some default)>>=fun x2=>
 if (bif (!x1) then (!x2) else false)=true then
  V7 l atV>>=fun x3=>
  some (x3.1,x3.2.1,x3.2.2)
 else
  V2 l atV [33]>>=fun x4=>
  if x4=true then
   B7 l atV 7
  else
   B7 l atV 6
 partial_fixpoint
def B7 (l:List E0)(atV:Int)(op:Int):Option (A0×Int×Bool):=
 X4 l (IntKind.i64.wrap (atV+1))>>=fun x5=>
 if (!x5.2.2)=true then
  some (x5.1,x5.2.1,false)
 else
  some ((A0.mk op 0 [] [x5.1]),x5.2.1,true)
 partial_fixpoint
def V7 (l:List E0)(atV:Int):Option (A0×Int×Bool):=
 V2 l atV [116,114,117,101]>>=fun x1=>
 if x1=true then
  some ((A0.mk 1 0 [] []),(IntKind.i64.wrap (atV+1)),true)
 else
  V2 l atV [102,97,108,115,101]>>=fun x2=>
  if x2=true then
   some ((A0.mk 2 0 [] []),(IntKind.i64.wrap (atV+1)),true)
  else
   V2 l atV [109,105,110]>>=fun x3=>
   (if (!x3)=true then V2 l atV [109,97,120] else some default)>>=fun x4=>
   if (bif x3 then true else x4)=true then
    Z8 l atV>>=fun x5=>
    some (x5.1,x5.2.1,x5.2.2)
   else
    V2 l atV [40]>>=fun x6=>
    if x6=true then
     N1 l (IntKind.i64.wrap (atV+1))>>=fun x9=>
     (if (!(!x9.2.2))=true then V2 l x9.2.1 [41] else some default)>>=fun x10=>
     if (bif (!x9.2.2) then true else (!x10))=true then
      some (x9.1,x9.2.1,false)
     else
      some (x9.1,(IntKind.i64.wrap (x9.2.1+1)),true)
    else
     Ek l atV>>=fun x7=>
     if x7.2.2=true then
      some ((A0.mk 0 x7.1 [] []),x7.2.1,true)
     else
      R9 l atV>>=fun x8=>
      some (x8.1,x8.2.1,x8.2.2)
 partial_fixpoint
def R9 (l:List E0)(atV:Int):Option (A0×Int×Bool):=
 He l atV>>=fun x1=>
 if (!x1.2.2)=true then
  some ((A0.mk 0 0 [] []),x1.2.1,false)
 else
  T5 l 3 0 x1.1 [] x1.2.1
 partial_fixpoint
def T5 (l:List E0)(o1_Op:Int)(o1_NV:Int)(o1_Name:Str)(o1_Kids:List A0)(atV1:Int):Option (A0×Int×Bool):=
 V2 l atV1 [46]>>=fun x2=>
 (if (!x2)=true then V2 l atV1 [91] else some default)>>=fun x3=>
 if (bif x2 then true else x3)=true then
  V2 l atV1 [46]>>=fun x4=>
  if x4=true then
   He l (IntKind.i64.wrap (atV1+1))>>=fun x5=>
   if (!x5.2.2)=true then
    some ((A0.mk o1_Op o1_NV o1_Name o1_Kids),x5.2.1,false)
   else
    T5 l 4 0 x5.1 [(A0.mk o1_Op o1_NV o1_Name o1_Kids)] x5.2.1
  else
   N1 l (IntKind.i64.wrap (atV1+1))>>=fun x6=>
   (if (!(!x6.2.2))=true then V2 l x6.2.1 [93] else some default)>>=fun x7=>
   if (bif (!x6.2.2) then true else (!x7))=true then
    some (x6.1,x6.2.1,false)
   else
    Kj 5 (A0.mk o1_Op o1_NV o1_Name o1_Kids) x6.1>>=fun x8=>
    T5 l x8.Op x8.NV x8.Name x8.Kids (IntKind.i64.wrap (x6.2.1+1))
 else
  some ((A0.mk o1_Op o1_NV o1_Name o1_Kids),atV1,true)
 partial_fixpoint
def Z8 (l:List E0)(atV:Int):Option (A0×Int×Bool):=
 V2 l atV [109,97,120]>>=fun x1=>
 if x1=true then
  S6 l atV 22
 else
  S6 l atV 21
 partial_fixpoint
def S6 (l:List E0)(atV:Int)(op:Int):Option (A0×Int×Bool):=
 V2 l (IntKind.i64.wrap (atV+1)) [40]>>=fun x2=>
 if (!x2)=true then
  some ((A0.mk 0 0 [] []),(IntKind.i64.wrap (atV+1)),false)
 else
  N1 l (IntKind.i64.wrap (atV+2))>>=fun x3=>
  (if (!(!x3.2.2))=true then V2 l x3.2.1 [44] else some default)>>=fun x4=>
  if (bif (!x3.2.2) then true else (!x4))=true then
   some (x3.1,x3.2.1,false)
  else
   N1 l (IntKind.i64.wrap (x3.2.1+1))>>=fun x5=>
   (if (!(!x5.2.2))=true then V2 l x5.2.1 [41] else some default)>>=fun x6=>
   if (bif (!x5.2.2) then true else (!x6))=true then
    some (x5.1,x5.2.1,false)
   else
    Kj op x3.1 x5.1>>=fun x7=>
    some (x7,(IntKind.i64.wrap (x5.2.1+1)),true)
 partial_fixpoint
end
end Go.Proofs.YtmnhfbekncjnfaaDoor

namespace Go.Proofs.YtmnhfbekncjnfaaDoor
open Go.Am
theorem ob {α β:Type}(a:α)(f:α→Option β):(some a>>=f)=f a:=rfl
theorem Wc {α:Type}{l:List α}{k:Nat}{x:α}{r:List α}(h:l.drop k=x::r):decide ((k:Int) < (l.length:Int))=true∧idx l (k:Int)=some x∧l.drop (k+1)=r∧k < l.length∧x∈l:=by
 have hk:k < l.length:=by
  rcases Nat.lt_or_ge k l.length with h1 | h1
  ·exact h1
  ·rw [List.drop_eq_nil_of_le h1] at h; cases h
 have hx:=List.drop_eq_getElem_cons hk
 rw [h] at hx
 obtain ⟨e1,e2⟩:=List.cons.inj hx
 refine ⟨decide_eq_true (by omega),?_,e2.symm,hk,?_⟩
 ·unfold idx
  rw [if_pos (by omega),e1]
  simp [hk]
 ·rw [e1]; exact List.getElem_mem hk
theorem Ha {α:Type}{l:List α}{k:Nat}(h:l.drop k=[]):decide ((k:Int) < (l.length:Int))=false∧l.length≤k:=by
 have:=List.drop_eq_nil_iff.1 h
 exact ⟨decide_eq_false (by omega),this⟩
def BB:Nat:=68719476736
theorem wr {n:Int}(h : -4611686018427387904≤n)(h':n≤4611686018427387904):IntKind.i64.wrap n=n:=Gx (by omega) (by omega)
theorem w1 {k:Nat}(h:k≤BB):IntKind.i64.wrap ((k:Int)+1)=((k+1:Nat):Int):=by
 unfold BB at h
 rw [wr (by omega) (by omega)]; rfl
def Kb (n:Int):Bool:=bif decide (n≥97) then decide (n≤122) else false
def D7 (n:Int):Bool:=bif decide (n≥48) then decide (n≤57) else false
def U18 (i:Nat)(c:UInt8):Bool:=Kb c.toNat||(i != 0&&D7 c.toNat)
def Fk:Nat→List UInt8→Bool
 | _,[]=>true
 | i,c::r=>U18 i c&&Fk (i+1) r
def word (s:List UInt8):Bool:=Fk 0 s && !(s == [])
def kw:List UInt8:=[32,116,121,112,101,32,115,101,99,114,101,116,32,112,117,98,108,105,99,32,114,97,110,100,111,109,32,118,97,114,32,104,97,116,99,104,32,102,117,110,99,32,114,101,116,117,114,110,32,98,101,103,105,110,32,101,110,100,32,98,111,111,108,32,105,110,116,32,97,114,114,97,121,32,111,102,32,114,101,99,111,114,100,32,116,114,117,101,32,102,97,108,115,101,32,99,97,108,108,32,114,101,108,101,97,115,101,32,111,117,116,112,117,116,32,119,97,105,116,32,105,102,32,101,108,115,101,32,119,104,105,108,101,32,108,105,109,105,116,32,102,111,114,32,116,111,32,115,101,116,116,108,101,32,109,105,110,32,109,97,120,32]
def Qn (s:List UInt8):Bool:=bif (bif !(s == []) then !Lib.contains s [32] else false) then Lib.contains kw ([32]++s++[32]) else false
def Ut (s:List UInt8):Bool:=bif (bif decide ((s.length:Int)≤12) then word s else false) then !Qn s else false
theorem getD_some {s:List UInt8}{k:Nat}(h:k < s.length):s[k]?=some (s.getD k 0):=by simp [List.getD,h]
def ld (c:UInt8):Bool:=bif Kb c.toNat then true else D7 c.toNat
def B4:List UInt8→Nat
 | []=>0
 | c::r=>bif ld c then B4 r+1 else 0
theorem Wm:∀ s:List UInt8,B4 s≤s.length
 | []=>Nat.le_refl _
 | c::r=>by
  simp only [B4,List.length_cons]
  have:=Wm r
  cases ld c <;> simp <;> omega
def P12 (s:List UInt8):Bool:=bif ((s.length:Nat):Int) == 0 then false else bif s.all (fun c=>Kb c.toNat) then Lib.contains kw ([32]++s++[32]) else false
set_option maxRecDepth 100000 in
theorem Kp:kw.length=162:=rfl
theorem Fz {s sub:List UInt8}{i:Nat}(hi:i+sub.length≤s.length)(h:((s.take (i+sub.length)).drop i == sub)=true):Lib.contains s sub=true:=by
 have ho:Lib.occAt s sub i=true:=by
  rw [Lib.occAt_iff_take s sub i hi]
  rw [List.drop_take] at h
  simpa using h
 rcases Lib.index_spec s sub with ⟨_,h2⟩ | ⟨j,h1,_⟩
 ·rw [h2 i (by omega)] at ho; cases ho
 ·unfold Lib.contains
  rw [h1]
  exact decide_eq_true (by omega)
theorem Vn {s sub:List UInt8}(h:∀ i,i+sub.length≤s.length→((s.take (i+sub.length)).drop i == sub)=false)(hne:sub≠[]):Lib.contains s sub=false:=by
 rcases Lib.index_spec s sub with ⟨h1,_⟩ | ⟨j,h1,h2,h3,_⟩
 ·unfold Lib.contains
  rw [h1]; rfl
 ·rcases Lib.occAt_room h3 with hr | hr
  ·have:=h j hr
   rw [Lib.occAt_iff_take s sub j hr] at h3
   rw [List.drop_take] at this
   have e:j+sub.length - j=sub.length:=by omega
   rw [e,h3] at this
   cases this
  ·exact absurd hr hne
set_option maxRecDepth 100000 in
theorem U15:kw.all (fun c=>Kb c.toNat||c == 32)=true:=by decide
theorem Lp {s sub:List UInt8}(h:Lib.contains s sub=true)(hne:sub≠[]):∀ c∈sub,c∈s:=by
 rcases Lib.index_spec s sub with ⟨h1,_⟩ | ⟨j,h1,h2,h3,_⟩
 ·unfold Lib.contains at h
  rw [h1] at h
  cases h
 ·rcases Lib.occAt_room h3 with hr | hr
  ·rw [Lib.occAt_iff_take s sub j hr] at h3
   have e:(s.drop j).take sub.length=sub:=by simpa using h3
   intro c hc
   rw [← e] at hc
   exact List.mem_of_mem_drop (List.mem_of_mem_take hc)
  ·exact absurd hr hne
theorem Gz:ld 32=false:=by decide
theorem V15 {s:List UInt8}(h:s.all ld=true):Lib.contains s [32]=false:=by
 cases hc:Lib.contains s [32] with
 | false=>rfl
 | true=>
  have:=Lp hc (by simp) 32 (by simp)
  have:=List.all_eq_true.1 h 32 this
  rw [Gz] at this
  cases this
theorem W17 {s:List UInt8}(h:s.all ld=true)(hc:Lib.contains kw ([32]++s++[32])=true):s.all (fun c=>Kb c.toNat)=true:=by
 rw [List.all_eq_true]
 intro c hcs
 have h1:=Lp hc (by simp) c (by simp [hcs])
 have h2:=List.all_eq_true.1 U15 c h1
 have h3:=List.all_eq_true.1 h c hcs
 cases hl:Kb c.toNat with
 | true=>rfl
 | false=>
  rw [hl,Bool.false_or,beq_iff_eq] at h2
  subst h2
  rw [Gz] at h3
  cases h3
theorem Sl (n:Int):U6 n=some (Kb n):=rfl
theorem Lj (n:Int):Q5 n=some (D7 n):=rfl
theorem Vt (s:Str)(hs:s.length≤BB):∀ (r:Str) (k:Nat),s.drop k=r→V3 s k=some (Fk k r && !(s == []))
 | [],k,h=>by rw [V3,(Ha h).1]; simp [Fk]
 | c::r,k,h=>by
  obtain ⟨h1,h2,h3,h4,_⟩:=Wc h
  have ih:=Vt s hs r (k+1) h3
  rw [V3,h1,if_pos rfl,h2,ob,Sl,ob,w1 (by omega),ih]
  have e:((k:Int) == 0)=(k == 0):=by cases k <;> rfl
  simp only [e,Fk,U18,bne]
  cases hl:Kb c.toNat <;> cases hk:k == 0 <;> cases hd:D7 c.toNat <;> simp [Lj,hd]
theorem P14 (s:Str)(hs:s.length≤BB):Sb s=some (word s):=Vt s hs s 0 rfl
theorem Wn (s t:Str)(hs:s.length≤4000000000):Kc s t=some (Lib.contains s t):=by
 unfold Kc
 rw [if_pos (decide_eq_true (by omega))]
theorem Tq (s:Str)(hs:s.length≤4000000000):R5 s=some (Qn s):=by
 unfold R5
 have h1:decide (1+s.length≤maxLen)=true:=decide_eq_true (by unfold maxLen; omega)
 have h2:decide (([32]++s).length+1≤maxLen)=true:=decide_eq_true (by unfold maxLen; simp; omega)
 rw [Wn s _ hs]
 have h3:=Wn kw (([32]++s)++[32]) (by rw [Kp]; omega)
 unfold kw at h3
 unfold Qn kw
 rw [h1,h2,h3]
 cases s == [] <;> cases Lib.contains s [32] <;> simp
theorem Q14 (s:Str)(hs:s.length≤BB):Y8 s=some (Ut s):=by
 unfold Y8 Tb Ut
 rw [P14 s hs]
 cases h:decide ((s.length:Int)≤12) with
 | false=>simp
 | true=>
  have h':s.length≤12:=by have:=of_decide_eq_true h; omega
  rw [Tq s (by omega)]
  cases word s <;> simp
theorem Gk (n:Int):Qg n=some (Kb n):=rfl
theorem Tl (n:Int):Vh n=some (D7 n):=rfl
theorem C11 (s:Str)(hs:s.length≤BB):∀ (r:Str) (k:Nat),s.drop k=r→Yd s k=some ((k+B4 r:Nat):Int)
 | [],k,h=>by rw [Yd,(Ha h).1]; simp [B4,ob]
 | c::r,k,h=>by
  obtain ⟨h1,h2,h3,h4,_⟩:=Wc h
  have ih:=C11 s hs r (k+1) h3
  rw [Yd,h1,if_pos rfl,h2,ob,if_pos rfl,Gk,ob,w1 (by omega),ih]
  simp only [B4,ld]
  cases hl:Kb c.toNat <;> cases hd:D7 c.toNat <;> simp [Tl,hd,ob] <;> omega
theorem W15 (s:Str)(hs:s.length≤4000000000):∀ (n k:Nat),n+k=163→(∀ i,i < k→i+([32]++s++[32]).length≤kw.length→((kw.take (i+([32]++s++[32]).length)).drop i == [32]++s++[32])=false)→
  G9 s k=some (Lib.contains kw ([32]++s++[32])):=by
 have hl:([32]++s++[32]).length=s.length+2:=by simp
 intro n
 induction n with
 | zero=>
  intro k hk hi
  rw [G9,wr (n:=(k:Int)+_) (by omega) (by omega),wr (by omega) (by omega),if_neg (by simp; omega),Vn (fun i h=>hi i (by rw [Kp] at h; omega) h) (by simp)]
 | succ n ih=>
  intro k hk hi
  rw [G9,wr (n:=(k:Int)+_) (by omega) (by omega),wr (by omega) (by omega)]
  by_cases hr:k+([32]++s++[32]).length≤kw.length
  ·have hr':=hr
   rw [Kp,hl] at hr'
   rw [if_pos (decide_eq_true (by omega))]
   have hs2:slc kw (k:Int) ((k:Int)+(s.length:Int)+2)=some ((kw.take (k+([32]++s++[32]).length)).drop k):=by
    unfold slc
    rw [if_pos ⟨by omega,by omega,by rw [Kp]; omega⟩,hl]
    rw [show ((k:Int)+(s.length:Int)+2).toNat=k+(s.length+2) by omega]
    rfl
   unfold kw at hs2
   rw [hs2,ob,if_pos (decide_eq_true (by unfold maxLen; omega)),if_pos (decide_eq_true (by unfold maxLen; simp; omega))]
   cases he:((kw.take (k+([32]++s++[32]).length)).drop k == [32]++s++[32]) with
   | true=>
    have:=Fz hr he
    rw [this]
    unfold kw at he
    rw [he,if_pos rfl]
   | false=>
    have he':=he
    unfold kw at he'
    rw [he',if_neg (by simp),w1 (by unfold BB; omega)]
    refine ih (k+1) (by omega) fun i hik=>?_
    rcases Nat.lt_or_eq_of_le (Nat.le_of_lt_succ hik) with h | h
    ·exact hi i h
    ·subst h; exact fun _=>he
  ·have hr':=hr
   rw [Kp,hl] at hr'
   rw [if_neg (by simp; omega),Vn (fun i h=>hi i (by omega) h) (by simp)]
theorem Hz (s:Str)(hs:s.length≤4000000000):∀ (r:Str) (k:Nat),s.drop k=r→H9 s k=some (bif r.all (fun c=>Kb c.toNat) then Lib.contains kw ([32]++s++[32]) else false)
 | [],k,h=>by rw [H9,(Ha h).1,if_neg (by simp)]; exact W15 s hs 163 0 rfl (fun i h=>by omega)
 | c::r,k,h=>by
  obtain ⟨h1,h2,h3,h4,_⟩:=Wc h
  have ih:=Hz s hs r (k+1) h3
  rw [H9,h1,if_pos rfl,h2,ob,Gk,ob,w1 (by unfold BB; omega),ih,List.all_cons]
  cases Kb c.toNat <;> simp
theorem Wu (s:Str)(hs:s.length≤4000000000):Ih s=some (P12 s):=by
 unfold Ih P12
 have:=Hz s hs s 0 rfl
 rw [show (0:Int)=((0:Nat):Int) from rfl,this]
 cases ((s.length:Int) == ((0:Nat):Int)) <;> simp
end Go.Proofs.YtmnhfbekncjnfaaDoor

set_option linter.unusedSimpArgs false
namespace Go.Proofs.YtmnhfbekncjnfaaDoor
open Go.Am
theorem J0.ind {P:J0→Prop}(h:∀ t:J0,(∀ x∈t.Of,P x)→P t):∀ t,P t:=by
 intro t
 refine J0.rec (motive_1:=P) (motive_2:=fun l=>∀ x∈l,P x) ?_ ?_ ?_ t
 ·intro k l h' s n ns of ih
  exact h _ ih
 ·intro x hx; cases hx
 ·intro x r hx hr y hy
  cases hy with
  | head=>exact hx
  | tail _ hy=>exact hr y hy
mutual
def J0.depth:J0→Nat
 | .mk _ _ _ _ _ _ of=>J0.depths of+1
def J0.depths:List J0→Nat
 | []=>0
 | t::r=>max (J0.depth t) (J0.depths r)
end
theorem J0.depth_eq (t:J0):t.depth=J0.depths t.Of+1:=by cases t; simp [J0.depth,J0.Of]
def R14 (a b c:Int):Bool:=bif decide (a≥b) then decide (a≤c) else false
mutual
def J0.all (p:J0→Bool):J0→Bool
 | .mk k l h s n ns of=>p (.mk k l h s n ns of)&&J0.alls p of
def J0.alls (p:J0→Bool):List J0→Bool
 | []=>true
 | t::r=>J0.all p t&&J0.alls p r
end
theorem J0.all_eq (p:J0→Bool)(t:J0):t.all p=(p t&&J0.alls p t.Of):=by cases t; rfl
mutual
def J0.nodes:J0→Nat
 | .mk _ _ _ _ _ _ of=>J0.nodess of+1
def J0.nodess:List J0→Nat
 | []=>0
 | t::r=>J0.nodes t+J0.nodess r
end
theorem J0.nodes_eq (t:J0):t.nodes=J0.nodess t.Of+1:=by cases t; rfl
theorem Iz (a b c:Bool):(a || !b || !c)=(a || !(b&&c)):=by cases a <;> cases b <;> cases c <;> rfl
def Xu (n d:Int)(f m u:Bool):Int:=
 bif (bif decide (n > 1024) then true else decide (d > 12)) then 4 else bif f then 1 else bif m then 7 else bif u then 3 else 0
mutual
def J0.some (p:J0→Bool):J0→Bool
 | .mk k l h s n ns of=>p (.mk k l h s n ns of)||J0.somes p of
def J0.somes (p:J0→Bool):List J0→Bool
 | []=>false
 | t::r=>J0.some p t||J0.somes p r
end
def eqL {α:Type}(p:α→α→Bool):List α→List α→Bool
 | [],[]=>true
 | x::r,y::s=>p x y&&eqL p r s
 | _,_=>false
theorem D11 {α:Type}(p:α→α→Bool):∀ {l m:List α},l.length≠m.length→eqL p l m=false
 | [],[],h=>absurd rfl h
 | [],_::_,_=>rfl
 | _::_,[],_=>rfl
 | x::r,y::s,h=>by rw [eqL,D11 p (l:=r) (m:=s) (by simpa using h),Bool.and_false]
mutual
def J0.same:J0→J0→Bool
 | .mk k l h s n ns of,t=>k == t.Kind&&l == t.Low&&h == t.High&&s == t.Size&&n == t.Name&&eqL (fun x y=>x == y) ns t.Names&&J0.sames of t.Of
def J0.sames:List J0→List J0→Bool
 | [],[]=>true
 | x::r,y::s=>J0.same x y&&J0.sames r s
 | [],_::_=>false
 | _::_,[]=>false
end
theorem J0.sames_eq:∀ l m:List J0,J0.sames l m=eqL J0.same l m
 | [],[]=>rfl
 | x::r,y::s=>by simp only [J0.sames,eqL,J0.sames_eq r s]
 | [],_::_=>rfl
 | _::_,[]=>rfl
theorem J0.same_eq (t u:J0):t.same u=(t.Kind == u.Kind&&t.Low == u.Low&&t.High == u.High&&t.Size == u.Size&&t.Name == u.Name&&eqL (fun x y=>x == y) t.Names u.Names&&eqL J0.same t.Of u.Of):=by
 rw [← J0.sames_eq]
 cases t
 rfl
mutual
def J0.left:J0→Int→Int
 | .mk _ _ _ _ _ ns of,n=>J0.lefts of (n - (1+min (ns.length:Int) (n+1)))
def J0.lefts:List J0→Int→Int
 | [],n=>n
 | t::r,n=>bif decide (n≥0) then J0.lefts r (J0.left t n) else n
end
end Go.Proofs.YtmnhfbekncjnfaaDoor

set_option linter.unusedSimpArgs false
namespace Go.Proofs.YtmnhfbekncjnfaaDoor
open Go.Am
mutual
def J0.bulk:J0→Nat
 | .mk _ _ _ _ n ns of=>1+(1+(1+(1+((n.length+1)+(((ns.map fun s=>s.length+1).sum+1)+((J0.bulks of+1)+0))))))+1
def J0.bulks:List J0→Nat
 | []=>0
 | x::r=>J0.bulk x+J0.bulks r
end
theorem J0.bulk_eq (t:J0):t.bulk=t.Name.length+(t.Names.map fun s=>s.length+1).sum+J0.bulks t.Of+8:=by cases t; simp only [J0.bulk]; omega
theorem J0.bulk_kid {t:J0}:∀ {l:List J0},t∈l→t.bulk≤J0.bulks l
 | x::r,h=>by
  simp only [J0.bulks]
  cases h with
  | head=>omega
  | tail _ h=>have:=J0.bulk_kid h; omega
theorem J0.bulk_len:∀ l:List J0,l.length≤J0.bulks l
 | []=>Nat.le_refl _
 | x::r=>by
  simp only [J0.bulks,List.length_cons]
  have:=J0.bulk_len r
  have:=J0.bulk_eq x
  omega
mutual
theorem J0.nodes_bulk:∀ t:J0,t.nodes≤t.bulk
 | .mk _ _ _ _ _ _ of=>by simp only [J0.nodes,J0.bulk]; have:=J0.nodess_bulk of; omega
theorem J0.nodess_bulk:∀ l:List J0,J0.nodess l≤J0.bulks l
 | []=>Nat.le_refl _
 | x::r=>by simp only [J0.nodess,J0.bulks]; have:=J0.nodes_bulk x; have:=J0.nodess_bulk r; omega
end
theorem bor (a b:Bool):(bif a then true else b)=(a||b):=by cases a <;> rfl
theorem X15 (d:Int)(o:D0):W6 d o=some ⟨o.nodes,max o.depth d,o.badForm,o.badName,o.badNumber⟩:=rfl
theorem Y15 (b:Bool)(o:D0):K3 b o=some ⟨o.nodes,o.depth,o.badForm || !b,o.badName,o.badNumber⟩:=by unfold K3; rw [bor]
theorem Q12 (b:Bool)(o:D0):S4 b o=some ⟨o.nodes,o.depth,o.badForm,o.badName,o.badNumber || !b⟩:=by unfold S4; rw [bor]
theorem R12 (a b c:Int):Qa a b c=some (R14 a b c):=rfl
theorem Z15 (s:Str)(hs:s.length≤BB)(o:D0):M5 s o=some ⟨o.nodes,o.depth,o.badForm,o.badName || !Ut s,o.badNumber⟩:=by
 unfold M5
 rw [Q14 s hs]
 cases h:o.badName <;> simp
theorem A16 (o:D0):N5 o=some (Xu o.nodes o.depth o.badForm o.badName o.badNumber):=by
 unfold N5 Xu
 cases (bif decide (o.nodes > 1024) then true else decide (o.depth > 12)) <;> cases o.badForm <;> cases o.badName <;> cases o.badNumber <;> rfl
def Hk (o:D0)(d:Int)(n m:Nat)(f a u:Bool):D0:=⟨o.nodes+n,max o.depth (d+m),o.badForm || !f,o.badName || !a,o.badNumber || !u⟩
end Go.Proofs.YtmnhfbekncjnfaaDoor

set_option linter.unusedSimpArgs false
namespace Go.Proofs.YtmnhfbekncjnfaaDoor
open Go.Am
end Go.Proofs.YtmnhfbekncjnfaaDoor

set_option linter.unusedSimpArgs false
set_option linter.unusedVariables false
namespace Go.Proofs.YtmnhfbekncjnfaaDoor
open Go.Am
theorem A0.ind {P:A0→Prop}(h:∀ t:A0,(∀ x∈t.Kids,P x)→P t):∀ t,P t:=by
 intro t
 refine A0.rec (motive_1:=P) (motive_2:=fun l=>∀ x∈l,P x) ?_ ?_ ?_ t
 ·intro k l n of ih
  exact h _ ih
 ·intro x hx; cases hx
 ·intro x r hx hr y hy
  cases hy with
  | head=>exact hx
  | tail _ hy=>exact hr y hy
mutual
def A0.depth:A0→Nat
 | .mk _ _ _ of=>A0.depths of+1
def A0.depths:List A0→Nat
 | []=>0
 | t::r=>max (A0.depth t) (A0.depths r)
end
theorem A0.depth_eq (t:A0):t.depth=A0.depths t.Kids+1:=by cases t; simp [A0.depth,A0.Kids]
mutual
def A0.all (p:A0→Bool):A0→Bool
 | .mk k l n of=>p (.mk k l n of)&&A0.alls p of
def A0.alls (p:A0→Bool):List A0→Bool
 | []=>true
 | t::r=>A0.all p t&&A0.alls p r
end
theorem A0.all_eq (p:A0→Bool)(t:A0):t.all p=(p t&&A0.alls p t.Kids):=by cases t; rfl
mutual
def A0.nodes:A0→Nat
 | .mk _ _ _ of=>A0.nodess of+1
def A0.nodess:List A0→Nat
 | []=>0
 | t::r=>A0.nodes t+A0.nodess r
end
theorem A0.nodes_eq (t:A0):t.nodes=A0.nodess t.Kids+1:=by cases t; rfl
mutual
def A0.bulk:A0→Nat
 | .mk _ _ n ks=>1+(1+((n.length+1)+((A0.bulks ks+1)+0)))+1
def A0.bulks:List A0→Nat
 | []=>0
 | x::r=>A0.bulk x+A0.bulks r
end
theorem A0.bulk_eq (t:A0):t.bulk=t.Name.length+A0.bulks t.Kids+5:=by cases t; simp only [A0.bulk]; omega
theorem A0.bulk_kid {t:A0}:∀ {l:List A0},t∈l→t.bulk≤A0.bulks l
 | x::r,h=>by
  simp only [A0.bulks]
  cases h with
  | head=>omega
  | tail _ h=>have:=A0.bulk_kid h; omega
theorem A0.bulk_len:∀ l:List A0,l.length≤A0.bulks l
 | []=>Nat.le_refl _
 | x::r=>by
  simp only [A0.bulks,List.length_cons]
  have:=A0.bulk_len r
  have:=A0.bulk_eq x
  omega
mutual
theorem A0.nodes_bulk:∀ t:A0,t.nodes≤t.bulk
 | .mk _ _ _ of=>by simp only [A0.nodes,A0.bulk]; have:=A0.nodess_bulk of; omega
theorem A0.nodess_bulk:∀ l:List A0,A0.nodess l≤A0.bulks l
 | []=>Nat.le_refl _
 | x::r=>by simp only [A0.nodess,A0.bulks]; have:=A0.nodes_bulk x; have:=A0.nodess_bulk r; omega
end
def OkE (t:A0):Prop:=t.bulk≤BB
theorem OkE.kid {t x:A0}(h:OkE t)(hx:x∈t.Kids):OkE x:=by
 unfold OkE at *
 have:=A0.bulk_kid hx
 have:=A0.bulk_eq t
 omega
theorem OkE.kids {t:A0}(h:OkE t):t.Kids.length≤BB:=by
 unfold OkE at *
 have:=A0.bulk_len t.Kids
 have:=A0.bulk_eq t
 omega
theorem OkE.name {t:A0}(h:OkE t):t.Name.length≤BB:=by
 unfold OkE at *
 have:=A0.bulk_eq t
 omega
theorem OkE.nodes {t:A0}(h:OkE t):t.nodes≤BB:=Nat.le_trans (A0.nodes_bulk t) h
def ar (o:Int):Int:=
 bif (bif (bif (bif (o == 0) then true else (o == 1)) then true else (o == 2)) then true else (o == 3)) then 0
 else bif (bif (bif (o == 4) then true else (o == 6)) then true else (o == 7)) then 1
 else bif (bif (o == 5) then true else (bif (decide (o≥8)) then (decide (o≤22)) else false)) then 2
 else bif (o == 23) then 3 else -1
theorem B16 (o:Int):Ca o=some (ar o):=by
 by_cases h:o=23
 ·subst h; rfl
 have h':(o == 23)=false:=beq_eq_false_iff_ne.2 h
 simp only [Ca,C5,F6,ar,h']
 cases o == 0 <;> cases o == 1 <;> cases o == 2 <;> cases o == 3 <;> first | rfl | skip
 cases o == 4 <;> cases o == 6 <;> cases o == 7 <;> first | rfl | skip
 cases o == 5 <;> cases (bif decide (o≥8) then decide (o≤22) else false) <;> rfl
mutual
def A0.place:A0→Bool
 | .mk op _ _ ks=>bif op == 3 then true else bif (bif op == 4 then true else op == 5) then A0.place1 ks else false
def A0.place1:List A0→Bool
 | []=>false
 | x::_=>A0.place x
end
theorem A0.place_eq (e:A0):e.place=(bif e.Op == 3 then true else bif (bif e.Op == 4 then true else e.Op == 5) then A0.place1 e.Kids else false):=by cases e; simp only [A0.place]
theorem b3 {o:Int}(h:(bif o == 4 then true else o == 5)=true):(o == 3)=false:=by
 apply beq_eq_false_iff_ne.2
 rintro rfl
 cases h
theorem S14 (e:A0):Da e=some e.place:=by
 unfold Da
 induction e using A0.ind with
 | h e ih=>
 rw [D5,A0.place_eq]
 cases hb:(bif e.Op == 4 then true else e.Op == 5) with
 | false=>cases e.Op == 3 <;> simp
 | true=>
  rw [b3 hb]
  cases hk:e.Kids with
  | nil=>rfl
  | cons k r=>
   have:=ih k (by rw [hk]; simp)
   have h0:idx (k::r) 0=some k:=rfl
   have h1:(((k::r).length:Int) == 0)=false:=beq_eq_false_iff_ne.2 (by simp only [List.length_cons]; omega)
   simp only [h1,h0,ob,this,cond_true,cond_false,A0.place1]
   simp
def ef1 (e:A0):Bool:=ar e.Op == (e.Kids.length:Int)
def ef2 (e:A0):Bool:=bif e.NV == 0 then true else e.Op == 0
def ef3 (e:A0):Bool:=bif e.Name == [] then true else bif e.Op == 3 then true else e.Op == 4
def ef4 (e:A0):Bool:=bif (bif e.Op == 4 then true else e.Op == 5) then e.place else true
def Dq (e:A0):Bool:=ef1 e&&ef2 e&&ef3 e&&ef4 e
def Fl (e:A0):Bool:=bif (bif e.Op == 3 then true else e.Op == 4) then Ut e.Name else true
def Gl (e:A0):Bool:=bif e.Op == 0 then R14 e.NV 0 1048576 else true
def Ik (e:A0):Int:=Xu e.nodes e.depth (!e.all Dq) (!e.all Fl) (!e.all Gl)
theorem E11 (e:A0)(d:Int)(hd:0≤d)(ht:OkE e)
  (ih:∀ x∈e.Kids,∀ (d:Int) (o:D0),0≤d→d+x.nodes≤4 * BB→0≤o.nodes→o.nodes+x.nodes≤4 * BB→C3 x d o=some (Hk o d x.nodes (x.depth - 1) (x.all Dq) (x.all Fl) (x.all Gl))) :
  ∀ (r:List A0) (k:Nat) (o:D0),e.Kids.drop k=r→d+1+A0.nodess r≤4 * BB→0≤o.nodes→o.nodes+A0.nodess r≤4 * BB→d≤o.depth→
   L2 e d o k=some (Hk o d (A0.nodess r) (A0.depths r) (A0.alls Dq r) (A0.alls Fl r) (A0.alls Gl r))
 | [],k,o,h,_,_,_,h5=>by
  rw [L2,(Ha h).1]
  simp only [Hk,A0.nodess,A0.depths,A0.alls,Bool.not_true,Bool.or_false]
  rw [if_neg (by simp),show o.nodes+((0:Nat):Int)=o.nodes by omega,show max o.depth (d+((0:Nat):Int))=o.depth by omega]
 | x::r,k,o,h,hb,h3,h4,h5=>by
  obtain ⟨e1,e2,e3,e4,e5⟩:=Wc h
  simp only [A0.nodess] at hb h4
  have hdp:1≤x.depth:=by rw [A0.depth_eq]; omega
  have hof:=ht.kids
  unfold BB at hb h4 hof
  rw [L2,e1,if_pos rfl,e2,ob,wr (n:=d+1) (by omega) (by omega),ih x e5 (d+1) o (by omega) (by unfold BB; omega) h3 (by unfold BB; omega),ob,w1 (by unfold BB; omega),
   E11 e d hd ht ih r (k+1) _ e3 (by unfold BB; omega) (by simp only [Hk]; omega) (by simp only [Hk]; unfold BB; omega) (by simp only [Hk]; omega)]
  simp only [Hk,A0.nodess,A0.depths,A0.alls,Iz]
  rw [show o.nodes+(x.nodes:Int)+(A0.nodess r:Nat)=o.nodes+((x.nodes+A0.nodess r:Nat):Int) by omega,
   show max (max o.depth (d+1+((x.depth - 1:Nat):Int))) (d+(A0.depths r:Nat))=max o.depth (d+((max x.depth (A0.depths r):Nat):Int)) by omega]
theorem C16 (e:A0)(ht:OkE e)(d:Int)(o:D0):E3 e d o=L2 e d ⟨o.nodes,o.depth,o.badForm,o.badName || !Fl e,o.badNumber || !Gl e⟩ 0:=by
 rw [E3,Z15 _ ht.name,ob]
 simp only [O3,P3,R12,Q12,ob]
 unfold Fl Gl
 cases (bif e.Op == 3 then true else e.Op == 4) <;> cases e.Op == 0 <;> simp
theorem D16 (e:A0):OkE e→∀ (d:Int) (o:D0),0≤d→d+e.nodes≤4 * BB→0≤o.nodes→o.nodes+e.nodes≤4 * BB→
  C3 e d o=some (Hk o d e.nodes (e.depth - 1) (e.all Dq) (e.all Fl) (e.all Gl)):=by
 induction e using A0.ind with
 | h e ih=>
 intro ht d o hd hb h3 h4
 have h5:=fun o h3 h4 hd'=>E11 e d hd ht (fun x hx=>ih x hx (ht.kid hx)) e.Kids 0 o rfl (by rw [A0.nodes_eq] at hb; omega) h3 h4 hd'
 rw [A0.nodes_eq] at hb h4
 unfold BB at hb h4
 rw [C3]
 simp only [X15,Y15,B16,S14,ob,C16 e ht]
 rw [wr (n:=o.nodes+1) (by omega) (by omega)]
 rw [show ((0:Nat):Int)=0 from rfl] at h5
 have fin:∀ f:Bool,ef4 e=f→L2 e d ⟨o.nodes+1,max o.depth d,(((o.badForm || !ef1 e) || !ef2 e) || !ef3 e) || !f,o.badName || !Fl e,o.badNumber || !Gl e⟩ 0=some (Hk o d e.nodes (e.depth - 1) (e.all Dq) (e.all Fl) (e.all Gl)):=by
  rintro _ rfl
  rw [h5 _ (by simp only; omega) (by simp only; unfold BB; omega) (by simp only; omega)]
  simp only [Hk,A0.all_eq,A0.nodes_eq,A0.depth_eq,Dq,Iz,Bool.or_assoc,← Bool.not_and]
  simp only [Iz,Bool.and_assoc]
  rw [show o.nodes+1+(A0.nodess e.Kids:Int)=o.nodes+((A0.nodess e.Kids+1:Nat):Int) by omega,show max (max o.depth d) (d+(A0.depths e.Kids:Int))=max o.depth (d+((A0.depths e.Kids+1 - 1:Nat):Int)) by omega]
 cases hb:(bif e.Op == 4 then true else e.Op == 5) with
 | true=>
  rw [if_pos rfl]
  exact fin e.place (by unfold ef4; rw [hb]; rfl)
 | false=>
  rw [if_neg (by simp)]
  have:=fin true (by unfold ef4; rw [hb]; rfl)
  rw [Bool.not_true,Bool.or_false] at this
  exact this
theorem Jz (e:A0)(ht:OkE e):R6 e=some (Ik e):=by
 have hn:=ht.nodes
 unfold BB at hn
 have hp:1≤e.depth:=by rw [A0.depth_eq]; omega
 unfold R6
 rw [D16 e ht 1 _ (by omega) (by unfold BB; omega) (by simp) (by simp only; unfold BB; omega),ob,A16,ob]
 unfold Hk Ik
 simp only [Bool.false_or]
 rw [show (0:Int)+(e.nodes:Int)=e.nodes by omega,show max 0 ((1:Int)+((e.depth - 1:Nat):Int))=e.depth by omega]
end Go.Proofs.YtmnhfbekncjnfaaDoor

set_option linter.unusedSimpArgs false
set_option linter.unusedVariables false
namespace Go.Proofs.YtmnhfbekncjnfaaDoor
open Go.Am
end Go.Proofs.YtmnhfbekncjnfaaDoor

set_option linter.unusedSimpArgs false
set_option linter.unusedVariables false
namespace Go.Proofs.YtmnhfbekncjnfaaDoor
open Go.Am
theorem P19 {α:Type}{l:List α}{k:Nat}(h:k < l.length):∃ y,idx l (k:Int)=some y∧l.drop k=y::l.drop (k+1)∧y∈l:=by
 refine ⟨l[k],?_,List.drop_eq_getElem_cons h,List.getElem_mem h⟩
 unfold idx
 rw [if_pos (by omega)]
 simp [h]
theorem z0:(0:Int)=((0:Nat):Int):=rfl
theorem Kz {α:Type}{p:α→α→Bool}:∀ l:List α,(∀ x∈l,p x x=true)→eqL p l l=true
 | [],_=>rfl
 | x::r,h=>by rw [eqL,h x List.mem_cons_self,Kz r fun y hy=>h y (List.mem_cons_of_mem _ hy)]; rfl
mutual
def A0.same:A0→A0→Bool
 | .mk o n nm ks,t=>o == t.Op&&n == t.NV&&nm == t.Name&&A0.sames ks t.Kids
def A0.sames:List A0→List A0→Bool
 | [],[]=>true
 | x::r,y::s=>A0.same x y&&A0.sames r s
 | [],_::_=>false
 | _::_,[]=>false
end
theorem A0.sames_eq:∀ l m:List A0,A0.sames l m=eqL A0.same l m
 | [],[]=>rfl
 | x::r,y::s=>by simp only [A0.sames,eqL,A0.sames_eq r s]
 | [],_::_=>rfl
 | _::_,[]=>rfl
theorem A0.same_eq (t u:A0):t.same u=(t.Op == u.Op&&t.NV == u.NV&&t.Name == u.Name&&eqL A0.same t.Kids u.Kids):=by
 rw [← A0.sames_eq]
 cases t
 rfl
theorem T14 (t u:A0)(ht:OkE t)(hl:t.Kids.length=u.Kids.length)(ih:∀ x∈t.Kids,∀ y,F3 x y=some (x.same y)) :
  ∀ (r:List A0) (k:Nat),t.Kids.drop k=r→L3 t u k=some (eqL A0.same r (u.Kids.drop k))
 | [],k,h=>by
  rw [L3,(Ha h).1,if_neg (by simp),List.drop_eq_nil_of_le (by have:=(Ha h).2; omega)]; rfl
 | x::r,k,h=>by
  obtain ⟨e1,e2,e3,e4,e5⟩:=Wc h
  obtain ⟨y,f1,f2,f3⟩:=P19 (l:=u.Kids) (k:=k) (by omega)
  have:=ht.kids
  rw [L3,e1,if_pos rfl,e2,ob,f1,ob,ih x e5 y,ob,w1 (by omega),T14 t u ht hl ih r (k+1) e3,f2,eqL]
  cases x.same y <;> simp
theorem S12 (t:A0):OkE t→∀ u,F3 t u=some (t.same u):=by
 induction t using A0.ind with
 | h t ih=>
 intro ht u
 have ih':=fun x hx=>ih x hx (ht.kid hx)
 rw [F3,A0.same_eq]
 by_cases hl:t.Kids.length=u.Kids.length
 ·have h4:=T14 t u ht hl ih' t.Kids 0 rfl
  have hb:(bif (bif (bif (t.Op != u.Op) then true else (t.NV != u.NV)) then true else (!(t.Name == u.Name))) then true else ((t.Kids.length:Int) != (u.Kids.length:Int))) = !(t.Op == u.Op&&t.NV == u.NV&&t.Name == u.Name):=by
   have:((t.Kids.length:Int) != (u.Kids.length:Int))=false:=by simp; omega
   rw [this]
   unfold bne
   cases t.Op == u.Op <;> cases t.NV == u.NV <;> cases t.Name == u.Name <;> rfl
  rw [hb,z0,h4]
  cases (t.Op == u.Op&&t.NV == u.NV&&t.Name == u.Name) <;> simp
 ·have:((t.Kids.length:Int) != (u.Kids.length:Int))=true:=by simp; omega
  rw [this,D11 _ hl,Bool.and_false]
  generalize (bif (bif (t.Op != u.Op) then true else (t.NV != u.NV)) then true else (!(t.Name == u.Name)))=b
  cases b <;> rfl
theorem T12 (t:A0):t.same t=true:=by
 induction t using A0.ind with
 | h t ih=>
 rw [A0.same_eq,Kz t.Kids ih]
 simp
end Go.Proofs.YtmnhfbekncjnfaaDoor

namespace Go.Proofs.YtmnhfbekncjnfaaDoor
open Go.Am
def skp:Bool→List UInt8→Nat
 | _,[]=>0
 | false,c::r=>if (c.toNat:Int) == 35 then skp true r+1 else if (c.toNat:Int) == 32||((c.toNat:Int) == 9||(c.toNat:Int) == 10) then skp false r+1 else 0
 | true,c::r=>if (c.toNat:Int) == 10 then skp false r+1 else skp true r+1
theorem Af:∀ (b:Bool) (r:List UInt8),skp b r≤r.length
 | true,[]=>Nat.le_refl _
 | false,[]=>Nat.le_refl _
 | false,c::r=>by
  have h1:=Af true r
  have h2:=Af false r
  simp only [skp,List.length_cons]
  split
  ·omega
  ·split <;> omega
 | true,c::r=>by
  have h1:=Af true r
  have h2:=Af false r
  simp only [skp,List.length_cons]
  split <;> omega
theorem Yv (s:Str)(hs:s.length≤BB):∀ (r:Str) (k:Nat),s.drop k=r→A7 s k=some ((k+skp false r:Nat):Int)∧D8 s k=some ((k+skp true r:Nat):Int)
 | [],k,h=>by
  have h1:A7 s k=some ((k+skp false []:Nat):Int):=by rw [A7,(Ha h).1]; simp [skp]
  refine ⟨h1,?_⟩
  rw [D8,(Ha h).1]
  simpa [ob,skp] using h1
 | c::r,k,h=>by
  obtain ⟨h1,h2,h3,h4,_⟩:=Wc h
  obtain ⟨i1,i2⟩:=Yv s hs r (k+1) h3
  have e2:((c.toNat:Int) == 10)=false→D8 s k=some ((k+skp true (c::r):Nat):Int):=fun hc=>by
   rw [D8,h1,if_pos rfl,h2,ob]
   have:((c.toNat:Int) != 10)=true:=by simp only [bne,hc]; rfl
   rw [this,cond_true,if_pos rfl,w1 (by omega),i2]
   simp only [skp,hc]
   simp; omega
  have e1:A7 s k=some ((k+skp false (c::r):Nat):Int):=by
   rw [A7,h1,if_pos rfl,h2]
   simp only [ob]
   cases h35:(c.toNat:Int) == 35 with
   | true=>
    rw [if_pos rfl,e2 (by have:=eq_of_beq h35; rw [this]; rfl)]
    simp only [skp,h35,if_true]
    have:((c.toNat:Int) == 10)=false:=by have:=eq_of_beq h35; rw [this]; rfl
    simp [this]
   | false=>
    rw [if_neg (by simp)]
    simp only [w1 (show k≤BB by omega),i1,skp,h35]
    by_cases h32:(c.toNat:Int)=32 <;> by_cases h9:(c.toNat:Int)=9 <;> by_cases h10:(c.toNat:Int)=10 <;> simp [ob,h32,h9,h10] <;> omega
  refine ⟨e1,?_⟩
  cases h10:(c.toNat:Int) == 10 with
  | false=>exact e2 h10
  | true=>
   rw [D8,h1,if_pos rfl,h2,ob]
   have:((c.toNat:Int) != 10)=false:=by simp only [bne,h10]; rfl
   rw [this,cond_true,if_neg (by simp),e1]
   have h35:((c.toNat:Int) == 35)=false:=by have:=eq_of_beq h10; rw [this]; rfl
   simp [skp,h10,h35]
theorem E16 (s:Str)(hs:s.length≤BB)(k:Nat):Uh s k=some ((k+skp false (s.drop k):Nat):Int):=(Yv s hs _ k rfl).1
theorem X17 {s:List UInt8}(hne:s≠[])(hall:s.all ld=true):P12 s=Qn s:=by
 unfold P12 Qn
 rw [V15 hall]
 have hz:((s.length:Int) == 0)=false:=beq_eq_false_iff_ne.2 (by have:=List.length_pos_iff.2 hne; omega)
 have hn:(s == [])=false:=by cases s with
  | nil=>exact absurd rfl hne
  | cons _ _=>rfl
 rw [hz,hn]
 cases hk:Lib.contains kw ([32]++s++[32]) with
 | false=>simp
 | true=>rw [W17 hall hk]; rfl
theorem Lz (s:Str)(hs:s.length≤BB):∀ (r:Str) (k:Nat),s.drop k=r→K5 s k=some ((k+B4 r:Nat):Int)
 | [],k,h=>by rw [K5,(Ha h).1]; simp [B4,ob]
 | c::r,k,h=>by
  obtain ⟨h1,h2,h3,h4,_⟩:=Wc h
  have ih:=Lz s hs r (k+1) h3
  rw [K5,h1,if_pos rfl,h2,ob,if_pos rfl,Sl,ob,w1 (by omega),ih]
  simp only [B4,ld]
  cases hl:Kb c.toNat <;> cases hd:D7 c.toNat <;> simp [Lj,hd,ob] <;> omega
theorem Zv:∀ r:List UInt8,(r.take (B4 r)).all ld=true
 | []=>rfl
 | c::r=>by
  simp only [B4]
  cases h:ld c with
  | false=>rfl
  | true=>simp only [cond_true,List.take_succ_cons,List.all_cons,h,Zv r]; rfl
def nv (n:Nat)(l:List UInt8):Nat:=l.foldl (fun n c=>10 * n+(c.toNat - 48)) n
theorem Xm (n:Nat):nv n []=n:=rfl
theorem Jh (n:Nat)(c:UInt8)(r:List UInt8):nv n (c::r)=nv (10 * n+(c.toNat - 48)) r:=by unfold nv; rw [List.foldl_cons]
theorem C17 (r:List UInt8):∀ n:Nat,n≤nv n r:=by
 induction r with
 | nil=>intro n; rw [Xm]; exact Nat.le_refl _
 | cons c r ih=>intro n; rw [Jh]; have:=ih (10 * n+(c.toNat - 48)); omega
def Yu (n:Nat):Int:=if n > 1048576 then 3 else 0
theorem Sr {n:Nat}(h:n > 1048576):Yu n=3:=if_pos h
theorem F11 {n:Nat}(h:n≤1048576):Yu n=0:=if_neg (by omega)
def Hl (w:List UInt8):Bool:=decide ((w.length:Int) > 1)&&((w.getD 0 0).toNat:Int) == 48
def Ul (w:List UInt8):Int:=if w.all (fun c=>D7 c.toNat) && !Hl w then Yu (nv 0 w) else 6
theorem Pf {n:Nat}:D7 n=true ↔ 48≤n∧n≤57:=by
 unfold D7
 by_cases h:48≤n
 ·rw [show decide ((n:Int)≥48)=true from decide_eq_true (by omega),cond_true,decide_eq_true_iff]; omega
 ·rw [show decide ((n:Int)≥48)=false from decide_eq_false (by omega),cond_false]; simp; omega
theorem F16 {c:UInt8}(h:D7 c.toNat=true):IntKind.i64.wrap (IntKind.u8.wrap ((c.toNat:Int) - 48))=((c.toNat - 48:Nat):Int):=by
 have:=Pf.1 h
 rw [J17 (by omega) (by omega),wr (by omega) (by omega)]; omega
theorem Aw (s:Str)(n v7:Int):M3 s n v7=if (decide (v7 < ((s).length:Int)))=true then
  idx s v7>>=fun x1=>
  Q5 (x1.toNat:Int)>>=fun x2=>
  if (!x2)=true then
   some 6
  else
   idx s v7>>=fun x3=>
   M3 s (min (IntKind.i64.wrap ((IntKind.i64.wrap (10 * n))+(IntKind.i64.wrap (IntKind.u8.wrap ((x3.toNat:Int) - 48))))) 1048577) (IntKind.i64.wrap (v7+1))
 else
  idx s 0>>=fun x4=>
  if (bif ((x4.toNat:Int) == 48) then (decide (((s).length:Int) > 1)) else false)=true then
   some 6
  else
   if (decide (n > 1048576))=true then
    some 3
   else
    some 0:=M3.eq_1 s n v7
theorem U12 (s:Str)(hs:s.length≤BB)(hne:s≠[]):∀ (r:Str) (k m:Nat) (n:Int),s.drop k=r→(m≤1048576→n=m)→(m > 1048576→n=1048577)→
  M3 s n k=some (if r.all (fun c=>D7 c.toNat) && !Hl s then Yu (nv m r) else 6):=by
 intro r
 induction r with
 | nil=>
  intro k m n h hn hn'
  refine (Aw s n k).trans ?_
  rw [(Ha h).1,if_neg (by simp)]
  have h0:idx s 0=some (s.getD 0 0):=getD_some (List.length_pos_iff.2 hne)
  rw [h0,ob]
  have hb:(bif (((s.getD 0 0).toNat:Int) == 48) then decide ((s.length:Int) > 1) else false)=Hl s:=by
   unfold Hl
   cases ((s.getD 0 0).toNat:Int) == 48 <;> simp
  rw [hb]
  rw [Xm,List.all_nil,Bool.true_and]
  rcases Bool.eq_false_or_eq_true (Hl s) with hz | hz
  ·rw [hz,if_pos rfl,Bool.not_true,if_neg (by simp)]
  ·rw [hz,if_neg (by simp),Bool.not_false,if_pos rfl]
   rcases Nat.lt_or_ge 1048576 m with hm | hm
   ·rw [Sr hm,if_pos (decide_eq_true (by have:=hn' hm; omega))]
   ·rw [F11 hm,if_neg (by have:=hn hm; simp; omega)]
 | cons c r ihr=>
  intro k m n h hn hn'
  obtain ⟨h1,h2,h3,h4,_⟩:=Wc h
  refine (Aw s n k).trans ?_
  rw [h1,if_pos rfl,h2,ob,Lj,ob]
  cases hd:D7 c.toNat with
  | false=>simp [hd]
  | true=>
   have hc:=Pf.1 hd
   have hnn:0≤n∧n≤1048577:=by
    by_cases hm:m > 1048576
    ·have:=hn' hm; omega
    ·have:=hn (Nat.le_of_not_lt hm); omega
   have e:IntKind.i64.wrap (IntKind.i64.wrap (10 * n)+IntKind.i64.wrap (IntKind.u8.wrap ((c.toNat:Int) - 48)))=10 * n+((c.toNat - 48:Nat):Int):=by
    rw [F16 hd,wr (n:=10 * _) (by omega) (by omega),wr (by omega) (by omega)]
   have ih:=ihr (k+1) (10 * m+(c.toNat - 48)) (min (10 * n+((c.toNat - 48:Nat):Int)) 1048577) h3 (fun hm=>by have:=hn (by omega); omega) (fun hm=>by
    by_cases hm2:m > 1048576
    ·have:=hn' hm2; omega
    ·have:=hn (Nat.le_of_not_lt hm2); omega)
   simp only [Bool.not_true,Bool.false_eq_true,if_false,ob,e,w1 (show k≤BB by omega)]
   rw [ih,List.all_cons,hd,Bool.true_and]
   rw [Jh]
theorem V12 (s:Str)(hs:s.length≤BB)(hne:s≠[]):Rb s=some (Ul s):=U12 s hs hne s 0 0 0 rfl (fun _=>rfl) (fun h=>by omega)
theorem Bw (s:Str)(hs:s.length≤BB):∀ (r:Str) (k m:Nat),s.drop k=r→m≤1048576→r.all (fun c=>D7 c.toNat)=true→P7 s m k=some (Yu (nv m r)):=by
 intro r
 induction r with
 | nil=>intro k m h hm _; rw [P7,(Ha h).1,if_neg (by simp)]; rw [Xm,F11 hm]
 | cons c r ihr=>
  intro k m h hm ha
  obtain ⟨h1,h2,h3,h4,_⟩:=Wc h
  rw [List.all_cons,Bool.and_eq_true] at ha
  have hc:=Pf.1 ha.1
  have e:IntKind.i64.wrap (IntKind.i64.wrap ((m:Int) * 10)+IntKind.i64.wrap (IntKind.u8.wrap ((c.toNat:Int) - 48)))=((10 * m+(c.toNat - 48):Nat):Int):=by
   rw [F16 ha.1,wr (n:=(m:Int) * 10) (by omega) (by omega),wr (by omega) (by omega)]; omega
  rw [P7,h1,if_pos rfl,h2,ob,e]
  rw [Jh]
  by_cases hb:10 * m+(c.toNat - 48) > 1048576
  ·rw [if_pos (decide_eq_true (by omega)),Sr (by have:=C17 r (10 * m+(c.toNat - 48)); omega)]
  ·rw [if_neg (by simp; omega),w1 (by omega)]
   exact ihr (k+1) _ h3 (by omega) ha.2
theorem Cw (s:Str)(hs:s.length≤BB)(hall:(v:Int)→P7 s 0 0=some v→True):∀ (r:Str) (k:Nat),s.drop k=r→Ab s k=if r.all (fun c=>D7 c.toNat) then P7 s 0 0 else some 6
 | [],k,h=>by rw [Ab,(Ha h).1,if_neg (by simp)]; rfl
 | c::r,k,h=>by
  obtain ⟨h1,h2,h3,h4,_⟩:=Wc h
  rw [Ab,h1,if_pos rfl,h2,ob,Tl,ob]
  cases hd:D7 c.toNat with
  | false=>simp [hd]
  | true=>simp only [Bool.not_true,Bool.false_eq_true,if_false,w1 (show k≤BB by omega),Cw s hs hall r (k+1) h3,List.all_cons,hd,Bool.true_and]
theorem Mz (s:Str)(hs:s.length≤BB)(hne:s≠[]):Dk s=some (Ul s):=by
 unfold Dk Ul
 have h0:idx s 0=some (s.getD 0 0):=getD_some (List.length_pos_iff.2 hne)
 have hr:=Cw s hs (fun _ _=>trivial) s 0 rfl
 rw [h0,show (0:Int)=((0:Nat):Int) from rfl,hr]
 unfold Hl
 cases hl:decide ((s.length:Int) > 1) with
 | false=>
  simp only [Bool.false_eq_true,if_false,ob,cond_false,Bool.false_and,Bool.not_false,Bool.and_true]
  cases ha:s.all (fun c=>D7 c.toNat) with
  | false=>rfl
  | true=>exact Bw s hs s 0 0 rfl (by omega) ha
 | true=>
  simp only [if_true,ob,cond_true,Bool.true_and]
  cases hz:((s.getD 0 0).toNat:Int) == 48 with
  | true=>simp
  | false=>
   simp only [Bool.false_eq_true,if_false,Bool.not_false,Bool.and_true]
   cases ha:s.all (fun c=>D7 c.toNat) with
   | false=>rfl
   | true=>exact Bw s hs s 0 0 rfl (by omega) ha
def Ue (s:List UInt8):Bool:=s == [46,46]||s == [61,61]||s == [33,61]||s == [60,61]||s == [62,61]||s == [38,38]||s == [124,124]
def W12:List UInt8:=[59,58,44,46,61,43,45,42,47,37,60,62,33,63,40,41,91,93,123,125]
def Jk (c:UInt8):Bool:=W12.contains c
theorem M10 (a b:UInt8):Ga [a,b]=some (Ue [a,b]):=by
 unfold Ga G6 Ue
 cases ([a,b] == [46,46]:Bool) <;> cases ([a,b] == [61,61]:Bool) <;> cases ([a,b] == [33,61]:Bool) <;> cases ([a,b] == [60,61]:Bool) <;> cases ([a,b] == [62,61]:Bool) <;> cases ([a,b] == [38,38]:Bool) <;> cases ([a,b] == [124,124]:Bool) <;> simp
set_option maxRecDepth 100000 in
theorem N10:∀ a:UInt8,Ga [a]=some (Jk a):=by
 have:∀ n:Fin 256,Ga [UInt8.ofNat n.val]=some (Jk (UInt8.ofNat n.val)):=by decide
 intro a
 have h:=this ⟨a.toNat,a.toNat_lt⟩
 simpa using h
end Go.Proofs.YtmnhfbekncjnfaaDoor

namespace Go.Proofs.YtmnhfbekncjnfaaDoor
open Go.Am
theorem U14 (c:UInt8):∀ l:List UInt8,0≤Lib.indexByte l c ↔ l.contains c=true
 | []=>by simp [Lib.indexByte]
 | b::l=>by
  have ih:=U14 c l
  have hg:=Lib.indexByte_ge l c
  by_cases hb:b=c
  ·subst hb
   simp [Lib.indexByte]
  ·have h1:(b == c)=false:=beq_eq_false_iff_ne.2 hb
   have h2:(c == b)=false:=beq_eq_false_iff_ne.2 fun e=>hb e.symm
   unfold Lib.indexByte
   rw [h1,List.contains_cons,h2,Bool.false_or,← ih,if_neg (by simp)]
   by_cases h:Lib.indexByte l c = -1
   ·rw [if_pos (by rw [h]; rfl),h]
   ·rw [if_neg (by simpa using h)]
    omega
theorem Q19 (c:UInt8)(l:List UInt8):decide (Lib.indexByte l c≥0)=l.contains c:=by
 rw [Bool.eq_iff_iff,decide_eq_true_iff]
 exact U14 c l
theorem Qf {s r:List UInt8}{k n:Nat}(h:s.drop k=r)(hk:k≤s.length)(hn:n≤r.length):slc s (k:Int) ((k+n:Nat):Int)=some (r.take n):=by
 have hl:r.length=s.length - k:=by rw [← h,List.length_drop]
 unfold slc
 rw [if_pos ⟨by omega,by omega,by omega⟩,← h]
 simp only [Int.toNat_natCast]
 rw [List.drop_take]
 congr 2
 congr 1
 omega
theorem Wt (c:UInt8)(r:Str):U7 (c::r)=some (if Jk c then [c] else []):=by
 unfold U7
 have h0:idx (c::r) 0=some c:=rfl
 rw [h0,ob]
 have hb:=Q19 c W12
 unfold Sh
 rw [ob]
 have e:((c.toNat:Int).toNat.toUInt8)=c:=by simp
 rw [e]
 unfold W12 at hb
 rw [hb]
 unfold Jk W12
 have h1:slc (c::r) 0 1=some [c]:=by
  have:=Qf (s:=c::r) (k:=0) (n:=1) rfl (by omega) (by simp)
  simpa using this
 rw [h1]
 split <;> rfl
theorem G16 (c:UInt8):L9 [c]=some (if Jk c then [c] else []):=by
 unfold L9
 rw [if_neg (by simp)]
 exact Wt c []
theorem H16 (a b:UInt8)(r:Str):L9 (a::b::r)=some (if Ue [a,b] then [a,b] else if Jk a then [a] else []):=by
 unfold L9
 have h2:slc (a::b::r) 0 2=some [a,b]:=by
  have:=Qf (s:=a::b::r) (k:=0) (n:=2) rfl (by omega) (by simp)
  simpa using this
 rw [if_pos (decide_eq_true (by simp only [List.length_cons]; omega)),h2,ob]
 unfold D4 Ue
 rw [h2,Wt]
 cases ([a,b] == [46,46]:Bool) <;> cases ([a,b] == [61,61]:Bool) <;> cases ([a,b] == [33,61]:Bool) <;> cases ([a,b] == [60,61]:Bool) <;> cases ([a,b] == [62,61]:Bool) <;> cases ([a,b] == [38,38]:Bool) <;> cases ([a,b] == [124,124]:Bool) <;> simp [ob]
def nxt (r:List UInt8)(k:Int):E0×Int:=
 if Kb (r.getD 0 0).toNat then
  if Qn (r.take (B4 r)) then (E0.mk 2 (r.take (B4 r)) k,0)
  else if decide (((r.take (B4 r)).length:Int) > 12) then (E0.mk 0 (r.take (B4 r)) k,7)
  else (E0.mk 0 (r.take (B4 r)) k,0)
 else if D7 (r.getD 0 0).toNat then (E0.mk 1 (r.take (B4 r)) k,Ul (r.take (B4 r)))
 else if decide (2≤r.length)&&Ue (r.take 2) then (E0.mk 3 (r.take 2) k,0)
 else if Jk (r.getD 0 0) then (E0.mk 3 [r.getD 0 0] k,0)
 else (E0.mk 3 [] k,6)
theorem Rn {c:UInt8}{t:List UInt8}(h:ld c=true):1≤B4 (c::t):=by simp [B4,h]
theorem Y17 (s:Str)(hs8:s.length≤8192){c:UInt8}{t:Str}{k:Nat}(h:s.drop k=c::t):Ua s k=some (nxt (c::t) k):=by
 have hs:s.length≤BB:=by unfold BB; omega
 obtain ⟨h1,h2,h3,h4,_⟩:=Wc h
 have hle:=Wm (c::t)
 have hlen:(c::t).length=s.length - k:=by rw [← h,List.length_drop]
 have hrun:Ld s k=some ((k+B4 (c::t):Nat):Int):=Lz s hs _ k h
 have hslc:=Qf h (by omega) hle
 have ht8:((c::t).take (B4 (c::t))).length≤8192:=by rw [List.length_take]; omega
 have htl:((c::t).take (B4 (c::t))).length≤BB:=by unfold BB; omega
 unfold Ua nxt
 rw [h2,ob,Sl,ob,hrun]
 simp only [List.getD_cons_zero]
 cases hl:Kb c.toNat with
 | true=>
  simp only [if_true,ob,hslc]
  rw [show R5 ((c::t).take (B4 (c::t)))=some (Qn ((c::t).take (B4 (c::t)))) from Tq _ (by omega),ob]
  cases Qn ((c::t).take (B4 (c::t))) with
  | true=>rfl
  | false=>
   cases decide ((((c::t).take (B4 (c::t))).length:Int) > 12) <;> rfl
 | false=>
  simp only [Bool.false_eq_true,if_false,Lj,ob]
  cases hd:D7 c.toNat with
  | true=>
   simp only [if_true,ob,hslc]
   have hld:ld c=true:=by unfold ld; rw [hl,hd]; rfl
   have hp:=Rn (t:=t) hld
   rw [V12 _ htl (by intro he; have:=congrArg List.length he; rw [List.length_take] at this; simp at this; omega)]
   rfl
  | false=>
   simp only [Bool.false_eq_true,if_false]
   have hsl:slc s (k:Int) ((s.length:Nat):Int)=some (c::t):=by
    have:=Qf (n:=(c::t).length) h (by omega) (Nat.le_refl _)
    rw [List.take_length] at this
    rw [← this,hlen]
    congr 1; omega
   rw [hsl,ob]
   cases t with
   | nil=>
    rw [G16,ob]
    cases Jk c <;> rfl
   | cons b t=>
    rw [H16,ob]
    cases hz:Ue [c,b] with
    | true=>simp [hz]
    | false=>cases hy:Jk c <;> simp [hz,hy]
def Nz (x:E0×Int):E0×Int:=if x.2=0 then x else (E0.mk 0 [] 0,x.2)
theorem X12 (w:List UInt8):Ul w=0∨Ul w=3∨Ul w=6:=by
 unfold Ul Yu
 split
 ·split <;> simp
 ·simp
theorem I16 (s:Str)(hs8:s.length≤8192){c:UInt8}{t:Str}{k:Nat}(h:s.drop k=c::t):Rl s k=some (Nz (nxt (c::t) k)):=by
 have hs:s.length≤BB:=by unfold BB; omega
 obtain ⟨h1,h2,h3,h4,_⟩:=Wc h
 have hle:=Wm (c::t)
 have hlen:(c::t).length=s.length - k:=by rw [← h,List.length_drop]
 have hrun:Wv s k=some ((k+B4 (c::t):Nat):Int):=C11 s hs _ k h
 have hslc:=Qf h (by omega) hle
 have ht8:((c::t).take (B4 (c::t))).length≤8192:=by rw [List.length_take]; omega
 have htl:((c::t).take (B4 (c::t))).length≤BB:=by unfold BB; omega
 have hne:ld c=true→(c::t).take (B4 (c::t))≠[]:=fun hld he=>by
  have hp:=Rn (t:=t) hld
  have:=congrArg List.length he
  rw [List.length_take] at this
  simp at this
  omega
 unfold Rl nxt
 rw [hrun,ob,h2,ob,Gk,ob]
 simp only [List.getD_cons_zero]
 cases hl:Kb c.toNat with
 | true=>
  have hld:ld c=true:=by unfold ld; rw [hl]; rfl
  simp only [if_true,ob,hslc]
  rw [Wu _ (by omega),X17 (hne hld) (Zv _),ob]
  cases Qn ((c::t).take (B4 (c::t))) with
  | true=>rfl
  | false=>cases decide ((((c::t).take (B4 (c::t))).length:Int) > 12) <;> rfl
 | false=>
  simp only [Bool.false_eq_true,if_false,Tl,ob]
  cases hd:D7 c.toNat with
  | true=>
   have hld:ld c=true:=by unfold ld; rw [hl,hd]; rfl
   simp only [if_true,ob,hslc]
   rw [Mz _ htl (hne hld),ob]
   unfold Nz
   rcases X12 ((c::t).take (B4 (c::t))) with hn | hn | hn <;> rw [hn] <;> rfl
  | false=>
   simp only [Bool.false_eq_true,if_false]
   rw [wr (n:=(k:Int)+2) (by omega) (by omega),wr (n:=(k:Int)+1) (by omega) (by omega)]
   have hs1:slc s (k:Int) ((k:Int)+1)=some [c]:=by
    have:=Qf (n:=1) h (by omega) (by simp)
    simpa using this
   have fin:(slc s (k:Int) ((k:Int)+1)>>=fun x14=>Ga x14>>=fun x15=>if x15=true then slc s (k:Int) ((k:Int)+1)>>=fun x16=>some ((E0.mk 3 x16 (k:Int)),(0:Int)) else some ((E0.mk 0 [] 0),6))=some (Nz (if Jk c then (E0.mk 3 [c] (k:Int),0) else (E0.mk 3 [] (k:Int),6))):=by
    rw [hs1,ob,N10,ob]
    cases Jk c <;> rfl
   cases t with
   | nil=>
    simp only [List.length_cons,List.length_nil] at hlen
    have:decide ((k:Int)+2≤(s.length:Int))=false:=decide_eq_false (by omega)
    rw [this]
    simp only [Bool.false_eq_true,if_false,ob,cond_false]
    exact fin
   | cons b t=>
    simp only [List.length_cons] at hlen
    have:decide ((k:Int)+2≤(s.length:Int))=true:=decide_eq_true (by omega)
    have hs2:slc s (k:Int) ((k:Int)+2)=some [c,b]:=by
     have:=Qf (n:=2) h (by omega) (by simp)
     simpa using this
    rw [this]
    simp only [if_true,hs2,ob,M10,cond_true]
    cases hz:Ue [c,b] with
    | true=>simp [Nz,hz]
    | false=>
     simp only [Bool.false_eq_true,if_false]
     rw [fin]
     simp [hz]
def Na:Nat→List UInt8→Nat→List E0×Int×Int
 | 0,_,_=>([],0,0)
 | n+1,r,k=>
  match r.drop (skp false r) with
  | []=>([],0,0)
  | c::t=>
   let x:=nxt (c::t) ((k+skp false r:Nat):Int)
   if x.2=0 then
    let z:=Na n ((c::t).drop x.1.Text.length) (k+skp false r+x.1.Text.length)
    if z.2.2=0 then (x.1::z.1,0,0) else z
   else ([],((k+skp false r:Nat):Int),x.2)
theorem Rf {c:UInt8}{t:List UInt8}{k:Int}(h:(nxt (c::t) k).2=0):1≤(nxt (c::t) k).1.Text.length∧(nxt (c::t) k).1.Text.length≤(c::t).length∧(nxt (c::t) k).1.At=k∧(c::t).take (nxt (c::t) k).1.Text.length=(nxt (c::t) k).1.Text:=by
 have hle:=Wm (c::t)
 have key:∀ {n:Nat},1≤n→n≤(c::t).length→1≤((c::t).take n).length∧((c::t).take n).length≤(c::t).length∧(c::t).take ((c::t).take n).length=(c::t).take n:=fun h1 h2=>by
  rw [List.length_take,Nat.min_eq_left h2]; exact ⟨h1,h2,rfl⟩
 revert h
 unfold nxt
 simp only [List.getD_cons_zero]
 cases hl:Kb c.toNat with
 | true=>
  have hld:ld c=true:=by unfold ld; rw [hl]; rfl
  obtain ⟨a1,a2,a3⟩:=key (Rn (t:=t) hld) hle
  simp only [if_true]
  split
  ·exact fun _=>⟨a1,a2,rfl,a3⟩
  ·split
   ·intro h; cases h
   ·exact fun _=>⟨a1,a2,rfl,a3⟩
 | false=>
  simp only [Bool.false_eq_true,if_false]
  cases hd:D7 c.toNat with
  | true=>
   have hld:ld c=true:=by unfold ld; rw [hl,hd]; rfl
   obtain ⟨a1,a2,a3⟩:=key (Rn (t:=t) hld) hle
   exact fun _=>⟨a1,a2,rfl,a3⟩
  | false=>
   simp only [Bool.false_eq_true,if_false]
   split
   ·rename_i h2
    rw [Bool.and_eq_true] at h2
    obtain ⟨a1,a2,a3⟩:=key (n:=2) (by omega) (of_decide_eq_true h2.1)
    exact fun _=>⟨a1,a2,rfl,a3⟩
   ·split
    ·exact fun _=>⟨by simp,by simp,rfl,by simp⟩
    ·intro h; cases h
def Il (s:Str)(out:List E0)(k:Nat):Option (List E0×Int×Int):=
 if k < s.length then
  Ua s k>>=fun x2=>
  if (x2.2 != 0)=true then some ([],(k:Int),x2.2)
  else if (decide ((out.length+1) * 33≤140737488355328))=true then Y2 s (out++[x2.1]) (IntKind.i64.wrap ((k:Int)+((x2.1.Text).length:Int)))
  else none
 else some (out,0,0)
theorem V14 (s:Str)(hs:s.length≤BB)(out:List E0):∀ (r:Str) (k:Nat),s.drop k=r→Y2 s out k=Il s out (k+skp false r)∧T4 s out k=Il s out (k+skp true r)
 | [],k,h=>by
  obtain ⟨h1,h2⟩:=Ha h
  have e1:Y2 s out k=Il s out (k+skp false []):=by
   rw [Y2,h1,if_neg (by simp)]
   unfold Il
   rw [if_neg (by simp [skp]; omega)]
  refine ⟨e1,?_⟩
  rw [T4,h1]
  simpa [ob,skp] using e1
 | c::r,k,h=>by
  obtain ⟨h1,h2,h3,h4,_⟩:=Wc h
  obtain ⟨i1,i2⟩:=V14 s hs out r (k+1) h3
  have e2:((c.toNat:Int) == 10)=false→T4 s out k=Il s out (k+skp true (c::r)):=fun hc=>by
   rw [T4,h1,if_pos rfl,h2,ob]
   have:((c.toNat:Int) != 10)=true:=by simp only [bne,hc]; rfl
   rw [this,cond_true,if_pos rfl,w1 (by omega),i2]
   simp only [skp,hc]
   congr 1
   simp; omega
  have e1:Y2 s out k=Il s out (k+skp false (c::r)):=by
   have hj:Y2 s out k=I6 s out k c ((c.toNat:Int) == 32||((c.toNat:Int) == 9||(c.toNat:Int) == 10)):=by
    rw [Y2,h1,if_pos rfl,h2,ob]
    cases h32:(c.toNat:Int) == 32 with
    | true=>rfl
    | false=>cases h9:(c.toNat:Int) == 9 <;> simp
   rw [hj,I6]
   cases hb:((c.toNat:Int) == 32||((c.toNat:Int) == 9||(c.toNat:Int) == 10)) with
   | true=>
    have h35:((c.toNat:Int) == 35)=false:=by
     cases hx:(c.toNat:Int) == 35 with
     | false=>rfl
     | true=>rw [eq_of_beq hx] at hb; cases hb
    rw [if_pos rfl,w1 (by omega),i1]
    simp only [skp,h35,hb]
    congr 1
    simp; omega
   | false=>
    rw [if_neg (by simp)]
    cases h35:(c.toNat:Int) == 35 with
    | true=>
     rw [if_pos rfl,e2 (by have:=eq_of_beq h35; rw [this]; rfl)]
     have h10:((c.toNat:Int) == 10)=false:=by have:=eq_of_beq h35; rw [this]; rfl
     simp [skp,h35,h10]
    | false=>
     rw [if_neg (by simp)]
     simp only [skp,h35,hb]
     unfold Il
     rw [if_pos (by simpa using h4)]
     rfl
  refine ⟨e1,?_⟩
  cases h10:(c.toNat:Int) == 10 with
  | false=>exact e2 h10
  | true=>
   rw [T4,h1,if_pos rfl,h2,ob]
   have:((c.toNat:Int) != 10)=false:=by simp only [bne,h10]; rfl
   rw [this,cond_true,if_neg (by simp),e1]
   have h35:((c.toNat:Int) == 35)=false:=by have:=eq_of_beq h10; rw [this]; rfl
   simp [skp,h10,h35]
theorem G11:∀ (n:Nat) (r:List UInt8) (k:Nat),(Na n r k).2.2=0→(Na n r k).2=(0,0)
 | 0,_,_,_=>rfl
 | n+1,r,k,h=>by
  revert h
  unfold Na
  split
  ·exact fun _=>rfl
  ·rename_i c t _
   simp only
   split
   ·split
    ·exact fun _=>rfl
    ·rename_i hz
     exact fun h=>absurd h hz
   ·rename_i hx
    exact fun h=>absurd h hx
def Kh (out:List E0)(z:List E0×Int×Int):List E0×Int×Int:=if z.2.2=0 then (out++z.1,0,0) else z
theorem H11 (s:Str)(hs8:s.length≤8192):∀ (n k:Nat) (out:List E0),s.length - k < n→k≤s.length→out.length≤k→
  Y2 s out k=some (Kh out (Na n (s.drop k) k))∧(Uh s k>>=fun a=>Rg s out a)=some (Kh out (Na n (s.drop k) k))
 | 0,k,out,h,_,_=>by omega
 | n+1,k,out,h,hk,ho=>by
  have hs:s.length≤BB:=by unfold BB; omega
  have hb:=Af false (s.drop k)
  rw [List.length_drop] at hb
  rw [(V14 s hs out _ k rfl).1,E16 s hs k,ob]
  generalize hj:k+skp false (s.drop k)=j at *
  have hdj:(s.drop k).drop (skp false (s.drop k))=s.drop j:=by rw [List.drop_drop,hj]
  unfold Il
  rw [Rg]
  unfold Na
  rw [hdj,hj]
  cases hd:s.drop j with
  | nil=>
   obtain ⟨h1,h2⟩:=Ha hd
   rw [h1,if_neg (by omega),if_neg (by simp)]
   unfold Kh
   simp
  | cons c t=>
   obtain ⟨h1,h2,h3,h4,_⟩:=Wc hd
   rw [h1,if_pos h4,if_pos rfl,Y17 s hs8 hd,I16 s hs8 hd,ob,ob]
   simp only
   unfold Nz
   by_cases hx:(nxt (c::t) (j:Int)).2=0
   ·obtain ⟨b1,b2,b3,b4⟩:=Rf hx
    have hlen:(c::t).length=s.length - j:=by rw [← hd,List.length_drop]
    rw [if_pos hx,if_pos hx]
    have hne:((nxt (c::t) (j:Int)).2 != 0)=false:=by rw [hx]; rfl
    have hroom:decide ((out.length+1) * 33≤140737488355328)=true:=decide_eq_true (by omega)
    simp only [hne,hroom,Bool.false_eq_true,if_false,if_true]
    generalize hxx:nxt (c::t) (j:Int)=x at *
    rw [wr (by omega) (by omega),show (j:Int)+((x.1.Text).length:Int)=((j+x.1.Text.length:Nat):Int) from rfl]
    have hdd:(c::t).drop x.1.Text.length=s.drop (j+x.1.Text.length):=by rw [← hd,List.drop_drop]
    rw [hdd]
    obtain ⟨i1,i2⟩:=H11 s hs8 n (j+x.1.Text.length) (out++[x.1]) (by omega) (by omega) (by rw [List.length_append]; have:[x.1].length=1:=rfl; omega)
    rw [i1,i2]
    generalize Na n (s.drop (j+x.1.Text.length)) (j+x.1.Text.length)=z
    unfold Kh
    by_cases hz:z.2.2=0
    ·rw [if_pos hz,if_pos hz,if_pos rfl,List.append_assoc]
     exact ⟨rfl,rfl⟩
    ·rw [if_neg hz,if_neg hz,if_neg hz]
     exact ⟨rfl,rfl⟩
   ·have hne:((nxt (c::t) (j:Int)).2 != 0)=true:=by simpa using hx
    have hne2:((E0.mk 0 [] 0,(nxt (c::t) (j:Int)).2):E0×Int).2=(nxt (c::t) (j:Int)).2:=rfl
    rw [if_neg hx,if_neg hx,hne,if_pos rfl]
    unfold Kh
    simp [hx]
def Z1 (s:Str):List E0×Int×Int:=if s.length > 8192 then ([],0,5) else Na (s.length+1) s 0
theorem Oz (s:Str):Md s=some (Z1 s)∧Xv s=some (Z1 s):=by
 unfold Md Xv Z1
 by_cases h:s.length > 8192
 ·rw [if_pos h]; simp [h]; omega
 ·have h1:decide ((s.length:Int) > 8192)=false:=decide_eq_false (by omega)
  obtain ⟨i1,i2⟩:=H11 s (by omega) (s.length+1) 0 [] (by omega) (by omega) (by simp)
  rw [h1,if_neg (by simp),if_neg h,if_neg (by simp)]
  have hw:Kh [] (Na (s.length+1) s 0)=Na (s.length+1) s 0:=by
   unfold Kh
   split
   ·rename_i hz
    have:=G11 _ _ _ hz
    rw [List.nil_append,← this]
   ·rfl
  rw [List.drop_zero,hw] at i1 i2
  exact ⟨i1,i2⟩
end Go.Proofs.YtmnhfbekncjnfaaDoor

namespace Go.Proofs.YtmnhfbekncjnfaaDoor
open Go.Am
abbrev mk (l:List E0)(k:Nat)(e:Int):B0:=B0.mk l (k:Int) e
theorem Kk {α:Type}(l:List α)(k:Nat):idx l (k:Int)=l[k]?:=by
 unfold idx
 rw [if_pos (by omega)]
 simp
theorem Zb {α:Type}{l:List α}{k:Nat}{x:α}(h:l[k]?=some x):k < l.length:=(List.getElem?_eq_some_iff.1 h).1
theorem I11 {α:Type}{l:List α}{k:Nat}(h:l[k]?=none):l.length≤k:=List.getElem?_eq_none_iff.1 h
theorem dlt {α:Type}{l:List α}{k:Nat}{x:α}(h:l[k]?=some x):decide ((k:Int) < (l.length:Int))=true:=by have:=Zb h; exact decide_eq_true (by omega)
theorem Y12 {α:Type}{l:List α}{k:Nat}(h:l[k]?=none):decide ((k:Int) < (l.length:Int))=false:=by have:=I11 h; exact decide_eq_false (by omega)
theorem dge {α:Type}{l:List α}{k:Nat}{x:α}(h:l[k]?=some x):decide ((k:Int)≥(l.length:Int))=false:=by have:=Zb h; exact decide_eq_false (by omega)
theorem Z12 {α:Type}{l:List α}{k:Nat}(h:l[k]?=none):decide ((k:Int)≥(l.length:Int))=true:=by have:=I11 h; exact decide_eq_true (by omega)
def isT (l:List E0)(k:Nat)(t:Str):Bool:=match l[k]? with
 | some x=>x.Text == t&&(x.Kind == 2||x.Kind == 3)
 | none=>false
def U5 (l:List E0)(k:Nat)(c:Int):Bool:=match l[k]? with
 | some x=>x.Kind == c
 | none=>false
def txt (l:List E0)(k:Nat):Str:=match l[k]? with
 | some x=>x.Text
 | none=>[]
def off (l:List E0)(e:Int)(k:Nat):Int:=match l[k]? with
 | some x=>x.At
 | none=>e
def step (b:Bool)(k:Nat):Nat:=bif b then k+1 else k
theorem Bf (k:Nat):step true k=k+1:=rfl
theorem Ia (k:Nat):step false k=k:=rfl
theorem P5 {l:List E0}{k:Nat}{t:Str}(h:isT l k t=true):k < l.length:=by
 unfold isT at h
 split at h
 ·rename_i hx; exact Zb hx
 ·cases h
theorem Pz {l:List E0}{k:Nat}{c:Int}(h:U5 l k c=true):k < l.length:=by
 unfold U5 at h
 split at h
 ·rename_i hx; exact Zb hx
 ·cases h
theorem Mk {l:List E0}{k:Nat}{t:Str}(h:isT l k t=true):U5 l k 0=false∧U5 l k 1=false∧txt l k=t:=by
 unfold isT at h
 unfold U5 txt
 split at h
 ·rename_i x hx
  rw [Bool.and_eq_true] at h
  have ht:=eq_of_beq h.1
  rw [Bool.or_eq_true] at h
  rcases h.2 with h2 | h2 <;> rw [eq_of_beq h2] <;> exact ⟨rfl,rfl,ht⟩
 ·cases h
section
set_option linter.unusedSectionVars false
variable (l:List E0)(e:Int)(hl:l.length≤BB)
include hl
theorem F1a (k:Nat)(t:Str):Q6 t (mk l k e)=some (isT l k t):=by
 unfold Q6 isT
 simp only
 cases h:l[k]? with
 | none=>rw [Z12 h,if_pos rfl]
 | some x=>
  rw [dge h,if_neg (by simp),Kk,h,ob]
  show some _=some (x.Text == t&&(x.Kind == 2||x.Kind == 3))
  cases x.Text == t <;> cases x.Kind == 2 <;> rfl
theorem F5 (k:Nat)(t:Str):L0 t (mk l k e)=some (isT l k t,mk l (step (isT l k t) k) e):=by
 unfold L0
 rw [F1a l e hl,ob]
 cases h:isT l k t with
 | false=>rfl
 | true=>
  have:=P5 h
  simp only [Bool.not_true,Bool.false_eq_true,if_false]
  rw [w1 (by omega)]
  rfl
theorem J16 (k:Nat):Q4 (mk l k e)=some (U5 l k 0):=by
 unfold Q4 U5
 simp only
 cases h:l[k]? with
 | none=>rw [Y12 h,if_neg (by simp),ob]; rfl
 | some x=>rw [dlt h,if_pos rfl,Kk,h,ob]; rfl
theorem Qz (k:Nat):T3 (mk l k e)=some (.pn (off l e k)):=by
 unfold T3 off
 simp only
 cases h:l[k]? with
 | none=>rw [Y12 h,if_neg (by simp)]
 | some x=>rw [dlt h,if_pos rfl,Kk,h,ob]
theorem W14 (k:Nat)(c:Int):L4 c (mk l k e)=if U5 l k c=true then some (.ok (txt l k,mk l (k+1) e)) else some (.pn (off l e k)):=by
 unfold L4
 rw [Qz l e hl,ob]
 unfold U5 txt
 simp only
 cases h:l[k]? with
 | none=>rw [Z12 h,Bool.not_true,if_neg (by simp),ob,cond_true,if_pos rfl,if_neg (by simp)]
 | some x=>
  have:=Zb h
  rw [dge h,Bool.not_false,if_pos rfl,Kk,h,ob,cond_false]
  cases hk:x.Kind == c with
  | false=>simp only [bne,hk,Bool.not_false,if_true,Bool.false_eq_true,if_false]
  | true=>
   simp only [bne,hk,Bool.not_true,Bool.false_eq_true,if_false,if_true]
   unfold F4
   simp only
   rw [w1 (by omega),wr (n:=((k+1:Nat):Int) - 1) (by omega) (by unfold BB at *; omega),show ((k+1:Nat):Int) - 1=(k:Int) by omega,Kk,h,ob]
theorem X14 (k:Nat):M4 (mk l k e)=if U5 l k 0=true then some (.ok (txt l k,mk l (k+1) e)) else some (.pn (off l e k)):=by
 unfold M4
 rw [W14 l e hl]
 cases U5 l k 0 <;> rfl
theorem Ym (k:Nat)(t:Str):X2 t (mk l k e)=if isT l k t=true then some (.ok (mk l (k+1) e)) else some (.pn (off l e k)):=by
 unfold X2
 rw [F5 l e hl,ob]
 cases h:isT l k t with
 | true=>rfl
 | false=>
  simp only [Bool.not_false,if_true,step,cond_false,Bool.false_eq_true,if_false]
  rw [Qz l e hl,ob]
theorem N8 (k:Nat)(t:Str):V2 l k t=some (isT l k t):=by
 unfold V2 isT
 cases h:l[k]? with
 | none=>rw [Y12 h]; rfl
 | some x=>
  rw [dlt h,Kk,h]
  simp only [if_true,ob,Bool.true_and,cond_true]
  by_cases h2:x.Kind=2 <;> by_cases h3:x.Kind=3 <;> by_cases ht:x.Text=t <;> first | (simp [ob,h2,h3,ht]; done) | (simp [ob,h2,h3,ht]; rw [beq_eq_false_iff_ne.2 h2,beq_eq_false_iff_ne.2 h3]; simp)
theorem Mp (k:Nat):He l k=if U5 l k 0=true then some (txt l k,((k+1:Nat):Int),true) else some ([],(k:Int),false):=by
 unfold He U5 txt
 cases h:l[k]? with
 | none=>rw [Y12 h]; rfl
 | some x=>
  have:=Zb h
  rw [dlt h,Kk,h,if_pos rfl,ob,cond_true,w1 (by omega)]
  show _=if (x.Kind == 0)=true then some (x.Text,((k+1:Nat):Int),true) else some ([],(k:Int),false)
  cases h2:x.Kind == 0 <;> rfl
end
end Go.Proofs.YtmnhfbekncjnfaaDoor

namespace Go.Proofs.YtmnhfbekncjnfaaDoor
open Go.Am
structure Tok (x:E0):Prop where
 len:x.Text.length≤8192
 word:x.Kind=2→∃ c t,x.Text=c::t∧Kb c.toNat=true
 num:x.Kind=1→x.Text≠[]∧x.Text.all (fun c=>D7 c.toNat)=true∧x.Text.length≤7∧nv 0 x.Text≤1048576
def Ok (l:List E0):Prop:=l.length≤BB∧∀ x∈l,Tok x
theorem J11 {l:List E0}(h:Ok l)(k:Nat):(txt l k).length≤8192:=by
 unfold txt
 cases hx:l[k]? with
 | none=>simp
 | some x=>exact (h.2 x (List.mem_of_getElem? hx)).len
def isS (l:List E0)(k:Nat)(t:Str):Bool:=match l[k]? with
 | some x=>x.Kind == 3&&x.Text == t
 | none=>false
def D17 (t:Str):Bool:=match t with
 | c::_=>!Kb c.toNat
 | []=>true
theorem T9 {l:List E0}(h:Ok l){k:Nat}{t:Str}(ht:D17 t=true):isT l k t=isS l k t:=by
 unfold isT isS
 cases hx:l[k]? with
 | none=>rfl
 | some x=>
  simp only
  by_cases h2:x.Kind=2
  ·obtain ⟨c,r,e,hc⟩:=(h.2 x (List.mem_of_getElem? hx)).word h2
   have:(x.Text == t)=false:=beq_eq_false_iff_ne.2 fun he=>by
    rw [← he,e] at ht
    simp [D17,hc] at ht
   rw [this,h2]
   rfl
  ·rw [beq_eq_false_iff_ne.2 h2,Bool.false_or,Bool.and_comm]
def opT (t:Str):Int×Int:=
 if t == [124,124] then (20,1) else if t == [38,38] then (19,2) else if t == [61,61] then (13,3) else if t == [33,61] then (14,3) else if t == [60] then (15,3) else if t == [60,61] then (16,3)
 else if t == [62] then (17,3) else if t == [62,61] then (18,3) else if t == [43] then (8,4) else if t == [45] then (9,4) else if t == [42] then (10,5) else if t == [47] then (11,5) else if t == [37] then (12,5) else (0,0)
def ops:List Str:=[[124,124],[38,38],[61,61],[33,61],[60],[60,61],[62],[62,61],[43],[45],[42],[47],[37]]
theorem Sg (t:Str):t∈ops∨∀ s∈ops,(t == s)=false:=by
 by_cases h:t∈ops
 ·exact .inl h
 ·exact .inr fun s hs=>beq_eq_false_iff_ne.2 fun e=>h (e ▸ hs)
theorem Zd (l:List E0)(k:Nat)(n:Int):I3 l k n=some (match l[k]? with
  | some x=>if x.Kind == 3 then ((opT x.Text).1,(opT x.Text).2 == n) else (0,false)
  | none=>(0,false)):=by
 unfold I3
 cases h:l[k]? with
 | none=>rw [Z12 h,Bool.not_true,if_neg (by simp),ob,cond_true,if_pos rfl]
 | some x=>
  rw [dge h,Bool.not_false,if_pos rfl,Kk,h,ob,cond_false]
  cases h3:x.Kind == 3 with
  | false=>simp only [bne,h3,Bool.not_false,if_true,Bool.false_eq_true,if_false]
  | true=>
   simp only [bne,h3,Bool.not_true,Bool.false_eq_true,if_false,if_true,ob]
   unfold opT
   generalize (x.Text == [124,124])=b0
   generalize (x.Text == [38,38])=b1
   generalize (x.Text == [61,61])=b2
   generalize (x.Text == [33,61])=b3
   generalize (x.Text == [60])=b4
   generalize (x.Text == [60,61])=b5
   generalize (x.Text == [62])=b6
   generalize (x.Text == [62,61])=b7
   generalize (x.Text == [43])=b8
   generalize (x.Text == [45])=b9
   generalize (x.Text == [42])=b10
   generalize (x.Text == [47])=b11
   generalize (x.Text == [37])=b12
   cases b0 with
   | true=>rfl
   | false=>
    cases b1 with
    | true=>rfl
    | false=>
     cases b2 with
     | true=>rfl
     | false=>
      cases b3 with
      | true=>rfl
      | false=>
       cases b4 with
       | true=>rfl
       | false=>
        cases b5 with
        | true=>rfl
        | false=>
         cases b6 with
         | true=>rfl
         | false=>
          cases b7 with
          | true=>rfl
          | false=>
           cases b8 with
           | true=>rfl
           | false=>
            cases b9 with
            | true=>rfl
            | false=>
             cases b10 with
             | true=>rfl
             | false=>
              cases b11 with
              | true=>rfl
              | false=>
               cases b12 with
               | true=>rfl
               | false=>
                rfl
theorem Qk (op:Int)(a b:A0):Kj op a b=some (A0.mk op 0 [] [a,b]):=rfl
theorem Rk {t:Str}(h:∀ s∈ops,(t == s)=false):opT t=(0,0):=by
 unfold opT
 have a:=fun s hs=>h s hs
 rw [a [124,124] (by decide),a [38,38] (by decide),a [61,61] (by decide),a [33,61] (by decide),a [60] (by decide),a [60,61] (by decide),a [62] (by decide),a [62,61] (by decide),a [43] (by decide),a [45] (by decide),a [42] (by decide),a [47] (by decide),a [37] (by decide)]
 rfl
theorem R19 (t:Str):((opT t).2 == 1)=(t == [124,124])∧(((opT t).2 == 1)=true→(opT t).1=(20:Int)):=by
 rcases Sg t with h | h
 ·simp only [ops,List.mem_cons,List.not_mem_nil,or_false] at h
  rcases h with rfl | rfl | rfl | rfl | rfl | rfl | rfl | rfl | rfl | rfl | rfl | rfl | rfl <;> decide
 ·rw [Rk h,h [124,124] (by decide)]
  decide
theorem V18 (t:Str):((opT t).2 == 2)=(t == [38,38])∧(((opT t).2 == 2)=true→(opT t).1=(19:Int)):=by
 rcases Sg t with h | h
 ·simp only [ops,List.mem_cons,List.not_mem_nil,or_false] at h
  rcases h with rfl | rfl | rfl | rfl | rfl | rfl | rfl | rfl | rfl | rfl | rfl | rfl | rfl <;> decide
 ·rw [Rk h,h [38,38] (by decide)]
  decide
theorem W18 (t:Str):((opT t).2 == 4)=(t == [43]||t == [45])∧(((opT t).2 == 4)=true→(opT t).1=(if t == [43] then 8 else 9:Int)):=by
 rcases Sg t with h | h
 ·simp only [ops,List.mem_cons,List.not_mem_nil,or_false] at h
  rcases h with rfl | rfl | rfl | rfl | rfl | rfl | rfl | rfl | rfl | rfl | rfl | rfl | rfl <;> decide
 ·rw [Rk h,h [43] (by decide),h [45] (by decide)]
  decide
theorem Z17 (t:Str):((opT t).2 == 5)=(t == [42]||t == [47]||t == [37])∧(((opT t).2 == 5)=true→(opT t).1=(if t == [42] then 10 else if t == [47] then 11 else 12:Int)):=by
 rcases Sg t with h | h
 ·simp only [ops,List.mem_cons,List.not_mem_nil,or_false] at h
  rcases h with rfl | rfl | rfl | rfl | rfl | rfl | rfl | rfl | rfl | rfl | rfl | rfl | rfl <;> decide
 ·rw [Rk h,h [42] (by decide),h [47] (by decide),h [37] (by decide)]
  decide
theorem X18 (t:Str):((opT t).2 == 3)=(t == [61,61]||t == [33,61]||t == [60]||t == [60,61]||t == [62]||t == [62,61])∧(((opT t).2 == 3)=true→(opT t).1=(if t == [61,61] then 13 else if t == [33,61] then 14 else if t == [60] then 15 else if t == [60,61] then 16 else if t == [62] then 17 else 18:Int)):=by
 rcases Sg t with h | h
 ·simp only [ops,List.mem_cons,List.not_mem_nil,or_false] at h
  rcases h with rfl | rfl | rfl | rfl | rfl | rfl | rfl | rfl | rfl | rfl | rfl | rfl | rfl <;> decide
 ·rw [Rk h,h [61,61] (by decide),h [33,61] (by decide),h [60] (by decide),h [60,61] (by decide),h [62] (by decide),h [62,61] (by decide)]
  decide
theorem Xt:∀ (r:List UInt8) (n:Nat),r.all (fun c=>D7 c.toNat)=true→Lib.decFrom n r=some (nv n r)
 | [],n,_=>by rw [Xm]; rfl
 | c::r,n,h=>by
  rw [List.all_cons,Bool.and_eq_true] at h
  have hc:=Pf.1 h.1
  have hd:Lib.digitVal c=some (c.toNat - 48):=if_pos hc
  unfold Lib.decFrom
  rw [hd,Jh,Nat.mul_comm 10 n]
  exact Xt r _ h.2
theorem A18 {s:Str}(hne:s≠[])(h:s.all (fun c=>D7 c.toNat)=true):Lib.atoi s=some (nv 0 s:Int):=by
 cases s with
 | nil=>exact absurd rfl hne
 | cons c r=>
  have hc:=Pf.1 (by rw [List.all_cons,Bool.and_eq_true] at h; exact h.1)
  have h1:(c == 45)=false:=beq_eq_false_iff_ne.2 fun e=>by rw [e] at hc; exact absurd hc.1 (by decide)
  have h2:(c == 43)=false:=beq_eq_false_iff_ne.2 fun e=>by rw [e] at hc; exact absurd hc.1 (by decide)
  unfold Lib.atoi
  simp only [h1,h2,Bool.false_eq_true,if_false]
  unfold Lib.decNat
  rw [if_neg (by simp),Xt _ 0 h]
  rfl
theorem B18 {s:Str}(hne:s≠[])(h:s.all (fun c=>D7 c.toNat)=true)(hl:s.length≤7):Jm s=some (nv 0 s:Int):=by
 unfold Jm
 rw [if_pos (decide_eq_true (by omega)),A18 hne h]
section
set_option linter.unusedSectionVars false
variable (l:List E0)(e:Int)(hl:Ok l)
include hl
theorem Ji {k:Nat}{t:Str}(h:isS l k t=true):k < l.length:=by
 unfold isS at h
 split at h
 ·rename_i hx; exact Zb hx
 ·cases h
theorem S19 (k:Nat):∃ o b,L5 (mk l k e)=some (20,b,mk l (step b k) e)∧I3 l k 1=some (o,b)∧(b=true→o=20∧k < l.length):=by
 unfold L5
 rw [F5 l e hl.1,T9 hl rfl,ob,Zd]
 have hlt:=Ji l hl (k:=k) (t:=[124,124])
 revert hlt
 unfold isS
 cases h:l[k]? with
 | none=>exact fun _=>⟨_,_,rfl,rfl,nofun⟩
 | some x=>
  simp only
  obtain ⟨h1,h2⟩:=R19 x.Text
  cases hk:x.Kind == 3 with
  | false=>exact fun _=>⟨_,_,rfl,rfl,nofun⟩
  | true=>
   simp only [Bool.true_and,if_true,h1]
   rw [h1] at h2
   exact fun hlt=>⟨_,_,rfl,rfl,fun hb=>⟨h2 hb,hlt hb⟩⟩
theorem Y18 (k:Nat):∃ o b,Z4 (mk l k e)=some (19,b,mk l (step b k) e)∧I3 l k 2=some (o,b)∧(b=true→o=19∧k < l.length):=by
 unfold Z4
 rw [F5 l e hl.1,T9 hl rfl,ob,Zd]
 have hlt:=Ji l hl (k:=k) (t:=[38,38])
 revert hlt
 unfold isS
 cases h:l[k]? with
 | none=>exact fun _=>⟨_,_,rfl,rfl,nofun⟩
 | some x=>
  simp only
  obtain ⟨h1,h2⟩:=V18 x.Text
  cases hk:x.Kind == 3 with
  | false=>exact fun _=>⟨_,_,rfl,rfl,nofun⟩
  | true=>
   simp only [Bool.true_and,if_true,h1]
   rw [h1] at h2
   exact fun hlt=>⟨_,_,rfl,rfl,fun hb=>⟨h2 hb,hlt hb⟩⟩
theorem T19 (k:Nat):∃ o,I3 l k 4=some (o,(isS l k [43]||isS l k [45]))∧((isS l k [43]||isS l k [45])=true→o=(if isS l k [43] then 8 else 9:Int)):=by
 rw [Zd]
 unfold isS
 cases h:l[k]? with
 | none=>exact ⟨_,rfl,nofun⟩
 | some x=>
  simp only
  obtain ⟨h1,h2⟩:=W18 x.Text
  rcases Bool.eq_false_or_eq_true (x.Kind == 3) with hk | hk
  ·rw [h1] at h2
   simp only [hk,Bool.true_and,if_true,h1]
   exact ⟨_,rfl,h2⟩
  ·simp only [hk,Bool.false_and,Bool.or_false,Bool.false_eq_true,if_false]
   exact ⟨_,rfl,nofun⟩
theorem Z18 (k:Nat):∃ o,I3 l k 5=some (o,(isS l k [42]||isS l k [47]||isS l k [37]))∧((isS l k [42]||isS l k [47]||isS l k [37])=true→o=(if isS l k [42] then 10 else if isS l k [47] then 11 else 12:Int)):=by
 rw [Zd]
 unfold isS
 cases h:l[k]? with
 | none=>exact ⟨_,rfl,nofun⟩
 | some x=>
  simp only
  obtain ⟨h1,h2⟩:=Z17 x.Text
  rcases Bool.eq_false_or_eq_true (x.Kind == 3) with hk | hk
  ·rw [h1] at h2
   simp only [hk,Bool.true_and,if_true,h1]
   exact ⟨_,rfl,h2⟩
  ·simp only [hk,Bool.false_and,Bool.or_false,Bool.false_eq_true,if_false]
   exact ⟨_,rfl,nofun⟩
theorem U19 (k:Nat):∃ o,I3 l k 3=some (o,(isS l k [61,61]||isS l k [33,61]||isS l k [60]||isS l k [60,61]||isS l k [62]||isS l k [62,61]))∧((isS l k [61,61]||isS l k [33,61]||isS l k [60]||isS l k [60,61]||isS l k [62]||isS l k [62,61])=true→o=(if isS l k [61,61] then 13 else if isS l k [33,61] then 14 else if isS l k [60] then 15 else if isS l k [60,61] then 16 else if isS l k [62] then 17 else 18:Int)):=by
 rw [Zd]
 unfold isS
 cases h:l[k]? with
 | none=>exact ⟨_,rfl,nofun⟩
 | some x=>
  simp only
  obtain ⟨h1,h2⟩:=X18 x.Text
  rcases Bool.eq_false_or_eq_true (x.Kind == 3) with hk | hk
  ·rw [h1] at h2
   simp only [hk,Bool.true_and,if_true,h1]
   exact ⟨_,rfl,h2⟩
  ·simp only [hk,Bool.false_and,Bool.or_false,Bool.false_eq_true,if_false]
   exact ⟨_,rfl,nofun⟩
theorem A19 (k:Nat):∃ o o' b,Y4 (mk l k e)=some (o',b,mk l (step b k) e)∧I3 l k 4=some (o,b)∧(b=true→o=o'∧k < l.length):=by
 obtain ⟨o,h1,h2⟩:=T19 l hl k
 unfold Y4
 rw [F5 l e hl.1,T9 hl rfl,ob]
 cases ha:isS l k [43] with
 | true=>rw [ha] at h1 h2; exact ⟨_,_,_,rfl,h1,fun _=>⟨h2 rfl,Ji l hl ha⟩⟩
 | false=>
  rw [ha] at h1 h2
  simp only [step,cond_false,Bool.false_eq_true,if_false]
  rw [F5 l e hl.1,T9 hl rfl,ob]
  exact ⟨_,_,isS l k [45],rfl,h1,fun hb=>⟨h2 (by rw [hb]; rfl),Ji l hl hb⟩⟩
theorem C18 (k:Nat):∃ o o' b,R3 (mk l k e)=some (o',b,mk l (step b k) e)∧I3 l k 5=some (o,b)∧(b=true→o=o'∧k < l.length):=by
 obtain ⟨o,h1,h2⟩:=Z18 l hl k
 unfold R3
 rw [F5 l e hl.1,T9 hl rfl,ob]
 cases ha:isS l k [42] with
 | true=>rw [ha] at h1 h2; exact ⟨_,_,_,rfl,h1,fun _=>⟨h2 rfl,Ji l hl ha⟩⟩
 | false=>
  rw [ha] at h1 h2
  simp only [step,cond_false,Bool.false_eq_true,if_false]
  rw [F5 l e hl.1,T9 hl rfl,ob]
  cases hb:isS l k [47] with
  | true=>rw [hb] at h1 h2; exact ⟨_,_,_,rfl,h1,fun _=>⟨h2 rfl,Ji l hl hb⟩⟩
  | false=>
   rw [hb] at h1 h2
   simp only [step,cond_false,Bool.false_eq_true,if_false]
   rw [F5 l e hl.1,T9 hl rfl,ob]
   exact ⟨_,_,isS l k [37],rfl,h1,fun hc=>⟨h2 (by rw [hc]; rfl),Ji l hl hc⟩⟩
def Eq (k:Nat):Int:=(nv 0 (txt l k):Int)
theorem K16 (k:Nat):R4 (mk l k e)=if U5 l k 1=true then some (.ok (Eq l k,mk l (k+1) e)) else some (.pn (off l e k)):=by
 unfold R4
 rw [W14 l e hl.1]
 cases h:U5 l k 1 with
 | false=>rfl
 | true=>
  have hx:Jm (txt l k)=some (Eq l k):=by
   unfold U5 at h
   unfold Eq txt
   cases hk:l[k]? with
   | none=>rw [hk] at h; cases h
   | some x=>
    rw [hk] at h
    obtain ⟨n1,n2,n3,_⟩:=(hl.2 x (List.mem_of_getElem? hk)).num (eq_of_beq h)
    exact B18 n1 n2 n3
  rw [if_pos rfl,ob]
  simp only [hx,ob]
  rfl
theorem Rz (x:E0)(k:Nat)(hx:l[k]?=some x)(hall:x.Text.all (fun c=>D7 c.toNat)=true)(hnv:nv 0 x.Text≤1048576)(hlen:x.Text.length≤7) :
  ∀ (r:Str) (i m:Nat),x.Text.drop i=r→nv m r≤1048576→r.all (fun c=>D7 c.toNat)=true→Bb l k m i=some ((nv m r:Int),((k+1:Nat):Int),true):=by
 have hk:=Zb hx
 have hB:=hl.1
 intro r
 induction r with
 | nil=>
  intro i m h hm _
  rw [Bb,Kk,hx,ob,(Ha h).1,if_neg (by simp),w1 (by omega),Xm]
 | cons c r ih=>
  intro i m h hm ha
  obtain ⟨h1,h2,h3,h4,_⟩:=Wc h
  rw [List.all_cons,Bool.and_eq_true] at ha
  rw [Jh] at hm ⊢
  have hc:=Pf.1 ha.1
  have hle:=C17 r (10 * m+(c.toNat - 48))
  have e1:IntKind.i64.wrap (IntKind.i64.wrap (10 * (m:Int))+IntKind.i64.wrap (IntKind.u8.wrap ((c.toNat:Int) - 48)))=((10 * m+(c.toNat - 48):Nat):Int):=by
   rw [F16 ha.1,wr (n:=10 * (m:Int)) (by omega) (by omega),wr (by omega) (by omega)]; omega
  rw [Bb,Kk,hx,ob,h1,if_pos rfl,ob,h2,ob,e1,w1 (by unfold BB; omega)]
  exact ih (i+1) _ h3 hm ha.2
theorem Sn (k:Nat):Ek l k=if U5 l k 1=true then some (Eq l k,((k+1:Nat):Int),true) else some (0,(k:Int),false):=by
 unfold Ek U5 Eq txt
 cases h:l[k]? with
 | none=>rw [Z12 h,Bool.not_true,if_neg (by simp),ob,cond_true,if_pos rfl,if_neg (by simp)]
 | some x=>
  rw [dge h,Bool.not_false,if_pos rfl,Kk,h,ob,cond_false]
  simp only
  cases hk:x.Kind == 1 with
  | false=>simp only [bne,hk,Bool.not_false,if_true,Bool.false_eq_true,if_false]
  | true=>
   simp only [bne,hk,Bool.not_true,Bool.false_eq_true,if_false,if_true]
   obtain ⟨n1,n2,n3,n4⟩:=(hl.2 x (List.mem_of_getElem? h)).num (eq_of_beq hk)
   exact Rz l hl x k h n2 n4 n3 x.Text 0 0 rfl n4 n2
end
end Go.Proofs.YtmnhfbekncjnfaaDoor

namespace Go.Proofs.YtmnhfbekncjnfaaDoor
open Go.Am
def J {α:Type}(l:List E0)(e:Int)(lo:Nat)(P:α→Nat→Prop)(p:Option (Pn (α×B0)))(r:Option (α×Int×Bool)):Prop:=
 (∃ v j,lo≤j∧j≤l.length∧P v j∧p=some (.ok (v,mk l j e))∧r=some (v,((j:Nat):Int),true))∨
 (∃ v j,j≤l.length∧p=some (.pn (off l e j))∧r=some (v,((j:Nat):Int),false))
section
variable {l:List E0}{e:Int}{α β:Type}
theorem J.ok {lo:Nat}{P:α→Nat→Prop}(v:α)(j:Nat)(h1:lo≤j)(h2:j≤l.length)(hP:P v j):J l e lo P (some (.ok (v,mk l j e))) (some (v,((j:Nat):Int),true)):=.inl ⟨v,j,h1,h2,hP,rfl,rfl⟩
theorem J.pn {lo:Nat}{P:α→Nat→Prop}(v:α)(j:Nat)(h2:j≤l.length):J l e lo P (some (.pn (off l e j))) (some (v,((j:Nat):Int),false)):=.inr ⟨v,j,h2,rfl,rfl⟩
theorem J.mono {lo lo':Nat}{P P':α→Nat→Prop}{p:Option (Pn (α×B0))}{r:Option (α×Int×Bool)}(h:J l e lo P p r)(hl:lo'≤lo)(hP:∀ v j,lo≤j→P v j→P' v j):J l e lo' P' p r:=by
 rcases h with ⟨v,j,h1,h2,h0,h3,h4⟩ | h
 ·exact .inl ⟨v,j,Nat.le_trans hl h1,h2,hP v j h1 h0,h3,h4⟩
 ·exact .inr h
theorem J.bind {lo lo':Nat}{P:α→Nat→Prop}{Q:β→Nat→Prop}{p:Option (Pn (α×B0))}{r:Option (α×Int×Bool)}(h:J l e lo P p r){F:Pn (α×B0)→Option (Pn (β×B0))}{g:α×Int×Bool→Option (β×Int×Bool)}(hF:∀ n,F (.pn n)=some (.pn n))
  (hg:∀ v (j:Nat),j≤l.length→∃ v',g (v,(j:Int),false)=some (v',(j:Int),false)) (hf:∀ v (j:Nat),lo≤j→j≤l.length→P v j→J l e lo' Q (F (.ok (v,mk l j e))) (g (v,(j:Int),true))) :
  J l e lo' Q (p>>=F) (r>>=g):=by
 rcases h with ⟨v,j,h1,h2,h0,rfl,rfl⟩ | ⟨v,j,h2,rfl,rfl⟩
 ·exact hf v j h1 h2 h0
 ·obtain ⟨v',hv⟩:=hg v j h2
  rw [ob,ob,hv,hF]
  exact .pn v' j h2
theorem J.same {lo:Nat}{P:α→Nat→Prop}{p:Option (Pn (α×B0))}{r:Option (α×Int×Bool)}(h:J l e lo P p r){F:Pn (α×B0)→Option (Pn (α×B0))}(hF:∀ n,F (.pn n)=some (.pn n))(hF2:∀ x,F (.ok x)=some (.ok (x.1,x.2))):J l e lo P (p>>=F) r:=by
 rcases h with ⟨v,j,h1,h2,h0,rfl,rfl⟩ | ⟨v,j,h2,rfl,rfl⟩
 ·rw [ob,hF2]; exact .ok v j h1 h2 h0
 ·rw [ob,hF]; exact .pn v j h2
theorem J.rsame {lo:Nat}{P:α→Nat→Prop}{p:Option (Pn (α×B0))}{r:Option (α×Int×Bool)}(h:J l e lo P p r):J l e lo P p (r>>=fun x=>some (x.1,x.2.1,x.2.2)):=by
 rcases h with ⟨v,j,h1,h2,h0,rfl,rfl⟩ | ⟨v,j,h2,rfl,rfl⟩
 ·exact .ok v j h1 h2 h0
 ·exact .pn v j h2
end
def BE (k:Nat)(v:A0)(j:Nat):Prop:=v.bulk≤9000 * (j - k)
def BO (o:Nat)(k:Nat)(v:A0)(j:Nat):Prop:=v.bulk≤o+9000 * (j - k)
theorem Yt (op n:Int)(s:Str):(A0.mk op n s []).bulk=s.length+5:=by rw [A0.bulk_eq]; rfl
theorem E17 (op n:Int)(s:Str)(a:A0):(A0.mk op n s [a]).bulk=s.length+a.bulk+5:=by rw [A0.bulk_eq]; simp only [A0.bulks]; omega
theorem Dx (op n:Int)(s:Str)(a b:A0):(A0.mk op n s [a,b]).bulk=s.length+a.bulk+b.bulk+5:=by rw [A0.bulk_eq]; simp only [A0.bulks]; omega
theorem V19 (op n:Int)(s:Str)(a b c:A0):(A0.mk op n s [a,b,c]).bulk=s.length+a.bulk+b.bulk+c.bulk+5:=by rw [A0.bulk_eq]; simp only [A0.bulks]; omega
structure PE (l:List E0)(e:Int)(k:Nat):Prop where
 expr:J l e (k+1) (BE k) (C1 (mk l k e)) (N1 l k)
 un:J l e (k+1) (BE k) (F2 (mk l k e)) (X4 l k)
 prodL:∀ o,J l e k (BO o.bulk k) (V1 (mk l k e) o) (P1 l 5 o k)
 prod:J l e (k+1) (BE k) (R2 (mk l k e)) (J1 l k 5)
 sumL:∀ o,J l e k (BO o.bulk k) (U1 (mk l k e) o) (P1 l 4 o k)
 sum:J l e (k+1) (BE k) (Z2 (mk l k e)) (J1 l k 4)
 cmp:J l e (k+1) (BE k) (C2 (mk l k e)) (J1 l k 3)
 andL:∀ o,J l e k (BO o.bulk k) (T1 (mk l k e) o) (P1 l 2 o k)
 and:J l e (k+1) (BE k) (H3 (mk l k e)) (J1 l k 2)
 orL:∀ o,J l e k (BO o.bulk k) (D2 (mk l k e) o) (P1 l 1 o k)
 or:J l e (k+1) (BE k) (X3 (mk l k e)) (J1 l k 1)
 placeL:∀ op name kids,J l e k (BO (A0.mk op 0 name kids).bulk k) (N2 (mk l k e) op name kids) (T5 l op 0 name kids k)
section
set_option linter.unusedSectionVars false
variable {l:List E0}{e:Int}(hl:Ok l)
include hl
theorem Fq {k:Nat}{n:Int}{o:A0}{un:B0→Option (Pn (A0×B0))}{chain:B0→A0→Option (Pn (A0×B0))}{b:Bool}{op op':Int}{F:Pn (A0×B0)→Option (Pn (A0×B0))}(hF:∀ n,F (.pn n)=some (.pn n))(hF2:∀ x,F (.ok x)=chain x.2 (A0.mk op' 0 [] [o,x.1]))(hk:k≤l.length)(hn:n≠3)
  (hb:I3 l k n=some (op,b)) (hop:b=true→op=op'∧k < l.length)
  (hun:k < l.length→J l e (k+2) (BE (k+1)) (un (mk l (k+1) e)) (J1 l ((k+1:Nat):Int) (IntKind.i64.wrap (n+1))))
  (hch:∀ j,k < j→j≤l.length→∀ o,J l e j (BO o.bulk j) (chain (mk l j e) o) (P1 l n o (j:Int))) :
  J l e k (BO o.bulk k) (if (!b)=true then some (.ok (o,mk l (step b k) e)) else un (mk l (step b k) e)>>=F) (P1 l n o (k:Int)):=by
 rw [P1,hb,ob]
 cases b with
 | false=>exact .ok o k (Nat.le_refl _) hk (by unfold BO; omega)
 | true=>
  obtain ⟨rfl,hlt⟩:=hop rfl
  have hB:=hl.1
  simp only [Bool.not_true,Bool.false_eq_true,if_false,step,cond_true]
  rw [w1 (by omega)]
  refine J.bind (hun hlt) hF ?_ ?_
  ·exact fun v j hj=>⟨v,rfl⟩
  intro v j h1 h2 h0
  simp only [Bool.not_true,Bool.false_eq_true,if_false,Qk,ob,beq_eq_false_iff_ne.2 hn]
  rw [hF2]
  refine (hch j (by omega) h2 _).mono (by omega) fun v' j' h3 h4=>?_
  unfold BO at h4 ⊢
  unfold BE at h0
  rw [Dx] at h4
  simp only [List.length_nil] at h4
  omega
theorem Sz (k:Nat)(n:Nat)(hn:n < 6):J1 l k n=(J1 l k ((n+1:Nat):Int)>>=fun x2=>if (!x2.2.2)=true then some (x2.1,x2.2.1,false) else P1 l n x2.1 x2.2.1):=by
 rw [J1,if_neg (by simp; omega),w1 (by unfold BB; omega)]
theorem Zu (k:Nat):J1 l k 6=(X4 l k>>=fun x1=>some (x1.1,x1.2.1,x1.2.2)):=by
 rw [J1]
 simp only [beq_self_eq_true,if_true]
theorem Gq {k:Nat}{n:Nat}{p:Option (Pn (A0×B0))}{chain:B0→A0→Option (Pn (A0×B0))}{F:Pn (A0×B0)→Option (Pn (A0×B0))}(hF:∀ n,F (.pn n)=some (.pn n))(hF2:∀ x,F (.ok x)=chain x.2 x.1)(hn:n < 6)(h:J l e (k+1) (BE k) p (J1 l k ((n+1:Nat):Int)))
  (hch:∀ j,k < j→j≤l.length→∀ o,J l e j (BO o.bulk j) (chain (mk l j e) o) (P1 l n o (j:Int))) :
  J l e (k+1) (BE k) (p>>=F) (J1 l k n):=by
 rw [Sz hl k n hn]
 refine J.bind h hF ?_ ?_
 ·exact fun v j _=>⟨v,rfl⟩
 ·intro v j h1 h2 h0
  rw [hF2]
  refine (hch j (by omega) h2 v).mono h1 fun v' j' h3 h4=>?_
  unfold BO at h4
  unfold BE at h0 ⊢
  omega
section
variable {k:Nat}(hk:k≤l.length)(IH:∀ j,k < j→j≤l.length→PE l e j)
include hk IH
theorem D18 (o:A0):J l e k (BO o.bulk k) (V1 (mk l k e) o) (P1 l 5 o k):=by
 obtain ⟨op,op',b,h1,h2,h3⟩:=C18 l e hl k
 rw [V1,h1,ob]
 have hB:=hl.1
 refine Fq hl (chain:=V1) (fun _=>rfl) (fun _=>rfl) hk (by decide) h2 h3 (fun hlt=>?_) fun j h4 h5 o=>(IH j h4 h5).prodL o
 rw [show IntKind.i64.wrap (5+1)=6 by decide,Zu hl]
 exact J.rsame (IH (k+1) (by omega) (by omega)).un
theorem B19 (o:A0):J l e k (BO o.bulk k) (U1 (mk l k e) o) (P1 l 4 o k):=by
 obtain ⟨op,op',b,h1,h2,h3⟩:=A19 l e hl k
 rw [U1,h1,ob]
 refine Fq hl (chain:=U1) (fun _=>rfl) (fun _=>rfl) hk (by decide) h2 h3 (fun hlt=>?_) fun j h4 h5 o=>(IH j h4 h5).sumL o
 rw [show IntKind.i64.wrap (4+1)=5 by decide]
 exact (IH (k+1) (by omega) (by omega)).prod
theorem C19 (o:A0):J l e k (BO o.bulk k) (T1 (mk l k e) o) (P1 l 2 o k):=by
 obtain ⟨op,b,h1,h2,h3⟩:=Y18 l e hl k
 rw [T1,h1,ob]
 refine Fq hl (chain:=T1) (fun _=>rfl) (fun _=>rfl) hk (by decide) h2 h3 (fun hlt=>?_) fun j h4 h5 o=>(IH j h4 h5).andL o
 rw [show IntKind.i64.wrap (2+1)=3 by decide]
 exact (IH (k+1) (by omega) (by omega)).cmp
theorem W19 (o:A0):J l e k (BO o.bulk k) (D2 (mk l k e) o) (P1 l 1 o k):=by
 obtain ⟨op,b,h1,h2,h3⟩:=S19 l e hl k
 rw [D2,h1,ob]
 refine Fq hl (chain:=D2) (fun _=>rfl) (fun _=>rfl) hk (by decide) h2 h3 (fun hlt=>?_) fun j h4 h5 o=>(IH j h4 h5).orL o
 rw [show IntKind.i64.wrap (1+1)=2 by decide]
 exact (IH (k+1) (by omega) (by omega)).and
theorem D19 (hu:J l e (k+1) (BE k) (F2 (mk l k e)) (X4 l k)):J l e (k+1) (BE k) (R2 (mk l k e)) (J1 l k 5):=by
 rw [R2,A4]
 refine J.same ?_ (fun _=>rfl) fun _=>rfl
 refine Gq hl (n:=5) (chain:=V1) ?_ ?_ (by decide) ?_ fun j h4 h5 o=>(IH j h4 h5).prodL o
 ·exact fun _=>rfl
 ·exact fun _=>rfl
 show J l e (k+1) (BE k) _ (J1 l k 6)
 rw [Zu hl]
 exact J.rsame hu
theorem X19 (h:J l e (k+1) (BE k) (R2 (mk l k e)) (J1 l k 5)):J l e (k+1) (BE k) (Z2 (mk l k e)) (J1 l k 4):=by
 rw [Z2,Z3]
 refine J.same ?_ (fun _=>rfl) fun _=>rfl
 refine Gq hl (n:=4) (chain:=U1) ?_ ?_ (by decide) h fun j h4 h5 o=>(IH j h4 h5).sumL o
 ·exact fun _=>rfl
 ·exact fun _=>rfl
theorem Y19 (h:J l e (k+1) (BE k) (C2 (mk l k e)) (J1 l k 3)):J l e (k+1) (BE k) (H3 (mk l k e)) (J1 l k 2):=by
 rw [H3,Y3]
 refine J.same ?_ (fun _=>rfl) fun _=>rfl
 refine Gq hl (n:=2) (chain:=T1) ?_ ?_ (by decide) h fun j h4 h5 o=>(IH j h4 h5).andL o
 ·exact fun _=>rfl
 ·exact fun _=>rfl
theorem G1a (h:J l e (k+1) (BE k) (H3 (mk l k e)) (J1 l k 2)):J l e (k+1) (BE k) (X3 (mk l k e)) (J1 l k 1):=by
 rw [X3,A5]
 refine J.same ?_ (fun _=>rfl) fun _=>rfl
 refine Gq hl (n:=1) (chain:=D2) ?_ ?_ (by decide) h fun j h4 h5 o=>(IH j h4 h5).orL o
 ·exact fun _=>rfl
 ·exact fun _=>rfl
end
end
end Go.Proofs.YtmnhfbekncjnfaaDoor

namespace Go.Proofs.YtmnhfbekncjnfaaDoor
open Go.Am
section
set_option linter.unusedSectionVars false
variable {l:List E0}{e:Int}(hl:Ok l)
include hl
section
variable {k:Nat}(hk:k≤l.length)(IH:∀ j,k < j→j≤l.length→PE l e j)
include hk IH
theorem E19 {op:Int}{x1:A0×B0}(hlt:k < l.length)(hop:I3 l k 3=some (op,true))(p:B0)(hp:p=mk l (k+1) e) :
  J l e k (BO x1.1.bulk k) (R0 p x1 op) (P1 l 3 x1.1 k):=by
 subst hp
 have hB:=hl.1
 rw [R0,P1,hop,ob]
 simp only [Bool.not_true,Bool.false_eq_true,if_false]
 rw [w1 (by omega),show IntKind.i64.wrap (3+1)=4 by decide]
 refine J.bind (IH (k+1) (by omega) (by omega)).sum ?_ ?_ ?_
 ·exact fun _=>rfl
 ·exact fun v j _=>⟨v,rfl⟩
 ·intro v j h1 h2 h0
  simp only [Bool.not_true,Bool.false_eq_true,if_false,Qk,ob,beq_self_eq_true,if_true]
  refine .ok _ j (by omega) h2 ?_
  unfold BO
  unfold BE at h0
  rw [Dx]
  simp only [List.length_nil]
  omega
theorem F19 (x1:A0×B0)(hx:x1.2=mk l k e):J l e k (BO x1.1.bulk k) (L0 [61,61] x1.2>>=fun x2=>
 if x2.1=true then
  R0 x2.2 x1 13
 else
  L0 [33,61] x2.2>>=fun x4=>
  if x4.1=true then
   R0 x4.2 x1 14
  else
   L0 [60] x4.2>>=fun x5=>
   if x5.1=true then
    R0 x5.2 x1 15
   else
    L0 [60,61] x5.2>>=fun x6=>
    if x6.1=true then
     R0 x6.2 x1 16
    else
     L0 [62] x6.2>>=fun x7=>
     if x7.1=true then
      R0 x7.2 x1 17
     else
      L0 [62,61] x7.2>>=fun x8=>
      if x8.1=true then
       R0 x8.2 x1 18
      else
       some (.ok (x1.1,x8.2))) (P1 l 3 x1.1 k):=by
 obtain ⟨o,h1,h2⟩:=U19 l hl k
 have done:∀ {t:Str} {op:Int},isS l k t=true→I3 l k 3=some (op,true)→J l e k (BO x1.1.bulk k) (R0 (mk l (step true k) e) x1 op) (P1 l 3 x1.1 k):=fun ht hop=>
  E19 hl hk IH (Ji l hl ht) hop _ rfl
 rw [hx,F5 l e hl.1,T9 hl rfl,ob]
 cases c0:isS l k [61,61] with
 | true=>rw [c0] at h1 h2; rw [h2 rfl] at h1; exact done c0 h1
 | false=>
  simp only [Ia,Bool.false_eq_true,if_false]
  rw [F5 l e hl.1,T9 hl rfl,ob]
  cases c1:isS l k [33,61] with
  | true=>rw [c0,c1] at h1 h2; rw [h2 rfl] at h1; exact done c1 h1
  | false=>
   simp only [Ia,Bool.false_eq_true,if_false]
   rw [F5 l e hl.1,T9 hl rfl,ob]
   cases c2:isS l k [60] with
   | true=>rw [c0,c1,c2] at h1 h2; rw [h2 rfl] at h1; exact done c2 h1
   | false=>
    simp only [Ia,Bool.false_eq_true,if_false]
    rw [F5 l e hl.1,T9 hl rfl,ob]
    cases c3:isS l k [60,61] with
    | true=>rw [c0,c1,c2,c3] at h1 h2; rw [h2 rfl] at h1; exact done c3 h1
    | false=>
     simp only [Ia,Bool.false_eq_true,if_false]
     rw [F5 l e hl.1,T9 hl rfl,ob]
     cases c4:isS l k [62] with
     | true=>rw [c0,c1,c2,c3,c4] at h1 h2; rw [h2 rfl] at h1; exact done c4 h1
     | false=>
      simp only [Ia,Bool.false_eq_true,if_false]
      rw [F5 l e hl.1,T9 hl rfl,ob]
      cases c5:isS l k [62,61] with
      | true=>rw [c0,c1,c2,c3,c4,c5] at h1 h2; rw [h2 rfl] at h1; exact done c5 h1
      | false=>
       rw [c0,c1,c2,c3,c4,c5] at h1
       simp only [Ia,Bool.false_eq_true,if_false]
       rw [P1,h1,ob]
       exact .ok _ k (Nat.le_refl _) hk (by unfold BO; omega)
end
theorem Z19 {k:Nat}(hk:k≤l.length)(IH:∀ j,k < j→j≤l.length→PE l e j)(h:J l e (k+1) (BE k) (Z2 (mk l k e)) (J1 l k 4)):J l e (k+1) (BE k) (C2 (mk l k e)) (J1 l k 3):=by
 rw [C2,show (3:Int)=((3:Nat):Int) from rfl,Sz hl k 3 (by decide)]
 refine J.bind (p:=Z2 (mk l k e)) (r:=J1 l k ((3+1:Nat):Int)) h ?_ ?_ ?_
 ·exact fun _=>rfl
 ·exact fun v j _=>⟨v,rfl⟩
 ·intro v j h1 h2 h0
  refine (F19 hl h2 (fun i h3 h4=>IH i (by omega) h4) (v,mk l j e) rfl).mono h1 fun v' j' h3 h4=>?_
  unfold BO at h4
  unfold BE at h0 ⊢
  simp only at h4
  omega
section
variable {k:Nat}(hk:k≤l.length)(IH:∀ j,k < j→j≤l.length→PE l e j)
include hk IH
theorem L16 (op:Int)(name:Str)(kids:List A0):J l e k (BO (A0.mk op 0 name kids).bulk k) (N2 (mk l k e) op name kids) (T5 l op 0 name kids k):=by
 have hB:=hl.1
 rw [N2,F5 l e hB,ob,T5,N8 l hB,ob]
 cases hd:isT l k [46] with
 | true=>
  have hlt:=P5 hd
  simp only [Bf,Bool.not_true,Bool.false_eq_true,if_false,if_true,ob,cond_true]
  rw [w1 (by omega),X14 l e hB,Mp l hB]
  cases hn:U5 l (k+1) 0 with
  | true=>
   have:=Pz hn
   simp only [if_true,ob,Bool.not_true,Bool.false_eq_true,if_false]
   refine ((IH (k+1+1) (by omega) (by omega)).placeL _ _ _).mono (by omega) fun v' j' h3 h4=>?_
   have ht:=J11 hl (k+1)
   unfold BO at h4 ⊢
   rw [E17] at h4
   omega
  | false=>exact .pn _ (k+1) (by omega)
 | false=>
  simp only [Ia,Bool.not_false,Bool.false_eq_true,if_false,if_true]
  rw [F5 l e hB,ob,N8 l hB,ob]
  cases hi:isT l k [91] with
  | true=>
   have hlt:=P5 hi
   simp only [Bf,if_true,cond_false]
   rw [ob,if_neg (by simp),w1 (by omega)]
   refine J.bind (IH (k+1) (by omega) (by omega)).expr ?_ ?_ ?_
   ·exact fun _=>rfl
   ·exact fun v j _=>⟨v,rfl⟩
   ·intro v j h1 h2 h0
    simp only [Bool.not_true,Bool.not_false,if_true,cond_false]
    rw [Ym l e hB,N8 l hB,ob]
    cases hn:isT l j [93] with
    | true=>
     have:=P5 hn
     simp only [if_true,ob,Bool.not_true,Bool.false_eq_true,if_false,Qk]
     rw [w1 (by omega)]
     refine ((IH (j+1) (by omega) (by omega)).placeL _ _ _).mono (by omega) fun v' j' h3 h4=>?_
     unfold BO at h4 ⊢
     unfold BE at h0
     rw [Dx] at h4
     simp only [List.length_nil] at h4
     omega
    | false=>exact .pn _ j h2
  | false=>
   simp only [Ia,Bool.false_eq_true,if_false,cond_false]
   exact .ok _ k (Nat.le_refl _) hk (by unfold BO; omega)
end
end
end Go.Proofs.YtmnhfbekncjnfaaDoor

namespace Go.Proofs.YtmnhfbekncjnfaaDoor
open Go.Am
section
set_option linter.unusedSectionVars false
variable {l:List E0}{e:Int}(hl:Ok l)
include hl
section
variable {k:Nat}(hk:k≤l.length)(IH:∀ j,k < j→j≤l.length→PE l e j)
include hk IH
theorem E18:J l e (k+1) (BE k) (C4 (mk l k e)) (R9 l k):=by
 have hB:=hl.1
 rw [C4,R9,X14 l e hB,Mp l hB]
 cases hn:U5 l k 0 with
 | true=>
  have:=Pz hn
  simp only [if_true,ob,Bool.not_true,Bool.false_eq_true,if_false]
  refine ((IH (k+1) (by omega) (by omega)).placeL _ _ _).mono (Nat.le_refl _) fun v' j' h3 h4=>?_
  have ht:=J11 hl k
  unfold BO at h4
  unfold BE
  rw [Yt] at h4
  omega
 | false=>exact .pn _ k hk
theorem Y14 (op:Int)(hlt:k < l.length):J l e (k+1) (BE k) (U3 op (mk l (k+1) e)) (S6 l k op):=by
 have hB:=hl.1
 rw [U3,Ym l e hB,S6,w1 (by omega),N8 l hB,ob]
 cases ho:isT l (k+1) [40] with
 | false=>exact .pn _ (k+1) (by omega)
 | true=>
  have h1:=P5 ho
  simp only [if_true,ob,Bool.not_true,Bool.false_eq_true,if_false]
  rw [wr (n:=(k:Int)+2) (by omega) (by unfold BB at hB; omega),show (k:Int)+2=((k+1+1:Nat):Int) by omega]
  refine J.bind (IH (k+1+1) (by omega) (by omega)).expr ?_ ?_ ?_
  ·exact fun _=>rfl
  ·exact fun v j _=>⟨v,rfl⟩
  intro v j h2 h3 h0
  simp only [Bool.not_true,Bool.not_false,if_true,cond_false]
  rw [Ym l e hB,N8 l hB,ob]
  cases hc:isT l j [44] with
  | false=>exact .pn _ j h3
  | true=>
   have h4:=P5 hc
   simp only [if_true,ob,Bool.not_true,Bool.false_eq_true,if_false]
   rw [w1 (by omega)]
   refine J.bind (IH (j+1) (by omega) (by omega)).expr ?_ ?_ ?_
   ·exact fun _=>rfl
   ·exact fun v j _=>⟨v,rfl⟩
   intro v2 j2 h5 h6 h00
   simp only [Bool.not_true,Bool.not_false,if_true,cond_false]
   rw [Ym l e hB,N8 l hB,ob]
   cases hd:isT l j2 [41] with
   | false=>exact .pn _ j2 h6
   | true=>
    have h7:=P5 hd
    simp only [if_true,ob,Bool.not_true,Bool.false_eq_true,if_false,Qk]
    rw [w1 (by omega)]
    refine .ok _ (j2+1) (by omega) (by omega) ?_
    unfold BE at h0 h00 ⊢
    rw [Dx]
    simp only [List.length_nil]
    omega
theorem Z14:J l e (k+1) (BE k) (N3 (mk l k e)) (V7 l k):=by
 have hB:=hl.1
 rw [N3,V7,J16 l e hB,ob]
 have hw:∀ t,isT l k t=true→U5 l k 0=false:=fun t h=>(Mk h).1
 cases hn:U5 l k 0 with
 | true=>
  have hf:∀ t,isT l k t=false:=fun t=>by
   cases h:isT l k t with
   | false=>rfl
   | true=>rw [hw t h] at hn; cases hn
  have hd:U5 l k 1=false:=by
   unfold U5 at hn ⊢
   split at hn
   ·rw [eq_of_beq hn]; rfl
   ·rfl
  simp only [if_true,N8 l hB,ob,hf,Bool.false_eq_true,if_false,Bool.not_false,cond_false]
  rw [Sn l hl,hd]
  simp only [Bool.false_eq_true,if_false,ob]
  refine J.same ?_ (fun _=>rfl) fun _=>rfl
  exact J.rsame (E18 hl hk IH)
 | false=>
  simp only [Bool.false_eq_true,if_false]
  rw [F5 l e hB,ob,N8 l hB,ob]
  cases h1:isT l k [116,114,117,101] with
  | true=>
   have:=P5 h1
   simp only [Bf,if_true]
   rw [w1 (by omega)]
   exact .ok _ (k+1) (Nat.le_refl _) (by omega) (by unfold BE; rw [Yt]; simp only [List.length_nil]; omega)
  | false=>
   simp only [Ia,Bool.false_eq_true,if_false]
   rw [F5 l e hB,ob,N8 l hB,ob]
   cases h2:isT l k [102,97,108,115,101] with
   | true=>
    have:=P5 h2
    simp only [Bf,if_true]
    rw [w1 (by omega)]
    exact .ok _ (k+1) (Nat.le_refl _) (by omega) (by unfold BE; rw [Yt]; simp only [List.length_nil]; omega)
   | false=>
    simp only [Ia,Bool.false_eq_true,if_false]
    rw [F5 l e hB,ob,N8 l hB,ob,N8 l hB]
    cases h3:isT l k [109,105,110] with
    | true=>
     have hlt:=P5 h3
     have h4:isT l k [109,97,120]=false:=by
      cases h:isT l k [109,97,120] with
      | false=>rfl
      | true=>have:=(Mk h3).2.2.symm.trans (Mk h).2.2; simp at this
     simp only [Bf,if_true,Bool.not_true,Bool.false_eq_true,if_false,ob,cond_true]
     rw [Z8,N8 l hB,ob,h4,if_neg (by simp)]
     refine J.same ?_ (fun _=>rfl) fun _=>rfl
     exact J.rsame (Y14 hl hk IH 21 hlt)
    | false=>
     simp only [Ia,Bool.false_eq_true,if_false,Bool.not_false,if_true,ob,cond_false]
     rw [F5 l e hB,ob]
     cases h4:isT l k [109,97,120] with
     | true=>
      have hlt:=P5 h4
      simp only [Bf,if_true]
      rw [Z8,N8 l hB,ob,h4,if_pos rfl]
      refine J.same ?_ (fun _=>rfl) fun _=>rfl
      exact J.rsame (Y14 hl hk IH 22 hlt)
     | false=>
      simp only [Ia,Bool.false_eq_true,if_false]
      rw [F5 l e hB,ob,N8 l hB,ob]
      cases h5:isT l k [40] with
      | true=>
       have hlt:=P5 h5
       simp only [Bf,if_true]
       rw [w1 (by omega)]
       refine J.bind (IH (k+1) (by omega) (by omega)).expr ?_ ?_ ?_
       ·exact fun _=>rfl
       ·exact fun v j _=>⟨v,rfl⟩
       intro v j h6 h7 h0
       simp only [Bool.not_true,Bool.not_false,if_true,cond_false]
       rw [Ym l e hB,N8 l hB,ob]
       cases hd:isT l j [41] with
       | false=>exact .pn _ j h7
       | true=>
        have h8:=P5 hd
        simp only [if_true,ob,Bool.not_true,Bool.false_eq_true,if_false]
        rw [w1 (by omega)]
        refine .ok _ (j+1) (by omega) (by omega) ?_
        unfold BE at h0 ⊢
        omega
      | false=>
       simp only [Ia,Bool.false_eq_true,if_false]
       rw [K16 l e hl,Sn l hl]
       cases h6:U5 l k 1 with
       | true=>
        have:=Pz h6
        simp only [if_true,ob]
        exact .ok _ (k+1) (Nat.le_refl _) (by omega) (by unfold BE; rw [Yt]; simp only [List.length_nil]; omega)
       | false=>
        simp only [Bool.false_eq_true,if_false,ob]
        rw [R9,Mp l hB,hn]
        exact .pn _ k hk
theorem F18:J l e (k+1) (BE k) (F2 (mk l k e)) (X4 l k):=by
 have hB:=hl.1
 have go:∀ op:Int,k < l.length→J l e (k+1) (BE k) (F2 (mk l (k+1) e)>>=fun x4=>match x4 with | .pn nn=>some (.pn nn) | .ok x4=>some (.ok ((A0.mk op 0 [] [x4.1]),x4.2))) (B7 l k op):=fun op hlt=>by
  rw [B7,w1 (by omega)]
  refine J.bind (IH (k+1) (by omega) (by omega)).un ?_ ?_ ?_
  ·exact fun _=>rfl
  ·exact fun v j _=>⟨v,rfl⟩
  ·intro v j h1 h2 h0
   refine .ok _ j (by omega) h2 ?_
   unfold BE at h0 ⊢
   rw [E17]
   simp only [List.length_nil]
   omega
 rw [F2,X4,F5 l e hB,ob,N8 l hB,ob]
 cases h1:isT l k [45] with
 | true=>
  have hlt:=P5 h1
  have h2:isT l k [33]=false:=by
   cases h:isT l k [33] with
   | false=>rfl
   | true=>have:=(Mk h1).2.2.symm.trans (Mk h).2.2; simp at this
  simp only [Bf,if_true,Bool.not_true,Bool.false_eq_true,if_false,ob,cond_false]
  rw [N8 l hB,ob,h2,if_neg (by simp)]
  exact go 6 hlt
 | false=>
  simp only [Ia,Bool.false_eq_true,if_false,Bool.not_false,if_true]
  rw [F5 l e hB,ob,N8 l hB,ob]
  cases h2:isT l k [33] with
  | true=>
   have hlt:=P5 h2
   simp only [Bf,if_true,Bool.not_true,Bool.false_eq_true,if_false,cond_true,ob]
   exact go 7 hlt
  | false=>
   simp only [Ia,Bool.false_eq_true,if_false,Bool.not_false,if_true,cond_true]
   refine J.same ?_ (fun _=>rfl) fun _=>rfl
   exact J.rsame (Z14 hl hk IH)
theorem G19 (ho:J l e (k+1) (BE k) (X3 (mk l k e)) (J1 l k 1)):J l e (k+1) (BE k) (C1 (mk l k e)) (N1 l k):=by
 have hB:=hl.1
 rw [C1,N1]
 refine J.bind ho ?_ ?_ ?_
 ·exact fun _=>rfl
 ·exact fun v j _=>⟨v,rfl⟩
 intro v j h1 h2 h0
 simp only [Bool.not_true,Bool.not_false,if_true,cond_false]
 rw [F5 l e hB,ob,N8 l hB,ob]
 cases hq:isT l j [63] with
 | false=>exact .ok _ j h1 h2 h0
 | true=>
  have h3:=P5 hq
  simp only [Bf,Bool.not_true,Bool.false_eq_true,if_false]
  rw [w1 (by omega)]
  refine J.bind (IH (j+1) (by omega) (by omega)).expr ?_ ?_ ?_
  ·exact fun _=>rfl
  ·exact fun v j _=>⟨v,rfl⟩
  intro v2 j2 h4 h5 h00
  simp only [Bool.not_true,Bool.false_eq_true,if_false]
  rw [Ym l e hB,N8 l hB,ob]
  cases hc:isT l j2 [58] with
  | false=>exact .pn _ j2 h5
  | true=>
   have h6:=P5 hc
   simp only [if_true,ob,Bool.not_true,Bool.false_eq_true,if_false]
   rw [w1 (by omega)]
   refine J.bind (IH (j2+1) (by omega) (by omega)).expr ?_ ?_ ?_
   ·exact fun _=>rfl
   ·exact fun v j _=>⟨v,rfl⟩
   ·intro v3 j3 h7 h8 h000
    refine .ok _ j3 (by omega) h8 ?_
    unfold BE at h0 h00 h000 ⊢
    rw [V19]
    simp only [List.length_nil]
    omega
end
theorem A15:∀ (n k:Nat),l.length - k < n→k≤l.length→PE l e k
 | 0,k,h,_=>absurd h (Nat.not_lt_zero _)
 | n+1,k,h,hk=>by
  have IH:∀ j,k < j→j≤l.length→PE l e j:=fun j h1 h2=>A15 n j (by omega) h2
  have u:=F18 hl hk IH
  have p5:=D19 hl hk IH u
  have p4:=X19 hl hk IH p5
  have p3:=Z19 hl hk IH p4
  have p2:=Y19 hl hk IH p3
  have p1:=G1a hl hk IH p2
  exact ⟨G19 hl hk IH p1,u,D18 hl hk IH,p5,B19 hl hk IH,p4,p3,C19 hl hk IH,p2,W19 hl hk IH,p1,L16 hl hk IH⟩
theorem A1a {k:Nat}(hk:k≤l.length):PE l e k:=A15 hl _ k (Nat.lt_succ_self _) hk
end
end Go.Proofs.YtmnhfbekncjnfaaDoor

namespace Go.Proofs.YtmnhfbekncjnfaaDoor
open Go.Am
theorem H19 (r:List UInt8):∀ m:Nat,m * 10 ^ r.length≤nv m r:=by
 induction r with
 | nil=>intro m; rw [Xm]; simp
 | cons c r ih=>
  intro m
  rw [Jh]
  refine Nat.le_trans ?_ (ih _)
  rw [List.length_cons,Nat.pow_succ]
  calc m * (10 ^ r.length * 10)=(10 * m) * 10 ^ r.length:=by rw [Nat.mul_comm (10 ^ r.length) 10,← Nat.mul_assoc,Nat.mul_comm m 10]
   _≤(10 * m+(c.toNat - 48)) * 10 ^ r.length:=Nat.mul_le_mul_right _ (by omega)
theorem I19 {w:Str}(hne:w≠[])(h:Ul w=0):w.all (fun c=>D7 c.toNat)=true∧w.length≤7∧nv 0 w≤1048576:=by
 unfold Ul at h
 split at h
 ·rename_i hc
  rw [Bool.and_eq_true] at hc
  obtain ⟨h1,h2⟩:=hc
  have h3:nv 0 w≤1048576:=by
   rcases Nat.lt_or_ge 1048576 (nv 0 w) with hb | hb
   ·rw [Sr hb] at h; cases h
   ·exact hb
  refine ⟨h1,?_,h3⟩
  cases w with
  | nil=>exact absurd rfl hne
  | cons c r=>
   rw [List.all_cons,Bool.and_eq_true] at h1
   have hc:=Pf.1 h1.1
   have hz:Hl (c::r)=false:=by simpa using h2
   unfold Hl at hz
   by_cases h48:c.toNat=48
   ·have hb:(((c::r).getD 0 0).toNat:Int) == 48:=by simp [h48]
    rw [hb,Bool.and_true] at hz
    have:=of_decide_eq_false hz
    omega
   ·rw [Jh] at h3
    have hp:=H19 r (10 * 0+(c.toNat - 48))
    have h5:1 * 10 ^ r.length≤(10 * 0+(c.toNat - 48)) * 10 ^ r.length:=Nat.mul_le_mul_right _ (by omega)
    rcases Nat.lt_or_ge 6 r.length with h6 | h6
    ·have:=Nat.pow_le_pow_right (show 1≤10 by decide) (show 7≤r.length from h6)
     omega
    ·rw [List.length_cons]; omega
 ·cases h
theorem G18 {c:UInt8}{t:List UInt8}{k:Int}(hlen:(c::t).length≤8192)(h:(nxt (c::t) k).2=0):Tok (nxt (c::t) k).1:=by
 have htx:=Rf h
 have hl8:(nxt (c::t) k).1.Text.length≤8192:=by omega
 refine ⟨hl8,fun hk=>?_,fun hk=>?_⟩
 ·revert h hk
  unfold nxt
  simp only [List.getD_cons_zero]
  cases hl:Kb c.toNat with
  | true=>
   have hld:ld c=true:=by unfold ld; rw [hl]; rfl
   intro h hk
   have hw:∃ r,(c::t).take (B4 (c::t))=c::r:=by
    simp only [B4,hld,cond_true,List.take_succ_cons]
    exact ⟨_,rfl⟩
   obtain ⟨r,hr⟩:=hw
   simp only [if_true] at hk ⊢
   split at hk
   ·rename_i hres
    rw [if_pos hres]
    exact ⟨c,r,hr,hl⟩
   ·split at hk <;> cases hk
  | false=>
   simp only [Bool.false_eq_true,if_false]
   intro h hk
   split at hk
   ·cases hk
   ·split at hk
    ·cases hk
    ·split at hk <;> cases hk
 ·revert h hk
  unfold nxt
  simp only [List.getD_cons_zero]
  cases hl:Kb c.toNat with
  | true=>
   intro h hk
   simp only [if_true] at hk
   split at hk
   ·cases hk
   ·split at hk <;> cases hk
  | false=>
   simp only [Bool.false_eq_true,if_false]
   intro h hk
   cases hd:D7 c.toNat with
   | true=>
    have hld:ld c=true:=by unfold ld; rw [hl,hd]; rfl
    have hne:(c::t).take (B4 (c::t))≠[]:=by
     simp only [B4,hld,cond_true,List.take_succ_cons]
     exact List.cons_ne_nil _ _
    rw [hd,if_pos rfl] at h
    rw [if_pos rfl]
    obtain ⟨n1,n2,n3⟩:=I19 hne h
    exact ⟨hne,n1,n2,n3⟩
   | false=>
    rw [hd,if_neg (by simp)] at hk
    split at hk
    ·cases hk
    ·split at hk <;> cases hk
theorem Tz:∀ (n:Nat) (r:List UInt8) (k:Nat),r.length≤8192→(Na n r k).2.2=0→(∀ x∈(Na n r k).1,Tok x)∧(Na n r k).1.length≤r.length
 | 0,r,k,_,_=>⟨fun x hx=>(by cases hx),Nat.zero_le _⟩
 | n+1,r,k,hl,h=>by
  revert h
  unfold Na
  split
  ·exact fun _=>⟨fun x hx=>(by cases hx),Nat.zero_le _⟩
  ·rename_i c t hd
   have hle:(c::t).length≤r.length:=by rw [← hd,List.length_drop]; omega
   simp only
   split
   ·rename_i hx
    obtain ⟨b1,b2,b3,b4⟩:=Rf hx
    have hdl:((c::t).drop (nxt (c::t) ((k+skp false r:Nat):Int)).1.Text.length).length≤(c::t).length - 1:=by rw [List.length_drop]; omega
    have ih:=Tz n ((c::t).drop (nxt (c::t) ((k+skp false r:Nat):Int)).1.Text.length) (k+skp false r+(nxt (c::t) ((k+skp false r:Nat):Int)).1.Text.length) (by omega)
    split
    ·rename_i hz
     obtain ⟨i1,i2⟩:=ih hz
     intro _
     refine ⟨fun x hx'=>?_,?_⟩
     ·rcases List.mem_cons.1 hx' with rfl | hx'
      ·exact G18 (by omega) hx
      ·exact i1 x hx'
     ·simp only [List.length_cons] at *
      omega
    ·rename_i hz
     exact fun h=>absurd h hz
   ·rename_i hx
    exact fun h=>absurd h hx
theorem Ur {s:Str}(h:(Z1 s).2.2=0):Ok (Z1 s).1∧(Z1 s).1.length≤8192:=by
 unfold Z1 at h ⊢
 by_cases hl:s.length > 8192
 ·rw [if_pos hl] at h; cases h
 ·rw [if_neg hl] at h ⊢
  obtain ⟨h1,h2⟩:=Tz _ s 0 (by omega) h
  exact ⟨⟨by unfold BB; omega,h1⟩,by omega⟩
end Go.Proofs.YtmnhfbekncjnfaaDoor

namespace Go.Proofs.YtmnhfbekncjnfaaDoor
open Go.Am
end Go.Proofs.YtmnhfbekncjnfaaDoor

namespace Go.Proofs.YtmnhfbekncjnfaaDoor
open Go.Am
abbrev LxR:=List E0×Int×Int
def lx (r:List UInt8)(k:Nat):LxR:=Na (r.length+1) r k
def Zt (a:E0)(z:LxR):LxR:=if z.2.2=0 then (a::z.1,0,0) else z
theorem Dw:∀ (n m:Nat) (r:List UInt8) (k:Nat),r.length < n→r.length < m→Na n r k=Na m r k
 | 0,_,_,_,h,_=>absurd h (Nat.not_lt_zero _)
 | _+1,0,_,_,_,h=>absurd h (Nat.not_lt_zero _)
 | n+1,m+1,r,k,hn,hm=>by
  unfold Na
  cases hd:r.drop (skp false r) with
  | nil=>rfl
  | cons c t=>
   have hle:(c::t).length≤r.length:=by rw [← hd,List.length_drop]; omega
   simp only
   by_cases hx:(nxt (c::t) ((k+skp false r:Nat):Int)).2=0
   ·obtain ⟨b1,b2,_,_⟩:=Rf hx
    rw [if_pos hx,if_pos hx,Dw n m _ _ (by rw [List.length_drop]; omega) (by rw [List.length_drop]; omega)]
   ·rw [if_neg hx,if_neg hx]
theorem Zm {r:List UInt8}(h:r.drop (skp false r)=[])(k:Nat):lx r k=([],0,0):=by
 unfold lx Na
 rw [h]
theorem Lh {r t:List UInt8}{c:UInt8}(h:r.drop (skp false r)=c::t)(k:Nat)(hx:(nxt (c::t) ((k+skp false r:Nat):Int)).2=0) :
  lx r k=Zt (nxt (c::t) ((k+skp false r:Nat):Int)).1 (lx ((c::t).drop (nxt (c::t) ((k+skp false r:Nat):Int)).1.Text.length) (k+skp false r+(nxt (c::t) ((k+skp false r:Nat):Int)).1.Text.length)):=by
 have hle:(c::t).length≤r.length:=by rw [← h,List.length_drop]; omega
 obtain ⟨b1,b2,_,_⟩:=Rf hx
 have hf:=Dw r.length (((c::t).drop (nxt (c::t) ((k+skp false r:Nat):Int)).1.Text.length).length+1) ((c::t).drop (nxt (c::t) ((k+skp false r:Nat):Int)).1.Text.length) (k+skp false r+(nxt (c::t) ((k+skp false r:Nat):Int)).1.Text.length) (by rw [List.length_drop]; omega) (Nat.lt_succ_self _)
 unfold lx
 rw [Na]
 rw [h]
 simp only
 rw [if_pos hx,hf]
 rfl
theorem An {r t:List UInt8}{c:UInt8}(h:r.drop (skp false r)=c::t)(k:Nat)(hx:¬(nxt (c::t) ((k+skp false r:Nat):Int)).2=0):lx r k=([],((k+skp false r:Nat):Int),(nxt (c::t) ((k+skp false r:Nat):Int)).2):=by
 unfold lx
 rw [Na]
 rw [h]
 simp only
 rw [if_neg hx]
theorem F17 {r:List UInt8}{k:Nat}(h:(lx r k).2.2=0):(lx r k).2=(0,0):=G11 _ _ _ h
theorem K11 (s:Str):Z1 s=if s.length > 8192 then ([],0,5) else lx s 0:=rfl
def brk (d:UInt8):Bool:=!ld d && !(d == 46||d == 61||d == 38||d == 124)
theorem J19 {d:UInt8}(h:brk d=true):ld d=false:=by
 unfold brk at h
 rw [Bool.and_eq_true] at h
 simpa using h.1
theorem M16 {d:UInt8}(h:brk d=true)(c:UInt8):Ue [c,d]=false:=by
 unfold brk at h
 rw [Bool.and_eq_true,Bool.not_eq_true',Bool.not_eq_true',Bool.or_eq_false_iff,Bool.or_eq_false_iff,Bool.or_eq_false_iff] at h
 obtain ⟨_,⟨⟨h1,h2⟩,h3⟩,h4⟩:=h
 have f:∀ a b:UInt8,(d == b)=false→(([c,d]:List UInt8) == [a,b])=false:=fun a b hb=>beq_eq_false_iff_ne.2 fun e=>by
  injection e with _ e
  injection e with e _
  rw [e] at hb
  simp at hb
 unfold Ue
 rw [f 46 46 h1,f 61 61 h2,f 33 61 h2,f 60 61 h2,f 62 61 h2,f 38 38 h3,f 124 124 h4]
 rfl
theorem Uz {d:UInt8}(h:ld d=false)(b:List UInt8):∀ a:List UInt8,B4 (a++d::b)=B4 a
 | []=>by simp [B4,h]
 | c::a=>by
  simp only [List.cons_append,B4,Uz h b a]
theorem Vz {a x:List UInt8}{n:Nat}(h:n≤a.length):(a++x).take n=a.take n:=by
 rw [List.take_append_of_le_length h]
theorem N16 {d:UInt8}(h:brk d=true)(c:UInt8)(t b:List UInt8)(k:Int):nxt (c::t++d::b) k=nxt (c::t) k:=by
 have h1:=Uz (J19 h) b (c::t)
 have h2:=Vz (a:=c::t) (x:=d::b) (Wm (c::t))
 have h3:(decide (2≤(c::t++d::b).length)&&Ue ((c::t++d::b).take 2))=(decide (2≤(c::t).length)&&Ue ((c::t).take 2)):=by
  cases t with
  | nil=>
   have:Ue ((c::[]++d::b).take 2)=false:=M16 h c
   rw [this,Bool.and_false]
   rfl
  | cons e t=>simp
 have h4:(c::t++d::b).getD 0 0=(c::t).getD 0 0:=rfl
 unfold nxt
 rw [h1,h2,h3,h4]
 by_cases h5:(decide (2≤(c::t).length)&&Ue ((c::t).take 2))=true
 ·rw [Bool.and_eq_true] at h5
  rw [Vz (a:=c::t) (x:=d::b) (of_decide_eq_true h5.1)]
 ·rw [if_neg h5,if_neg h5]
theorem Bn (b:List UInt8):∀ (m:Bool) (a:List UInt8),skp m (a++10::b)=if skp m a=a.length then a.length+1+skp false b else skp m a
 | true,[]=>by simp [skp]; omega
 | false,[]=>by simp [skp]; omega
 | true,c::a=>by
  have i1:=Bn b true a
  have i2:=Bn b false a
  have l1:=Af true a
  have l2:=Af false a
  cases h:(c.toNat:Int) == 10 with
  | true=>
   have e1:skp true (c::a++10::b)=skp false (a++10::b)+1:=by rw [List.cons_append,skp,h,if_pos rfl]
   have e2:skp true (c::a)=skp false a+1:=by rw [skp,h,if_pos rfl]
   rw [e1,e2,i2,List.length_cons]
   split <;> split <;> omega
  | false=>
   have e1:skp true (c::a++10::b)=skp true (a++10::b)+1:=by rw [List.cons_append,skp,h,if_neg (by simp)]
   have e2:skp true (c::a)=skp true a+1:=by rw [skp,h,if_neg (by simp)]
   rw [e1,e2,i1,List.length_cons]
   split <;> split <;> omega
 | false,c::a=>by
  have i1:=Bn b true a
  have i2:=Bn b false a
  have l1:=Af true a
  have l2:=Af false a
  cases h:(c.toNat:Int) == 35 with
  | true=>
   have e1:skp false (c::a++10::b)=skp true (a++10::b)+1:=by rw [List.cons_append,skp,h,if_pos rfl]
   have e2:skp false (c::a)=skp true a+1:=by rw [skp,h,if_pos rfl]
   rw [e1,e2,i1,List.length_cons]
   split <;> split <;> omega
  | false=>
   cases h':((c.toNat:Int) == 32||((c.toNat:Int) == 9||(c.toNat:Int) == 10)) with
   | true=>
    have e1:skp false (c::a++10::b)=skp false (a++10::b)+1:=by rw [List.cons_append,skp,h,if_neg (by simp),h',if_pos rfl]
    have e2:skp false (c::a)=skp false a+1:=by rw [skp,h,if_neg (by simp),h',if_pos rfl]
    rw [e1,e2,i2,List.length_cons]
    split <;> split <;> omega
   | false=>
    have e1:skp false (c::a++10::b)=0:=by rw [List.cons_append,skp,h,if_neg (by simp),h',if_neg (by simp)]
    have e2:skp false (c::a)=0:=by rw [skp,h,if_neg (by simp),h',if_neg (by simp)]
    rw [e1,e2,List.length_cons,if_neg (by omega)]
def Ve (za zb:LxR):LxR:=if za.2.2=0 then (if zb.2.2=0 then (za.1++zb.1,0,0) else zb) else za
theorem Ew (a:E0)(za zb:LxR):Ve (Zt a za) zb=Zt a (Ve za zb):=by
 unfold Ve Zt
 by_cases h1:za.2.2=0
 ·by_cases h2:zb.2.2=0
  ·simp [h1,h2]
  ·simp [h1,h2]
 ·simp [h1]
theorem B15 (b:List UInt8):∀ (n:Nat) (a:List UInt8) (k:Nat),a.length < n→lx (a++10::b) k=Ve (lx a k) (lx b (k+a.length+1))
 | 0,_,_,h=>absurd h (Nat.not_lt_zero _)
 | n+1,a,k,h=>by
  have hs:=Bn b false a
  have hle:=Af false a
  cases hd:a.drop (skp false a) with
  | nil=>
   have he:skp false a=a.length:=by
    have:a.length≤skp false a:=List.drop_eq_nil_iff.1 hd
    omega
   rw [if_pos he] at hs
   rw [Zm hd]
   have hb:Ve ([],0,0) (lx b (k+a.length+1))=lx b (k+a.length+1):=by
    unfold Ve
    rw [if_pos rfl]
    split
    ·rename_i hz
     have:=F17 hz
     rw [List.nil_append,← this]
    ·rfl
   rw [hb]
   have hdd:(a++10::b).drop (skp false (a++10::b))=b.drop (skp false b):=by
    rw [hs,show a.length+1+skp false b=a.length+(1+skp false b) by omega,← List.drop_drop,List.drop_left,show 1+skp false b=skp false b+1 by omega,List.drop_succ_cons]
   have hk:k+skp false (a++10::b)=k+a.length+1+skp false b:=by rw [hs]; omega
   cases hb2:b.drop (skp false b) with
   | nil=>rw [Zm hb2,Zm (hdd.trans hb2)]
   | cons c t=>
    by_cases hx:(nxt (c::t) ((k+a.length+1+skp false b:Nat):Int)).2=0
    ·rw [Lh hb2 _ hx,Lh (hdd.trans hb2) k (by rw [hk]; exact hx),hk]
    ·rw [An hb2 _ hx,An (hdd.trans hb2) k (by rw [hk]; exact hx),hk]
  | cons c t=>
   have hlen:(c::t).length=a.length - skp false a:=by rw [← hd,List.length_drop]
   have hlt:skp false a < a.length:=by rw [List.length_cons] at hlen; omega
   rw [if_neg (by omega)] at hs
   have hdd:(a++10::b).drop (skp false (a++10::b))=c::(t++10::b):=by
    rw [hs,List.drop_append_of_le_length (by omega),hd]
    rfl
   have hn:∀ k:Int,nxt (c::(t++10::b)) k=nxt (c::t) k:=fun k=>N16 (d:=10) (by decide) c t b k
   by_cases hx:(nxt (c::t) ((k+skp false a:Nat):Int)).2=0
   ·obtain ⟨b1,b2,_,_⟩:=Rf hx
    rw [Lh hd k hx,Lh hdd k (by rw [hs,hn]; exact hx),hs,hn,Ew]
    congr 1
    have e1:(c::(t++10::b)).drop (nxt (c::t) ((k+skp false a:Nat):Int)).1.Text.length=(c::t).drop (nxt (c::t) ((k+skp false a:Nat):Int)).1.Text.length++10::b:=by
     rw [← List.cons_append,List.drop_append_of_le_length b2]
    rw [e1,B15 b n _ _ (by rw [List.length_drop]; omega)]
    congr 2
    rw [List.length_drop]
    omega
   ·rw [An hd k hx,An hdd k (by rw [hs,hn]; exact hx),hs,hn]
    unfold Ve
    rw [if_neg hx]
end Go.Proofs.YtmnhfbekncjnfaaDoor

namespace Go.Proofs.YtmnhfbekncjnfaaDoor
open Go.Am
def Au:Option E0→Option E0→Prop
 | none,none=>True
 | some a,some b=>a.Kind=b.Kind∧a.Text=b.Text
 | _,_=>False
def H1a (y:Option E0):Prop:=∃ b,y=some b∧b.Kind=3∧b.Text=[41]
def Ag (l l':List E0)(s:Nat)(w:Bool)(k j:Nat)(ok:Bool):Prop:=
 ∀ i,k≤i→i≤j→Au l[i]? l'[i+s]?∨(w=true∧ok=true∧l[i]?=none∧H1a l'[i+s]?)
def TM {α:Type}(l l':List E0)(s:Nat)(w:Bool)(k:Nat)(r:α×Int×Bool)(R':Option (α×Int×Bool)):Prop:=
 ∃ j:Nat,r.2.1=(j:Int)∧k≤j∧(Ag l l' s w k j r.2.2→R'=some (r.1,((j+s:Nat):Int),r.2.2))
def Tr {α:Type}(l l':List E0)(s:Nat)(w:Bool)(k:Nat)(b:Bool)(R R':Option (α×Int×Bool)):Prop:=
 ∀ r,R=some r→TM l l' s w k r R'∧(r.2.2=true→b=true)
theorem L11 {l l':List E0}{i i':Nat}(h:Au l[i]? l'[i']?)(t:Str):isT l' i' t=isT l i t:=by
 unfold isT
 cases hx:l[i]? with
 | none=>cases hy:l'[i']? with
  | none=>rfl
  | some y=>rw [hx,hy] at h; exact h.elim
 | some x=>cases hy:l'[i']? with
  | none=>rw [hx,hy] at h; exact h.elim
  | some y=>rw [hx,hy] at h; obtain ⟨h1,h2⟩:=h; simp only [h1,h2]
theorem Hq {l l':List E0}{i i':Nat}(h:Au l[i]? l'[i']?)(c:Int):U5 l' i' c=U5 l i c∧txt l' i'=txt l i:=by
 unfold U5 txt
 cases hx:l[i]? with
 | none=>cases hy:l'[i']? with
  | none=>exact ⟨rfl,rfl⟩
  | some y=>rw [hx,hy] at h; exact h.elim
 | some x=>cases hy:l'[i']? with
  | none=>rw [hx,hy] at h; exact h.elim
  | some y=>rw [hx,hy] at h; obtain ⟨h1,h2⟩:=h; simp only [h1,h2]; exact ⟨trivial,trivial⟩
section
variable {l l':List E0}{s:Nat}{w:Bool}{α β:Type}
theorem Tr.bind {k:Nat}{b:Bool}{R R':Option (α×Int×Bool)}{F F':α×Int×Bool→Option (β×Int×Bool)}(h:Tr l l' s w k b R R')(hF:∀ v (j:Nat) ok,k≤j→Tr l l' s w j ok (F (v,(j:Int),ok)) (F' (v,((j+s:Nat):Int),ok))) :
  Tr l l' s w k b (R>>=F) (R'>>=F'):=by
 intro r hr
 cases hR:R with
 | none=>rw [hR] at hr; cases hr
 | some x=>
  rw [hR] at hr
  obtain ⟨⟨j,h1,h2,h3⟩,h4⟩:=h x hR
  obtain ⟨v,p,ok⟩:=x
  simp only at h1 h3 h4
  subst h1
  obtain ⟨⟨j2,g1,g2,g3⟩,g4⟩:=hF v j ok h2 r hr
  refine ⟨⟨j2,g1,by omega,fun ha=>?_⟩,fun hb=>h4 (g4 hb)⟩
  have a1:Ag l l' s w k j ok:=fun i i1 i2=>by
   rcases ha i i1 (by omega) with a | ⟨a1,a2,a3,a4⟩
   ·exact .inl a
   ·exact .inr ⟨a1,g4 a2,a3,a4⟩
  have a2:Ag l l' s w j j2 r.2.2:=fun i i1 i2=>ha i (by omega) i2
  rw [h3 a1]
  exact g3 a2
theorem Tr.ret {v:α}{j k:Nat}{ok b:Bool}(h:k≤j)(hb:ok=true→b=true):Tr l l' s w k b (some (v,(j:Int),ok)) (some (v,((j+s:Nat):Int),ok)):=by
 intro r hr
 cases hr
 exact ⟨⟨j,rfl,h,fun _=>rfl⟩,hb⟩
theorem Tr.no {v:α}{j k:Nat}{b:Bool}(h:k≤j):Tr l l' s w k b (some (v,(j:Int),false)) (some (v,((j+s:Nat):Int),false)):=Tr.ret h nofun
theorem Tr.yes {v:α}{j k:Nat}{ok:Bool}(h:k≤j):Tr l l' s w k true (some (v,(j:Int),ok)) (some (v,((j+s:Nat):Int),ok)):=Tr.ret h fun _=>rfl
theorem Tr.of {k:Nat}{R R':Option (α×Int×Bool)}(h:∀ r,R=some r→TM l l' s w k r R'):Tr l l' s w k true R R':=fun r hr=>⟨h r hr,fun _=>rfl⟩
theorem Tr.run {k:Nat}{R R':Option (α×Int×Bool)}{r:α×Int×Bool}(h:Tr l l' s w k true R R')(hr:R=some r):TM l l' s w k r R':=(h r hr).1
theorem Tr.le {k k':Nat}{b:Bool}{R R':Option (α×Int×Bool)}(h:Tr l l' s w k' b R R')(hk:k≤k'):Tr l l' s w k b R R':=fun r hr=>by
 obtain ⟨⟨j,h1,h2,h3⟩,h4⟩:=h r hr
 exact ⟨⟨j,h1,by omega,fun ha=>h3 fun i i1 i2=>ha i (by omega) i2⟩,h4⟩
theorem Tr.go {k:Nat}{ok:Bool}{A A' B B':Option (α×Int×Bool)}(hA:Tr l l' s w k false A A')(hB:ok=true→Tr l l' s w k true B B'):Tr l l' s w k ok (if (!ok)=true then A else B) (if (!ok)=true then A' else B'):=by
 cases ok with
 | false=>exact hA
 | true=>exact hB rfl
theorem Tr.iff {k:Nat}{b c:Bool}{A A' B B':Option (α×Int×Bool)}(hA:c=true→Tr l l' s w k b A A')(hB:c=false→Tr l l' s w k b B B'):Tr l l' s w k b (if c=true then A else B) (if c=true then A' else B'):=by
 cases c with
 | true=>exact hA rfl
 | false=>exact hB rfl
end
section
set_option linter.unusedSectionVars false
variable {l l':List E0}{s:Nat}{w:Bool}{α β:Type}(hl:Ok l)(hl':Ok l')(hs:l.length+s+8≤BB)
include hl hl' hs
theorem wl {k:Nat}(h:k < l.length):IntKind.i64.wrap ((k:Int)+1)=((k+1:Nat):Int):=w1 (by omega)
theorem Tg {k:Nat}(h:k < l.length):IntKind.i64.wrap (((k+s:Nat):Int)+1)=((k+1+s:Nat):Int):=by rw [w1 (by omega)]; omega
theorem wl2 {k:Nat}(h:k < l.length):IntKind.i64.wrap ((k:Int)+2)=((k+1+1:Nat):Int):=by rw [wr (by omega) (by unfold BB at hs; omega)]; omega
theorem ws2 {k:Nat}(h:k < l.length):IntKind.i64.wrap (((k+s:Nat):Int)+2)=((k+1+1+s:Nat):Int):=by rw [wr (by omega) (by unfold BB at hs; omega)]; omega
theorem Tr.is {k:Nat}{t:Str}{b:Bool}{F F':Bool→Option (β×Int×Bool)}(hc:(w=true→t≠[41])∨∀ r,F false=some r→r.2.2=false)
  (hT:isT l k t=true→Tr l l' s w k b (F true) (F' true)) (hN:isT l k t=false→Tr l l' s w k b (F false) (F' false)):Tr l l' s w k b (V2 l (k:Int) t>>=F) (V2 l' ((k+s:Nat):Int) t>>=F'):=by
 intro r hr
 rw [N8 l hl.1,ob] at hr
 rw [N8 l' hl'.1,ob]
 cases h:isT l k t with
 | true=>
  rw [h] at hr
  obtain ⟨⟨j,h1,h2,h3⟩,h4⟩:=hT h r hr
  refine ⟨⟨j,h1,h2,fun ha=>?_⟩,h4⟩
  rcases ha k (Nat.le_refl _) h2 with a | ⟨_,_,a,_⟩
  ·rw [L11 a,h]; exact h3 ha
  ·unfold isT at h; rw [a] at h; cases h
 | false=>
  rw [h] at hr
  obtain ⟨⟨j,h1,h2,h3⟩,h4⟩:=hN h r hr
  refine ⟨⟨j,h1,h2,fun ha=>?_⟩,h4⟩
  rcases ha k (Nat.le_refl _) h2 with a | ⟨a1,a2,a3,y,a4,a5,a6⟩
  ·rw [L11 a,h]; exact h3 ha
  ·rcases hc with hc | hc
   ·have:isT l' (k+s) t=false:=by
     unfold isT
     rw [a4]
     simp only [a6]
     rw [beq_eq_false_iff_ne.2 fun e=>hc a1 e.symm]
     rfl
    rw [this]; exact h3 ha
   ·rw [hc r hr] at a2; cases a2
theorem Tr.ask {j:Nat}{ok:Bool}{t:Str}{A A' B B':Option (β×Int×Bool)}(hc:(w=true→t≠[41])∨∀ r,A=some r→r.2.2=false)(hA:Tr l l' s w j ok A A')(hB:ok=true→j < l.length→Tr l l' s w j true B B') :
  Tr l l' s w j ok ((if (!(!ok))=true then V2 l (j:Int) t else some default)>>=fun x=>if (bif (!ok) then true else (!x))=true then A else B)
   ((if (!(!ok))=true then V2 l' ((j+s:Nat):Int) t else some default)>>=fun x=>if (bif (!ok) then true else (!x))=true then A' else B'):=by
 cases ok with
 | false=>exact hA
 | true=>
  simp only [Bool.not_true,Bool.not_false,if_true,cond_false]
  refine Tr.is hl hl' hs hc (fun h=>?_) (fun h=>?_)
  ·exact hB rfl (P5 h)
  ·exact hA
theorem Tr.must {j:Nat}{b:Bool}{t:Str}{A A' B B':Option (β×Int×Bool)}(hc:(w=true→t≠[41])∨∀ r,A=some r→r.2.2=false)(hA:Tr l l' s w j b A A')(hB:j < l.length→Tr l l' s w j b B B') :
  Tr l l' s w j b (V2 l (j:Int) t>>=fun x=>if (!x)=true then A else B) (V2 l' ((j+s:Nat):Int) t>>=fun x=>if (!x)=true then A' else B'):=
 Tr.is hl hl' hs hc (fun h=>hB (P5 h)) fun _=>hA
theorem Tr.may {j:Nat}{b:Bool}{t:Str}{A A' B B':Option (β×Int×Bool)}(hc:(w=true→t≠[41])∨∀ r,B=some r→r.2.2=false)(hA:isT l j t=true→j < l.length→Tr l l' s w j b A A')(hB:isT l j t=false→Tr l l' s w j b B B') :
  Tr l l' s w j b (V2 l (j:Int) t>>=fun x=>if x=true then A else B) (V2 l' ((j+s:Nat):Int) t>>=fun x=>if x=true then A' else B'):=
 Tr.is hl hl' hs hc (fun h=>hA h (P5 h)) hB
theorem M11 (k:Nat):Tr l l' s w k true (He l k) (He l' ((k+s:Nat):Int)):=by
 rw [Mp l hl.1,Mp l' hl'.1]
 cases h:U5 l k 0 with
 | true=>
  intro r hr
  cases hr
  refine ⟨⟨k+1,rfl,by omega,fun ha=>?_⟩,fun _=>rfl⟩
  rcases ha k (Nat.le_refl _) (by omega) with a | ⟨_,_,a,_⟩
  ·obtain ⟨b1,b2⟩:=Hq a 0
   rw [b1,h,if_pos rfl,b2,show k+s+1=k+1+s by omega]
  ·unfold U5 at h; rw [a] at h; cases h
 | false=>
  intro r hr
  cases hr
  refine ⟨⟨k,rfl,Nat.le_refl _,fun ha=>?_⟩,fun _=>rfl⟩
  rcases ha k (Nat.le_refl _) (Nat.le_refl _) with a | ⟨_,a,_⟩
  ·rw [(Hq a 0).1,h]; rfl
  ·cases a
theorem Tr.bin {k:Nat}{n:Int}{b:Bool}(hn:n≠0){F F':Int×Bool→Option (β×Int×Bool)}(hT:∀ op,k < l.length→Tr l l' s w k b (F (op,true)) (F' (op,true)))(hN:∀ op,Tr l l' s w k b (F (op,false)) (F' (op,false))) :
  Tr l l' s w k b (I3 l (k:Int) n>>=F) (I3 l' ((k+s:Nat):Int) n>>=F'):=by
 intro r hr
 rw [Zd,ob] at hr
 rw [Zd,ob]
 cases hx:l[k]? with
 | none=>
  rw [hx] at hr
  obtain ⟨⟨j,h1,h2,h3⟩,h4⟩:=hN 0 r hr
  refine ⟨⟨j,h1,h2,fun ha=>?_⟩,h4⟩
  have:=h3 ha
  rcases ha k (Nat.le_refl _) h2 with a | ⟨_,_,_,y,a4,a5,a6⟩
  ·rw [hx] at a
   cases hy:l'[k+s]? with
   | none=>exact this
   | some y=>rw [hy] at a; exact a.elim
  ·rw [a4]
   simp only [a5,a6]
   have e:opT [41]=(0,0):=by decide
   rw [e,if_pos (by decide)]
   have:((0:Int) == n)=false:=beq_eq_false_iff_ne.2 fun e=>hn e.symm
   simp only [this]
   assumption
 | some x=>
  rw [hx] at hr
  simp only at hr
  have key:∀ q:Int×Bool,F q=some r→TM l l' s w k r (F' q)∧(r.2.2=true→b=true):=by
   rintro ⟨op,c⟩ hq
   cases c with
   | true=>exact hT op (Zb hx) r hq
   | false=>exact hN op r hq
  obtain ⟨⟨j,h1,h2,h3⟩,h4⟩:=key _ hr
  refine ⟨⟨j,h1,h2,fun ha=>?_⟩,h4⟩
  rcases ha k (Nat.le_refl _) h2 with a | ⟨_,_,a,_⟩
  ·rw [hx] at a
   cases hy:l'[k+s]? with
   | none=>rw [hy] at a; exact a.elim
   | some y=>
    rw [hy] at a
    obtain ⟨e1,e2⟩:=a
    simp only
    rw [← e1,← e2]
    exact h3 ha
  ·rw [hx] at a; cases a
theorem K19:(∀ k r,N1 l k=some r→∀ n:Nat,k=n→TM l l' s w n r (N1 l' ((n+s:Nat):Int)))∧
  (∀ k m r,J1 l k m=some r→∀ n:Nat,k=n→1≤m→m≤6→TM l l' s w n r (J1 l' ((n+s:Nat):Int) m))∧
  (∀ m o k r,P1 l m o k=some r→∀ n:Nat,k=n→1≤m→m≤5→TM l l' s w n r (P1 l' m o ((n+s:Nat):Int)))∧
  (∀ k r,X4 l k=some r→∀ n:Nat,k=n→TM l l' s w n r (X4 l' ((n+s:Nat):Int)))∧
  (∀ k op r,B7 l k op=some r→∀ n:Nat,k=n→n < l.length→TM l l' s w n r (B7 l' ((n+s:Nat):Int) op))∧
  (∀ k r,V7 l k=some r→∀ n:Nat,k=n→TM l l' s w n r (V7 l' ((n+s:Nat):Int)))∧
  (∀ k r,R9 l k=some r→∀ n:Nat,k=n→TM l l' s w n r (R9 l' ((n+s:Nat):Int)))∧
  (∀ a b c d k r,T5 l a b c d k=some r→∀ n:Nat,k=n→TM l l' s w n r (T5 l' a b c d ((n+s:Nat):Int)))∧
  (∀ k r,Z8 l k=some r→∀ n:Nat,k=n→n < l.length→TM l l' s w n r (Z8 l' ((n+s:Nat):Int)))∧
  (∀ k op r,S6 l k op=some r→∀ n:Nat,k=n→n < l.length→TM l l' s w n r (S6 l' ((n+s:Nat):Int) op)):=by
 refine N1.mutual_partial_correctness l _ _ _ _ _ _ _ _ _ _ ?_ ?_ ?_ ?_ ?_ ?_ ?_ ?_ ?_ ?_
 ·intro g0 g1 ih0 ih1 k r hr n hn
  subst hn
  refine Tr.run ?_ hr
  rw [N1]
  refine Tr.bind (Tr.of fun r hr=>ih1 _ _ _ hr n rfl (by decide) (by decide)) fun v j ok _=>?_
  refine Tr.ask hl hl' hs (.inl fun _=>by decide) (Tr.ret (Nat.le_refl _) id) fun h1 h2=>?_
  simp only
  rw [wl hl hl' hs h2,Tg hl hl' hs h2]
  refine Tr.le (Tr.bind (Tr.of fun r hr=>ih0 _ _ hr _ rfl) fun v2 j2 ok2 _=>?_) (Nat.le_succ _)
  refine Tr.go (Tr.no (Nat.le_refl _)) fun h3=>?_
  refine Tr.must hl hl' hs (.inl fun _=>by decide) (Tr.no (Nat.le_refl _)) fun h4=>?_
  simp only
  rw [wl hl hl' hs h4,Tg hl hl' hs h4]
  refine Tr.le (Tr.bind (Tr.of fun r hr=>ih0 _ _ hr _ rfl) fun v3 j3 ok3 _=>?_) (Nat.le_succ _)
  refine Tr.go (Tr.no (Nat.le_refl _)) fun h3=>?_
  exact Tr.yes (Nat.le_refl _)
 ·intro g1 g2 g3 ih1 ih2 ih3 k m r hr n hn hm1 hm2
  subst hn
  refine Tr.run ?_ hr
  rw [J1]
  refine Tr.iff (fun h=>?_) fun h=>?_
  ·refine Tr.bind (Tr.of fun r hr=>ih3 _ _ hr _ rfl) fun v j ok _=>?_
   exact Tr.ret (Nat.le_refl _) id
  ·have h6:m≠6:=by simpa using h
   have hw:IntKind.i64.wrap (m+1)=m+1:=wr (by omega) (by omega)
   rw [hw]
   refine Tr.bind (Tr.of fun r hr=>ih1 _ _ _ hr _ rfl (by omega) (by omega)) fun v j ok _=>?_
   refine Tr.go (Tr.no (Nat.le_refl _)) fun _=>?_
   exact Tr.of fun r hr=>ih2 _ _ _ _ hr _ rfl (by omega) (by omega)
 ·intro g1 g2 ih1 ih2 m o k r hr n hn hm1 hm2
  subst hn
  refine Tr.run ?_ hr
  rw [P1]
  have hw:IntKind.i64.wrap (m+1)=m+1:=wr (by omega) (by omega)
  refine Tr.bin hl hl' hs (by omega) (fun op h1=>?_) fun op=>?_
  ·simp only [Bool.not_true,Bool.false_eq_true,if_false,Qk,ob]
   rw [wl hl hl' hs h1,Tg hl hl' hs h1,hw]
   refine Tr.le (Tr.bind (Tr.of fun r hr=>ih1 _ _ _ hr _ rfl (by omega) (by omega)) fun v j ok _=>?_) (Nat.le_succ _)
   refine Tr.go (Tr.no (Nat.le_refl _)) fun _=>?_
   refine Tr.iff (fun _=>Tr.yes (Nat.le_refl _)) fun _=>?_
   exact Tr.of fun r hr=>ih2 _ _ _ _ hr _ rfl (by omega) (by omega)
  ·exact Tr.yes (Nat.le_refl _)
 ·intro g4 g5 ih4 ih5 k r hr n hn
  subst hn
  refine Tr.run ?_ hr
  rw [X4]
  have j1:∀ op,n < l.length→Tr l l' s w n true (g4 n op) (B7 l' ((n+s:Nat):Int) op):=fun op h=>Tr.of fun r hr=>ih4 _ _ _ hr _ rfl h
  refine Tr.is hl hl' hs (.inl fun _=>by decide) (fun h1=>?_) (fun h1=>?_)
  ·simp only [Bool.not_true,Bool.false_eq_true,if_false,ob,cond_false]
   exact Tr.may hl hl' hs (.inl fun _=>by decide) (fun _ h2=>j1 7 h2) fun _=>j1 6 (P5 h1)
  ·simp only [Bool.not_false,if_true,cond_true]
   refine Tr.is hl hl' hs (.inl fun _=>by decide) (fun h2=>?_) (fun h2=>?_)
   ·simp only [Bool.not_true,Bool.false_eq_true,if_false]
    exact Tr.may hl hl' hs (.inl fun _=>by decide) (fun _ h2=>j1 7 h2) fun _=>j1 6 (P5 h2)
   ·simp only [Bool.not_false,if_true]
    refine Tr.bind (Tr.of fun r hr=>ih5 _ _ hr _ rfl) fun v j ok _=>?_
    exact Tr.ret (Nat.le_refl _) id
 ·intro g3 ih3 k op r hr n hn h
  subst hn
  refine Tr.run ?_ hr
  rw [B7,wl hl hl' hs h,Tg hl hl' hs h]
  refine Tr.le (Tr.bind (Tr.of fun r hr=>ih3 _ _ hr _ rfl) fun v j ok _=>?_) (Nat.le_succ _)
  refine Tr.go (Tr.no (Nat.le_refl _)) fun _=>?_
  exact Tr.yes (Nat.le_refl _)
 ·intro g0 g6 g8 ih0 ih6 ih8 k r hr n hn
  subst hn
  refine Tr.run ?_ hr
  rw [V7]
  refine Tr.may hl hl' hs (.inl fun _=>by decide) (fun _ h=>?_) fun _=>?_
  ·rw [wl hl hl' hs h,Tg hl hl' hs h]; exact Tr.yes (Nat.le_succ _)
  refine Tr.may hl hl' hs (.inl fun _=>by decide) (fun _ h=>?_) fun _=>?_
  ·rw [wl hl hl' hs h,Tg hl hl' hs h]; exact Tr.yes (Nat.le_succ _)
  have ext:n < l.length→Tr l l' s w n true (g8 n>>=fun x5=>some (x5.1,x5.2.1,x5.2.2)) (Z8 l' ((n+s:Nat):Int)>>=fun x5=>some (x5.1,x5.2.1,x5.2.2)):=fun h=>
   Tr.bind (Tr.of fun r hr=>ih8 _ _ hr _ rfl h) fun v j ok _=>Tr.ret (Nat.le_refl _) id
  refine Tr.is hl hl' hs (.inl fun _=>by decide) (fun h1=>?_) (fun h1=>?_)
  ·simp only [Bool.not_true,Bool.false_eq_true,if_false,ob,cond_true,if_true]
   exact ext (P5 h1)
  simp only [Bool.not_false,if_true,cond_false]
  refine Tr.may hl hl' hs (.inl fun _=>by decide) (fun h2 h=>ext h) fun h2=>?_
  refine Tr.may hl hl' hs (.inl fun _=>by decide) (fun _ h=>?_) fun _=>?_
  ·rw [wl hl hl' hs h,Tg hl hl' hs h]
   refine Tr.le (Tr.bind (Tr.of fun r hr=>ih0 _ _ hr _ rfl) fun v j ok _=>?_) (Nat.le_succ _)
   refine Tr.ask hl hl' hs (.inr fun r hr=>by cases hr; rfl) (Tr.no (Nat.le_refl _)) fun h1 h2=>?_
   simp only
   rw [wl hl hl' hs h2,Tg hl hl' hs h2]
   exact Tr.yes (Nat.le_succ _)
  ·rw [Sn l hl,Sn l' hl']
   intro r hr
   cases hd:U5 l n 1 with
   | true=>
    rw [hd] at hr
    cases hr
    refine ⟨⟨n+1,rfl,by omega,fun ha=>?_⟩,fun _=>rfl⟩
    rcases ha n (Nat.le_refl _) (by omega) with a | ⟨_,_,a,_⟩
    ·obtain ⟨b1,b2⟩:=Hq a 1
     rw [b1,hd,if_pos rfl]
     unfold Eq
     rw [b2,show n+s+1=n+1+s by omega]
     rfl
    ·unfold U5 at hd; rw [a] at hd; cases hd
   | false=>
    rw [hd] at hr
    have hp:Tr l l' s w n true (g6 n>>=fun x8=>some (x8.1,x8.2.1,x8.2.2)) (R9 l' ((n+s:Nat):Int)>>=fun x8=>some (x8.1,x8.2.1,x8.2.2)):=
     Tr.bind (Tr.of fun r hr=>ih6 _ _ hr _ rfl) fun v j ok _=>Tr.ret (Nat.le_refl _) id
    obtain ⟨⟨j,h1,h2,h3⟩,_⟩:=hp r hr
    refine ⟨⟨j,h1,h2,fun ha=>?_⟩,fun _=>rfl⟩
    have hK:U5 l' (n+s) 1=false:=by
     rcases ha n (Nat.le_refl _) h2 with a | ⟨_,_,_,y,a4,a5,a6⟩
     ·rw [(Hq a 1).1,hd]
     ·unfold U5; rw [a4]; simp only [a5]; rfl
    rw [hK]
    exact h3 ha
 ·intro g7 ih7 k r hr n hn
  subst hn
  refine Tr.run ?_ hr
  rw [R9]
  refine Tr.bind (M11 hl hl' hs n) fun v j ok _=>?_
  refine Tr.go (Tr.no (Nat.le_refl _)) fun _=>?_
  exact Tr.of fun r hr=>ih7 _ _ _ _ _ _ hr _ rfl
 ·intro g0 g7 ih0 ih7 a b c d k r hr n hn
  subst hn
  refine Tr.run ?_ hr
  rw [T5]
  refine Tr.is hl hl' hs (.inl fun _=>by decide) (fun h1=>?_) (fun h1=>?_)
  ·simp only [Bool.not_true,Bool.false_eq_true,if_false,ob,cond_true,if_true]
   refine Tr.may hl hl' hs (.inl fun _=>by decide) (fun _ h=>?_) fun h2=>?_
   ·rw [wl hl hl' hs h,Tg hl hl' hs h]
    refine Tr.le (Tr.bind (M11 hl hl' hs (n+1)) fun v j ok _=>?_) (Nat.le_succ _)
    refine Tr.go (Tr.no (Nat.le_refl _)) fun _=>?_
    exact Tr.of fun r hr=>ih7 _ _ _ _ _ _ hr _ rfl
   ·rw [h1] at h2; cases h2
  ·simp only [Bool.not_false,if_true,cond_false]
   refine Tr.may hl hl' hs (.inl fun _=>by decide) (fun h2 h=>?_) fun h2=>?_
   ·refine Tr.may hl hl' hs (.inl fun _=>by decide) (fun h3 _=>?_) fun h3=>?_
    ·rw [h1] at h3; cases h3
    rw [wl hl hl' hs h,Tg hl hl' hs h]
    refine Tr.le (Tr.bind (Tr.of fun r hr=>ih0 _ _ hr _ rfl) fun v j ok _=>?_) (Nat.le_succ _)
    refine Tr.ask hl hl' hs (.inl fun _=>by decide) (Tr.no (Nat.le_refl _)) fun h3 h4=>?_
    simp only [Qk,ob]
    rw [wl hl hl' hs h4,Tg hl hl' hs h4]
    exact Tr.le (Tr.of fun r hr=>ih7 _ _ _ _ _ _ hr _ rfl) (Nat.le_succ _)
   ·exact Tr.yes (Nat.le_refl _)
 ·intro g9 ih9 k r hr n hn h
  subst hn
  refine Tr.run ?_ hr
  rw [Z8]
  exact Tr.may hl hl' hs (.inl fun _=>by decide) (fun _ _=>Tr.of fun r hr=>ih9 _ _ _ hr _ rfl h) fun _=>Tr.of fun r hr=>ih9 _ _ _ hr _ rfl h
 ·intro g0 ih0 k op r hr n hn h
  subst hn
  refine Tr.run ?_ hr
  rw [S6,wl hl hl' hs h,Tg hl hl' hs h,wl2 hl hl' hs h,ws2 hl hl' hs h]
  refine Tr.le (Tr.must hl hl' hs (.inl fun _=>by decide) (Tr.no (Nat.le_refl _)) fun h1=>?_) (Nat.le_succ _)
  refine Tr.le (Tr.bind (Tr.of fun r hr=>ih0 _ _ hr _ rfl) fun v j ok _=>?_) (Nat.le_succ _)
  refine Tr.ask hl hl' hs (.inl fun _=>by decide) (Tr.no (Nat.le_refl _)) fun h3 h4=>?_
  simp only
  rw [wl hl hl' hs h4,Tg hl hl' hs h4]
  refine Tr.le (Tr.bind (Tr.of fun r hr=>ih0 _ _ hr _ rfl) fun v2 j2 ok2 _=>?_) (Nat.le_succ _)
  refine Tr.ask hl hl' hs (.inr fun r hr=>by cases hr; rfl) (Tr.no (Nat.le_refl _)) fun h5 h6=>?_
  simp only [Qk,ob]
  rw [wl hl hl' hs h6,Tg hl hl' hs h6]
  exact Tr.yes (Nat.le_succ _)
theorem N11 (n:Nat):Tr l l' s w n true (N1 l n) (N1 l' ((n+s:Nat):Int)):=Tr.of fun r hr=>(K19 hl hl' hs).1 _ _ hr n rfl
end
end Go.Proofs.YtmnhfbekncjnfaaDoor

namespace Go.Proofs.YtmnhfbekncjnfaaDoor
open Go.Am
def Zc (l:List E0)(e:Int)(v:A0)(j:Nat)(ok:Bool):A0×Int×Int:=
 if ok&&j == l.length then (if Ik v != 0 then ((A0.mk 0 0 [] []),0,Ik v) else (v,0,0)) else (A0.mk 0 0 [] [],off l e j,6)
theorem Xn (text:Str)(h:(Z1 text).2.2=0):∃ v j ok,N1 (Z1 text).1 ((0:Nat):Int)=some (v,((j:Nat):Int),ok)∧j≤(Z1 text).1.length∧
  P2 text=some (Zc (Z1 text).1 (text.length:Int) v j ok)∧OkE (Zc (Z1 text).1 (text.length:Int) v j ok).1:=by
 have hz:OkE (A0.mk 0 0 [] []):=by unfold OkE; rw [Yt]; unfold BB; simp
 obtain ⟨x1,_⟩:=Oz text
 obtain ⟨ht,hlen⟩:=Ur h
 have hb:((Z1 text).2.2 != 0)=false:=by rw [h]; rfl
 unfold P2 Q9
 rw [x1,ob]
 simp only [hb,Bool.false_eq_true,if_false]
 unfold V6 Zc
 rcases (A1a (l:=(Z1 text).1) (e:=(text.length:Int)) ht (Nat.zero_le _)).expr with ⟨v,j,h1,h2,h3,h4,h5⟩ | ⟨v,j,h2,h4,h5⟩
 ·have h4':C1 (B0.mk (Z1 text).1 0 (text.length:Int))=some (.ok (v,mk (Z1 text).1 j (text.length:Int))):=h4
  have hv:OkE v:=by unfold OkE; unfold BE at h3; unfold BB; omega
  refine ⟨v,j,true,h5,h2,?_⟩
  rw [h4',ob]
  simp only [ob,Bool.true_and]
  by_cases hj:j=(Z1 text).1.length
  ·have e1:decide ((j:Int) < ((Z1 text).1.length:Int))=false:=decide_eq_false (by omega)
   have e2:(j == (Z1 text).1.length)=true:=by simpa using hj
   rw [e1,if_neg (by simp),e2]
   simp only [ob,bne_self_eq_false,Bool.false_eq_true,if_false,if_true]
   rw [Jz v hv,ob]
   by_cases hc:(Ik v != 0)=true
   ·exact ⟨by rw [if_pos hc,if_pos hc],by rw [if_pos hc]; exact hz⟩
   ·exact ⟨by rw [if_neg hc,if_neg hc],by rw [if_neg hc]; exact hv⟩
  ·have e1:decide ((j:Int) < ((Z1 text).1.length:Int))=true:=decide_eq_true (by omega)
   have e2:(j == (Z1 text).1.length)=false:=by simpa using hj
   rw [e1,if_pos rfl,e2,Qz (Z1 text).1 _ ht.1,ob]
   exact ⟨rfl,hz⟩
 ·have h4':C1 (B0.mk (Z1 text).1 0 (text.length:Int))=some (.pn (off (Z1 text).1 (text.length:Int) j)):=h4
  refine ⟨v,j,false,h5,h2,?_⟩
  rw [h4',ob]
  exact ⟨rfl,hz⟩
theorem L19 (r:List UInt8)(k k':Int):nxt r k'=((E0.mk (nxt r k).1.Kind (nxt r k).1.Text k'),(nxt r k).2):=by
 unfold nxt
 split
 ·split
  ·rfl
  ·split <;> rfl
 ·split
  ·rfl
  ·split
   ·rfl
   ·split <;> rfl
theorem H18 {c:UInt8}(h:([46,61,33,60,62,38,124]:List UInt8).contains c=false)(t:List UInt8):Ue (c::t)=false:=by
 have f:∀ a∈([46,61,33,60,62,38,124]:List UInt8),∀ b:UInt8,((c::t) == [a,b])=false:=fun a ha b=>beq_eq_false_iff_ne.2 fun e=>by
  injection e with e _
  subst e
  rw [List.contains_iff_mem.2 ha] at h
  cases h
 unfold Ue
 rw [f 46 (by decide),f 61 (by decide),f 33 (by decide),f 60 (by decide),f 62 (by decide),f 38 (by decide),f 124 (by decide)]
 rfl
def key (x:E0):Int×Str:=(x.Kind,x.Text)
theorem Wz:∀ (n:Nat) (r:List UInt8) (k k':Nat),r.length < n→(lx r k).2.2=(lx r k').2.2∧(lx r k).1.map key=(lx r k').1.map key
 | 0,_,_,_,h=>absurd h (Nat.not_lt_zero _)
 | n+1,r,k,k',h=>by
  cases hd:r.drop (skp false r) with
  | nil=>rw [Zm hd,Zm hd]; exact ⟨rfl,rfl⟩
  | cons c t=>
   have hlen:(c::t).length=r.length - skp false r:=by rw [← hd,List.length_drop]
   have e:=L19 (c::t) ((k+skp false r:Nat):Int) ((k'+skp false r:Nat):Int)
   by_cases hx:(nxt (c::t) ((k+skp false r:Nat):Int)).2=0
   ·have hx':(nxt (c::t) ((k'+skp false r:Nat):Int)).2=0:=by rw [e]; exact hx
    obtain ⟨b1,b2,b3,b4⟩:=Rf hx
    rw [Lh hd k hx,Lh hd k' hx',e]
    have ih:=Wz n ((c::t).drop (nxt (c::t) ((k+skp false r:Nat):Int)).1.Text.length) (k+skp false r+(nxt (c::t) ((k+skp false r:Nat):Int)).1.Text.length) (k'+skp false r+(nxt (c::t) ((k+skp false r:Nat):Int)).1.Text.length) (by rw [List.length_drop]; omega)
    unfold Zt
    simp only
    rw [ih.1]
    split
    ·exact ⟨rfl,by rw [List.map_cons,List.map_cons,ih.2]; rfl⟩
    ·exact ih
   ·rw [An hd k hx,An hd k' (by rw [e]; exact hx),e]; exact ⟨rfl,rfl⟩
theorem O16 {l l':List E0}(h:l'.map key=l.map key)(i:Nat):Au l[i]? l'[i]?:=by
 have h1:(l'.map key)[i]?=(l.map key)[i]?:=by rw [h]
 rw [List.getElem?_map,List.getElem?_map] at h1
 cases hx:l[i]? with
 | none=>cases hy:l'[i]? with
  | none=>trivial
  | some y=>rw [hx,hy] at h1; cases h1
 | some x=>cases hy:l'[i]? with
  | none=>rw [hx,hy] at h1; cases h1
  | some y=>
   rw [hx,hy] at h1
   injection h1 with h1
   injection h1 with h2 h3
   exact ⟨h2.symm,h3.symm⟩
theorem G17 {l:List E0}{k:Nat}{x:E0}(h:l[k]?=some x){t:Str}(hn:(x.Text == t)=false):isT l k t=false:=by
 unfold isT
 rw [h]
 simp only [hn,Bool.false_and]
theorem P16 {l:List E0}(hl:Ok l){p q:Nat}{v:A0}(ho:∃ x,l[p]?=some x∧x.Kind=3∧x.Text=[40])(h:N1 l ((p+1:Nat):Int)=some (v,(q:Int),true))(hc:∃ x,l[q]?=some x∧x.Kind=3∧x.Text=[41]) :
  X4 l p=some (v,((q+1:Nat):Int),true):=by
 have hB:=hl.1
 obtain ⟨x,hx,hk,ht⟩:=ho
 obtain ⟨y,hy,hyk,hyt⟩:=hc
 have hp:=Zb hx
 have hq:=Zb hy
 have no:∀ t:Str,(([40]:Str) == t)=false→isT l p t=false:=fun t h=>G17 hx (by rw [ht]; exact h)
 have hop:isT l p [40]=true:=by unfold isT; rw [hx]; simp only [hk,ht]; decide
 have hcl:isT l q [41]=true:=by unfold isT; rw [hy]; simp only [hyk,hyt]; decide
 have pr:V7 l p=some (v,((q+1:Nat):Int),true):=by
  rw [V7]
  simp only [N8 l hB,ob,no [116,114,117,101] (by decide),no [102,97,108,115,101] (by decide),no [109,105,110] (by decide),no [109,97,120] (by decide),hop,Bool.not_false,if_true,Bool.false_eq_true,if_false,cond_false]
  rw [w1 (by omega),h,ob]
  simp only [Bool.not_true,Bool.not_false,if_true,cond_false]
  rw [N8 l hB,ob,hcl]
  simp only [Bool.not_true,Bool.false_eq_true,if_false]
  rw [w1 (by omega)]
 rw [X4]
 simp only [N8 l hB,ob,no [45] (by decide),no [33] (by decide),Bool.not_false,if_true,cond_true]
 rw [pr,ob]
end Go.Proofs.YtmnhfbekncjnfaaDoor

namespace Go.Proofs.YtmnhfbekncjnfaaDoor
open Go.Am
def Ti (c:UInt8):Nat→Nat→List E0
 | 0,_=>[]
 | n+1,k=>E0.mk 3 [c] k::Ti c n (k+1)
theorem Sf (c:UInt8):∀ n k,(Ti c n k).length=n
 | 0,_=>rfl
 | n+1,k=>by rw [Ti,List.length_cons,Sf c n]
theorem Vr (c:UInt8):∀ n k i,i < n→(Ti c n k)[i]?=some (E0.mk 3 [c] ((k+i:Nat):Int))
 | 0,_,_,h=>absurd h (Nat.not_lt_zero _)
 | n+1,k,0,_=>rfl
 | n+1,k,i+1,h=>by rw [Ti,List.getElem?_cons_succ,Vr c n (k+1) i (by omega),show k+1+i=k+(i+1) by omega]
theorem Q16 {z:LxR}(h:z.2.2=0→z.2=(0,0)):Ve ([],0,0) z=z:=by
 unfold Ve
 rw [if_pos rfl]
 split
 ·rename_i hz
  rw [List.nil_append,← h hz]
 ·rfl
theorem Av {c:UInt8}(hc:c=40∨c=41):∀ (n k:Nat) (r:List UInt8),lx (List.replicate n c++r) k=Ve (Ti c n k,0,0) (lx r (k+n))
 | 0,k,r=>(Q16 fun h=>F17 h).symm
 | n+1,k,r=>by
  have hs:skp false (c::(List.replicate n c++r))=0:=by rcases hc with rfl | rfl <;> rfl
  have h3:([46,61,33,60,62,38,124]:List UInt8).contains c=false:=by rcases hc with rfl | rfl <;> decide
  have hx:∀ q:Int,nxt (c::(List.replicate n c++r)) q=(E0.mk 3 [c] q,0):=fun q=>by
   unfold nxt
   have ht:Ue ((c::(List.replicate n c++r)).take 2)=false:=by rw [List.take_succ_cons]; exact H18 h3 _
   rw [ht,Bool.and_false,List.getD_cons_zero]
   rcases hc with rfl | rfl <;> rfl
  have hd:(List.replicate (n+1) c++r).drop (skp false (List.replicate (n+1) c++r))=c::(List.replicate n c++r):=by
   rw [List.replicate_succ,List.cons_append,hs]; rfl
  have hk:skp false (List.replicate (n+1) c++r)=0:=by rw [List.replicate_succ,List.cons_append,hs]
  rw [Lh hd k (by rw [hx]),hx,hk]
  simp only [List.length_singleton,List.drop_succ_cons,List.drop_zero,Nat.add_zero]
  rw [Av hc n (k+1) r,← Ew,show k+(n+1)=k+1+n by omega]
  rfl
def Iq (l:List E0)(k:Nat):Prop:=l[k]?=none∨∃ x,l[k]?=some x∧x.Kind=3∧x.Text=[41]
theorem Iq.T {l:List E0}{k:Nat}(h:Iq l k){t:Str}(ht:(([41]:Str) == t)=false):isT l k t=false:=by
 rcases h with h | ⟨x,h,_,h2⟩
 ·unfold isT; rw [h]
 ·exact G17 h (by rw [h2]; exact ht)
theorem Iq.B {l:List E0}{k:Nat}(h:Iq l k)(n:Int)(hn:n≠0):I3 l k n=some (0,false):=by
 rw [Zd]
 rcases h with h | ⟨x,h,h1,h2⟩
 ·rw [h]
 ·rw [h]
  simp only [h1,h2]
  rw [if_pos (by decide),show opT [41]=(0,0) by decide]
  have:((0:Int) == n)=false:=beq_eq_false_iff_ne.2 fun e=>hn e.symm
  rw [this]
section
variable {l:List E0}(hl:Ok l)
include hl
theorem Bu {p q:Nat}{v:A0}(h:X4 l p=some (v,(q:Int),true))(hs:Iq l q):∀ (d n:Nat),n+d=6→1≤n→J1 l p n=some (v,(q:Int),true)
 | 0,n,hn,_=>by
  have:n=6:=by omega
  subst this
  have e:=Zu hl p
  rw [h,ob] at e
  exact e
 | d+1,n,hn,h1=>by
  have e:=Sz hl p n (by omega)
  rw [Bu h hs d (n+1) (by omega) (by omega),ob] at e
  rw [e]
  simp only [Bool.not_true,Bool.false_eq_true,if_false]
  rw [P1,hs.B _ (by omega),ob]
  rfl
theorem C15 {p q:Nat}{v:A0}(ho:∃ x,l[p]?=some x∧x.Kind=3∧x.Text=[40])(h:N1 l ((p+1:Nat):Int)=some (v,(q:Int),true))(hc:∃ x,l[q]?=some x∧x.Kind=3∧x.Text=[41])(hs:Iq l (q+1)) :
  N1 l (p:Int)=some (v,((q+1:Nat):Int),true):=by
 have hB:=hl.1
 have un:=P16 hl ho h hc
 rw [N1]
 have e:=Bu hl un hs 5 1 rfl (Nat.le_refl _)
 rw [show ((1:Nat):Int)=1 from rfl] at e
 rw [e,ob]
 simp only [Bool.not_true,Bool.not_false,if_true,cond_false]
 rw [N8 l hB,ob,hs.T (by decide)]
 rfl
end
theorem H17 {M:Mem}{G:Nat→_root_.Go.Value}{n:Int}{v:_root_.Go.Value}(h:N0 M G (.d (.int .u8 n)) v):0≤n∧n≤255:=by
 cases h with
 | d h=>cases h with
  | int h=>exact D13.1 h
theorem O11 (text:Str)(n:Int)(x2:A0×Int×Int)(N:Nat)(hN:Int.tmod (IntKind.i64.wrap n) 101=(N:Int))(hb:N≤100):∀ (d i:Nat) (a b:Str),i+d=N→a.length≤i→b.length≤i→
  Q2 text n x2 a b i=Q2 text n x2 (a++List.replicate d 40) (b++List.replicate d 41) N
 | 0,i,a,b,h,_,_=>by
  have:i=N:=by omega
  rw [List.replicate_zero,List.replicate_zero,List.append_nil,List.append_nil,this]
 | d+1,i,a,b,h,ha,hb2=>by
  rw [Q2,hN,if_pos (decide_eq_true (by omega)),if_pos (decide_eq_true (by unfold maxLen; omega)),if_pos (decide_eq_true (by unfold maxLen; omega)),w1 (by unfold BB; omega)]
  rw [O11 text n x2 N hN hb d (i+1) _ _ (by omega) (by rw [List.length_append]; simp only [List.length_singleton]; omega) (by rw [List.length_append]; simp only [List.length_singleton]; omega)]
  rw [List.append_assoc,List.append_assoc]
  rfl
theorem A13 (l:List E0)(e:Int)(v:A0)(j:Nat)(ok:Bool)(h:(Zc l e v j ok).2.2=0):ok=true∧j=l.length∧Ik v=0:=by
 unfold Zc at h
 split at h
 ·rename_i hc
  rw [Bool.and_eq_true] at hc
  split at h
  ·rename_i h2
   have h3:Ik v=0:=h
   rw [h3] at h2
   cases h2
  ·rename_i h2
   exact ⟨hc.1,by simpa using hc.2,by simpa using h2⟩
 ·cases h
theorem Ko (text:Str)(n:Int)(hn:0≤n)(hn2:n≤255)(hk:Gb=some true):M9 text n=some true:=by
 unfold M9
 rw [hk,ob]
 simp only [Bool.not_true,Bool.false_eq_true,if_false]
 by_cases h:(text.length:Int) > 2000
 ·rw [if_pos (decide_eq_true h)]
 rw [if_neg (by simpa using h)]
 obtain ⟨N,hN⟩:∃ N:Nat,Int.tmod n 101=(N:Int):=⟨(n % 101).toNat,by rw [Int.tmod_eq_emod_of_nonneg hn]; omega⟩
 have hN2:N≤100:=by rw [Int.tmod_eq_emod_of_nonneg hn] at hN; omega
 have hw:IntKind.i64.wrap n=n:=wr (by omega) (by omega)
 have hN':Int.tmod (IntKind.i64.wrap n) 101=(N:Int):=by rw [hw]; exact hN
 have hlx:Z1 text=lx text 0:=by rw [K11,if_neg (by omega)]
 generalize hot:((List.replicate N 40++text)++[10])++List.replicate N 41=other
 have hol:other.length=N+text.length+1+N:=by rw [← hot]; simp only [List.length_append,List.length_replicate,List.length_singleton]
 have go:∀ x2:A0×Int×Int,Q2 text n x2 [] [] 0=(P2 other>>=fun x3=>(if ((bif (bif (x2.2.2 != 0) then true else (x3.2.2 == 0)) then (bif (bif (x3.2.2 != 0) then true else (x2.2.2 == 0)) then true else (decide ((Int.tmod n 101) > 0))) else false)&&(!(x2.2.2 != 0)))=true then F3 x2.1 x3.1 else some default)>>=fun x4=>
     some (bif (bif (bif (x2.2.2 != 0) then true else (x3.2.2 == 0)) then (bif (bif (x3.2.2 != 0) then true else (x2.2.2 == 0)) then true else (decide ((Int.tmod n 101) > 0))) else false) then (bif (x2.2.2 != 0) then true else x4) else false)):=fun x2=>by
  rw [show (0:Int)=((0:Nat):Int) from rfl,O11 text n x2 N hN' hN2 N 0 [] [] (by omega) (Nat.le_refl _) (Nat.le_refl _),List.nil_append,List.nil_append]
  rw [Q2,hN',if_neg (by simp),if_pos (decide_eq_true (by unfold maxLen; simp only [List.length_replicate]; omega)),if_pos (decide_eq_true (by unfold maxLen; simp only [List.length_append,List.length_replicate]; omega)),if_pos (decide_eq_true (by unfold maxLen; simp only [List.length_append,List.length_replicate,List.length_singleton]; omega)),hot]
  rfl
 have hox:Z1 other=lx other 0:=by rw [K11,if_neg (by omega)]
 have hl':Z1 other=Ve (Ti 40 N 0,0,0) (Ve (lx text N) (Ti 41 N (N+text.length+1),0,0)):=by
  have c1:=Av (c:=41) (.inr rfl) N (N+text.length+1) []
  rw [List.append_nil,Zm (r:=[]) rfl] at c1
  have c2:Ve (Ti 41 N (N+text.length+1),0,0) ([],0,0)=(Ti 41 N (N+text.length+1),0,0):=by unfold Ve; rw [if_pos rfl,if_pos rfl,List.append_nil]
  rw [c2] at c1
  rw [hox,← hot,List.append_assoc,List.append_assoc,Av (.inl rfl),Nat.zero_add,List.singleton_append,B15 _ _ _ _ (Nat.lt_succ_self _),c1]
 obtain ⟨sh1,sh2⟩:=Wz (text.length+1) text N 0 (Nat.lt_succ_self _)
 rw [← hlx] at sh1 sh2
 by_cases h0:(Z1 text).2.2=0
 case neg=>
  have hb:((Z1 text).2.2 != 0)=true:=by simpa using h0
  have pe:P2 text=some (A0.mk 0 0 [] [],(Z1 text).2.1,(Z1 text).2.2):=by
   unfold P2 Q9
   rw [(Oz text).1,ob]
   simp only [hb,if_true,ob]
  have h0':(Z1 other).2.2=(Z1 text).2.2:=by
   rw [hl']
   unfold Ve
   rw [if_pos rfl,if_neg (show ¬(lx text N).2.2=0 by rw [sh1]; exact h0),if_neg (show ¬(lx text N).2.2=0 by rw [sh1]; exact h0)]
   exact sh1
  have pe2:P2 other=some (A0.mk 0 0 [] [],(Z1 other).2.1,(Z1 text).2.2):=by
   unfold P2 Q9
   rw [(Oz other).1,ob]
   simp only [h0',hb,if_true,ob]
  rw [pe,ob,go,pe2,ob]
  simp only [hb,cond_true,Bool.not_true,Bool.and_false,Bool.false_eq_true,if_false,ob]
 have hlN:(lx text N).2.2=0:=by rw [sh1]; exact h0
 have hl2:Z1 other=(Ti 40 N 0++((lx text N).1++Ti 41 N (N+text.length+1)),0,0):=by
  rw [hl']
  unfold Ve
  rw [if_pos rfl,if_pos hlN,if_pos rfl,if_pos rfl]
 have ho0:(Z1 other).2.2=0:=by rw [hl2]
 obtain ⟨t1,n1⟩:=Ur h0
 obtain ⟨t2,_⟩:=Ur ho0
 obtain ⟨v,j,ok,r1,r2,r3,r4⟩:=Xn text h0
 obtain ⟨v',j',ok',q1,q2,q3,q4⟩:=Xn other ho0
 have hlen:(lx text N).1.length=(Z1 text).1.length:=by
  have:=congrArg List.length sh2
  rwa [List.length_map,List.length_map] at this
 have g1:∀ i,i < N→(Z1 other).1[i]?=some (E0.mk 3 [40] ((0+i:Nat):Int)):=fun i hi=>by
  rw [hl2]
  simp only
  rw [List.getElem?_append_left (by rw [Sf]; exact hi),Vr _ _ _ _ hi]
 have g2:∀ i,i < (Z1 text).1.length→Au (Z1 text).1[i]? (Z1 other).1[i+N]?:=fun i hi=>by
  rw [hl2]
  simp only
  rw [List.getElem?_append_right (by rw [Sf]; omega),Sf,Nat.add_sub_cancel,List.getElem?_append_left (by rw [hlen]; exact hi)]
  exact O16 sh2 i
 have g3:∀ i,i < N→(Z1 other).1[(Z1 text).1.length+N+i]?=some (E0.mk 3 [41] ((N+text.length+1+i:Nat):Int)):=fun i hi=>by
  rw [hl2]
  simp only
  rw [List.getElem?_append_right (by rw [Sf]; omega),Sf,List.getElem?_append_right (by rw [hlen]; omega),hlen,show (Z1 text).1.length+N+i - N - (Z1 text).1.length=i by omega,Vr _ _ _ _ hi]
 have g4:(Z1 other).1.length=(Z1 text).1.length+N+N:=by
  rw [hl2]
  simp only [List.length_append,Sf,hlen]
  omega
 rw [r3,ob,go,q3,ob]
 by_cases he:(Zc (Z1 text).1 (text.length:Int) v j ok).2.2=0
 ·obtain ⟨rfl,rfl,hc⟩:=A13 _ _ _ _ _ he
  have hs:(Z1 text).1.length+N+8≤BB:=by unfold BB; omega
  obtain ⟨⟨j3,m1,m2,m3⟩,_⟩:=N11 (w:=true) (s:=N) t1 t2 hs 0 _ r1
  have hj3:j3=(Z1 text).1.length:=by
   have:(((Z1 text).1.length:Nat):Int)=j3:=m1
   omega
  subst hj3
  have base:=m3 fun i _ hi=>by
   rcases Nat.lt_or_ge i (Z1 text).1.length with hi2 | hi2
   ·exact .inl (g2 i hi2)
   ·have:i=(Z1 text).1.length:=by omega
    subst this
    rcases Nat.eq_zero_or_pos N with hz | hz
    ·refine .inl ?_
     rw [List.getElem?_eq_none (Nat.le_refl _),List.getElem?_eq_none (by rw [g4]; omega)]
     trivial
    ·refine .inr ⟨rfl,rfl,List.getElem?_eq_none (Nat.le_refl _),?_⟩
     have:=g3 0 hz
     rw [Nat.add_zero] at this
     exact ⟨_,this,rfl,rfl⟩
  have up:∀ i,i≤N→N1 (Z1 other).1 ((N - i:Nat):Int)=some (v,(((Z1 text).1.length+N+i:Nat):Int),true):=by
   intro i
   induction i with
   | zero=>intro _; rw [Nat.sub_zero,Nat.add_zero]; rw [Nat.zero_add] at base; exact base
   | succ i ih=>
    intro hi
    have e:=ih (by omega)
    refine C15 t2 ⟨_,g1 (N - (i+1)) (by omega),rfl,rfl⟩ (q:=(Z1 text).1.length+N+i) (by rw [show N - (i+1)+1=N - i by omega]; exact e) ⟨_,g3 i (by omega),rfl,rfl⟩ ?_
    rcases Nat.lt_or_ge (i+1) N with h2 | h2
    ·exact .inr ⟨_,g3 (i+1) h2,rfl,rfl⟩
    ·exact .inl (List.getElem?_eq_none (by rw [g4]; omega))
  have fin:=up N (Nat.le_refl _)
  rw [Nat.sub_self] at fin
  have m5:=q1.symm.trans fin
  injection m5 with m5
  injection m5 with m6 m7
  injection m7 with m7 m8
  have hj':j'=(Z1 other).1.length:=by rw [g4]; omega
  subst m6; subst m8; subst hj'
  have e1:Zc (Z1 text).1 (text.length:Int) v' (Z1 text).1.length true=(v',0,0):=by
   unfold Zc
   rw [beq_self_eq_true,Bool.true_and,if_pos rfl,hc]
   rfl
  have e2:Zc (Z1 other).1 (other.length:Int) v' (Z1 other).1.length true=(v',0,0):=by
   unfold Zc
   rw [beq_self_eq_true,Bool.true_and,if_pos rfl,hc]
   rfl
  rw [e1] at r4
  rw [e1,e2]
  simp only [bne_self_eq_false,beq_self_eq_true,cond_false,cond_true,Bool.not_false,Bool.and_true,if_true]
  rw [S12 v' r4,T12,ob]
 ·have hb:((Zc (Z1 text).1 (text.length:Int) v j ok).2.2 != 0)=true:=by simpa using he
  have hz:((Zc (Z1 text).1 (text.length:Int) v j ok).2.2 == 0)=false:=by simpa using he
  have h2:(bif ((Zc (Z1 other).1 (other.length:Int) v' j' ok').2.2 != 0) then true else false)=true∨decide (Int.tmod n 101 > 0)=true:=by
   rcases Nat.eq_zero_or_pos N with hz | hz
   ·left
    subst hz
    have hs:(Z1 text).1.length+0+8≤BB:=by unfold BB; omega
    obtain ⟨⟨j3,m1,m2,m3⟩,_⟩:=N11 (w:=false) (s:=0) t1 t2 hs 0 _ r1
    have m4:=m3 fun i _ _=>.inl (by
     rcases Nat.lt_or_ge i (Z1 text).1.length with hi2 | hi2
     ·exact g2 i hi2
     ·rw [List.getElem?_eq_none hi2,List.getElem?_eq_none (by rw [g4]; omega)]
      trivial)
    have m5:some (v',(j':Int),ok')=some (v,((j3+0:Nat):Int),ok):=q1.symm.trans m4
    injection m5 with m5
    injection m5 with m6 m7
    injection m7 with m7 m8
    have hj:j'=j:=by
     have:(j:Int)=j3:=m1
     omega
    subst m6; subst m8; subst hj
    have:(Zc (Z1 other).1 (other.length:Int) v' j' ok').2.2=(Zc (Z1 text).1 (text.length:Int) v' j' ok').2.2:=by
     have hll:(Z1 other).1.length=(Z1 text).1.length:=g4.trans (by omega)
     unfold Zc
     rw [hll]
     split
     ·rfl
     ·rfl
    rw [this,hb]
    rfl
   ·right
    rw [hN]
    exact decide_eq_true (by omega)
  simp only [hb,cond_true,Bool.not_true,Bool.and_false,Bool.false_eq_true,if_false,ob]
  rcases h2 with h2 | h2
  ·rw [hz,h2]
   rfl
  ·rw [h2]
   generalize (bif ((Zc (Z1 other).1 (other.length:Int) v' j' ok').2.2 != 0) then true else ((Zc (Z1 text).1 (text.length:Int) v j ok).2.2 == 0))=b
   cases b <;> rfl
end Go.Proofs.YtmnhfbekncjnfaaDoor

namespace Go.Proofs.YtmnhfbekncjnfaaDoor
open Go.Am
theorem Wr:Gb=some true:=Vu 60 true (by kernel_rfl)
end Go.Proofs.YtmnhfbekncjnfaaDoor

