/- A part of the proof of ParserLayout. -/
import Derived.Test.YtmnhfbekncjnfaaGreatDoorDgA
set_option maxRecDepth 100000
set_option maxHeartbeats 4000000
set_option synthInstance.maxSize 20000
set_option linter.unusedVariables false
namespace Go.Proofs.YtmnhfbekncjnfaaGreatDoor
open Go.Am
def Sk (s:Str)(atV:Int):Option (K0×Int):=
 Lt s atV>>=fun x1=>
 idx s atV>>=fun x2=>
 Ng (x2.toNat:Int)>>=fun x3=>
 if x3=true then
  slc s atV x1>>=fun x4=>
  Og x4>>=fun x5=>
  if x5=true then
   some ((K0.mk 2 x4 atV),0)
  else
   if (decide (((x4).length:Int) > 12))=true then
    some ((K0.mk 0 [] 0),7)
   else
    some ((K0.mk 0 x4 atV),0)
 else
  idx s atV>>=fun x6=>
  Si (x6.toNat:Int)>>=fun x7=>
  if x7=true then
   slc s atV x1>>=fun x8=>
   Ij x8>>=fun x9=>
   if (x9 != 0)=true then
    some ((K0.mk 0 [] 0),x9)
   else
    slc s atV x1>>=fun x10=>
    some ((K0.mk 1 x10 atV),0)
  else
   (if (decide ((IntKind.i64.wrap (atV+2))≤((s).length:Int)))=true then slc s atV (IntKind.i64.wrap (atV+2)) else some default)>>=fun x11=>
   (if (decide ((IntKind.i64.wrap (atV+2))≤((s).length:Int)))=true then Db x11 else some default)>>=fun x12=>
   if (bif (decide ((IntKind.i64.wrap (atV+2))≤((s).length:Int))) then x12 else false)=true then
    slc s atV (IntKind.i64.wrap (atV+2))>>=fun x13=>
    some ((K0.mk 3 x13 atV),0)
   else
    slc s atV (IntKind.i64.wrap (atV+1))>>=fun x14=>
    Db x14>>=fun x15=>
    if x15=true then
     slc s atV (IntKind.i64.wrap (atV+1))>>=fun x16=>
     some ((K0.mk 3 x16 atV),0)
    else
     some ((K0.mk 0 [] 0),6)
theorem V14 {s atV res}(hh:Sk s atV=some res):U0 C 56 [.d (.str s),.d (.int .i64 atV)] [] (Ret [] (.tup [.agg (K0.cells res.1),.d (.int .i64 res.2)])):=by
 unfold Sk at hh
 obtain ⟨x1,hx1,hh⟩:=bs' hh
 obtain ⟨x2,hx2,hh⟩:=bs' hh
 obtain ⟨x3,hx3,hh⟩:=bs' hh
 refine U0.intro hC Tryz.func56 rfl rfl rfl (s' rfl rfl (F0.n hC rfl (e' rfl (p' 2 rfl (c' (O18 hx1) rfl rfl (e' rfl (S' (p' 2 rfl (x' rfl (W1 hx2) (Y5 hx2) (c' (Lm hx3) rfl rfl (n' (ci' rfl hh (fun hh=>?_) (fun hh=>?_)))))))))))))
 ·obtain ⟨x4,hx4,hh⟩:=bs' hh
  obtain ⟨x5,hx5,hh⟩:=bs' hh
  refine p' 3 rfl (F0.lx hC rfl hx4 (e' rfl (S' (p' 1 rfl (c' (S10 hx5) rfl rfl (n' (ci' rfl hh (fun hh=>?_) (fun hh=>?_))))))))
  ·cases hh
   exact p' 3 rfl (F0.s hC rfl (e' rfl (re' (rt' rfl rfl rfl))))
  refine sk' (S' (t' rfl (ci' rfl hh (fun hh=>?_) (fun hh=>?_))))
  ·cases hh
   exact p' 1 rfl (F0.s hC rfl (e' rfl (re' (rt' rfl rfl rfl))))
  cases hh
  exact sk' (p' 3 rfl (F0.s hC rfl (e' rfl (re' (rt' rfl rfl rfl)))))
 obtain ⟨x6,hx6,hh⟩:=bs' hh
 obtain ⟨x7,hx7,hh⟩:=bs' hh
 refine sk' (S' (p' 2 rfl (x' rfl (W1 hx6) (Y5 hx6) (c' (Un hx7) rfl rfl (n' (ci' rfl hh (fun hh=>?_) (fun hh=>?_)))))))
 ·obtain ⟨x8,hx8,hh⟩:=bs' hh
  obtain ⟨x9,hx9,hh⟩:=bs' hh
  refine p' 3 rfl (F0.lx hC rfl hx8 (c' (N13 hx9) rfl rfl (e' rfl (S' (t' rfl (ci' rfl hh (fun hh=>?_) (fun hh=>?_)))))))
  ·cases hh
   exact p' 2 rfl (F0.s hC rfl (e' rfl (re' (rt' rfl rfl rfl))))
  obtain ⟨x10,hx10,hh⟩:=bs' hh
  cases hh
  exact sk' (p' 3 rfl (F0.lx hC rfl hx10 (o' 2 rfl (F0.s hC rfl (e' rfl (re' (rt' rfl rfl rfl)))))))
 obtain ⟨x11,hx11,hh⟩:=bs' hh
 obtain ⟨x12,hx12,hh⟩:=bs' hh
 refine sk' (S' (sg' 13 rfl (G' 9 rfl (a1' rfl (AG.lx hC rfl rfl (fun hg=>⟨hg,hg,hg,trivial⟩) (fun hw=>(A4 hw hx11)) (AG.c rfl rfl (fun hg=>⟨hg,trivial⟩) (fun hw=>Mt (A4 hw hx12)) (pa' rfl (an' (n' (ci' rfl hh (fun hh=>?_) (fun hh=>?_)))))))))))
 ·obtain ⟨x13,hx13,hh⟩:=bs' hh
  cases hh
  exact p' 4 rfl (F0.lx hC rfl hx13 (o' 2 rfl (F0.s hC rfl (e' rfl (re' (rt' rfl rfl rfl))))))
 obtain ⟨x14,hx14,hh⟩:=bs' hh
 obtain ⟨x15,hx15,hh⟩:=bs' hh
 refine sk' (S' (p' 4 rfl (F0.lx hC rfl hx14 (c' (Mt hx15) rfl rfl (n' (ci' rfl hh (fun hh=>?_) (fun hh=>?_)))))))
 ·obtain ⟨x16,hx16,hh⟩:=bs' hh
  cases hh
  exact p' 4 rfl (F0.lx hC rfl hx16 (o' 2 rfl (F0.s hC rfl (e' rfl (re' (rt' rfl rfl rfl))))))
 cases hh
 exact sk' (p' 1 rfl (F0.s hC rfl (e' rfl (re' (rt' rfl rfl rfl)))))
def Ce (s:Str)(out:List K0)(atV:Int):Option (List K0×Int×Int):=
 if (decide (atV < ((s).length:Int)))=true then
  Sk s atV>>=fun x2=>
  if (x2.2 != 0)=true then
   some ([],atV,x2.2)
  else
   if (decide ((out.length+1) * 33≤140737488355328))=true then
    Ri s (IntKind.i64.wrap (atV+((x2.1.Text).length:Int)))>>=fun x3=>
    Ce s (out++[x2.1]) x3
   else none
 else
  some (out,0,0)
 partial_fixpoint
abbrev Iv (s:Str)(out:List K0)(atV:Int)(res:List K0×Int×Int):Prop:=LM C 41 0 Tryz.f26 [1,1,1,1,0,4] [(0,.d (.str s)),(5,.osl 0 (K0.rows out)),(6,.d (.int .i64 atV))] [.tok 62 3] (Ret [] (.tup [.d (.sl (K0.rows res.1)),.d (.int .i64 res.2.1),.d (.int .i64 res.2.2)]))
theorem T11 (s:Str):(∀ out atV res,Ce s out atV=some res→Iv s out atV res):=by
 refine Ce.partial_correctness s _ ?_
 ·intro g0 ih0 out atV res hh
  refine A1.unroll (S' (t' rfl (ci' rfl hh (fun hh=>?_) (fun hh=>?_))))
  ·obtain ⟨x2,hx2,hh⟩:=bs' hh
   refine sk' (bk' (p' 2 rfl (c' (V14 hx2) rfl rfl (o' 3 rfl (F0.n hC rfl (F0.s hC rfl (e' rfl (S' (t' rfl (ci' rfl hh (fun hh=>?_) (fun hh=>?_)))))))))))
   ·refine t' rfl (re' ?_)
    obtain rfl:=oi' hh
    exact ⟨_,.tup [.d (.sl (K0.rows [])),.d (.int .i64 atV),.d (.int .i64 x2.2)],[],rfl,(.tupL ⟨.full,.rfl,.rfl,trivial⟩),trivial,rfl,rfl,rfl,rfl⟩
   obtain ⟨c6,hh⟩:=I4 hh
   obtain ⟨x3,hx3,hh⟩:=bs' hh
   exact sk' (p' 2 rfl (F0.be hC rfl (K0.rows_map [x2.1]).symm (F0.ap hC rfl (rs:=K0.rows (out++[x2.1])) (K0.app out [x2.1]) (K0.sz out) (K0.sz [x2.1]) (P1 (K0.len out) (K0.len [x2.1]) c6) (e' rfl (P' 6 rfl (c' (Ev hx3) rfl rfl (e' rfl (lw' (ih0 _ _ _ hh) rfl rfl rfl))))))))
  refine ex' (t' rfl (re' ?_))
  obtain rfl:=oi' hh
  exact ⟨_,.tup [.d (.sl (K0.rows out)),.d (.int .i64 0),.d (.int .i64 0)],[],rfl,(.tupL ⟨.osl,.rfl,.rfl,trivial⟩),trivial,rfl,rfl,rfl,rfl⟩
theorem O13 {s out atV res}(hh:Ce s out atV=some res):Iv s out atV res:=(T11 s) _ _ _ hh
def Pp (s:Str):Option (List K0×Int×Int):=
 if (decide (((s).length:Int) > 8192))=true then
  some ([],0,5)
 else
  Ri s 0>>=fun x1=>
  Ce s [] x1
theorem P18 {s res}(hh:Pp s=some res):U0 C 26 [.d (.str s)] [] (Ret [] (.tup [.d (.sl (K0.rows res.1)),.d (.int .i64 res.2.1),.d (.int .i64 res.2.2)])):=by
 unfold Pp at hh
 refine U0.intro hC Tryz.func26 rfl rfl rfl (t' rfl (S' (t' rfl (ci' rfl hh (fun hh=>?_) (fun hh=>?_)))))
 ·refine t' rfl (re' ?_)
  obtain rfl:=oi' hh
  exact ⟨_,.tup [.d (.sl (K0.rows [])),.d (.int .i64 0),.d (.int .i64 5)],[],rfl,(.tupL ⟨.full,.rfl,.rfl,trivial⟩),trivial,rfl,rfl,rfl,rfl⟩
 obtain ⟨x1,hx1,hh⟩:=bs' hh
 exact sk' (s' rfl rfl (F0.be hC rfl (K0.rows_map []).symm (F0.tokE 12 62 3 rfl (e' rfl (p' 1 rfl (c' (Ev hx1) rfl rfl (e' rfl (S' (bk' (fw' (O13 hh) rfl rfl rfl))))))))))
def T0 (l:List K0)(atV:Int)(text:Str):Option Bool:=
 (if (decide (atV < ((l).length:Int)))=true then idx l atV else some default)>>=fun x1=>
 (if ((decide (atV < ((l).length:Int)))&&(!(x1.Kind == 2)))=true then idx l atV else some default)>>=fun x2=>
 (if (bif (decide (atV < ((l).length:Int))) then (bif (x1.Kind == 2) then true else (x2.Kind == 3)) else false)=true then idx l atV else some default)>>=fun x3=>
 some (bif (bif (decide (atV < ((l).length:Int))) then (bif (x1.Kind == 2) then true else (x2.Kind == 3)) else false) then (x3.Text == text) else false)
def Yq (op:Int)(a:A0)(b:A0):Option A0:=
 some (A0.mk op 0 [] [a,b])
def Gf (l:List K0)(atV:Int)(n:Int)(i:Int):Option (Int×Int×Bool):=
 idx l atV>>=fun x2=>
 if (decide (i < ((x2.Text).length:Int)))=true then
  idx l atV>>=fun x3=>
  idx x3.Text i>>=fun x4=>
  Gf l atV (IntKind.i64.wrap ((IntKind.i64.wrap (10 * n))+(IntKind.i64.wrap (IntKind.u8.wrap ((x4.toNat:Int) - 48))))) (IntKind.i64.wrap (i+1))
 else
  some (n,(IntKind.i64.wrap (atV+1)),true)
 partial_fixpoint
def De (l:List K0)(atV:Int):Option (Int×Int×Bool):=
 (if (!(decide (atV≥((l).length:Int))))=true then idx l atV else some default)>>=fun x1=>
 if (bif (decide (atV≥((l).length:Int))) then true else (x1.Kind != 1))=true then
  some (0,atV,false)
 else
  Gf l atV 0 0
def X7 (l:List K0)(atV:Int):Option (Str×Int×Bool):=
 (if (decide (atV < ((l).length:Int)))=true then idx l atV else some default)>>=fun x1=>
 if (bif (decide (atV < ((l).length:Int))) then (x1.Kind == 0) else false)=true then
  idx l atV>>=fun x2=>
  some (x2.Text,(IntKind.i64.wrap (atV+1)),true)
 else
  some ([],atV,false)
def N5 (l:List K0)(atV:Int)(level:Int):Option (Int×Bool):=
 (if (!(decide (atV≥((l).length:Int))))=true then idx l atV else some default)>>=fun x1=>
 if (bif (decide (atV≥((l).length:Int))) then true else (x1.Kind != 3))=true then
  some (0,false)
 else
  idx l atV>>=fun x2=>
  if (x2.Text == [124,124])=true then
   some (20,(1 == level))
  else
   if (x2.Text == [38,38])=true then
    some (19,(2 == level))
   else
    if (x2.Text == [61,61])=true then
     some (13,(3 == level))
    else
     if (x2.Text == [33,61])=true then
      some (14,(3 == level))
     else
      if (x2.Text == [60])=true then
       some (15,(3 == level))
      else
       if (x2.Text == [60,61])=true then
        some (16,(3 == level))
       else
        if (x2.Text == [62])=true then
         some (17,(3 == level))
        else
         if (x2.Text == [62,61])=true then
          some (18,(3 == level))
         else
          if (x2.Text == [43])=true then
           some (8,(4 == level))
          else
           if (x2.Text == [45])=true then
            some (9,(4 == level))
           else
            if (x2.Text == [42])=true then
             some (10,(5 == level))
            else
             if (x2.Text == [47])=true then
              some (11,(5 == level))
             else
              if (x2.Text == [37])=true then
               some (12,(5 == level))
              else
               some (0,(0 == level))
mutual
def A2 (l:List K0)(atV:Int):Option (A0×Int×Bool):=
 I2 l atV 1>>=fun x1=>
 (if (!(!x1.2.2))=true then T0 l x1.2.1 [63] else some default)>>=fun x2=>
 if (bif (!x1.2.2) then true else (!x2))=true then
  some (x1.1,x1.2.1,x1.2.2)
 else
  A2 l (IntKind.i64.wrap (x1.2.1+1))>>=fun x3=>
  if (!x3.2.2)=true then
   some (x3.1,x3.2.1,false)
  else
   T0 l x3.2.1 [58]>>=fun x4=>
   if (!x4)=true then
    some (x3.1,x3.2.1,false)
   else
    A2 l (IntKind.i64.wrap (x3.2.1+1))>>=fun x5=>
    if (!x5.2.2)=true then
     some (x5.1,x5.2.1,false)
    else
     some ((A0.mk 23 0 [] [x1.1,x3.1,x5.1]),x5.2.1,true)
 partial_fixpoint
def I2 (l:List K0)(atV:Int)(n:Int):Option (A0×Int×Bool):=
 if (n == 6)=true then
  Za l atV>>=fun x1=>
  some (x1.1,x1.2.1,x1.2.2)
 else
  I2 l atV (IntKind.i64.wrap (n+1))>>=fun x2=>
  if (!x2.2.2)=true then
   some (x2.1,x2.2.1,false)
  else
   L2 l n x2.1 x2.2.1
 partial_fixpoint
def L2 (l:List K0)(n:Int)(o1:A0)(atV1:Int):Option (A0×Int×Bool):=
 N5 l atV1 n>>=fun x3=>
 if (!x3.2)=true then
  some (o1,atV1,true)
 else
  I2 l (IntKind.i64.wrap (atV1+1)) (IntKind.i64.wrap (n+1))>>=fun x4=>
  if (!x4.2.2)=true then
   some (x4.1,x4.2.1,false)
  else
   Yq x3.1 o1 x4.1>>=fun x5=>
   if (n == 3)=true then
    some (x5,x4.2.1,true)
   else
    L2 l n x5 x4.2.1
 partial_fixpoint
def Za (l:List K0)(atV:Int):Option (A0×Int×Bool):=
 T0 l atV [45]>>=fun x1=>
 (if (!x1)=true then T0 l atV [33] else some default)>>=fun x2=>
 if (bif (!x1) then (!x2) else false)=true then
  Af l atV>>=fun x3=>
  some (x3.1,x3.2.1,x3.2.2)
 else
  T0 l atV [33]>>=fun x4=>
  if x4=true then
   Ra l atV 7
  else
   Ra l atV 6
 partial_fixpoint
def Ra (l:List K0)(atV:Int)(op:Int):Option (A0×Int×Bool):=
 Za l (IntKind.i64.wrap (atV+1))>>=fun x5=>
 if (!x5.2.2)=true then
  some (x5.1,x5.2.1,false)
 else
  some ((A0.mk op 0 [] [x5.1]),x5.2.1,true)
 partial_fixpoint
def Af (l:List K0)(atV:Int):Option (A0×Int×Bool):=
 T0 l atV [116,114,117,101]>>=fun x1=>
 if x1=true then
  some ((A0.mk 1 0 [] []),(IntKind.i64.wrap (atV+1)),true)
 else
  T0 l atV [102,97,108,115,101]>>=fun x2=>
  if x2=true then
   some ((A0.mk 2 0 [] []),(IntKind.i64.wrap (atV+1)),true)
  else
   T0 l atV [109,105,110]>>=fun x3=>
   (if (!x3)=true then T0 l atV [109,97,120] else some default)>>=fun x4=>
   if (bif x3 then true else x4)=true then
    Zc l atV>>=fun x5=>
    some (x5.1,x5.2.1,x5.2.2)
   else
    T0 l atV [40]>>=fun x6=>
    if x6=true then
     A2 l (IntKind.i64.wrap (atV+1))>>=fun x9=>
     (if (!(!x9.2.2))=true then T0 l x9.2.1 [41] else some default)>>=fun x10=>
     if (bif (!x9.2.2) then true else (!x10))=true then
      some (x9.1,x9.2.1,false)
     else
      some (x9.1,(IntKind.i64.wrap (x9.2.1+1)),true)
    else
     De l atV>>=fun x7=>
     if x7.2.2=true then
      some ((A0.mk 0 x7.1 [] []),x7.2.1,true)
     else
      Y9 l atV>>=fun x8=>
      some (x8.1,x8.2.1,x8.2.2)
 partial_fixpoint
def Y9 (l:List K0)(atV:Int):Option (A0×Int×Bool):=
 X7 l atV>>=fun x1=>
 if (!x1.2.2)=true then
  some ((A0.mk 0 0 [] []),x1.2.1,false)
 else
  Z8 l 3 0 x1.1 [] x1.2.1
 partial_fixpoint
def Z8 (l:List K0)(o1_Op:Int)(o1_NV:Int)(o1_Name:Str)(o1_Kids:List A0)(atV1:Int):Option (A0×Int×Bool):=
 T0 l atV1 [46]>>=fun x2=>
 (if (!x2)=true then T0 l atV1 [91] else some default)>>=fun x3=>
 if (bif x2 then true else x3)=true then
  T0 l atV1 [46]>>=fun x4=>
  if x4=true then
   X7 l (IntKind.i64.wrap (atV1+1))>>=fun x5=>
   if (!x5.2.2)=true then
    some ((A0.mk o1_Op o1_NV o1_Name o1_Kids),x5.2.1,false)
   else
    Z8 l 4 0 x5.1 [(A0.mk o1_Op o1_NV o1_Name o1_Kids)] x5.2.1
  else
   A2 l (IntKind.i64.wrap (atV1+1))>>=fun x6=>
   (if (!(!x6.2.2))=true then T0 l x6.2.1 [93] else some default)>>=fun x7=>
   if (bif (!x6.2.2) then true else (!x7))=true then
    some (x6.1,x6.2.1,false)
   else
    Yq 5 (A0.mk o1_Op o1_NV o1_Name o1_Kids) x6.1>>=fun x8=>
    Z8 l x8.Op x8.NV x8.Name x8.Kids (IntKind.i64.wrap (x6.2.1+1))
 else
  some ((A0.mk o1_Op o1_NV o1_Name o1_Kids),atV1,true)
 partial_fixpoint
def Zc (l:List K0)(atV:Int):Option (A0×Int×Bool):=
 T0 l atV [109,97,120]>>=fun x1=>
 if x1=true then
  Ia l atV 22
 else
  Ia l atV 21
 partial_fixpoint
def Ia (l:List K0)(atV:Int)(op:Int):Option (A0×Int×Bool):=
 T0 l (IntKind.i64.wrap (atV+1)) [40]>>=fun x2=>
 if (!x2)=true then
  some ((A0.mk 0 0 [] []),(IntKind.i64.wrap (atV+1)),false)
 else
  A2 l (IntKind.i64.wrap (atV+2))>>=fun x3=>
  (if (!(!x3.2.2))=true then T0 l x3.2.1 [44] else some default)>>=fun x4=>
  if (bif (!x3.2.2) then true else (!x4))=true then
   some (x3.1,x3.2.1,false)
  else
   A2 l (IntKind.i64.wrap (x3.2.1+1))>>=fun x5=>
   (if (!(!x5.2.2))=true then T0 l x5.2.1 [41] else some default)>>=fun x6=>
   if (bif (!x5.2.2) then true else (!x6))=true then
    some (x5.1,x5.2.1,false)
   else
    Yq op x3.1 x5.1>>=fun x7=>
    some (x7,(IntKind.i64.wrap (x5.2.1+1)),true)
 partial_fixpoint
end
def R2 (parserParser:B0):Option (Pn (Int×B0)):=
 O0 [45] parserParser>>=fun x1=>
 if x1.1=true then
  C5 x1.2>>=fun x2=>match x2 with
  | .pn nn=>
  some (.pn nn)
  | .ok x2=>
  some (.ok ((IntKind.i64.wrap (0 - x2.1)),x2.2))
 else
  C5 x1.2>>=fun x3=>match x3 with
  | .pn nn=>
  some (.pn nn)
  | .ok x3=>
  some (.ok (x3.1,x3.2))
theorem X0 {parserParser res}(hh:R2 parserParser=some res):C2 C 72 [.ref 0 0] [.row (B0.cells parserParser) 99] (P4 res (fun rr=>[.row (B0.cells rr.2) 99]) (fun rr=>.d (.int .i64 rr.1))) (J4 res F3 [.dead]):=by
 unfold R2 at hh
 obtain ⟨x1,hx1,hh⟩:=bs' hh
 refine C2.intro hC Tryz.func72 rfl rfl rfl (t' rfl (S' (p' 1 rfl (g' [0] (P0 hx1) rfl rfl rfl rfl rfl rfl (n' (ci' rfl hh (fun hh=>?_) (fun hh=>?_)))))))
 ·refine p' 1 rfl ?_
  rcases bp' hh with ⟨nn,hx2,⟨⟩⟩ | ⟨x2,hx2,hh⟩
  ·exact gn' [0] (B7 hx2) rfl rfl rfl rfl rfl (fun hi=>peW ⟨trivial,trivial⟩ rfl hi)
  cases hh
  exact g' [0] ((B7 hx2).ok) rfl rfl rfl rfl rfl rfl (e' rfl (re' (rt' rfl rfl rfl)))
 refine sk' (p' 1 rfl ?_)
 rcases bp' hh with ⟨nn,hx3,⟨⟩⟩ | ⟨x3,hx3,hh⟩
 ·exact gn' [0] (B7 hx3) rfl rfl rfl rfl rfl (fun hi=>peW ⟨trivial,trivial⟩ rfl hi)
 cases hh
 exact g' [0] ((B7 hx3).ok) rfl rfl rfl rfl rfl rfl (e' rfl (re' (rt' rfl rfl rfl)))
mutual
def A5 (parserParser:B0):Option (Pn (J0×B0)):=
 O0 [98,111,111,108] parserParser>>=fun x1=>
 if x1.1=true then
  some (.ok ((J0.mk 0 0 0 0 [] [] []),x1.2))
 else
  O0 [105,110,116] x1.2>>=fun x2=>
  if x2.1=true then
   R0 [91] x2.2>>=fun x3=>match x3 with
   | .pn nn=>
   some (.pn nn)
   | .ok x3=>
   R2 x3>>=fun x4=>match x4 with
   | .pn nn=>
   some (.pn nn)
   | .ok x4=>
   R0 [46,46] x4.2>>=fun x5=>match x5 with
   | .pn nn=>
   some (.pn nn)
   | .ok x5=>
   R2 x5>>=fun x6=>match x6 with
   | .pn nn=>
   some (.pn nn)
   | .ok x6=>
   R0 [93] x6.2>>=fun x7=>match x7 with
   | .pn nn=>
   some (.pn nn)
   | .ok x7=>
   some (.ok ((J0.mk 1 x4.1 x6.1 0 [] [] []),x7))
  else
   O0 [97,114,114,97,121] x2.2>>=fun x8=>
   if x8.1=true then
    R2 x8.2>>=fun x9=>match x9 with
    | .pn nn=>
    some (.pn nn)
    | .ok x9=>
    R0 [111,102] x9.2>>=fun x10=>match x10 with
    | .pn nn=>
    some (.pn nn)
    | .ok x10=>
    A5 x10>>=fun x16=>match x16 with
    | .pn nn=>
    some (.pn nn)
    | .ok x16=>
    some (.ok ((J0.mk 2 0 0 x9.1 [] [] [x16.1]),x16.2))
   else
    O0 [114,101,99,111,114,100] x8.2>>=fun x11=>
    if x11.1=true then
     R0 [123] x11.2>>=fun x12=>match x12 with
     | .pn nn=>
     some (.pn nn)
     | .ok x12=>
     A9 x12 [] []
    else
     T2 x11.2>>=fun x13=>match x13 with
     | .pn nn=>
     some (.pn nn)
     | .ok x13=>
     some (.ok ((J0.mk 4 0 0 0 x13.1 [] []),x13.2))
 partial_fixpoint
def A9 (o0:B0)(o2_Names:List Str)(o2_Of:List J0):Option (Pn (J0×B0)):=
 T2 o0>>=fun x14=>match x14 with
 | .pn nn=>
 some (.pn nn)
 | .ok x14=>
 R0 [58] x14.2>>=fun x15=>match x15 with
 | .pn nn=>
 some (.pn nn)
 | .ok x15=>
 A5 x15>>=fun x17=>match x17 with
 | .pn nn=>
 some (.pn nn)
 | .ok x17=>
 if (decide ((o2_Names.length+1) * 17≤140737488355328))=true then
  if (decide ((o2_Of.length+1) * 97≤140737488355328))=true then
   O0 [44] x17.2>>=fun x18=>
   if (!x18.1)=true then
    R0 [125] x18.2>>=fun x19=>match x19 with
    | .pn nn=>
    some (.pn nn)
    | .ok x19=>
    some (.ok ((J0.mk 3 0 0 0 [] (o2_Names++[x14.1]) (o2_Of++[x17.1])),x19))
   else
    A9 x18.2 (o2_Names++[x14.1]) (o2_Of++[x17.1])
  else none
 else none
 partial_fixpoint
end
abbrev Fn (parserParser:B0)(res:Pn (J0×B0)):Prop:=C2 C 36 [.ref 0 0] [.row (B0.cells parserParser) 99] (P4 res (fun rr=>[.row (B0.cells rr.2) 99]) (fun rr=>.agg (J0.cells rr.1))) (J4 res F3 [.dead])
abbrev Zt (o0:B0)(o2_Names:List Str)(o2_Of:List J0)(res:Pn (J0×B0)):Prop:=LMp C 74 1 Tryz.f36 [1,0,4,1,3,1,3,1,3,1,2,1,1,0,4] [(0,.ref 0 0),(2,.ref 1 0),(6,.ref 2 0)] [.row (B0.cells o0) 99,.row [.d (.int .i64 0),.d (.int .i64 0),.d (.int .i64 0),.d (.int .i64 0),.d (.str []),.full (estr.rows []),.full (J0.rows [])] 36,.row [.d (.int .i64 3),.d (.int .i64 0),.d (.int .i64 0),.d (.int .i64 0),.d (.str []),.osl 3 (estr.rows o2_Names),.osl 4 (J0.rows o2_Of)] 36,.tok 9 1,.tok 36 7] (P4 res (fun rr=>[.row (B0.cells rr.2) 99]) (fun rr=>.agg (J0.cells rr.1))) (J4 res F3 [.dead])
theorem Jv:(∀ parserParser res,A5 parserParser=some res→Fn parserParser res)∧(∀ o0 o2_Names o2_Of res,A9 o0 o2_Names o2_Of=some res→Zt o0 o2_Names o2_Of res):=by
 refine A5.mutual_partial_correctness _ _ ?_ ?_
 ·intro g0 g1 ih0 ih1 parserParser res hh
  obtain ⟨x1,hx1,hh⟩:=bs' hh
  refine C2.intro hC Tryz.func36 rfl rfl rfl (s' rfl rfl (F0.nf hC rfl (n' (S' (bk' (p' 1 rfl (g' [0] (P0 hx1) rfl rfl rfl rfl rfl rfl (e' rfl (ci' rfl hh (fun hh=>?_) (fun hh=>?_))))))))))
  ·refine s' rfl rfl (F0.bz hC rfl (F0.s hC rfl (n' (re' ?_))))
   obtain rfl:=oi' hh
   exact ⟨_,.agg [.d (.int .i64 0),.d (.int .i64 0),.d (.int .i64 0),.d (.int .i64 0),.d (.str []),.d (.sl (estr.rows [])),.d (.sl (J0.rows []))],[.row (B0.cells x1.2) 99],rfl,(.aggL ⟨.rfl,.rfl,.rfl,.rfl,.rfl,.full,.full,trivial⟩),⟨⟨rfl,.refl _,rfl⟩,trivial⟩,rfl,rfl,rpq rfl rfl⟩
  obtain ⟨x2,hx2,hh⟩:=bs' hh
  refine p' 1 rfl (g' [0] (P0 hx2) rfl rfl rfl rfl rfl rfl (e' rfl (ci' rfl hh (fun hh=>?_) (fun hh=>?_))))
  ·refine p' 1 rfl ?_
   rcases bp' hh with ⟨nn,hx3,⟨⟩⟩ | ⟨x3,hx3,hh⟩
   ·exact gn' [0] (L0 hx3) rfl rfl rfl rfl rfl (fun hi=>peW ⟨trivial,trivial⟩ rfl hi)
   refine g' [0] ((L0 hx3).ok) rfl rfl rfl rfl rfl rfl (n' (p' 1 rfl ?_))
   rcases bp' hh with ⟨nn,hx4,⟨⟩⟩ | ⟨x4,hx4,hh⟩
   ·exact gn' [0] (X0 hx4) rfl rfl rfl rfl rfl (fun hi=>peW ⟨trivial,trivial⟩ rfl hi)
   refine g' [0] ((X0 hx4).ok) rfl rfl rfl rfl rfl rfl (e' rfl (p' 1 rfl ?_))
   rcases bp' hh with ⟨nn,hx5,⟨⟩⟩ | ⟨x5,hx5,hh⟩
   ·exact gn' [0] (L0 hx5) rfl rfl rfl rfl rfl (fun hi=>peW ⟨trivial,trivial⟩ rfl hi)
   refine g' [0] ((L0 hx5).ok) rfl rfl rfl rfl rfl rfl (n' (p' 1 rfl ?_))
   rcases bp' hh with ⟨nn,hx6,⟨⟩⟩ | ⟨x6,hx6,hh⟩
   ·exact gn' [0] (X0 hx6) rfl rfl rfl rfl rfl (fun hi=>peW ⟨trivial,trivial⟩ rfl hi)
   refine g' [0] ((X0 hx6).ok) rfl rfl rfl rfl rfl rfl (e' rfl (p' 1 rfl ?_))
   rcases bp' hh with ⟨nn,hx7,⟨⟩⟩ | ⟨x7,hx7,hh⟩
   ·exact gn' [0] (L0 hx7) rfl rfl rfl rfl rfl (fun hi=>peW ⟨trivial,trivial⟩ rfl hi)
   refine g' [0] ((L0 hx7).ok) rfl rfl rfl rfl rfl rfl (n' (p' 2 rfl (F0.bz hC rfl (F0.s hC rfl (n' (re' ?_))))))
   obtain rfl:=oi' hh
   exact ⟨_,.agg [.d (.int .i64 1),.d (.int .i64 x4.1),.d (.int .i64 x6.1),.d (.int .i64 0),.d (.str []),.d (.sl (estr.rows [])),.d (.sl (J0.rows []))],[.row (B0.cells x7) 99],rfl,(.aggL ⟨.rfl,.rfl,.rfl,.rfl,.rfl,.full,.full,trivial⟩),⟨⟨rfl,.refl _,rfl⟩,trivial⟩,rfl,rfl,rpq rfl rfl⟩
  obtain ⟨x8,hx8,hh⟩:=bs' hh
  refine p' 1 rfl (g' [0] (P0 hx8) rfl rfl rfl rfl rfl rfl (e' rfl (ci' rfl hh (fun hh=>?_) (fun hh=>?_))))
  ·refine p' 1 rfl ?_
   rcases bp' hh with ⟨nn,hx9,⟨⟩⟩ | ⟨x9,hx9,hh⟩
   ·exact gn' [0] (X0 hx9) rfl rfl rfl rfl rfl (fun hi=>peW ⟨trivial,trivial⟩ rfl hi)
   refine g' [0] ((X0 hx9).ok) rfl rfl rfl rfl rfl rfl (e' rfl (p' 1 rfl ?_))
   rcases bp' hh with ⟨nn,hx10,⟨⟩⟩ | ⟨x10,hx10,hh⟩
   ·exact gn' [0] (L0 hx10) rfl rfl rfl rfl rfl (fun hi=>peW ⟨trivial,trivial⟩ rfl hi)
   refine g' [0] ((L0 hx10).ok) rfl rfl rfl rfl rfl rfl (n' (p' 2 rfl ?_))
   rcases bp' hh with ⟨nn,hx16,⟨⟩⟩ | ⟨x16,hx16,hh⟩
   ·exact gn' [0] (ih0 _ _ hx16) rfl rfl rfl rfl rfl (fun hi=>peW ⟨trivial,trivial⟩ rfl hi)
   refine g' [0] ((ih0 _ _ hx16).ok) rfl rfl rfl rfl rfl rfl (F0.be hC rfl (J0.rows_map [x16.1]).symm (F0.bz hC rfl (F0.s hC rfl (n' (re' ?_)))))
   obtain rfl:=oi' hh
   exact ⟨_,.agg [.d (.int .i64 2),.d (.int .i64 0),.d (.int .i64 0),.d (.int .i64 x9.1),.d (.str []),.d (.sl (estr.rows [])),.d (.sl (J0.rows [x16.1]))],[.row (B0.cells x16.2) 99],rfl,(.aggL ⟨.rfl,.rfl,.rfl,.rfl,.rfl,.full,.full,trivial⟩),⟨⟨rfl,.refl _,rfl⟩,trivial⟩,rfl,rfl,rpq rfl rfl⟩
  obtain ⟨x11,hx11,hh⟩:=bs' hh
  refine p' 1 rfl (g' [0] (P0 hx11) rfl rfl rfl rfl rfl rfl (e' rfl (ci' rfl hh (fun hh=>?_) (fun hh=>?_))))
  ·refine s' rfl rfl (F0.bz hC rfl (F0.nf hC rfl (F0.s hC rfl (F0.tokC 2 5 9 1 rfl rfl rfl rfl rfl (F0.tokC 2 6 36 7 rfl rfl rfl rfl rfl (n' (p' 1 rfl ?_)))))))
   rcases bp' hh with ⟨nn,hx12,⟨⟩⟩ | ⟨x12,hx12,hh⟩
   ·exact gn' [0] (L0 hx12) rfl rfl rfl rfl rfl (fun hi=>peW ⟨trivial,trivial⟩ rfl hi)
   exact g' [0] ((L0 hx12).ok) rfl rfl rfl rfl rfl rfl (n' (S' (bk' (fw' (ih1 _ _ _ _ hh) rfl rfl rfl))))
  refine sk' (p' 1 rfl ?_)
  rcases bp' hh with ⟨nn,hx13,⟨⟩⟩ | ⟨x13,hx13,hh⟩
  ·exact gn' [0] (Z0 hx13) rfl rfl rfl rfl rfl (fun hi=>peW ⟨trivial,trivial⟩ rfl hi)
  refine g' [0] ((Z0 hx13).ok) rfl rfl rfl rfl rfl rfl (F0.bz hC rfl (F0.s hC rfl (n' (re' ?_))))
  obtain rfl:=oi' hh
  exact ⟨_,.agg [.d (.int .i64 4),.d (.int .i64 0),.d (.int .i64 0),.d (.int .i64 0),.d (.str x13.1),.d (.sl (estr.rows [])),.d (.sl (J0.rows []))],[.row (B0.cells x13.2) 99],rfl,(.aggL ⟨.rfl,.rfl,.rfl,.rfl,.rfl,.full,.full,trivial⟩),⟨⟨rfl,.refl _,rfl⟩,trivial⟩,rfl,rfl,rpq rfl rfl⟩
 ·intro g0 g1 ih0 ih1 o0 o2_Names o2_Of res hh
  refine A1.unroll (bk' (p' 1 rfl ?_))
  rcases bp' hh with ⟨nn,hx14,⟨⟩⟩ | ⟨x14,hx14,hh⟩
  ·exact gn' [0] (Z0 hx14) rfl rfl rfl rfl rfl (fun hi=>peW ⟨trivial,trivial⟩ rfl hi)
  refine g' [0] ((Z0 hx14).ok) rfl rfl rfl rfl rfl rfl (e' rfl (p' 1 rfl ?_))
  rcases bp' hh with ⟨nn,hx15,⟨⟩⟩ | ⟨x15,hx15,hh⟩
  ·exact gn' [0] (L0 hx15) rfl rfl rfl rfl rfl (fun hi=>peW ⟨trivial,trivial⟩ rfl hi)
  refine g' [0] ((L0 hx15).ok) rfl rfl rfl rfl rfl rfl (n' (p' 1 rfl ?_))
  rcases bp' hh with ⟨nn,hx17,⟨⟩⟩ | ⟨x17,hx17,hh⟩
  ·exact gn' [0] (ih0 _ _ hx17) rfl rfl rfl rfl rfl (fun hi=>peW ⟨trivial,trivial⟩ rfl hi)
  obtain ⟨c11,hh⟩:=I4 hh
  obtain ⟨c12,hh⟩:=I4 hh
  obtain ⟨x18,hx18,hh⟩:=bs' hh
  refine g' [0] ((ih0 _ _ hx17).ok) rfl rfl rfl rfl rfl rfl (F0.nf hC rfl (F0.s hC rfl (n' (S' ?_))))
  refine AEx.drawL hC 11 [4,9] [] [[.row (B0.cells x17.2) 99,.row [.d (.int .i64 0),.d (.int .i64 0),.d (.int .i64 0),.d (.int .i64 0),.d (.str []),.full (estr.rows []),.full (J0.rows [])] 36,.row [.d (.int .i64 3),.d (.int .i64 0),.d (.int .i64 0),.d (.int .i64 0),.d (.str []),.osl 3 (estr.rows o2_Names),.osl 4 (J0.rows o2_Of)] 36,.tok 9 1,.tok 36 7,.row (J0.cells x17.1) 36],[.row (B0.cells x17.2) 99,.row [.d (.int .i64 0),.d (.int .i64 0),.d (.int .i64 0),.d (.int .i64 0),.d (.str []),.full (estr.rows []),.full (J0.rows [])] 36,.row [.d (.int .i64 3),.d (.int .i64 0),.d (.int .i64 0),.d (.int .i64 0),.d (.str []),.osl 3 (estr.rows o2_Names),.osl 4 (J0.rows o2_Of)] 36,.dead,.tok 36 7,.row (J0.cells x17.1) 36,.tok 9 1],[.row (B0.cells x17.2) 99,.row [.d (.int .i64 0),.d (.int .i64 0),.d (.int .i64 0),.d (.int .i64 0),.d (.str []),.full (estr.rows []),.full (J0.rows [])] 36,.row [.d (.int .i64 3),.d (.int .i64 0),.d (.int .i64 0),.d (.int .i64 0),.d (.str []),.osl 3 (estr.rows o2_Names),.osl 4 (J0.rows o2_Of)] 36,.dead,.dead,.row (J0.cells x17.1) 36,.tok 9 1,.tok 36 7]] rfl rfl rfl rfl rfl rfl rfl rfl rfl rfl ?_
  refine AS.q hC rfl rfl rfl rfl (AS.q hC rfl rfl rfl rfl (AS.q hC rfl rfl rfl rfl (AS.a rfl (fun H=>AQ.be hC rfl (estr.rows_map [x14.1]).symm (AQ.nil rfl)) rfl rfl (AS.am hC rfl rfl rfl rfl rfl (rs:=estr.rows (o2_Names++[x14.1])) (estr.app o2_Names [x14.1]) (estr.sz o2_Names) (estr.sz [x14.1]) (P1 (estr.len o2_Names) (estr.len [x14.1]) c11) rfl rfl (AS.q hC rfl rfl rfl rfl (AS.q hC rfl rfl rfl rfl ?_))))))
  refine AS.q hC rfl rfl rfl rfl (AS.a rfl (fun H=>AQ.be hC rfl (J0.rows_map [x17.1]).symm (AQ.nil rfl)) rfl rfl (AS.am hC rfl rfl rfl rfl rfl (rs:=J0.rows (o2_Of++[x17.1])) (J0.app o2_Of [x17.1]) (J0.sz o2_Of) (J0.sz [x17.1]) (P1 (J0.len o2_Of) (J0.len [x17.1]) c12) rfl rfl (AS.q hC rfl rfl rfl rfl (AS.nil (F0.s hC rfl (q' rfl (F0.s hC rfl (n' (p' 1 rfl ?_)))))))))
  refine g' [0] (P0 hx18) rfl rfl rfl rfl rfl rfl (e' rfl (ci' rfl hh (fun hh=>?_) (fun hh=>?_)))
  ·refine ex' (p' 1 rfl ?_)
   rcases bp' hh with ⟨nn,hx19,⟨⟩⟩ | ⟨x19,hx19,hh⟩
   ·exact gn' [0] (L0 hx19) rfl rfl rfl rfl rfl (fun hi=>peW ⟨trivial,trivial⟩ rfl hi)
   refine g' [0] ((L0 hx19).ok) rfl rfl rfl rfl rfl rfl (n' (p' 1 rfl (F0.s hC rfl (n' (re' ?_)))))
   obtain rfl:=oi' hh
   exact ⟨_,.agg [.d (.int .i64 3),.d (.int .i64 0),.d (.int .i64 0),.d (.int .i64 0),.d (.str []),.d (.sl (estr.rows (o2_Names++[x14.1]))),.d (.sl (J0.rows (o2_Of++[x17.1])))],[.row (B0.cells x19) 99],rfl,(.aggL ⟨.rfl,.rfl,.rfl,.rfl,.rfl,.osl,.osl,trivial⟩),⟨⟨rfl,.refl _,rfl⟩,trivial⟩,rfl,rfl,rpq rfl rfl⟩
  refine sk' ?_
  refine A1.rj (L:=[(0,.ref 0 0),(2,.ref 1 0),(6,.ref 2 0)]) (H2:=[.row (B0.cells x18.2) 99,.row [.d (.int .i64 0),.d (.int .i64 0),.d (.int .i64 0),.d (.int .i64 0),.d (.str []),.full (estr.rows []),.full (J0.rows [])] 36,.row [.d (.int .i64 3),.d (.int .i64 0),.d (.int .i64 0),.d (.int .i64 0),.d (.str []),.osl 3 (estr.rows (o2_Names++[x14.1])),.osl 4 (J0.rows (o2_Of++[x17.1]))] 36,.tok 9 1,.tok 36 7]) [0,1,2,6,7] ?_ rfl rfl rfl rfl
  exact lw' (ih1 _ _ _ _ hh) rfl rfl rfl
theorem B9 {parserParser res}(hh:A5 parserParser=some res):Fn parserParser res:=(Jv).1 _ _ hh
end Go.Proofs.YtmnhfbekncjnfaaGreatDoor

set_option maxRecDepth 100000
set_option maxHeartbeats 4000000
set_option synthInstance.maxSize 20000
set_option linter.unusedVariables false
namespace Go.Proofs.YtmnhfbekncjnfaaGreatDoor
open Go.Am
mutual
def N6 (t:J0)(depth:Int)(syntaxReport:I0):Option I0:=
 A6 depth (I0.mk (IntKind.i64.wrap (syntaxReport.nodes+1)) syntaxReport.depth syntaxReport.badForm syntaxReport.badName syntaxReport.badNumber)>>=fun x1=>
 W0 (bif (decide (t.Kind≥0)) then (decide (t.Kind≤4)) else false) x1>>=fun x2=>
 W0 (bif (t.Kind == 1) then true else (bif (t.Low == 0) then (t.High == 0) else false)) x2>>=fun x3=>
 W0 (bif (t.Kind == 2) then true else (t.Size == 0)) x3>>=fun x4=>
 W0 (bif (t.Kind == 4) then true else (t.Name == [])) x4>>=fun x5=>
 W0 (bif (t.Kind == 3) then true else (((t.Names).length:Int) == 0)) x5>>=fun x6=>
 if (t.Kind == 2)=true then
  W0 (((t.Of).length:Int) == 1) x6>>=fun x7=>
  T3 t.Size 1 32>>=fun x8=>
  E2 x8 x7>>=fun x9=>
  C9 t depth x9
 else
  if (t.Kind == 3)=true then
   W0 (bif (decide (((t.Of).length:Int)≥1)) then (((t.Of).length:Int) == ((t.Names).length:Int)) else false) x6>>=fun x14=>
   E2 (decide (((t.Of).length:Int)≤32)) x14>>=fun x15=>
   C9 t depth x15
  else
   W0 (((t.Of).length:Int) == 0) x6>>=fun x16=>
   C9 t depth x16
 partial_fixpoint
def C9 (t:J0)(depth:Int)(o0:I0):Option I0:=
 if (t.Kind == 1)=true then
  T3 t.Low (-1048576) 1048576>>=fun x10=>
  (if x10=true then T3 t.High t.Low 1048576 else some default)>>=fun x11=>
  E2 (bif x10 then x11 else false) o0>>=fun x12=>
  D9 t depth x12
 else
  D9 t depth o0
 partial_fixpoint
def D9 (t:J0)(depth:Int)(o01:I0):Option I0:=
 if (t.Kind == 4)=true then
  Y3 t.Name o01>>=fun x13=>
  Eb t depth x13
 else
  Eb t depth o01
 partial_fixpoint
def Eb (t:J0)(depth:Int)(o02:I0):Option I0:=
 D6 t depth o02 0
 partial_fixpoint
def D6 (t:J0)(depth:Int)(o03:I0)(v147:Int):Option I0:=
 if (decide (v147 < ((t.Names).length:Int)))=true then
  idx t.Names v147>>=fun x17=>
  Y3 x17 o03>>=fun x18=>
  D6 t depth x18 (IntKind.i64.wrap (v147+1))
 else
  D7 t depth o03 0
 partial_fixpoint
def D7 (t:J0)(depth:Int)(o04:I0)(v158:Int):Option I0:=
 if (decide (v158 < ((t.Of).length:Int)))=true then
  idx t.Of v158>>=fun x19=>
  N6 x19 (IntKind.i64.wrap (depth+1)) o04>>=fun x20=>
  D7 t depth x20 (IntKind.i64.wrap (v158+1))
 else
  some o04
 partial_fixpoint
end
abbrev Gn (t:J0)(depth:Int)(syntaxReport:I0)(res:I0):Prop:=U0 C 74 [.ref 0 0,.agg (J0.cells t),.d (.int .i64 depth)] [.row (I0.cells syntaxReport) 103] (Ret [.row (I0.cells res) 103] (.tup []))
abbrev Au (t:J0)(depth:Int)(o0:I0)(res:I0):Prop:=JM C 168 1 Tryz.f74 [1,1,1,1,1,1,1,1,1,1] [(0,.ref 0 0),(2,.d (.int .i64 depth)),(4,.ref 1 0),(6,.d (.bool (t.Kind == 1))),(9,.d (.bool (t.Kind == 4)))] [.row (I0.cells o0) 103,.row (J0.cells t) 36] (Ret [.row (I0.cells res) 103] (.tup []))
abbrev Bu (t:J0)(depth:Int)(o01:I0)(res:I0):Prop:=JM C 168 1 Tryz.f74 [1,1,1,1,1,1,1,1,1,1,1] [(0,.ref 0 0),(2,.d (.int .i64 depth)),(4,.ref 1 0),(9,.d (.bool (t.Kind == 4)))] [.row (I0.cells o01) 103,.row (J0.cells t) 36] (Ret [.row (I0.cells res) 103] (.tup []))
abbrev Cu (t:J0)(depth:Int)(o02:I0)(res:I0):Prop:=JM C 168 1 Tryz.f74 [1,1,1,1,1,1,1,1,1,1,1,1] [(0,.ref 0 0),(2,.d (.int .i64 depth)),(4,.ref 1 0)] [.row (I0.cells o02) 103,.row (J0.cells t) 36] (Ret [.row (I0.cells res) 103] (.tup []))
abbrev Du (t:J0)(depth:Int)(o03:I0)(v147:Int)(res:I0):Prop:=LM C 168 1 Tryz.f74 [1,1,1,1,1,1,1,1,1,1,1,1,0,1,4] [(0,.ref 0 0),(2,.d (.int .i64 depth)),(4,.ref 1 0),(145,.d (.sl (estr.rows t.Names))),(146,.d (.int .i64 ((t.Names).length:Int))),(147,.d (.int .i64 v147))] [.row (I0.cells o03) 103,.row (J0.cells t) 36] (Ret [.row (I0.cells res) 103] (.tup []))
abbrev Eu (t:J0)(depth:Int)(o04:I0)(v158:Int)(res:I0):Prop:=LM C 168 1 Tryz.f74 [1,1,1,1,1,1,1,1,1,1,1,1,1,1,4] [(0,.ref 0 0),(2,.d (.int .i64 depth)),(156,.d (.sl (J0.rows t.Of))),(157,.d (.int .i64 ((t.Of).length:Int))),(158,.d (.int .i64 v158))] [.row (I0.cells o04) 103] (Ret [.row (I0.cells res) 103] (.tup []))
theorem Kv:(∀ t depth syntaxReport res,N6 t depth syntaxReport=some res→Gn t depth syntaxReport res)∧(∀ t depth o0 res,C9 t depth o0=some res→Au t depth o0 res)∧(∀ t depth o01 res,D9 t depth o01=some res→Bu t depth o01 res)∧(∀ t depth o02 res,Eb t depth o02=some res→Cu t depth o02 res)∧(∀ t depth o03 v147 res,D6 t depth o03 v147=some res→Du t depth o03 v147 res)∧(∀ t depth o04 v158 res,D7 t depth o04 v158=some res→Eu t depth o04 v158 res):=by
 refine N6.mutual_partial_correctness _ _ _ _ _ _ ?_ ?_ ?_ ?_ ?_ ?_
 ·intro g1 ih1 t depth syntaxReport res hh
  obtain ⟨x1,hx1,hh⟩:=bs' hh
  obtain ⟨x2,hx2,hh⟩:=bs' hh
  obtain ⟨x3,hx3,hh⟩:=bs' hh
  obtain ⟨x4,hx4,hh⟩:=bs' hh
  obtain ⟨x5,hx5,hh⟩:=bs' hh
  obtain ⟨x6,hx6,hh⟩:=bs' hh
  refine U0.intro hC Tryz.func74 rfl rfl rfl (s' rfl rfl (F0.n hC rfl (n' (p' 7 rfl (F0.s hC rfl (n' (p' 2 rfl (g' [0] (Jg hx1) rfl rfl rfl rfl rfl rfl (n' (sg' 9 rfl (G' 6 rfl (a1' rfl (a1' rfl ?_)))))))))))))
  refine pa' rfl (an' (g' [0] (D1 hx2) rfl rfl rfl rfl rfl rfl (n' (S' (AEx.draw hC 16 rfl rfl rfl (E' rfl (n' (sg' 12 rfl (G' 4 rfl (a1' rfl (a1' rfl (a1' rfl (a0' rfl ?_)))))))))))))
  refine a1' rfl (a1' rfl (pA' rfl (po' rfl (an' (g' [0] (D1 hx3) rfl rfl rfl rfl rfl rfl (n' (sg' 7 rfl (G' 4 rfl (a1' rfl (a1' rfl (po' rfl (an' (g' [0] (D1 hx4) rfl rfl rfl rfl rfl rfl ?_)))))))))))))
  refine n' (sg' 7 rfl (G' 4 rfl (a1' rfl (a1' rfl (po' rfl (an' (g' [0] (D1 hx5) rfl rfl rfl rfl rfl rfl (n' (sg' 8 rfl (G' 4 rfl (a1' rfl (AG.qe hC rfl (fun hg=>⟨⟨hg,trivial⟩,trivial⟩) (estr.lenA _) (a1' rfl ?_)))))))))))))
  refine po' rfl (an' (g' [0] (D1 hx6) rfl rfl rfl rfl rfl rfl (n' (S' (bk' (t' rfl (ci' rfl hh (fun hh=>?_) (fun hh=>?_))))))))
  ·obtain ⟨x7,hx7,hh⟩:=bs' hh
   obtain ⟨x8,hx8,hh⟩:=bs' hh
   obtain ⟨x9,hx9,hh⟩:=bs' hh
   exact p' 3 rfl (qe' rfl trivial (J0.lenA _) (q' rfl (g' [0] (D1 hx7) rfl rfl rfl rfl rfl rfl (n' (P' 3 rfl (c' (U4 hx8) rfl rfl (g' [0] (R3 hx9) rfl rfl rfl rfl rfl rfl (n' (ew' (ih1 _ _ _ _ hh) rfl rfl rfl)))))))))
  refine t' rfl (ci' rfl hh (fun hh=>?_) (fun hh=>?_))
  ·obtain ⟨x14,hx14,hh⟩:=bs' hh
   obtain ⟨x15,hx15,hh⟩:=bs' hh
   refine sg' 14 rfl (G' 3 rfl (AG.qe hC rfl (fun hg=>⟨trivial,trivial⟩) (J0.lenA _) (G' 3 rfl (a1' rfl (AG.qe hC rfl (fun hg=>⟨⟨hg,trivial⟩,trivial⟩) (J0.lenA _) (a0' rfl (a1' rfl (AG.qe hC rfl (fun hg=>⟨⟨hg,trivial⟩,trivial⟩) (estr.lenA _) (a2' rfl (pa' rfl (an' (g' [0] (D1 hx14) rfl rfl rfl rfl rfl rfl (n' ?_)))))))))))))
   exact P' 3 rfl (qe' rfl trivial (J0.lenA _) (q' rfl (g' [0] (R3 hx15) rfl rfl rfl rfl rfl rfl (n' (ew' (ih1 _ _ _ _ hh) rfl rfl rfl)))))
  obtain ⟨x16,hx16,hh⟩:=bs' hh
  exact P' 3 rfl (qe' rfl trivial (J0.lenA _) (q' rfl (g' [0] (D1 hx16) rfl rfl rfl rfl rfl rfl (n' (ew' (ih1 _ _ _ _ hh) rfl rfl rfl)))))
 ·intro g2 ih2 t depth o0 res hh
  refine S' (t' rfl (ci' rfl hh (fun hh=>?_) (fun hh=>?_)))
  ·obtain ⟨x10,hx10,hh⟩:=bs' hh
   obtain ⟨x11,hx11,hh⟩:=bs' hh
   obtain ⟨x12,hx12,hh⟩:=bs' hh
   exact AEx.regionG 11 rfl (G' 3 rfl (AG.c rfl rfl (fun _=>trivial) (fun _=>U4 hx10) (G' 2 rfl (a1' rfl (a0' rfl (a1' rfl (AG.c rfl rfl (fun hg=>⟨hg,hg,trivial⟩) (fun hw=>U4 (A4 hw hx11)) (pa' rfl (an' (g' [0] (R3 hx12) rfl rfl rfl rfl rfl rfl (n' (ew' (ih2 _ _ _ _ hh) rfl rfl rfl))))))))))))
  exact sk' (ew' (ih2 _ _ _ _ hh) rfl rfl rfl)
 ·intro g3 ih3 t depth o01 res hh
  refine S' (t' rfl (ci' rfl hh (fun hh=>?_) (fun hh=>?_)))
  ·obtain ⟨x13,hx13,hh⟩:=bs' hh
   exact P' 3 rfl (g' [0] (Oa hx13) rfl rfl rfl rfl rfl rfl (n' (ew' (ih3 _ _ _ _ hh) rfl rfl rfl)))
  exact sk' (ew' (ih3 _ _ _ _ hh) rfl rfl rfl)
 ·intro g4 ih4 t depth o02 res hh
  exact S' (p' 2 rfl (qe' rfl trivial (estr.lenA _) (e' rfl (bk' (fw' (ih4 _ _ _ _ _ hh) rfl rfl rfl)))))
 ·intro g4 g5 ih4 ih5 t depth o03 v147 res hh
  refine A1.unroll (t' rfl (S' (ci' rfl hh (fun hh=>?_) (fun hh=>?_))))
  ·obtain ⟨x17,hx17,hh⟩:=bs' hh
   obtain ⟨x18,hx18,hh⟩:=bs' hh
   exact sk' (S' (bk' (s' rfl rfl (i' rfl (W1 hx17) (estr.idx hx17) rfl (e' rfl (P' 2 rfl (g' [0] (Oa hx18) rfl rfl rfl rfl rfl rfl (n' (T' rfl (lw' (ih4 _ _ _ _ _ hh) rfl rfl rfl))))))))))
  exact ex' (p' 2 rfl (qe' rfl trivial (J0.lenA _) (e' rfl (bk' (fw' (ih5 _ _ _ _ _ hh) rfl rfl rfl)))))
 ·intro g0 g5 ih0 ih5 t depth o04 v158 res hh
  refine A1.unroll (t' rfl (S' (ci' rfl hh (fun hh=>?_) (fun hh=>?_))))
  ·obtain ⟨x19,hx19,hh⟩:=bs' hh
   obtain ⟨x20,hx20,hh⟩:=bs' hh
   exact sk' (S' (bk' (s' rfl rfl (i' rfl (W1 hx19) (J0.idx hx19) rfl (q' rfl (F0.nf hC rfl (F0.s hC rfl (n' (P' 4 rfl (g' [0] (ih0 _ _ _ _ hx20) rfl rfl rfl rfl rfl rfl (n' (T' rfl (lw' (ih5 _ _ _ _ _ hh) rfl rfl rfl)))))))))))))
  cases hh
  exact ex' (rn' rfl rfl rfl)
theorem Ow {t depth syntaxReport res}(hh:N6 t depth syntaxReport=some res):Gn t depth syntaxReport res:=(Kv).1 _ _ _ _ hh
def M5 (l:List K0)(atV:Int):Option (Int×Int×Bool):=
 T0 l atV [45]>>=fun x1=>
 if x1=true then
  De l (IntKind.i64.wrap (atV+1))>>=fun x2=>
  some ((IntKind.i64.wrap (0 - x2.1)),x2.2.1,x2.2.2)
 else
  De l atV>>=fun x3=>
  some (x3.1,x3.2.1,x3.2.2)
def Pg (l:List K0)(atV:Int):Option (J0×Int×Bool):=
 T0 l atV [91]>>=fun x1=>
 if (!x1)=true then
  some ((J0.mk 0 0 0 0 [] [] []),atV,false)
 else
  M5 l (IntKind.i64.wrap (atV+1))>>=fun x2=>
  (if (!(!x2.2.2))=true then T0 l x2.2.1 [46,46] else some default)>>=fun x3=>
  if (bif (!x2.2.2) then true else (!x3))=true then
   some ((J0.mk 0 0 0 0 [] [] []),x2.2.1,false)
  else
   M5 l (IntKind.i64.wrap (x2.2.1+1))>>=fun x4=>
   (if (!(!x4.2.2))=true then T0 l x4.2.1 [93] else some default)>>=fun x5=>
   if (bif (!x4.2.2) then true else (!x5))=true then
    some ((J0.mk 0 0 0 0 [] [] []),x4.2.1,false)
   else
    some ((J0.mk 1 x2.1 x4.1 0 [] [] []),(IntKind.i64.wrap (x4.2.1+1)),true)
mutual
def Sa (l:List K0)(atV:Int):Option (J0×Int×Bool):=
 T0 l atV [98,111,111,108]>>=fun x1=>
 if x1=true then
  some ((J0.mk 0 0 0 0 [] [] []),(IntKind.i64.wrap (atV+1)),true)
 else
  T0 l atV [105,110,116]>>=fun x2=>
  if x2=true then
   Pg l (IntKind.i64.wrap (atV+1))>>=fun x3=>
   some (x3.1,x3.2.1,x3.2.2)
  else
   T0 l atV [97,114,114,97,121]>>=fun x4=>
   if x4=true then
    M5 l (IntKind.i64.wrap (atV+1))>>=fun x5=>
    (if (!(!x5.2.2))=true then T0 l x5.2.1 [111,102] else some default)>>=fun x6=>
    if (bif (!x5.2.2) then true else (!x6))=true then
     some ((J0.mk 0 0 0 0 [] [] []),x5.2.1,false)
    else
     Sa l (IntKind.i64.wrap (x5.2.1+1))>>=fun x10=>
     some ((J0.mk 2 0 0 x5.1 [] [] [x10.1]),x10.2.1,x10.2.2)
   else
    T0 l atV [114,101,99,111,114,100]>>=fun x7=>
    if x7=true then
     Jj l (IntKind.i64.wrap (atV+1))>>=fun x8=>
     some (x8.1,x8.2.1,x8.2.2)
    else
     X7 l atV>>=fun x9=>
     some ((J0.mk 4 0 0 0 x9.1 [] []),x9.2.1,x9.2.2)
 partial_fixpoint
def Jj (l:List K0)(atV:Int):Option (J0×Int×Bool):=
 T0 l atV [123]>>=fun x1=>
 if (!x1)=true then
  some ((J0.mk 3 0 0 0 [] [] []),atV,false)
 else
  J9 l [] [] atV
 partial_fixpoint
def J9 (l:List K0)(o1_Names:List Str)(o1_Of:List J0)(atV1:Int):Option (J0×Int×Bool):=
 J5 l (IntKind.i64.wrap (atV1+1))>>=fun x2=>
 if (!x2.2.2)=true then
  some ((J0.mk 3 0 0 0 [] o1_Names o1_Of),x2.2.1,false)
 else
  if (decide ((o1_Names.length+1) * 17≤140737488355328))=true then
   if (decide ((o1_Of.length+1) * 97≤140737488355328))=true then
    T0 l x2.2.1 [125]>>=fun x3=>
    if x3=true then
     some ((J0.mk 3 0 0 0 [] (o1_Names++[x2.1.Name]) (o1_Of++[x2.1.TypeV])),(IntKind.i64.wrap (x2.2.1+1)),true)
    else
     T0 l x2.2.1 [44]>>=fun x4=>
     if (!x4)=true then
      some ((J0.mk 3 0 0 0 [] (o1_Names++[x2.1.Name]) (o1_Of++[x2.1.TypeV])),x2.2.1,false)
     else
      J9 l (o1_Names++[x2.1.Name]) (o1_Of++[x2.1.TypeV]) x2.2.1
   else none
  else none
 partial_fixpoint
def J5 (l:List K0)(atV:Int):Option (D0×Int×Bool):=
 X7 l atV>>=fun x1=>
 (if (!(!x1.2.2))=true then T0 l x1.2.1 [58] else some default)>>=fun x2=>
 if (bif (!x1.2.2) then true else (!x2))=true then
  some ((D0.mk 0 [] (J0.mk 0 0 0 0 [] [] []) 0 (A0.mk 0 0 [] []) [] [] []),x1.2.1,false)
 else
  Sa l (IntKind.i64.wrap (x1.2.1+1))>>=fun x3=>
  some ((D0.mk 4 x1.1 x3.1 0 (A0.mk 0 0 [] []) [] [] []),x3.2.1,x3.2.2)
 partial_fixpoint
end
mutual
def K9 (a:J0)(b:J0):Option Bool:=
 if (bif (bif (bif (bif (bif (bif (a.Kind != b.Kind) then true else (a.Low != b.Low)) then true else (a.High != b.High)) then true else (a.Size != b.Size)) then true else (!(a.Name == b.Name))) then true else (((a.Names).length:Int) != ((b.Names).length:Int))) then true else (((a.Of).length:Int) != ((b.Of).length:Int)))=true then
  some false
 else
  Ta a b 0
 partial_fixpoint
def Ta (a:J0)(b:J0)(i:Int):Option Bool:=
 if (decide (i < ((a.Names).length:Int)))=true then
  idx a.Names i>>=fun x1=>
  idx b.Names i>>=fun x2=>
  if (!(x1 == x2))=true then
   some false
  else
   Ta a b (IntKind.i64.wrap (i+1))
 else
  O8 a b 0
 partial_fixpoint
def O8 (a:J0)(b:J0)(i1:Int):Option Bool:=
 if (decide (i1 < ((a.Of).length:Int)))=true then
  idx a.Of i1>>=fun x3=>
  idx b.Of i1>>=fun x4=>
  K9 x3 x4>>=fun x5=>
  if (!x5)=true then
   some false
  else
   O8 a b (IntKind.i64.wrap (i1+1))
 else
  some true
 partial_fixpoint
end
abbrev Pq (a:J0)(b:J0)(res:Bool):Prop:=U0 C 16 [.agg (J0.cells a),.agg (J0.cells b)] [] (Ret [] (.d (.bool res)))
abbrev Pw (a:J0)(b:J0)(i:Int)(res:Bool):Prop:=LM C 95 0 Tryz.f16 [1,1,0,1,4] [(2,.ref 0 0),(3,.ref 1 0),(5,.d (.int .i64 i))] [.row (J0.cells a) 36,.row (J0.cells b) 36] (Ret [] (.d (.bool res)))
abbrev Rw (a:J0)(b:J0)(i1:Int)(res:Bool):Prop:=LM C 95 0 Tryz.f16 [1,1,1,0,1,4] [(2,.ref 0 0),(3,.ref 1 0),(6,.d (.int .i64 i1))] [.row (J0.cells a) 36,.row (J0.cells b) 36] (Ret [] (.d (.bool res)))
theorem Cy:(∀ a b res,K9 a b=some res→Pq a b res)∧(∀ a b i res,Ta a b i=some res→Pw a b i res)∧(∀ a b i1 res,O8 a b i1=some res→Rw a b i1 res):=by
 refine K9.mutual_partial_correctness _ _ _ ?_ ?_ ?_
 ·intro g1 ih1 a b res hh
  refine U0.intro hC Tryz.func16 rfl rfl rfl (s' rfl rfl (F0.n hC rfl (F0.n hC rfl (e' rfl (S' (sg' 51 rfl (G' 7 rfl (a1' rfl (a0' rfl (a1' rfl (a2' rfl (po' rfl (G' 2 rfl ?_)))))))))))))
  refine a1' rfl (a0' rfl (a1' rfl (a2' rfl (po' rfl (G' 2 rfl (a1' rfl (a0' rfl (a1' rfl (a2' rfl (po' rfl (G' 2 rfl (a1' rfl (a0' rfl ?_)))))))))))))
  refine a1' rfl (a2' rfl (po' rfl (G' 2 rfl (a1' rfl (AG.qe hC rfl (fun hg=>⟨⟨hg,trivial⟩,trivial⟩) (estr.lenA _) (a0' rfl (a1' rfl (AG.qe hC rfl (fun hg=>⟨⟨hg,trivial⟩,trivial⟩) (estr.lenA _) (a2' rfl (po' rfl (G' 2 rfl (a1' rfl (AG.qe hC rfl (fun hg=>⟨⟨hg,trivial⟩,trivial⟩) (J0.lenA _) ?_)))))))))))))
  refine a0' rfl (a1' rfl (AG.qe hC rfl (fun hg=>⟨⟨hg,trivial⟩,trivial⟩) (J0.lenA _) (a2' rfl (po' rfl (an' (n' (ci' rfl hh (fun hh=>?_) (fun hh=>?_))))))))
  ·cases hh
   exact t' rfl (re' (rt' rfl rfl rfl))
  exact sk' (S' (t' rfl (bk' (fw' (ih1 _ _ _ _ hh) rfl rfl rfl))))
 ·intro g1 g2 ih1 ih2 a b i res hh
  refine A1.unroll (S' (p' 3 rfl (qe' rfl trivial (estr.lenA _) (e' rfl (ci' rfl hh (fun hh=>?_) (fun hh=>?_))))))
  ·obtain ⟨x1,hx1,hh⟩:=bs' hh
   obtain ⟨x2,hx2,hh⟩:=bs' hh
   refine sk' (S' (bk' (S' (AEx.draw hC 11 rfl rfl rfl (O' 3 rfl (AQ.i hC rfl (W1 hx1) (estr.idx hx1) rfl (O' 4 rfl (AQ.i hC rfl (W1 hx2) (estr.idx hx2) rfl (E' rfl (n' (ci' rfl hh (fun hh=>?_) (fun hh=>?_))))))))))))
   ·cases hh
    exact t' rfl (re' (rt' rfl rfl rfl))
   exact sk' (T' rfl (lw' (ih1 _ _ _ _ hh) rfl rfl rfl))
  exact ex' (S' (t' rfl (bk' (fw' (ih2 _ _ _ _ hh) rfl rfl rfl))))
 ·intro g0 g2 ih0 ih2 a b i1 res hh
  refine A1.unroll (S' (p' 3 rfl (qe' rfl trivial (J0.lenA _) (e' rfl (ci' rfl hh (fun hh=>?_) (fun hh=>?_))))))
  ·obtain ⟨x3,hx3,hh⟩:=bs' hh
   obtain ⟨x4,hx4,hh⟩:=bs' hh
   obtain ⟨x5,hx5,hh⟩:=bs' hh
   refine sk' (S' (bk' (S' (AEx.draw hC 12 rfl rfl rfl (O' 3 rfl (AQ.i hC rfl (W1 hx3) (J0.idx hx3) rfl (O' 4 rfl (AQ.i hC rfl (W1 hx4) (J0.idx hx4) rfl (Q' rfl (Qc' (ih0 _ _ _ hx5) rfl rfl (E' rfl (n' (ci' rfl hh (fun hh=>?_) (fun hh=>?_))))))))))))))
   ·cases hh
    exact t' rfl (re' (rt' rfl rfl rfl))
   exact sk' (T' rfl (lw' (ih2 _ _ _ _ hh) rfl rfl rfl))
  cases hh
  exact ex' (t' rfl (re' (rt' rfl rfl rfl)))
theorem Kz {a b res}(hh:K9 a b=some res):Pq a b res:=(Cy).1 _ _ _ hh
def U2 (kind:Int)(parserParser:B0):Option (Pn (D0×B0)):=
 T2 parserParser>>=fun x1=>match x1 with
 | .pn nn=>
 some (.pn nn)
 | .ok x1=>
 R0 [58] x1.2>>=fun x2=>match x2 with
 | .pn nn=>
 some (.pn nn)
 | .ok x2=>
 A5 x2>>=fun x3=>match x3 with
 | .pn nn=>
 some (.pn nn)
 | .ok x3=>
 some (.ok ((D0.mk kind x1.1 x3.1 0 (A0.mk 0 0 [] []) [] [] []),x3.2))
theorem V0 {kind parserParser res}(hh:U2 kind parserParser=some res):C2 C 139 [.ref 0 0,.d (.int .i64 kind)] [.row (B0.cells parserParser) 99] (P4 res (fun rr=>[.row (B0.cells rr.2) 99]) (fun rr=>.agg (D0.cells rr.1))) (J4 res F3 [.dead]):=by
 unfold U2 at hh
 refine C2.intro hC Tryz.func139 rfl rfl rfl (s' rfl rfl (F0.nf hC rfl (n' (p' 1 rfl ?_))))
 rcases bp' hh with ⟨nn,hx1,⟨⟩⟩ | ⟨x1,hx1,hh⟩
 ·exact gn' [0] (Z0 hx1) rfl rfl rfl rfl rfl (fun hi=>peW ⟨trivial,trivial⟩ rfl hi)
 refine g' [0] ((Z0 hx1).ok) rfl rfl rfl rfl rfl rfl (e' rfl (p' 1 rfl ?_))
 rcases bp' hh with ⟨nn,hx2,⟨⟩⟩ | ⟨x2,hx2,hh⟩
 ·exact gn' [0] (L0 hx2) rfl rfl rfl rfl rfl (fun hi=>peW ⟨trivial,trivial⟩ rfl hi)
 refine g' [0] ((L0 hx2).ok) rfl rfl rfl rfl rfl rfl (n' (p' 3 rfl ?_))
 rcases bp' hh with ⟨nn,hx3,⟨⟩⟩ | ⟨x3,hx3,hh⟩
 ·exact gn' [0] (B9 hx3) rfl rfl rfl rfl rfl (fun hi=>peW ⟨trivial,trivial⟩ rfl hi)
 cases hh
 exact g' [0] ((B9 hx3).ok) rfl rfl rfl rfl rfl rfl (q' rfl (F0.s hC rfl (n' (re' (rt' rfl rfl rfl)))))
def J7 (parserParser:B0):Option (Pn (D0×B0)):=
 U2 4 parserParser>>=fun x1=>match x1 with
 | .pn nn=>
 some (.pn nn)
 | .ok x1=>
 O0 [61] x1.2>>=fun x2=>
 if x2.1=true then
  O0 [116,114,117,101] x2.2>>=fun x3=>
  if x3.1=true then
   R0 [59] x3.2>>=fun x4=>match x4 with
   | .pn nn=>
   some (.pn nn)
   | .ok x4=>
   some (.ok ((D0.mk x1.1.Kind x1.1.Name x1.1.TypeV 1 x1.1.Value x1.1.Params x1.1.Vars x1.1.Body),x4))
  else
   O0 [102,97,108,115,101] x3.2>>=fun x5=>
   if x5.1=true then
    R0 [59] x5.2>>=fun x4=>match x4 with
    | .pn nn=>
    some (.pn nn)
    | .ok x4=>
    some (.ok (x1.1,x4))
   else
    R2 x5.2>>=fun x6=>match x6 with
    | .pn nn=>
    some (.pn nn)
    | .ok x6=>
    R0 [59] x6.2>>=fun x4=>match x4 with
    | .pn nn=>
    some (.pn nn)
    | .ok x4=>
    some (.ok ((D0.mk x1.1.Kind x1.1.Name x1.1.TypeV x6.1 x1.1.Value x1.1.Params x1.1.Vars x1.1.Body),x4))
 else
  R0 [59] x2.2>>=fun x4=>match x4 with
  | .pn nn=>
  some (.pn nn)
  | .ok x4=>
  some (.ok (x1.1,x4))
theorem B2 {parserParser res}(hh:J7 parserParser=some res):C2 C 140 [.ref 0 0] [.row (B0.cells parserParser) 99] (P4 res (fun rr=>[.row (B0.cells rr.2) 99]) (fun rr=>.agg (D0.cells rr.1))) (J4 res F3 [.dead]):=by
 unfold J7 at hh
 refine C2.intro hC Tryz.func140 rfl rfl rfl (s' rfl rfl (F0.nf hC rfl (n' (p' 1 rfl ?_))))
 rcases bp' hh with ⟨nn,hx1,⟨⟩⟩ | ⟨x1,hx1,hh⟩
 ·exact gn' [0] (V0 hx1) rfl rfl rfl rfl rfl (fun hi=>peW ⟨trivial,trivial⟩ rfl hi)
 obtain ⟨x2,hx2,hh⟩:=bs' hh
 refine g' [0] ((V0 hx1).ok) rfl rfl rfl rfl rfl rfl (F0.nf hC rfl (F0.s hC rfl (n' (S' (p' 1 rfl (g' [0] (P0 hx2) rfl rfl rfl rfl rfl rfl (n' (ci' rfl hh (fun hh=>?_) (fun hh=>?_)))))))))
 ·obtain ⟨x3,hx3,hh⟩:=bs' hh
  refine bk' (p' 1 rfl (g' [0] (P0 hx3) rfl rfl rfl rfl rfl rfl (e' rfl (ci' rfl hh (fun hh=>?_) (fun hh=>?_)))))
  ·refine P' 1 rfl (F0.s hC rfl (n' (p' 1 rfl ?_)))
   rcases bp' hh with ⟨nn,hx4,⟨⟩⟩ | ⟨x4,hx4,hh⟩
   ·exact gn' [0] (L0 hx4) rfl rfl rfl rfl rfl (fun hi=>peW ⟨trivial,trivial⟩ rfl hi)
   cases hh
   exact g' [0] ((L0 hx4).ok) rfl rfl rfl rfl rfl rfl (n' (p' 1 rfl (F0.s hC rfl (n' (re' (rt' rfl rfl rfl))))))
  obtain ⟨x5,hx5,hh⟩:=bs' hh
  refine p' 1 rfl (g' [0] (P0 hx5) rfl rfl rfl rfl rfl rfl (e' rfl (ci' rfl hh (fun hh=>?_) (fun hh=>?_))))
  ·refine sk' (p' 1 rfl ?_)
   rcases bp' hh with ⟨nn,hx4,⟨⟩⟩ | ⟨x4,hx4,hh⟩
   ·exact gn' [0] (L0 hx4) rfl rfl rfl rfl rfl (fun hi=>peW ⟨trivial,trivial⟩ rfl hi)
   cases hh
   exact g' [0] ((L0 hx4).ok) rfl rfl rfl rfl rfl rfl (n' (p' 1 rfl (F0.s hC rfl (n' (re' (rt' rfl rfl rfl))))))
  refine P' 1 rfl ?_
  rcases bp' hh with ⟨nn,hx6,⟨⟩⟩ | ⟨x6,hx6,hh⟩
  ·exact gn' [0] (X0 hx6) rfl rfl rfl rfl rfl (fun hi=>peW ⟨trivial,trivial⟩ rfl hi)
  refine g' [0] ((X0 hx6).ok) rfl rfl rfl rfl rfl rfl (q' rfl (F0.s hC rfl (n' (p' 1 rfl ?_))))
  rcases bp' hh with ⟨nn,hx4,⟨⟩⟩ | ⟨x4,hx4,hh⟩
  ·exact gn' [0] (L0 hx4) rfl rfl rfl rfl rfl (fun hi=>peW ⟨trivial,trivial⟩ rfl hi)
  cases hh
  exact g' [0] ((L0 hx4).ok) rfl rfl rfl rfl rfl rfl (n' (p' 1 rfl (F0.s hC rfl (n' (re' (rt' rfl rfl rfl))))))
 refine sk' (p' 1 rfl ?_)
 rcases bp' hh with ⟨nn,hx4,⟨⟩⟩ | ⟨x4,hx4,hh⟩
 ·exact gn' [0] (L0 hx4) rfl rfl rfl rfl rfl (fun hi=>peW ⟨trivial,trivial⟩ rfl hi)
 cases hh
 exact g' [0] ((L0 hx4).ok) rfl rfl rfl rfl rfl rfl (n' (p' 1 rfl (F0.s hC rfl (n' (re' (rt' rfl rfl rfl))))))
def K4 (o0:B0)(x1:A0×B0)(x4:Str×B0)(o2_Args:List A0):Option (Pn (E0×B0)):=
 O0 [44] o0>>=fun x13=>
 if x13.1=true then
  C1 x13.2>>=fun x14=>match x14 with
  | .pn nn=>
  some (.pn nn)
  | .ok x14=>
  if (decide ((o2_Args.length+1) * 57≤140737488355328))=true then
   K4 x14.2 x1 x4 (o2_Args++[x14.1])
  else none
 else
  R0 [41] x13.2>>=fun x8=>match x8 with
  | .pn nn=>
  some (.pn nn)
  | .ok x8=>
  R0 [59] x8>>=fun x9=>match x9 with
  | .pn nn=>
  some (.pn nn)
  | .ok x9=>
  some (.ok ((E0.mk 1 x1.1 (A0.mk 0 0 [] []) x4.1 o2_Args 0 0 0 [] [] []),x9))
 partial_fixpoint
abbrev Zf (o0:B0)(x1:A0×B0)(x4:Str×B0)(o2_Args:List A0)(res:Pn (E0×B0)):Prop:=LMp C 52 1 Tryz.f173 [1,1,1,0,4,1,2,1,1,0,1,2,1,4] [(0,.ref 0 0),(2,.ref 1 0),(3,.ref 2 0)] [.row (B0.cells o0) 99,.row [.d (.int .i64 0),.d (.int .i64 0),.d (.int .i64 0),.d (.str []),.full (A0.rows []),.d (.int .i64 0),.d (.int .i64 0),.d (.str []),.full (A0.rows []),.d (.str []),.full (A0.rows []),.d (.int .i64 0),.d (.int .i64 0),.d (.int .i64 0),.full (ei64.rows []),.full (E0.rows []),.full (E0.rows [])] 144,.row [.d (.int .i64 1),.d (.int .i64 x1.1.Op),.d (.int .i64 x1.1.NV),.d (.str x1.1.Name),.d (.sl (A0.rows x1.1.Kids)),.d (.int .i64 0),.d (.int .i64 0),.d (.str []),.full (A0.rows []),.d (.str x4.1),.osl 3 (A0.rows o2_Args),.d (.int .i64 0),.d (.int .i64 0),.d (.int .i64 0),.full (ei64.rows []),.full (E0.rows []),.full (E0.rows [])] 144,.tok 26 4] (P4 res (fun rr=>[.row (B0.cells rr.2) 99]) (fun rr=>.agg (E0.cells rr.1))) (J4 res F3 [.dead])
theorem Wl (x1:A0×B0)(x4:Str×B0):(∀ o0 o2_Args res,K4 o0 x1 x4 o2_Args=some res→Zf o0 x1 x4 o2_Args res):=by
 refine K4.partial_correctness x1 x4 _ ?_
 ·intro g0 ih0 o0 o2_Args res hh
  obtain ⟨x13,hx13,hh⟩:=bs' hh
  refine A1.unroll (S' (p' 1 rfl (g' [0] (P0 hx13) rfl rfl rfl rfl rfl rfl (n' (ci' rfl hh (fun hh=>?_) (fun hh=>?_))))))
  ·refine sk' (bk' ?_)
   rcases bp' hh with ⟨nn,hx14,⟨⟩⟩ | ⟨x14,hx14,hh⟩
   ·refine AEx.drawE hC ?_
    refine C0.step rfl (j0:=0) (js:=[2]) (by kernel_rfl) ⟨⟨_,rfl,?_⟩,⟨_,rfl,?_⟩,trivial⟩
    ·refine e' rfl ?_
     refine C0.step rfl (j0:=1) (js:=[2]) (by kernel_rfl) ⟨⟨_,rfl,?_⟩,⟨_,rfl,?_⟩,trivial⟩
     ·refine e' rfl ?_
      refine C0.step rfl (j0:=2) (js:=[]) (by kernel_rfl) ⟨⟨_,rfl,?_⟩,trivial⟩
      refine e' rfl ?_
      refine C0.step rfl (j0:=3) (js:=[]) (by kernel_rfl) ⟨⟨_,rfl,?_⟩,trivial⟩
      exact gn' [0] (S0 hx14) rfl rfl rfl rfl rfl (fun hi=>peW ⟨trivial,trivial⟩ rfl hi)
     ·refine e' rfl ?_
      refine C0.step rfl (j0:=1) (js:=[3]) (by kernel_rfl) ⟨⟨_,rfl,?_⟩,⟨_,rfl,?_⟩,trivial⟩
      ·refine e' rfl ?_
       refine C0.step rfl (j0:=3) (js:=[]) (by kernel_rfl) ⟨⟨_,rfl,?_⟩,trivial⟩
       exact gn' [0] (S0 hx14) rfl rfl rfl rfl rfl (fun hi=>peW ⟨trivial,trivial⟩ rfl hi)
      ·exact gn' [0] (S0 hx14) rfl rfl rfl rfl rfl (fun hi=>peW ⟨trivial,trivial⟩ rfl hi)
    ·refine e' rfl ?_
     refine C0.step rfl (j0:=0) (js:=[3]) (by kernel_rfl) ⟨⟨_,rfl,?_⟩,⟨_,rfl,?_⟩,trivial⟩
     ·refine e' rfl ?_
      refine C0.step rfl (j0:=1) (js:=[3]) (by kernel_rfl) ⟨⟨_,rfl,?_⟩,⟨_,rfl,?_⟩,trivial⟩
      ·refine e' rfl ?_
       refine C0.step rfl (j0:=3) (js:=[]) (by kernel_rfl) ⟨⟨_,rfl,?_⟩,trivial⟩
       exact gn' [0] (S0 hx14) rfl rfl rfl rfl rfl (fun hi=>peW ⟨trivial,trivial⟩ rfl hi)
      ·exact gn' [0] (S0 hx14) rfl rfl rfl rfl rfl (fun hi=>peW ⟨trivial,trivial⟩ rfl hi)
     ·exact gn' [0] (S0 hx14) rfl rfl rfl rfl rfl (fun hi=>peW ⟨trivial,trivial⟩ rfl hi)
   obtain ⟨c11,hh⟩:=I4 hh
   refine AEx.drawE hC ?_
   refine C0.step rfl (j0:=0) (js:=[2]) (by kernel_rfl) ⟨⟨_,rfl,?_⟩,⟨_,rfl,?_⟩,trivial⟩
   ·refine e' rfl ?_
    refine C0.step rfl (j0:=1) (js:=[2]) (by kernel_rfl) ⟨⟨_,rfl,?_⟩,⟨_,rfl,?_⟩,trivial⟩
    ·refine e' rfl ?_
     refine C0.step rfl (j0:=2) (js:=[]) (by kernel_rfl) ⟨⟨_,rfl,?_⟩,trivial⟩
     refine e' rfl ?_
     refine C0.step rfl (j0:=3) (js:=[]) (by kernel_rfl) ⟨⟨_,rfl,?_⟩,trivial⟩
     refine g' [0] ((S0 hx14).ok) rfl rfl rfl rfl rfl rfl (n' ?_)
     refine C0.step rfl (j0:=4) (js:=[]) (by kernel_rfl) ⟨⟨_,rfl,?_⟩,trivial⟩
     refine F0.be hC rfl (A0.rows_map [x14.1]).symm (n' ?_)
     refine C0.step rfl (j0:=5) (js:=[]) (by kernel_rfl) ⟨⟨_,rfl,?_⟩,trivial⟩
     refine F0.ap hC rfl (rs:=A0.rows (o2_Args++[x14.1])) (A0.app o2_Args [x14.1]) (A0.sz o2_Args) (A0.sz [x14.1]) (P1 (A0.len o2_Args) (A0.len [x14.1]) c11) (n' ?_)
     refine C0.step rfl (j0:=6) (js:=[]) (by kernel_rfl) ⟨⟨_,rfl,?_⟩,trivial⟩
     refine e' rfl ?_
     refine C0.step rfl (j0:=7) (js:=[]) (by kernel_rfl) ⟨⟨_,rfl,?_⟩,trivial⟩
     exact F0.s hC rfl (n' (C0.nil (by kernel_rfl) (lw' (ih0 _ _ _ hh) rfl rfl rfl)))
    ·refine e' rfl ?_
     refine C0.step rfl (j0:=1) (js:=[3]) (by kernel_rfl) ⟨⟨_,rfl,?_⟩,⟨_,rfl,?_⟩,trivial⟩
     ·refine e' rfl ?_
      refine C0.step rfl (j0:=3) (js:=[]) (by kernel_rfl) ⟨⟨_,rfl,?_⟩,trivial⟩
      refine g' [0] ((S0 hx14).ok) rfl rfl rfl rfl rfl rfl (n' ?_)
      refine C0.step rfl (j0:=4) (js:=[]) (by kernel_rfl) ⟨⟨_,rfl,?_⟩,trivial⟩
      refine F0.be hC rfl (A0.rows_map [x14.1]).symm (n' ?_)
      refine C0.step rfl (j0:=5) (js:=[]) (by kernel_rfl) ⟨⟨_,rfl,?_⟩,trivial⟩
      refine F0.ap hC rfl (rs:=A0.rows (o2_Args++[x14.1])) (A0.app o2_Args [x14.1]) (A0.sz o2_Args) (A0.sz [x14.1]) (P1 (A0.len o2_Args) (A0.len [x14.1]) c11) (n' ?_)
      refine C0.step rfl (j0:=6) (js:=[]) (by kernel_rfl) ⟨⟨_,rfl,?_⟩,trivial⟩
      refine e' rfl ?_
      refine C0.step rfl (j0:=7) (js:=[]) (by kernel_rfl) ⟨⟨_,rfl,?_⟩,trivial⟩
      exact F0.s hC rfl (n' (C0.nil (by kernel_rfl) (lw' (ih0 _ _ _ hh) rfl rfl rfl)))
     ·refine g' [0] ((S0 hx14).ok) rfl rfl rfl rfl rfl rfl (n' ?_)
      refine C0.step rfl (j0:=1) (js:=[4]) (by kernel_rfl) ⟨⟨_,rfl,?_⟩,⟨_,rfl,?_⟩,trivial⟩
      ·refine e' rfl ?_
       refine C0.step rfl (j0:=4) (js:=[]) (by kernel_rfl) ⟨⟨_,rfl,?_⟩,trivial⟩
       refine F0.be hC rfl (A0.rows_map [x14.1]).symm (n' ?_)
       refine C0.step rfl (j0:=5) (js:=[]) (by kernel_rfl) ⟨⟨_,rfl,?_⟩,trivial⟩
       refine F0.ap hC rfl (rs:=A0.rows (o2_Args++[x14.1])) (A0.app o2_Args [x14.1]) (A0.sz o2_Args) (A0.sz [x14.1]) (P1 (A0.len o2_Args) (A0.len [x14.1]) c11) (n' ?_)
       refine C0.step rfl (j0:=6) (js:=[]) (by kernel_rfl) ⟨⟨_,rfl,?_⟩,trivial⟩
       refine e' rfl ?_
       refine C0.step rfl (j0:=7) (js:=[]) (by kernel_rfl) ⟨⟨_,rfl,?_⟩,trivial⟩
       exact F0.s hC rfl (n' (C0.nil (by kernel_rfl) (lw' (ih0 _ _ _ hh) rfl rfl rfl)))
      ·refine F0.be hC rfl (A0.rows_map [x14.1]).symm (n' ?_)
       refine C0.step rfl (j0:=1) (js:=[]) (by kernel_rfl) ⟨⟨_,rfl,?_⟩,trivial⟩
       refine e' rfl ?_
       refine C0.step rfl (j0:=5) (js:=[]) (by kernel_rfl) ⟨⟨_,rfl,?_⟩,trivial⟩
       refine F0.ap hC rfl (rs:=A0.rows (o2_Args++[x14.1])) (A0.app o2_Args [x14.1]) (A0.sz o2_Args) (A0.sz [x14.1]) (P1 (A0.len o2_Args) (A0.len [x14.1]) c11) (n' ?_)
       refine C0.step rfl (j0:=6) (js:=[]) (by kernel_rfl) ⟨⟨_,rfl,?_⟩,trivial⟩
       refine e' rfl ?_
       refine C0.step rfl (j0:=7) (js:=[]) (by kernel_rfl) ⟨⟨_,rfl,?_⟩,trivial⟩
       exact F0.s hC rfl (n' (C0.nil (by kernel_rfl) (lw' (ih0 _ _ _ hh) rfl rfl rfl)))
   ·refine e' rfl ?_
    refine C0.step rfl (j0:=0) (js:=[3]) (by kernel_rfl) ⟨⟨_,rfl,?_⟩,⟨_,rfl,?_⟩,trivial⟩
    ·refine e' rfl ?_
     refine C0.step rfl (j0:=1) (js:=[3]) (by kernel_rfl) ⟨⟨_,rfl,?_⟩,⟨_,rfl,?_⟩,trivial⟩
     ·refine e' rfl ?_
      refine C0.step rfl (j0:=3) (js:=[]) (by kernel_rfl) ⟨⟨_,rfl,?_⟩,trivial⟩
      refine g' [0] ((S0 hx14).ok) rfl rfl rfl rfl rfl rfl (n' ?_)
      refine C0.step rfl (j0:=4) (js:=[]) (by kernel_rfl) ⟨⟨_,rfl,?_⟩,trivial⟩
      refine F0.be hC rfl (A0.rows_map [x14.1]).symm (n' ?_)
      refine C0.step rfl (j0:=5) (js:=[]) (by kernel_rfl) ⟨⟨_,rfl,?_⟩,trivial⟩
      refine F0.ap hC rfl (rs:=A0.rows (o2_Args++[x14.1])) (A0.app o2_Args [x14.1]) (A0.sz o2_Args) (A0.sz [x14.1]) (P1 (A0.len o2_Args) (A0.len [x14.1]) c11) (n' ?_)
      refine C0.step rfl (j0:=6) (js:=[]) (by kernel_rfl) ⟨⟨_,rfl,?_⟩,trivial⟩
      refine e' rfl ?_
      refine C0.step rfl (j0:=7) (js:=[]) (by kernel_rfl) ⟨⟨_,rfl,?_⟩,trivial⟩
      exact F0.s hC rfl (n' (C0.nil (by kernel_rfl) (lw' (ih0 _ _ _ hh) rfl rfl rfl)))
     ·refine g' [0] ((S0 hx14).ok) rfl rfl rfl rfl rfl rfl (n' ?_)
      refine C0.step rfl (j0:=1) (js:=[4]) (by kernel_rfl) ⟨⟨_,rfl,?_⟩,⟨_,rfl,?_⟩,trivial⟩
      ·refine e' rfl ?_
       refine C0.step rfl (j0:=4) (js:=[]) (by kernel_rfl) ⟨⟨_,rfl,?_⟩,trivial⟩
       refine F0.be hC rfl (A0.rows_map [x14.1]).symm (n' ?_)
       refine C0.step rfl (j0:=5) (js:=[]) (by kernel_rfl) ⟨⟨_,rfl,?_⟩,trivial⟩
       refine F0.ap hC rfl (rs:=A0.rows (o2_Args++[x14.1])) (A0.app o2_Args [x14.1]) (A0.sz o2_Args) (A0.sz [x14.1]) (P1 (A0.len o2_Args) (A0.len [x14.1]) c11) (n' ?_)
       refine C0.step rfl (j0:=6) (js:=[]) (by kernel_rfl) ⟨⟨_,rfl,?_⟩,trivial⟩
       refine e' rfl ?_
       refine C0.step rfl (j0:=7) (js:=[]) (by kernel_rfl) ⟨⟨_,rfl,?_⟩,trivial⟩
       exact F0.s hC rfl (n' (C0.nil (by kernel_rfl) (lw' (ih0 _ _ _ hh) rfl rfl rfl)))
      ·refine F0.be hC rfl (A0.rows_map [x14.1]).symm (n' ?_)
       refine C0.step rfl (j0:=1) (js:=[]) (by kernel_rfl) ⟨⟨_,rfl,?_⟩,trivial⟩
       refine e' rfl ?_
       refine C0.step rfl (j0:=5) (js:=[]) (by kernel_rfl) ⟨⟨_,rfl,?_⟩,trivial⟩
       refine F0.ap hC rfl (rs:=A0.rows (o2_Args++[x14.1])) (A0.app o2_Args [x14.1]) (A0.sz o2_Args) (A0.sz [x14.1]) (P1 (A0.len o2_Args) (A0.len [x14.1]) c11) (n' ?_)
       refine C0.step rfl (j0:=6) (js:=[]) (by kernel_rfl) ⟨⟨_,rfl,?_⟩,trivial⟩
       refine e' rfl ?_
       refine C0.step rfl (j0:=7) (js:=[]) (by kernel_rfl) ⟨⟨_,rfl,?_⟩,trivial⟩
       exact F0.s hC rfl (n' (C0.nil (by kernel_rfl) (lw' (ih0 _ _ _ hh) rfl rfl rfl)))
    ·refine g' [0] ((S0 hx14).ok) rfl rfl rfl rfl rfl rfl (n' ?_)
     refine C0.step rfl (j0:=0) (js:=[4]) (by kernel_rfl) ⟨⟨_,rfl,?_⟩,⟨_,rfl,?_⟩,trivial⟩
     ·refine e' rfl ?_
      refine C0.step rfl (j0:=1) (js:=[4]) (by kernel_rfl) ⟨⟨_,rfl,?_⟩,⟨_,rfl,?_⟩,trivial⟩
      ·refine e' rfl ?_
       refine C0.step rfl (j0:=4) (js:=[]) (by kernel_rfl) ⟨⟨_,rfl,?_⟩,trivial⟩
       refine F0.be hC rfl (A0.rows_map [x14.1]).symm (n' ?_)
       refine C0.step rfl (j0:=5) (js:=[]) (by kernel_rfl) ⟨⟨_,rfl,?_⟩,trivial⟩
       refine F0.ap hC rfl (rs:=A0.rows (o2_Args++[x14.1])) (A0.app o2_Args [x14.1]) (A0.sz o2_Args) (A0.sz [x14.1]) (P1 (A0.len o2_Args) (A0.len [x14.1]) c11) (n' ?_)
       refine C0.step rfl (j0:=6) (js:=[]) (by kernel_rfl) ⟨⟨_,rfl,?_⟩,trivial⟩
       refine e' rfl ?_
       refine C0.step rfl (j0:=7) (js:=[]) (by kernel_rfl) ⟨⟨_,rfl,?_⟩,trivial⟩
       exact F0.s hC rfl (n' (C0.nil (by kernel_rfl) (lw' (ih0 _ _ _ hh) rfl rfl rfl)))
      ·refine F0.be hC rfl (A0.rows_map [x14.1]).symm (n' ?_)
       refine C0.step rfl (j0:=1) (js:=[]) (by kernel_rfl) ⟨⟨_,rfl,?_⟩,trivial⟩
       refine e' rfl ?_
       refine C0.step rfl (j0:=5) (js:=[]) (by kernel_rfl) ⟨⟨_,rfl,?_⟩,trivial⟩
       refine F0.ap hC rfl (rs:=A0.rows (o2_Args++[x14.1])) (A0.app o2_Args [x14.1]) (A0.sz o2_Args) (A0.sz [x14.1]) (P1 (A0.len o2_Args) (A0.len [x14.1]) c11) (n' ?_)
       refine C0.step rfl (j0:=6) (js:=[]) (by kernel_rfl) ⟨⟨_,rfl,?_⟩,trivial⟩
       refine e' rfl ?_
       refine C0.step rfl (j0:=7) (js:=[]) (by kernel_rfl) ⟨⟨_,rfl,?_⟩,trivial⟩
       exact F0.s hC rfl (n' (C0.nil (by kernel_rfl) (lw' (ih0 _ _ _ hh) rfl rfl rfl)))
     ·refine F0.be hC rfl (A0.rows_map [x14.1]).symm (n' ?_)
      refine C0.step rfl (j0:=0) (js:=[]) (by kernel_rfl) ⟨⟨_,rfl,?_⟩,trivial⟩
      refine e' rfl ?_
      refine C0.step rfl (j0:=1) (js:=[]) (by kernel_rfl) ⟨⟨_,rfl,?_⟩,trivial⟩
      refine e' rfl ?_
      refine C0.step rfl (j0:=5) (js:=[]) (by kernel_rfl) ⟨⟨_,rfl,?_⟩,trivial⟩
      refine F0.ap hC rfl (rs:=A0.rows (o2_Args++[x14.1])) (A0.app o2_Args [x14.1]) (A0.sz o2_Args) (A0.sz [x14.1]) (P1 (A0.len o2_Args) (A0.len [x14.1]) c11) (n' ?_)
      refine C0.step rfl (j0:=6) (js:=[]) (by kernel_rfl) ⟨⟨_,rfl,?_⟩,trivial⟩
      refine e' rfl ?_
      refine C0.step rfl (j0:=7) (js:=[]) (by kernel_rfl) ⟨⟨_,rfl,?_⟩,trivial⟩
      exact F0.s hC rfl (n' (C0.nil (by kernel_rfl) (lw' (ih0 _ _ _ hh) rfl rfl rfl)))
  refine ex' (P' 1 rfl ?_)
  rcases bp' hh with ⟨nn,hx8,⟨⟩⟩ | ⟨x8,hx8,hh⟩
  ·exact gn' [0] (L0 hx8) rfl rfl rfl rfl rfl (fun hi=>peW ⟨trivial,trivial⟩ rfl hi)
  refine g' [0] ((L0 hx8).ok) rfl rfl rfl rfl rfl rfl (n' (p' 1 rfl ?_))
  rcases bp' hh with ⟨nn,hx9,⟨⟩⟩ | ⟨x9,hx9,hh⟩
  ·exact gn' [0] (L0 hx9) rfl rfl rfl rfl rfl (fun hi=>peW ⟨trivial,trivial⟩ rfl hi)
  refine g' [0] ((L0 hx9).ok) rfl rfl rfl rfl rfl rfl (n' (p' 1 rfl (F0.s hC rfl (n' (re' ?_)))))
  obtain rfl:=oi' hh
  exact ⟨_,.agg [.d (.int .i64 1),.d (.int .i64 x1.1.Op),.d (.int .i64 x1.1.NV),.d (.str x1.1.Name),.d (.sl (A0.rows x1.1.Kids)),.d (.int .i64 0),.d (.int .i64 0),.d (.str []),.d (.sl (A0.rows [])),.d (.str x4.1),.d (.sl (A0.rows o2_Args)),.d (.int .i64 0),.d (.int .i64 0),.d (.int .i64 0),.d (.sl (ei64.rows [])),.d (.sl (E0.rows [])),.d (.sl (E0.rows []))],[.row (B0.cells x9) 99],rfl,(.aggL ⟨.rfl,.rfl,.rfl,.rfl,.rfl,.rfl,.rfl,.rfl,.full,.rfl,.osl,.rfl,.rfl,.rfl,.full,.full,.full,trivial⟩),⟨⟨rfl,.refl _,rfl⟩,trivial⟩,rfl,rfl,rpq rfl rfl⟩
theorem Mm {o0 x1 x4 o2_Args res}(hh:K4 o0 x1 x4 o2_Args=some res):Zf o0 x1 x4 o2_Args res:=(Wl x1 x4) _ _ _ hh
def L9 (x7:A0×B0)(x1:A0×B0)(x4:Str×B0):Option (Pn (E0×B0)):=
 K4 x7.2 x1 x4 [x7.1]
theorem Q2 {x7 x1 x4 res}(hh:L9 x7 x1 x4=some res):JMp C 52 1 Tryz.f173 [1,1,1,0,4,1,2,1,1,0,1,2,1] [(0,.ref 0 0),(2,.ref 1 0),(3,.ref 2 0)] [.row (B0.cells x7.2) 99,.row [.d (.int .i64 0),.d (.int .i64 0),.d (.int .i64 0),.d (.str []),.full (A0.rows []),.d (.int .i64 0),.d (.int .i64 0),.d (.str []),.full (A0.rows []),.d (.str []),.full (A0.rows []),.d (.int .i64 0),.d (.int .i64 0),.d (.int .i64 0),.full (ei64.rows []),.full (E0.rows []),.full (E0.rows [])] 144,.row [.d (.int .i64 1),.d (.int .i64 x1.1.Op),.d (.int .i64 x1.1.NV),.d (.str x1.1.Name),.d (.sl (A0.rows x1.1.Kids)),.d (.int .i64 0),.d (.int .i64 0),.d (.str []),.full (A0.rows []),.d (.str x4.1),.osl 3 (A0.rows [x7.1]),.d (.int .i64 0),.d (.int .i64 0),.d (.int .i64 0),.full (ei64.rows []),.full (E0.rows []),.full (E0.rows [])] 144,.tok 26 4] (P4 res (fun rr=>[.row (B0.cells rr.2) 99]) (fun rr=>.agg (E0.cells rr.1))) (J4 res F3 [.dead]):=by
 unfold L9 at hh
 exact bk' (fw' (Mm hh) rfl rfl rfl)
def P8 (parserParser:B0):Option (Pn (E0×B0)):=
 I6 parserParser>>=fun x1=>match x1 with
 | .pn nn=>
 some (.pn nn)
 | .ok x1=>
 R0 [61] x1.2>>=fun x2=>match x2 with
 | .pn nn=>
 some (.pn nn)
 | .ok x2=>
 O0 [99,97,108,108] x2>>=fun x3=>
 if x3.1=true then
  T2 x3.2>>=fun x4=>match x4 with
  | .pn nn=>
  some (.pn nn)
  | .ok x4=>
  R0 [40] x4.2>>=fun x5=>match x5 with
  | .pn nn=>
  some (.pn nn)
  | .ok x5=>
  J8 [41] x5>>=fun x6=>
  if (!x6)=true then
   C1 x5>>=fun x7=>match x7 with
   | .pn nn=>
   some (.pn nn)
   | .ok x7=>
   if (decide ((0+1) * 57≤140737488355328))=true then
    L9 x7 x1 x4
   else none
  else
   R0 [41] x5>>=fun x8=>match x8 with
   | .pn nn=>
   some (.pn nn)
   | .ok x8=>
   R0 [59] x8>>=fun x9=>match x9 with
   | .pn nn=>
   some (.pn nn)
   | .ok x9=>
   some (.ok ((E0.mk 1 x1.1 (A0.mk 0 0 [] []) x4.1 [] 0 0 0 [] [] []),x9))
 else
  O0 [114,101,108,101,97,115,101] x3.2>>=fun x10=>
  if x10.1=true then
   T2 x10.2>>=fun x11=>match x11 with
   | .pn nn=>
   some (.pn nn)
   | .ok x11=>
   R0 [59] x11.2>>=fun x9=>match x9 with
   | .pn nn=>
   some (.pn nn)
   | .ok x9=>
   some (.ok ((E0.mk 2 x1.1 (A0.mk 0 0 [] []) x11.1 [] 0 0 0 [] [] []),x9))
  else
   C1 x10.2>>=fun x12=>match x12 with
   | .pn nn=>
   some (.pn nn)
   | .ok x12=>
   R0 [59] x12.2>>=fun x9=>match x9 with
   | .pn nn=>
   some (.pn nn)
   | .ok x9=>
   some (.ok ((E0.mk 0 x1.1 x12.1 [] [] 0 0 0 [] [] []),x9))
theorem Kh {parserParser res}(hh:P8 parserParser=some res):C2 C 173 [.ref 0 0] [.row (B0.cells parserParser) 99] (P4 res (fun rr=>[.row (B0.cells rr.2) 99]) (fun rr=>.agg (E0.cells rr.1))) (J4 res F3 [.dead]):=by
 unfold P8 at hh
 refine C2.intro hC Tryz.func173 rfl rfl rfl (s' rfl rfl (F0.nf hC rfl (n' (p' 1 rfl ?_))))
 rcases bp' hh with ⟨nn,hx1,⟨⟩⟩ | ⟨x1,hx1,hh⟩
 ·exact gn' [0] (Rk hx1) rfl rfl rfl rfl rfl (fun hi=>peW ⟨trivial,trivial⟩ rfl hi)
 refine g' [0] ((Rk hx1).ok) rfl rfl rfl rfl rfl rfl (F0.bz hC rfl (F0.nf hC rfl (F0.s hC rfl (n' (p' 1 rfl ?_)))))
 rcases bp' hh with ⟨nn,hx2,⟨⟩⟩ | ⟨x2,hx2,hh⟩
 ·exact gn' [0] (L0 hx2) rfl rfl rfl rfl rfl (fun hi=>peW ⟨trivial,trivial⟩ rfl hi)
 obtain ⟨x3,hx3,hh⟩:=bs' hh
 refine g' [0] ((L0 hx2).ok) rfl rfl rfl rfl rfl rfl (n' (S' (bk' (p' 1 rfl (g' [0] (P0 hx3) rfl rfl rfl rfl rfl rfl (e' rfl (ci' rfl hh (fun hh=>?_) (fun hh=>?_))))))))
 ·refine p' 1 rfl ?_
  rcases bp' hh with ⟨nn,hx4,⟨⟩⟩ | ⟨x4,hx4,hh⟩
  ·exact gn' [0] (Z0 hx4) rfl rfl rfl rfl rfl (fun hi=>peW ⟨trivial,trivial⟩ rfl hi)
  refine g' [0] ((Z0 hx4).ok) rfl rfl rfl rfl rfl rfl (q' rfl (F0.s hC rfl (q' rfl (F0.s hC rfl (n' (p' 1 rfl ?_))))))
  rcases bp' hh with ⟨nn,hx5,⟨⟩⟩ | ⟨x5,hx5,hh⟩
  ·exact gn' [0] (L0 hx5) rfl rfl rfl rfl rfl (fun hi=>peW ⟨trivial,trivial⟩ rfl hi)
  obtain ⟨x6,hx6,hh⟩:=bs' hh
  refine g' [0] ((L0 hx5).ok) rfl rfl rfl rfl rfl rfl (n' (S' (p' 1 rfl (g' [0] (Cn hx6) rfl rfl rfl rfl rfl rfl (e' rfl (ci' rfl hh (fun hh=>?_) (fun hh=>?_)))))))
  ·refine S' ?_
   rcases bp' hh with ⟨nn,hx7,⟨⟩⟩ | ⟨x7,hx7,hh⟩
   ·refine AEx.drawE hC ?_
    refine C0.step rfl (j0:=0) (js:=[2]) (by kernel_rfl) ⟨⟨_,rfl,?_⟩,⟨_,rfl,?_⟩,trivial⟩
    ·refine e' rfl ?_
     refine C0.step rfl (j0:=1) (js:=[2]) (by kernel_rfl) ⟨⟨_,rfl,?_⟩,⟨_,rfl,?_⟩,trivial⟩
     ·refine e' rfl ?_
      refine C0.step rfl (j0:=2) (js:=[]) (by kernel_rfl) ⟨⟨_,rfl,?_⟩,trivial⟩
      refine e' rfl ?_
      refine C0.step rfl (j0:=3) (js:=[]) (by kernel_rfl) ⟨⟨_,rfl,?_⟩,trivial⟩
      exact gn' [0] (S0 hx7) rfl rfl rfl rfl rfl (fun hi=>peW ⟨trivial,trivial⟩ rfl hi)
     ·refine e' rfl ?_
      refine C0.step rfl (j0:=1) (js:=[3]) (by kernel_rfl) ⟨⟨_,rfl,?_⟩,⟨_,rfl,?_⟩,trivial⟩
      ·refine e' rfl ?_
       refine C0.step rfl (j0:=3) (js:=[]) (by kernel_rfl) ⟨⟨_,rfl,?_⟩,trivial⟩
       exact gn' [0] (S0 hx7) rfl rfl rfl rfl rfl (fun hi=>peW ⟨trivial,trivial⟩ rfl hi)
      ·exact gn' [0] (S0 hx7) rfl rfl rfl rfl rfl (fun hi=>peW ⟨trivial,trivial⟩ rfl hi)
    ·refine e' rfl ?_
     refine C0.step rfl (j0:=0) (js:=[3]) (by kernel_rfl) ⟨⟨_,rfl,?_⟩,⟨_,rfl,?_⟩,trivial⟩
     ·refine e' rfl ?_
      refine C0.step rfl (j0:=1) (js:=[3]) (by kernel_rfl) ⟨⟨_,rfl,?_⟩,⟨_,rfl,?_⟩,trivial⟩
      ·refine e' rfl ?_
       refine C0.step rfl (j0:=3) (js:=[]) (by kernel_rfl) ⟨⟨_,rfl,?_⟩,trivial⟩
       exact gn' [0] (S0 hx7) rfl rfl rfl rfl rfl (fun hi=>peW ⟨trivial,trivial⟩ rfl hi)
      ·exact gn' [0] (S0 hx7) rfl rfl rfl rfl rfl (fun hi=>peW ⟨trivial,trivial⟩ rfl hi)
     ·exact gn' [0] (S0 hx7) rfl rfl rfl rfl rfl (fun hi=>peW ⟨trivial,trivial⟩ rfl hi)
   obtain ⟨c10,hh⟩:=I4 hh
   refine AEx.drawE hC ?_
   refine C0.step rfl (j0:=0) (js:=[2]) (by kernel_rfl) ⟨⟨_,rfl,?_⟩,⟨_,rfl,?_⟩,trivial⟩
   ·refine e' rfl ?_
    refine C0.step rfl (j0:=1) (js:=[2]) (by kernel_rfl) ⟨⟨_,rfl,?_⟩,⟨_,rfl,?_⟩,trivial⟩
    ·refine e' rfl ?_
     refine C0.step rfl (j0:=2) (js:=[]) (by kernel_rfl) ⟨⟨_,rfl,?_⟩,trivial⟩
     refine e' rfl ?_
     refine C0.step rfl (j0:=3) (js:=[]) (by kernel_rfl) ⟨⟨_,rfl,?_⟩,trivial⟩
     refine g' [0] ((S0 hx7).ok) rfl rfl rfl rfl rfl rfl (n' ?_)
     refine C0.step rfl (j0:=4) (js:=[]) (by kernel_rfl) ⟨⟨_,rfl,?_⟩,trivial⟩
     refine F0.be hC rfl (A0.rows_map [x7.1]).symm (n' ?_)
     refine C0.step rfl (j0:=5) (js:=[]) (by kernel_rfl) ⟨⟨_,rfl,?_⟩,trivial⟩
     refine F0.ap hC rfl (rs:=A0.rows [x7.1]) rfl (A0.sz []) (A0.sz [x7.1]) (P1 (A0.len []) (A0.len [x7.1]) c10) (n' ?_)
     refine C0.step rfl (j0:=6) (js:=[]) (by kernel_rfl) ⟨⟨_,rfl,?_⟩,trivial⟩
     refine e' rfl ?_
     refine C0.step rfl (j0:=7) (js:=[]) (by kernel_rfl) ⟨⟨_,rfl,?_⟩,trivial⟩
     exact F0.s hC rfl (n' (C0.nil (by kernel_rfl) (ew' (Q2 hh) rfl rfl rfl)))
    ·refine e' rfl ?_
     refine C0.step rfl (j0:=1) (js:=[3]) (by kernel_rfl) ⟨⟨_,rfl,?_⟩,⟨_,rfl,?_⟩,trivial⟩
     ·refine e' rfl ?_
      refine C0.step rfl (j0:=3) (js:=[]) (by kernel_rfl) ⟨⟨_,rfl,?_⟩,trivial⟩
      refine g' [0] ((S0 hx7).ok) rfl rfl rfl rfl rfl rfl (n' ?_)
      refine C0.step rfl (j0:=4) (js:=[]) (by kernel_rfl) ⟨⟨_,rfl,?_⟩,trivial⟩
      refine F0.be hC rfl (A0.rows_map [x7.1]).symm (n' ?_)
      refine C0.step rfl (j0:=5) (js:=[]) (by kernel_rfl) ⟨⟨_,rfl,?_⟩,trivial⟩
      refine F0.ap hC rfl (rs:=A0.rows [x7.1]) rfl (A0.sz []) (A0.sz [x7.1]) (P1 (A0.len []) (A0.len [x7.1]) c10) (n' ?_)
      refine C0.step rfl (j0:=6) (js:=[]) (by kernel_rfl) ⟨⟨_,rfl,?_⟩,trivial⟩
      refine e' rfl ?_
      refine C0.step rfl (j0:=7) (js:=[]) (by kernel_rfl) ⟨⟨_,rfl,?_⟩,trivial⟩
      exact F0.s hC rfl (n' (C0.nil (by kernel_rfl) (ew' (Q2 hh) rfl rfl rfl)))
     ·refine g' [0] ((S0 hx7).ok) rfl rfl rfl rfl rfl rfl (n' ?_)
      refine C0.step rfl (j0:=1) (js:=[4]) (by kernel_rfl) ⟨⟨_,rfl,?_⟩,⟨_,rfl,?_⟩,trivial⟩
      ·refine e' rfl ?_
       refine C0.step rfl (j0:=4) (js:=[]) (by kernel_rfl) ⟨⟨_,rfl,?_⟩,trivial⟩
       refine F0.be hC rfl (A0.rows_map [x7.1]).symm (n' ?_)
       refine C0.step rfl (j0:=5) (js:=[]) (by kernel_rfl) ⟨⟨_,rfl,?_⟩,trivial⟩
       refine F0.ap hC rfl (rs:=A0.rows [x7.1]) rfl (A0.sz []) (A0.sz [x7.1]) (P1 (A0.len []) (A0.len [x7.1]) c10) (n' ?_)
       refine C0.step rfl (j0:=6) (js:=[]) (by kernel_rfl) ⟨⟨_,rfl,?_⟩,trivial⟩
       refine e' rfl ?_
       refine C0.step rfl (j0:=7) (js:=[]) (by kernel_rfl) ⟨⟨_,rfl,?_⟩,trivial⟩
       exact F0.s hC rfl (n' (C0.nil (by kernel_rfl) (ew' (Q2 hh) rfl rfl rfl)))
      ·refine F0.be hC rfl (A0.rows_map [x7.1]).symm (n' ?_)
       refine C0.step rfl (j0:=1) (js:=[]) (by kernel_rfl) ⟨⟨_,rfl,?_⟩,trivial⟩
       refine e' rfl ?_
       refine C0.step rfl (j0:=5) (js:=[]) (by kernel_rfl) ⟨⟨_,rfl,?_⟩,trivial⟩
       refine F0.ap hC rfl (rs:=A0.rows [x7.1]) rfl (A0.sz []) (A0.sz [x7.1]) (P1 (A0.len []) (A0.len [x7.1]) c10) (n' ?_)
       refine C0.step rfl (j0:=6) (js:=[]) (by kernel_rfl) ⟨⟨_,rfl,?_⟩,trivial⟩
       refine e' rfl ?_
       refine C0.step rfl (j0:=7) (js:=[]) (by kernel_rfl) ⟨⟨_,rfl,?_⟩,trivial⟩
       exact F0.s hC rfl (n' (C0.nil (by kernel_rfl) (ew' (Q2 hh) rfl rfl rfl)))
   ·refine e' rfl ?_
    refine C0.step rfl (j0:=0) (js:=[3]) (by kernel_rfl) ⟨⟨_,rfl,?_⟩,⟨_,rfl,?_⟩,trivial⟩
    ·refine e' rfl ?_
     refine C0.step rfl (j0:=1) (js:=[3]) (by kernel_rfl) ⟨⟨_,rfl,?_⟩,⟨_,rfl,?_⟩,trivial⟩
     ·refine e' rfl ?_
      refine C0.step rfl (j0:=3) (js:=[]) (by kernel_rfl) ⟨⟨_,rfl,?_⟩,trivial⟩
      refine g' [0] ((S0 hx7).ok) rfl rfl rfl rfl rfl rfl (n' ?_)
      refine C0.step rfl (j0:=4) (js:=[]) (by kernel_rfl) ⟨⟨_,rfl,?_⟩,trivial⟩
      refine F0.be hC rfl (A0.rows_map [x7.1]).symm (n' ?_)
      refine C0.step rfl (j0:=5) (js:=[]) (by kernel_rfl) ⟨⟨_,rfl,?_⟩,trivial⟩
      refine F0.ap hC rfl (rs:=A0.rows [x7.1]) rfl (A0.sz []) (A0.sz [x7.1]) (P1 (A0.len []) (A0.len [x7.1]) c10) (n' ?_)
      refine C0.step rfl (j0:=6) (js:=[]) (by kernel_rfl) ⟨⟨_,rfl,?_⟩,trivial⟩
      refine e' rfl ?_
      refine C0.step rfl (j0:=7) (js:=[]) (by kernel_rfl) ⟨⟨_,rfl,?_⟩,trivial⟩
      exact F0.s hC rfl (n' (C0.nil (by kernel_rfl) (ew' (Q2 hh) rfl rfl rfl)))
     ·refine g' [0] ((S0 hx7).ok) rfl rfl rfl rfl rfl rfl (n' ?_)
      refine C0.step rfl (j0:=1) (js:=[4]) (by kernel_rfl) ⟨⟨_,rfl,?_⟩,⟨_,rfl,?_⟩,trivial⟩
      ·refine e' rfl ?_
       refine C0.step rfl (j0:=4) (js:=[]) (by kernel_rfl) ⟨⟨_,rfl,?_⟩,trivial⟩
       refine F0.be hC rfl (A0.rows_map [x7.1]).symm (n' ?_)
       refine C0.step rfl (j0:=5) (js:=[]) (by kernel_rfl) ⟨⟨_,rfl,?_⟩,trivial⟩
       refine F0.ap hC rfl (rs:=A0.rows [x7.1]) rfl (A0.sz []) (A0.sz [x7.1]) (P1 (A0.len []) (A0.len [x7.1]) c10) (n' ?_)
       refine C0.step rfl (j0:=6) (js:=[]) (by kernel_rfl) ⟨⟨_,rfl,?_⟩,trivial⟩
       refine e' rfl ?_
       refine C0.step rfl (j0:=7) (js:=[]) (by kernel_rfl) ⟨⟨_,rfl,?_⟩,trivial⟩
       exact F0.s hC rfl (n' (C0.nil (by kernel_rfl) (ew' (Q2 hh) rfl rfl rfl)))
      ·refine F0.be hC rfl (A0.rows_map [x7.1]).symm (n' ?_)
       refine C0.step rfl (j0:=1) (js:=[]) (by kernel_rfl) ⟨⟨_,rfl,?_⟩,trivial⟩
       refine e' rfl ?_
       refine C0.step rfl (j0:=5) (js:=[]) (by kernel_rfl) ⟨⟨_,rfl,?_⟩,trivial⟩
       refine F0.ap hC rfl (rs:=A0.rows [x7.1]) rfl (A0.sz []) (A0.sz [x7.1]) (P1 (A0.len []) (A0.len [x7.1]) c10) (n' ?_)
       refine C0.step rfl (j0:=6) (js:=[]) (by kernel_rfl) ⟨⟨_,rfl,?_⟩,trivial⟩
       refine e' rfl ?_
       refine C0.step rfl (j0:=7) (js:=[]) (by kernel_rfl) ⟨⟨_,rfl,?_⟩,trivial⟩
       exact F0.s hC rfl (n' (C0.nil (by kernel_rfl) (ew' (Q2 hh) rfl rfl rfl)))
    ·refine g' [0] ((S0 hx7).ok) rfl rfl rfl rfl rfl rfl (n' ?_)
     refine C0.step rfl (j0:=0) (js:=[4]) (by kernel_rfl) ⟨⟨_,rfl,?_⟩,⟨_,rfl,?_⟩,trivial⟩
     ·refine e' rfl ?_
      refine C0.step rfl (j0:=1) (js:=[4]) (by kernel_rfl) ⟨⟨_,rfl,?_⟩,⟨_,rfl,?_⟩,trivial⟩
      ·refine e' rfl ?_
       refine C0.step rfl (j0:=4) (js:=[]) (by kernel_rfl) ⟨⟨_,rfl,?_⟩,trivial⟩
       refine F0.be hC rfl (A0.rows_map [x7.1]).symm (n' ?_)
       refine C0.step rfl (j0:=5) (js:=[]) (by kernel_rfl) ⟨⟨_,rfl,?_⟩,trivial⟩
       refine F0.ap hC rfl (rs:=A0.rows [x7.1]) rfl (A0.sz []) (A0.sz [x7.1]) (P1 (A0.len []) (A0.len [x7.1]) c10) (n' ?_)
       refine C0.step rfl (j0:=6) (js:=[]) (by kernel_rfl) ⟨⟨_,rfl,?_⟩,trivial⟩
       refine e' rfl ?_
       refine C0.step rfl (j0:=7) (js:=[]) (by kernel_rfl) ⟨⟨_,rfl,?_⟩,trivial⟩
       exact F0.s hC rfl (n' (C0.nil (by kernel_rfl) (ew' (Q2 hh) rfl rfl rfl)))
      ·refine F0.be hC rfl (A0.rows_map [x7.1]).symm (n' ?_)
       refine C0.step rfl (j0:=1) (js:=[]) (by kernel_rfl) ⟨⟨_,rfl,?_⟩,trivial⟩
       refine e' rfl ?_
       refine C0.step rfl (j0:=5) (js:=[]) (by kernel_rfl) ⟨⟨_,rfl,?_⟩,trivial⟩
       refine F0.ap hC rfl (rs:=A0.rows [x7.1]) rfl (A0.sz []) (A0.sz [x7.1]) (P1 (A0.len []) (A0.len [x7.1]) c10) (n' ?_)
       refine C0.step rfl (j0:=6) (js:=[]) (by kernel_rfl) ⟨⟨_,rfl,?_⟩,trivial⟩
       refine e' rfl ?_
       refine C0.step rfl (j0:=7) (js:=[]) (by kernel_rfl) ⟨⟨_,rfl,?_⟩,trivial⟩
       exact F0.s hC rfl (n' (C0.nil (by kernel_rfl) (ew' (Q2 hh) rfl rfl rfl)))
     ·refine F0.be hC rfl (A0.rows_map [x7.1]).symm (n' ?_)
      refine C0.step rfl (j0:=0) (js:=[]) (by kernel_rfl) ⟨⟨_,rfl,?_⟩,trivial⟩
      refine e' rfl ?_
      refine C0.step rfl (j0:=1) (js:=[]) (by kernel_rfl) ⟨⟨_,rfl,?_⟩,trivial⟩
      refine e' rfl ?_
      refine C0.step rfl (j0:=5) (js:=[]) (by kernel_rfl) ⟨⟨_,rfl,?_⟩,trivial⟩
      refine F0.ap hC rfl (rs:=A0.rows [x7.1]) rfl (A0.sz []) (A0.sz [x7.1]) (P1 (A0.len []) (A0.len [x7.1]) c10) (n' ?_)
      refine C0.step rfl (j0:=6) (js:=[]) (by kernel_rfl) ⟨⟨_,rfl,?_⟩,trivial⟩
      refine e' rfl ?_
      refine C0.step rfl (j0:=7) (js:=[]) (by kernel_rfl) ⟨⟨_,rfl,?_⟩,trivial⟩
      exact F0.s hC rfl (n' (C0.nil (by kernel_rfl) (ew' (Q2 hh) rfl rfl rfl)))
  refine sk' (P' 1 rfl ?_)
  rcases bp' hh with ⟨nn,hx8,⟨⟩⟩ | ⟨x8,hx8,hh⟩
  ·exact gn' [0] (L0 hx8) rfl rfl rfl rfl rfl (fun hi=>peW ⟨trivial,trivial⟩ rfl hi)
  refine g' [0] ((L0 hx8).ok) rfl rfl rfl rfl rfl rfl (n' (p' 1 rfl ?_))
  rcases bp' hh with ⟨nn,hx9,⟨⟩⟩ | ⟨x9,hx9,hh⟩
  ·exact gn' [0] (L0 hx9) rfl rfl rfl rfl rfl (fun hi=>peW ⟨trivial,trivial⟩ rfl hi)
  refine g' [0] ((L0 hx9).ok) rfl rfl rfl rfl rfl rfl (n' (p' 1 rfl (F0.s hC rfl (n' (re' ?_)))))
  obtain rfl:=oi' hh
  exact ⟨_,.agg [.d (.int .i64 1),.d (.int .i64 x1.1.Op),.d (.int .i64 x1.1.NV),.d (.str x1.1.Name),.d (.sl (A0.rows x1.1.Kids)),.d (.int .i64 0),.d (.int .i64 0),.d (.str []),.d (.sl (A0.rows [])),.d (.str x4.1),.d (.sl (A0.rows [])),.d (.int .i64 0),.d (.int .i64 0),.d (.int .i64 0),.d (.sl (ei64.rows [])),.d (.sl (E0.rows [])),.d (.sl (E0.rows []))],[.row (B0.cells x9) 99],rfl,(.aggL ⟨.rfl,.rfl,.rfl,.rfl,.rfl,.rfl,.rfl,.rfl,.full,.rfl,.full,.rfl,.rfl,.rfl,.full,.full,.full,trivial⟩),⟨⟨rfl,.refl _,rfl⟩,trivial⟩,rfl,rfl,rpq rfl rfl⟩
 obtain ⟨x10,hx10,hh⟩:=bs' hh
 refine p' 1 rfl (g' [0] (P0 hx10) rfl rfl rfl rfl rfl rfl (e' rfl (ci' rfl hh (fun hh=>?_) (fun hh=>?_))))
 ·refine P' 1 rfl ?_
  rcases bp' hh with ⟨nn,hx11,⟨⟩⟩ | ⟨x11,hx11,hh⟩
  ·exact gn' [0] (Z0 hx11) rfl rfl rfl rfl rfl (fun hi=>peW ⟨trivial,trivial⟩ rfl hi)
  refine g' [0] ((Z0 hx11).ok) rfl rfl rfl rfl rfl rfl (q' rfl (F0.s hC rfl (q' rfl (F0.s hC rfl (n' (p' 1 rfl ?_))))))
  rcases bp' hh with ⟨nn,hx9,⟨⟩⟩ | ⟨x9,hx9,hh⟩
  ·exact gn' [0] (L0 hx9) rfl rfl rfl rfl rfl (fun hi=>peW ⟨trivial,trivial⟩ rfl hi)
  refine g' [0] ((L0 hx9).ok) rfl rfl rfl rfl rfl rfl (n' (p' 1 rfl (F0.s hC rfl (n' (re' ?_)))))
  obtain rfl:=oi' hh
  exact ⟨_,.agg [.d (.int .i64 2),.d (.int .i64 x1.1.Op),.d (.int .i64 x1.1.NV),.d (.str x1.1.Name),.d (.sl (A0.rows x1.1.Kids)),.d (.int .i64 0),.d (.int .i64 0),.d (.str []),.d (.sl (A0.rows [])),.d (.str x11.1),.d (.sl (A0.rows [])),.d (.int .i64 0),.d (.int .i64 0),.d (.int .i64 0),.d (.sl (ei64.rows [])),.d (.sl (E0.rows [])),.d (.sl (E0.rows []))],[.row (B0.cells x9) 99],rfl,(.aggL ⟨.rfl,.rfl,.rfl,.rfl,.rfl,.rfl,.rfl,.rfl,.full,.rfl,.full,.rfl,.rfl,.rfl,.full,.full,.full,trivial⟩),⟨⟨rfl,.refl _,rfl⟩,trivial⟩,rfl,rfl,rpq rfl rfl⟩
 refine P' 1 rfl ?_
 rcases bp' hh with ⟨nn,hx12,⟨⟩⟩ | ⟨x12,hx12,hh⟩
 ·exact gn' [0] (S0 hx12) rfl rfl rfl rfl rfl (fun hi=>peW ⟨trivial,trivial⟩ rfl hi)
 refine g' [0] ((S0 hx12).ok) rfl rfl rfl rfl rfl rfl (q' rfl (F0.s hC rfl (n' (p' 1 rfl ?_))))
 rcases bp' hh with ⟨nn,hx9,⟨⟩⟩ | ⟨x9,hx9,hh⟩
 ·exact gn' [0] (L0 hx9) rfl rfl rfl rfl rfl (fun hi=>peW ⟨trivial,trivial⟩ rfl hi)
 refine g' [0] ((L0 hx9).ok) rfl rfl rfl rfl rfl rfl (n' (p' 1 rfl (F0.s hC rfl (n' (re' ?_)))))
 obtain rfl:=oi' hh
 exact ⟨_,.agg [.d (.int .i64 0),.d (.int .i64 x1.1.Op),.d (.int .i64 x1.1.NV),.d (.str x1.1.Name),.d (.sl (A0.rows x1.1.Kids)),.d (.int .i64 x12.1.Op),.d (.int .i64 x12.1.NV),.d (.str x12.1.Name),.d (.sl (A0.rows x12.1.Kids)),.d (.str []),.d (.sl (A0.rows [])),.d (.int .i64 0),.d (.int .i64 0),.d (.int .i64 0),.d (.sl (ei64.rows [])),.d (.sl (E0.rows [])),.d (.sl (E0.rows []))],[.row (B0.cells x9) 99],rfl,(.aggL ⟨.rfl,.rfl,.rfl,.rfl,.rfl,.rfl,.rfl,.rfl,.rfl,.rfl,.full,.rfl,.rfl,.rfl,.full,.full,.full,trivial⟩),⟨⟨rfl,.refl _,rfl⟩,trivial⟩,rfl,rfl,rpq rfl rfl⟩
end Go.Proofs.YtmnhfbekncjnfaaGreatDoor

set_option maxRecDepth 100000
set_option maxHeartbeats 4000000
set_option synthInstance.maxSize 20000
set_option linter.unusedVariables false
namespace Go.Proofs.YtmnhfbekncjnfaaGreatDoor
open Go.Am
def W4 (o0:B0)(o2_Numbers:List Int):Option (Pn (E0×Bool×B0)):=
 O0 [44] o0>>=fun x23=>
 if x23.1=true then
  R2 x23.2>>=fun x24=>match x24 with
  | .pn nn=>
  some (.pn nn)
  | .ok x24=>
  if (decide ((o2_Numbers.length+1) * 9≤140737488355328))=true then
   W4 x24.2 (o2_Numbers++[x24.1])
  else none
 else
  R0 [59] x23.2>>=fun x25=>match x25 with
  | .pn nn=>
  some (.pn nn)
  | .ok x25=>
  some (.ok ((E0.mk 8 (A0.mk 0 0 [] []) (A0.mk 0 0 [] []) [] [] 0 0 0 o2_Numbers [] []),true,x25))
 partial_fixpoint
abbrev Qg (o0:B0)(o2_Numbers:List Int)(res:Pn (E0×Bool×B0)):Prop:=LMp C 93 1 Tryz.f142 [1,1,0,4,1,3,1,3,1,3,1,2,1,0,4] [(0,.ref 0 0),(2,.ref 1 0),(4,.ref 2 0)] [.row (B0.cells o0) 99,.row [.d (.int .i64 0),.d (.int .i64 0),.d (.int .i64 0),.d (.str []),.full (A0.rows []),.d (.int .i64 0),.d (.int .i64 0),.d (.str []),.full (A0.rows []),.d (.str []),.full (A0.rows []),.d (.int .i64 0),.d (.int .i64 0),.d (.int .i64 0),.full (ei64.rows []),.full (E0.rows []),.full (E0.rows [])] 144,.row [.d (.int .i64 8),.d (.int .i64 0),.d (.int .i64 0),.d (.str []),.d (.sl (A0.rows [])),.d (.int .i64 0),.d (.int .i64 0),.d (.str []),.d (.sl (A0.rows [])),.d (.str []),.d (.sl (A0.rows [])),.d (.int .i64 0),.d (.int .i64 0),.d (.int .i64 0),.osl 3 (ei64.rows o2_Numbers),.d (.sl (E0.rows [])),.d (.sl (E0.rows []))] 144,.tok 3 1] (P4 res (fun rr=>[.row (B0.cells rr.2.2) 99]) (fun rr=>.tup [.agg (E0.cells rr.1),.d (.bool rr.2.1)])) (J4 res F3 [.dead])
theorem Nm:(∀ o0 o2_Numbers res,W4 o0 o2_Numbers=some res→Qg o0 o2_Numbers res):=by
 refine W4.partial_correctness _ ?_
 ·intro g0 ih0 o0 o2_Numbers res hh
  obtain ⟨x23,hx23,hh⟩:=bs' hh
  refine A1.unroll (S' (p' 1 rfl (g' [0] (P0 hx23) rfl rfl rfl rfl rfl rfl (n' (ci' rfl hh (fun hh=>?_) (fun hh=>?_))))))
  ·refine sk' (bk' ?_)
   rcases bp' hh with ⟨nn,hx24,⟨⟩⟩ | ⟨x24,hx24,hh⟩
   ·refine AEx.drawE hC ?_
    refine C0.step rfl (j0:=0) (js:=[2]) (by kernel_rfl) ⟨⟨_,rfl,?_⟩,⟨_,rfl,?_⟩,trivial⟩
    ·refine e' rfl ?_
     refine C0.step rfl (j0:=1) (js:=[2]) (by kernel_rfl) ⟨⟨_,rfl,?_⟩,⟨_,rfl,?_⟩,trivial⟩
     ·refine e' rfl ?_
      refine C0.step rfl (j0:=2) (js:=[]) (by kernel_rfl) ⟨⟨_,rfl,?_⟩,trivial⟩
      refine e' rfl ?_
      refine C0.step rfl (j0:=3) (js:=[]) (by kernel_rfl) ⟨⟨_,rfl,?_⟩,trivial⟩
      exact gn' [0] (X0 hx24) rfl rfl rfl rfl rfl (fun hi=>peW ⟨trivial,trivial⟩ rfl hi)
     ·refine e' rfl ?_
      refine C0.step rfl (j0:=1) (js:=[3]) (by kernel_rfl) ⟨⟨_,rfl,?_⟩,⟨_,rfl,?_⟩,trivial⟩
      ·refine e' rfl ?_
       refine C0.step rfl (j0:=3) (js:=[]) (by kernel_rfl) ⟨⟨_,rfl,?_⟩,trivial⟩
       exact gn' [0] (X0 hx24) rfl rfl rfl rfl rfl (fun hi=>peW ⟨trivial,trivial⟩ rfl hi)
      ·exact gn' [0] (X0 hx24) rfl rfl rfl rfl rfl (fun hi=>peW ⟨trivial,trivial⟩ rfl hi)
    ·refine e' rfl ?_
     refine C0.step rfl (j0:=0) (js:=[3]) (by kernel_rfl) ⟨⟨_,rfl,?_⟩,⟨_,rfl,?_⟩,trivial⟩
     ·refine e' rfl ?_
      refine C0.step rfl (j0:=1) (js:=[3]) (by kernel_rfl) ⟨⟨_,rfl,?_⟩,⟨_,rfl,?_⟩,trivial⟩
      ·refine e' rfl ?_
       refine C0.step rfl (j0:=3) (js:=[]) (by kernel_rfl) ⟨⟨_,rfl,?_⟩,trivial⟩
       exact gn' [0] (X0 hx24) rfl rfl rfl rfl rfl (fun hi=>peW ⟨trivial,trivial⟩ rfl hi)
      ·exact gn' [0] (X0 hx24) rfl rfl rfl rfl rfl (fun hi=>peW ⟨trivial,trivial⟩ rfl hi)
     ·exact gn' [0] (X0 hx24) rfl rfl rfl rfl rfl (fun hi=>peW ⟨trivial,trivial⟩ rfl hi)
   obtain ⟨c6,hh⟩:=I4 hh
   refine AEx.drawE hC ?_
   refine C0.step rfl (j0:=0) (js:=[2]) (by kernel_rfl) ⟨⟨_,rfl,?_⟩,⟨_,rfl,?_⟩,trivial⟩
   ·refine e' rfl ?_
    refine C0.step rfl (j0:=1) (js:=[2]) (by kernel_rfl) ⟨⟨_,rfl,?_⟩,⟨_,rfl,?_⟩,trivial⟩
    ·refine e' rfl ?_
     refine C0.step rfl (j0:=2) (js:=[]) (by kernel_rfl) ⟨⟨_,rfl,?_⟩,trivial⟩
     refine e' rfl ?_
     refine C0.step rfl (j0:=3) (js:=[]) (by kernel_rfl) ⟨⟨_,rfl,?_⟩,trivial⟩
     refine g' [0] ((X0 hx24).ok) rfl rfl rfl rfl rfl rfl (n' ?_)
     refine C0.step rfl (j0:=4) (js:=[]) (by kernel_rfl) ⟨⟨_,rfl,?_⟩,trivial⟩
     refine F0.be hC rfl (ei64.rows_map [x24.1]).symm (n' ?_)
     refine C0.step rfl (j0:=5) (js:=[]) (by kernel_rfl) ⟨⟨_,rfl,?_⟩,trivial⟩
     refine F0.ap hC rfl (rs:=ei64.rows (o2_Numbers++[x24.1])) (ei64.app o2_Numbers [x24.1]) (ei64.sz o2_Numbers) (ei64.sz [x24.1]) (P1 (ei64.len o2_Numbers) (ei64.len [x24.1]) c6) (n' ?_)
     refine C0.step rfl (j0:=6) (js:=[]) (by kernel_rfl) ⟨⟨_,rfl,?_⟩,trivial⟩
     refine e' rfl ?_
     refine C0.step rfl (j0:=7) (js:=[]) (by kernel_rfl) ⟨⟨_,rfl,?_⟩,trivial⟩
     exact F0.s hC rfl (n' (C0.nil (by kernel_rfl) (lw' (ih0 _ _ _ hh) rfl rfl rfl)))
    ·refine e' rfl ?_
     refine C0.step rfl (j0:=1) (js:=[3]) (by kernel_rfl) ⟨⟨_,rfl,?_⟩,⟨_,rfl,?_⟩,trivial⟩
     ·refine e' rfl ?_
      refine C0.step rfl (j0:=3) (js:=[]) (by kernel_rfl) ⟨⟨_,rfl,?_⟩,trivial⟩
      refine g' [0] ((X0 hx24).ok) rfl rfl rfl rfl rfl rfl (n' ?_)
      refine C0.step rfl (j0:=4) (js:=[]) (by kernel_rfl) ⟨⟨_,rfl,?_⟩,trivial⟩
      refine F0.be hC rfl (ei64.rows_map [x24.1]).symm (n' ?_)
      refine C0.step rfl (j0:=5) (js:=[]) (by kernel_rfl) ⟨⟨_,rfl,?_⟩,trivial⟩
      refine F0.ap hC rfl (rs:=ei64.rows (o2_Numbers++[x24.1])) (ei64.app o2_Numbers [x24.1]) (ei64.sz o2_Numbers) (ei64.sz [x24.1]) (P1 (ei64.len o2_Numbers) (ei64.len [x24.1]) c6) (n' ?_)
      refine C0.step rfl (j0:=6) (js:=[]) (by kernel_rfl) ⟨⟨_,rfl,?_⟩,trivial⟩
      refine e' rfl ?_
      refine C0.step rfl (j0:=7) (js:=[]) (by kernel_rfl) ⟨⟨_,rfl,?_⟩,trivial⟩
      exact F0.s hC rfl (n' (C0.nil (by kernel_rfl) (lw' (ih0 _ _ _ hh) rfl rfl rfl)))
     ·refine g' [0] ((X0 hx24).ok) rfl rfl rfl rfl rfl rfl (n' ?_)
      refine C0.step rfl (j0:=1) (js:=[4]) (by kernel_rfl) ⟨⟨_,rfl,?_⟩,⟨_,rfl,?_⟩,trivial⟩
      ·refine e' rfl ?_
       refine C0.step rfl (j0:=4) (js:=[]) (by kernel_rfl) ⟨⟨_,rfl,?_⟩,trivial⟩
       refine F0.be hC rfl (ei64.rows_map [x24.1]).symm (n' ?_)
       refine C0.step rfl (j0:=5) (js:=[]) (by kernel_rfl) ⟨⟨_,rfl,?_⟩,trivial⟩
       refine F0.ap hC rfl (rs:=ei64.rows (o2_Numbers++[x24.1])) (ei64.app o2_Numbers [x24.1]) (ei64.sz o2_Numbers) (ei64.sz [x24.1]) (P1 (ei64.len o2_Numbers) (ei64.len [x24.1]) c6) (n' ?_)
       refine C0.step rfl (j0:=6) (js:=[]) (by kernel_rfl) ⟨⟨_,rfl,?_⟩,trivial⟩
       refine e' rfl ?_
       refine C0.step rfl (j0:=7) (js:=[]) (by kernel_rfl) ⟨⟨_,rfl,?_⟩,trivial⟩
       exact F0.s hC rfl (n' (C0.nil (by kernel_rfl) (lw' (ih0 _ _ _ hh) rfl rfl rfl)))
      ·refine F0.be hC rfl (ei64.rows_map [x24.1]).symm (n' ?_)
       refine C0.step rfl (j0:=1) (js:=[]) (by kernel_rfl) ⟨⟨_,rfl,?_⟩,trivial⟩
       refine e' rfl ?_
       refine C0.step rfl (j0:=5) (js:=[]) (by kernel_rfl) ⟨⟨_,rfl,?_⟩,trivial⟩
       refine F0.ap hC rfl (rs:=ei64.rows (o2_Numbers++[x24.1])) (ei64.app o2_Numbers [x24.1]) (ei64.sz o2_Numbers) (ei64.sz [x24.1]) (P1 (ei64.len o2_Numbers) (ei64.len [x24.1]) c6) (n' ?_)
       refine C0.step rfl (j0:=6) (js:=[]) (by kernel_rfl) ⟨⟨_,rfl,?_⟩,trivial⟩
       refine e' rfl ?_
       refine C0.step rfl (j0:=7) (js:=[]) (by kernel_rfl) ⟨⟨_,rfl,?_⟩,trivial⟩
       exact F0.s hC rfl (n' (C0.nil (by kernel_rfl) (lw' (ih0 _ _ _ hh) rfl rfl rfl)))
   ·refine e' rfl ?_
    refine C0.step rfl (j0:=0) (js:=[3]) (by kernel_rfl) ⟨⟨_,rfl,?_⟩,⟨_,rfl,?_⟩,trivial⟩
    ·refine e' rfl ?_
     refine C0.step rfl (j0:=1) (js:=[3]) (by kernel_rfl) ⟨⟨_,rfl,?_⟩,⟨_,rfl,?_⟩,trivial⟩
     ·refine e' rfl ?_
      refine C0.step rfl (j0:=3) (js:=[]) (by kernel_rfl) ⟨⟨_,rfl,?_⟩,trivial⟩
      refine g' [0] ((X0 hx24).ok) rfl rfl rfl rfl rfl rfl (n' ?_)
      refine C0.step rfl (j0:=4) (js:=[]) (by kernel_rfl) ⟨⟨_,rfl,?_⟩,trivial⟩
      refine F0.be hC rfl (ei64.rows_map [x24.1]).symm (n' ?_)
      refine C0.step rfl (j0:=5) (js:=[]) (by kernel_rfl) ⟨⟨_,rfl,?_⟩,trivial⟩
      refine F0.ap hC rfl (rs:=ei64.rows (o2_Numbers++[x24.1])) (ei64.app o2_Numbers [x24.1]) (ei64.sz o2_Numbers) (ei64.sz [x24.1]) (P1 (ei64.len o2_Numbers) (ei64.len [x24.1]) c6) (n' ?_)
      refine C0.step rfl (j0:=6) (js:=[]) (by kernel_rfl) ⟨⟨_,rfl,?_⟩,trivial⟩
      refine e' rfl ?_
      refine C0.step rfl (j0:=7) (js:=[]) (by kernel_rfl) ⟨⟨_,rfl,?_⟩,trivial⟩
      exact F0.s hC rfl (n' (C0.nil (by kernel_rfl) (lw' (ih0 _ _ _ hh) rfl rfl rfl)))
     ·refine g' [0] ((X0 hx24).ok) rfl rfl rfl rfl rfl rfl (n' ?_)
      refine C0.step rfl (j0:=1) (js:=[4]) (by kernel_rfl) ⟨⟨_,rfl,?_⟩,⟨_,rfl,?_⟩,trivial⟩
      ·refine e' rfl ?_
       refine C0.step rfl (j0:=4) (js:=[]) (by kernel_rfl) ⟨⟨_,rfl,?_⟩,trivial⟩
       refine F0.be hC rfl (ei64.rows_map [x24.1]).symm (n' ?_)
       refine C0.step rfl (j0:=5) (js:=[]) (by kernel_rfl) ⟨⟨_,rfl,?_⟩,trivial⟩
       refine F0.ap hC rfl (rs:=ei64.rows (o2_Numbers++[x24.1])) (ei64.app o2_Numbers [x24.1]) (ei64.sz o2_Numbers) (ei64.sz [x24.1]) (P1 (ei64.len o2_Numbers) (ei64.len [x24.1]) c6) (n' ?_)
       refine C0.step rfl (j0:=6) (js:=[]) (by kernel_rfl) ⟨⟨_,rfl,?_⟩,trivial⟩
       refine e' rfl ?_
       refine C0.step rfl (j0:=7) (js:=[]) (by kernel_rfl) ⟨⟨_,rfl,?_⟩,trivial⟩
       exact F0.s hC rfl (n' (C0.nil (by kernel_rfl) (lw' (ih0 _ _ _ hh) rfl rfl rfl)))
      ·refine F0.be hC rfl (ei64.rows_map [x24.1]).symm (n' ?_)
       refine C0.step rfl (j0:=1) (js:=[]) (by kernel_rfl) ⟨⟨_,rfl,?_⟩,trivial⟩
       refine e' rfl ?_
       refine C0.step rfl (j0:=5) (js:=[]) (by kernel_rfl) ⟨⟨_,rfl,?_⟩,trivial⟩
       refine F0.ap hC rfl (rs:=ei64.rows (o2_Numbers++[x24.1])) (ei64.app o2_Numbers [x24.1]) (ei64.sz o2_Numbers) (ei64.sz [x24.1]) (P1 (ei64.len o2_Numbers) (ei64.len [x24.1]) c6) (n' ?_)
       refine C0.step rfl (j0:=6) (js:=[]) (by kernel_rfl) ⟨⟨_,rfl,?_⟩,trivial⟩
       refine e' rfl ?_
       refine C0.step rfl (j0:=7) (js:=[]) (by kernel_rfl) ⟨⟨_,rfl,?_⟩,trivial⟩
       exact F0.s hC rfl (n' (C0.nil (by kernel_rfl) (lw' (ih0 _ _ _ hh) rfl rfl rfl)))
    ·refine g' [0] ((X0 hx24).ok) rfl rfl rfl rfl rfl rfl (n' ?_)
     refine C0.step rfl (j0:=0) (js:=[4]) (by kernel_rfl) ⟨⟨_,rfl,?_⟩,⟨_,rfl,?_⟩,trivial⟩
     ·refine e' rfl ?_
      refine C0.step rfl (j0:=1) (js:=[4]) (by kernel_rfl) ⟨⟨_,rfl,?_⟩,⟨_,rfl,?_⟩,trivial⟩
      ·refine e' rfl ?_
       refine C0.step rfl (j0:=4) (js:=[]) (by kernel_rfl) ⟨⟨_,rfl,?_⟩,trivial⟩
       refine F0.be hC rfl (ei64.rows_map [x24.1]).symm (n' ?_)
       refine C0.step rfl (j0:=5) (js:=[]) (by kernel_rfl) ⟨⟨_,rfl,?_⟩,trivial⟩
       refine F0.ap hC rfl (rs:=ei64.rows (o2_Numbers++[x24.1])) (ei64.app o2_Numbers [x24.1]) (ei64.sz o2_Numbers) (ei64.sz [x24.1]) (P1 (ei64.len o2_Numbers) (ei64.len [x24.1]) c6) (n' ?_)
       refine C0.step rfl (j0:=6) (js:=[]) (by kernel_rfl) ⟨⟨_,rfl,?_⟩,trivial⟩
       refine e' rfl ?_
       refine C0.step rfl (j0:=7) (js:=[]) (by kernel_rfl) ⟨⟨_,rfl,?_⟩,trivial⟩
       exact F0.s hC rfl (n' (C0.nil (by kernel_rfl) (lw' (ih0 _ _ _ hh) rfl rfl rfl)))
      ·refine F0.be hC rfl (ei64.rows_map [x24.1]).symm (n' ?_)
       refine C0.step rfl (j0:=1) (js:=[]) (by kernel_rfl) ⟨⟨_,rfl,?_⟩,trivial⟩
       refine e' rfl ?_
       refine C0.step rfl (j0:=5) (js:=[]) (by kernel_rfl) ⟨⟨_,rfl,?_⟩,trivial⟩
       refine F0.ap hC rfl (rs:=ei64.rows (o2_Numbers++[x24.1])) (ei64.app o2_Numbers [x24.1]) (ei64.sz o2_Numbers) (ei64.sz [x24.1]) (P1 (ei64.len o2_Numbers) (ei64.len [x24.1]) c6) (n' ?_)
       refine C0.step rfl (j0:=6) (js:=[]) (by kernel_rfl) ⟨⟨_,rfl,?_⟩,trivial⟩
       refine e' rfl ?_
       refine C0.step rfl (j0:=7) (js:=[]) (by kernel_rfl) ⟨⟨_,rfl,?_⟩,trivial⟩
       exact F0.s hC rfl (n' (C0.nil (by kernel_rfl) (lw' (ih0 _ _ _ hh) rfl rfl rfl)))
     ·refine F0.be hC rfl (ei64.rows_map [x24.1]).symm (n' ?_)
      refine C0.step rfl (j0:=0) (js:=[]) (by kernel_rfl) ⟨⟨_,rfl,?_⟩,trivial⟩
      refine e' rfl ?_
      refine C0.step rfl (j0:=1) (js:=[]) (by kernel_rfl) ⟨⟨_,rfl,?_⟩,trivial⟩
      refine e' rfl ?_
      refine C0.step rfl (j0:=5) (js:=[]) (by kernel_rfl) ⟨⟨_,rfl,?_⟩,trivial⟩
      refine F0.ap hC rfl (rs:=ei64.rows (o2_Numbers++[x24.1])) (ei64.app o2_Numbers [x24.1]) (ei64.sz o2_Numbers) (ei64.sz [x24.1]) (P1 (ei64.len o2_Numbers) (ei64.len [x24.1]) c6) (n' ?_)
      refine C0.step rfl (j0:=6) (js:=[]) (by kernel_rfl) ⟨⟨_,rfl,?_⟩,trivial⟩
      refine e' rfl ?_
      refine C0.step rfl (j0:=7) (js:=[]) (by kernel_rfl) ⟨⟨_,rfl,?_⟩,trivial⟩
      exact F0.s hC rfl (n' (C0.nil (by kernel_rfl) (lw' (ih0 _ _ _ hh) rfl rfl rfl)))
  refine ex' (P' 1 rfl ?_)
  rcases bp' hh with ⟨nn,hx25,⟨⟩⟩ | ⟨x25,hx25,hh⟩
  ·exact gn' [0] (L0 hx25) rfl rfl rfl rfl rfl (fun hi=>peW ⟨trivial,trivial⟩ rfl hi)
  refine g' [0] ((L0 hx25).ok) rfl rfl rfl rfl rfl rfl (n' (p' 1 rfl (F0.s hC rfl (e' rfl (re' ?_)))))
  obtain rfl:=oi' hh
  exact ⟨_,.tup [.agg [.d (.int .i64 8),.d (.int .i64 0),.d (.int .i64 0),.d (.str []),.d (.sl (A0.rows [])),.d (.int .i64 0),.d (.int .i64 0),.d (.str []),.d (.sl (A0.rows [])),.d (.str []),.d (.sl (A0.rows [])),.d (.int .i64 0),.d (.int .i64 0),.d (.int .i64 0),.d (.sl (ei64.rows o2_Numbers)),.d (.sl (E0.rows [])),.d (.sl (E0.rows []))],.d (.bool true)],[.row (B0.cells x25) 99],rfl,(.tupL ⟨(.aggL ⟨.rfl,.rfl,.rfl,.rfl,.rfl,.rfl,.rfl,.rfl,.rfl,.rfl,.rfl,.rfl,.rfl,.rfl,.osl,.rfl,.rfl,trivial⟩),.rfl,trivial⟩),⟨⟨rfl,.refl _,rfl⟩,trivial⟩,rfl,rfl,rpq rfl rfl⟩
theorem Xm {o0 o2_Numbers res}(hh:W4 o0 o2_Numbers=some res):Qg o0 o2_Numbers res:=(Nm) _ _ _ hh
mutual
def W3 (parserParser:B0):Option (Pn (List E0×B0)):=
 S5 parserParser []
 partial_fixpoint
def S5 (o0:B0)(out:List E0):Option (Pn (List E0×B0)):=
 C7 o0>>=fun x1=>match x1 with
 | .pn nn=>
 some (.pn nn)
 | .ok x1=>
 if (!x1.2.1)=true then
  some (.ok (out,x1.2.2))
 else
  if (decide ((out.length+1) * 257≤140737488355328))=true then
   S5 x1.2.2 (out++[x1.1])
  else none
 partial_fixpoint
def C7 (parserParser:B0):Option (Pn (E0×Bool×B0)):=
 B5 parserParser>>=fun x1=>
 if x1=true then
  P8 parserParser>>=fun x2=>match x2 with
  | .pn nn=>
  some (.pn nn)
  | .ok x2=>
  some (.ok (x2.1,true,x2.2))
 else
  O0 [111,117,116,112,117,116] parserParser>>=fun x3=>
  if x3.1=true then
   C1 x3.2>>=fun x4=>match x4 with
   | .pn nn=>
   some (.pn nn)
   | .ok x4=>
   R0 [59] x4.2>>=fun x5=>match x5 with
   | .pn nn=>
   some (.pn nn)
   | .ok x5=>
   some (.ok ((E0.mk 3 (A0.mk 0 0 [] []) x4.1 [] [] 0 0 0 [] [] []),true,x5))
  else
   O0 [119,97,105,116] x3.2>>=fun x6=>
   if x6.1=true then
    R2 x6.2>>=fun x7=>match x7 with
    | .pn nn=>
    some (.pn nn)
    | .ok x7=>
    R0 [59] x7.2>>=fun x8=>match x8 with
    | .pn nn=>
    some (.pn nn)
    | .ok x8=>
    some (.ok ((E0.mk 4 (A0.mk 0 0 [] []) (A0.mk 0 0 [] []) [] [] x7.1 0 0 [] [] []),true,x8))
   else
    O0 [115,101,116,116,108,101] x6.2>>=fun x9=>
    if x9.1=true then
     R2 x9.2>>=fun x10=>match x10 with
     | .pn nn=>
     some (.pn nn)
     | .ok x10=>
     W4 x10.2 [x10.1]
    else
     O0 [105,102] x9.2>>=fun x11=>
     if x11.1=true then
      C1 x11.2>>=fun x12=>match x12 with
      | .pn nn=>
      some (.pn nn)
      | .ok x12=>
      J6 x12.2>>=fun x26=>match x26 with
      | .pn nn=>
      some (.pn nn)
      | .ok x26=>
      O0 [101,108,115,101] x26.2>>=fun x27=>
      if x27.1=true then
       J6 x27.2>>=fun x28=>match x28 with
       | .pn nn=>
       some (.pn nn)
       | .ok x28=>
       some (.ok ((E0.mk 5 (A0.mk 0 0 [] []) x12.1 [] [] 0 0 0 [] x26.1 x28.1),true,x28.2))
      else
       some (.ok ((E0.mk 5 (A0.mk 0 0 [] []) x12.1 [] [] 0 0 0 [] x26.1 []),true,x27.2))
     else
      O0 [119,104,105,108,101] x11.2>>=fun x13=>
      if x13.1=true then
       C1 x13.2>>=fun x14=>match x14 with
       | .pn nn=>
       some (.pn nn)
       | .ok x14=>
       R0 [108,105,109,105,116] x14.2>>=fun x15=>match x15 with
       | .pn nn=>
       some (.pn nn)
       | .ok x15=>
       R2 x15>>=fun x16=>match x16 with
       | .pn nn=>
       some (.pn nn)
       | .ok x16=>
       J6 x16.2>>=fun x29=>match x29 with
       | .pn nn=>
       some (.pn nn)
       | .ok x29=>
       some (.ok ((E0.mk 6 (A0.mk 0 0 [] []) x14.1 [] [] x16.1 0 0 [] x29.1 []),true,x29.2))
      else
       O0 [102,111,114] x13.2>>=fun x17=>
       if x17.1=true then
        T2 x17.2>>=fun x18=>match x18 with
        | .pn nn=>
        some (.pn nn)
        | .ok x18=>
        R0 [61] x18.2>>=fun x19=>match x19 with
        | .pn nn=>
        some (.pn nn)
        | .ok x19=>
        R2 x19>>=fun x20=>match x20 with
        | .pn nn=>
        some (.pn nn)
        | .ok x20=>
        R0 [116,111] x20.2>>=fun x21=>match x21 with
        | .pn nn=>
        some (.pn nn)
        | .ok x21=>
        R2 x21>>=fun x22=>match x22 with
        | .pn nn=>
        some (.pn nn)
        | .ok x22=>
        J6 x22.2>>=fun x30=>match x30 with
        | .pn nn=>
        some (.pn nn)
        | .ok x30=>
        some (.ok ((E0.mk 7 (A0.mk 0 0 [] []) (A0.mk 0 0 [] []) x18.1 [] 0 x20.1 x22.1 [] x30.1 []),true,x30.2))
       else
        some (.ok ((E0.mk 0 (A0.mk 0 0 [] []) (A0.mk 0 0 [] []) [] [] 0 0 0 [] [] []),false,x17.2))
 partial_fixpoint
def J6 (parserParser:B0):Option (Pn (List E0×B0)):=
 R0 [123] parserParser>>=fun x1=>match x1 with
 | .pn nn=>
 some (.pn nn)
 | .ok x1=>
 W3 x1>>=fun x2=>match x2 with
 | .pn nn=>
 some (.pn nn)
 | .ok x2=>
 R0 [125] x2.2>>=fun x3=>match x3 with
 | .pn nn=>
 some (.pn nn)
 | .ok x3=>
 some (.ok (x2.1,x3))
 partial_fixpoint
end
abbrev Li (parserParser:B0)(res:Pn (List E0×B0)):Prop:=C2 C 88 [.ref 0 0] [.row (B0.cells parserParser) 99] (P4 res (fun rr=>[.row (B0.cells rr.2) 99]) (fun rr=>.d (.sl (E0.rows rr.1)))) (J4 res F3 [.dead])
abbrev Ym (o0:B0)(out:List E0)(res:Pn (List E0×B0)):Prop:=LMp C 18 1 Tryz.f88 [1,1,4] [(0,.ref 0 0),(3,.osl 1 (E0.rows out))] [.row (B0.cells o0) 99,.tok 144 17] (P4 res (fun rr=>[.row (B0.cells rr.2) 99]) (fun rr=>.d (.sl (E0.rows rr.1)))) (J4 res F3 [.dead])
abbrev Zq (parserParser:B0)(res:Pn (E0×Bool×B0)):Prop:=C2 C 142 [.ref 0 0] [.row (B0.cells parserParser) 99] (P4 res (fun rr=>[.row (B0.cells rr.2.2) 99]) (fun rr=>.tup [.agg (E0.cells rr.1),.d (.bool rr.2.1)])) (J4 res F3 [.dead])
abbrev Lv (parserParser:B0)(res:Pn (List E0×B0)):Prop:=C2 C 174 [.ref 0 0] [.row (B0.cells parserParser) 99] (P4 res (fun rr=>[.row (B0.cells rr.2) 99]) (fun rr=>.d (.sl (E0.rows rr.1)))) (J4 res F3 [.dead])
theorem Vn:(∀ parserParser res,W3 parserParser=some res→Li parserParser res)∧(∀ o0 out res,S5 o0 out=some res→Ym o0 out res)∧(∀ parserParser res,C7 parserParser=some res→Zq parserParser res)∧(∀ parserParser res,J6 parserParser=some res→Lv parserParser res):=by
 refine W3.mutual_partial_correctness _ _ _ _ ?_ ?_ ?_ ?_
 ·intro g1 ih1 parserParser res hh
  exact C2.intro hC Tryz.func88 rfl rfl rfl (t' rfl (p' 1 rfl (F0.tokE 3 144 17 rfl (n' (bk' (fw' (ih1 _ _ _ hh) rfl rfl rfl))))))
 ·intro g1 g2 ih1 ih2 o0 out res hh
  refine A1.unroll (bk' (p' 1 rfl ?_))
  rcases bp' hh with ⟨nn,hx1,⟨⟩⟩ | ⟨x1,hx1,hh⟩
  ·exact gn' [0] (ih2 _ _ hx1) rfl rfl rfl rfl rfl (fun hi=>peW ⟨trivial,trivial⟩ rfl hi)
  refine g' [0] ((ih2 _ _ hx1).ok) rfl rfl rfl rfl rfl rfl (o' 3 rfl (F0.nf hC rfl (F0.s hC rfl (e' rfl (S' (t' rfl (ci' rfl hh (fun hh=>?_) (fun hh=>?_))))))))
  ·refine t' rfl (re' ?_)
   obtain rfl:=oi' hh
   exact ⟨_,.d (.sl (E0.rows out)),[.row (B0.cells x1.2.2) 99],rfl,.osl,⟨⟨rfl,.refl _,rfl⟩,trivial⟩,rfl,rfl,rpq rfl rfl⟩
  obtain ⟨c6,hh⟩:=I4 hh
  exact sk' (P' 2 rfl (F0.be hC rfl (E0.rows_map [x1.1]).symm (F0.ap hC rfl (rs:=E0.rows (out++[x1.1])) (E0.app out [x1.1]) (E0.sz out) (E0.sz [x1.1]) (P1 (E0.len out) (E0.len [x1.1]) c6) (e' rfl (lw' (ih1 _ _ _ hh) rfl rfl rfl)))))
 ·intro g3 ih3 parserParser res hh
  obtain ⟨x1,hx1,hh⟩:=bs' hh
  refine C2.intro hC Tryz.func142 rfl rfl rfl (s' rfl rfl (F0.nf hC rfl (e' rfl (s' rfl rfl (F0.nf hC rfl (n' (S' (bk' (p' 1 rfl (g' [0] (We hx1) rfl rfl rfl rfl rfl rfl (e' rfl (ci' rfl hh (fun hh=>?_) (fun hh=>?_)))))))))))))
  ·refine p' 1 rfl ?_
   rcases bp' hh with ⟨nn,hx2,⟨⟩⟩ | ⟨x2,hx2,hh⟩
   ·exact gn' [0] (Kh hx2) rfl rfl rfl rfl rfl (fun hi=>peW ⟨trivial,trivial⟩ rfl hi)
   cases hh
   exact g' [0] ((Kh hx2).ok) rfl rfl rfl rfl rfl rfl (F0.s hC rfl (e' rfl (re' (rt' rfl rfl rfl))))
  obtain ⟨x3,hx3,hh⟩:=bs' hh
  refine p' 1 rfl (g' [0] (P0 hx3) rfl rfl rfl rfl rfl rfl (e' rfl (ci' rfl hh (fun hh=>?_) (fun hh=>?_))))
  ·refine p' 1 rfl ?_
   rcases bp' hh with ⟨nn,hx4,⟨⟩⟩ | ⟨x4,hx4,hh⟩
   ·exact gn' [0] (S0 hx4) rfl rfl rfl rfl rfl (fun hi=>peW ⟨trivial,trivial⟩ rfl hi)
   refine g' [0] ((S0 hx4).ok) rfl rfl rfl rfl rfl rfl (q' rfl (F0.s hC rfl (n' (P' 1 rfl ?_))))
   rcases bp' hh with ⟨nn,hx5,⟨⟩⟩ | ⟨x5,hx5,hh⟩
   ·exact gn' [0] (L0 hx5) rfl rfl rfl rfl rfl (fun hi=>peW ⟨trivial,trivial⟩ rfl hi)
   cases hh
   exact g' [0] ((L0 hx5).ok) rfl rfl rfl rfl rfl rfl (n' (p' 1 rfl (F0.s hC rfl (e' rfl (re' (rt' rfl rfl rfl))))))
  obtain ⟨x6,hx6,hh⟩:=bs' hh
  refine p' 1 rfl (g' [0] (P0 hx6) rfl rfl rfl rfl rfl rfl (e' rfl (ci' rfl hh (fun hh=>?_) (fun hh=>?_))))
  ·refine p' 1 rfl ?_
   rcases bp' hh with ⟨nn,hx7,⟨⟩⟩ | ⟨x7,hx7,hh⟩
   ·exact gn' [0] (X0 hx7) rfl rfl rfl rfl rfl (fun hi=>peW ⟨trivial,trivial⟩ rfl hi)
   refine g' [0] ((X0 hx7).ok) rfl rfl rfl rfl rfl rfl (q' rfl (F0.s hC rfl (n' (P' 1 rfl ?_))))
   rcases bp' hh with ⟨nn,hx8,⟨⟩⟩ | ⟨x8,hx8,hh⟩
   ·exact gn' [0] (L0 hx8) rfl rfl rfl rfl rfl (fun hi=>peW ⟨trivial,trivial⟩ rfl hi)
   cases hh
   exact g' [0] ((L0 hx8).ok) rfl rfl rfl rfl rfl rfl (n' (p' 1 rfl (F0.s hC rfl (e' rfl (re' (rt' rfl rfl rfl))))))
  obtain ⟨x9,hx9,hh⟩:=bs' hh
  refine p' 1 rfl (g' [0] (P0 hx9) rfl rfl rfl rfl rfl rfl (e' rfl (ci' rfl hh (fun hh=>?_) (fun hh=>?_))))
  ·refine p' 1 rfl ?_
   rcases bp' hh with ⟨nn,hx10,⟨⟩⟩ | ⟨x10,hx10,hh⟩
   ·exact gn' [0] (X0 hx10) rfl rfl rfl rfl rfl (fun hi=>peW ⟨trivial,trivial⟩ rfl hi)
   exact g' [0] ((X0 hx10).ok) rfl rfl rfl rfl rfl rfl (F0.be hC rfl (ei64.rows_map [x10.1]).symm (F0.tokE 32 3 1 rfl (q' rfl (F0.s hC rfl (n' (S' (bk' (fw' (Xm hh) rfl rfl rfl))))))))
  obtain ⟨x11,hx11,hh⟩:=bs' hh
  refine p' 1 rfl (g' [0] (P0 hx11) rfl rfl rfl rfl rfl rfl (e' rfl (ci' rfl hh (fun hh=>?_) (fun hh=>?_))))
  ·refine p' 1 rfl ?_
   rcases bp' hh with ⟨nn,hx12,⟨⟩⟩ | ⟨x12,hx12,hh⟩
   ·exact gn' [0] (S0 hx12) rfl rfl rfl rfl rfl (fun hi=>peW ⟨trivial,trivial⟩ rfl hi)
   refine g' [0] ((S0 hx12).ok) rfl rfl rfl rfl rfl rfl (q' rfl (F0.s hC rfl (n' (p' 1 rfl ?_))))
   rcases bp' hh with ⟨nn,hx26,⟨⟩⟩ | ⟨x26,hx26,hh⟩
   ·exact gn' [0] (ih3 _ _ hx26) rfl rfl rfl rfl rfl (fun hi=>peW ⟨trivial,trivial⟩ rfl hi)
   obtain ⟨x27,hx27,hh⟩:=bs' hh
   refine g' [0] ((ih3 _ _ hx26).ok) rfl rfl rfl rfl rfl rfl (q' rfl (F0.s hC rfl (n' (p' 1 rfl (g' [0] (P0 hx27) rfl rfl rfl rfl rfl rfl (n' (ci' rfl hh (fun hh=>?_) (fun hh=>?_))))))))
   ·refine P' 1 rfl ?_
    rcases bp' hh with ⟨nn,hx28,⟨⟩⟩ | ⟨x28,hx28,hh⟩
    ·exact gn' [0] (ih3 _ _ hx28) rfl rfl rfl rfl rfl (fun hi=>peW ⟨trivial,trivial⟩ rfl hi)
    cases hh
    exact g' [0] ((ih3 _ _ hx28).ok) rfl rfl rfl rfl rfl rfl (q' rfl (F0.s hC rfl (n' (p' 1 rfl (F0.s hC rfl (e' rfl (re' (rt' rfl rfl rfl))))))))
   cases hh
   exact sk' (p' 1 rfl (F0.s hC rfl (e' rfl (re' (rt' rfl rfl rfl)))))
  obtain ⟨x13,hx13,hh⟩:=bs' hh
  refine p' 1 rfl (g' [0] (P0 hx13) rfl rfl rfl rfl rfl rfl (e' rfl (ci' rfl hh (fun hh=>?_) (fun hh=>?_))))
  ·refine p' 1 rfl ?_
   rcases bp' hh with ⟨nn,hx14,⟨⟩⟩ | ⟨x14,hx14,hh⟩
   ·exact gn' [0] (S0 hx14) rfl rfl rfl rfl rfl (fun hi=>peW ⟨trivial,trivial⟩ rfl hi)
   refine g' [0] ((S0 hx14).ok) rfl rfl rfl rfl rfl rfl (q' rfl (F0.s hC rfl (n' (p' 1 rfl ?_))))
   rcases bp' hh with ⟨nn,hx15,⟨⟩⟩ | ⟨x15,hx15,hh⟩
   ·exact gn' [0] (L0 hx15) rfl rfl rfl rfl rfl (fun hi=>peW ⟨trivial,trivial⟩ rfl hi)
   refine g' [0] ((L0 hx15).ok) rfl rfl rfl rfl rfl rfl (n' (p' 1 rfl ?_))
   rcases bp' hh with ⟨nn,hx16,⟨⟩⟩ | ⟨x16,hx16,hh⟩
   ·exact gn' [0] (X0 hx16) rfl rfl rfl rfl rfl (fun hi=>peW ⟨trivial,trivial⟩ rfl hi)
   refine g' [0] ((X0 hx16).ok) rfl rfl rfl rfl rfl rfl (q' rfl (F0.s hC rfl (n' (P' 1 rfl ?_))))
   rcases bp' hh with ⟨nn,hx29,⟨⟩⟩ | ⟨x29,hx29,hh⟩
   ·exact gn' [0] (ih3 _ _ hx29) rfl rfl rfl rfl rfl (fun hi=>peW ⟨trivial,trivial⟩ rfl hi)
   cases hh
   exact g' [0] ((ih3 _ _ hx29).ok) rfl rfl rfl rfl rfl rfl (q' rfl (F0.s hC rfl (n' (p' 1 rfl (F0.s hC rfl (e' rfl (re' (rt' rfl rfl rfl))))))))
  obtain ⟨x17,hx17,hh⟩:=bs' hh
  refine p' 1 rfl (g' [0] (P0 hx17) rfl rfl rfl rfl rfl rfl (e' rfl (ci' rfl hh (fun hh=>?_) (fun hh=>?_))))
  ·refine p' 1 rfl ?_
   rcases bp' hh with ⟨nn,hx18,⟨⟩⟩ | ⟨x18,hx18,hh⟩
   ·exact gn' [0] (Z0 hx18) rfl rfl rfl rfl rfl (fun hi=>peW ⟨trivial,trivial⟩ rfl hi)
   refine g' [0] ((Z0 hx18).ok) rfl rfl rfl rfl rfl rfl (q' rfl (F0.s hC rfl (n' (p' 1 rfl ?_))))
   rcases bp' hh with ⟨nn,hx19,⟨⟩⟩ | ⟨x19,hx19,hh⟩
   ·exact gn' [0] (L0 hx19) rfl rfl rfl rfl rfl (fun hi=>peW ⟨trivial,trivial⟩ rfl hi)
   refine g' [0] ((L0 hx19).ok) rfl rfl rfl rfl rfl rfl (n' (p' 1 rfl ?_))
   rcases bp' hh with ⟨nn,hx20,⟨⟩⟩ | ⟨x20,hx20,hh⟩
   ·exact gn' [0] (X0 hx20) rfl rfl rfl rfl rfl (fun hi=>peW ⟨trivial,trivial⟩ rfl hi)
   refine g' [0] ((X0 hx20).ok) rfl rfl rfl rfl rfl rfl (q' rfl (F0.s hC rfl (n' (p' 1 rfl ?_))))
   rcases bp' hh with ⟨nn,hx21,⟨⟩⟩ | ⟨x21,hx21,hh⟩
   ·exact gn' [0] (L0 hx21) rfl rfl rfl rfl rfl (fun hi=>peW ⟨trivial,trivial⟩ rfl hi)
   refine g' [0] ((L0 hx21).ok) rfl rfl rfl rfl rfl rfl (n' (p' 1 rfl ?_))
   rcases bp' hh with ⟨nn,hx22,⟨⟩⟩ | ⟨x22,hx22,hh⟩
   ·exact gn' [0] (X0 hx22) rfl rfl rfl rfl rfl (fun hi=>peW ⟨trivial,trivial⟩ rfl hi)
   refine g' [0] ((X0 hx22).ok) rfl rfl rfl rfl rfl rfl (q' rfl (F0.s hC rfl (n' (P' 1 rfl ?_))))
   rcases bp' hh with ⟨nn,hx30,⟨⟩⟩ | ⟨x30,hx30,hh⟩
   ·exact gn' [0] (ih3 _ _ hx30) rfl rfl rfl rfl rfl (fun hi=>peW ⟨trivial,trivial⟩ rfl hi)
   cases hh
   exact g' [0] ((ih3 _ _ hx30).ok) rfl rfl rfl rfl rfl rfl (q' rfl (F0.s hC rfl (n' (p' 1 rfl (F0.s hC rfl (e' rfl (re' (rt' rfl rfl rfl))))))))
  refine p' 1 rfl (F0.s hC rfl (e' rfl (re' ?_)))
  obtain rfl:=oi' hh
  exact ⟨_,.tup [.agg [.d (.int .i64 0),.d (.int .i64 0),.d (.int .i64 0),.d (.str []),.d (.sl (A0.rows [])),.d (.int .i64 0),.d (.int .i64 0),.d (.str []),.d (.sl (A0.rows [])),.d (.str []),.d (.sl (A0.rows [])),.d (.int .i64 0),.d (.int .i64 0),.d (.int .i64 0),.d (.sl (ei64.rows [])),.d (.sl (E0.rows [])),.d (.sl (E0.rows []))],.d (.bool false)],[.row (B0.cells x17.2) 99],rfl,(.tupL ⟨(.aggL ⟨.rfl,.rfl,.rfl,.rfl,.full,.rfl,.rfl,.rfl,.full,.rfl,.full,.rfl,.rfl,.rfl,.full,.full,.full,trivial⟩),.rfl,trivial⟩),⟨⟨rfl,.refl _,rfl⟩,trivial⟩,rfl,rfl,rpq rfl rfl⟩
 ·intro g0 ih0 parserParser res hh
  refine C2.intro hC Tryz.func174 rfl rfl rfl (t' rfl (p' 1 rfl ?_))
  rcases bp' hh with ⟨nn,hx1,⟨⟩⟩ | ⟨x1,hx1,hh⟩
  ·exact gn' [0] (L0 hx1) rfl rfl rfl rfl rfl (fun hi=>peW ⟨trivial,trivial⟩ rfl hi)
  refine g' [0] ((L0 hx1).ok) rfl rfl rfl rfl rfl rfl (n' (p' 1 rfl ?_))
  rcases bp' hh with ⟨nn,hx2,⟨⟩⟩ | ⟨x2,hx2,hh⟩
  ·exact gn' [0] (ih0 _ _ hx2) rfl rfl rfl rfl rfl (fun hi=>peW ⟨trivial,trivial⟩ rfl hi)
  refine g' [0] ((ih0 _ _ hx2).ok) rfl rfl rfl rfl rfl rfl (e' rfl (p' 1 rfl ?_))
  rcases bp' hh with ⟨nn,hx3,⟨⟩⟩ | ⟨x3,hx3,hh⟩
  ·exact gn' [0] (L0 hx3) rfl rfl rfl rfl rfl (fun hi=>peW ⟨trivial,trivial⟩ rfl hi)
  cases hh
  exact g' [0] ((L0 hx3).ok) rfl rfl rfl rfl rfl rfl (n' (t' rfl (re' (rt' rfl rfl rfl))))
theorem M9 {parserParser res}(hh:W3 parserParser=some res):Li parserParser res:=(Vn).1 _ _ hh
def D5 (o02:B0)(x1:Str×B0)(x7:J0×B0)(o2_Params2:List D0)(o2_Vars:List D0):Option (Pn (D0×B0)):=
 O0 [118,97,114] o02>>=fun x9=>
 if x9.1=true then
  J7 x9.2>>=fun x10=>match x10 with
  | .pn nn=>
  some (.pn nn)
  | .ok x10=>
  if (decide ((o2_Vars.length+1) * 257≤140737488355328))=true then
   D5 x10.2 x1 x7 o2_Params2 (o2_Vars++[x10.1])
  else none
 else
  W3 x9.2>>=fun x11=>match x11 with
  | .pn nn=>
  some (.pn nn)
  | .ok x11=>
  R0 [114,101,116,117,114,110] x11.2>>=fun x12=>match x12 with
  | .pn nn=>
  some (.pn nn)
  | .ok x12=>
  C1 x12>>=fun x13=>match x13 with
  | .pn nn=>
  some (.pn nn)
  | .ok x13=>
  R0 [59] x13.2>>=fun x14=>match x14 with
  | .pn nn=>
  some (.pn nn)
  | .ok x14=>
  R0 [125] x14>>=fun x15=>match x15 with
  | .pn nn=>
  some (.pn nn)
  | .ok x15=>
  some (.ok ((D0.mk 6 x1.1 x7.1 0 x13.1 o2_Params2 o2_Vars x11.1),x15))
 partial_fixpoint
abbrev Lh (o02:B0)(x1:Str×B0)(x7:J0×B0)(o2_Params2:List D0)(o2_Vars:List D0)(res:Pn (D0×B0)):Prop:=LMp C 58 1 Tryz.f141 [1,1,1,1,1,1,1,1,0,4] [(0,.ref 0 0),(2,.ref 1 0),(3,.ref 2 0)] [.row (B0.cells o02) 99,.row [.d (.int .i64 0),.d (.str []),.d (.int .i64 0),.d (.int .i64 0),.d (.int .i64 0),.d (.int .i64 0),.d (.str []),.full (estr.rows []),.full (J0.rows []),.d (.int .i64 0),.d (.int .i64 0),.d (.int .i64 0),.d (.str []),.full (A0.rows []),.full (D0.rows []),.full (D0.rows []),.full (E0.rows [])] 128,.row [.d (.int .i64 6),.d (.str x1.1),.d (.int .i64 x7.1.Kind),.d (.int .i64 x7.1.Low),.d (.int .i64 x7.1.High),.d (.int .i64 x7.1.Size),.d (.str x7.1.Name),.d (.sl (estr.rows x7.1.Names)),.d (.sl (J0.rows x7.1.Of)),.d (.int .i64 0),.d (.int .i64 0),.d (.int .i64 0),.d (.str []),.full (A0.rows []),.osl 3 (D0.rows o2_Params2),.osl 4 (D0.rows o2_Vars),.full (E0.rows [])] 128,.tok 128 17,.tok 128 17] (P4 res (fun rr=>[.row (B0.cells rr.2) 99]) (fun rr=>.agg (D0.cells rr.1))) (J4 res F3 [.dead])
theorem Zm (x1:Str×B0)(x7:J0×B0)(o2_Params2:List D0):(∀ o02 o2_Vars res,D5 o02 x1 x7 o2_Params2 o2_Vars=some res→Lh o02 x1 x7 o2_Params2 o2_Vars res):=by
 refine D5.partial_correctness x1 x7 o2_Params2 _ ?_
 ·intro g0 ih0 o02 o2_Vars res hh
  obtain ⟨x9,hx9,hh⟩:=bs' hh
  refine A1.unroll (S' (p' 1 rfl (g' [0] (P0 hx9) rfl rfl rfl rfl rfl rfl (n' (ci' rfl hh (fun hh=>?_) (fun hh=>?_))))))
  ·refine sk' (bk' ?_)
   rcases bp' hh with ⟨nn,hx10,⟨⟩⟩ | ⟨x10,hx10,hh⟩
   ·refine AEx.drawE hC ?_
    refine C0.step rfl (j0:=0) (js:=[2]) (by kernel_rfl) ⟨⟨_,rfl,?_⟩,⟨_,rfl,?_⟩,trivial⟩
    ·refine e' rfl ?_
     refine C0.step rfl (j0:=1) (js:=[2]) (by kernel_rfl) ⟨⟨_,rfl,?_⟩,⟨_,rfl,?_⟩,trivial⟩
     ·refine e' rfl ?_
      refine C0.step rfl (j0:=2) (js:=[]) (by kernel_rfl) ⟨⟨_,rfl,?_⟩,trivial⟩
      refine e' rfl ?_
      refine C0.step rfl (j0:=3) (js:=[]) (by kernel_rfl) ⟨⟨_,rfl,?_⟩,trivial⟩
      exact gn' [0] (B2 hx10) rfl rfl rfl rfl rfl (fun hi=>peW ⟨trivial,trivial⟩ rfl hi)
     ·refine e' rfl ?_
      refine C0.step rfl (j0:=1) (js:=[3]) (by kernel_rfl) ⟨⟨_,rfl,?_⟩,⟨_,rfl,?_⟩,trivial⟩
      ·refine e' rfl ?_
       refine C0.step rfl (j0:=3) (js:=[]) (by kernel_rfl) ⟨⟨_,rfl,?_⟩,trivial⟩
       exact gn' [0] (B2 hx10) rfl rfl rfl rfl rfl (fun hi=>peW ⟨trivial,trivial⟩ rfl hi)
      ·exact gn' [0] (B2 hx10) rfl rfl rfl rfl rfl (fun hi=>peW ⟨trivial,trivial⟩ rfl hi)
    ·refine e' rfl ?_
     refine C0.step rfl (j0:=0) (js:=[3]) (by kernel_rfl) ⟨⟨_,rfl,?_⟩,⟨_,rfl,?_⟩,trivial⟩
     ·refine e' rfl ?_
      refine C0.step rfl (j0:=1) (js:=[3]) (by kernel_rfl) ⟨⟨_,rfl,?_⟩,⟨_,rfl,?_⟩,trivial⟩
      ·refine e' rfl ?_
       refine C0.step rfl (j0:=3) (js:=[]) (by kernel_rfl) ⟨⟨_,rfl,?_⟩,trivial⟩
       exact gn' [0] (B2 hx10) rfl rfl rfl rfl rfl (fun hi=>peW ⟨trivial,trivial⟩ rfl hi)
      ·exact gn' [0] (B2 hx10) rfl rfl rfl rfl rfl (fun hi=>peW ⟨trivial,trivial⟩ rfl hi)
     ·exact gn' [0] (B2 hx10) rfl rfl rfl rfl rfl (fun hi=>peW ⟨trivial,trivial⟩ rfl hi)
   obtain ⟨c35,hh⟩:=I4 hh
   refine AEx.drawE hC ?_
   refine C0.step rfl (j0:=0) (js:=[2]) (by kernel_rfl) ⟨⟨_,rfl,?_⟩,⟨_,rfl,?_⟩,trivial⟩
   ·refine e' rfl ?_
    refine C0.step rfl (j0:=1) (js:=[2]) (by kernel_rfl) ⟨⟨_,rfl,?_⟩,⟨_,rfl,?_⟩,trivial⟩
    ·refine e' rfl ?_
     refine C0.step rfl (j0:=2) (js:=[]) (by kernel_rfl) ⟨⟨_,rfl,?_⟩,trivial⟩
     refine e' rfl ?_
     refine C0.step rfl (j0:=3) (js:=[]) (by kernel_rfl) ⟨⟨_,rfl,?_⟩,trivial⟩
     refine g' [0] ((B2 hx10).ok) rfl rfl rfl rfl rfl rfl (n' ?_)
     refine C0.step rfl (j0:=4) (js:=[]) (by kernel_rfl) ⟨⟨_,rfl,?_⟩,trivial⟩
     refine F0.be hC rfl (D0.rows_map [x10.1]).symm (n' ?_)
     refine C0.step rfl (j0:=5) (js:=[]) (by kernel_rfl) ⟨⟨_,rfl,?_⟩,trivial⟩
     refine F0.ap hC rfl (rs:=D0.rows (o2_Vars++[x10.1])) (D0.app o2_Vars [x10.1]) (D0.sz o2_Vars) (D0.sz [x10.1]) (P1 (D0.len o2_Vars) (D0.len [x10.1]) c35) (n' ?_)
     refine C0.step rfl (j0:=6) (js:=[]) (by kernel_rfl) ⟨⟨_,rfl,?_⟩,trivial⟩
     refine e' rfl ?_
     refine C0.step rfl (j0:=7) (js:=[]) (by kernel_rfl) ⟨⟨_,rfl,?_⟩,trivial⟩
     exact F0.s hC rfl (n' (C0.nil (by kernel_rfl) (lw' (ih0 _ _ _ hh) rfl rfl rfl)))
    ·refine e' rfl ?_
     refine C0.step rfl (j0:=1) (js:=[3]) (by kernel_rfl) ⟨⟨_,rfl,?_⟩,⟨_,rfl,?_⟩,trivial⟩
     ·refine e' rfl ?_
      refine C0.step rfl (j0:=3) (js:=[]) (by kernel_rfl) ⟨⟨_,rfl,?_⟩,trivial⟩
      refine g' [0] ((B2 hx10).ok) rfl rfl rfl rfl rfl rfl (n' ?_)
      refine C0.step rfl (j0:=4) (js:=[]) (by kernel_rfl) ⟨⟨_,rfl,?_⟩,trivial⟩
      refine F0.be hC rfl (D0.rows_map [x10.1]).symm (n' ?_)
      refine C0.step rfl (j0:=5) (js:=[]) (by kernel_rfl) ⟨⟨_,rfl,?_⟩,trivial⟩
      refine F0.ap hC rfl (rs:=D0.rows (o2_Vars++[x10.1])) (D0.app o2_Vars [x10.1]) (D0.sz o2_Vars) (D0.sz [x10.1]) (P1 (D0.len o2_Vars) (D0.len [x10.1]) c35) (n' ?_)
      refine C0.step rfl (j0:=6) (js:=[]) (by kernel_rfl) ⟨⟨_,rfl,?_⟩,trivial⟩
      refine e' rfl ?_
      refine C0.step rfl (j0:=7) (js:=[]) (by kernel_rfl) ⟨⟨_,rfl,?_⟩,trivial⟩
      exact F0.s hC rfl (n' (C0.nil (by kernel_rfl) (lw' (ih0 _ _ _ hh) rfl rfl rfl)))
     ·refine g' [0] ((B2 hx10).ok) rfl rfl rfl rfl rfl rfl (n' ?_)
      refine C0.step rfl (j0:=1) (js:=[4]) (by kernel_rfl) ⟨⟨_,rfl,?_⟩,⟨_,rfl,?_⟩,trivial⟩
      ·refine e' rfl ?_
       refine C0.step rfl (j0:=4) (js:=[]) (by kernel_rfl) ⟨⟨_,rfl,?_⟩,trivial⟩
       refine F0.be hC rfl (D0.rows_map [x10.1]).symm (n' ?_)
       refine C0.step rfl (j0:=5) (js:=[]) (by kernel_rfl) ⟨⟨_,rfl,?_⟩,trivial⟩
       refine F0.ap hC rfl (rs:=D0.rows (o2_Vars++[x10.1])) (D0.app o2_Vars [x10.1]) (D0.sz o2_Vars) (D0.sz [x10.1]) (P1 (D0.len o2_Vars) (D0.len [x10.1]) c35) (n' ?_)
       refine C0.step rfl (j0:=6) (js:=[]) (by kernel_rfl) ⟨⟨_,rfl,?_⟩,trivial⟩
       refine e' rfl ?_
       refine C0.step rfl (j0:=7) (js:=[]) (by kernel_rfl) ⟨⟨_,rfl,?_⟩,trivial⟩
       exact F0.s hC rfl (n' (C0.nil (by kernel_rfl) (lw' (ih0 _ _ _ hh) rfl rfl rfl)))
      ·refine F0.be hC rfl (D0.rows_map [x10.1]).symm (n' ?_)
       refine C0.step rfl (j0:=1) (js:=[]) (by kernel_rfl) ⟨⟨_,rfl,?_⟩,trivial⟩
       refine e' rfl ?_
       refine C0.step rfl (j0:=5) (js:=[]) (by kernel_rfl) ⟨⟨_,rfl,?_⟩,trivial⟩
       refine F0.ap hC rfl (rs:=D0.rows (o2_Vars++[x10.1])) (D0.app o2_Vars [x10.1]) (D0.sz o2_Vars) (D0.sz [x10.1]) (P1 (D0.len o2_Vars) (D0.len [x10.1]) c35) (n' ?_)
       refine C0.step rfl (j0:=6) (js:=[]) (by kernel_rfl) ⟨⟨_,rfl,?_⟩,trivial⟩
       refine e' rfl ?_
       refine C0.step rfl (j0:=7) (js:=[]) (by kernel_rfl) ⟨⟨_,rfl,?_⟩,trivial⟩
       exact F0.s hC rfl (n' (C0.nil (by kernel_rfl) (lw' (ih0 _ _ _ hh) rfl rfl rfl)))
   ·refine e' rfl ?_
    refine C0.step rfl (j0:=0) (js:=[3]) (by kernel_rfl) ⟨⟨_,rfl,?_⟩,⟨_,rfl,?_⟩,trivial⟩
    ·refine e' rfl ?_
     refine C0.step rfl (j0:=1) (js:=[3]) (by kernel_rfl) ⟨⟨_,rfl,?_⟩,⟨_,rfl,?_⟩,trivial⟩
     ·refine e' rfl ?_
      refine C0.step rfl (j0:=3) (js:=[]) (by kernel_rfl) ⟨⟨_,rfl,?_⟩,trivial⟩
      refine g' [0] ((B2 hx10).ok) rfl rfl rfl rfl rfl rfl (n' ?_)
      refine C0.step rfl (j0:=4) (js:=[]) (by kernel_rfl) ⟨⟨_,rfl,?_⟩,trivial⟩
      refine F0.be hC rfl (D0.rows_map [x10.1]).symm (n' ?_)
      refine C0.step rfl (j0:=5) (js:=[]) (by kernel_rfl) ⟨⟨_,rfl,?_⟩,trivial⟩
      refine F0.ap hC rfl (rs:=D0.rows (o2_Vars++[x10.1])) (D0.app o2_Vars [x10.1]) (D0.sz o2_Vars) (D0.sz [x10.1]) (P1 (D0.len o2_Vars) (D0.len [x10.1]) c35) (n' ?_)
      refine C0.step rfl (j0:=6) (js:=[]) (by kernel_rfl) ⟨⟨_,rfl,?_⟩,trivial⟩
      refine e' rfl ?_
      refine C0.step rfl (j0:=7) (js:=[]) (by kernel_rfl) ⟨⟨_,rfl,?_⟩,trivial⟩
      exact F0.s hC rfl (n' (C0.nil (by kernel_rfl) (lw' (ih0 _ _ _ hh) rfl rfl rfl)))
     ·refine g' [0] ((B2 hx10).ok) rfl rfl rfl rfl rfl rfl (n' ?_)
      refine C0.step rfl (j0:=1) (js:=[4]) (by kernel_rfl) ⟨⟨_,rfl,?_⟩,⟨_,rfl,?_⟩,trivial⟩
      ·refine e' rfl ?_
       refine C0.step rfl (j0:=4) (js:=[]) (by kernel_rfl) ⟨⟨_,rfl,?_⟩,trivial⟩
       refine F0.be hC rfl (D0.rows_map [x10.1]).symm (n' ?_)
       refine C0.step rfl (j0:=5) (js:=[]) (by kernel_rfl) ⟨⟨_,rfl,?_⟩,trivial⟩
       refine F0.ap hC rfl (rs:=D0.rows (o2_Vars++[x10.1])) (D0.app o2_Vars [x10.1]) (D0.sz o2_Vars) (D0.sz [x10.1]) (P1 (D0.len o2_Vars) (D0.len [x10.1]) c35) (n' ?_)
       refine C0.step rfl (j0:=6) (js:=[]) (by kernel_rfl) ⟨⟨_,rfl,?_⟩,trivial⟩
       refine e' rfl ?_
       refine C0.step rfl (j0:=7) (js:=[]) (by kernel_rfl) ⟨⟨_,rfl,?_⟩,trivial⟩
       exact F0.s hC rfl (n' (C0.nil (by kernel_rfl) (lw' (ih0 _ _ _ hh) rfl rfl rfl)))
      ·refine F0.be hC rfl (D0.rows_map [x10.1]).symm (n' ?_)
       refine C0.step rfl (j0:=1) (js:=[]) (by kernel_rfl) ⟨⟨_,rfl,?_⟩,trivial⟩
       refine e' rfl ?_
       refine C0.step rfl (j0:=5) (js:=[]) (by kernel_rfl) ⟨⟨_,rfl,?_⟩,trivial⟩
       refine F0.ap hC rfl (rs:=D0.rows (o2_Vars++[x10.1])) (D0.app o2_Vars [x10.1]) (D0.sz o2_Vars) (D0.sz [x10.1]) (P1 (D0.len o2_Vars) (D0.len [x10.1]) c35) (n' ?_)
       refine C0.step rfl (j0:=6) (js:=[]) (by kernel_rfl) ⟨⟨_,rfl,?_⟩,trivial⟩
       refine e' rfl ?_
       refine C0.step rfl (j0:=7) (js:=[]) (by kernel_rfl) ⟨⟨_,rfl,?_⟩,trivial⟩
       exact F0.s hC rfl (n' (C0.nil (by kernel_rfl) (lw' (ih0 _ _ _ hh) rfl rfl rfl)))
    ·refine g' [0] ((B2 hx10).ok) rfl rfl rfl rfl rfl rfl (n' ?_)
     refine C0.step rfl (j0:=0) (js:=[4]) (by kernel_rfl) ⟨⟨_,rfl,?_⟩,⟨_,rfl,?_⟩,trivial⟩
     ·refine e' rfl ?_
      refine C0.step rfl (j0:=1) (js:=[4]) (by kernel_rfl) ⟨⟨_,rfl,?_⟩,⟨_,rfl,?_⟩,trivial⟩
      ·refine e' rfl ?_
       refine C0.step rfl (j0:=4) (js:=[]) (by kernel_rfl) ⟨⟨_,rfl,?_⟩,trivial⟩
       refine F0.be hC rfl (D0.rows_map [x10.1]).symm (n' ?_)
       refine C0.step rfl (j0:=5) (js:=[]) (by kernel_rfl) ⟨⟨_,rfl,?_⟩,trivial⟩
       refine F0.ap hC rfl (rs:=D0.rows (o2_Vars++[x10.1])) (D0.app o2_Vars [x10.1]) (D0.sz o2_Vars) (D0.sz [x10.1]) (P1 (D0.len o2_Vars) (D0.len [x10.1]) c35) (n' ?_)
       refine C0.step rfl (j0:=6) (js:=[]) (by kernel_rfl) ⟨⟨_,rfl,?_⟩,trivial⟩
       refine e' rfl ?_
       refine C0.step rfl (j0:=7) (js:=[]) (by kernel_rfl) ⟨⟨_,rfl,?_⟩,trivial⟩
       exact F0.s hC rfl (n' (C0.nil (by kernel_rfl) (lw' (ih0 _ _ _ hh) rfl rfl rfl)))
      ·refine F0.be hC rfl (D0.rows_map [x10.1]).symm (n' ?_)
       refine C0.step rfl (j0:=1) (js:=[]) (by kernel_rfl) ⟨⟨_,rfl,?_⟩,trivial⟩
       refine e' rfl ?_
       refine C0.step rfl (j0:=5) (js:=[]) (by kernel_rfl) ⟨⟨_,rfl,?_⟩,trivial⟩
       refine F0.ap hC rfl (rs:=D0.rows (o2_Vars++[x10.1])) (D0.app o2_Vars [x10.1]) (D0.sz o2_Vars) (D0.sz [x10.1]) (P1 (D0.len o2_Vars) (D0.len [x10.1]) c35) (n' ?_)
       refine C0.step rfl (j0:=6) (js:=[]) (by kernel_rfl) ⟨⟨_,rfl,?_⟩,trivial⟩
       refine e' rfl ?_
       refine C0.step rfl (j0:=7) (js:=[]) (by kernel_rfl) ⟨⟨_,rfl,?_⟩,trivial⟩
       exact F0.s hC rfl (n' (C0.nil (by kernel_rfl) (lw' (ih0 _ _ _ hh) rfl rfl rfl)))
     ·refine F0.be hC rfl (D0.rows_map [x10.1]).symm (n' ?_)
      refine C0.step rfl (j0:=0) (js:=[]) (by kernel_rfl) ⟨⟨_,rfl,?_⟩,trivial⟩
      refine e' rfl ?_
      refine C0.step rfl (j0:=1) (js:=[]) (by kernel_rfl) ⟨⟨_,rfl,?_⟩,trivial⟩
      refine e' rfl ?_
      refine C0.step rfl (j0:=5) (js:=[]) (by kernel_rfl) ⟨⟨_,rfl,?_⟩,trivial⟩
      refine F0.ap hC rfl (rs:=D0.rows (o2_Vars++[x10.1])) (D0.app o2_Vars [x10.1]) (D0.sz o2_Vars) (D0.sz [x10.1]) (P1 (D0.len o2_Vars) (D0.len [x10.1]) c35) (n' ?_)
      refine C0.step rfl (j0:=6) (js:=[]) (by kernel_rfl) ⟨⟨_,rfl,?_⟩,trivial⟩
      refine e' rfl ?_
      refine C0.step rfl (j0:=7) (js:=[]) (by kernel_rfl) ⟨⟨_,rfl,?_⟩,trivial⟩
      exact F0.s hC rfl (n' (C0.nil (by kernel_rfl) (lw' (ih0 _ _ _ hh) rfl rfl rfl)))
  refine ex' (p' 1 rfl ?_)
  rcases bp' hh with ⟨nn,hx11,⟨⟩⟩ | ⟨x11,hx11,hh⟩
  ·exact gn' [0] (M9 hx11) rfl rfl rfl rfl rfl (fun hi=>peW ⟨trivial,trivial⟩ rfl hi)
  refine g' [0] ((M9 hx11).ok) rfl rfl rfl rfl rfl rfl (q' rfl (F0.s hC rfl (n' (p' 1 rfl ?_))))
  rcases bp' hh with ⟨nn,hx12,⟨⟩⟩ | ⟨x12,hx12,hh⟩
  ·exact gn' [0] (L0 hx12) rfl rfl rfl rfl rfl (fun hi=>peW ⟨trivial,trivial⟩ rfl hi)
  refine g' [0] ((L0 hx12).ok) rfl rfl rfl rfl rfl rfl (n' (p' 1 rfl ?_))
  rcases bp' hh with ⟨nn,hx13,⟨⟩⟩ | ⟨x13,hx13,hh⟩
  ·exact gn' [0] (S0 hx13) rfl rfl rfl rfl rfl (fun hi=>peW ⟨trivial,trivial⟩ rfl hi)
  refine g' [0] ((S0 hx13).ok) rfl rfl rfl rfl rfl rfl (q' rfl (F0.s hC rfl (n' (p' 1 rfl ?_))))
  rcases bp' hh with ⟨nn,hx14,⟨⟩⟩ | ⟨x14,hx14,hh⟩
  ·exact gn' [0] (L0 hx14) rfl rfl rfl rfl rfl (fun hi=>peW ⟨trivial,trivial⟩ rfl hi)
  refine g' [0] ((L0 hx14).ok) rfl rfl rfl rfl rfl rfl (n' (p' 1 rfl ?_))
  rcases bp' hh with ⟨nn,hx15,⟨⟩⟩ | ⟨x15,hx15,hh⟩
  ·exact gn' [0] (L0 hx15) rfl rfl rfl rfl rfl (fun hi=>peW ⟨trivial,trivial⟩ rfl hi)
  refine g' [0] ((L0 hx15).ok) rfl rfl rfl rfl rfl rfl (n' (p' 1 rfl (F0.s hC rfl (n' (re' ?_)))))
  obtain rfl:=oi' hh
  exact ⟨_,.agg [.d (.int .i64 6),.d (.str x1.1),.d (.int .i64 x7.1.Kind),.d (.int .i64 x7.1.Low),.d (.int .i64 x7.1.High),.d (.int .i64 x7.1.Size),.d (.str x7.1.Name),.d (.sl (estr.rows x7.1.Names)),.d (.sl (J0.rows x7.1.Of)),.d (.int .i64 0),.d (.int .i64 x13.1.Op),.d (.int .i64 x13.1.NV),.d (.str x13.1.Name),.d (.sl (A0.rows x13.1.Kids)),.d (.sl (D0.rows o2_Params2)),.d (.sl (D0.rows o2_Vars)),.d (.sl (E0.rows x11.1))],[.row (B0.cells x15) 99],rfl,(.aggL ⟨.rfl,.rfl,.rfl,.rfl,.rfl,.rfl,.rfl,.rfl,.rfl,.rfl,.rfl,.rfl,.rfl,.rfl,.osl,.osl,.rfl,trivial⟩),⟨⟨rfl,.refl _,rfl⟩,trivial⟩,rfl,rfl,rpq rfl rfl⟩
theorem Wn {o02 x1 x7 o2_Params2 o2_Vars res}(hh:D5 o02 x1 x7 o2_Params2 o2_Vars=some res):Lh o02 x1 x7 o2_Params2 o2_Vars res:=(Zm x1 x7 o2_Params2) _ _ _ hh
def E5 (o01:B0)(x1:Str×B0)(o2_Params1:List D0):Option (Pn (D0×B0)):=
 R0 [41] o01>>=fun x5=>match x5 with
 | .pn nn=>
 some (.pn nn)
 | .ok x5=>
 R0 [58] x5>>=fun x6=>match x6 with
 | .pn nn=>
 some (.pn nn)
 | .ok x6=>
 A5 x6>>=fun x7=>match x7 with
 | .pn nn=>
 some (.pn nn)
 | .ok x7=>
 R0 [123] x7.2>>=fun x8=>match x8 with
 | .pn nn=>
 some (.pn nn)
 | .ok x8=>
 D5 x8 x1 x7 o2_Params1 []
theorem Rg {o01 x1 o2_Params1 res}(hh:E5 o01 x1 o2_Params1=some res):JMp C 58 1 Tryz.f141 [1,1,1,1] [(0,.ref 0 0),(2,.ref 1 0),(3,.ref 2 0)] [.row (B0.cells o01) 99,.row [.d (.int .i64 0),.d (.str []),.d (.int .i64 0),.d (.int .i64 0),.d (.int .i64 0),.d (.int .i64 0),.d (.str []),.full (estr.rows []),.full (J0.rows []),.d (.int .i64 0),.d (.int .i64 0),.d (.int .i64 0),.d (.str []),.full (A0.rows []),.full (D0.rows []),.full (D0.rows []),.full (E0.rows [])] 128,.row [.d (.int .i64 6),.d (.str x1.1),.d (.int .i64 0),.d (.int .i64 0),.d (.int .i64 0),.d (.int .i64 0),.d (.str []),.full (estr.rows []),.full (J0.rows []),.d (.int .i64 0),.d (.int .i64 0),.d (.int .i64 0),.d (.str []),.full (A0.rows []),.osl 3 (D0.rows o2_Params1),.osl 4 (D0.rows []),.full (E0.rows [])] 128,.tok 128 17,.tok 128 17] (P4 res (fun rr=>[.row (B0.cells rr.2) 99]) (fun rr=>.agg (D0.cells rr.1))) (J4 res F3 [.dead]):=by
 unfold E5 at hh
 refine p' 1 rfl ?_
 rcases bp' hh with ⟨nn,hx5,⟨⟩⟩ | ⟨x5,hx5,hh⟩
 ·exact gn' [0] (L0 hx5) rfl rfl rfl rfl rfl (fun hi=>peW ⟨trivial,trivial⟩ rfl hi)
 refine g' [0] ((L0 hx5).ok) rfl rfl rfl rfl rfl rfl (n' (p' 1 rfl ?_))
 rcases bp' hh with ⟨nn,hx6,⟨⟩⟩ | ⟨x6,hx6,hh⟩
 ·exact gn' [0] (L0 hx6) rfl rfl rfl rfl rfl (fun hi=>peW ⟨trivial,trivial⟩ rfl hi)
 refine g' [0] ((L0 hx6).ok) rfl rfl rfl rfl rfl rfl (n' (p' 1 rfl ?_))
 rcases bp' hh with ⟨nn,hx7,⟨⟩⟩ | ⟨x7,hx7,hh⟩
 ·exact gn' [0] (B9 hx7) rfl rfl rfl rfl rfl (fun hi=>peW ⟨trivial,trivial⟩ rfl hi)
 refine g' [0] ((B9 hx7).ok) rfl rfl rfl rfl rfl rfl (q' rfl (F0.s hC rfl (n' (p' 1 rfl ?_))))
 rcases bp' hh with ⟨nn,hx8,⟨⟩⟩ | ⟨x8,hx8,hh⟩
 ·exact gn' [0] (L0 hx8) rfl rfl rfl rfl rfl (fun hi=>peW ⟨trivial,trivial⟩ rfl hi)
 exact g' [0] ((L0 hx8).ok) rfl rfl rfl rfl rfl rfl (n' (S' (bk' (fw' (Wn hh) rfl rfl rfl))))
def F5 (o0:B0)(x1:Str×B0)(o2_Params:List D0):Option (Pn (D0×B0)):=
 O0 [44] o0>>=fun x16=>
 if x16.1=true then
  U2 4 x16.2>>=fun x17=>match x17 with
  | .pn nn=>
  some (.pn nn)
  | .ok x17=>
  if (decide ((o2_Params.length+1) * 257≤140737488355328))=true then
   F5 x17.2 x1 (o2_Params++[x17.1])
  else none
 else
  E5 x16.2 x1 o2_Params
 partial_fixpoint
abbrev Mh (o0:B0)(x1:Str×B0)(o2_Params:List D0)(res:Pn (D0×B0)):Prop:=LMp C 58 1 Tryz.f141 [1,1,1,0,1,2,1,4] [(0,.ref 0 0),(2,.ref 1 0),(3,.ref 2 0)] [.row (B0.cells o0) 99,.row [.d (.int .i64 0),.d (.str []),.d (.int .i64 0),.d (.int .i64 0),.d (.int .i64 0),.d (.int .i64 0),.d (.str []),.full (estr.rows []),.full (J0.rows []),.d (.int .i64 0),.d (.int .i64 0),.d (.int .i64 0),.d (.str []),.full (A0.rows []),.full (D0.rows []),.full (D0.rows []),.full (E0.rows [])] 128,.row [.d (.int .i64 6),.d (.str x1.1),.d (.int .i64 0),.d (.int .i64 0),.d (.int .i64 0),.d (.int .i64 0),.d (.str []),.full (estr.rows []),.full (J0.rows []),.d (.int .i64 0),.d (.int .i64 0),.d (.int .i64 0),.d (.str []),.full (A0.rows []),.osl 3 (D0.rows o2_Params),.osl 4 (D0.rows []),.full (E0.rows [])] 128,.tok 128 17,.tok 128 17] (P4 res (fun rr=>[.row (B0.cells rr.2) 99]) (fun rr=>.agg (D0.cells rr.1))) (J4 res F3 [.dead])
theorem An (x1:Str×B0):(∀ o0 o2_Params res,F5 o0 x1 o2_Params=some res→Mh o0 x1 o2_Params res):=by
 refine F5.partial_correctness x1 _ ?_
 ·intro g0 ih0 o0 o2_Params res hh
  obtain ⟨x16,hx16,hh⟩:=bs' hh
  refine A1.unroll (S' (p' 1 rfl (g' [0] (P0 hx16) rfl rfl rfl rfl rfl rfl (n' (ci' rfl hh (fun hh=>?_) (fun hh=>?_))))))
  ·refine sk' (bk' ?_)
   rcases bp' hh with ⟨nn,hx17,⟨⟩⟩ | ⟨x17,hx17,hh⟩
   ·refine AEx.drawE hC ?_
    refine C0.step rfl (j0:=0) (js:=[2]) (by kernel_rfl) ⟨⟨_,rfl,?_⟩,⟨_,rfl,?_⟩,trivial⟩
    ·refine e' rfl ?_
     refine C0.step rfl (j0:=1) (js:=[2]) (by kernel_rfl) ⟨⟨_,rfl,?_⟩,⟨_,rfl,?_⟩,trivial⟩
     ·refine e' rfl ?_
      refine C0.step rfl (j0:=2) (js:=[]) (by kernel_rfl) ⟨⟨_,rfl,?_⟩,trivial⟩
      refine e' rfl ?_
      refine C0.step rfl (j0:=3) (js:=[]) (by kernel_rfl) ⟨⟨_,rfl,?_⟩,trivial⟩
      exact gn' [0] (V0 hx17) rfl rfl rfl rfl rfl (fun hi=>peW ⟨trivial,trivial⟩ rfl hi)
     ·refine e' rfl ?_
      refine C0.step rfl (j0:=1) (js:=[3]) (by kernel_rfl) ⟨⟨_,rfl,?_⟩,⟨_,rfl,?_⟩,trivial⟩
      ·refine e' rfl ?_
       refine C0.step rfl (j0:=3) (js:=[]) (by kernel_rfl) ⟨⟨_,rfl,?_⟩,trivial⟩
       exact gn' [0] (V0 hx17) rfl rfl rfl rfl rfl (fun hi=>peW ⟨trivial,trivial⟩ rfl hi)
      ·exact gn' [0] (V0 hx17) rfl rfl rfl rfl rfl (fun hi=>peW ⟨trivial,trivial⟩ rfl hi)
    ·refine e' rfl ?_
     refine C0.step rfl (j0:=0) (js:=[3]) (by kernel_rfl) ⟨⟨_,rfl,?_⟩,⟨_,rfl,?_⟩,trivial⟩
     ·refine e' rfl ?_
      refine C0.step rfl (j0:=1) (js:=[3]) (by kernel_rfl) ⟨⟨_,rfl,?_⟩,⟨_,rfl,?_⟩,trivial⟩
      ·refine e' rfl ?_
       refine C0.step rfl (j0:=3) (js:=[]) (by kernel_rfl) ⟨⟨_,rfl,?_⟩,trivial⟩
       exact gn' [0] (V0 hx17) rfl rfl rfl rfl rfl (fun hi=>peW ⟨trivial,trivial⟩ rfl hi)
      ·exact gn' [0] (V0 hx17) rfl rfl rfl rfl rfl (fun hi=>peW ⟨trivial,trivial⟩ rfl hi)
     ·exact gn' [0] (V0 hx17) rfl rfl rfl rfl rfl (fun hi=>peW ⟨trivial,trivial⟩ rfl hi)
   obtain ⟨c34,hh⟩:=I4 hh
   refine AEx.drawE hC ?_
   refine C0.step rfl (j0:=0) (js:=[2]) (by kernel_rfl) ⟨⟨_,rfl,?_⟩,⟨_,rfl,?_⟩,trivial⟩
   ·refine e' rfl ?_
    refine C0.step rfl (j0:=1) (js:=[2]) (by kernel_rfl) ⟨⟨_,rfl,?_⟩,⟨_,rfl,?_⟩,trivial⟩
    ·refine e' rfl ?_
     refine C0.step rfl (j0:=2) (js:=[]) (by kernel_rfl) ⟨⟨_,rfl,?_⟩,trivial⟩
     refine e' rfl ?_
     refine C0.step rfl (j0:=3) (js:=[]) (by kernel_rfl) ⟨⟨_,rfl,?_⟩,trivial⟩
     refine g' [0] ((V0 hx17).ok) rfl rfl rfl rfl rfl rfl (n' ?_)
     refine C0.step rfl (j0:=4) (js:=[]) (by kernel_rfl) ⟨⟨_,rfl,?_⟩,trivial⟩
     refine F0.be hC rfl (D0.rows_map [x17.1]).symm (n' ?_)
     refine C0.step rfl (j0:=5) (js:=[]) (by kernel_rfl) ⟨⟨_,rfl,?_⟩,trivial⟩
     refine F0.ap hC rfl (rs:=D0.rows (o2_Params++[x17.1])) (D0.app o2_Params [x17.1]) (D0.sz o2_Params) (D0.sz [x17.1]) (P1 (D0.len o2_Params) (D0.len [x17.1]) c34) (n' ?_)
     refine C0.step rfl (j0:=6) (js:=[]) (by kernel_rfl) ⟨⟨_,rfl,?_⟩,trivial⟩
     refine e' rfl ?_
     refine C0.step rfl (j0:=7) (js:=[]) (by kernel_rfl) ⟨⟨_,rfl,?_⟩,trivial⟩
     exact F0.s hC rfl (n' (C0.nil (by kernel_rfl) (lw' (ih0 _ _ _ hh) rfl rfl rfl)))
    ·refine e' rfl ?_
     refine C0.step rfl (j0:=1) (js:=[3]) (by kernel_rfl) ⟨⟨_,rfl,?_⟩,⟨_,rfl,?_⟩,trivial⟩
     ·refine e' rfl ?_
      refine C0.step rfl (j0:=3) (js:=[]) (by kernel_rfl) ⟨⟨_,rfl,?_⟩,trivial⟩
      refine g' [0] ((V0 hx17).ok) rfl rfl rfl rfl rfl rfl (n' ?_)
      refine C0.step rfl (j0:=4) (js:=[]) (by kernel_rfl) ⟨⟨_,rfl,?_⟩,trivial⟩
      refine F0.be hC rfl (D0.rows_map [x17.1]).symm (n' ?_)
      refine C0.step rfl (j0:=5) (js:=[]) (by kernel_rfl) ⟨⟨_,rfl,?_⟩,trivial⟩
      refine F0.ap hC rfl (rs:=D0.rows (o2_Params++[x17.1])) (D0.app o2_Params [x17.1]) (D0.sz o2_Params) (D0.sz [x17.1]) (P1 (D0.len o2_Params) (D0.len [x17.1]) c34) (n' ?_)
      refine C0.step rfl (j0:=6) (js:=[]) (by kernel_rfl) ⟨⟨_,rfl,?_⟩,trivial⟩
      refine e' rfl ?_
      refine C0.step rfl (j0:=7) (js:=[]) (by kernel_rfl) ⟨⟨_,rfl,?_⟩,trivial⟩
      exact F0.s hC rfl (n' (C0.nil (by kernel_rfl) (lw' (ih0 _ _ _ hh) rfl rfl rfl)))
     ·refine g' [0] ((V0 hx17).ok) rfl rfl rfl rfl rfl rfl (n' ?_)
      refine C0.step rfl (j0:=1) (js:=[4]) (by kernel_rfl) ⟨⟨_,rfl,?_⟩,⟨_,rfl,?_⟩,trivial⟩
      ·refine e' rfl ?_
       refine C0.step rfl (j0:=4) (js:=[]) (by kernel_rfl) ⟨⟨_,rfl,?_⟩,trivial⟩
       refine F0.be hC rfl (D0.rows_map [x17.1]).symm (n' ?_)
       refine C0.step rfl (j0:=5) (js:=[]) (by kernel_rfl) ⟨⟨_,rfl,?_⟩,trivial⟩
       refine F0.ap hC rfl (rs:=D0.rows (o2_Params++[x17.1])) (D0.app o2_Params [x17.1]) (D0.sz o2_Params) (D0.sz [x17.1]) (P1 (D0.len o2_Params) (D0.len [x17.1]) c34) (n' ?_)
       refine C0.step rfl (j0:=6) (js:=[]) (by kernel_rfl) ⟨⟨_,rfl,?_⟩,trivial⟩
       refine e' rfl ?_
       refine C0.step rfl (j0:=7) (js:=[]) (by kernel_rfl) ⟨⟨_,rfl,?_⟩,trivial⟩
       exact F0.s hC rfl (n' (C0.nil (by kernel_rfl) (lw' (ih0 _ _ _ hh) rfl rfl rfl)))
      ·refine F0.be hC rfl (D0.rows_map [x17.1]).symm (n' ?_)
       refine C0.step rfl (j0:=1) (js:=[]) (by kernel_rfl) ⟨⟨_,rfl,?_⟩,trivial⟩
       refine e' rfl ?_
       refine C0.step rfl (j0:=5) (js:=[]) (by kernel_rfl) ⟨⟨_,rfl,?_⟩,trivial⟩
       refine F0.ap hC rfl (rs:=D0.rows (o2_Params++[x17.1])) (D0.app o2_Params [x17.1]) (D0.sz o2_Params) (D0.sz [x17.1]) (P1 (D0.len o2_Params) (D0.len [x17.1]) c34) (n' ?_)
       refine C0.step rfl (j0:=6) (js:=[]) (by kernel_rfl) ⟨⟨_,rfl,?_⟩,trivial⟩
       refine e' rfl ?_
       refine C0.step rfl (j0:=7) (js:=[]) (by kernel_rfl) ⟨⟨_,rfl,?_⟩,trivial⟩
       exact F0.s hC rfl (n' (C0.nil (by kernel_rfl) (lw' (ih0 _ _ _ hh) rfl rfl rfl)))
   ·refine e' rfl ?_
    refine C0.step rfl (j0:=0) (js:=[3]) (by kernel_rfl) ⟨⟨_,rfl,?_⟩,⟨_,rfl,?_⟩,trivial⟩
    ·refine e' rfl ?_
     refine C0.step rfl (j0:=1) (js:=[3]) (by kernel_rfl) ⟨⟨_,rfl,?_⟩,⟨_,rfl,?_⟩,trivial⟩
     ·refine e' rfl ?_
      refine C0.step rfl (j0:=3) (js:=[]) (by kernel_rfl) ⟨⟨_,rfl,?_⟩,trivial⟩
      refine g' [0] ((V0 hx17).ok) rfl rfl rfl rfl rfl rfl (n' ?_)
      refine C0.step rfl (j0:=4) (js:=[]) (by kernel_rfl) ⟨⟨_,rfl,?_⟩,trivial⟩
      refine F0.be hC rfl (D0.rows_map [x17.1]).symm (n' ?_)
      refine C0.step rfl (j0:=5) (js:=[]) (by kernel_rfl) ⟨⟨_,rfl,?_⟩,trivial⟩
      refine F0.ap hC rfl (rs:=D0.rows (o2_Params++[x17.1])) (D0.app o2_Params [x17.1]) (D0.sz o2_Params) (D0.sz [x17.1]) (P1 (D0.len o2_Params) (D0.len [x17.1]) c34) (n' ?_)
      refine C0.step rfl (j0:=6) (js:=[]) (by kernel_rfl) ⟨⟨_,rfl,?_⟩,trivial⟩
      refine e' rfl ?_
      refine C0.step rfl (j0:=7) (js:=[]) (by kernel_rfl) ⟨⟨_,rfl,?_⟩,trivial⟩
      exact F0.s hC rfl (n' (C0.nil (by kernel_rfl) (lw' (ih0 _ _ _ hh) rfl rfl rfl)))
     ·refine g' [0] ((V0 hx17).ok) rfl rfl rfl rfl rfl rfl (n' ?_)
      refine C0.step rfl (j0:=1) (js:=[4]) (by kernel_rfl) ⟨⟨_,rfl,?_⟩,⟨_,rfl,?_⟩,trivial⟩
      ·refine e' rfl ?_
       refine C0.step rfl (j0:=4) (js:=[]) (by kernel_rfl) ⟨⟨_,rfl,?_⟩,trivial⟩
       refine F0.be hC rfl (D0.rows_map [x17.1]).symm (n' ?_)
       refine C0.step rfl (j0:=5) (js:=[]) (by kernel_rfl) ⟨⟨_,rfl,?_⟩,trivial⟩
       refine F0.ap hC rfl (rs:=D0.rows (o2_Params++[x17.1])) (D0.app o2_Params [x17.1]) (D0.sz o2_Params) (D0.sz [x17.1]) (P1 (D0.len o2_Params) (D0.len [x17.1]) c34) (n' ?_)
       refine C0.step rfl (j0:=6) (js:=[]) (by kernel_rfl) ⟨⟨_,rfl,?_⟩,trivial⟩
       refine e' rfl ?_
       refine C0.step rfl (j0:=7) (js:=[]) (by kernel_rfl) ⟨⟨_,rfl,?_⟩,trivial⟩
       exact F0.s hC rfl (n' (C0.nil (by kernel_rfl) (lw' (ih0 _ _ _ hh) rfl rfl rfl)))
      ·refine F0.be hC rfl (D0.rows_map [x17.1]).symm (n' ?_)
       refine C0.step rfl (j0:=1) (js:=[]) (by kernel_rfl) ⟨⟨_,rfl,?_⟩,trivial⟩
       refine e' rfl ?_
       refine C0.step rfl (j0:=5) (js:=[]) (by kernel_rfl) ⟨⟨_,rfl,?_⟩,trivial⟩
       refine F0.ap hC rfl (rs:=D0.rows (o2_Params++[x17.1])) (D0.app o2_Params [x17.1]) (D0.sz o2_Params) (D0.sz [x17.1]) (P1 (D0.len o2_Params) (D0.len [x17.1]) c34) (n' ?_)
       refine C0.step rfl (j0:=6) (js:=[]) (by kernel_rfl) ⟨⟨_,rfl,?_⟩,trivial⟩
       refine e' rfl ?_
       refine C0.step rfl (j0:=7) (js:=[]) (by kernel_rfl) ⟨⟨_,rfl,?_⟩,trivial⟩
       exact F0.s hC rfl (n' (C0.nil (by kernel_rfl) (lw' (ih0 _ _ _ hh) rfl rfl rfl)))
    ·refine g' [0] ((V0 hx17).ok) rfl rfl rfl rfl rfl rfl (n' ?_)
     refine C0.step rfl (j0:=0) (js:=[4]) (by kernel_rfl) ⟨⟨_,rfl,?_⟩,⟨_,rfl,?_⟩,trivial⟩
     ·refine e' rfl ?_
      refine C0.step rfl (j0:=1) (js:=[4]) (by kernel_rfl) ⟨⟨_,rfl,?_⟩,⟨_,rfl,?_⟩,trivial⟩
      ·refine e' rfl ?_
       refine C0.step rfl (j0:=4) (js:=[]) (by kernel_rfl) ⟨⟨_,rfl,?_⟩,trivial⟩
       refine F0.be hC rfl (D0.rows_map [x17.1]).symm (n' ?_)
       refine C0.step rfl (j0:=5) (js:=[]) (by kernel_rfl) ⟨⟨_,rfl,?_⟩,trivial⟩
       refine F0.ap hC rfl (rs:=D0.rows (o2_Params++[x17.1])) (D0.app o2_Params [x17.1]) (D0.sz o2_Params) (D0.sz [x17.1]) (P1 (D0.len o2_Params) (D0.len [x17.1]) c34) (n' ?_)
       refine C0.step rfl (j0:=6) (js:=[]) (by kernel_rfl) ⟨⟨_,rfl,?_⟩,trivial⟩
       refine e' rfl ?_
       refine C0.step rfl (j0:=7) (js:=[]) (by kernel_rfl) ⟨⟨_,rfl,?_⟩,trivial⟩
       exact F0.s hC rfl (n' (C0.nil (by kernel_rfl) (lw' (ih0 _ _ _ hh) rfl rfl rfl)))
      ·refine F0.be hC rfl (D0.rows_map [x17.1]).symm (n' ?_)
       refine C0.step rfl (j0:=1) (js:=[]) (by kernel_rfl) ⟨⟨_,rfl,?_⟩,trivial⟩
       refine e' rfl ?_
       refine C0.step rfl (j0:=5) (js:=[]) (by kernel_rfl) ⟨⟨_,rfl,?_⟩,trivial⟩
       refine F0.ap hC rfl (rs:=D0.rows (o2_Params++[x17.1])) (D0.app o2_Params [x17.1]) (D0.sz o2_Params) (D0.sz [x17.1]) (P1 (D0.len o2_Params) (D0.len [x17.1]) c34) (n' ?_)
       refine C0.step rfl (j0:=6) (js:=[]) (by kernel_rfl) ⟨⟨_,rfl,?_⟩,trivial⟩
       refine e' rfl ?_
       refine C0.step rfl (j0:=7) (js:=[]) (by kernel_rfl) ⟨⟨_,rfl,?_⟩,trivial⟩
       exact F0.s hC rfl (n' (C0.nil (by kernel_rfl) (lw' (ih0 _ _ _ hh) rfl rfl rfl)))
     ·refine F0.be hC rfl (D0.rows_map [x17.1]).symm (n' ?_)
      refine C0.step rfl (j0:=0) (js:=[]) (by kernel_rfl) ⟨⟨_,rfl,?_⟩,trivial⟩
      refine e' rfl ?_
      refine C0.step rfl (j0:=1) (js:=[]) (by kernel_rfl) ⟨⟨_,rfl,?_⟩,trivial⟩
      refine e' rfl ?_
      refine C0.step rfl (j0:=5) (js:=[]) (by kernel_rfl) ⟨⟨_,rfl,?_⟩,trivial⟩
      refine F0.ap hC rfl (rs:=D0.rows (o2_Params++[x17.1])) (D0.app o2_Params [x17.1]) (D0.sz o2_Params) (D0.sz [x17.1]) (P1 (D0.len o2_Params) (D0.len [x17.1]) c34) (n' ?_)
      refine C0.step rfl (j0:=6) (js:=[]) (by kernel_rfl) ⟨⟨_,rfl,?_⟩,trivial⟩
      refine e' rfl ?_
      refine C0.step rfl (j0:=7) (js:=[]) (by kernel_rfl) ⟨⟨_,rfl,?_⟩,trivial⟩
      exact F0.s hC rfl (n' (C0.nil (by kernel_rfl) (lw' (ih0 _ _ _ hh) rfl rfl rfl)))
  exact ex' (ew' (Rg hh) rfl rfl rfl)
theorem Xn {o0 x1 o2_Params res}(hh:F5 o0 x1 o2_Params=some res):Mh o0 x1 o2_Params res:=(An x1) _ _ _ hh
end Go.Proofs.YtmnhfbekncjnfaaGreatDoor

set_option maxRecDepth 100000
set_option maxHeartbeats 4000000
set_option synthInstance.maxSize 20000
set_option linter.unusedVariables false
namespace Go.Proofs.YtmnhfbekncjnfaaGreatDoor
open Go.Am
def Xa (x4:D0×B0)(x1:Str×B0):Option (Pn (D0×B0)):=
 F5 x4.2 x1 [x4.1]
theorem S2 {x4 x1 res}(hh:Xa x4 x1=some res):JMp C 58 1 Tryz.f141 [1,1,1,0,1,2,1] [(0,.ref 0 0),(2,.ref 1 0),(3,.ref 2 0)] [.row (B0.cells x4.2) 99,.row [.d (.int .i64 0),.d (.str []),.d (.int .i64 0),.d (.int .i64 0),.d (.int .i64 0),.d (.int .i64 0),.d (.str []),.full (estr.rows []),.full (J0.rows []),.d (.int .i64 0),.d (.int .i64 0),.d (.int .i64 0),.d (.str []),.full (A0.rows []),.full (D0.rows []),.full (D0.rows []),.full (E0.rows [])] 128,.row [.d (.int .i64 6),.d (.str x1.1),.d (.int .i64 0),.d (.int .i64 0),.d (.int .i64 0),.d (.int .i64 0),.d (.str []),.full (estr.rows []),.full (J0.rows []),.d (.int .i64 0),.d (.int .i64 0),.d (.int .i64 0),.d (.str []),.full (A0.rows []),.osl 3 (D0.rows [x4.1]),.osl 4 (D0.rows []),.full (E0.rows [])] 128,.tok 128 17,.tok 128 17] (P4 res (fun rr=>[.row (B0.cells rr.2) 99]) (fun rr=>.agg (D0.cells rr.1))) (J4 res F3 [.dead]):=by
 unfold Xa at hh
 exact bk' (fw' (Xn hh) rfl rfl rfl)
def Z9 (parserParser:B0):Option (Pn (D0×B0)):=
 T2 parserParser>>=fun x1=>match x1 with
 | .pn nn=>
 some (.pn nn)
 | .ok x1=>
 R0 [40] x1.2>>=fun x2=>match x2 with
 | .pn nn=>
 some (.pn nn)
 | .ok x2=>
 B5 x2>>=fun x3=>
 if x3=true then
  U2 4 x2>>=fun x4=>match x4 with
  | .pn nn=>
  some (.pn nn)
  | .ok x4=>
  if (decide ((0+1) * 257≤140737488355328))=true then
   Xa x4 x1
  else none
 else
  E5 x2 x1 []
theorem Zi {parserParser res}(hh:Z9 parserParser=some res):C2 C 141 [.ref 0 0] [.row (B0.cells parserParser) 99] (P4 res (fun rr=>[.row (B0.cells rr.2) 99]) (fun rr=>.agg (D0.cells rr.1))) (J4 res F3 [.dead]):=by
 unfold Z9 at hh
 refine C2.intro hC Tryz.func141 rfl rfl rfl (s' rfl rfl (F0.nf hC rfl (n' (p' 1 rfl ?_))))
 rcases bp' hh with ⟨nn,hx1,⟨⟩⟩ | ⟨x1,hx1,hh⟩
 ·exact gn' [0] (Z0 hx1) rfl rfl rfl rfl rfl (fun hi=>peW ⟨trivial,trivial⟩ rfl hi)
 refine g' [0] ((Z0 hx1).ok) rfl rfl rfl rfl rfl rfl (F0.bz hC rfl (F0.nf hC rfl (F0.s hC rfl (F0.tokC 2 14 128 17 rfl rfl rfl rfl rfl (F0.tokC 2 15 128 17 rfl rfl rfl rfl rfl (n' (p' 1 rfl ?_)))))))
 rcases bp' hh with ⟨nn,hx2,⟨⟩⟩ | ⟨x2,hx2,hh⟩
 ·exact gn' [0] (L0 hx2) rfl rfl rfl rfl rfl (fun hi=>peW ⟨trivial,trivial⟩ rfl hi)
 obtain ⟨x3,hx3,hh⟩:=bs' hh
 refine g' [0] ((L0 hx2).ok) rfl rfl rfl rfl rfl rfl (n' (S' (p' 1 rfl (g' [0] (We hx3) rfl rfl rfl rfl rfl rfl (n' (ci' rfl hh (fun hh=>?_) (fun hh=>?_)))))))
 ·refine S' ?_
  rcases bp' hh with ⟨nn,hx4,⟨⟩⟩ | ⟨x4,hx4,hh⟩
  ·refine AEx.drawE hC ?_
   refine C0.step rfl (j0:=0) (js:=[2]) (by kernel_rfl) ⟨⟨_,rfl,?_⟩,⟨_,rfl,?_⟩,trivial⟩
   ·refine e' rfl ?_
    refine C0.step rfl (j0:=1) (js:=[2]) (by kernel_rfl) ⟨⟨_,rfl,?_⟩,⟨_,rfl,?_⟩,trivial⟩
    ·refine e' rfl ?_
     refine C0.step rfl (j0:=2) (js:=[]) (by kernel_rfl) ⟨⟨_,rfl,?_⟩,trivial⟩
     refine e' rfl ?_
     refine C0.step rfl (j0:=3) (js:=[]) (by kernel_rfl) ⟨⟨_,rfl,?_⟩,trivial⟩
     exact gn' [0] (V0 hx4) rfl rfl rfl rfl rfl (fun hi=>peW ⟨trivial,trivial⟩ rfl hi)
    ·refine e' rfl ?_
     refine C0.step rfl (j0:=1) (js:=[3]) (by kernel_rfl) ⟨⟨_,rfl,?_⟩,⟨_,rfl,?_⟩,trivial⟩
     ·refine e' rfl ?_
      refine C0.step rfl (j0:=3) (js:=[]) (by kernel_rfl) ⟨⟨_,rfl,?_⟩,trivial⟩
      exact gn' [0] (V0 hx4) rfl rfl rfl rfl rfl (fun hi=>peW ⟨trivial,trivial⟩ rfl hi)
     ·exact gn' [0] (V0 hx4) rfl rfl rfl rfl rfl (fun hi=>peW ⟨trivial,trivial⟩ rfl hi)
   ·refine e' rfl ?_
    refine C0.step rfl (j0:=0) (js:=[3]) (by kernel_rfl) ⟨⟨_,rfl,?_⟩,⟨_,rfl,?_⟩,trivial⟩
    ·refine e' rfl ?_
     refine C0.step rfl (j0:=1) (js:=[3]) (by kernel_rfl) ⟨⟨_,rfl,?_⟩,⟨_,rfl,?_⟩,trivial⟩
     ·refine e' rfl ?_
      refine C0.step rfl (j0:=3) (js:=[]) (by kernel_rfl) ⟨⟨_,rfl,?_⟩,trivial⟩
      exact gn' [0] (V0 hx4) rfl rfl rfl rfl rfl (fun hi=>peW ⟨trivial,trivial⟩ rfl hi)
     ·exact gn' [0] (V0 hx4) rfl rfl rfl rfl rfl (fun hi=>peW ⟨trivial,trivial⟩ rfl hi)
    ·exact gn' [0] (V0 hx4) rfl rfl rfl rfl rfl (fun hi=>peW ⟨trivial,trivial⟩ rfl hi)
  obtain ⟨c33,hh⟩:=I4 hh
  refine AEx.drawE hC ?_
  refine C0.step rfl (j0:=0) (js:=[2]) (by kernel_rfl) ⟨⟨_,rfl,?_⟩,⟨_,rfl,?_⟩,trivial⟩
  ·refine e' rfl ?_
   refine C0.step rfl (j0:=1) (js:=[2]) (by kernel_rfl) ⟨⟨_,rfl,?_⟩,⟨_,rfl,?_⟩,trivial⟩
   ·refine e' rfl ?_
    refine C0.step rfl (j0:=2) (js:=[]) (by kernel_rfl) ⟨⟨_,rfl,?_⟩,trivial⟩
    refine e' rfl ?_
    refine C0.step rfl (j0:=3) (js:=[]) (by kernel_rfl) ⟨⟨_,rfl,?_⟩,trivial⟩
    refine g' [0] ((V0 hx4).ok) rfl rfl rfl rfl rfl rfl (n' ?_)
    refine C0.step rfl (j0:=4) (js:=[]) (by kernel_rfl) ⟨⟨_,rfl,?_⟩,trivial⟩
    refine F0.be hC rfl (D0.rows_map [x4.1]).symm (n' ?_)
    refine C0.step rfl (j0:=5) (js:=[]) (by kernel_rfl) ⟨⟨_,rfl,?_⟩,trivial⟩
    refine F0.ap hC rfl (rs:=D0.rows [x4.1]) rfl (D0.sz []) (D0.sz [x4.1]) (P1 (D0.len []) (D0.len [x4.1]) c33) (n' ?_)
    refine C0.step rfl (j0:=6) (js:=[]) (by kernel_rfl) ⟨⟨_,rfl,?_⟩,trivial⟩
    refine e' rfl ?_
    refine C0.step rfl (j0:=7) (js:=[]) (by kernel_rfl) ⟨⟨_,rfl,?_⟩,trivial⟩
    exact F0.s hC rfl (n' (C0.nil (by kernel_rfl) (ew' (S2 hh) rfl rfl rfl)))
   ·refine e' rfl ?_
    refine C0.step rfl (j0:=1) (js:=[3]) (by kernel_rfl) ⟨⟨_,rfl,?_⟩,⟨_,rfl,?_⟩,trivial⟩
    ·refine e' rfl ?_
     refine C0.step rfl (j0:=3) (js:=[]) (by kernel_rfl) ⟨⟨_,rfl,?_⟩,trivial⟩
     refine g' [0] ((V0 hx4).ok) rfl rfl rfl rfl rfl rfl (n' ?_)
     refine C0.step rfl (j0:=4) (js:=[]) (by kernel_rfl) ⟨⟨_,rfl,?_⟩,trivial⟩
     refine F0.be hC rfl (D0.rows_map [x4.1]).symm (n' ?_)
     refine C0.step rfl (j0:=5) (js:=[]) (by kernel_rfl) ⟨⟨_,rfl,?_⟩,trivial⟩
     refine F0.ap hC rfl (rs:=D0.rows [x4.1]) rfl (D0.sz []) (D0.sz [x4.1]) (P1 (D0.len []) (D0.len [x4.1]) c33) (n' ?_)
     refine C0.step rfl (j0:=6) (js:=[]) (by kernel_rfl) ⟨⟨_,rfl,?_⟩,trivial⟩
     refine e' rfl ?_
     refine C0.step rfl (j0:=7) (js:=[]) (by kernel_rfl) ⟨⟨_,rfl,?_⟩,trivial⟩
     exact F0.s hC rfl (n' (C0.nil (by kernel_rfl) (ew' (S2 hh) rfl rfl rfl)))
    ·refine g' [0] ((V0 hx4).ok) rfl rfl rfl rfl rfl rfl (n' ?_)
     refine C0.step rfl (j0:=1) (js:=[4]) (by kernel_rfl) ⟨⟨_,rfl,?_⟩,⟨_,rfl,?_⟩,trivial⟩
     ·refine e' rfl ?_
      refine C0.step rfl (j0:=4) (js:=[]) (by kernel_rfl) ⟨⟨_,rfl,?_⟩,trivial⟩
      refine F0.be hC rfl (D0.rows_map [x4.1]).symm (n' ?_)
      refine C0.step rfl (j0:=5) (js:=[]) (by kernel_rfl) ⟨⟨_,rfl,?_⟩,trivial⟩
      refine F0.ap hC rfl (rs:=D0.rows [x4.1]) rfl (D0.sz []) (D0.sz [x4.1]) (P1 (D0.len []) (D0.len [x4.1]) c33) (n' ?_)
      refine C0.step rfl (j0:=6) (js:=[]) (by kernel_rfl) ⟨⟨_,rfl,?_⟩,trivial⟩
      refine e' rfl ?_
      refine C0.step rfl (j0:=7) (js:=[]) (by kernel_rfl) ⟨⟨_,rfl,?_⟩,trivial⟩
      exact F0.s hC rfl (n' (C0.nil (by kernel_rfl) (ew' (S2 hh) rfl rfl rfl)))
     ·refine F0.be hC rfl (D0.rows_map [x4.1]).symm (n' ?_)
      refine C0.step rfl (j0:=1) (js:=[]) (by kernel_rfl) ⟨⟨_,rfl,?_⟩,trivial⟩
      refine e' rfl ?_
      refine C0.step rfl (j0:=5) (js:=[]) (by kernel_rfl) ⟨⟨_,rfl,?_⟩,trivial⟩
      refine F0.ap hC rfl (rs:=D0.rows [x4.1]) rfl (D0.sz []) (D0.sz [x4.1]) (P1 (D0.len []) (D0.len [x4.1]) c33) (n' ?_)
      refine C0.step rfl (j0:=6) (js:=[]) (by kernel_rfl) ⟨⟨_,rfl,?_⟩,trivial⟩
      refine e' rfl ?_
      refine C0.step rfl (j0:=7) (js:=[]) (by kernel_rfl) ⟨⟨_,rfl,?_⟩,trivial⟩
      exact F0.s hC rfl (n' (C0.nil (by kernel_rfl) (ew' (S2 hh) rfl rfl rfl)))
  ·refine e' rfl ?_
   refine C0.step rfl (j0:=0) (js:=[3]) (by kernel_rfl) ⟨⟨_,rfl,?_⟩,⟨_,rfl,?_⟩,trivial⟩
   ·refine e' rfl ?_
    refine C0.step rfl (j0:=1) (js:=[3]) (by kernel_rfl) ⟨⟨_,rfl,?_⟩,⟨_,rfl,?_⟩,trivial⟩
    ·refine e' rfl ?_
     refine C0.step rfl (j0:=3) (js:=[]) (by kernel_rfl) ⟨⟨_,rfl,?_⟩,trivial⟩
     refine g' [0] ((V0 hx4).ok) rfl rfl rfl rfl rfl rfl (n' ?_)
     refine C0.step rfl (j0:=4) (js:=[]) (by kernel_rfl) ⟨⟨_,rfl,?_⟩,trivial⟩
     refine F0.be hC rfl (D0.rows_map [x4.1]).symm (n' ?_)
     refine C0.step rfl (j0:=5) (js:=[]) (by kernel_rfl) ⟨⟨_,rfl,?_⟩,trivial⟩
     refine F0.ap hC rfl (rs:=D0.rows [x4.1]) rfl (D0.sz []) (D0.sz [x4.1]) (P1 (D0.len []) (D0.len [x4.1]) c33) (n' ?_)
     refine C0.step rfl (j0:=6) (js:=[]) (by kernel_rfl) ⟨⟨_,rfl,?_⟩,trivial⟩
     refine e' rfl ?_
     refine C0.step rfl (j0:=7) (js:=[]) (by kernel_rfl) ⟨⟨_,rfl,?_⟩,trivial⟩
     exact F0.s hC rfl (n' (C0.nil (by kernel_rfl) (ew' (S2 hh) rfl rfl rfl)))
    ·refine g' [0] ((V0 hx4).ok) rfl rfl rfl rfl rfl rfl (n' ?_)
     refine C0.step rfl (j0:=1) (js:=[4]) (by kernel_rfl) ⟨⟨_,rfl,?_⟩,⟨_,rfl,?_⟩,trivial⟩
     ·refine e' rfl ?_
      refine C0.step rfl (j0:=4) (js:=[]) (by kernel_rfl) ⟨⟨_,rfl,?_⟩,trivial⟩
      refine F0.be hC rfl (D0.rows_map [x4.1]).symm (n' ?_)
      refine C0.step rfl (j0:=5) (js:=[]) (by kernel_rfl) ⟨⟨_,rfl,?_⟩,trivial⟩
      refine F0.ap hC rfl (rs:=D0.rows [x4.1]) rfl (D0.sz []) (D0.sz [x4.1]) (P1 (D0.len []) (D0.len [x4.1]) c33) (n' ?_)
      refine C0.step rfl (j0:=6) (js:=[]) (by kernel_rfl) ⟨⟨_,rfl,?_⟩,trivial⟩
      refine e' rfl ?_
      refine C0.step rfl (j0:=7) (js:=[]) (by kernel_rfl) ⟨⟨_,rfl,?_⟩,trivial⟩
      exact F0.s hC rfl (n' (C0.nil (by kernel_rfl) (ew' (S2 hh) rfl rfl rfl)))
     ·refine F0.be hC rfl (D0.rows_map [x4.1]).symm (n' ?_)
      refine C0.step rfl (j0:=1) (js:=[]) (by kernel_rfl) ⟨⟨_,rfl,?_⟩,trivial⟩
      refine e' rfl ?_
      refine C0.step rfl (j0:=5) (js:=[]) (by kernel_rfl) ⟨⟨_,rfl,?_⟩,trivial⟩
      refine F0.ap hC rfl (rs:=D0.rows [x4.1]) rfl (D0.sz []) (D0.sz [x4.1]) (P1 (D0.len []) (D0.len [x4.1]) c33) (n' ?_)
      refine C0.step rfl (j0:=6) (js:=[]) (by kernel_rfl) ⟨⟨_,rfl,?_⟩,trivial⟩
      refine e' rfl ?_
      refine C0.step rfl (j0:=7) (js:=[]) (by kernel_rfl) ⟨⟨_,rfl,?_⟩,trivial⟩
      exact F0.s hC rfl (n' (C0.nil (by kernel_rfl) (ew' (S2 hh) rfl rfl rfl)))
   ·refine g' [0] ((V0 hx4).ok) rfl rfl rfl rfl rfl rfl (n' ?_)
    refine C0.step rfl (j0:=0) (js:=[4]) (by kernel_rfl) ⟨⟨_,rfl,?_⟩,⟨_,rfl,?_⟩,trivial⟩
    ·refine e' rfl ?_
     refine C0.step rfl (j0:=1) (js:=[4]) (by kernel_rfl) ⟨⟨_,rfl,?_⟩,⟨_,rfl,?_⟩,trivial⟩
     ·refine e' rfl ?_
      refine C0.step rfl (j0:=4) (js:=[]) (by kernel_rfl) ⟨⟨_,rfl,?_⟩,trivial⟩
      refine F0.be hC rfl (D0.rows_map [x4.1]).symm (n' ?_)
      refine C0.step rfl (j0:=5) (js:=[]) (by kernel_rfl) ⟨⟨_,rfl,?_⟩,trivial⟩
      refine F0.ap hC rfl (rs:=D0.rows [x4.1]) rfl (D0.sz []) (D0.sz [x4.1]) (P1 (D0.len []) (D0.len [x4.1]) c33) (n' ?_)
      refine C0.step rfl (j0:=6) (js:=[]) (by kernel_rfl) ⟨⟨_,rfl,?_⟩,trivial⟩
      refine e' rfl ?_
      refine C0.step rfl (j0:=7) (js:=[]) (by kernel_rfl) ⟨⟨_,rfl,?_⟩,trivial⟩
      exact F0.s hC rfl (n' (C0.nil (by kernel_rfl) (ew' (S2 hh) rfl rfl rfl)))
     ·refine F0.be hC rfl (D0.rows_map [x4.1]).symm (n' ?_)
      refine C0.step rfl (j0:=1) (js:=[]) (by kernel_rfl) ⟨⟨_,rfl,?_⟩,trivial⟩
      refine e' rfl ?_
      refine C0.step rfl (j0:=5) (js:=[]) (by kernel_rfl) ⟨⟨_,rfl,?_⟩,trivial⟩
      refine F0.ap hC rfl (rs:=D0.rows [x4.1]) rfl (D0.sz []) (D0.sz [x4.1]) (P1 (D0.len []) (D0.len [x4.1]) c33) (n' ?_)
      refine C0.step rfl (j0:=6) (js:=[]) (by kernel_rfl) ⟨⟨_,rfl,?_⟩,trivial⟩
      refine e' rfl ?_
      refine C0.step rfl (j0:=7) (js:=[]) (by kernel_rfl) ⟨⟨_,rfl,?_⟩,trivial⟩
      exact F0.s hC rfl (n' (C0.nil (by kernel_rfl) (ew' (S2 hh) rfl rfl rfl)))
    ·refine F0.be hC rfl (D0.rows_map [x4.1]).symm (n' ?_)
     refine C0.step rfl (j0:=0) (js:=[]) (by kernel_rfl) ⟨⟨_,rfl,?_⟩,trivial⟩
     refine e' rfl ?_
     refine C0.step rfl (j0:=1) (js:=[]) (by kernel_rfl) ⟨⟨_,rfl,?_⟩,trivial⟩
     refine e' rfl ?_
     refine C0.step rfl (j0:=5) (js:=[]) (by kernel_rfl) ⟨⟨_,rfl,?_⟩,trivial⟩
     refine F0.ap hC rfl (rs:=D0.rows [x4.1]) rfl (D0.sz []) (D0.sz [x4.1]) (P1 (D0.len []) (D0.len [x4.1]) c33) (n' ?_)
     refine C0.step rfl (j0:=6) (js:=[]) (by kernel_rfl) ⟨⟨_,rfl,?_⟩,trivial⟩
     refine e' rfl ?_
     refine C0.step rfl (j0:=7) (js:=[]) (by kernel_rfl) ⟨⟨_,rfl,?_⟩,trivial⟩
     exact F0.s hC rfl (n' (C0.nil (by kernel_rfl) (ew' (S2 hh) rfl rfl rfl)))
 exact sk' (ew' (Rg hh) rfl rfl rfl)
def G5 (parserParser:B0):Option (Pn (D0×Bool×B0)):=
 O0 [116,121,112,101] parserParser>>=fun x1=>
 if x1.1=true then
  T2 x1.2>>=fun x2=>match x2 with
  | .pn nn=>
  some (.pn nn)
  | .ok x2=>
  R0 [61] x2.2>>=fun x3=>match x3 with
  | .pn nn=>
  some (.pn nn)
  | .ok x3=>
  A5 x3>>=fun x4=>match x4 with
  | .pn nn=>
  some (.pn nn)
  | .ok x4=>
  R0 [59] x4.2>>=fun x5=>match x5 with
  | .pn nn=>
  some (.pn nn)
  | .ok x5=>
  some (.ok ((D0.mk 0 x2.1 x4.1 0 (A0.mk 0 0 [] []) [] [] []),true,x5))
 else
  O0 [115,101,99,114,101,116] x1.2>>=fun x6=>
  if x6.1=true then
   U2 1 x6.2>>=fun x7=>match x7 with
   | .pn nn=>
   some (.pn nn)
   | .ok x7=>
   R0 [59] x7.2>>=fun x8=>match x8 with
   | .pn nn=>
   some (.pn nn)
   | .ok x8=>
   some (.ok (x7.1,true,x8))
  else
   O0 [112,117,98,108,105,99] x6.2>>=fun x9=>
   if x9.1=true then
    U2 2 x9.2>>=fun x10=>match x10 with
    | .pn nn=>
    some (.pn nn)
    | .ok x10=>
    R0 [59] x10.2>>=fun x11=>match x11 with
    | .pn nn=>
    some (.pn nn)
    | .ok x11=>
    some (.ok (x10.1,true,x11))
   else
    O0 [114,97,110,100,111,109] x9.2>>=fun x12=>
    if x12.1=true then
     U2 3 x12.2>>=fun x13=>match x13 with
     | .pn nn=>
     some (.pn nn)
     | .ok x13=>
     R0 [59] x13.2>>=fun x14=>match x14 with
     | .pn nn=>
     some (.pn nn)
     | .ok x14=>
     some (.ok (x13.1,true,x14))
    else
     O0 [118,97,114] x12.2>>=fun x15=>
     if x15.1=true then
      J7 x15.2>>=fun x16=>match x16 with
      | .pn nn=>
      some (.pn nn)
      | .ok x16=>
      some (.ok (x16.1,true,x16.2))
     else
      O0 [104,97,116,99,104] x15.2>>=fun x17=>
      if x17.1=true then
       U2 5 x17.2>>=fun x18=>match x18 with
       | .pn nn=>
       some (.pn nn)
       | .ok x18=>
       R0 [61] x18.2>>=fun x19=>match x19 with
       | .pn nn=>
       some (.pn nn)
       | .ok x19=>
       C1 x19>>=fun x20=>match x20 with
       | .pn nn=>
       some (.pn nn)
       | .ok x20=>
       R0 [59] x20.2>>=fun x21=>match x21 with
       | .pn nn=>
       some (.pn nn)
       | .ok x21=>
       some (.ok ((D0.mk x18.1.Kind x18.1.Name x18.1.TypeV x18.1.Init x20.1 x18.1.Params x18.1.Vars x18.1.Body),true,x21))
      else
       O0 [102,117,110,99] x17.2>>=fun x22=>
       if x22.1=true then
        Z9 x22.2>>=fun x23=>match x23 with
        | .pn nn=>
        some (.pn nn)
        | .ok x23=>
        some (.ok (x23.1,true,x23.2))
       else
        some (.ok ((D0.mk 0 [] (J0.mk 0 0 0 0 [] [] []) 0 (A0.mk 0 0 [] []) [] [] []),false,x22.2))
theorem Sg {parserParser res}(hh:G5 parserParser=some res):C2 C 87 [.ref 0 0] [.row (B0.cells parserParser) 99] (P4 res (fun rr=>[.row (B0.cells rr.2.2) 99]) (fun rr=>.tup [.agg (D0.cells rr.1),.d (.bool rr.2.1)])) (J4 res F3 [.dead]):=by
 unfold G5 at hh
 obtain ⟨x1,hx1,hh⟩:=bs' hh
 refine C2.intro hC Tryz.func87 rfl rfl rfl (s' rfl rfl (F0.nf hC rfl (e' rfl (s' rfl rfl (F0.nf hC rfl (n' (S' (bk' (p' 1 rfl (g' [0] (P0 hx1) rfl rfl rfl rfl rfl rfl (e' rfl (ci' rfl hh (fun hh=>?_) (fun hh=>?_)))))))))))))
 ·refine p' 1 rfl ?_
  rcases bp' hh with ⟨nn,hx2,⟨⟩⟩ | ⟨x2,hx2,hh⟩
  ·exact gn' [0] (Z0 hx2) rfl rfl rfl rfl rfl (fun hi=>peW ⟨trivial,trivial⟩ rfl hi)
  refine g' [0] ((Z0 hx2).ok) rfl rfl rfl rfl rfl rfl (e' rfl (p' 1 rfl ?_))
  rcases bp' hh with ⟨nn,hx3,⟨⟩⟩ | ⟨x3,hx3,hh⟩
  ·exact gn' [0] (L0 hx3) rfl rfl rfl rfl rfl (fun hi=>peW ⟨trivial,trivial⟩ rfl hi)
  refine g' [0] ((L0 hx3).ok) rfl rfl rfl rfl rfl rfl (n' (p' 2 rfl ?_))
  rcases bp' hh with ⟨nn,hx4,⟨⟩⟩ | ⟨x4,hx4,hh⟩
  ·exact gn' [0] (B9 hx4) rfl rfl rfl rfl rfl (fun hi=>peW ⟨trivial,trivial⟩ rfl hi)
  refine g' [0] ((B9 hx4).ok) rfl rfl rfl rfl rfl rfl (q' rfl (F0.s hC rfl (n' (P' 1 rfl ?_))))
  rcases bp' hh with ⟨nn,hx5,⟨⟩⟩ | ⟨x5,hx5,hh⟩
  ·exact gn' [0] (L0 hx5) rfl rfl rfl rfl rfl (fun hi=>peW ⟨trivial,trivial⟩ rfl hi)
  cases hh
  exact g' [0] ((L0 hx5).ok) rfl rfl rfl rfl rfl rfl (n' (p' 1 rfl (F0.s hC rfl (e' rfl (re' (rt' rfl rfl rfl))))))
 obtain ⟨x6,hx6,hh⟩:=bs' hh
 refine p' 1 rfl (g' [0] (P0 hx6) rfl rfl rfl rfl rfl rfl (e' rfl (ci' rfl hh (fun hh=>?_) (fun hh=>?_))))
 ·refine p' 1 rfl ?_
  rcases bp' hh with ⟨nn,hx7,⟨⟩⟩ | ⟨x7,hx7,hh⟩
  ·exact gn' [0] (V0 hx7) rfl rfl rfl rfl rfl (fun hi=>peW ⟨trivial,trivial⟩ rfl hi)
  refine g' [0] ((V0 hx7).ok) rfl rfl rfl rfl rfl rfl (F0.s hC rfl (n' (P' 1 rfl ?_)))
  rcases bp' hh with ⟨nn,hx8,⟨⟩⟩ | ⟨x8,hx8,hh⟩
  ·exact gn' [0] (L0 hx8) rfl rfl rfl rfl rfl (fun hi=>peW ⟨trivial,trivial⟩ rfl hi)
  cases hh
  exact g' [0] ((L0 hx8).ok) rfl rfl rfl rfl rfl rfl (n' (p' 1 rfl (F0.s hC rfl (e' rfl (re' (rt' rfl rfl rfl))))))
 obtain ⟨x9,hx9,hh⟩:=bs' hh
 refine p' 1 rfl (g' [0] (P0 hx9) rfl rfl rfl rfl rfl rfl (e' rfl (ci' rfl hh (fun hh=>?_) (fun hh=>?_))))
 ·refine p' 1 rfl ?_
  rcases bp' hh with ⟨nn,hx10,⟨⟩⟩ | ⟨x10,hx10,hh⟩
  ·exact gn' [0] (V0 hx10) rfl rfl rfl rfl rfl (fun hi=>peW ⟨trivial,trivial⟩ rfl hi)
  refine g' [0] ((V0 hx10).ok) rfl rfl rfl rfl rfl rfl (F0.s hC rfl (n' (P' 1 rfl ?_)))
  rcases bp' hh with ⟨nn,hx11,⟨⟩⟩ | ⟨x11,hx11,hh⟩
  ·exact gn' [0] (L0 hx11) rfl rfl rfl rfl rfl (fun hi=>peW ⟨trivial,trivial⟩ rfl hi)
  cases hh
  exact g' [0] ((L0 hx11).ok) rfl rfl rfl rfl rfl rfl (n' (p' 1 rfl (F0.s hC rfl (e' rfl (re' (rt' rfl rfl rfl))))))
 obtain ⟨x12,hx12,hh⟩:=bs' hh
 refine p' 1 rfl (g' [0] (P0 hx12) rfl rfl rfl rfl rfl rfl (e' rfl (ci' rfl hh (fun hh=>?_) (fun hh=>?_))))
 ·refine p' 1 rfl ?_
  rcases bp' hh with ⟨nn,hx13,⟨⟩⟩ | ⟨x13,hx13,hh⟩
  ·exact gn' [0] (V0 hx13) rfl rfl rfl rfl rfl (fun hi=>peW ⟨trivial,trivial⟩ rfl hi)
  refine g' [0] ((V0 hx13).ok) rfl rfl rfl rfl rfl rfl (F0.s hC rfl (n' (P' 1 rfl ?_)))
  rcases bp' hh with ⟨nn,hx14,⟨⟩⟩ | ⟨x14,hx14,hh⟩
  ·exact gn' [0] (L0 hx14) rfl rfl rfl rfl rfl (fun hi=>peW ⟨trivial,trivial⟩ rfl hi)
  cases hh
  exact g' [0] ((L0 hx14).ok) rfl rfl rfl rfl rfl rfl (n' (p' 1 rfl (F0.s hC rfl (e' rfl (re' (rt' rfl rfl rfl))))))
 obtain ⟨x15,hx15,hh⟩:=bs' hh
 refine p' 1 rfl (g' [0] (P0 hx15) rfl rfl rfl rfl rfl rfl (e' rfl (ci' rfl hh (fun hh=>?_) (fun hh=>?_))))
 ·refine P' 1 rfl ?_
  rcases bp' hh with ⟨nn,hx16,⟨⟩⟩ | ⟨x16,hx16,hh⟩
  ·exact gn' [0] (B2 hx16) rfl rfl rfl rfl rfl (fun hi=>peW ⟨trivial,trivial⟩ rfl hi)
  cases hh
  exact g' [0] ((B2 hx16).ok) rfl rfl rfl rfl rfl rfl (F0.s hC rfl (n' (p' 1 rfl (F0.s hC rfl (e' rfl (re' (rt' rfl rfl rfl)))))))
 obtain ⟨x17,hx17,hh⟩:=bs' hh
 refine p' 1 rfl (g' [0] (P0 hx17) rfl rfl rfl rfl rfl rfl (e' rfl (ci' rfl hh (fun hh=>?_) (fun hh=>?_))))
 ·refine p' 1 rfl ?_
  rcases bp' hh with ⟨nn,hx18,⟨⟩⟩ | ⟨x18,hx18,hh⟩
  ·exact gn' [0] (V0 hx18) rfl rfl rfl rfl rfl (fun hi=>peW ⟨trivial,trivial⟩ rfl hi)
  refine g' [0] ((V0 hx18).ok) rfl rfl rfl rfl rfl rfl (F0.s hC rfl (n' (p' 1 rfl ?_)))
  rcases bp' hh with ⟨nn,hx19,⟨⟩⟩ | ⟨x19,hx19,hh⟩
  ·exact gn' [0] (L0 hx19) rfl rfl rfl rfl rfl (fun hi=>peW ⟨trivial,trivial⟩ rfl hi)
  refine g' [0] ((L0 hx19).ok) rfl rfl rfl rfl rfl rfl (n' (p' 1 rfl ?_))
  rcases bp' hh with ⟨nn,hx20,⟨⟩⟩ | ⟨x20,hx20,hh⟩
  ·exact gn' [0] (S0 hx20) rfl rfl rfl rfl rfl (fun hi=>peW ⟨trivial,trivial⟩ rfl hi)
  refine g' [0] ((S0 hx20).ok) rfl rfl rfl rfl rfl rfl (q' rfl (F0.s hC rfl (n' (P' 1 rfl ?_))))
  rcases bp' hh with ⟨nn,hx21,⟨⟩⟩ | ⟨x21,hx21,hh⟩
  ·exact gn' [0] (L0 hx21) rfl rfl rfl rfl rfl (fun hi=>peW ⟨trivial,trivial⟩ rfl hi)
  cases hh
  exact g' [0] ((L0 hx21).ok) rfl rfl rfl rfl rfl rfl (n' (p' 1 rfl (F0.s hC rfl (e' rfl (re' (rt' rfl rfl rfl))))))
 obtain ⟨x22,hx22,hh⟩:=bs' hh
 refine p' 1 rfl (g' [0] (P0 hx22) rfl rfl rfl rfl rfl rfl (e' rfl (ci' rfl hh (fun hh=>?_) (fun hh=>?_))))
 ·refine P' 1 rfl ?_
  rcases bp' hh with ⟨nn,hx23,⟨⟩⟩ | ⟨x23,hx23,hh⟩
  ·exact gn' [0] (Zi hx23) rfl rfl rfl rfl rfl (fun hi=>peW ⟨trivial,trivial⟩ rfl hi)
  cases hh
  exact g' [0] ((Zi hx23).ok) rfl rfl rfl rfl rfl rfl (F0.s hC rfl (n' (p' 1 rfl (F0.s hC rfl (e' rfl (re' (rt' rfl rfl rfl)))))))
 refine p' 1 rfl (F0.s hC rfl (e' rfl (re' ?_)))
 obtain rfl:=oi' hh
 exact ⟨_,.tup [.agg [.d (.int .i64 0),.d (.str []),.d (.int .i64 0),.d (.int .i64 0),.d (.int .i64 0),.d (.int .i64 0),.d (.str []),.d (.sl (estr.rows [])),.d (.sl (J0.rows [])),.d (.int .i64 0),.d (.int .i64 0),.d (.int .i64 0),.d (.str []),.d (.sl (A0.rows [])),.d (.sl (D0.rows [])),.d (.sl (D0.rows [])),.d (.sl (E0.rows []))],.d (.bool false)],[.row (B0.cells x22.2) 99],rfl,(.tupL ⟨(.aggL ⟨.rfl,.rfl,.rfl,.rfl,.rfl,.rfl,.rfl,.full,.full,.rfl,.rfl,.rfl,.rfl,.full,.full,.full,.full,trivial⟩),.rfl,trivial⟩),⟨⟨rfl,.refl _,rfl⟩,trivial⟩,rfl,rfl,rpq rfl rfl⟩
def O5 (o0:B0)(o2_Decls:List D0):Option (Pn (B1×B0)):=
 G5 o0>>=fun x1=>match x1 with
 | .pn nn=>
 some (.pn nn)
 | .ok x1=>
 if (!x1.2.1)=true then
  R0 [98,101,103,105,110] x1.2.2>>=fun x2=>match x2 with
  | .pn nn=>
  some (.pn nn)
  | .ok x2=>
  W3 x2>>=fun x3=>match x3 with
  | .pn nn=>
  some (.pn nn)
  | .ok x3=>
  R0 [101,110,100] x3.2>>=fun x4=>match x4 with
  | .pn nn=>
  some (.pn nn)
  | .ok x4=>
  some (.ok ((B1.mk o2_Decls x3.1),x4))
 else
  if (decide ((o2_Decls.length+1) * 257≤140737488355328))=true then
   O5 x1.2.2 (o2_Decls++[x1.1])
  else none
 partial_fixpoint
abbrev Mi (o0:B0)(o2_Decls:List D0)(res:Pn (B1×B0)):Prop:=LMp C 27 1 Tryz.f46 [1,1,0,4] [(0,.ref 0 0),(2,.ref 1 0),(3,.ref 2 0)] [.row (B0.cells o0) 99,.row [.full (D0.rows []),.full (E0.rows [])] 49,.row [.osl 3 (D0.rows o2_Decls),.full (E0.rows [])] 49,.tok 128 17] (P4 res (fun rr=>[.row (B0.cells rr.2) 99]) (fun rr=>.agg (B1.cells rr.1))) (J4 res F3 [.dead])
theorem Yn:(∀ o0 o2_Decls res,O5 o0 o2_Decls=some res→Mi o0 o2_Decls res):=by
 refine O5.partial_correctness _ ?_
 ·intro g0 ih0 o0 o2_Decls res hh
  refine A1.unroll (bk' (p' 1 rfl ?_))
  rcases bp' hh with ⟨nn,hx1,⟨⟩⟩ | ⟨x1,hx1,hh⟩
  ·exact gn' [0] (Sg hx1) rfl rfl rfl rfl rfl (fun hi=>peW ⟨trivial,trivial⟩ rfl hi)
  refine g' [0] ((Sg hx1).ok) rfl rfl rfl rfl rfl rfl (o' 3 rfl (F0.nf hC rfl (F0.s hC rfl (e' rfl (S' (t' rfl (ci' rfl hh (fun hh=>?_) (fun hh=>?_))))))))
  ·refine ex' (p' 1 rfl ?_)
   rcases bp' hh with ⟨nn,hx2,⟨⟩⟩ | ⟨x2,hx2,hh⟩
   ·exact gn' [0] (L0 hx2) rfl rfl rfl rfl rfl (fun hi=>peW ⟨trivial,trivial⟩ rfl hi)
   refine g' [0] ((L0 hx2).ok) rfl rfl rfl rfl rfl rfl (n' (p' 1 rfl ?_))
   rcases bp' hh with ⟨nn,hx3,⟨⟩⟩ | ⟨x3,hx3,hh⟩
   ·exact gn' [0] (M9 hx3) rfl rfl rfl rfl rfl (fun hi=>peW ⟨trivial,trivial⟩ rfl hi)
   refine g' [0] ((M9 hx3).ok) rfl rfl rfl rfl rfl rfl (q' rfl (F0.s hC rfl (n' (p' 1 rfl ?_))))
   rcases bp' hh with ⟨nn,hx4,⟨⟩⟩ | ⟨x4,hx4,hh⟩
   ·exact gn' [0] (L0 hx4) rfl rfl rfl rfl rfl (fun hi=>peW ⟨trivial,trivial⟩ rfl hi)
   refine g' [0] ((L0 hx4).ok) rfl rfl rfl rfl rfl rfl (n' (p' 1 rfl (F0.s hC rfl (n' (re' ?_)))))
   obtain rfl:=oi' hh
   exact ⟨_,.agg [.d (.sl (D0.rows o2_Decls)),.d (.sl (E0.rows x3.1))],[.row (B0.cells x4) 99],rfl,(.aggL ⟨.osl,.rfl,trivial⟩),⟨⟨rfl,.refl _,rfl⟩,trivial⟩,rfl,rfl,rpq rfl rfl⟩
  obtain ⟨c6,hh⟩:=I4 hh
  exact sk' (P' 3 rfl (F0.be hC rfl (D0.rows_map [x1.1]).symm (F0.ap hC rfl (rs:=D0.rows (o2_Decls++[x1.1])) (D0.app o2_Decls [x1.1]) (D0.sz o2_Decls) (D0.sz [x1.1]) (P1 (D0.len o2_Decls) (D0.len [x1.1]) c6) (q' rfl (F0.s hC rfl (n' (lw' (ih0 _ _ _ hh) rfl rfl rfl)))))))
theorem Qp {o0 o2_Decls res}(hh:O5 o0 o2_Decls=some res):Mi o0 o2_Decls res:=(Yn) _ _ _ hh
def U6 (parserParser:B0):Option (Pn (B1×B0)):=
 O5 parserParser []
theorem Kj {parserParser res}(hh:U6 parserParser=some res):C2 C 46 [.ref 0 0] [.row (B0.cells parserParser) 99] (P4 res (fun rr=>[.row (B0.cells rr.2) 99]) (fun rr=>.agg (B1.cells rr.1))) (J4 res F3 [.dead]):=by
 unfold U6 at hh
 exact C2.intro hC Tryz.func46 rfl rfl rfl (s' rfl rfl (F0.nf hC rfl (n' (s' rfl rfl (F0.nf hC rfl (F0.tokC 2 0 128 17 rfl rfl rfl rfl rfl (n' (S' (bk' (fw' (Qp hh) rfl rfl rfl))))))))))
def Zj (parserParser:B0)(apiProgram:B1):Option (Pn (B0×B1)):=
 U6 parserParser>>=fun x1=>match x1 with
 | .pn nn=>
 some (.pn nn)
 | .ok x1=>
 some (.ok (x1.2,x1.1))
theorem Qq {parserParser apiProgram res}(hh:Zj parserParser apiProgram=some res):C2 C 45 [.ref 0 0,.ref 1 0] [.row (B0.cells parserParser) 99,.row [.full (D0.rows apiProgram.Decls),.full (E0.rows apiProgram.Body)] 49] (P4 res (fun rr=>[.row (B0.cells rr.1) 99,.row (B1.cells rr.2) 49]) (fun rr=>.tup [])) (J4 res F3 [.dead,.row [.full (D0.rows apiProgram.Decls),.full (E0.rows apiProgram.Body)] 49]):=by
 unfold Zj at hh
 refine C2.intro hC Tryz.func45 rfl rfl rfl (P' 1 rfl ?_)
 rcases bp' hh with ⟨nn,hx1,⟨⟩⟩ | ⟨x1,hx1,hh⟩
 ·exact gn' [0] (Kj hx1) rfl rfl rfl rfl rfl (fun hi=>peW ⟨trivial,⟨rfl,.refl _,rfl⟩,trivial⟩ rfl hi)
 cases hh
 exact g' [0] ((Kj hx1).ok) rfl rfl rfl rfl rfl rfl (F0.s hC rfl (n' (rn' rfl rfl rfl)))
def Ak (text:Str)(apiProgram:B1):Option (Int×Int×B1):=
 Jh text>>=fun x1=>
 if (x1.2.2 != 0)=true then
  some (x1.2.1,x1.2.2,apiProgram)
 else
  Zj (B0.mk x1.1 0 ((text).length:Int)) apiProgram>>=fun x2=>match x2 with
  | .pn nn=>
  some (nn,6,apiProgram)
  | .ok x2=>
  if (decide (x2.1.next < ((x2.1.tokens).length:Int)))=true then
   I5 x2.1>>=fun x3=>match x3 with
   | .pn nn=>
   some (nn,6,x2.2)
   | .ok x3=>
   some (0,0,x2.2)
  else
   some (0,0,x2.2)
theorem T10 {text apiProgram res}(hh:Ak text apiProgram=some res):U0 C 28 [.d (.str text),.clo 45 [.ref 0 0]] [.row [.full (D0.rows apiProgram.Decls),.full (E0.rows apiProgram.Body)] 49] (Ret [.row (B1.cells res.2.2) 49] (.tup [.d (.int .i64 res.1),.d (.int .i64 res.2.1)])):=by
 unfold Ak at hh
 obtain ⟨x1,hx1,hh⟩:=bs' hh
 refine U0.introD hC Tryz.func28 rfl rfl rfl (s' rfl rfl (F0.n hC rfl (F0.n hC rfl (n' (p' 1 rfl (c' (Dz hx1) rfl rfl (o' 5 rfl (F0.s hC rfl (F0.s hC rfl (n' (S' (t' rfl (ci' rfl hh (fun hh=>?_) (fun hh=>?_))))))))))))))
 ·refine S' (AEx.drawL hC 3 [2] [] [[.row [.full (D0.rows apiProgram.Decls),.full (E0.rows apiProgram.Body)] 49,.row [.d (.int .i64 x1.2.1)] 3,.row [.d (.int .i64 x1.2.2)] 27],[.row [.full (D0.rows apiProgram.Decls),.full (E0.rows apiProgram.Body)] 49,.row [.d (.int .i64 x1.2.1)] 3,.row [.d (.int .i64 x1.2.2)] 27]] rfl rfl rfl rfl rfl rfl rfl rfl rfl rfl (AS.q hC rfl rfl rfl rfl ?_))
  refine AS.q hC rfl rfl rfl rfl (AS.s hC rfl rfl rfl rfl rfl rfl rfl (AS.nil (F0.s hC rfl (n' (re' ?_)))))
  obtain rfl:=oi' hh
  exact ⟨_,_,[.row (B1.cells apiProgram) 49],rfl,.rfl,⟨⟨rfl,⟨.full,.full,trivial⟩,rfl⟩,trivial⟩,rfl,rfl,rfl,rfl⟩
 refine sk' (AEx.dfr hC D13 Z15 rfl rfl rfl rfl rfl rfl fun _=>(p' 4 rfl (F0.n hC rfl (e' rfl (p' 2 rfl ?_)))))
 rcases bp' hh with ⟨nn,hx2,hh⟩ | ⟨x2,hx2,hh⟩
 ·obtain rfl:=oi' hh
  exact gn' [3,0] (Qq hx2) rfl rfl rfl rfl rfl (fun hi=>dfk hi rfl rfl rfl (⟨_,_,[.row (B1.cells apiProgram) 49],rfl,.rfl,⟨⟨rfl,⟨.full,.full,trivial⟩,rfl⟩,trivial⟩,rfl,rfl,rfl,rfl⟩))
 refine g' [3,0] ((Qq hx2).ok) rfl rfl rfl rfl rfl rfl (n' (S' (S' (AEx.draw hC 10 rfl rfl rfl (O' 8 rfl (AQ.qe hC rfl trivial (K0.lenA _) (E' rfl (n' (ci' rfl hh (fun hh=>?_) (fun hh=>?_))))))))))
 ·refine P' 1 rfl ?_
  rcases bp' hh with ⟨nn,hx3,hh⟩ | ⟨x3,hx3,hh⟩
  ·cases hh
   exact gn' [3] (R5 hx3) rfl rfl rfl rfl rfl (fun hi=>dfk hi rfl rfl rfl (rt' rfl rfl rfl))
  cases hh
  exact g' [3] ((R5 hx3).ok) rfl rfl rfl rfl rfl rfl (n' (s' rfl rfl (F0.s hC rfl (F0.s hC rfl (n' (re' (rt' rfl rfl rfl)))))))
 cases hh
 exact sk' (s' rfl rfl (F0.s hC rfl (F0.s hC rfl (n' (re' (rt' rfl rfl rfl))))))
def Aj (k:Int):Option (Bool×Bool):=
 some ((bif (decide (k≥0)) then (decide (k≤6)) else false),(bif (k == 5) then true else (k == 6)))
theorem Lz {k res}(hh:Aj k=some res):U0 C 175 [.d (.int .i64 k)] [] (Ret [] (.tup [.d (.bool res.1),.d (.bool res.2)])):=by
 unfold Aj at hh
 cases hh
 exact U0.intro hC Tryz.func175 rfl rfl rfl (t' rfl (sg' 14 rfl (G' 4 rfl (a1' rfl (pa' rfl (G' 4 rfl (a1' rfl (po' rfl (G' 2 rfl (an' (n' (re' (rt' rfl rfl rfl)))))))))))))
def I3 (s1:List Str)(s2:List Str)(v13:Int):Option Bool:=
 if (decide (v13 < ((s1).length:Int)))=true then
  idx s1 v13>>=fun x1=>
  idx s2 v13>>=fun x2=>
  if (!(x1 == x2))=true then
   some false
  else
   I3 s1 s2 (IntKind.i64.wrap (v13+1))
 else
  some true
 partial_fixpoint
abbrev Ve (s1:List Str)(s2:List Str)(v13:Int)(res:Bool):Prop:=LM C 26 0 Tryz.f196 [1,1,0,1,4] [(0,.d (.sl (estr.rows s1))),(1,.d (.sl (estr.rows s2))),(12,.d (.int .i64 ((s1).length:Int))),(13,.d (.int .i64 v13))] [] (Ret [] (.d (.bool res)))
theorem Tk (s1:List Str)(s2:List Str):(∀ v13 res,I3 s1 s2 v13=some res→Ve s1 s2 v13 res):=by
 refine I3.partial_correctness s1 s2 _ ?_
 ·intro g0 ih0 v13 res hh
  refine A1.unroll (t' rfl (S' (ci' rfl hh (fun hh=>?_) (fun hh=>?_))))
  ·obtain ⟨x1,hx1,hh⟩:=bs' hh
   obtain ⟨x2,hx2,hh⟩:=bs' hh
   refine sk' (S' (bk' (t' rfl (S' (AEx.draw hC 9 rfl rfl rfl (O' 2 rfl (AQ.i hC rfl (W1 hx1) (estr.idx hx1) rfl (O' 3 rfl (AQ.i hC rfl (W1 hx2) (estr.idx hx2) rfl (E' rfl (n' (ci' rfl hh (fun hh=>?_) (fun hh=>?_)))))))))))))
   ·cases hh
    exact t' rfl (re' (rt' rfl rfl rfl))
   exact sk' (T' rfl (lw' (ih0 _ _ hh) rfl rfl rfl))
  cases hh
  exact ex' (t' rfl (re' (rt' rfl rfl rfl)))
theorem Hl {s1 s2 v13 res}(hh:I3 s1 s2 v13=some res):Ve s1 s2 v13 res:=(Tk s1 s2) _ _ hh
def H7 (s1:List Str)(s2:List Str):Option Bool:=
 if (((s1).length:Int) != ((s2).length:Int))=true then
  some false
 else
  I3 s1 s2 0
theorem Bn {s1 s2 res}(hh:H7 s1 s2=some res):U0 C 196 [.d (.sl (estr.rows s1)),.d (.sl (estr.rows s2))] [] (Ret [] (.d (.bool res))):=by
 unfold H7 at hh
 refine U0.intro hC Tryz.func196 rfl rfl rfl (t' rfl (S' (p' 1 rfl (qe' rfl trivial (estr.lenA _) (q' rfl (qe' rfl trivial (estr.lenA _) (e' rfl (ci' rfl hh (fun hh=>?_) (fun hh=>?_)))))))))
 ·cases hh
  exact t' rfl (re' (rt' rfl rfl rfl))
 exact sk' (S' (p' 1 rfl (qe' rfl trivial (estr.lenA _) (e' rfl (bk' (fw' (Hl hh) rfl rfl rfl))))))
mutual
def Q8 (a:J0)(b:J0):Option Bool:=
 (if (bif (bif (bif (bif (a.Kind == b.Kind) then (a.Low == b.Low) else false) then (a.High == b.High) else false) then (a.Size == b.Size) else false) then (a.Name == b.Name) else false)=true then H7 a.Names b.Names else some default)>>=fun x1=>
 (if (bif (bif (bif (bif (bif (a.Kind == b.Kind) then (a.Low == b.Low) else false) then (a.High == b.High) else false) then (a.Size == b.Size) else false) then (a.Name == b.Name) else false) then x1 else false)=true then L3 a.Of b.Of else some default)>>=fun x2=>
 some (bif (bif (bif (bif (bif (bif (a.Kind == b.Kind) then (a.Low == b.Low) else false) then (a.High == b.High) else false) then (a.Size == b.Size) else false) then (a.Name == b.Name) else false) then x1 else false) then x2 else false)
 partial_fixpoint
def L3 (s1:List J0)(s2:List J0):Option Bool:=
 if (((s1).length:Int) != ((s2).length:Int))=true then
  some false
 else
  Y1 s1 s2 0
 partial_fixpoint
def Y1 (s1:List J0)(s2:List J0)(v17:Int):Option Bool:=
 if (decide (v17 < ((s1).length:Int)))=true then
  idx s1 v17>>=fun x1=>
  idx s2 v17>>=fun x2=>
  Q8 x1 x2>>=fun x3=>
  if (!x3)=true then
   some false
  else
   Y1 s1 s2 (IntKind.i64.wrap (v17+1))
 else
  some true
 partial_fixpoint
end
abbrev Rp (a:J0)(b:J0)(res:Bool):Prop:=U0 C 176 [.agg (J0.cells a),.agg (J0.cells b)] [] (Ret [] (.d (.bool res)))
abbrev Nc (s1:List J0)(s2:List J0)(res:Bool):Prop:=U0 C 197 [.d (.sl (J0.rows s1)),.d (.sl (J0.rows s2)),.clo 176 []] [] (Ret [] (.d (.bool res)))
abbrev Wb (s1:List J0)(s2:List J0)(v17:Int)(res:Bool):Prop:=LM C 32 0 Tryz.f197 [1,1,0,1,4] [(1,.d (.sl (J0.rows s2))),(2,.clo 176 []),(15,.d (.sl (J0.rows s1))),(16,.d (.int .i64 ((s1).length:Int))),(17,.d (.int .i64 v17))] [] (Ret [] (.d (.bool res)))
theorem Sw:(∀ a b res,Q8 a b=some res→Rp a b res)∧(∀ s1 s2 res,L3 s1 s2=some res→Nc s1 s2 res)∧(∀ s1 s2 v17 res,Y1 s1 s2 v17=some res→Wb s1 s2 v17 res):=by
 refine Q8.mutual_partial_correctness _ _ _ ?_ ?_ ?_
 ·intro g1 ih1 a b res hh
  obtain ⟨x1,hx1,hh⟩:=bs' hh
  obtain ⟨x2,hx2,hh⟩:=bs' hh
  cases hh
  refine U0.intro hC Tryz.func176 rfl rfl rfl (s' rfl rfl (F0.n hC rfl (F0.n hC rfl (e' rfl (sg' 48 rfl (G' 7 rfl (a1' rfl (a0' rfl (a1' rfl (a2' rfl (pa' rfl (G' 2 rfl (a1' rfl ?_)))))))))))))
  refine a0' rfl (a1' rfl (a2' rfl (pa' rfl (G' 2 rfl (a1' rfl (a0' rfl (a1' rfl (a2' rfl (pa' rfl (G' 2 rfl (a1' rfl (a0' rfl (a1' rfl ?_)))))))))))))
  refine a2' rfl (pa' rfl (G' 2 rfl (a1' rfl (a0' rfl (a1' rfl (AG.c rfl rfl (fun hg=>⟨hg,hg,trivial⟩) (fun hw=>Bn (A4 hw hx1)) (pa' rfl (G' 2 rfl (a1' rfl (a0' rfl (a1' rfl (AG.c rfl rfl (fun hg=>⟨hg,hg,trivial⟩) (fun hw=>ih1 _ _ _ (A4 hw hx2)) (pa' rfl ?_)))))))))))))
  exact a0' rfl (an' (n' (re' (rt' rfl rfl rfl))))
 ·intro g2 ih2 s1 s2 res hh
  refine U0.intro hC Tryz.func197 rfl rfl rfl (t' rfl (S' (p' 1 rfl (qe' rfl trivial (J0.lenA _) (q' rfl (qe' rfl trivial (J0.lenA _) (e' rfl (ci' rfl hh (fun hh=>?_) (fun hh=>?_)))))))))
  ·cases hh
   exact t' rfl (re' (rt' rfl rfl rfl))
  exact sk' (S' (p' 1 rfl (qe' rfl trivial (J0.lenA _) (e' rfl (bk' (fw' (ih2 _ _ _ _ hh) rfl rfl rfl))))))
 ·intro g0 g2 ih0 ih2 s1 s2 v17 res hh
  refine A1.unroll (t' rfl (S' (ci' rfl hh (fun hh=>?_) (fun hh=>?_))))
  ·obtain ⟨x1,hx1,hh⟩:=bs' hh
   obtain ⟨x2,hx2,hh⟩:=bs' hh
   obtain ⟨x3,hx3,hh⟩:=bs' hh
   refine sk' (S' (bk' (p' 1 rfl (i' rfl (W1 hx1) (J0.idx hx1) rfl (q' rfl (F0.nf hC rfl (q' rfl (F0.s hC rfl (n' (p' 2 rfl (i' rfl (W1 hx2) (J0.idx hx2) rfl (q' rfl (F0.nf hC rfl ?_)))))))))))))
   refine F0.s hC rfl (n' (p' 3 rfl (c' (ih0 _ _ _ hx3) rfl rfl (e' rfl (ci' rfl hh (fun hh=>?_) (fun hh=>?_))))))
   ·cases hh
    exact t' rfl (re' (rt' rfl rfl rfl))
   exact sk' (T' rfl (lw' (ih2 _ _ _ _ hh) rfl rfl rfl))
  cases hh
  exact ex' (t' rfl (re' (rt' rfl rfl rfl)))
theorem Dy {a b res}(hh:Q8 a b=some res):Rp a b res:=(Sw).1 _ _ _ hh
mutual
def E7 (a:A0)(b:A0):Option Bool:=
 (if (bif (bif (a.Op == b.Op) then (a.NV == b.NV) else false) then (a.Name == b.Name) else false)=true then M3 a.Kids b.Kids else some default)>>=fun x1=>
 some (bif (bif (bif (a.Op == b.Op) then (a.NV == b.NV) else false) then (a.Name == b.Name) else false) then x1 else false)
 partial_fixpoint
def M3 (s1:List A0)(s2:List A0):Option Bool:=
 if (((s1).length:Int) != ((s2).length:Int))=true then
  some false
 else
  Z1 s1 s2 0
 partial_fixpoint
def Z1 (s1:List A0)(s2:List A0)(v17:Int):Option Bool:=
 if (decide (v17 < ((s1).length:Int)))=true then
  idx s1 v17>>=fun x1=>
  idx s2 v17>>=fun x2=>
  E7 x1 x2>>=fun x3=>
  if (!x3)=true then
   some false
  else
   Z1 s1 s2 (IntKind.i64.wrap (v17+1))
 else
  some true
 partial_fixpoint
end
abbrev Sp (a:A0)(b:A0)(res:Bool):Prop:=U0 C 198 [.agg (A0.cells a),.agg (A0.cells b)] [] (Ret [] (.d (.bool res)))
abbrev Oc (s1:List A0)(s2:List A0)(res:Bool):Prop:=U0 C 211 [.d (.sl (A0.rows s1)),.d (.sl (A0.rows s2)),.clo 198 []] [] (Ret [] (.d (.bool res)))
abbrev Xb (s1:List A0)(s2:List A0)(v17:Int)(res:Bool):Prop:=LM C 32 0 Tryz.f211 [1,1,0,1,4] [(1,.d (.sl (A0.rows s2))),(2,.clo 198 []),(15,.d (.sl (A0.rows s1))),(16,.d (.int .i64 ((s1).length:Int))),(17,.d (.int .i64 v17))] [] (Ret [] (.d (.bool res)))
theorem Tw:(∀ a b res,E7 a b=some res→Sp a b res)∧(∀ s1 s2 res,M3 s1 s2=some res→Oc s1 s2 res)∧(∀ s1 s2 v17 res,Z1 s1 s2 v17=some res→Xb s1 s2 v17 res):=by
 refine E7.mutual_partial_correctness _ _ _ ?_ ?_ ?_
 ·intro g1 ih1 a b res hh
  obtain ⟨x1,hx1,hh⟩:=bs' hh
  cases hh
  refine U0.intro hC Tryz.func198 rfl rfl rfl (s' rfl rfl (F0.n hC rfl (F0.n hC rfl (e' rfl (sg' 27 rfl (G' 7 rfl (a1' rfl (a0' rfl (a1' rfl (a2' rfl (pa' rfl (G' 2 rfl (a1' rfl ?_)))))))))))))
  exact a0' rfl (a1' rfl (a2' rfl (pa' rfl (G' 2 rfl (a1' rfl (a0' rfl (a1' rfl (AG.c rfl rfl (fun hg=>⟨hg,hg,trivial⟩) (fun hw=>ih1 _ _ _ (A4 hw hx1)) (pa' rfl (a0' rfl (an' (n' (re' (rt' rfl rfl rfl))))))))))))))
 ·intro g2 ih2 s1 s2 res hh
  refine U0.intro hC Tryz.func211 rfl rfl rfl (t' rfl (S' (p' 1 rfl (qe' rfl trivial (A0.lenA _) (q' rfl (qe' rfl trivial (A0.lenA _) (e' rfl (ci' rfl hh (fun hh=>?_) (fun hh=>?_)))))))))
  ·cases hh
   exact t' rfl (re' (rt' rfl rfl rfl))
  exact sk' (S' (p' 1 rfl (qe' rfl trivial (A0.lenA _) (e' rfl (bk' (fw' (ih2 _ _ _ _ hh) rfl rfl rfl))))))
 ·intro g0 g2 ih0 ih2 s1 s2 v17 res hh
  refine A1.unroll (t' rfl (S' (ci' rfl hh (fun hh=>?_) (fun hh=>?_))))
  ·obtain ⟨x1,hx1,hh⟩:=bs' hh
   obtain ⟨x2,hx2,hh⟩:=bs' hh
   obtain ⟨x3,hx3,hh⟩:=bs' hh
   refine sk' (S' (bk' (p' 1 rfl (i' rfl (W1 hx1) (A0.idx hx1) rfl (q' rfl (F0.nf hC rfl (q' rfl (F0.s hC rfl (n' (p' 2 rfl (i' rfl (W1 hx2) (A0.idx hx2) rfl (q' rfl (F0.nf hC rfl ?_)))))))))))))
   refine F0.s hC rfl (n' (p' 3 rfl (c' (ih0 _ _ _ hx3) rfl rfl (e' rfl (ci' rfl hh (fun hh=>?_) (fun hh=>?_))))))
   ·cases hh
    exact t' rfl (re' (rt' rfl rfl rfl))
   exact sk' (T' rfl (lw' (ih2 _ _ _ _ hh) rfl rfl rfl))
  cases hh
  exact ex' (t' rfl (re' (rt' rfl rfl rfl)))
theorem Ey {a b res}(hh:E7 a b=some res):Sp a b res:=(Tw).1 _ _ _ hh
def G4 (e:A0)(used:Bool)(syntaxReport:I0):Option I0:=
 (if (!used)=true then E7 e (A0.mk 0 0 [] []) else some default)>>=fun x1=>
 if (bif (!used) then x1 else false)=true then
  some syntaxReport
 else
  W0 used syntaxReport>>=fun x2=>
  X2 e 1 x2>>=fun x3=>
  some x3
theorem Kd {e used syntaxReport res}(hh:G4 e used syntaxReport=some res):U0 C 177 [.ref 0 0,.agg (A0.cells e),.d (.bool used)] [.row (I0.cells syntaxReport) 103] (Ret [.row (I0.cells res) 103] (.tup [])):=by
 unfold G4 at hh
 obtain ⟨x1,hx1,hh⟩:=bs' hh
 refine U0.intro hC Tryz.func177 rfl rfl rfl (s' rfl rfl (F0.n hC rfl (n' (S' (sg' 7 rfl (G' 5 rfl (AG.c rfl rfl (fun hg=>⟨hg,hg,trivial⟩) (fun hw=>Ey (A4 hw hx1)) (pa' rfl (an' (n' (ci' rfl hh (fun hh=>?_) (fun hh=>?_))))))))))))
 ·cases hh
  exact re' (rt' rfl rfl rfl)
 obtain ⟨x2,hx2,hh⟩:=bs' hh
 obtain ⟨x3,hx3,hh⟩:=bs' hh
 cases hh
 exact sk' (p' 2 rfl (g' [0] (D1 hx2) rfl rfl rfl rfl rfl rfl (n' (P' 2 rfl (g' [0] (Mg hx3) rfl rfl rfl rfl rfl rfl (n' (rn' rfl rfl rfl)))))))
def Ee (v:Int):Option (W2×Bool):=
 if (v == 0)=true then
  some ((W2.mk true true false false false false false false false),true)
 else
  if (v == 1)=true then
   some ((W2.mk true false true true false false false false false),true)
  else
   if (v == 2)=true then
    some ((W2.mk true false true false false false false false false),true)
   else
    if (v == 3)=true then
     some ((W2.mk false true false false false false false false false),true)
    else
     if (v == 4)=true then
      some ((W2.mk false false false false true false false false false),true)
     else
      if (v == 5)=true then
       some ((W2.mk false true false false false false false true true),true)
      else
       if (v == 6)=true then
        some ((W2.mk false true false false true false false true false),true)
       else
        if (v == 7)=true then
         some ((W2.mk false false true false false true false true false),true)
        else
         if (v == 8)=true then
          some ((W2.mk false false false false false false true false false),true)
         else
          some ((W2.mk false false false false false false false false false),false)
theorem Fy {v res}(hh:Ee v=some res):U0 C 178 [.d (.int .i64 v)] [] (Ret [] (.tup [.agg (W2.cells res.1),.d (.bool res.2)])):=by
 unfold Ee at hh
 refine U0.intro hC Tryz.func178 rfl rfl rfl (s' rfl rfl (F0.n hC rfl (e' rfl (S' (t' rfl (bk' (t' rfl (ci' rfl hh (fun hh=>?_) (fun hh=>?_)))))))))
 ·cases hh
  exact p' 1 rfl (F0.s hC rfl (e' rfl (re' (rt' rfl rfl rfl))))
 refine t' rfl (ci' rfl hh (fun hh=>?_) (fun hh=>?_))
 ·cases hh
  exact p' 1 rfl (F0.s hC rfl (e' rfl (re' (rt' rfl rfl rfl))))
 refine t' rfl (ci' rfl hh (fun hh=>?_) (fun hh=>?_))
 ·cases hh
  exact p' 1 rfl (F0.s hC rfl (e' rfl (re' (rt' rfl rfl rfl))))
 refine t' rfl (ci' rfl hh (fun hh=>?_) (fun hh=>?_))
 ·cases hh
  exact p' 1 rfl (F0.s hC rfl (e' rfl (re' (rt' rfl rfl rfl))))
 refine t' rfl (ci' rfl hh (fun hh=>?_) (fun hh=>?_))
 ·cases hh
  exact p' 1 rfl (F0.s hC rfl (e' rfl (re' (rt' rfl rfl rfl))))
 refine t' rfl (ci' rfl hh (fun hh=>?_) (fun hh=>?_))
 ·cases hh
  exact p' 1 rfl (F0.s hC rfl (e' rfl (re' (rt' rfl rfl rfl))))
 refine t' rfl (ci' rfl hh (fun hh=>?_) (fun hh=>?_))
 ·cases hh
  exact p' 1 rfl (F0.s hC rfl (e' rfl (re' (rt' rfl rfl rfl))))
 refine t' rfl (ci' rfl hh (fun hh=>?_) (fun hh=>?_))
 ·cases hh
  exact p' 1 rfl (F0.s hC rfl (e' rfl (re' (rt' rfl rfl rfl))))
 refine t' rfl (ci' rfl hh (fun hh=>?_) (fun hh=>?_))
 ·cases hh
  exact p' 1 rfl (F0.s hC rfl (e' rfl (re' (rt' rfl rfl rfl))))
 cases hh
 exact sk' (p' 1 rfl (F0.s hC rfl (e' rfl (re' (rt' rfl rfl rfl)))))
def L4 (s:E0)(o0:I0)(last:Int)(v58:Int):Option I0:=
 if (decide (v58 < ((s.Numbers).length:Int)))=true then
  idx s.Numbers v58>>=fun x10=>
  T3 x10 0 1048576>>=fun x11=>
  E2 (bif x11 then (decide (x10 > last)) else false) o0>>=fun x12=>
  L4 s x12 x10 (IntKind.i64.wrap (v58+1))
 else
  some o0
 partial_fixpoint
abbrev Ni (s:E0)(o0:I0)(last:Int)(v58:Int)(res:I0):Prop:=LM C 73 1 Tryz.f179 [1,1,4,1,3,1,3,1,3,1,2,1,1,1,4] [(0,.ref 0 0),(5,.d (.int .i64 last)),(56,.d (.sl (ei64.rows s.Numbers))),(57,.d (.int .i64 ((s.Numbers).length:Int))),(58,.d (.int .i64 v58))] [.row (I0.cells o0) 103] (Ret [.row (I0.cells res) 103] (.tup []))
theorem Zn (s:E0):(∀ o0 last v58 res,L4 s o0 last v58=some res→Ni s o0 last v58 res):=by
 refine L4.partial_correctness s _ ?_
 ·intro g0 ih0 o0 last v58 res hh
  refine A1.unroll (t' rfl (S' (ci' rfl hh (fun hh=>?_) (fun hh=>?_))))
  ·obtain ⟨x10,hx10,hh⟩:=bs' hh
   obtain ⟨x11,hx11,hh⟩:=bs' hh
   obtain ⟨x12,hx12,hh⟩:=bs' hh
   refine sk' (S' (bk' (s' rfl rfl (i' rfl (W1 hx10) (ei64.idx hx10) rfl (e' rfl (sg' 8 rfl (G' 2 rfl (AG.c rfl rfl (fun _=>trivial) (fun _=>U4 hx11) (G' 3 rfl (a2' rfl (pa' rfl (an' (g' [0] (R3 hx12) rfl rfl rfl rfl rfl rfl ?_)))))))))))))
   exact n' (T' rfl (T' rfl (lw' (ih0 _ _ _ _ hh) rfl rfl rfl)))
  cases hh
  exact ex' (rn' rfl rfl rfl)
theorem Tp {s o0 last v58 res}(hh:L4 s o0 last v58=some res):Ni s o0 last v58 res:=(Zn s) _ _ _ _ hh
def E8 (s:E0)(syntaxReport:I0):Option I0:=
 if (s.Verb == 4)=true then
  T3 s.NV 0 1048576>>=fun x1=>
  E2 x1 syntaxReport>>=fun x2=>
  some x2
 else
  if (s.Verb == 6)=true then
   T3 s.NV 0 4096>>=fun x3=>
   E2 x3 syntaxReport>>=fun x4=>
   some x4
  else
   if (s.Verb == 7)=true then
    T3 s.Low (-1048576) 1048576>>=fun x5=>
    (if x5=true then T3 s.High s.Low 1048576 else some default)>>=fun x6=>
    E2 (bif (bif x5 then x6 else false) then (decide ((IntKind.i64.wrap (s.High - s.Low)) < 4096)) else false) syntaxReport>>=fun x7=>
    some x7
   else
    if (s.Verb == 8)=true then
     T3 ((s.Numbers).length:Int) 1 32>>=fun x8=>
     E2 x8 syntaxReport>>=fun x9=>
     L4 s x9 (-1) 0
    else
     some syntaxReport
theorem Yr {s syntaxReport res}(hh:E8 s syntaxReport=some res):U0 C 179 [.ref 0 0,.agg (E0.cells s)] [.row (I0.cells syntaxReport) 103] (Ret [.row (I0.cells res) 103] (.tup [])):=by
 unfold E8 at hh
 refine U0.intro hC Tryz.func179 rfl rfl rfl (s' rfl rfl (F0.n hC rfl (n' (t' rfl (bk' (t' rfl (ci' rfl hh (fun hh=>?_) (fun hh=>?_))))))))
 ·obtain ⟨x1,hx1,hh⟩:=bs' hh
  obtain ⟨x2,hx2,hh⟩:=bs' hh
  cases hh
  exact P' 3 rfl (c' (U4 hx1) rfl rfl (g' [0] (R3 hx2) rfl rfl rfl rfl rfl rfl (n' (rn' rfl rfl rfl))))
 refine t' rfl (ci' rfl hh (fun hh=>?_) (fun hh=>?_))
 ·obtain ⟨x3,hx3,hh⟩:=bs' hh
  obtain ⟨x4,hx4,hh⟩:=bs' hh
  cases hh
  exact P' 3 rfl (c' (U4 hx3) rfl rfl (g' [0] (R3 hx4) rfl rfl rfl rfl rfl rfl (n' (rn' rfl rfl rfl))))
 refine t' rfl (ci' rfl hh (fun hh=>?_) (fun hh=>?_))
 ·obtain ⟨x5,hx5,hh⟩:=bs' hh
  obtain ⟨x6,hx6,hh⟩:=bs' hh
  obtain ⟨x7,hx7,hh⟩:=bs' hh
  cases hh
  refine sg' 11 rfl (G' 2 rfl (AG.c rfl rfl (fun _=>trivial) (fun _=>U4 hx5) (G' 2 rfl (a1' rfl (a0' rfl (a1' rfl (AG.c rfl rfl (fun hg=>⟨hg,hg,trivial⟩) (fun hw=>U4 (A4 hw hx6)) (pa' rfl (a0' rfl (an' (n' (AEx.regionG 10 rfl (G' 4 rfl ?_)))))))))))))
  exact a1' rfl (a0' rfl (a1' rfl (a2' rfl (a1' rfl (pa' rfl (an' (g' [0] (R3 hx7) rfl rfl rfl rfl rfl rfl (n' (rn' rfl rfl rfl)))))))))
 refine t' rfl (ci' rfl hh (fun hh=>?_) (fun hh=>?_))
 ·obtain ⟨x8,hx8,hh⟩:=bs' hh
  obtain ⟨x9,hx9,hh⟩:=bs' hh
  exact p' 3 rfl (qe' rfl trivial (ei64.lenA _) (c' (U4 hx8) rfl rfl (g' [0] (R3 hx9) rfl rfl rfl rfl rfl rfl (n' (t' rfl (p' 2 rfl (qe' rfl trivial (ei64.lenA _) (e' rfl (bk' (fw' (Tp hh) rfl rfl rfl))))))))))
 cases hh
 exact sk' (rn' rfl rfl rfl)
mutual
def D4 (l:List E0)(nesting:Int)(syntaxReport:I0):Option I0:=
 H6 l nesting syntaxReport 0
 partial_fixpoint
def H6 (l:List E0)(nesting:Int)(o03:I0)(v14:Int):Option I0:=
 if (decide (v14 < ((l).length:Int)))=true then
  idx l v14>>=fun x1=>
  A6 nesting (I0.mk (IntKind.i64.wrap (o03.nodes+1)) o03.depth o03.badForm o03.badName o03.badNumber)>>=fun x2=>
  Ee x1.Verb>>=fun x3=>
  W0 x3.2 x2>>=fun x4=>
  G4 x1.Place x3.1.place x4>>=fun x5=>
  if x3.1.place=true then
   Lc x1.Place>>=fun x6=>
   W0 x6 x5>>=fun x7=>
   K7 l nesting x7 x1 x3 v14
  else
   K7 l nesting x5 x1 x3 v14
 else
  some o03
 partial_fixpoint
def K7 (l:List E0)(nesting:Int)(o0:I0)(x1:E0)(x3:W2×Bool)(v141:Int):Option I0:=
 G4 x1.Value x3.1.value o0>>=fun x8=>
 W0 (bif x3.1.name then true else (x1.Name == [])) x8>>=fun x9=>
 if x3.1.name=true then
  Y3 x1.Name x9>>=fun x10=>
  L7 l nesting x10 x1 x3 v141
 else
  L7 l nesting x9 x1 x3 v141
 partial_fixpoint
def L7 (l:List E0)(nesting:Int)(o01:I0)(x1:E0)(x3:W2×Bool)(v142:Int):Option I0:=
 W0 (bif x3.1.args then true else (((x1.Args).length:Int) == 0)) o01>>=fun x11=>
 Aa l nesting x11 x1 x3 v142 0
 partial_fixpoint
def Aa (l:List E0)(nesting:Int)(o02:I0)(x1:E0)(x3:W2×Bool)(v143:Int)(v84:Int):Option I0:=
 if (decide (v84 < ((x1.Args).length:Int)))=true then
  idx x1.Args v84>>=fun x12=>
  X2 x12 1 o02>>=fun x13=>
  Aa l nesting x13 x1 x3 v143 (IntKind.i64.wrap (v84+1))
 else
  W0 (bif x3.1.n then true else (x1.NV == 0)) o02>>=fun x14=>
  W0 (bif x3.1.bounds then true else (bif (x1.Low == 0) then (x1.High == 0) else false)) x14>>=fun x15=>
  W0 (bif x3.1.numbers then true else (((x1.Numbers).length:Int) == 0)) x15>>=fun x16=>
  W0 (bif x3.1.thenV then true else (((x1.Then).length:Int) == 0)) x16>>=fun x17=>
  W0 (bif x3.1.other then true else (((x1.Else).length:Int) == 0)) x17>>=fun x18=>
  E8 x1 x18>>=fun x19=>
  D4 x1.Then (IntKind.i64.wrap (nesting+1)) x19>>=fun x20=>
  D4 x1.Else (IntKind.i64.wrap (nesting+1)) x20>>=fun x21=>
  H6 l nesting x21 (IntKind.i64.wrap (v143+1))
 partial_fixpoint
end
abbrev Sl (l:List E0)(nesting:Int)(syntaxReport:I0)(res:I0):Prop:=U0 C 144 [.ref 0 0,.d (.sl (E0.rows l)),.d (.int .i64 nesting)] [.row (I0.cells syntaxReport) 103] (Ret [.row (I0.cells res) 103] (.tup []))
abbrev Zr (l:List E0)(nesting:Int)(o03:I0)(v14:Int)(res:I0):Prop:=LM C 161 1 Tryz.f144 [1,4] [(0,.ref 0 0),(2,.d (.int .i64 nesting)),(12,.d (.sl (E0.rows l))),(13,.d (.int .i64 ((l).length:Int))),(14,.d (.int .i64 v14))] [.row (I0.cells o03) 103] (Ret [.row (I0.cells res) 103] (.tup []))
abbrev As (l:List E0)(nesting:Int)(o0:I0)(x1:E0)(x3:W2×Bool)(v141:Int)(res:I0):Prop:=JM C 161 1 Tryz.f144 [1,4,5,1,1,0,4,1,1,1,1,1,1,1] [(0,.ref 0 0),(2,.d (.int .i64 nesting)),(7,.ref 1 0),(8,.ref 2 0),(12,.d (.sl (E0.rows l))),(13,.d (.int .i64 ((l).length:Int))),(14,.d (.int .i64 v141))] [.row (I0.cells o0) 103,.row (E0.cells x1) 144,.row (W2.cells x3.1) 186] (Ret [.row (I0.cells res) 103] (.tup []))
abbrev Bs (l:List E0)(nesting:Int)(o01:I0)(x1:E0)(x3:W2×Bool)(v142:Int)(res:I0):Prop:=JM C 161 1 Tryz.f144 [1,4,5,1,1,0,4,1,1,1,1,1,1,1,1,1,1] [(0,.ref 0 0),(2,.d (.int .i64 nesting)),(7,.ref 1 0),(8,.ref 2 0),(12,.d (.sl (E0.rows l))),(13,.d (.int .i64 ((l).length:Int))),(14,.d (.int .i64 v142))] [.row (I0.cells o01) 103,.row (E0.cells x1) 144,.row (W2.cells x3.1) 186] (Ret [.row (I0.cells res) 103] (.tup []))
abbrev Cs (l:List E0)(nesting:Int)(o02:I0)(x1:E0)(x3:W2×Bool)(v143:Int)(v84:Int)(res:I0):Prop:=LM C 161 1 Tryz.f144 [1,4,5,1,1,0,4,1,1,1,1,1,1,1,1,1,1,1,0,1,4] [(0,.ref 0 0),(2,.d (.int .i64 nesting)),(7,.ref 1 0),(8,.ref 2 0),(12,.d (.sl (E0.rows l))),(13,.d (.int .i64 ((l).length:Int))),(14,.d (.int .i64 v143)),(82,.d (.sl (A0.rows x1.Args))),(83,.d (.int .i64 ((x1.Args).length:Int))),(84,.d (.int .i64 v84))] [.row (I0.cells o02) 103,.row (E0.cells x1) 144,.row (W2.cells x3.1) 186] (Ret [.row (I0.cells res) 103] (.tup []))
theorem Zs:(∀ l nesting syntaxReport res,D4 l nesting syntaxReport=some res→Sl l nesting syntaxReport res)∧(∀ l nesting o03 v14 res,H6 l nesting o03 v14=some res→Zr l nesting o03 v14 res)∧(∀ l nesting o0 x1 x3 v141 res,K7 l nesting o0 x1 x3 v141=some res→As l nesting o0 x1 x3 v141 res)∧(∀ l nesting o01 x1 x3 v142 res,L7 l nesting o01 x1 x3 v142=some res→Bs l nesting o01 x1 x3 v142 res)∧(∀ l nesting o02 x1 x3 v143 v84 res,Aa l nesting o02 x1 x3 v143 v84=some res→Cs l nesting o02 x1 x3 v143 v84 res):=by
 refine D4.mutual_partial_correctness _ _ _ _ _ ?_ ?_ ?_ ?_ ?_
 ·intro g1 ih1 l nesting syntaxReport res hh
  exact U0.intro hC Tryz.func144 rfl rfl rfl (p' 1 rfl (qe' rfl trivial (E0.lenA _) (e' rfl (bk' (fw' (ih1 _ _ _ _ _ hh) rfl rfl rfl)))))
 ·intro g2 ih2 l nesting o03 v14 res hh
  refine A1.unroll (t' rfl (S' (ci' rfl hh (fun hh=>?_) (fun hh=>?_))))
  ·obtain ⟨x1,hx1,hh⟩:=bs' hh
   obtain ⟨x2,hx2,hh⟩:=bs' hh
   obtain ⟨x3,hx3,hh⟩:=bs' hh
   obtain ⟨x4,hx4,hh⟩:=bs' hh
   obtain ⟨x5,hx5,hh⟩:=bs' hh
   refine sk' (S' (bk' (s' rfl rfl (i' rfl (W1 hx1) (E0.idx hx1) rfl (q' rfl (F0.nf hC rfl (F0.s hC rfl (n' (p' 7 rfl (F0.s hC rfl (n' (p' 2 rfl (g' [0] (Jg hx2) rfl rfl rfl rfl rfl rfl ?_)))))))))))))
   refine n' (p' 2 rfl (c' (Fy hx3) rfl rfl (o' 3 rfl (F0.n hC rfl (F0.s hC rfl (e' rfl (p' 2 rfl (g' [0] (D1 hx4) rfl rfl rfl rfl rfl rfl (n' (p' 5 rfl (g' [0] (Kd hx5) rfl rfl rfl rfl rfl rfl (n' (S' ?_)))))))))))))
   refine t' rfl (ci' rfl hh (fun hh=>?_) (fun hh=>?_))
   ·obtain ⟨x6,hx6,hh⟩:=bs' hh
    obtain ⟨x7,hx7,hh⟩:=bs' hh
    exact P' 3 rfl (c' (Kt hx6) rfl rfl (g' [0] (D1 hx7) rfl rfl rfl rfl rfl rfl (n' (ew' (ih2 _ _ _ _ _ _ _ hh) rfl rfl rfl))))
   exact sk' (ew' (ih2 _ _ _ _ _ _ _ hh) rfl rfl rfl)
  cases hh
  exact ex' (rn' rfl rfl rfl)
 ·intro g3 ih3 l nesting o0 x1 x3 v141 res hh
  obtain ⟨x8,hx8,hh⟩:=bs' hh
  obtain ⟨x9,hx9,hh⟩:=bs' hh
  refine p' 5 rfl (g' [0] (Kd hx8) rfl rfl rfl rfl rfl rfl (n' (sg' 8 rfl (G' 5 rfl (a1' rfl (a1' rfl (po' rfl (an' (g' [0] (D1 hx9) rfl rfl rfl rfl rfl rfl (n' (S' (t' rfl (ci' rfl hh (fun hh=>?_) (fun hh=>?_))))))))))))))
  ·obtain ⟨x10,hx10,hh⟩:=bs' hh
   exact P' 3 rfl (g' [0] (Oa hx10) rfl rfl rfl rfl rfl rfl (n' (ew' (ih3 _ _ _ _ _ _ _ hh) rfl rfl rfl)))
  exact sk' (ew' (ih3 _ _ _ _ _ _ _ hh) rfl rfl rfl)
 ·intro g4 ih4 l nesting o01 x1 x3 v142 res hh
  obtain ⟨x11,hx11,hh⟩:=bs' hh
  exact sg' 9 rfl (G' 5 rfl (a1' rfl (AG.qe hC rfl (fun hg=>⟨⟨hg,trivial⟩,trivial⟩) (A0.lenA _) (a1' rfl (po' rfl (an' (g' [0] (D1 hx11) rfl rfl rfl rfl rfl rfl (n' (S' (p' 2 rfl (qe' rfl trivial (A0.lenA _) (e' rfl (bk' (fw' (ih4 _ _ _ _ _ _ _ _ hh) rfl rfl rfl))))))))))))))
 ·intro g0 g1 g4 ih0 ih1 ih4 l nesting o02 x1 x3 v143 v84 res hh
  refine A1.unroll (t' rfl (S' (ci' rfl hh (fun hh=>?_) (fun hh=>?_))))
  ·obtain ⟨x12,hx12,hh⟩:=bs' hh
   obtain ⟨x13,hx13,hh⟩:=bs' hh
   exact sk' (S' (bk' (s' rfl rfl (i' rfl (W1 hx12) (A0.idx hx12) rfl (q' rfl (F0.nf hC rfl (F0.s hC rfl (n' (P' 2 rfl (g' [0] (Mg hx13) rfl rfl rfl rfl rfl rfl (n' (T' rfl (lw' (ih4 _ _ _ _ _ _ _ _ hh) rfl rfl rfl)))))))))))))
  obtain ⟨x14,hx14,hh⟩:=bs' hh
  obtain ⟨x15,hx15,hh⟩:=bs' hh
  obtain ⟨x16,hx16,hh⟩:=bs' hh
  obtain ⟨x17,hx17,hh⟩:=bs' hh
  obtain ⟨x18,hx18,hh⟩:=bs' hh
  obtain ⟨x19,hx19,hh⟩:=bs' hh
  obtain ⟨x20,hx20,hh⟩:=bs' hh
  obtain ⟨x21,hx21,hh⟩:=bs' hh
  refine ex' (sg' 8 rfl (G' 5 rfl (a1' rfl (a1' rfl (po' rfl (an' (g' [0] (D1 hx14) rfl rfl rfl rfl rfl rfl (n' (sg' 13 rfl (G' 5 rfl (a1' rfl (a1' rfl (a1' rfl ?_)))))))))))))
  refine a0' rfl (a1' rfl (a1' rfl (pA' rfl (po' rfl (an' (g' [0] (D1 hx15) rfl rfl rfl rfl rfl rfl (n' (sg' 9 rfl (G' 5 rfl (a1' rfl (AG.qe hC rfl (fun hg=>⟨⟨hg,trivial⟩,trivial⟩) (ei64.lenA _) (a1' rfl (po' rfl ?_)))))))))))))
  refine an' (g' [0] (D1 hx16) rfl rfl rfl rfl rfl rfl (n' (sg' 9 rfl (G' 5 rfl (a1' rfl (AG.qe hC rfl (fun hg=>⟨⟨hg,trivial⟩,trivial⟩) (E0.lenA _) (a1' rfl (po' rfl (an' (g' [0] (D1 hx17) rfl rfl rfl rfl rfl rfl (n' (sg' 9 rfl (G' 5 rfl ?_)))))))))))))
  refine a1' rfl (AG.qe hC rfl (fun hg=>⟨⟨hg,trivial⟩,trivial⟩) (E0.lenA _) (a1' rfl (po' rfl (an' (g' [0] (D1 hx18) rfl rfl rfl rfl rfl rfl (n' (p' 2 rfl (g' [0] (Yr hx19) rfl rfl rfl rfl rfl rfl (n' (p' 5 rfl (g' [0] (ih0 _ _ _ _ hx20) rfl rfl rfl rfl rfl rfl (n' (P' 5 rfl ?_)))))))))))))
  exact g' [0] (ih0 _ _ _ _ hx21) rfl rfl rfl rfl rfl rfl (n' (T' rfl (lw' (ih1 _ _ _ _ _ hh) rfl rfl rfl)))
theorem Uk {l nesting syntaxReport res}(hh:D4 l nesting syntaxReport=some res):Sl l nesting syntaxReport res:=(Zs).1 _ _ _ _ hh
end Go.Proofs.YtmnhfbekncjnfaaGreatDoor

set_option maxRecDepth 100000
set_option maxHeartbeats 4000000
set_option synthInstance.maxSize 20000
set_option linter.unusedVariables false
namespace Go.Proofs.YtmnhfbekncjnfaaGreatDoor
open Go.Am
mutual
def K6 (l:List D0)(syntaxReport:I0):Option I0:=
 M7 l syntaxReport 0
 partial_fixpoint
def M7 (l:List D0)(o03:I0)(v15:Int):Option I0:=
 if (decide (v15 < ((l).length:Int)))=true then
  idx l v15>>=fun x1=>
  Aj x1.Kind>>=fun x2=>
  W0 x2.1 (I0.mk (IntKind.i64.wrap (o03.nodes+1)) o03.depth o03.badForm o03.badName o03.badNumber)>>=fun x3=>
  (if (!x2.1)=true then Q8 x1.TypeV (J0.mk 0 0 0 0 [] [] []) else some default)>>=fun x4=>
  if (bif x2.1 then true else (!x4))=true then
   N6 x1.TypeV 1 x3>>=fun x5=>
   Ba l x5 x1 x2 v15
  else
   Ba l x3 x1 x2 v15
 else
  some o03
 partial_fixpoint
def Ba (l:List D0)(o0:I0)(x1:D0)(x2:Bool×Bool)(v151:Int):Option I0:=
 Y3 x1.Name o0>>=fun x6=>
 G4 x1.Value x2.2 x6>>=fun x7=>
 W0 (bif (x1.Kind == 4) then true else (x1.Init == 0)) x7>>=fun x8=>
 T3 x1.Init (-1048576) 1048576>>=fun x9=>
 (if (x9&&(!(x1.TypeV.Kind != 0)))=true then T3 x1.Init 0 1 else some default)>>=fun x10=>
 E2 (bif x9 then (bif (x1.TypeV.Kind != 0) then true else x10) else false) x8>>=fun x11=>
 W0 (bif (x1.Kind == 6) then true else (bif (bif (((x1.Params).length:Int) == 0) then (((x1.Vars).length:Int) == 0) else false) then (((x1.Body).length:Int) == 0) else false)) x11>>=fun x12=>
 N7 l x12 x1 v151 0
 partial_fixpoint
def N7 (l:List D0)(o01:I0)(x1:D0)(v152:Int)(v109:Int):Option I0:=
 if (decide (v109 < ((x1.Params).length:Int)))=true then
  idx x1.Params v109>>=fun x13=>
  W0 (bif (x13.Kind == 4) then (x13.Init == 0) else false) o01>>=fun x14=>
  N7 l x14 x1 v152 (IntKind.i64.wrap (v109+1))
 else
  Ca l o01 x1 v152 0
 partial_fixpoint
def Ca (l:List D0)(o02:I0)(x1:D0)(v153:Int)(v127:Int):Option I0:=
 if (decide (v127 < ((x1.Vars).length:Int)))=true then
  idx x1.Vars v127>>=fun x15=>
  W0 (x15.Kind == 4) o02>>=fun x16=>
  Ca l x16 x1 v153 (IntKind.i64.wrap (v127+1))
 else
  K6 x1.Params o02>>=fun x17=>
  K6 x1.Vars x17>>=fun x18=>
  D4 x1.Body 1 x18>>=fun x19=>
  M7 l x19 (IntKind.i64.wrap (v153+1))
 partial_fixpoint
end
abbrev Tl (l:List D0)(syntaxReport:I0)(res:I0):Prop:=U0 C 143 [.ref 0 0,.d (.sl (D0.rows l))] [.row (I0.cells syntaxReport) 103] (Ret [.row (I0.cells res) 103] (.tup []))
abbrev Ds (l:List D0)(o03:I0)(v15:Int)(res:I0):Prop:=LM C 150 1 Tryz.f143 [1,4] [(0,.ref 0 0),(13,.d (.sl (D0.rows l))),(14,.d (.int .i64 ((l).length:Int))),(15,.d (.int .i64 v15))] [.row (I0.cells o03) 103] (Ret [.row (I0.cells res) 103] (.tup []))
abbrev Es (l:List D0)(o0:I0)(x1:D0)(x2:Bool×Bool)(v151:Int)(res:I0):Prop:=JM C 150 1 Tryz.f143 [1,4,5,1,1,0,4,1,1,1,1,1] [(0,.ref 0 0),(5,.ref 1 0),(7,.d (.bool x2.2)),(13,.d (.sl (D0.rows l))),(14,.d (.int .i64 ((l).length:Int))),(15,.d (.int .i64 v151))] [.row (I0.cells o0) 103,.row (D0.cells x1) 128] (Ret [.row (I0.cells res) 103] (.tup []))
abbrev Fs (l:List D0)(o01:I0)(x1:D0)(v152:Int)(v109:Int)(res:I0):Prop:=LM C 150 1 Tryz.f143 [1,4,5,1,1,0,4,1,1,1,1,1,1,1,1,1,1,1,0,1,4] [(0,.ref 0 0),(5,.ref 1 0),(13,.d (.sl (D0.rows l))),(14,.d (.int .i64 ((l).length:Int))),(15,.d (.int .i64 v152)),(107,.d (.sl (D0.rows x1.Params))),(108,.d (.int .i64 ((x1.Params).length:Int))),(109,.d (.int .i64 v109))] [.row (I0.cells o01) 103,.row (D0.cells x1) 128] (Ret [.row (I0.cells res) 103] (.tup []))
abbrev Gs (l:List D0)(o02:I0)(x1:D0)(v153:Int)(v127:Int)(res:I0):Prop:=LM C 150 1 Tryz.f143 [1,4,5,1,1,0,4,1,1,1,1,1,1,1,1,1,1,1,1,0,1,4] [(0,.ref 0 0),(5,.ref 1 0),(13,.d (.sl (D0.rows l))),(14,.d (.int .i64 ((l).length:Int))),(15,.d (.int .i64 v153)),(125,.d (.sl (D0.rows x1.Vars))),(126,.d (.int .i64 ((x1.Vars).length:Int))),(127,.d (.int .i64 v127))] [.row (I0.cells o02) 103,.row (D0.cells x1) 128] (Ret [.row (I0.cells res) 103] (.tup []))
theorem Bt:(∀ l syntaxReport res,K6 l syntaxReport=some res→Tl l syntaxReport res)∧(∀ l o03 v15 res,M7 l o03 v15=some res→Ds l o03 v15 res)∧(∀ l o0 x1 x2 v151 res,Ba l o0 x1 x2 v151=some res→Es l o0 x1 x2 v151 res)∧(∀ l o01 x1 v152 v109 res,N7 l o01 x1 v152 v109=some res→Fs l o01 x1 v152 v109 res)∧(∀ l o02 x1 v153 v127 res,Ca l o02 x1 v153 v127=some res→Gs l o02 x1 v153 v127 res):=by
 refine K6.mutual_partial_correctness _ _ _ _ _ ?_ ?_ ?_ ?_ ?_
 ·intro g1 ih1 l syntaxReport res hh
  exact U0.intro hC Tryz.func143 rfl rfl rfl (p' 1 rfl (qe' rfl trivial (D0.lenA _) (e' rfl (bk' (fw' (ih1 _ _ _ _ hh) rfl rfl rfl)))))
 ·intro g2 ih2 l o03 v15 res hh
  refine A1.unroll (t' rfl (S' (ci' rfl hh (fun hh=>?_) (fun hh=>?_))))
  ·obtain ⟨x1,hx1,hh⟩:=bs' hh
   obtain ⟨x2,hx2,hh⟩:=bs' hh
   obtain ⟨x3,hx3,hh⟩:=bs' hh
   obtain ⟨x4,hx4,hh⟩:=bs' hh
   refine sk' (S' (bk' (s' rfl rfl (i' rfl (W1 hx1) (D0.idx hx1) rfl (q' rfl (F0.nf hC rfl (F0.s hC rfl (n' (p' 7 rfl (F0.s hC rfl (n' (p' 2 rfl (c' (Lz hx2) rfl rfl ?_)))))))))))))
   refine e' rfl (p' 2 rfl (g' [0] (D1 hx3) rfl rfl rfl rfl rfl rfl (n' (S' (sg' 8 rfl (G' 3 rfl (a1' rfl (a0' rfl (AG.c rfl rfl (fun hg=>⟨hg,hg,trivial⟩) (fun hw=>Dy (A4 hw hx4)) (a1' rfl (po' rfl (an' (n' (ci' rfl hh (fun hh=>?_) (fun hh=>?_)))))))))))))))
   ·obtain ⟨x5,hx5,hh⟩:=bs' hh
    exact P' 3 rfl (g' [0] (Ow hx5) rfl rfl rfl rfl rfl rfl (n' (ew' (ih2 _ _ _ _ _ _ hh) rfl rfl rfl)))
   exact sk' (ew' (ih2 _ _ _ _ _ _ hh) rfl rfl rfl)
  cases hh
  exact ex' (rn' rfl rfl rfl)
 ·intro g3 ih3 l o0 x1 x2 v151 res hh
  obtain ⟨x6,hx6,hh⟩:=bs' hh
  obtain ⟨x7,hx7,hh⟩:=bs' hh
  obtain ⟨x8,hx8,hh⟩:=bs' hh
  obtain ⟨x9,hx9,hh⟩:=bs' hh
  obtain ⟨x10,hx10,hh⟩:=bs' hh
  obtain ⟨x11,hx11,hh⟩:=bs' hh
  obtain ⟨x12,hx12,hh⟩:=bs' hh
  refine p' 3 rfl (g' [0] (Oa hx6) rfl rfl rfl rfl rfl rfl (n' (p' 4 rfl (g' [0] (Kd hx7) rfl rfl rfl rfl rfl rfl (n' (sg' 9 rfl (G' 6 rfl (a1' rfl (a1' rfl (po' rfl (an' (g' [0] (D1 hx8) rfl rfl rfl rfl rfl rfl (n' ?_)))))))))))))
  refine sg' 15 rfl (G' 3 rfl (AG.c rfl rfl (fun _=>trivial) (fun _=>U4 hx9) (G' 2 rfl (a1' rfl (a1' rfl (a1' rfl (a1' rfl (a0' rfl (a1' rfl (AG.c rfl rfl (fun hg=>⟨hg,trivial⟩) (fun hw=>U4 (A4 hw hx10)) (pO' rfl (pa' rfl (an' ?_)))))))))))))
  refine g' [0] (R3 hx11) rfl rfl rfl rfl rfl rfl (n' (t' rfl (sg' 20 rfl (G' 4 rfl (a1' rfl (AG.qe hC rfl (fun hg=>⟨⟨hg,trivial⟩,trivial⟩) (D0.lenA _) (a1' rfl (a1' rfl (a0' rfl (a1' rfl (AG.qe hC rfl (fun hg=>⟨⟨hg,trivial⟩,trivial⟩) (D0.lenA _) (a1' rfl (pA' rfl ?_)))))))))))))
  refine a1' rfl (a0' rfl (a1' rfl (AG.qe hC rfl (fun hg=>⟨⟨hg,trivial⟩,trivial⟩) (E0.lenA _) (a1' rfl (pA' rfl (po' rfl (an' (g' [0] (D1 hx12) rfl rfl rfl rfl rfl rfl (n' (S' (p' 2 rfl (qe' rfl trivial (D0.lenA _) (e' rfl ?_)))))))))))))
  exact bk' (fw' (ih3 _ _ _ _ _ _ hh) rfl rfl rfl)
 ·intro g3 g4 ih3 ih4 l o01 x1 v152 v109 res hh
  refine A1.unroll (t' rfl (S' (ci' rfl hh (fun hh=>?_) (fun hh=>?_))))
  ·obtain ⟨x13,hx13,hh⟩:=bs' hh
   obtain ⟨x14,hx14,hh⟩:=bs' hh
   refine sk' (S' (bk' (s' rfl rfl (i' rfl (W1 hx13) (D0.idx hx13) rfl (q' rfl (F0.nf hC rfl (F0.s hC rfl (n' (AEx.regionG 9 rfl (G' 6 rfl (a1' rfl (a1' rfl (pa' rfl ?_)))))))))))))
   exact an' (g' [0] (D1 hx14) rfl rfl rfl rfl rfl rfl (n' (T' rfl (lw' (ih3 _ _ _ _ _ _ hh) rfl rfl rfl))))
  exact ex' (S' (p' 2 rfl (qe' rfl trivial (D0.lenA _) (e' rfl (bk' (fw' (ih4 _ _ _ _ _ _ hh) rfl rfl rfl))))))
 ·intro g0 g1 g4 ih0 ih1 ih4 l o02 x1 v153 v127 res hh
  refine A1.unroll (t' rfl (S' (ci' rfl hh (fun hh=>?_) (fun hh=>?_))))
  ·obtain ⟨x15,hx15,hh⟩:=bs' hh
   obtain ⟨x16,hx16,hh⟩:=bs' hh
   exact sk' (S' (bk' (s' rfl rfl (i' rfl (W1 hx15) (D0.idx hx15) rfl (q' rfl (F0.nf hC rfl (F0.s hC rfl (n' (P' 4 rfl (g' [0] (D1 hx16) rfl rfl rfl rfl rfl rfl (n' (T' rfl (lw' (ih4 _ _ _ _ _ _ hh) rfl rfl rfl)))))))))))))
  obtain ⟨x17,hx17,hh⟩:=bs' hh
  obtain ⟨x18,hx18,hh⟩:=bs' hh
  obtain ⟨x19,hx19,hh⟩:=bs' hh
  exact ex' (p' 3 rfl (g' [0] (ih0 _ _ _ hx17) rfl rfl rfl rfl rfl rfl (n' (p' 3 rfl (g' [0] (ih0 _ _ _ hx18) rfl rfl rfl rfl rfl rfl (n' (P' 3 rfl (g' [0] (Uk hx19) rfl rfl rfl rfl rfl rfl (n' (T' rfl (lw' (ih1 _ _ _ _ hh) rfl rfl rfl)))))))))))
theorem Fu {l syntaxReport res}(hh:K6 l syntaxReport=some res):Tl l syntaxReport res:=(Bt).1 _ _ _ hh
def Tg (p:B1):Option I0:=
 K6 p.Decls (I0.mk 0 0 false false false)>>=fun x1=>
 D4 p.Body 1 x1>>=fun x2=>
 some x2
theorem U10 {p res}(hh:Tg p=some res):U0 C 89 [.agg (B1.cells p)] [] (Ret [.dead,.row (I0.cells res) 103] (.ref 1 0)):=by
 unfold Tg at hh
 obtain ⟨x1,hx1,hh⟩:=bs' hh
 obtain ⟨x2,hx2,hh⟩:=bs' hh
 refine U0.intro hC Tryz.func89 rfl rfl rfl (s' rfl rfl (F0.n hC rfl (e' rfl (p' 1 rfl (F0.n hC rfl (e' rfl (p' 3 rfl (g' [1] (Fu hx1) rfl rfl rfl rfl rfl rfl (n' (p' 3 rfl (g' [1] (Uk hx2) rfl rfl rfl rfl rfl rfl (n' (t' rfl ?_)))))))))))))
 refine re' ?_
 obtain rfl:=oi' hh
 exact ⟨_,_,[.dead,.row (I0.cells x2) 103],rfl,.rfl,⟨trivial,⟨rfl,.refl _,rfl⟩,trivial⟩,rfl,rfl,rfl,rfl⟩
def Lj (p:B1):Option Int:=
 Tg p>>=fun x1=>
 C6 x1>>=fun x2=>
 some x2
theorem P13 {p res}(hh:Lj p=some res):U0 C 47 [.agg (B1.cells p)] [] (Ret [] (.d (.int .i64 res))):=by
 unfold Lj at hh
 obtain ⟨x1,hx1,hh⟩:=bs' hh
 obtain ⟨x2,hx2,hh⟩:=bs' hh
 cases hh
 exact U0.intro hC Tryz.func47 rfl rfl rfl (s' rfl rfl (F0.n hC rfl (e' rfl (p' 1 rfl (g' [] (U10 hx1) rfl rfl rfl rfl rfl rfl (g' [2] (Rl hx2) rfl rfl rfl rfl rfl rfl (e' rfl (re' (rt' rfl rfl rfl)))))))))
def Rc (text:Str):Option (B1×Int×Int):=
 Ak text (B1.mk [] [])>>=fun x1=>
 if (x1.2.1 != 0)=true then
  some ((B1.mk [] []),x1.1,x1.2.1)
 else
  Lj x1.2.2>>=fun x2=>
  if (x2 != 0)=true then
   some ((B1.mk [] []),0,x2)
  else
   some (x1.2.2,0,0)
theorem Nt {text res}(hh:Rc text=some res):U0 C 21 [.d (.str text)] [] (Ret [] (.tup [.agg (B1.cells res.1),.d (.int .i64 res.2.1),.d (.int .i64 res.2.2)])):=by
 unfold Rc at hh
 obtain ⟨x1,hx1,hh⟩:=bs' hh
 refine U0.intro hC Tryz.func21 rfl rfl rfl (s' rfl rfl (F0.nf hC rfl (e' rfl (s' rfl rfl (F0.nf hC rfl (n' (p' 2 rfl (g' [1] (T10 hx1) rfl rfl rfl rfl rfl rfl (e' rfl (S' (t' rfl (ci' rfl hh (fun hh=>?_) (fun hh=>?_)))))))))))))
 ·cases hh
  exact p' 3 rfl (F0.s hC rfl (e' rfl (re' (rt' rfl rfl rfl))))
 obtain ⟨x2,hx2,hh⟩:=bs' hh
 refine sk' (S' (p' 1 rfl (c' (P13 hx2) rfl rfl (e' rfl (t' rfl (ci' rfl hh (fun hh=>?_) (fun hh=>?_)))))))
 ·cases hh
  exact p' 2 rfl (F0.s hC rfl (e' rfl (re' (rt' rfl rfl rfl))))
 cases hh
 exact sk' (p' 1 rfl (F0.s hC rfl (e' rfl (re' (rt' rfl rfl rfl)))))
def Ug (l:List K0)(atV:Int):Option Bool:=
 T0 l atV [116,121,112,101]>>=fun x1=>
 (if (!x1)=true then T0 l atV [115,101,99,114,101,116] else some default)>>=fun x2=>
 (if (!(bif x1 then true else x2))=true then T0 l atV [112,117,98,108,105,99] else some default)>>=fun x3=>
 (if (!(bif (bif x1 then true else x2) then true else x3))=true then T0 l atV [114,97,110,100,111,109] else some default)>>=fun x4=>
 (if (!(bif (bif (bif x1 then true else x2) then true else x3) then true else x4))=true then T0 l atV [118,97,114] else some default)>>=fun x5=>
 (if (!(bif (bif (bif (bif x1 then true else x2) then true else x3) then true else x4) then true else x5))=true then T0 l atV [104,97,116,99,104] else some default)>>=fun x6=>
 (if (!(bif (bif (bif (bif (bif x1 then true else x2) then true else x3) then true else x4) then true else x5) then true else x6))=true then T0 l atV [102,117,110,99] else some default)>>=fun x7=>
 some (bif (bif (bif (bif (bif (bif x1 then true else x2) then true else x3) then true else x4) then true else x5) then true else x6) then true else x7)
def Vk (l:List K0)(atV:Int):Option (Int×Int×Bool):=
 T0 l atV [116,114,117,101]>>=fun x1=>
 if x1=true then
  some (1,(IntKind.i64.wrap (atV+1)),true)
 else
  T0 l atV [102,97,108,115,101]>>=fun x2=>
  if x2=true then
   some (0,(IntKind.i64.wrap (atV+1)),true)
  else
   M5 l atV>>=fun x3=>
   some (x3.1,x3.2.1,x3.2.2)
def O6 (l:List K0)(x1:D0×Int×Bool)(o1_Init:Int)(atV1:Int):Option (D0×Int×Bool):=
 T0 l atV1 [59]>>=fun x4=>
 if (!x4)=true then
  some ((D0.mk x1.1.Kind x1.1.Name x1.1.TypeV o1_Init x1.1.Value x1.1.Params x1.1.Vars x1.1.Body),atV1,false)
 else
  some ((D0.mk x1.1.Kind x1.1.Name x1.1.TypeV o1_Init x1.1.Value x1.1.Params x1.1.Vars x1.1.Body),(IntKind.i64.wrap (atV1+1)),true)
def Ac (l:List K0)(atV:Int):Option (D0×Int×Bool):=
 J5 l atV>>=fun x1=>
 if (!x1.2.2)=true then
  some (x1.1,x1.2.1,false)
 else
  T0 l x1.2.1 [61]>>=fun x2=>
  if x2=true then
   Vk l (IntKind.i64.wrap (x1.2.1+1))>>=fun x3=>
   if (!x3.2.2)=true then
    some ((D0.mk x1.1.Kind x1.1.Name x1.1.TypeV x3.1 x1.1.Value x1.1.Params x1.1.Vars x1.1.Body),x3.2.1,false)
   else
    O6 l x1 x3.1 x3.2.1
  else
   O6 l x1 x1.1.Init x1.2.1
def Vg (l:List K0)(texts:List Str)(atV1:Int)(i:Int):Option (Int×Bool):=
 if (decide (i < ((texts).length:Int)))=true then
  idx texts i>>=fun x1=>
  T0 l atV1 x1>>=fun x2=>
  if (!x2)=true then
   some (atV1,false)
  else
   Vg l texts (IntKind.i64.wrap (atV1+1)) (IntKind.i64.wrap (i+1))
 else
  some (atV1,true)
 partial_fixpoint
def Ti (l:List K0)(atV:Int)(texts:List Str):Option (Int×Bool):=
 Vg l texts atV 0
def Fe (l:List K0)(atV:Int):Option Bool:=
 X7 l atV>>=fun x1=>
 (if (!x1.2.2)=true then T0 l atV [111,117,116,112,117,116] else some default)>>=fun x2=>
 (if (!(bif x1.2.2 then true else x2))=true then T0 l atV [119,97,105,116] else some default)>>=fun x3=>
 (if (!(bif (bif x1.2.2 then true else x2) then true else x3))=true then T0 l atV [105,102] else some default)>>=fun x4=>
 (if (!(bif (bif (bif x1.2.2 then true else x2) then true else x3) then true else x4))=true then T0 l atV [119,104,105,108,101] else some default)>>=fun x5=>
 (if (!(bif (bif (bif (bif x1.2.2 then true else x2) then true else x3) then true else x4) then true else x5))=true then T0 l atV [102,111,114] else some default)>>=fun x6=>
 (if (!(bif (bif (bif (bif (bif x1.2.2 then true else x2) then true else x3) then true else x4) then true else x5) then true else x6))=true then T0 l atV [115,101,116,116,108,101] else some default)>>=fun x7=>
 some (bif (bif (bif (bif (bif (bif x1.2.2 then true else x2) then true else x3) then true else x4) then true else x5) then true else x6) then true else x7)
def E6 (l:List K0)(o1_Verb:Int)(o1_Place:A0)(o1_Value:A0)(o1_Name:Str)(o1_Args:List A0)(o1_NV:Int)(o1_Low:Int)(o1_High:Int)(o1_Numbers:List Int)(o1_Then:List E0)(o1_Else:List E0)(atV1:Int)(ok:Bool):Option (E0×Int×Bool):=
 (if (!(!ok))=true then T0 l atV1 [59] else some default)>>=fun x9=>
 if (bif (!ok) then true else (!x9))=true then
  some ((E0.mk o1_Verb o1_Place o1_Value o1_Name o1_Args o1_NV o1_Low o1_High o1_Numbers o1_Then o1_Else),atV1,false)
 else
  some ((E0.mk o1_Verb o1_Place o1_Value o1_Name o1_Args o1_NV o1_Low o1_High o1_Numbers o1_Then o1_Else),(IntKind.i64.wrap (atV1+1)),true)
def P6 (l:List K0)(atV1:Int)(out:List Int):Option (List Int×Int×Bool):=
 M5 l atV1>>=fun x1=>
 if (!x1.2.2)=true then
  some (out,x1.2.1,false)
 else
  if (decide ((out.length+1) * 9≤140737488355328))=true then
   T0 l x1.2.1 [44]>>=fun x2=>
   if (!x2)=true then
    some ((out++[x1.1]),x1.2.1,true)
   else
    P6 l (IntKind.i64.wrap (x1.2.1+1)) (out++[x1.1])
  else none
 partial_fixpoint
def Wg (l:List K0)(atV:Int):Option (List Int×Int×Bool):=
 P6 l atV []
def F6 (l:List K0)(atV1:Int)(out:List A0):Option (List A0×Int×Bool):=
 A2 l (IntKind.i64.wrap (atV1+1))>>=fun x3=>
 if (!x3.2.2)=true then
  some (out,x3.2.1,false)
 else
  if (decide ((out.length+1) * 57≤140737488355328))=true then
   T0 l x3.2.1 [41]>>=fun x4=>
   if x4=true then
    some ((out++[x3.1]),(IntKind.i64.wrap (x3.2.1+1)),true)
   else
    T0 l x3.2.1 [44]>>=fun x5=>
    if (!x5)=true then
     some ((out++[x3.1]),x3.2.1,false)
    else
     F6 l x3.2.1 (out++[x3.1])
  else none
 partial_fixpoint
def Jf (l:List K0)(atV:Int):Option (List A0×Int×Bool):=
 T0 l atV [40]>>=fun x1=>
 if (!x1)=true then
  some ([],atV,false)
 else
  T0 l (IntKind.i64.wrap (atV+1)) [41]>>=fun x2=>
  if x2=true then
   some ([],(IntKind.i64.wrap (atV+2)),true)
  else
   F6 l atV []
def Bc (l:List K0)(atV:Int):Option (E0×Int×Bool):=
 Y9 l atV>>=fun x1=>
 (if (!(!x1.2.2))=true then T0 l x1.2.1 [61] else some default)>>=fun x2=>
 if (bif (!x1.2.2) then true else (!x2))=true then
  some ((E0.mk 0 (A0.mk 0 0 [] []) (A0.mk 0 0 [] []) [] [] 0 0 0 [] [] []),x1.2.1,false)
 else
  T0 l (IntKind.i64.wrap (x1.2.1+1)) [114,101,108,101,97,115,101]>>=fun x3=>
  if x3=true then
   X7 l (IntKind.i64.wrap ((IntKind.i64.wrap (x1.2.1+1))+1))>>=fun x4=>
   some ((E0.mk 2 x1.1 (A0.mk 0 0 [] []) x4.1 [] 0 0 0 [] [] []),x4.2.1,x4.2.2)
  else
   T0 l (IntKind.i64.wrap (x1.2.1+1)) [99,97,108,108]>>=fun x5=>
   if x5=true then
    X7 l (IntKind.i64.wrap ((IntKind.i64.wrap (x1.2.1+1))+1))>>=fun x6=>
    if (!x6.2.2)=true then
     some ((E0.mk 1 x1.1 (A0.mk 0 0 [] []) x6.1 [] 0 0 0 [] [] []),x6.2.1,false)
    else
     Jf l x6.2.1>>=fun x7=>
     some ((E0.mk 1 x1.1 (A0.mk 0 0 [] []) x6.1 x7.1 0 0 0 [] [] []),x7.2.1,x7.2.2)
   else
    A2 l (IntKind.i64.wrap (x1.2.1+1))>>=fun x8=>
    some ((E0.mk 0 x1.1 x8.1 [] [] 0 0 0 [] [] []),x8.2.1,x8.2.2)
mutual
def X4 (l:List K0)(atV:Int):Option (List E0×Int×Bool):=
 L6 l atV []
 partial_fixpoint
def L6 (l:List K0)(atV1:Int)(out:List E0):Option (List E0×Int×Bool):=
 Fe l atV1>>=fun x1=>
 if x1=true then
  Uc l atV1>>=fun x2=>
  if (!x2.2.2)=true then
   some (out,x2.2.1,false)
  else
   if (decide ((out.length+1) * 257≤140737488355328))=true then
    L6 l x2.2.1 (out++[x2.1])
   else none
 else
  some (out,atV1,true)
 partial_fixpoint
def Uc (l:List K0)(atV:Int):Option (E0×Int×Bool):=
 T0 l atV [105,102]>>=fun x1=>
 if x1=true then
  Ad l (IntKind.i64.wrap (atV+1))>>=fun x2=>
  some (x2.1,x2.2.1,x2.2.2)
 else
  T0 l atV [119,104,105,108,101]>>=fun x3=>
  if x3=true then
   Xk l (IntKind.i64.wrap (atV+1))>>=fun x4=>
   some (x4.1,x4.2.1,x4.2.2)
  else
   T0 l atV [102,111,114]>>=fun x5=>
   if x5=true then
    Oi l (IntKind.i64.wrap (atV+1))>>=fun x6=>
    some (x6.1,x6.2.1,x6.2.2)
   else
    T0 l atV [111,117,116,112,117,116]>>=fun x7=>
    if x7=true then
     A2 l (IntKind.i64.wrap (atV+1))>>=fun x8=>
     E6 l 3 (A0.mk 0 0 [] []) x8.1 [] [] 0 0 0 [] [] [] x8.2.1 x8.2.2
    else
     T0 l atV [119,97,105,116]>>=fun x10=>
     if x10=true then
      M5 l (IntKind.i64.wrap (atV+1))>>=fun x11=>
      E6 l 4 (A0.mk 0 0 [] []) (A0.mk 0 0 [] []) [] [] x11.1 0 0 [] [] [] x11.2.1 x11.2.2
     else
      T0 l atV [115,101,116,116,108,101]>>=fun x12=>
      if x12=true then
       Wg l (IntKind.i64.wrap (atV+1))>>=fun x13=>
       E6 l 8 (A0.mk 0 0 [] []) (A0.mk 0 0 [] []) [] [] 0 0 0 x13.1 [] [] x13.2.1 x13.2.2
      else
       Bc l atV>>=fun x14=>
       E6 l x14.1.Verb x14.1.Place x14.1.Value x14.1.Name x14.1.Args x14.1.NV x14.1.Low x14.1.High x14.1.Numbers x14.1.Then x14.1.Else x14.2.1 x14.2.2
 partial_fixpoint
def Oi (l:List K0)(atV:Int):Option (E0×Int×Bool):=
 X7 l atV>>=fun x1=>
 (if (!(!x1.2.2))=true then T0 l x1.2.1 [61] else some default)>>=fun x2=>
 if (bif (!x1.2.2) then true else (!x2))=true then
  some ((E0.mk 7 (A0.mk 0 0 [] []) (A0.mk 0 0 [] []) [] [] 0 0 0 [] [] []),x1.2.1,false)
 else
  M5 l (IntKind.i64.wrap (x1.2.1+1))>>=fun x3=>
  (if (!(!x3.2.2))=true then T0 l x3.2.1 [116,111] else some default)>>=fun x4=>
  if (bif (!x3.2.2) then true else (!x4))=true then
   some ((E0.mk 7 (A0.mk 0 0 [] []) (A0.mk 0 0 [] []) x1.1 [] 0 x3.1 0 [] [] []),x3.2.1,false)
  else
   M5 l (IntKind.i64.wrap (x3.2.1+1))>>=fun x5=>
   if (!x5.2.2)=true then
    some ((E0.mk 7 (A0.mk 0 0 [] []) (A0.mk 0 0 [] []) x1.1 [] 0 x3.1 x5.1 [] [] []),x5.2.1,false)
   else
    Ab l x5.2.1>>=fun x6=>
    some ((E0.mk 7 (A0.mk 0 0 [] []) (A0.mk 0 0 [] []) x1.1 [] 0 x3.1 x5.1 [] x6.1 []),x6.2.1,x6.2.2)
 partial_fixpoint
def Ab (l:List K0)(atV:Int):Option (List E0×Int×Bool):=
 T0 l atV [123]>>=fun x1=>
 if (!x1)=true then
  some ([],atV,false)
 else
  X4 l (IntKind.i64.wrap (atV+1))>>=fun x2=>
  (if (!(!x2.2.2))=true then T0 l x2.2.1 [125] else some default)>>=fun x3=>
  if (bif (!x2.2.2) then true else (!x3))=true then
   some (x2.1,x2.2.1,false)
  else
   some (x2.1,(IntKind.i64.wrap (x2.2.1+1)),true)
 partial_fixpoint
def Xk (l:List K0)(atV:Int):Option (E0×Int×Bool):=
 A2 l atV>>=fun x1=>
 (if (!(!x1.2.2))=true then T0 l x1.2.1 [108,105,109,105,116] else some default)>>=fun x2=>
 if (bif (!x1.2.2) then true else (!x2))=true then
  some ((E0.mk 6 (A0.mk 0 0 [] []) (A0.mk 0 0 [] []) [] [] 0 0 0 [] [] []),x1.2.1,false)
 else
  M5 l (IntKind.i64.wrap (x1.2.1+1))>>=fun x3=>
  if (!x3.2.2)=true then
   some ((E0.mk 6 (A0.mk 0 0 [] []) x1.1 [] [] x3.1 0 0 [] [] []),x3.2.1,false)
  else
   Ab l x3.2.1>>=fun x4=>
   some ((E0.mk 6 (A0.mk 0 0 [] []) x1.1 [] [] x3.1 0 0 [] x4.1 []),x4.2.1,x4.2.2)
 partial_fixpoint
def Ad (l:List K0)(atV:Int):Option (E0×Int×Bool):=
 A2 l atV>>=fun x1=>
 if (!x1.2.2)=true then
  some ((E0.mk 5 (A0.mk 0 0 [] []) (A0.mk 0 0 [] []) [] [] 0 0 0 [] [] []),x1.2.1,false)
 else
  Ab l x1.2.1>>=fun x2=>
  if (!x2.2.2)=true then
   some ((E0.mk 5 (A0.mk 0 0 [] []) x1.1 [] [] 0 0 0 [] x2.1 []),x2.2.1,false)
  else
   T0 l x2.2.1 [101,108,115,101]>>=fun x3=>
   if x3=true then
    Ab l (IntKind.i64.wrap (x2.2.1+1))>>=fun x4=>
    some ((E0.mk 5 (A0.mk 0 0 [] []) x1.1 [] [] 0 0 0 [] x2.1 x4.1),x4.2.1,x4.2.2)
   else
    some ((E0.mk 5 (A0.mk 0 0 [] []) x1.1 [] [] 0 0 0 [] x2.1 []),x2.2.1,x2.2.2)
 partial_fixpoint
end
def Q7 (l:List K0)(x1:Str×Int×Bool)(x5:J0×Int×Bool)(o1_Params:List D0)(o1_Vars:List D0)(atV3:Int):Option (D0×Int×Bool):=
 T0 l atV3 [118,97,114]>>=fun x9=>
 if x9=true then
  Ac l (IntKind.i64.wrap (atV3+1))>>=fun x10=>
  if (!x10.2.2)=true then
   some ((D0.mk 6 x1.1 x5.1 0 (A0.mk 0 0 [] []) o1_Params o1_Vars []),x10.2.1,false)
  else
   if (decide ((o1_Vars.length+1) * 257≤140737488355328))=true then
    Q7 l x1 x5 o1_Params (o1_Vars++[x10.1]) x10.2.1
   else none
 else
  X4 l atV3>>=fun x11=>
  (if (!(!x11.2.2))=true then T0 l x11.2.1 [114,101,116,117,114,110] else some default)>>=fun x12=>
  if (bif (!x11.2.2) then true else (!x12))=true then
   some ((D0.mk 6 x1.1 x5.1 0 (A0.mk 0 0 [] []) o1_Params o1_Vars x11.1),x11.2.1,false)
  else
   A2 l (IntKind.i64.wrap (x11.2.1+1))>>=fun x13=>
   if (!x13.2.2)=true then
    some ((D0.mk 6 x1.1 x5.1 0 x13.1 o1_Params o1_Vars x11.1),x13.2.1,false)
   else
    Ti l x13.2.1 [[59],[125]]>>=fun x14=>
    some ((D0.mk 6 x1.1 x5.1 0 x13.1 o1_Params o1_Vars x11.1),x14.1,x14.2)
 partial_fixpoint
end Go.Proofs.YtmnhfbekncjnfaaGreatDoor

set_option maxRecDepth 100000
set_option maxHeartbeats 4000000
set_option synthInstance.maxSize 20000
set_option linter.unusedVariables false
namespace Go.Proofs.YtmnhfbekncjnfaaGreatDoor
open Go.Am
def R7 (l:List K0)(x1:Str×Int×Bool)(o1_Params:List D0)(atV1:Int):Option (D0×Int×Bool):=
 Ti l atV1 [[41],[58]]>>=fun x4=>
 if (!x4.2)=true then
  some ((D0.mk 6 x1.1 (J0.mk 0 0 0 0 [] [] []) 0 (A0.mk 0 0 [] []) o1_Params [] []),x4.1,false)
 else
  Sa l x4.1>>=fun x5=>
  (if (!(!x5.2.2))=true then T0 l x5.2.1 [123] else some default)>>=fun x6=>
  if (bif (!x5.2.2) then true else (!x6))=true then
   some ((D0.mk 6 x1.1 x5.1 0 (A0.mk 0 0 [] []) o1_Params [] []),x5.2.1,false)
  else
   Q7 l x1 x5 o1_Params [] (IntKind.i64.wrap (x5.2.1+1))
def W5 (l:List K0)(x1:Str×Int×Bool)(o1_Params1:List D0)(atV2:Int):Option (D0×Int×Bool):=
 J5 l atV2>>=fun x7=>
 if (!x7.2.2)=true then
  some ((D0.mk 6 x1.1 (J0.mk 0 0 0 0 [] [] []) 0 (A0.mk 0 0 [] []) o1_Params1 [] []),x7.2.1,false)
 else
  if (decide ((o1_Params1.length+1) * 257≤140737488355328))=true then
   T0 l x7.2.1 [44]>>=fun x8=>
   if (!x8)=true then
    R7 l x1 (o1_Params1++[x7.1]) x7.2.1
   else
    W5 l x1 (o1_Params1++[x7.1]) (IntKind.i64.wrap (x7.2.1+1))
  else none
 partial_fixpoint
def Ud (l:List K0)(atV:Int):Option (D0×Int×Bool):=
 X7 l atV>>=fun x1=>
 (if (!(!x1.2.2))=true then T0 l x1.2.1 [40] else some default)>>=fun x2=>
 if (bif (!x1.2.2) then true else (!x2))=true then
  some ((D0.mk 6 x1.1 (J0.mk 0 0 0 0 [] [] []) 0 (A0.mk 0 0 [] []) [] [] []),x1.2.1,false)
 else
  T0 l (IntKind.i64.wrap (x1.2.1+1)) [41]>>=fun x3=>
  if (!x3)=true then
   W5 l x1 [] (IntKind.i64.wrap (x1.2.1+1))
  else
   R7 l x1 [] (IntKind.i64.wrap (x1.2.1+1))
def H5 (l:List K0)(o1_Kind:Int)(x11:D0×Int×Bool)(o1_Value:A0)(atV1:Int):Option (D0×Int×Bool):=
 T0 l atV1 [59]>>=fun x12=>
 if (!x12)=true then
  some ((D0.mk o1_Kind x11.1.Name x11.1.TypeV x11.1.Init o1_Value x11.1.Params x11.1.Vars x11.1.Body),atV1,false)
 else
  some ((D0.mk o1_Kind x11.1.Name x11.1.TypeV x11.1.Init o1_Value x11.1.Params x11.1.Vars x11.1.Body),(IntKind.i64.wrap (atV1+1)),true)
def Lb (l:List K0)(atV:Int):Option (D0×Int×Bool):=
 T0 l atV [118,97,114]>>=fun x1=>
 if x1=true then
  Ac l (IntKind.i64.wrap (atV+1))>>=fun x2=>
  some (x2.1,x2.2.1,x2.2.2)
 else
  T0 l atV [102,117,110,99]>>=fun x3=>
  if x3=true then
   Ud l (IntKind.i64.wrap (atV+1))>>=fun x4=>
   some (x4.1,x4.2.1,x4.2.2)
  else
   T0 l atV [116,121,112,101]>>=fun x5=>
   if x5=true then
    X7 l (IntKind.i64.wrap (atV+1))>>=fun x6=>
    (if (!(!x6.2.2))=true then T0 l x6.2.1 [61] else some default)>>=fun x7=>
    if (bif (!x6.2.2) then true else (!x7))=true then
     some ((D0.mk 0 [] (J0.mk 0 0 0 0 [] [] []) 0 (A0.mk 0 0 [] []) [] [] []),x6.2.1,false)
    else
     Sa l (IntKind.i64.wrap (x6.2.1+1))>>=fun x8=>
     (if (!(!x8.2.2))=true then T0 l x8.2.1 [59] else some default)>>=fun x9=>
     if (bif (!x8.2.2) then true else (!x9))=true then
      some ((D0.mk 0 [] (J0.mk 0 0 0 0 [] [] []) 0 (A0.mk 0 0 [] []) [] [] []),x8.2.1,false)
     else
      some ((D0.mk 0 x6.1 x8.1 0 (A0.mk 0 0 [] []) [] [] []),(IntKind.i64.wrap (x8.2.1+1)),true)
   else
    idx l atV>>=fun x10=>
    J5 l (IntKind.i64.wrap (atV+1))>>=fun x11=>
    if (!x11.2.2)=true then
     some (x11.1,x11.2.1,false)
    else
     if (x10.Text == [115,101,99,114,101,116])=true then
      H5 l 1 x11 x11.1.Value x11.2.1
     else
      if (x10.Text == [112,117,98,108,105,99])=true then
       H5 l 2 x11 x11.1.Value x11.2.1
      else
       if (x10.Text == [114,97,110,100,111,109])=true then
        H5 l 3 x11 x11.1.Value x11.2.1
       else
        T0 l x11.2.1 [61]>>=fun x13=>
        if (!x13)=true then
         some ((D0.mk 5 x11.1.Name x11.1.TypeV x11.1.Init x11.1.Value x11.1.Params x11.1.Vars x11.1.Body),x11.2.1,false)
        else
         A2 l (IntKind.i64.wrap (x11.2.1+1))>>=fun x14=>
         if (!x14.2.2)=true then
          some ((D0.mk 5 x11.1.Name x11.1.TypeV x11.1.Init x14.1 x11.1.Params x11.1.Vars x11.1.Body),x14.2.1,false)
         else
          H5 l 5 x11 x14.1 x14.2.1
def R8 (l:List K0)(o1_Decls:List D0)(atV1:Int):Option (B1×Int×Bool):=
 Ug l atV1>>=fun x1=>
 if x1=true then
  Lb l atV1>>=fun x2=>
  if (!x2.2.2)=true then
   some ((B1.mk o1_Decls []),x2.2.1,false)
  else
   if (decide ((o1_Decls.length+1) * 257≤140737488355328))=true then
    R8 l (o1_Decls++[x2.1]) x2.2.1
   else none
 else
  T0 l atV1 [98,101,103,105,110]>>=fun x3=>
  if (!x3)=true then
   some ((B1.mk o1_Decls []),atV1,false)
  else
   X4 l (IntKind.i64.wrap (atV1+1))>>=fun x4=>
   (if (!(!x4.2.2))=true then T0 l x4.2.1 [101,110,100] else some default)>>=fun x5=>
   if (bif (!x4.2.2) then true else (!x5))=true then
    some ((B1.mk o1_Decls []),x4.2.1,false)
   else
    some ((B1.mk o1_Decls x4.1),(IntKind.i64.wrap (x4.2.1+1)),true)
 partial_fixpoint
def Bf (l:List K0)(atV:Int):Option (B1×Int×Bool):=
 R8 l [] atV
mutual
def F7 (a:List E0)(b:List E0):Option Bool:=
 if (((a).length:Int) != ((b).length:Int))=true then
  some false
 else
  Q9 a b 0
 partial_fixpoint
def Q9 (a:List E0)(b:List E0)(i:Int):Option Bool:=
 if (decide (i < ((a).length:Int)))=true then
  idx a i>>=fun x1=>
  idx b i>>=fun x2=>
  if (bif (bif (bif (bif (bif (bif (x1.Verb != x2.Verb) then true else (!(x1.Name == x2.Name))) then true else (x1.NV != x2.NV)) then true else (x1.Low != x2.Low)) then true else (x1.High != x2.High)) then true else (((x1.Args).length:Int) != ((x2.Args).length:Int))) then true else (((x1.Numbers).length:Int) != ((x2.Numbers).length:Int)))=true then
   some false
  else
   R9 a b x1 x2 i 0
 else
  some true
 partial_fixpoint
def R9 (a:List E0)(b:List E0)(x1:E0)(x2:E0)(i1:Int)(k:Int):Option Bool:=
 if (decide (k < ((x1.Args).length:Int)))=true then
  idx x1.Args k>>=fun x3=>
  idx x2.Args k>>=fun x4=>
  Q3 x3 x4>>=fun x5=>
  if (!x5)=true then
   some false
  else
   R9 a b x1 x2 i1 (IntKind.i64.wrap (k+1))
 else
  U7 a b x1 x2 i1 0
 partial_fixpoint
def U7 (a:List E0)(b:List E0)(x1:E0)(x2:E0)(i2:Int)(k1:Int):Option Bool:=
 if (decide (k1 < ((x1.Numbers).length:Int)))=true then
  idx x1.Numbers k1>>=fun x6=>
  idx x2.Numbers k1>>=fun x7=>
  if (x6 != x7)=true then
   some false
  else
   U7 a b x1 x2 i2 (IntKind.i64.wrap (k1+1))
 else
  Q3 x1.Place x2.Place>>=fun x8=>
  (if (!(!x8))=true then Q3 x1.Value x2.Value else some default)>>=fun x9=>
  (if (!(bif (!x8) then true else (!x9)))=true then F7 x1.Then x2.Then else some default)>>=fun x10=>
  (if (!(bif (bif (!x8) then true else (!x9)) then true else (!x10)))=true then F7 x1.Else x2.Else else some default)>>=fun x11=>
  if (bif (bif (bif (!x8) then true else (!x9)) then true else (!x10)) then true else (!x11))=true then
   some false
  else
   Q9 a b (IntKind.i64.wrap (i2+1))
 partial_fixpoint
end
abbrev Up (a:List E0)(b:List E0)(res:Bool):Prop:=U0 C 51 [.d (.sl (E0.rows a)),.d (.sl (E0.rows b))] [] (Ret [] (.d (.bool res)))
abbrev Mv (a:List E0)(b:List E0)(i:Int)(res:Bool):Prop:=LM C 147 0 Tryz.f51 [1,1,0,1,4] [(0,.d (.sl (E0.rows a))),(1,.d (.sl (E0.rows b))),(5,.d (.int .i64 i))] [] (Ret [] (.d (.bool res)))
abbrev Nv (a:List E0)(b:List E0)(x1:E0)(x2:E0)(i1:Int)(k:Int)(res:Bool):Prop:=LM C 147 0 Tryz.f51 [1,1,0,1,4,5,1,0,4,1,1,1,0,1,4] [(0,.d (.sl (E0.rows a))),(1,.d (.sl (E0.rows b))),(5,.d (.int .i64 i1)),(6,.ref 0 0),(7,.ref 1 0),(8,.d (.int .i64 k))] [.row (E0.cells x1) 144,.row (E0.cells x2) 144] (Ret [] (.d (.bool res)))
abbrev Ov (a:List E0)(b:List E0)(x1:E0)(x2:E0)(i2:Int)(k1:Int)(res:Bool):Prop:=LM C 147 0 Tryz.f51 [1,1,0,1,4,5,1,0,4,1,1,1,1,0,1,4] [(0,.d (.sl (E0.rows a))),(1,.d (.sl (E0.rows b))),(5,.d (.int .i64 i2)),(6,.ref 0 0),(7,.ref 1 0),(9,.d (.int .i64 k1))] [.row (E0.cells x1) 144,.row (E0.cells x2) 144] (Ret [] (.d (.bool res)))
theorem Uw:(∀ a b res,F7 a b=some res→Up a b res)∧(∀ a b i res,Q9 a b i=some res→Mv a b i res)∧(∀ a b x1 x2 i1 k res,R9 a b x1 x2 i1 k=some res→Nv a b x1 x2 i1 k res)∧(∀ a b x1 x2 i2 k1 res,U7 a b x1 x2 i2 k1=some res→Ov a b x1 x2 i2 k1 res):=by
 refine F7.mutual_partial_correctness _ _ _ _ ?_ ?_ ?_ ?_
 ·intro g1 ih1 a b res hh
  refine U0.intro hC Tryz.func51 rfl rfl rfl (t' rfl (S' (p' 1 rfl (qe' rfl trivial (E0.lenA _) (q' rfl (qe' rfl trivial (E0.lenA _) (e' rfl (ci' rfl hh (fun hh=>?_) (fun hh=>?_)))))))))
  ·cases hh
   exact t' rfl (re' (rt' rfl rfl rfl))
  exact sk' (S' (t' rfl (bk' (fw' (ih1 _ _ _ _ hh) rfl rfl rfl))))
 ·intro g2 ih2 a b i res hh
  refine A1.unroll (S' (p' 2 rfl (qe' rfl trivial (E0.lenA _) (e' rfl (ci' rfl hh (fun hh=>?_) (fun hh=>?_))))))
  ·obtain ⟨x1,hx1,hh⟩:=bs' hh
   obtain ⟨x2,hx2,hh⟩:=bs' hh
   refine sk' (S' (bk' (p' 2 rfl (i' rfl (W1 hx1) (E0.idx hx1) rfl (q' rfl (F0.nf hC rfl (F0.s hC rfl (n' (p' 2 rfl (i' rfl (W1 hx2) (E0.idx hx2) rfl (q' rfl (F0.nf hC rfl (F0.s hC rfl ?_)))))))))))))
   refine n' (S' (sg' 51 rfl (G' 7 rfl (a1' rfl (a0' rfl (a1' rfl (a2' rfl (po' rfl (G' 2 rfl (a1' rfl (a0' rfl (a1' rfl (a2' rfl ?_)))))))))))))
   refine po' rfl (G' 2 rfl (a1' rfl (a0' rfl (a1' rfl (a2' rfl (po' rfl (G' 2 rfl (a1' rfl (a0' rfl (a1' rfl (a2' rfl (po' rfl (G' 2 rfl ?_)))))))))))))
   refine a1' rfl (AG.qe hC rfl (fun hg=>⟨⟨hg,trivial⟩,trivial⟩) (A0.lenA _) (a0' rfl (a1' rfl (AG.qe hC rfl (fun hg=>⟨⟨hg,trivial⟩,trivial⟩) (A0.lenA _) (a2' rfl (po' rfl (G' 2 rfl (a1' rfl (AG.qe hC rfl (fun hg=>⟨⟨hg,trivial⟩,trivial⟩) (ei64.lenA _) (a0' rfl (a1' rfl (AG.qe hC rfl (fun hg=>⟨⟨hg,trivial⟩,trivial⟩) (ei64.lenA _) (a2' rfl ?_)))))))))))))
   refine po' rfl (an' (n' (ci' rfl hh (fun hh=>?_) (fun hh=>?_))))
   ·cases hh
    exact t' rfl (re' (rt' rfl rfl rfl))
   exact sk' (S' (t' rfl (bk' (fw' (ih2 _ _ _ _ _ _ _ hh) rfl rfl rfl))))
  cases hh
  exact ex' (t' rfl (re' (rt' rfl rfl rfl)))
 ·intro g2 g3 ih2 ih3 a b x1 x2 i1 k res hh
  refine A1.unroll (S' (p' 3 rfl (qe' rfl trivial (A0.lenA _) (e' rfl (ci' rfl hh (fun hh=>?_) (fun hh=>?_))))))
  ·obtain ⟨x3,hx3,hh⟩:=bs' hh
   obtain ⟨x4,hx4,hh⟩:=bs' hh
   obtain ⟨x5,hx5,hh⟩:=bs' hh
   refine sk' (S' (bk' (S' (AEx.draw hC 12 rfl rfl rfl (O' 3 rfl (AQ.i hC rfl (W1 hx3) (A0.idx hx3) rfl (O' 4 rfl (AQ.i hC rfl (W1 hx4) (A0.idx hx4) rfl (Q' rfl (Qc' (Pa hx5) rfl rfl (E' rfl (n' (ci' rfl hh (fun hh=>?_) (fun hh=>?_))))))))))))))
   ·cases hh
    exact t' rfl (re' (rt' rfl rfl rfl))
   exact sk' (T' rfl (lw' (ih2 _ _ _ _ _ _ _ hh) rfl rfl rfl))
  exact ex' (S' (t' rfl (bk' (fw' (ih3 _ _ _ _ _ _ _ hh) rfl rfl rfl))))
 ·intro g0 g1 g3 ih0 ih1 ih3 a b x1 x2 i2 k1 res hh
  refine A1.unroll (S' (p' 3 rfl (qe' rfl trivial (ei64.lenA _) (e' rfl (ci' rfl hh (fun hh=>?_) (fun hh=>?_))))))
  ·obtain ⟨x6,hx6,hh⟩:=bs' hh
   obtain ⟨x7,hx7,hh⟩:=bs' hh
   refine sk' (S' (bk' (S' (AEx.draw hC 11 rfl rfl rfl (O' 3 rfl (AQ.i hC rfl (W1 hx6) (ei64.idx hx6) rfl (O' 4 rfl (AQ.i hC rfl (W1 hx7) (ei64.idx hx7) rfl (E' rfl (n' (ci' rfl hh (fun hh=>?_) (fun hh=>?_))))))))))))
   ·cases hh
    exact t' rfl (re' (rt' rfl rfl rfl))
   exact sk' (T' rfl (lw' (ih3 _ _ _ _ _ _ _ hh) rfl rfl rfl))
  obtain ⟨x8,hx8,hh⟩:=bs' hh
  obtain ⟨x9,hx9,hh⟩:=bs' hh
  obtain ⟨x10,hx10,hh⟩:=bs' hh
  obtain ⟨x11,hx11,hh⟩:=bs' hh
  refine ex' (sg' 30 rfl (G' 4 rfl (AG.c rfl rfl (fun _=>trivial) (fun _=>Pa hx8) (G' 3 rfl (a1' rfl (a0' rfl (a1' rfl (AG.c rfl rfl (fun hg=>⟨hg,hg,trivial⟩) (fun hw=>Pa (A4 hw hx9)) (a1' rfl (po' rfl (G' 2 rfl (a1' rfl (a0' rfl ?_)))))))))))))
  refine a1' rfl (AG.c rfl rfl (fun hg=>⟨hg,hg,trivial⟩) (fun hw=>ih0 _ _ _ (A4 hw hx10)) (a1' rfl (po' rfl (G' 2 rfl (a1' rfl (a0' rfl (a1' rfl (AG.c rfl rfl (fun hg=>⟨hg,hg,trivial⟩) (fun hw=>ih0 _ _ _ (A4 hw hx11)) (a1' rfl (po' rfl (an' (n' (ci' rfl hh (fun hh=>?_) (fun hh=>?_))))))))))))))
  ·cases hh
   exact t' rfl (re' (rt' rfl rfl rfl))
  exact sk' (T' rfl (lw' (ih1 _ _ _ _ hh) rfl rfl rfl))
theorem Hn {a b res}(hh:F7 a b=some res):Up a b res:=(Uw).1 _ _ _ hh
mutual
def S8 (a:List D0)(b:List D0):Option Bool:=
 if (((a).length:Int) != ((b).length:Int))=true then
  some false
 else
  S9 a b 0
 partial_fixpoint
def S9 (a:List D0)(b:List D0)(i:Int):Option Bool:=
 if (decide (i < ((a).length:Int)))=true then
  idx a i>>=fun x1=>
  idx b i>>=fun x2=>
  (if (!(bif (bif (x1.Kind != x2.Kind) then true else (!(x1.Name == x2.Name))) then true else (x1.Init != x2.Init)))=true then K9 x1.TypeV x2.TypeV else some default)>>=fun x3=>
  (if (!(bif (bif (bif (x1.Kind != x2.Kind) then true else (!(x1.Name == x2.Name))) then true else (x1.Init != x2.Init)) then true else (!x3)))=true then Q3 x1.Value x2.Value else some default)>>=fun x4=>
  (if (!(bif (bif (bif (bif (x1.Kind != x2.Kind) then true else (!(x1.Name == x2.Name))) then true else (x1.Init != x2.Init)) then true else (!x3)) then true else (!x4)))=true then S8 x1.Params x2.Params else some default)>>=fun x5=>
  (if (!(bif (bif (bif (bif (bif (x1.Kind != x2.Kind) then true else (!(x1.Name == x2.Name))) then true else (x1.Init != x2.Init)) then true else (!x3)) then true else (!x4)) then true else (!x5)))=true then S8 x1.Vars x2.Vars else some default)>>=fun x6=>
  (if (!(bif (bif (bif (bif (bif (bif (x1.Kind != x2.Kind) then true else (!(x1.Name == x2.Name))) then true else (x1.Init != x2.Init)) then true else (!x3)) then true else (!x4)) then true else (!x5)) then true else (!x6)))=true then F7 x1.Body x2.Body else some default)>>=fun x7=>
  if (bif (bif (bif (bif (bif (bif (bif (x1.Kind != x2.Kind) then true else (!(x1.Name == x2.Name))) then true else (x1.Init != x2.Init)) then true else (!x3)) then true else (!x4)) then true else (!x5)) then true else (!x6)) then true else (!x7))=true then
   some false
  else
   S9 a b (IntKind.i64.wrap (i+1))
 else
  some true
 partial_fixpoint
end
abbrev Vp (a:List D0)(b:List D0)(res:Bool):Prop:=U0 C 50 [.d (.sl (D0.rows a)),.d (.sl (D0.rows b))] [] (Ret [] (.d (.bool res)))
abbrev Pv (a:List D0)(b:List D0)(i:Int)(res:Bool):Prop:=LM C 86 0 Tryz.f50 [1,1,0,1,4] [(0,.d (.sl (D0.rows a))),(1,.d (.sl (D0.rows b))),(5,.d (.int .i64 i))] [] (Ret [] (.d (.bool res)))
theorem Vw:(∀ a b res,S8 a b=some res→Vp a b res)∧(∀ a b i res,S9 a b i=some res→Pv a b i res):=by
 refine S8.mutual_partial_correctness _ _ ?_ ?_
 ·intro g1 ih1 a b res hh
  refine U0.intro hC Tryz.func50 rfl rfl rfl (t' rfl (S' (p' 1 rfl (qe' rfl trivial (D0.lenA _) (q' rfl (qe' rfl trivial (D0.lenA _) (e' rfl (ci' rfl hh (fun hh=>?_) (fun hh=>?_)))))))))
  ·cases hh
   exact t' rfl (re' (rt' rfl rfl rfl))
  exact sk' (S' (t' rfl (bk' (fw' (ih1 _ _ _ _ hh) rfl rfl rfl))))
 ·intro g0 g1 ih0 ih1 a b i res hh
  refine A1.unroll (S' (p' 2 rfl (qe' rfl trivial (D0.lenA _) (e' rfl (ci' rfl hh (fun hh=>?_) (fun hh=>?_))))))
  ·obtain ⟨x1,hx1,hh⟩:=bs' hh
   obtain ⟨x2,hx2,hh⟩:=bs' hh
   obtain ⟨x3,hx3,hh⟩:=bs' hh
   obtain ⟨x4,hx4,hh⟩:=bs' hh
   obtain ⟨x5,hx5,hh⟩:=bs' hh
   obtain ⟨x6,hx6,hh⟩:=bs' hh
   obtain ⟨x7,hx7,hh⟩:=bs' hh
   refine sk' (S' (bk' (p' 2 rfl (i' rfl (W1 hx1) (D0.idx hx1) rfl (q' rfl (F0.nf hC rfl (F0.s hC rfl (n' (p' 2 rfl (i' rfl (W1 hx2) (D0.idx hx2) rfl (q' rfl (F0.nf hC rfl (F0.s hC rfl ?_)))))))))))))
   refine n' (sg' 59 rfl (G' 7 rfl (a1' rfl (a0' rfl (a1' rfl (a2' rfl (po' rfl (G' 2 rfl (a1' rfl (a0' rfl (a1' rfl (a2' rfl (po' rfl ?_)))))))))))))
   refine G' 2 rfl (a1' rfl (a0' rfl (a1' rfl (AG.c rfl rfl (fun hg=>⟨hg,hg,trivial⟩) (fun hw=>Kz (A4 hw hx3)) (a1' rfl (po' rfl (G' 2 rfl (a1' rfl (a0' rfl (a1' rfl (AG.c rfl rfl (fun hg=>⟨hg,hg,trivial⟩) (fun hw=>Pa (A4 hw hx4)) (a1' rfl (po' rfl ?_)))))))))))))
   refine G' 2 rfl (a1' rfl (a0' rfl (a1' rfl (AG.c rfl rfl (fun hg=>⟨hg,hg,trivial⟩) (fun hw=>ih0 _ _ _ (A4 hw hx5)) (a1' rfl (po' rfl (G' 2 rfl (a1' rfl (a0' rfl (a1' rfl (AG.c rfl rfl (fun hg=>⟨hg,hg,trivial⟩) (fun hw=>ih0 _ _ _ (A4 hw hx6)) (a1' rfl (po' rfl ?_)))))))))))))
   refine G' 2 rfl (a1' rfl (a0' rfl (a1' rfl (AG.c rfl rfl (fun hg=>⟨hg,hg,trivial⟩) (fun hw=>Hn (A4 hw hx7)) (a1' rfl (po' rfl (an' (n' (ci' rfl hh (fun hh=>?_) (fun hh=>?_))))))))))
   ·cases hh
    exact t' rfl (re' (rt' rfl rfl rfl))
   exact sk' (T' rfl (lw' (ih1 _ _ _ _ hh) rfl rfl rfl))
  cases hh
  exact ex' (t' rfl (re' (rt' rfl rfl rfl)))
theorem Gy {a b res}(hh:S8 a b=some res):Vp a b res:=(Vw).1 _ _ _ hh
def Yk (p:B1)(q:B1):Option Bool:=
 S8 p.Decls q.Decls>>=fun x1=>
 (if x1=true then F7 p.Body q.Body else some default)>>=fun x2=>
 some (bif x1 then x2 else false)
theorem W14 {p q res}(hh:Yk p q=some res):U0 C 23 [.agg (B1.cells p),.agg (B1.cells q)] [] (Ret [] (.d (.bool res))):=by
 unfold Yk at hh
 obtain ⟨x1,hx1,hh⟩:=bs' hh
 obtain ⟨x2,hx2,hh⟩:=bs' hh
 cases hh
 refine U0.intro hC Tryz.func23 rfl rfl rfl (s' rfl rfl (F0.n hC rfl (F0.n hC rfl (e' rfl (sg' 13 rfl (G' 4 rfl (AG.c rfl rfl (fun _=>trivial) (fun _=>Gy hx1) (G' 2 rfl (a1' rfl (a0' rfl (a1' rfl (AG.c rfl rfl (fun hg=>⟨hg,hg,trivial⟩) (fun hw=>Hn (A4 hw hx2)) (pa' rfl ?_)))))))))))))
 exact a0' rfl (an' (n' (re' (rt' rfl rfl rfl))))
mutual
def R4 (text:Str)(gaps:List Int)(other1:Str)(x2:List K0×Int×Int)(v43:Int):Option Bool:=
 if (decide (v43 < ((x2.1).length:Int)))=true then
  idx x2.1 v43>>=fun x3=>
  if (decide (((gaps).length:Int) > 0))=true then
   if (decide (((gaps).length:Int)≠0))=true then
    idx gaps (Int.tmod v43 ((gaps).length:Int))>>=fun x4=>
    T5 text gaps x3 other1 x4 x2 v43
   else none
  else
   T5 text gaps x3 other1 0 x2 v43
 else
  Rc text>>=fun x5=>
  Rc other1>>=fun x6=>
  V4 text>>=fun x7=>
  V4 other1>>=fun x8=>
  (if (bif (x5.2.2 == x6.2.2) then (x7.2.2 == x8.2.2) else false)=true then Yk x5.1 x6.1 else some default)>>=fun x9=>
  (if (bif (bif (x5.2.2 == x6.2.2) then (x7.2.2 == x8.2.2) else false) then x9 else false)=true then Q3 x7.1 x8.1 else some default)>>=fun x10=>
  some (bif (bif (bif (x5.2.2 == x6.2.2) then (x7.2.2 == x8.2.2) else false) then x9 else false) then x10 else false)
 partial_fixpoint
def T5 (text:Str)(gaps:List Int)(x3:K0)(other2:Str)(kind:Int)(x2:List K0×Int×Int)(v431:Int):Option Bool:=
 if ((Int.tmod kind 6) == 1)=true then
  if (decide (other2.length+1≤maxLen))=true then
   U5 text gaps x3 (other2++[10]) x2 v431
  else none
 else
  if ((Int.tmod kind 6) == 2)=true then
   if (decide (other2.length+2≤maxLen))=true then
    U5 text gaps x3 (other2++[9,32]) x2 v431
   else none
  else
   if ((Int.tmod kind 6) == 3)=true then
    if (decide (other2.length+5≤maxLen))=true then
     U5 text gaps x3 (other2++[35,32,61,59,10]) x2 v431
    else none
   else
    if ((Int.tmod kind 6) == 4)=true then
     if (decide (other2.length+6≤maxLen))=true then
      U5 text gaps x3 (other2++[32,35,10,35,10,32]) x2 v431
     else none
    else
     if (decide (other2.length+1≤maxLen))=true then
      U5 text gaps x3 (other2++[32]) x2 v431
     else none
 partial_fixpoint
def U5 (text:Str)(gaps:List Int)(x3:K0)(other:Str)(x2:List K0×Int×Int)(v432:Int):Option Bool:=
 if (decide (other.length+x3.Text.length≤maxLen))=true then
  R4 text gaps (other++x3.Text) x2 (IntKind.i64.wrap (v432+1))
 else none
 partial_fixpoint
end
abbrev Gk (text:Str)(gaps:List Int)(other1:Str)(x2:List K0×Int×Int)(v43:Int)(res:Bool):Prop:=LM C 125 0 Tryz.f8 [1,1,1,1,1,1,0,1,4] [(0,.d (.str text)),(1,.d (.sl (eu8.rows gaps))),(8,.d (.str other1)),(41,.d (.sl (K0.rows x2.1))),(42,.d (.int .i64 ((x2.1).length:Int))),(43,.d (.int .i64 v43))] [] (Ret [] (.d (.bool res)))
abbrev Ct (text:Str)(gaps:List Int)(x3:K0)(other2:Str)(kind:Int)(x2:List K0×Int×Int)(v431:Int)(res:Bool):Prop:=JM C 125 0 Tryz.f8 [1,1,1,1,1,1,0,1,4,5,1,1,0,4,1,1,1] [(0,.d (.str text)),(1,.d (.sl (eu8.rows gaps))),(8,.d (.str other2)),(10,.ref 0 0),(11,.d (.int .u8 kind)),(41,.d (.sl (K0.rows x2.1))),(42,.d (.int .i64 ((x2.1).length:Int))),(43,.d (.int .i64 v431))] [.row (K0.cells x3) 62] (Ret [] (.d (.bool res)))
abbrev Dt (text:Str)(gaps:List Int)(x3:K0)(other:Str)(x2:List K0×Int×Int)(v432:Int)(res:Bool):Prop:=JM C 125 0 Tryz.f8 [1,1,1,1,1,1,0,1,4,5,1,1,0,4,1,1,1,1] [(0,.d (.str text)),(1,.d (.sl (eu8.rows gaps))),(8,.d (.str other)),(10,.ref 0 0),(41,.d (.sl (K0.rows x2.1))),(42,.d (.int .i64 ((x2.1).length:Int))),(43,.d (.int .i64 v432))] [.row (K0.cells x3) 62] (Ret [] (.d (.bool res)))
theorem Ar (text:Str)(gaps:List Int)(x2:List K0×Int×Int):(∀ other1 v43 res,R4 text gaps other1 x2 v43=some res→Gk text gaps other1 x2 v43 res)∧(∀ x3 other2 kind v431 res,T5 text gaps x3 other2 kind x2 v431=some res→Ct text gaps x3 other2 kind x2 v431 res)∧(∀ x3 other v432 res,U5 text gaps x3 other x2 v432=some res→Dt text gaps x3 other x2 v432 res):=by
 refine R4.mutual_partial_correctness text gaps x2 _ _ _ ?_ ?_ ?_
 ·intro g1 ih1 other1 v43 res hh
  refine A1.unroll (t' rfl (S' (ci' rfl hh (fun hh=>?_) (fun hh=>?_))))
  ·obtain ⟨x3,hx3,hh⟩:=bs' hh
   refine sk' (S' (bk' (p' 1 rfl (i' rfl (W1 hx3) (K0.idx hx3) rfl (q' rfl (F0.n hC rfl (q' rfl (F0.s hC rfl (n' (t' rfl (S' (p' 1 rfl (qe' rfl trivial (eu8.lenA _) ?_)))))))))))))
   refine e' rfl (ci' rfl hh (fun hh=>?_) (fun hh=>?_))
   ·obtain ⟨c52,hh⟩:=I4 hh
    obtain ⟨x4,hx4,hh⟩:=bs' hh
    exact P' 3 rfl (qe' rfl trivial (eu8.lenA _) (qc' rfl c52 (i' rfl (W1 hx4) (eu8.idx hx4) rfl (e' rfl (ew' (ih1 _ _ _ _ _ hh) rfl rfl rfl)))))
   exact sk' (ew' (ih1 _ _ _ _ _ hh) rfl rfl rfl)
  obtain ⟨x5,hx5,hh⟩:=bs' hh
  obtain ⟨x6,hx6,hh⟩:=bs' hh
  obtain ⟨x7,hx7,hh⟩:=bs' hh
  obtain ⟨x8,hx8,hh⟩:=bs' hh
  obtain ⟨x9,hx9,hh⟩:=bs' hh
  obtain ⟨x10,hx10,hh⟩:=bs' hh
  cases hh
  refine ex' (p' 1 rfl (c' (Nt hx5) rfl rfl (o' 4 rfl (F0.nf hC rfl (F0.s hC rfl (e' rfl (p' 1 rfl (c' (Nt hx6) rfl rfl (o' 4 rfl (F0.nf hC rfl (F0.s hC rfl (e' rfl (p' 1 rfl ?_)))))))))))))
  refine c' (Se hx7) rfl rfl (o' 4 rfl (F0.nf hC rfl (F0.s hC rfl (e' rfl (p' 1 rfl (c' (Se hx8) rfl rfl (o' 4 rfl (F0.nf hC rfl (F0.s hC rfl (e' rfl (sg' 19 rfl (G' 6 rfl (a2' rfl ?_)))))))))))))
  exact pa' rfl (G' 3 rfl (AG.c rfl rfl (fun hg=>⟨hg,hg,trivial⟩) (fun hw=>W14 (A4 hw hx9)) (pa' rfl (G' 3 rfl (AG.c rfl rfl (fun hg=>⟨hg,hg,trivial⟩) (fun hw=>Pa (A4 hw hx10)) (pa' rfl (a0' rfl (an' (n' (re' (rt' rfl rfl rfl)))))))))))
 ·intro g2 ih2 x3 other2 kind v431 res hh
  refine S' (p' 1 rfl (qc' rfl (by decide) (n' (bk' (t' rfl (ci' rfl hh (fun hh=>?_) (fun hh=>?_)))))))
  ·obtain ⟨c53,hh⟩:=I4 hh
   exact P' 1 rfl (qc' rfl c53 (e' rfl (ew' (ih2 _ _ _ _ hh) rfl rfl rfl)))
  refine t' rfl (ci' rfl hh (fun hh=>?_) (fun hh=>?_))
  ·obtain ⟨c54,hh⟩:=I4 hh
   exact P' 1 rfl (qc' rfl c54 (e' rfl (ew' (ih2 _ _ _ _ hh) rfl rfl rfl)))
  refine t' rfl (ci' rfl hh (fun hh=>?_) (fun hh=>?_))
  ·obtain ⟨c55,hh⟩:=I4 hh
   exact P' 1 rfl (qc' rfl c55 (e' rfl (ew' (ih2 _ _ _ _ hh) rfl rfl rfl)))
  refine t' rfl (ci' rfl hh (fun hh=>?_) (fun hh=>?_))
  ·obtain ⟨c56,hh⟩:=I4 hh
   exact P' 1 rfl (qc' rfl c56 (e' rfl (ew' (ih2 _ _ _ _ hh) rfl rfl rfl)))
  obtain ⟨c57,hh⟩:=I4 hh
  exact P' 1 rfl (qc' rfl c57 (e' rfl (ew' (ih2 _ _ _ _ hh) rfl rfl rfl)))
 ·intro g0 ih0 x3 other v432 res hh
  obtain ⟨c58,hh⟩:=I4 hh
  exact P' 3 rfl (qc' rfl c58 (e' rfl (T' rfl (lw' (ih0 _ _ _ hh) rfl rfl rfl))))
theorem Is {text gaps other1 x2 v43 res}(hh:R4 text gaps other1 x2 v43=some res):Gk text gaps other1 x2 v43 res:=(Ar text gaps x2).1 _ _ _ hh
def Kf (text:Str)(gaps:List Int):Option Bool:=
 Uf>>=fun x1=>
 if (!x1)=true then
  some false
 else
  if (decide (((text).length:Int) > 2000))=true then
   some true
  else
   Pp text>>=fun x2=>
   if (bif (x2.2.2 != 0) then true else (decide (((x2.1).length:Int) > 500)))=true then
    some true
   else
    R4 text gaps [] x2 0
theorem Qv {text gaps res}(hh:Kf text gaps=some res):U0 C 8 [.d (.str text),.d (.sl (eu8.rows gaps))] [] (Ret [] (.d (.bool res))):=by
 unfold Kf at hh
 obtain ⟨x1,hx1,hh⟩:=bs' hh
 refine U0.intro hC Tryz.func8 rfl rfl rfl (t' rfl (S' (s' rfl rfl (c' (U14 hx1) rfl rfl (e' rfl (ci' rfl hh (fun hh=>?_) (fun hh=>?_)))))))
 ·cases hh
  exact t' rfl (re' (rt' rfl rfl rfl))
 refine sk' (S' (t' rfl (ci' rfl hh (fun hh=>?_) (fun hh=>?_))))
 ·cases hh
  exact t' rfl (re' (rt' rfl rfl rfl))
 obtain ⟨x2,hx2,hh⟩:=bs' hh
 refine sk' (p' 1 rfl (c' (P18 hx2) rfl rfl (e' rfl (S' (sg' 7 rfl (G' 4 rfl (AG.qe hC rfl (fun hg=>⟨⟨hg,trivial⟩,trivial⟩) (K0.lenA _) (a1' rfl (po' rfl (an' (n' (ci' rfl hh (fun hh=>?_) (fun hh=>?_)))))))))))))
 ·cases hh
  exact t' rfl (re' (rt' rfl rfl rfl))
 exact sk' (t' rfl (S' (p' 1 rfl (qe' rfl trivial (K0.lenA _) (e' rfl (bk' (fw' (Is hh) rfl rfl rfl)))))))
end Go.Proofs.YtmnhfbekncjnfaaGreatDoor

