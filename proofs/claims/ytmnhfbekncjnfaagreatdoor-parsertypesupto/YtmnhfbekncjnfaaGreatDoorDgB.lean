/- A part of the proof of ParserTypes. -/
import Derived.Test.YtmnhfbekncjnfaaGreatDoorDgA
import Derived.Test.YtmnhfbekncjnfaaGreatDoorAmB
set_option maxRecDepth 100000
set_option maxHeartbeats 4000000
set_option synthInstance.maxSize 20000
set_option linter.unusedVariables false
namespace Go.Proofs.YtmnhfbekncjnfaaGreatDoor
open Go.Am
def Jf (s:Str)(atV:Int):Option (F0×Int):=
 Fe s atV>>=fun x1=>
 idx s atV>>=fun x2=>
 Da (x2.toNat:Int)>>=fun x3=>
 if x3=true then
  slc s atV x1>>=fun x4=>
  V9 x4>>=fun x5=>
  if x5=true then
   some ((F0.mk 2 x4 atV),0)
  else
   if (decide (((x4).length:Int) > 12))=true then
    some ((F0.mk 0 [] 0),7)
   else
    some ((F0.mk 0 x4 atV),0)
 else
  idx s atV>>=fun x6=>
  Qd (x6.toNat:Int)>>=fun x7=>
  if x7=true then
   slc s atV x1>>=fun x8=>
   Ge x8>>=fun x9=>
   if (x9 != 0)=true then
    some ((F0.mk 0 [] 0),x9)
   else
    slc s atV x1>>=fun x10=>
    some ((F0.mk 1 x10 atV),0)
  else
   (if (decide ((IntKind.i64.wrap (atV+2))≤((s).length:Int)))=true then slc s atV (IntKind.i64.wrap (atV+2)) else some default)>>=fun x11=>
   (if (decide ((IntKind.i64.wrap (atV+2))≤((s).length:Int)))=true then D7 x11 else some default)>>=fun x12=>
   if (bif (decide ((IntKind.i64.wrap (atV+2))≤((s).length:Int))) then x12 else false)=true then
    slc s atV (IntKind.i64.wrap (atV+2))>>=fun x13=>
    some ((F0.mk 3 x13 atV),0)
   else
    slc s atV (IntKind.i64.wrap (atV+1))>>=fun x14=>
    D7 x14>>=fun x15=>
    if x15=true then
     slc s atV (IntKind.i64.wrap (atV+1))>>=fun x16=>
     some ((F0.mk 3 x16 atV),0)
    else
     some ((F0.mk 0 [] 0),6)
theorem Iy {s atV res}(hh:Jf s atV=some res):K0 C 56 [.d (.str s),.d (.int .i64 atV)] [] (Ret [] (.tup [.agg (F0.cells res.1),.d (.int .i64 res.2)])):=by
 unfold Jf at hh
 obtain ⟨x1,hx1,hh⟩:=bs' hh
 obtain ⟨x2,hx2,hh⟩:=bs' hh
 obtain ⟨x3,hx3,hh⟩:=bs' hh
 refine K0.intro hC Tryz.func56 rfl rfl rfl (s' rfl rfl (E0.n hC rfl (e' rfl (p' 2 rfl (c' (Js hx1) rfl rfl (e' rfl (S' (p' 2 rfl (x' rfl (J1 hx2) (X2 hx2) (c' (Wd hx3) rfl rfl (n' (ci' rfl hh (fun hh=>?_) (fun hh=>?_)))))))))))))
 ·obtain ⟨x4,hx4,hh⟩:=bs' hh
  obtain ⟨x5,hx5,hh⟩:=bs' hh
  refine p' 3 rfl (E0.lx hC rfl hx4 (e' rfl (S' (p' 1 rfl (c' (Oj hx5) rfl rfl (n' (ci' rfl hh (fun hh=>?_) (fun hh=>?_))))))))
  ·cases hh
   exact p' 3 rfl (E0.s hC rfl (e' rfl (re' (rt' rfl rfl rfl))))
  refine sk' (S' (t' rfl (ci' rfl hh (fun hh=>?_) (fun hh=>?_))))
  ·cases hh
   exact p' 1 rfl (E0.s hC rfl (e' rfl (re' (rt' rfl rfl rfl))))
  cases hh
  exact sk' (p' 3 rfl (E0.s hC rfl (e' rfl (re' (rt' rfl rfl rfl)))))
 obtain ⟨x6,hx6,hh⟩:=bs' hh
 obtain ⟨x7,hx7,hh⟩:=bs' hh
 refine sk' (S' (p' 2 rfl (x' rfl (J1 hx6) (X2 hx6) (c' (Oh hx7) rfl rfl (n' (ci' rfl hh (fun hh=>?_) (fun hh=>?_)))))))
 ·obtain ⟨x8,hx8,hh⟩:=bs' hh
  obtain ⟨x9,hx9,hh⟩:=bs' hh
  refine p' 3 rfl (E0.lx hC rfl hx8 (c' (Xw hx9) rfl rfl (e' rfl (S' (t' rfl (ci' rfl hh (fun hh=>?_) (fun hh=>?_)))))))
  ·cases hh
   exact p' 2 rfl (E0.s hC rfl (e' rfl (re' (rt' rfl rfl rfl))))
  obtain ⟨x10,hx10,hh⟩:=bs' hh
  cases hh
  exact sk' (p' 3 rfl (E0.lx hC rfl hx10 (o' 2 rfl (E0.s hC rfl (e' rfl (re' (rt' rfl rfl rfl)))))))
 obtain ⟨x11,hx11,hh⟩:=bs' hh
 obtain ⟨x12,hx12,hh⟩:=bs' hh
 refine sk' (S' (sg' 13 rfl (G' 9 rfl (a1' rfl (AG.lx hC rfl rfl (fun hg=>⟨hg,hg,hg,trivial⟩) (fun hw=>(F2 hw hx11)) (AG.c rfl rfl (fun hg=>⟨hg,trivial⟩) (fun hw=>Im (F2 hw hx12)) (pa' rfl (an' (n' (ci' rfl hh (fun hh=>?_) (fun hh=>?_)))))))))))
 ·obtain ⟨x13,hx13,hh⟩:=bs' hh
  cases hh
  exact p' 4 rfl (E0.lx hC rfl hx13 (o' 2 rfl (E0.s hC rfl (e' rfl (re' (rt' rfl rfl rfl))))))
 obtain ⟨x14,hx14,hh⟩:=bs' hh
 obtain ⟨x15,hx15,hh⟩:=bs' hh
 refine sk' (S' (p' 4 rfl (E0.lx hC rfl hx14 (c' (Im hx15) rfl rfl (n' (ci' rfl hh (fun hh=>?_) (fun hh=>?_)))))))
 ·obtain ⟨x16,hx16,hh⟩:=bs' hh
  cases hh
  exact p' 4 rfl (E0.lx hC rfl hx16 (o' 2 rfl (E0.s hC rfl (e' rfl (re' (rt' rfl rfl rfl))))))
 cases hh
 exact sk' (p' 1 rfl (E0.s hC rfl (e' rfl (re' (rt' rfl rfl rfl)))))
def Ea (s:Str)(out:List F0)(atV:Int):Option (List F0×Int×Int):=
 if (decide (atV < ((s).length:Int)))=true then
  Jf s atV>>=fun x2=>
  if (x2.2 != 0)=true then
   some ([],atV,x2.2)
  else
   if (decide ((out.length+1) * 33≤140737488355328))=true then
    Pd s (IntKind.i64.wrap (atV+((x2.1.Text).length:Int)))>>=fun x3=>
    Ea s (out++[x2.1]) x3
   else none
 else
  some (out,0,0)
 partial_fixpoint
abbrev Lo (s:Str)(out:List F0)(atV:Int)(res:List F0×Int×Int):Prop:=LM C 41 0 Tryz.f26 [1,1,1,1,0,4] [(0,.d (.str s)),(5,.osl 0 (F0.rows out)),(6,.d (.int .i64 atV))] [.tok 62 3] (Ret [] (.tup [.d (.sl (F0.rows res.1)),.d (.int .i64 res.2.1),.d (.int .i64 res.2.2)]))
theorem Zu (s:Str):(∀ out atV res,Ea s out atV=some res→Lo s out atV res):=by
 refine Ea.partial_correctness s _ ?_
 ·intro g0 ih0 out atV res hh
  refine S0.unroll (S' (t' rfl (ci' rfl hh (fun hh=>?_) (fun hh=>?_))))
  ·obtain ⟨x2,hx2,hh⟩:=bs' hh
   refine sk' (bk' (p' 2 rfl (c' (Iy hx2) rfl rfl (o' 3 rfl (E0.n hC rfl (E0.s hC rfl (e' rfl (S' (t' rfl (ci' rfl hh (fun hh=>?_) (fun hh=>?_)))))))))))
   ·refine t' rfl (re' ?_)
    obtain rfl:=oi' hh
    exact ⟨_,.tup [.d (.sl (F0.rows [])),.d (.int .i64 atV),.d (.int .i64 x2.2)],[],rfl,(.tupL ⟨.full,.rfl,.rfl,trivial⟩),trivial,rfl,rfl,rfl,rfl⟩
   obtain ⟨c6,hh⟩:=T9 hh
   obtain ⟨x3,hx3,hh⟩:=bs' hh
   exact sk' (p' 2 rfl (E0.be hC rfl (F0.rows_map [x2.1]).symm (E0.ap hC rfl (rs:=F0.rows (out++[x2.1])) (F0.app out [x2.1]) (F0.sz out) (F0.sz [x2.1]) (Kk (F0.len out) (F0.len [x2.1]) c6) (e' rfl (P' 6 rfl (c' (Ho hx3) rfl rfl (e' rfl (lw' (ih0 _ _ _ hh) rfl rfl rfl))))))))
  refine ex' (t' rfl (re' ?_))
  obtain rfl:=oi' hh
  exact ⟨_,.tup [.d (.sl (F0.rows out)),.d (.int .i64 0),.d (.int .i64 0)],[],rfl,(.tupL ⟨.osl,.rfl,.rfl,trivial⟩),trivial,rfl,rfl,rfl,rfl⟩
theorem Yw {s out atV res}(hh:Ea s out atV=some res):Lo s out atV res:=(Zu s) _ _ _ hh
def Wi (s:Str):Option (List F0×Int×Int):=
 if (decide (((s).length:Int) > 8192))=true then
  some ([],0,5)
 else
  Pd s 0>>=fun x1=>
  Ea s [] x1
theorem R11 {s res}(hh:Wi s=some res):K0 C 26 [.d (.str s)] [] (Ret [] (.tup [.d (.sl (F0.rows res.1)),.d (.int .i64 res.2.1),.d (.int .i64 res.2.2)])):=by
 unfold Wi at hh
 refine K0.intro hC Tryz.func26 rfl rfl rfl (t' rfl (S' (t' rfl (ci' rfl hh (fun hh=>?_) (fun hh=>?_)))))
 ·refine t' rfl (re' ?_)
  obtain rfl:=oi' hh
  exact ⟨_,.tup [.d (.sl (F0.rows [])),.d (.int .i64 0),.d (.int .i64 5)],[],rfl,(.tupL ⟨.full,.rfl,.rfl,trivial⟩),trivial,rfl,rfl,rfl,rfl⟩
 obtain ⟨x1,hx1,hh⟩:=bs' hh
 exact sk' (s' rfl rfl (E0.be hC rfl (F0.rows_map []).symm (E0.tokE 12 62 3 rfl (e' rfl (p' 1 rfl (c' (Ho hx1) rfl rfl (e' rfl (S' (bk' (fw' (Yw hh) rfl rfl rfl))))))))))
def Y0 (l:List F0)(atV:Int)(text:Str):Option Bool:=
 (if (decide (atV < ((l).length:Int)))=true then idx l atV else some default)>>=fun x1=>
 (if ((decide (atV < ((l).length:Int)))&&(!(x1.Kind == 2)))=true then idx l atV else some default)>>=fun x2=>
 (if (bif (decide (atV < ((l).length:Int))) then (bif (x1.Kind == 2) then true else (x2.Kind == 3)) else false)=true then idx l atV else some default)>>=fun x3=>
 some (bif (bif (decide (atV < ((l).length:Int))) then (bif (x1.Kind == 2) then true else (x2.Kind == 3)) else false) then (x3.Text == text) else false)
theorem G4 {l atV text res}(hh:Y0 l atV text=some res):K0 C 66 [.d (.sl (F0.rows l)),.d (.int .i64 atV),.d (.str text)] [] (Ret [] (.d (.bool res))):=by
 unfold Y0 at hh
 obtain ⟨x1,hx1,hh⟩:=bs' hh
 obtain ⟨x2,hx2,hh⟩:=bs' hh
 obtain ⟨x3,hx3,hh⟩:=bs' hh
 cases hh
 refine K0.intro hC Tryz.func66 rfl rfl rfl (t' rfl (sg' 30 rfl (G' 2 rfl (AG.qe hC rfl (fun hg=>⟨trivial,trivial⟩) (F0.lenA _) (G' 4 rfl (AG.i hC rfl rfl (fun hg=>⟨hg,hg,trivial⟩) (fun hw=>⟨J1 (F2 hw hx1),F0.idx (F2 hw hx1),rfl⟩) (a1' rfl (a1' rfl (a1' rfl (a1' rfl (G' 2 rfl (AG.i hC rfl rfl (fun hg=>⟨hg,hg,trivial⟩) (fun hw=>⟨J1 (F2 hw hx2),F0.idx (F2 hw hx2),rfl⟩) ?_))))))))))))
 refine a1' rfl (a1' rfl (a1' rfl (pO' rfl (pa' rfl (G' 3 rfl (AG.i hC rfl rfl (fun hg=>⟨hg,hg,trivial⟩) (fun hw=>⟨J1 (F2 hw hx3),F0.idx (F2 hw hx3),rfl⟩) (a1' rfl (a1' rfl (a0' rfl (a2' rfl (pa' rfl (a0' rfl (an' ?_)))))))))))))
 exact n' (re' (rt' rfl rfl rfl))
def Sp (op:Int)(a:B0)(b:B0):Option B0:=
 some (B0.mk op 0 [] [a,b])
def T5 (l:List F0)(atV:Int)(n:Int)(i:Int):Option (Int×Int×Bool):=
 idx l atV>>=fun x2=>
 if (decide (i < ((x2.Text).length:Int)))=true then
  idx l atV>>=fun x3=>
  idx x3.Text i>>=fun x4=>
  T5 l atV (IntKind.i64.wrap ((IntKind.i64.wrap (10 * n))+(IntKind.i64.wrap (IntKind.u8.wrap ((x4.toNat:Int) - 48))))) (IntKind.i64.wrap (i+1))
 else
  some (n,(IntKind.i64.wrap (atV+1)),true)
 partial_fixpoint
abbrev Rj (l:List F0)(atV:Int)(n:Int)(i:Int)(res:Int×Int×Bool):Prop:=LM C 47 0 Tryz.f133 [1,1,1,0,1,4] [(0,.d (.sl (F0.rows l))),(1,.d (.int .i64 atV)),(7,.d (.int .i64 n)),(8,.d (.int .i64 i))] [] (Ret [] (.tup [.d (.int .i64 res.1),.d (.int .i64 res.2.1),.d (.bool res.2.2)]))
theorem Vq (l:List F0)(atV:Int):(∀ n i res,T5 l atV n i=some res→Rj l atV n i res):=by
 refine T5.partial_correctness l atV _ ?_
 ·intro g0 ih0 n i res hh
  obtain ⟨x2,hx2,hh⟩:=bs' hh
  refine S0.unroll (S' (p' 3 rfl (i' rfl (J1 hx2) (F0.idx hx2) rfl (e' rfl (ci' rfl hh (fun hh=>?_) (fun hh=>?_))))))
  ·obtain ⟨x3,hx3,hh⟩:=bs' hh
   obtain ⟨x4,hx4,hh⟩:=bs' hh
   exact sk' (S' (bk' (P' 4 rfl (i' rfl (J1 hx3) (F0.idx hx3) rfl (o' 3 rfl (x' rfl (J1 hx4) (X2 hx4) (e' rfl (T' rfl (lw' (ih0 _ _ _ hh) rfl rfl rfl)))))))))
  cases hh
  exact ex' (t' rfl (re' (rt' rfl rfl rfl)))
theorem Ms {l atV n i res}(hh:T5 l atV n i=some res):Rj l atV n i res:=(Vq l atV) _ _ _ hh
def Fa (l:List F0)(atV:Int):Option (Int×Int×Bool):=
 (if (!(decide (atV≥((l).length:Int))))=true then idx l atV else some default)>>=fun x1=>
 if (bif (decide (atV≥((l).length:Int))) then true else (x1.Kind != 1))=true then
  some (0,atV,false)
 else
  T5 l atV 0 0
theorem Jm {l atV res}(hh:Fa l atV=some res):K0 C 133 [.d (.sl (F0.rows l)),.d (.int .i64 atV)] [] (Ret [] (.tup [.d (.int .i64 res.1),.d (.int .i64 res.2.1),.d (.bool res.2.2)])):=by
 unfold Fa at hh
 obtain ⟨x1,hx1,hh⟩:=bs' hh
 refine K0.intro hC Tryz.func133 rfl rfl rfl (t' rfl (S' (sg' 12 rfl (G' 2 rfl (AG.qe hC rfl (fun hg=>⟨trivial,trivial⟩) (F0.lenA _) (G' 4 rfl (AG.i hC rfl rfl (fun hg=>⟨hg,hg,trivial⟩) (fun hw=>⟨J1 (F2 hw hx1),F0.idx (F2 hw hx1),rfl⟩) (a1' rfl (a1' rfl (a1' rfl (po' rfl (an' (n' (ci' rfl hh (fun hh=>?_) (fun hh=>?_)))))))))))))))
 ·cases hh
  exact t' rfl (re' (rt' rfl rfl rfl))
 exact sk' (t' rfl (S' (t' rfl (bk' (fw' (Ms hh) rfl rfl rfl)))))
def F6 (l:List F0)(atV:Int):Option (Str×Int×Bool):=
 (if (decide (atV < ((l).length:Int)))=true then idx l atV else some default)>>=fun x1=>
 if (bif (decide (atV < ((l).length:Int))) then (x1.Kind == 0) else false)=true then
  idx l atV>>=fun x2=>
  some (x2.Text,(IntKind.i64.wrap (atV+1)),true)
 else
  some ([],atV,false)
theorem Hq {l atV res}(hh:F6 l atV=some res):K0 C 78 [.d (.sl (F0.rows l)),.d (.int .i64 atV)] [] (Ret [] (.tup [.d (.str res.1),.d (.int .i64 res.2.1),.d (.bool res.2.2)])):=by
 unfold F6 at hh
 obtain ⟨x1,hx1,hh⟩:=bs' hh
 refine K0.intro hC Tryz.func78 rfl rfl rfl (t' rfl (S' (sg' 12 rfl (G' 2 rfl (AG.qe hC rfl (fun hg=>⟨trivial,trivial⟩) (F0.lenA _) (G' 4 rfl (AG.i hC rfl rfl (fun hg=>⟨hg,hg,trivial⟩) (fun hw=>⟨J1 (F2 hw hx1),F0.idx (F2 hw hx1),rfl⟩) (a1' rfl (a1' rfl (a1' rfl (pa' rfl (an' (n' (ci' rfl hh (fun hh=>?_) (fun hh=>?_)))))))))))))))
 ·obtain ⟨x2,hx2,hh⟩:=bs' hh
  cases hh
  exact p' 2 rfl (i' rfl (J1 hx2) (F0.idx hx2) rfl (e' rfl (re' (rt' rfl rfl rfl))))
 cases hh
 exact sk' (t' rfl (re' (rt' rfl rfl rfl)))
def S11 (l:List F0)(atV:Int)(level:Int):Option (Int×Bool):=
 (if (!(decide (atV≥((l).length:Int))))=true then idx l atV else some default)>>=fun x1=>
 if (bif (decide (atV≥((l).length:Int))) then true else (x1.Kind != 3))=true then
  some (0,false)
 else
  idx l atV>>=fun x2=>
  if (x2.Text == [124,124])=true then
   some (20,(1 == level))
  else
   if (x2.Text == [38,38])=true then
    some (19,(2 == level))
   else
    if (x2.Text == [61,61])=true then
     some (13,(3 == level))
    else
     if (x2.Text == [33,61])=true then
      some (14,(3 == level))
     else
      if (x2.Text == [60])=true then
       some (15,(3 == level))
      else
       if (x2.Text == [60,61])=true then
        some (16,(3 == level))
       else
        if (x2.Text == [62])=true then
         some (17,(3 == level))
        else
         if (x2.Text == [62,61])=true then
          some (18,(3 == level))
         else
          if (x2.Text == [43])=true then
           some (8,(4 == level))
          else
           if (x2.Text == [45])=true then
            some (9,(4 == level))
           else
            if (x2.Text == [42])=true then
             some (10,(5 == level))
            else
             if (x2.Text == [47])=true then
              some (11,(5 == level))
             else
              if (x2.Text == [37])=true then
               some (12,(5 == level))
              else
               some (0,(0 == level))
mutual
def R2 (l:List F0)(atV:Int):Option (B0×Int×Bool):=
 U9 l atV 1>>=fun x1=>
 (if (!(!x1.2.2))=true then Y0 l x1.2.1 [63] else some default)>>=fun x2=>
 if (bif (!x1.2.2) then true else (!x2))=true then
  some (x1.1,x1.2.1,x1.2.2)
 else
  R2 l (IntKind.i64.wrap (x1.2.1+1))>>=fun x3=>
  if (!x3.2.2)=true then
   some (x3.1,x3.2.1,false)
  else
   Y0 l x3.2.1 [58]>>=fun x4=>
   if (!x4)=true then
    some (x3.1,x3.2.1,false)
   else
    R2 l (IntKind.i64.wrap (x3.2.1+1))>>=fun x5=>
    if (!x5.2.2)=true then
     some (x5.1,x5.2.1,false)
    else
     some ((B0.mk 23 0 [] [x1.1,x3.1,x5.1]),x5.2.1,true)
 partial_fixpoint
def U9 (l:List F0)(atV:Int)(n:Int):Option (B0×Int×Bool):=
 if (n == 6)=true then
  Tm l atV>>=fun x1=>
  some (x1.1,x1.2.1,x1.2.2)
 else
  U9 l atV (IntKind.i64.wrap (n+1))>>=fun x2=>
  if (!x2.2.2)=true then
   some (x2.1,x2.2.1,false)
  else
   W9 l n x2.1 x2.2.1
 partial_fixpoint
def W9 (l:List F0)(n:Int)(o1:B0)(atV1:Int):Option (B0×Int×Bool):=
 S11 l atV1 n>>=fun x3=>
 if (!x3.2)=true then
  some (o1,atV1,true)
 else
  U9 l (IntKind.i64.wrap (atV1+1)) (IntKind.i64.wrap (n+1))>>=fun x4=>
  if (!x4.2.2)=true then
   some (x4.1,x4.2.1,false)
  else
   Sp x3.1 o1 x4.1>>=fun x5=>
   if (n == 3)=true then
    some (x5,x4.2.1,true)
   else
    W9 l n x5 x4.2.1
 partial_fixpoint
def Tm (l:List F0)(atV:Int):Option (B0×Int×Bool):=
 Y0 l atV [45]>>=fun x1=>
 (if (!x1)=true then Y0 l atV [33] else some default)>>=fun x2=>
 if (bif (!x1) then (!x2) else false)=true then
  Xz l atV>>=fun x3=>
  some (x3.1,x3.2.1,x3.2.2)
 else
  Y0 l atV [33]>>=fun x4=>
  if x4=true then
   Mo l atV 7
  else
   Mo l atV 6
 partial_fixpoint
def Mo (l:List F0)(atV:Int)(op:Int):Option (B0×Int×Bool):=
 Tm l (IntKind.i64.wrap (atV+1))>>=fun x5=>
 if (!x5.2.2)=true then
  some (x5.1,x5.2.1,false)
 else
  some ((B0.mk op 0 [] [x5.1]),x5.2.1,true)
 partial_fixpoint
def Xz (l:List F0)(atV:Int):Option (B0×Int×Bool):=
 Y0 l atV [116,114,117,101]>>=fun x1=>
 if x1=true then
  some ((B0.mk 1 0 [] []),(IntKind.i64.wrap (atV+1)),true)
 else
  Y0 l atV [102,97,108,115,101]>>=fun x2=>
  if x2=true then
   some ((B0.mk 2 0 [] []),(IntKind.i64.wrap (atV+1)),true)
  else
   Y0 l atV [109,105,110]>>=fun x3=>
   (if (!x3)=true then Y0 l atV [109,97,120] else some default)>>=fun x4=>
   if (bif x3 then true else x4)=true then
    Yz l atV>>=fun x5=>
    some (x5.1,x5.2.1,x5.2.2)
   else
    Y0 l atV [40]>>=fun x6=>
    if x6=true then
     R2 l (IntKind.i64.wrap (atV+1))>>=fun x9=>
     (if (!(!x9.2.2))=true then Y0 l x9.2.1 [41] else some default)>>=fun x10=>
     if (bif (!x9.2.2) then true else (!x10))=true then
      some (x9.1,x9.2.1,false)
     else
      some (x9.1,(IntKind.i64.wrap (x9.2.1+1)),true)
    else
     Fa l atV>>=fun x7=>
     if x7.2.2=true then
      some ((B0.mk 0 x7.1 [] []),x7.2.1,true)
     else
      Fu l atV>>=fun x8=>
      some (x8.1,x8.2.1,x8.2.2)
 partial_fixpoint
def Fu (l:List F0)(atV:Int):Option (B0×Int×Bool):=
 F6 l atV>>=fun x1=>
 if (!x1.2.2)=true then
  some ((B0.mk 0 0 [] []),x1.2.1,false)
 else
  Ve l 3 0 x1.1 [] x1.2.1
 partial_fixpoint
def Ve (l:List F0)(o1_Op:Int)(o1_NV:Int)(o1_Name:Str)(o1_Kids:List B0)(atV1:Int):Option (B0×Int×Bool):=
 Y0 l atV1 [46]>>=fun x2=>
 (if (!x2)=true then Y0 l atV1 [91] else some default)>>=fun x3=>
 if (bif x2 then true else x3)=true then
  Y0 l atV1 [46]>>=fun x4=>
  if x4=true then
   F6 l (IntKind.i64.wrap (atV1+1))>>=fun x5=>
   if (!x5.2.2)=true then
    some ((B0.mk o1_Op o1_NV o1_Name o1_Kids),x5.2.1,false)
   else
    Ve l 4 0 x5.1 [(B0.mk o1_Op o1_NV o1_Name o1_Kids)] x5.2.1
  else
   R2 l (IntKind.i64.wrap (atV1+1))>>=fun x6=>
   (if (!(!x6.2.2))=true then Y0 l x6.2.1 [93] else some default)>>=fun x7=>
   if (bif (!x6.2.2) then true else (!x7))=true then
    some (x6.1,x6.2.1,false)
   else
    Sp 5 (B0.mk o1_Op o1_NV o1_Name o1_Kids) x6.1>>=fun x8=>
    Ve l x8.Op x8.NV x8.Name x8.Kids (IntKind.i64.wrap (x6.2.1+1))
 else
  some ((B0.mk o1_Op o1_NV o1_Name o1_Kids),atV1,true)
 partial_fixpoint
def Yz (l:List F0)(atV:Int):Option (B0×Int×Bool):=
 Y0 l atV [109,97,120]>>=fun x1=>
 if x1=true then
  Cl l atV 22
 else
  Cl l atV 21
 partial_fixpoint
def Cl (l:List F0)(atV:Int)(op:Int):Option (B0×Int×Bool):=
 Y0 l (IntKind.i64.wrap (atV+1)) [40]>>=fun x2=>
 if (!x2)=true then
  some ((B0.mk 0 0 [] []),(IntKind.i64.wrap (atV+1)),false)
 else
  R2 l (IntKind.i64.wrap (atV+2))>>=fun x3=>
  (if (!(!x3.2.2))=true then Y0 l x3.2.1 [44] else some default)>>=fun x4=>
  if (bif (!x3.2.2) then true else (!x4))=true then
   some (x3.1,x3.2.1,false)
  else
   R2 l (IntKind.i64.wrap (x3.2.1+1))>>=fun x5=>
   (if (!(!x5.2.2))=true then Y0 l x5.2.1 [41] else some default)>>=fun x6=>
   if (bif (!x5.2.2) then true else (!x6))=true then
    some (x5.1,x5.2.1,false)
   else
    Sp op x3.1 x5.1>>=fun x7=>
    some (x7,(IntKind.i64.wrap (x5.2.1+1)),true)
 partial_fixpoint
end
def He (text:Str)(l:List F0)(atV:Int):Option Int:=
 if (decide (atV < ((l).length:Int)))=true then
  idx l atV>>=fun x1=>
  some x1.At
 else
  some ((text).length:Int)
theorem Zw {text l atV res}(hh:He text l atV=some res):K0 C 33 [.d (.str text),.d (.sl (F0.rows l)),.d (.int .i64 atV)] [] (Ret [] (.d (.int .i64 res))):=by
 unfold He at hh
 refine K0.intro hC Tryz.func33 rfl rfl rfl (t' rfl (S' (p' 2 rfl (qe' rfl trivial (F0.lenA _) (e' rfl (ci' rfl hh (fun hh=>?_) (fun hh=>?_)))))))
 ·obtain ⟨x1,hx1,hh⟩:=bs' hh
  cases hh
  exact p' 2 rfl (i' rfl (J1 hx1) (F0.idx hx1) rfl (e' rfl (re' (rt' rfl rfl rfl))))
 cases hh
 exact sk' (t' rfl (re' (rt' rfl rfl rfl)))
def Pb (s:Q1)(d:Int):Option Q1:=
 if (decide (d > s.depth))=true then
  some (Q1.mk s.nodes d)
 else
  some s
theorem Tp {s d res}(hh:Pb s d=some res):K0 C 126 [.agg (Q1.cells s),.d (.int .i64 d)] [] (Ret [] (.agg (Q1.cells res))):=by
 unfold Pb at hh
 refine K0.intro hC Tryz.func126 rfl rfl rfl (s' rfl rfl (E0.n hC rfl (E0.n hC rfl (n' (S' (t' rfl (ci' rfl hh (fun hh=>?_) (fun hh=>?_))))))))
 ·cases hh
  exact P' 2 rfl (E0.s hC rfl (n' (p' 1 rfl (E0.s hC rfl (n' (re' (rt' rfl rfl rfl)))))))
 cases hh
 exact sk' (p' 1 rfl (E0.s hC rfl (n' (re' (rt' rfl rfl rfl)))))
def Qg (s:Str):Option Bool:=
 (if (!(bif (decide (((s).length:Int) < 1)) then true else (decide (((s).length:Int) > 12))))=true then idx s 0 else some default)>>=fun x1=>
 (if (!(bif (decide (((s).length:Int) < 1)) then true else (decide (((s).length:Int) > 12))))=true then Da (x1.toNat:Int) else some default)>>=fun x2=>
 (if (!(bif (bif (decide (((s).length:Int) < 1)) then true else (decide (((s).length:Int) > 12))) then true else (!x2)))=true then V9 s else some default)>>=fun x3=>
 if (bif (bif (bif (decide (((s).length:Int) < 1)) then true else (decide (((s).length:Int) > 12))) then true else (!x2)) then true else x3)=true then
  some false
 else
  Fe s 0>>=fun x4=>
  some (x4 == ((s).length:Int))
theorem Ax {s res}(hh:Qg s=some res):K0 C 170 [.d (.str s)] [] (Ret [] (.d (.bool res))):=by
 unfold Qg at hh
 obtain ⟨x1,hx1,hh⟩:=bs' hh
 obtain ⟨x2,hx2,hh⟩:=bs' hh
 obtain ⟨x3,hx3,hh⟩:=bs' hh
 refine K0.intro hC Tryz.func170 rfl rfl rfl (t' rfl (S' (sg' 18 rfl (G' 5 rfl (a1' rfl (a1' rfl (po' rfl (G' 2 rfl (AG.x hC rfl rfl (fun hg=>⟨hg,trivial⟩) (fun hw=>⟨J1 (F2 hw hx1),X2 (F2 hw hx1)⟩) (AG.c rfl rfl (fun hg=>⟨hg,trivial⟩) (fun hw=>Wd (F2 hw hx2)) (a1' rfl (po' rfl (G' 2 rfl ?_)))))))))))))
 refine AG.c rfl rfl (fun hg=>⟨hg,trivial⟩) (fun hw=>Oj (F2 hw hx3)) (po' rfl (an' (n' (ci' rfl hh (fun hh=>?_) (fun hh=>?_)))))
 ·cases hh
  exact t' rfl (re' (rt' rfl rfl rfl))
 obtain ⟨x4,hx4,hh⟩:=bs' hh
 cases hh
 exact sk' (p' 1 rfl (c' (Js hx4) rfl rfl (e' rfl (re' (rt' rfl rfl rfl)))))
def Ac (s:Str):Option Bool:=
 Qg s>>=fun x1=>
 some x1
theorem Km {s res}(hh:Ac s=some res):K0 C 130 [.d (.str s)] [] (Ret [] (.d (.bool res))):=by
 unfold Ac at hh
 obtain ⟨x1,hx1,hh⟩:=bs' hh
 cases hh
 exact K0.intro hC Tryz.func130 rfl rfl rfl (t' rfl (p' 1 rfl (c' (Ax hx1) rfl rfl (e' rfl (re' (rt' rfl rfl rfl))))))
def Kd (s:Q1)(form:Bool)(names:Bool)(numbers:Bool):Option Int:=
 if (bif (decide (s.nodes > 1024)) then true else (decide (s.depth > 12)))=true then
  some 4
 else
  if (!form)=true then
   some 1
  else
   if (!names)=true then
    some 7
   else
    if (!numbers)=true then
     some 3
    else
     some 0
theorem Av {s form names numbers res}(hh:Kd s form names numbers=some res):K0 C 67 [.agg (Q1.cells s),.d (.bool form),.d (.bool names),.d (.bool numbers)] [] (Ret [] (.d (.int .i64 res))):=by
 unfold Kd at hh
 refine K0.intro hC Tryz.func67 rfl rfl rfl (s' rfl rfl (E0.n hC rfl (e' rfl (S' (sg' 8 rfl (G' 5 rfl (a1' rfl (a1' rfl (po' rfl (an' (n' (ci' rfl hh (fun hh=>?_) (fun hh=>?_)))))))))))))
 ·cases hh
  exact t' rfl (re' (rt' rfl rfl rfl))
 refine sk' (S' (t' rfl (ci' rfl hh (fun hh=>?_) (fun hh=>?_))))
 ·cases hh
  exact t' rfl (re' (rt' rfl rfl rfl))
 refine sk' (S' (t' rfl (ci' rfl hh (fun hh=>?_) (fun hh=>?_))))
 ·cases hh
  exact t' rfl (re' (rt' rfl rfl rfl))
 refine sk' (S' (t' rfl (ci' rfl hh (fun hh=>?_) (fun hh=>?_))))
 ·cases hh
  exact t' rfl (re' (rt' rfl rfl rfl))
 cases hh
 exact sk' (t' rfl (re' (rt' rfl rfl rfl)))
def V1 (parserParser:A0):Option (Pn (Int×A0)):=
 L0 [45] parserParser>>=fun x1=>
 if x1.1=true then
  U2 x1.2>>=fun x2=>match x2 with
  | .pn nn=>
  some (.pn nn)
  | .ok x2=>
  some (.ok ((IntKind.i64.wrap (0 - x2.1)),x2.2))
 else
  U2 x1.2>>=fun x3=>match x3 with
  | .pn nn=>
  some (.pn nn)
  | .ok x3=>
  some (.ok (x3.1,x3.2))
theorem U3 {parserParser res}(hh:V1 parserParser=some res):Y1 C 72 [.ref 0 0] [.row (A0.cells parserParser) 99] (F5 res (fun rr=>[.row (A0.cells rr.2) 99]) (fun rr=>.d (.int .i64 rr.1))) (T4 res J3 [.dead]):=by
 unfold V1 at hh
 obtain ⟨x1,hx1,hh⟩:=bs' hh
 refine Y1.intro hC Tryz.func72 rfl rfl rfl (t' rfl (S' (p' 1 rfl (g' [0] (O0 hx1) rfl rfl rfl rfl rfl rfl (n' (ci' rfl hh (fun hh=>?_) (fun hh=>?_)))))))
 ·refine p' 1 rfl ?_
  rcases bp' hh with ⟨nn,hx2,⟨⟩⟩ | ⟨x2,hx2,hh⟩
  ·exact gn' [0] (B4 hx2) rfl rfl rfl rfl rfl (fun hi=>peW ⟨trivial,trivial⟩ rfl hi)
  cases hh
  exact g' [0] ((B4 hx2).ok) rfl rfl rfl rfl rfl rfl (e' rfl (re' (rt' rfl rfl rfl)))
 refine sk' (p' 1 rfl ?_)
 rcases bp' hh with ⟨nn,hx3,⟨⟩⟩ | ⟨x3,hx3,hh⟩
 ·exact gn' [0] (B4 hx3) rfl rfl rfl rfl rfl (fun hi=>peW ⟨trivial,trivial⟩ rfl hi)
 cases hh
 exact g' [0] ((B4 hx3).ok) rfl rfl rfl rfl rfl rfl (e' rfl (re' (rt' rfl rfl rfl)))
mutual
def T2 (parserParser:A0):Option (Pn (C0×A0)):=
 L0 [98,111,111,108] parserParser>>=fun x1=>
 if x1.1=true then
  some (.ok ((C0.mk 0 0 0 0 [] [] []),x1.2))
 else
  L0 [105,110,116] x1.2>>=fun x2=>
  if x2.1=true then
   P0 [91] x2.2>>=fun x3=>match x3 with
   | .pn nn=>
   some (.pn nn)
   | .ok x3=>
   V1 x3>>=fun x4=>match x4 with
   | .pn nn=>
   some (.pn nn)
   | .ok x4=>
   P0 [46,46] x4.2>>=fun x5=>match x5 with
   | .pn nn=>
   some (.pn nn)
   | .ok x5=>
   V1 x5>>=fun x6=>match x6 with
   | .pn nn=>
   some (.pn nn)
   | .ok x6=>
   P0 [93] x6.2>>=fun x7=>match x7 with
   | .pn nn=>
   some (.pn nn)
   | .ok x7=>
   some (.ok ((C0.mk 1 x4.1 x6.1 0 [] [] []),x7))
  else
   L0 [97,114,114,97,121] x2.2>>=fun x8=>
   if x8.1=true then
    V1 x8.2>>=fun x9=>match x9 with
    | .pn nn=>
    some (.pn nn)
    | .ok x9=>
    P0 [111,102] x9.2>>=fun x10=>match x10 with
    | .pn nn=>
    some (.pn nn)
    | .ok x10=>
    T2 x10>>=fun x16=>match x16 with
    | .pn nn=>
    some (.pn nn)
    | .ok x16=>
    some (.ok ((C0.mk 2 0 0 x9.1 [] [] [x16.1]),x16.2))
   else
    L0 [114,101,99,111,114,100] x8.2>>=fun x11=>
    if x11.1=true then
     P0 [123] x11.2>>=fun x12=>match x12 with
     | .pn nn=>
     some (.pn nn)
     | .ok x12=>
     I5 x12 [] []
    else
     I2 x11.2>>=fun x13=>match x13 with
     | .pn nn=>
     some (.pn nn)
     | .ok x13=>
     some (.ok ((C0.mk 4 0 0 0 x13.1 [] []),x13.2))
 partial_fixpoint
def I5 (o0:A0)(o2_Names:List Str)(o2_Of:List C0):Option (Pn (C0×A0)):=
 I2 o0>>=fun x14=>match x14 with
 | .pn nn=>
 some (.pn nn)
 | .ok x14=>
 P0 [58] x14.2>>=fun x15=>match x15 with
 | .pn nn=>
 some (.pn nn)
 | .ok x15=>
 T2 x15>>=fun x17=>match x17 with
 | .pn nn=>
 some (.pn nn)
 | .ok x17=>
 if (decide ((o2_Names.length+1) * 17≤140737488355328))=true then
  if (decide ((o2_Of.length+1) * 97≤140737488355328))=true then
   L0 [44] x17.2>>=fun x18=>
   if (!x18.1)=true then
    P0 [125] x18.2>>=fun x19=>match x19 with
    | .pn nn=>
    some (.pn nn)
    | .ok x19=>
    some (.ok ((C0.mk 3 0 0 0 [] (o2_Names++[x14.1]) (o2_Of++[x17.1])),x19))
   else
    I5 x18.2 (o2_Names++[x14.1]) (o2_Of++[x17.1])
  else none
 else none
 partial_fixpoint
end
abbrev Bh (parserParser:A0)(res:Pn (C0×A0)):Prop:=Y1 C 36 [.ref 0 0] [.row (A0.cells parserParser) 99] (F5 res (fun rr=>[.row (A0.cells rr.2) 99]) (fun rr=>.agg (C0.cells rr.1))) (T4 res J3 [.dead])
abbrev Um (o0:A0)(o2_Names:List Str)(o2_Of:List C0)(res:Pn (C0×A0)):Prop:=LMp C 74 1 Tryz.f36 [1,0,4,1,3,1,3,1,3,1,2,1,1,0,4] [(0,.ref 0 0),(2,.ref 1 0),(6,.ref 2 0)] [.row (A0.cells o0) 99,.row [.d (.int .i64 0),.d (.int .i64 0),.d (.int .i64 0),.d (.int .i64 0),.d (.str []),.full (estr.rows []),.full (C0.rows [])] 36,.row [.d (.int .i64 3),.d (.int .i64 0),.d (.int .i64 0),.d (.int .i64 0),.d (.str []),.osl 3 (estr.rows o2_Names),.osl 4 (C0.rows o2_Of)] 36,.tok 9 1,.tok 36 7] (F5 res (fun rr=>[.row (A0.cells rr.2) 99]) (fun rr=>.agg (C0.cells rr.1))) (T4 res J3 [.dead])
theorem Oo:(∀ parserParser res,T2 parserParser=some res→Bh parserParser res)∧(∀ o0 o2_Names o2_Of res,I5 o0 o2_Names o2_Of=some res→Um o0 o2_Names o2_Of res):=by
 refine T2.mutual_partial_correctness _ _ ?_ ?_
 ·intro g0 g1 ih0 ih1 parserParser res hh
  obtain ⟨x1,hx1,hh⟩:=bs' hh
  refine Y1.intro hC Tryz.func36 rfl rfl rfl (s' rfl rfl (E0.nf hC rfl (n' (S' (bk' (p' 1 rfl (g' [0] (O0 hx1) rfl rfl rfl rfl rfl rfl (e' rfl (ci' rfl hh (fun hh=>?_) (fun hh=>?_))))))))))
  ·refine s' rfl rfl (E0.bz hC rfl (E0.s hC rfl (n' (re' ?_))))
   obtain rfl:=oi' hh
   exact ⟨_,.agg [.d (.int .i64 0),.d (.int .i64 0),.d (.int .i64 0),.d (.int .i64 0),.d (.str []),.d (.sl (estr.rows [])),.d (.sl (C0.rows []))],[.row (A0.cells x1.2) 99],rfl,(.aggL ⟨.rfl,.rfl,.rfl,.rfl,.rfl,.full,.full,trivial⟩),⟨⟨rfl,.refl _,rfl⟩,trivial⟩,rfl,rfl,rpq rfl rfl⟩
  obtain ⟨x2,hx2,hh⟩:=bs' hh
  refine p' 1 rfl (g' [0] (O0 hx2) rfl rfl rfl rfl rfl rfl (e' rfl (ci' rfl hh (fun hh=>?_) (fun hh=>?_))))
  ·refine p' 1 rfl ?_
   rcases bp' hh with ⟨nn,hx3,⟨⟩⟩ | ⟨x3,hx3,hh⟩
   ·exact gn' [0] (T0 hx3) rfl rfl rfl rfl rfl (fun hi=>peW ⟨trivial,trivial⟩ rfl hi)
   refine g' [0] ((T0 hx3).ok) rfl rfl rfl rfl rfl rfl (n' (p' 1 rfl ?_))
   rcases bp' hh with ⟨nn,hx4,⟨⟩⟩ | ⟨x4,hx4,hh⟩
   ·exact gn' [0] (U3 hx4) rfl rfl rfl rfl rfl (fun hi=>peW ⟨trivial,trivial⟩ rfl hi)
   refine g' [0] ((U3 hx4).ok) rfl rfl rfl rfl rfl rfl (e' rfl (p' 1 rfl ?_))
   rcases bp' hh with ⟨nn,hx5,⟨⟩⟩ | ⟨x5,hx5,hh⟩
   ·exact gn' [0] (T0 hx5) rfl rfl rfl rfl rfl (fun hi=>peW ⟨trivial,trivial⟩ rfl hi)
   refine g' [0] ((T0 hx5).ok) rfl rfl rfl rfl rfl rfl (n' (p' 1 rfl ?_))
   rcases bp' hh with ⟨nn,hx6,⟨⟩⟩ | ⟨x6,hx6,hh⟩
   ·exact gn' [0] (U3 hx6) rfl rfl rfl rfl rfl (fun hi=>peW ⟨trivial,trivial⟩ rfl hi)
   refine g' [0] ((U3 hx6).ok) rfl rfl rfl rfl rfl rfl (e' rfl (p' 1 rfl ?_))
   rcases bp' hh with ⟨nn,hx7,⟨⟩⟩ | ⟨x7,hx7,hh⟩
   ·exact gn' [0] (T0 hx7) rfl rfl rfl rfl rfl (fun hi=>peW ⟨trivial,trivial⟩ rfl hi)
   refine g' [0] ((T0 hx7).ok) rfl rfl rfl rfl rfl rfl (n' (p' 2 rfl (E0.bz hC rfl (E0.s hC rfl (n' (re' ?_))))))
   obtain rfl:=oi' hh
   exact ⟨_,.agg [.d (.int .i64 1),.d (.int .i64 x4.1),.d (.int .i64 x6.1),.d (.int .i64 0),.d (.str []),.d (.sl (estr.rows [])),.d (.sl (C0.rows []))],[.row (A0.cells x7) 99],rfl,(.aggL ⟨.rfl,.rfl,.rfl,.rfl,.rfl,.full,.full,trivial⟩),⟨⟨rfl,.refl _,rfl⟩,trivial⟩,rfl,rfl,rpq rfl rfl⟩
  obtain ⟨x8,hx8,hh⟩:=bs' hh
  refine p' 1 rfl (g' [0] (O0 hx8) rfl rfl rfl rfl rfl rfl (e' rfl (ci' rfl hh (fun hh=>?_) (fun hh=>?_))))
  ·refine p' 1 rfl ?_
   rcases bp' hh with ⟨nn,hx9,⟨⟩⟩ | ⟨x9,hx9,hh⟩
   ·exact gn' [0] (U3 hx9) rfl rfl rfl rfl rfl (fun hi=>peW ⟨trivial,trivial⟩ rfl hi)
   refine g' [0] ((U3 hx9).ok) rfl rfl rfl rfl rfl rfl (e' rfl (p' 1 rfl ?_))
   rcases bp' hh with ⟨nn,hx10,⟨⟩⟩ | ⟨x10,hx10,hh⟩
   ·exact gn' [0] (T0 hx10) rfl rfl rfl rfl rfl (fun hi=>peW ⟨trivial,trivial⟩ rfl hi)
   refine g' [0] ((T0 hx10).ok) rfl rfl rfl rfl rfl rfl (n' (p' 2 rfl ?_))
   rcases bp' hh with ⟨nn,hx16,⟨⟩⟩ | ⟨x16,hx16,hh⟩
   ·exact gn' [0] (ih0 _ _ hx16) rfl rfl rfl rfl rfl (fun hi=>peW ⟨trivial,trivial⟩ rfl hi)
   refine g' [0] ((ih0 _ _ hx16).ok) rfl rfl rfl rfl rfl rfl (E0.be hC rfl (C0.rows_map [x16.1]).symm (E0.bz hC rfl (E0.s hC rfl (n' (re' ?_)))))
   obtain rfl:=oi' hh
   exact ⟨_,.agg [.d (.int .i64 2),.d (.int .i64 0),.d (.int .i64 0),.d (.int .i64 x9.1),.d (.str []),.d (.sl (estr.rows [])),.d (.sl (C0.rows [x16.1]))],[.row (A0.cells x16.2) 99],rfl,(.aggL ⟨.rfl,.rfl,.rfl,.rfl,.rfl,.full,.full,trivial⟩),⟨⟨rfl,.refl _,rfl⟩,trivial⟩,rfl,rfl,rpq rfl rfl⟩
  obtain ⟨x11,hx11,hh⟩:=bs' hh
  refine p' 1 rfl (g' [0] (O0 hx11) rfl rfl rfl rfl rfl rfl (e' rfl (ci' rfl hh (fun hh=>?_) (fun hh=>?_))))
  ·refine s' rfl rfl (E0.bz hC rfl (E0.nf hC rfl (E0.s hC rfl (E0.tokC 2 5 9 1 rfl rfl rfl rfl rfl (E0.tokC 2 6 36 7 rfl rfl rfl rfl rfl (n' (p' 1 rfl ?_)))))))
   rcases bp' hh with ⟨nn,hx12,⟨⟩⟩ | ⟨x12,hx12,hh⟩
   ·exact gn' [0] (T0 hx12) rfl rfl rfl rfl rfl (fun hi=>peW ⟨trivial,trivial⟩ rfl hi)
   exact g' [0] ((T0 hx12).ok) rfl rfl rfl rfl rfl rfl (n' (S' (bk' (fw' (ih1 _ _ _ _ hh) rfl rfl rfl))))
  refine sk' (p' 1 rfl ?_)
  rcases bp' hh with ⟨nn,hx13,⟨⟩⟩ | ⟨x13,hx13,hh⟩
  ·exact gn' [0] (L1 hx13) rfl rfl rfl rfl rfl (fun hi=>peW ⟨trivial,trivial⟩ rfl hi)
  refine g' [0] ((L1 hx13).ok) rfl rfl rfl rfl rfl rfl (E0.bz hC rfl (E0.s hC rfl (n' (re' ?_))))
  obtain rfl:=oi' hh
  exact ⟨_,.agg [.d (.int .i64 4),.d (.int .i64 0),.d (.int .i64 0),.d (.int .i64 0),.d (.str x13.1),.d (.sl (estr.rows [])),.d (.sl (C0.rows []))],[.row (A0.cells x13.2) 99],rfl,(.aggL ⟨.rfl,.rfl,.rfl,.rfl,.rfl,.full,.full,trivial⟩),⟨⟨rfl,.refl _,rfl⟩,trivial⟩,rfl,rfl,rpq rfl rfl⟩
 ·intro g0 g1 ih0 ih1 o0 o2_Names o2_Of res hh
  refine S0.unroll (bk' (p' 1 rfl ?_))
  rcases bp' hh with ⟨nn,hx14,⟨⟩⟩ | ⟨x14,hx14,hh⟩
  ·exact gn' [0] (L1 hx14) rfl rfl rfl rfl rfl (fun hi=>peW ⟨trivial,trivial⟩ rfl hi)
  refine g' [0] ((L1 hx14).ok) rfl rfl rfl rfl rfl rfl (e' rfl (p' 1 rfl ?_))
  rcases bp' hh with ⟨nn,hx15,⟨⟩⟩ | ⟨x15,hx15,hh⟩
  ·exact gn' [0] (T0 hx15) rfl rfl rfl rfl rfl (fun hi=>peW ⟨trivial,trivial⟩ rfl hi)
  refine g' [0] ((T0 hx15).ok) rfl rfl rfl rfl rfl rfl (n' (p' 1 rfl ?_))
  rcases bp' hh with ⟨nn,hx17,⟨⟩⟩ | ⟨x17,hx17,hh⟩
  ·exact gn' [0] (ih0 _ _ hx17) rfl rfl rfl rfl rfl (fun hi=>peW ⟨trivial,trivial⟩ rfl hi)
  obtain ⟨c11,hh⟩:=T9 hh
  obtain ⟨c12,hh⟩:=T9 hh
  obtain ⟨x18,hx18,hh⟩:=bs' hh
  refine g' [0] ((ih0 _ _ hx17).ok) rfl rfl rfl rfl rfl rfl (E0.nf hC rfl (E0.s hC rfl (n' (S' ?_))))
  refine AEx.drawL hC 11 [4,9] [] [[.row (A0.cells x17.2) 99,.row [.d (.int .i64 0),.d (.int .i64 0),.d (.int .i64 0),.d (.int .i64 0),.d (.str []),.full (estr.rows []),.full (C0.rows [])] 36,.row [.d (.int .i64 3),.d (.int .i64 0),.d (.int .i64 0),.d (.int .i64 0),.d (.str []),.osl 3 (estr.rows o2_Names),.osl 4 (C0.rows o2_Of)] 36,.tok 9 1,.tok 36 7,.row (C0.cells x17.1) 36],[.row (A0.cells x17.2) 99,.row [.d (.int .i64 0),.d (.int .i64 0),.d (.int .i64 0),.d (.int .i64 0),.d (.str []),.full (estr.rows []),.full (C0.rows [])] 36,.row [.d (.int .i64 3),.d (.int .i64 0),.d (.int .i64 0),.d (.int .i64 0),.d (.str []),.osl 3 (estr.rows o2_Names),.osl 4 (C0.rows o2_Of)] 36,.dead,.tok 36 7,.row (C0.cells x17.1) 36,.tok 9 1],[.row (A0.cells x17.2) 99,.row [.d (.int .i64 0),.d (.int .i64 0),.d (.int .i64 0),.d (.int .i64 0),.d (.str []),.full (estr.rows []),.full (C0.rows [])] 36,.row [.d (.int .i64 3),.d (.int .i64 0),.d (.int .i64 0),.d (.int .i64 0),.d (.str []),.osl 3 (estr.rows o2_Names),.osl 4 (C0.rows o2_Of)] 36,.dead,.dead,.row (C0.cells x17.1) 36,.tok 9 1,.tok 36 7]] rfl rfl rfl rfl rfl rfl rfl rfl rfl rfl ?_
  refine AS.q hC rfl rfl rfl rfl (AS.q hC rfl rfl rfl rfl (AS.q hC rfl rfl rfl rfl (AS.a rfl (fun H=>AQ.be hC rfl (estr.rows_map [x14.1]).symm (AQ.nil rfl)) rfl rfl (AS.am hC rfl rfl rfl rfl rfl (rs:=estr.rows (o2_Names++[x14.1])) (estr.app o2_Names [x14.1]) (estr.sz o2_Names) (estr.sz [x14.1]) (Kk (estr.len o2_Names) (estr.len [x14.1]) c11) rfl rfl (AS.q hC rfl rfl rfl rfl (AS.q hC rfl rfl rfl rfl ?_))))))
  refine AS.q hC rfl rfl rfl rfl (AS.a rfl (fun H=>AQ.be hC rfl (C0.rows_map [x17.1]).symm (AQ.nil rfl)) rfl rfl (AS.am hC rfl rfl rfl rfl rfl (rs:=C0.rows (o2_Of++[x17.1])) (C0.app o2_Of [x17.1]) (C0.sz o2_Of) (C0.sz [x17.1]) (Kk (C0.len o2_Of) (C0.len [x17.1]) c12) rfl rfl (AS.q hC rfl rfl rfl rfl (AS.nil (E0.s hC rfl (q' rfl (E0.s hC rfl (n' (p' 1 rfl ?_)))))))))
  refine g' [0] (O0 hx18) rfl rfl rfl rfl rfl rfl (e' rfl (ci' rfl hh (fun hh=>?_) (fun hh=>?_)))
  ·refine ex' (p' 1 rfl ?_)
   rcases bp' hh with ⟨nn,hx19,⟨⟩⟩ | ⟨x19,hx19,hh⟩
   ·exact gn' [0] (T0 hx19) rfl rfl rfl rfl rfl (fun hi=>peW ⟨trivial,trivial⟩ rfl hi)
   refine g' [0] ((T0 hx19).ok) rfl rfl rfl rfl rfl rfl (n' (p' 1 rfl (E0.s hC rfl (n' (re' ?_)))))
   obtain rfl:=oi' hh
   exact ⟨_,.agg [.d (.int .i64 3),.d (.int .i64 0),.d (.int .i64 0),.d (.int .i64 0),.d (.str []),.d (.sl (estr.rows (o2_Names++[x14.1]))),.d (.sl (C0.rows (o2_Of++[x17.1])))],[.row (A0.cells x19) 99],rfl,(.aggL ⟨.rfl,.rfl,.rfl,.rfl,.rfl,.osl,.osl,trivial⟩),⟨⟨rfl,.refl _,rfl⟩,trivial⟩,rfl,rfl,rpq rfl rfl⟩
  refine sk' ?_
  refine S0.rj (L:=[(0,.ref 0 0),(2,.ref 1 0),(6,.ref 2 0)]) (H2:=[.row (A0.cells x18.2) 99,.row [.d (.int .i64 0),.d (.int .i64 0),.d (.int .i64 0),.d (.int .i64 0),.d (.str []),.full (estr.rows []),.full (C0.rows [])] 36,.row [.d (.int .i64 3),.d (.int .i64 0),.d (.int .i64 0),.d (.int .i64 0),.d (.str []),.osl 3 (estr.rows (o2_Names++[x14.1])),.osl 4 (C0.rows (o2_Of++[x17.1]))] 36,.tok 9 1,.tok 36 7]) [0,1,2,6,7] ?_ rfl rfl rfl rfl
  exact lw' (ih1 _ _ _ _ hh) rfl rfl rfl
theorem Rg {parserParser res}(hh:T2 parserParser=some res):Bh parserParser res:=(Oo).1 _ _ hh
end Go.Proofs.YtmnhfbekncjnfaaGreatDoor

set_option maxRecDepth 100000
set_option maxHeartbeats 4000000
set_option synthInstance.maxSize 20000
set_option linter.unusedVariables false
namespace Go.Proofs.YtmnhfbekncjnfaaGreatDoor
open Go.Am
def Xa (parserParser:A0)(apiType:C0):Option (Pn (A0×C0)):=
 T2 parserParser>>=fun x1=>match x1 with
 | .pn nn=>
 some (.pn nn)
 | .ok x1=>
 some (.ok (x1.2,x1.1))
theorem Cg {parserParser apiType res}(hh:Xa parserParser apiType=some res):Y1 C 35 [.ref 0 0,.ref 1 0] [.row (A0.cells parserParser) 99,.row [.d (.int .i64 apiType.Kind),.d (.int .i64 apiType.Low),.d (.int .i64 apiType.High),.d (.int .i64 apiType.Size),.d (.str apiType.Name),.full (estr.rows apiType.Names),.full (C0.rows apiType.Of)] 36] (F5 res (fun rr=>[.row (A0.cells rr.1) 99,.row (C0.cells rr.2) 36]) (fun rr=>.tup [])) (T4 res J3 [.dead,.row [.d (.int .i64 apiType.Kind),.d (.int .i64 apiType.Low),.d (.int .i64 apiType.High),.d (.int .i64 apiType.Size),.d (.str apiType.Name),.full (estr.rows apiType.Names),.full (C0.rows apiType.Of)] 36]):=by
 unfold Xa at hh
 refine Y1.intro hC Tryz.func35 rfl rfl rfl (P' 1 rfl ?_)
 rcases bp' hh with ⟨nn,hx1,⟨⟩⟩ | ⟨x1,hx1,hh⟩
 ·exact gn' [0] (Rg hx1) rfl rfl rfl rfl rfl (fun hi=>peW ⟨trivial,⟨rfl,.refl _,rfl⟩,trivial⟩ rfl hi)
 cases hh
 exact g' [0] ((Rg hx1).ok) rfl rfl rfl rfl rfl rfl (E0.s hC rfl (n' (rn' rfl rfl rfl)))
def We (text:Str)(apiType:C0):Option (Int×Int×C0):=
 Kc text>>=fun x1=>
 if (x1.2.2 != 0)=true then
  some (x1.2.1,x1.2.2,apiType)
 else
  Xa (A0.mk x1.1 0 ((text).length:Int)) apiType>>=fun x2=>match x2 with
  | .pn nn=>
  some (nn,6,apiType)
  | .ok x2=>
  if (decide (x2.1.next < ((x2.1.tokens).length:Int)))=true then
   V2 x2.1>>=fun x3=>match x3 with
   | .pn nn=>
   some (nn,6,x2.2)
   | .ok x3=>
   some (0,0,x2.2)
  else
   some (0,0,x2.2)
theorem Tt {text apiType res}(hh:We text apiType=some res):K0 C 28 [.d (.str text),.clo 35 [.ref 0 0]] [.row [.d (.int .i64 apiType.Kind),.d (.int .i64 apiType.Low),.d (.int .i64 apiType.High),.d (.int .i64 apiType.Size),.d (.str apiType.Name),.full (estr.rows apiType.Names),.full (C0.rows apiType.Of)] 36] (Ret [.row (C0.cells res.2.2) 36] (.tup [.d (.int .i64 res.1),.d (.int .i64 res.2.1)])):=by
 unfold We at hh
 obtain ⟨x1,hx1,hh⟩:=bs' hh
 refine K0.introD hC Tryz.func28 rfl rfl rfl (s' rfl rfl (E0.n hC rfl (E0.n hC rfl (n' (p' 1 rfl (c' (Cs hx1) rfl rfl (o' 5 rfl (E0.s hC rfl (E0.s hC rfl (n' (S' (t' rfl (ci' rfl hh (fun hh=>?_) (fun hh=>?_))))))))))))))
 ·refine S' ?_
  refine AEx.drawL hC 3 [2] [] [[.row [.d (.int .i64 apiType.Kind),.d (.int .i64 apiType.Low),.d (.int .i64 apiType.High),.d (.int .i64 apiType.Size),.d (.str apiType.Name),.full (estr.rows apiType.Names),.full (C0.rows apiType.Of)] 36,.row [.d (.int .i64 x1.2.1)] 3,.row [.d (.int .i64 x1.2.2)] 27],[.row [.d (.int .i64 apiType.Kind),.d (.int .i64 apiType.Low),.d (.int .i64 apiType.High),.d (.int .i64 apiType.Size),.d (.str apiType.Name),.full (estr.rows apiType.Names),.full (C0.rows apiType.Of)] 36,.row [.d (.int .i64 x1.2.1)] 3,.row [.d (.int .i64 x1.2.2)] 27]] rfl rfl rfl rfl rfl rfl rfl rfl rfl rfl ?_
  refine AS.q hC rfl rfl rfl rfl (AS.q hC rfl rfl rfl rfl (AS.s hC rfl rfl rfl rfl rfl rfl rfl (AS.nil (E0.s hC rfl (n' (re' ?_))))))
  obtain rfl:=oi' hh
  exact ⟨_,_,[.row (C0.cells apiType) 36],rfl,.rfl,⟨⟨rfl,⟨.rfl,.rfl,.rfl,.rfl,.rfl,.full,.full,trivial⟩,rfl⟩,trivial⟩,rfl,rfl,rfl,rfl⟩
 refine sk' (AEx.dfr hC Lw Kz rfl rfl rfl rfl rfl rfl fun _=>(p' 4 rfl (E0.n hC rfl (e' rfl (p' 2 rfl ?_)))))
 rcases bp' hh with ⟨nn,hx2,hh⟩ | ⟨x2,hx2,hh⟩
 ·obtain rfl:=oi' hh
  exact gn' [3,0] (Cg hx2) rfl rfl rfl rfl rfl (fun hi=>dfk hi rfl rfl rfl (⟨_,_,[.row (C0.cells apiType) 36],rfl,.rfl,⟨⟨rfl,⟨.rfl,.rfl,.rfl,.rfl,.rfl,.full,.full,trivial⟩,rfl⟩,trivial⟩,rfl,rfl,rfl,rfl⟩))
 refine g' [3,0] ((Cg hx2).ok) rfl rfl rfl rfl rfl rfl (n' (S' (S' (AEx.draw hC 10 rfl rfl rfl (O' 8 rfl (AQ.qe hC rfl trivial (F0.lenA _) (E' rfl (n' (ci' rfl hh (fun hh=>?_) (fun hh=>?_))))))))))
 ·refine P' 1 rfl ?_
  rcases bp' hh with ⟨nn,hx3,hh⟩ | ⟨x3,hx3,hh⟩
  ·cases hh
   exact gn' [3] (B3 hx3) rfl rfl rfl rfl rfl (fun hi=>dfk hi rfl rfl rfl (rt' rfl rfl rfl))
  cases hh
  exact g' [3] ((B3 hx3).ok) rfl rfl rfl rfl rfl rfl (n' (s' rfl rfl (E0.s hC rfl (E0.s hC rfl (n' (re' (rt' rfl rfl rfl)))))))
 cases hh
 exact sk' (s' rfl rfl (E0.s hC rfl (E0.s hC rfl (n' (re' (rt' rfl rfl rfl))))))
mutual
def J4 (t:C0)(depth:Int)(syntaxReport:I0):Option I0:=
 W4 depth (I0.mk (IntKind.i64.wrap (syntaxReport.nodes+1)) syntaxReport.depth syntaxReport.badForm syntaxReport.badName syntaxReport.badNumber)>>=fun x1=>
 O1 (bif (decide (t.Kind≥0)) then (decide (t.Kind≤4)) else false) x1>>=fun x2=>
 O1 (bif (t.Kind == 1) then true else (bif (t.Low == 0) then (t.High == 0) else false)) x2>>=fun x3=>
 O1 (bif (t.Kind == 2) then true else (t.Size == 0)) x3>>=fun x4=>
 O1 (bif (t.Kind == 4) then true else (t.Name == [])) x4>>=fun x5=>
 O1 (bif (t.Kind == 3) then true else (((t.Names).length:Int) == 0)) x5>>=fun x6=>
 if (t.Kind == 2)=true then
  O1 (((t.Of).length:Int) == 1) x6>>=fun x7=>
  E6 t.Size 1 32>>=fun x8=>
  O2 x8 x7>>=fun x9=>
  J5 t depth x9
 else
  if (t.Kind == 3)=true then
   O1 (bif (decide (((t.Of).length:Int)≥1)) then (((t.Of).length:Int) == ((t.Names).length:Int)) else false) x6>>=fun x14=>
   O2 (decide (((t.Of).length:Int)≤32)) x14>>=fun x15=>
   J5 t depth x15
  else
   O1 (((t.Of).length:Int) == 0) x6>>=fun x16=>
   J5 t depth x16
 partial_fixpoint
def J5 (t:C0)(depth:Int)(o0:I0):Option I0:=
 if (t.Kind == 1)=true then
  E6 t.Low (-1048576) 1048576>>=fun x10=>
  (if x10=true then E6 t.High t.Low 1048576 else some default)>>=fun x11=>
  O2 (bif x10 then x11 else false) o0>>=fun x12=>
  K5 t depth x12
 else
  K5 t depth o0
 partial_fixpoint
def K5 (t:C0)(depth:Int)(o01:I0):Option I0:=
 if (t.Kind == 4)=true then
  E3 t.Name o01>>=fun x13=>
  E7 t depth x13
 else
  E7 t depth o01
 partial_fixpoint
def E7 (t:C0)(depth:Int)(o02:I0):Option I0:=
 F3 t depth o02 0
 partial_fixpoint
def F3 (t:C0)(depth:Int)(o03:I0)(v147:Int):Option I0:=
 if (decide (v147 < ((t.Names).length:Int)))=true then
  idx t.Names v147>>=fun x17=>
  E3 x17 o03>>=fun x18=>
  F3 t depth x18 (IntKind.i64.wrap (v147+1))
 else
  C4 t depth o03 0
 partial_fixpoint
def C4 (t:C0)(depth:Int)(o04:I0)(v158:Int):Option I0:=
 if (decide (v158 < ((t.Of).length:Int)))=true then
  idx t.Of v158>>=fun x19=>
  J4 x19 (IntKind.i64.wrap (depth+1)) o04>>=fun x20=>
  C4 t depth x20 (IntKind.i64.wrap (v158+1))
 else
  some o04
 partial_fixpoint
end
abbrev Ch (t:C0)(depth:Int)(syntaxReport:I0)(res:I0):Prop:=K0 C 74 [.ref 0 0,.agg (C0.cells t),.d (.int .i64 depth)] [.row (I0.cells syntaxReport) 103] (Ret [.row (I0.cells res) 103] (.tup []))
abbrev Vm (t:C0)(depth:Int)(o0:I0)(res:I0):Prop:=JM C 168 1 Tryz.f74 [1,1,1,1,1,1,1,1,1,1] [(0,.ref 0 0),(2,.d (.int .i64 depth)),(4,.ref 1 0),(6,.d (.bool (t.Kind == 1))),(9,.d (.bool (t.Kind == 4)))] [.row (I0.cells o0) 103,.row (C0.cells t) 36] (Ret [.row (I0.cells res) 103] (.tup []))
abbrev Wm (t:C0)(depth:Int)(o01:I0)(res:I0):Prop:=JM C 168 1 Tryz.f74 [1,1,1,1,1,1,1,1,1,1,1] [(0,.ref 0 0),(2,.d (.int .i64 depth)),(4,.ref 1 0),(9,.d (.bool (t.Kind == 4)))] [.row (I0.cells o01) 103,.row (C0.cells t) 36] (Ret [.row (I0.cells res) 103] (.tup []))
abbrev Xm (t:C0)(depth:Int)(o02:I0)(res:I0):Prop:=JM C 168 1 Tryz.f74 [1,1,1,1,1,1,1,1,1,1,1,1] [(0,.ref 0 0),(2,.d (.int .i64 depth)),(4,.ref 1 0)] [.row (I0.cells o02) 103,.row (C0.cells t) 36] (Ret [.row (I0.cells res) 103] (.tup []))
abbrev Ym (t:C0)(depth:Int)(o03:I0)(v147:Int)(res:I0):Prop:=LM C 168 1 Tryz.f74 [1,1,1,1,1,1,1,1,1,1,1,1,0,1,4] [(0,.ref 0 0),(2,.d (.int .i64 depth)),(4,.ref 1 0),(145,.d (.sl (estr.rows t.Names))),(146,.d (.int .i64 ((t.Names).length:Int))),(147,.d (.int .i64 v147))] [.row (I0.cells o03) 103,.row (C0.cells t) 36] (Ret [.row (I0.cells res) 103] (.tup []))
abbrev Zm (t:C0)(depth:Int)(o04:I0)(v158:Int)(res:I0):Prop:=LM C 168 1 Tryz.f74 [1,1,1,1,1,1,1,1,1,1,1,1,1,1,4] [(0,.ref 0 0),(2,.d (.int .i64 depth)),(156,.d (.sl (C0.rows t.Of))),(157,.d (.int .i64 ((t.Of).length:Int))),(158,.d (.int .i64 v158))] [.row (I0.cells o04) 103] (Ret [.row (I0.cells res) 103] (.tup []))
theorem Qo:(∀ t depth syntaxReport res,J4 t depth syntaxReport=some res→Ch t depth syntaxReport res)∧(∀ t depth o0 res,J5 t depth o0=some res→Vm t depth o0 res)∧(∀ t depth o01 res,K5 t depth o01=some res→Wm t depth o01 res)∧(∀ t depth o02 res,E7 t depth o02=some res→Xm t depth o02 res)∧(∀ t depth o03 v147 res,F3 t depth o03 v147=some res→Ym t depth o03 v147 res)∧(∀ t depth o04 v158 res,C4 t depth o04 v158=some res→Zm t depth o04 v158 res):=by
 refine J4.mutual_partial_correctness _ _ _ _ _ _ ?_ ?_ ?_ ?_ ?_ ?_
 ·intro g1 ih1 t depth syntaxReport res hh
  obtain ⟨x1,hx1,hh⟩:=bs' hh
  obtain ⟨x2,hx2,hh⟩:=bs' hh
  obtain ⟨x3,hx3,hh⟩:=bs' hh
  obtain ⟨x4,hx4,hh⟩:=bs' hh
  obtain ⟨x5,hx5,hh⟩:=bs' hh
  obtain ⟨x6,hx6,hh⟩:=bs' hh
  refine K0.intro hC Tryz.func74 rfl rfl rfl (s' rfl rfl (E0.n hC rfl (n' (p' 7 rfl (E0.s hC rfl (n' (p' 2 rfl (g' [0] (Ag hx1) rfl rfl rfl rfl rfl rfl (n' (sg' 9 rfl (G' 6 rfl (a1' rfl (a1' rfl ?_)))))))))))))
  refine pa' rfl (an' (g' [0] (Z1 hx2) rfl rfl rfl rfl rfl rfl (n' (S' (AEx.draw hC 16 rfl rfl rfl (E' rfl (n' (sg' 12 rfl (G' 4 rfl (a1' rfl (a1' rfl (a1' rfl (a0' rfl ?_)))))))))))))
  refine a1' rfl (a1' rfl (pA' rfl (po' rfl (an' (g' [0] (Z1 hx3) rfl rfl rfl rfl rfl rfl (n' (sg' 7 rfl (G' 4 rfl (a1' rfl (a1' rfl (po' rfl (an' (g' [0] (Z1 hx4) rfl rfl rfl rfl rfl rfl ?_)))))))))))))
  refine n' (sg' 7 rfl (G' 4 rfl (a1' rfl (a1' rfl (po' rfl (an' (g' [0] (Z1 hx5) rfl rfl rfl rfl rfl rfl (n' (sg' 8 rfl (G' 4 rfl (a1' rfl (AG.qe hC rfl (fun hg=>⟨⟨hg,trivial⟩,trivial⟩) (estr.lenA _) (a1' rfl ?_)))))))))))))
  refine po' rfl (an' (g' [0] (Z1 hx6) rfl rfl rfl rfl rfl rfl (n' (S' (bk' (t' rfl (ci' rfl hh (fun hh=>?_) (fun hh=>?_))))))))
  ·obtain ⟨x7,hx7,hh⟩:=bs' hh
   obtain ⟨x8,hx8,hh⟩:=bs' hh
   obtain ⟨x9,hx9,hh⟩:=bs' hh
   exact p' 3 rfl (qe' rfl trivial (C0.lenA _) (q' rfl (g' [0] (Z1 hx7) rfl rfl rfl rfl rfl rfl (n' (P' 3 rfl (c' (Zc hx8) rfl rfl (g' [0] (P7 hx9) rfl rfl rfl rfl rfl rfl (n' (ew' (ih1 _ _ _ _ hh) rfl rfl rfl)))))))))
  refine t' rfl (ci' rfl hh (fun hh=>?_) (fun hh=>?_))
  ·obtain ⟨x14,hx14,hh⟩:=bs' hh
   obtain ⟨x15,hx15,hh⟩:=bs' hh
   refine sg' 14 rfl (G' 3 rfl (AG.qe hC rfl (fun hg=>⟨trivial,trivial⟩) (C0.lenA _) (G' 3 rfl (a1' rfl (AG.qe hC rfl (fun hg=>⟨⟨hg,trivial⟩,trivial⟩) (C0.lenA _) (a0' rfl (a1' rfl (AG.qe hC rfl (fun hg=>⟨⟨hg,trivial⟩,trivial⟩) (estr.lenA _) (a2' rfl (pa' rfl (an' (g' [0] (Z1 hx14) rfl rfl rfl rfl rfl rfl (n' ?_)))))))))))))
   exact P' 3 rfl (qe' rfl trivial (C0.lenA _) (q' rfl (g' [0] (P7 hx15) rfl rfl rfl rfl rfl rfl (n' (ew' (ih1 _ _ _ _ hh) rfl rfl rfl)))))
  obtain ⟨x16,hx16,hh⟩:=bs' hh
  exact P' 3 rfl (qe' rfl trivial (C0.lenA _) (q' rfl (g' [0] (Z1 hx16) rfl rfl rfl rfl rfl rfl (n' (ew' (ih1 _ _ _ _ hh) rfl rfl rfl)))))
 ·intro g2 ih2 t depth o0 res hh
  refine S' (t' rfl (ci' rfl hh (fun hh=>?_) (fun hh=>?_)))
  ·obtain ⟨x10,hx10,hh⟩:=bs' hh
   obtain ⟨x11,hx11,hh⟩:=bs' hh
   obtain ⟨x12,hx12,hh⟩:=bs' hh
   exact AEx.regionG 11 rfl (G' 3 rfl (AG.c rfl rfl (fun _=>trivial) (fun _=>Zc hx10) (G' 2 rfl (a1' rfl (a0' rfl (a1' rfl (AG.c rfl rfl (fun hg=>⟨hg,hg,trivial⟩) (fun hw=>Zc (F2 hw hx11)) (pa' rfl (an' (g' [0] (P7 hx12) rfl rfl rfl rfl rfl rfl (n' (ew' (ih2 _ _ _ _ hh) rfl rfl rfl))))))))))))
  exact sk' (ew' (ih2 _ _ _ _ hh) rfl rfl rfl)
 ·intro g3 ih3 t depth o01 res hh
  refine S' (t' rfl (ci' rfl hh (fun hh=>?_) (fun hh=>?_)))
  ·obtain ⟨x13,hx13,hh⟩:=bs' hh
   exact P' 3 rfl (g' [0] (Zb hx13) rfl rfl rfl rfl rfl rfl (n' (ew' (ih3 _ _ _ _ hh) rfl rfl rfl)))
  exact sk' (ew' (ih3 _ _ _ _ hh) rfl rfl rfl)
 ·intro g4 ih4 t depth o02 res hh
  exact S' (p' 2 rfl (qe' rfl trivial (estr.lenA _) (e' rfl (bk' (fw' (ih4 _ _ _ _ _ hh) rfl rfl rfl)))))
 ·intro g4 g5 ih4 ih5 t depth o03 v147 res hh
  refine S0.unroll (t' rfl (S' (ci' rfl hh (fun hh=>?_) (fun hh=>?_))))
  ·obtain ⟨x17,hx17,hh⟩:=bs' hh
   obtain ⟨x18,hx18,hh⟩:=bs' hh
   exact sk' (S' (bk' (s' rfl rfl (i' rfl (J1 hx17) (estr.idx hx17) rfl (e' rfl (P' 2 rfl (g' [0] (Zb hx18) rfl rfl rfl rfl rfl rfl (n' (T' rfl (lw' (ih4 _ _ _ _ _ hh) rfl rfl rfl))))))))))
  exact ex' (p' 2 rfl (qe' rfl trivial (C0.lenA _) (e' rfl (bk' (fw' (ih5 _ _ _ _ _ hh) rfl rfl rfl)))))
 ·intro g0 g5 ih0 ih5 t depth o04 v158 res hh
  refine S0.unroll (t' rfl (S' (ci' rfl hh (fun hh=>?_) (fun hh=>?_))))
  ·obtain ⟨x19,hx19,hh⟩:=bs' hh
   obtain ⟨x20,hx20,hh⟩:=bs' hh
   exact sk' (S' (bk' (s' rfl rfl (i' rfl (J1 hx19) (C0.idx hx19) rfl (q' rfl (E0.nf hC rfl (E0.s hC rfl (n' (P' 4 rfl (g' [0] (ih0 _ _ _ _ hx20) rfl rfl rfl rfl rfl rfl (n' (T' rfl (lw' (ih5 _ _ _ _ _ hh) rfl rfl rfl)))))))))))))
  cases hh
  exact ex' (rn' rfl rfl rfl)
theorem Up {t depth syntaxReport res}(hh:J4 t depth syntaxReport=some res):Ch t depth syntaxReport res:=(Qo).1 _ _ _ _ hh
def Ga (t:C0):Option Int:=
 J4 t 1 (I0.mk 0 0 false false false)>>=fun x1=>
 A4 x1>>=fun x2=>
 some x2
theorem Wq {t res}(hh:Ga t=some res):K0 C 37 [.agg (C0.cells t)] [] (Ret [] (.d (.int .i64 res))):=by
 unfold Ga at hh
 obtain ⟨x1,hx1,hh⟩:=bs' hh
 obtain ⟨x2,hx2,hh⟩:=bs' hh
 cases hh
 exact K0.intro hC Tryz.func37 rfl rfl rfl (s' rfl rfl (E0.n hC rfl (e' rfl (p' 1 rfl (E0.n hC rfl (e' rfl (p' 2 rfl (g' [1] (Up hx1) rfl rfl rfl rfl rfl rfl (n' (p' 1 rfl (g' [1] (Bg hx2) rfl rfl rfl rfl rfl rfl (e' rfl (re' (rt' rfl rfl rfl))))))))))))))
def Ha (text:Str):Option (C0×Int×Int):=
 We text (C0.mk 0 0 0 0 [] [] [])>>=fun x1=>
 if (x1.2.1 != 0)=true then
  some ((C0.mk 0 0 0 0 [] [] []),x1.1,x1.2.1)
 else
  Ga x1.2.2>>=fun x2=>
  if (x2 != 0)=true then
   some ((C0.mk 0 0 0 0 [] [] []),0,x2)
  else
   some (x1.2.2,0,0)
theorem Xq {text res}(hh:Ha text=some res):K0 C 14 [.d (.str text)] [] (Ret [] (.tup [.agg (C0.cells res.1),.d (.int .i64 res.2.1),.d (.int .i64 res.2.2)])):=by
 unfold Ha at hh
 obtain ⟨x1,hx1,hh⟩:=bs' hh
 refine K0.intro hC Tryz.func14 rfl rfl rfl (s' rfl rfl (E0.nf hC rfl (e' rfl (s' rfl rfl (E0.nf hC rfl (n' (p' 2 rfl (g' [1] (Tt hx1) rfl rfl rfl rfl rfl rfl (e' rfl (S' (t' rfl (ci' rfl hh (fun hh=>?_) (fun hh=>?_)))))))))))))
 ·cases hh
  exact p' 3 rfl (E0.s hC rfl (e' rfl (re' (rt' rfl rfl rfl))))
 obtain ⟨x2,hx2,hh⟩:=bs' hh
 refine sk' (S' (p' 1 rfl (c' (Wq hx2) rfl rfl (e' rfl (t' rfl (ci' rfl hh (fun hh=>?_) (fun hh=>?_)))))))
 ·cases hh
  exact p' 2 rfl (E0.s hC rfl (e' rfl (re' (rt' rfl rfl rfl))))
 cases hh
 exact sk' (p' 1 rfl (E0.s hC rfl (e' rfl (re' (rt' rfl rfl rfl)))))
def Q3 (l:List F0)(atV:Int):Option (Int×Int×Bool):=
 Y0 l atV [45]>>=fun x1=>
 if x1=true then
  Fa l (IntKind.i64.wrap (atV+1))>>=fun x2=>
  some ((IntKind.i64.wrap (0 - x2.1)),x2.2.1,x2.2.2)
 else
  Fa l atV>>=fun x3=>
  some (x3.1,x3.2.1,x3.2.2)
theorem Sf {l atV res}(hh:Q3 l atV=some res):K0 C 76 [.d (.sl (F0.rows l)),.d (.int .i64 atV)] [] (Ret [] (.tup [.d (.int .i64 res.1),.d (.int .i64 res.2.1),.d (.bool res.2.2)])):=by
 unfold Q3 at hh
 obtain ⟨x1,hx1,hh⟩:=bs' hh
 refine K0.intro hC Tryz.func76 rfl rfl rfl (t' rfl (S' (p' 2 rfl (c' (G4 hx1) rfl rfl (n' (ci' rfl hh (fun hh=>?_) (fun hh=>?_)))))))
 ·obtain ⟨x2,hx2,hh⟩:=bs' hh
  cases hh
  exact p' 3 rfl (c' (Jm hx2) rfl rfl (e' rfl (t' rfl (re' (rt' rfl rfl rfl)))))
 obtain ⟨x3,hx3,hh⟩:=bs' hh
 cases hh
 exact sk' (p' 2 rfl (c' (Jm hx3) rfl rfl (e' rfl (re' (rt' rfl rfl rfl)))))
def Xe (l:List F0)(atV:Int):Option (C0×Int×Bool):=
 Y0 l atV [91]>>=fun x1=>
 if (!x1)=true then
  some ((C0.mk 0 0 0 0 [] [] []),atV,false)
 else
  Q3 l (IntKind.i64.wrap (atV+1))>>=fun x2=>
  (if (!(!x2.2.2))=true then Y0 l x2.2.1 [46,46] else some default)>>=fun x3=>
  if (bif (!x2.2.2) then true else (!x3))=true then
   some ((C0.mk 0 0 0 0 [] [] []),x2.2.1,false)
  else
   Q3 l (IntKind.i64.wrap (x2.2.1+1))>>=fun x4=>
   (if (!(!x4.2.2))=true then Y0 l x4.2.1 [93] else some default)>>=fun x5=>
   if (bif (!x4.2.2) then true else (!x5))=true then
    some ((C0.mk 0 0 0 0 [] [] []),x4.2.1,false)
   else
    some ((C0.mk 1 x2.1 x4.1 0 [] [] []),(IntKind.i64.wrap (x4.2.1+1)),true)
theorem Ut {l atV res}(hh:Xe l atV=some res):K0 C 75 [.d (.sl (F0.rows l)),.d (.int .i64 atV)] [] (Ret [] (.tup [.agg (C0.cells res.1),.d (.int .i64 res.2.1),.d (.bool res.2.2)])):=by
 unfold Xe at hh
 obtain ⟨x1,hx1,hh⟩:=bs' hh
 refine K0.intro hC Tryz.func75 rfl rfl rfl (s' rfl rfl (E0.nf hC rfl (e' rfl (S' (p' 2 rfl (c' (G4 hx1) rfl rfl (e' rfl (ci' rfl hh (fun hh=>?_) (fun hh=>?_)))))))))
 ·cases hh
  exact p' 2 rfl (E0.s hC rfl (e' rfl (re' (rt' rfl rfl rfl))))
 obtain ⟨x2,hx2,hh⟩:=bs' hh
 obtain ⟨x3,hx3,hh⟩:=bs' hh
 refine sk' (p' 3 rfl (c' (Sf hx2) rfl rfl (e' rfl (S' (sg' 8 rfl (G' 5 rfl (AG.c rfl rfl (fun hg=>⟨hg,hg,trivial⟩) (fun hw=>G4 (F2 hw hx3)) (a1' rfl (po' rfl (an' (n' (ci' rfl hh (fun hh=>?_) (fun hh=>?_)))))))))))))
 ·cases hh
  exact p' 2 rfl (E0.s hC rfl (e' rfl (re' (rt' rfl rfl rfl))))
 obtain ⟨x4,hx4,hh⟩:=bs' hh
 obtain ⟨x5,hx5,hh⟩:=bs' hh
 refine sk' (p' 3 rfl (c' (Sf hx4) rfl rfl (e' rfl (S' (sg' 8 rfl (G' 5 rfl (AG.c rfl rfl (fun hg=>⟨hg,hg,trivial⟩) (fun hw=>G4 (F2 hw hx5)) (a1' rfl (po' rfl (an' (n' (ci' rfl hh (fun hh=>?_) (fun hh=>?_)))))))))))))
 ·cases hh
  exact p' 2 rfl (E0.s hC rfl (e' rfl (re' (rt' rfl rfl rfl))))
 cases hh
 exact sk' (p' 5 rfl (E0.s hC rfl (e' rfl (re' (rt' rfl rfl rfl)))))
mutual
def U8 (l:List F0)(atV:Int):Option (C0×Int×Bool):=
 Y0 l atV [98,111,111,108]>>=fun x1=>
 if x1=true then
  some ((C0.mk 0 0 0 0 [] [] []),(IntKind.i64.wrap (atV+1)),true)
 else
  Y0 l atV [105,110,116]>>=fun x2=>
  if x2=true then
   Xe l (IntKind.i64.wrap (atV+1))>>=fun x3=>
   some (x3.1,x3.2.1,x3.2.2)
  else
   Y0 l atV [97,114,114,97,121]>>=fun x4=>
   if x4=true then
    Q3 l (IntKind.i64.wrap (atV+1))>>=fun x5=>
    (if (!(!x5.2.2))=true then Y0 l x5.2.1 [111,102] else some default)>>=fun x6=>
    if (bif (!x5.2.2) then true else (!x6))=true then
     some ((C0.mk 0 0 0 0 [] [] []),x5.2.1,false)
    else
     U8 l (IntKind.i64.wrap (x5.2.1+1))>>=fun x10=>
     some ((C0.mk 2 0 0 x5.1 [] [] [x10.1]),x10.2.1,x10.2.2)
   else
    Y0 l atV [114,101,99,111,114,100]>>=fun x7=>
    if x7=true then
     Dl l (IntKind.i64.wrap (atV+1))>>=fun x8=>
     some (x8.1,x8.2.1,x8.2.2)
    else
     F6 l atV>>=fun x9=>
     some ((C0.mk 4 0 0 0 x9.1 [] []),x9.2.1,x9.2.2)
 partial_fixpoint
def Dl (l:List F0)(atV:Int):Option (C0×Int×Bool):=
 Y0 l atV [123]>>=fun x1=>
 if (!x1)=true then
  some ((C0.mk 3 0 0 0 [] [] []),atV,false)
 else
  A9 l [] [] atV
 partial_fixpoint
def A9 (l:List F0)(o1_Names:List Str)(o1_Of:List C0)(atV1:Int):Option (C0×Int×Bool):=
 An l (IntKind.i64.wrap (atV1+1))>>=fun x2=>
 if (!x2.2.2)=true then
  some ((C0.mk 3 0 0 0 [] o1_Names o1_Of),x2.2.1,false)
 else
  if (decide ((o1_Names.length+1) * 17≤140737488355328))=true then
   if (decide ((o1_Of.length+1) * 97≤140737488355328))=true then
    Y0 l x2.2.1 [125]>>=fun x3=>
    if x3=true then
     some ((C0.mk 3 0 0 0 [] (o1_Names++[x2.1.Name]) (o1_Of++[x2.1.TypeV])),(IntKind.i64.wrap (x2.2.1+1)),true)
    else
     Y0 l x2.2.1 [44]>>=fun x4=>
     if (!x4)=true then
      some ((C0.mk 3 0 0 0 [] (o1_Names++[x2.1.Name]) (o1_Of++[x2.1.TypeV])),x2.2.1,false)
     else
      A9 l (o1_Names++[x2.1.Name]) (o1_Of++[x2.1.TypeV]) x2.2.1
   else none
  else none
 partial_fixpoint
def An (l:List F0)(atV:Int):Option (Y2×Int×Bool):=
 F6 l atV>>=fun x1=>
 (if (!(!x1.2.2))=true then Y0 l x1.2.1 [58] else some default)>>=fun x2=>
 if (bif (!x1.2.2) then true else (!x2))=true then
  some ((Y2.mk 0 [] (C0.mk 0 0 0 0 [] [] []) 0 (B0.mk 0 0 [] []) [] [] []),x1.2.1,false)
 else
  U8 l (IntKind.i64.wrap (x1.2.1+1))>>=fun x3=>
  some ((Y2.mk 4 x1.1 x3.1 0 (B0.mk 0 0 [] []) [] [] []),x3.2.1,x3.2.2)
 partial_fixpoint
end
abbrev Gu (l:List F0)(atV:Int)(res:C0×Int×Bool):Prop:=K0 C 38 [.d (.sl (F0.rows l)),.d (.int .i64 atV)] [] (Ret [] (.tup [.agg (C0.cells res.1),.d (.int .i64 res.2.1),.d (.bool res.2.2)]))
abbrev Jy (l:List F0)(atV:Int)(res:C0×Int×Bool):Prop:=K0 C 77 [.d (.sl (F0.rows l)),.d (.int .i64 atV)] [] (Ret [] (.tup [.agg (C0.cells res.1),.d (.int .i64 res.2.1),.d (.bool res.2.2)]))
abbrev Vt (l:List F0)(o1_Names:List Str)(o1_Of:List C0)(atV1:Int)(res:C0×Int×Bool):Prop:=LM C 57 0 Tryz.f77 [1,1,1,4] [(0,.d (.sl (F0.rows l))),(1,.d (.int .i64 atV1)),(4,.ref 0 0),(7,.ref 1 0)] [.row [.d (.int .i64 0),.d (.int .i64 0),.d (.int .i64 0),.d (.int .i64 0),.d (.str []),.full (estr.rows []),.full (C0.rows [])] 36,.row [.d (.int .i64 3),.d (.int .i64 0),.d (.int .i64 0),.d (.int .i64 0),.d (.str []),.osl 2 (estr.rows o1_Names),.osl 3 (C0.rows o1_Of)] 36,.tok 9 1,.tok 36 7] (Ret [] (.tup [.agg (C0.cells res.1),.d (.int .i64 res.2.1),.d (.bool res.2.2)]))
abbrev Zz (l:List F0)(atV:Int)(res:Y2×Int×Bool):Prop:=K0 C 134 [.d (.sl (F0.rows l)),.d (.int .i64 atV)] [] (Ret [] (.tup [.agg (Y2.cells res.1),.d (.int .i64 res.2.1),.d (.bool res.2.2)]))
theorem A10 (l:List F0):(∀ atV res,U8 l atV=some res→Gu l atV res)∧(∀ atV res,Dl l atV=some res→Jy l atV res)∧(∀ o1_Names o1_Of atV1 res,A9 l o1_Names o1_Of atV1=some res→Vt l o1_Names o1_Of atV1 res)∧(∀ atV res,An l atV=some res→Zz l atV res):=by
 refine U8.mutual_partial_correctness l _ _ _ _ ?_ ?_ ?_ ?_
 ·intro g0 g1 ih0 ih1 atV res hh
  obtain ⟨x1,hx1,hh⟩:=bs' hh
  refine K0.intro hC Tryz.func38 rfl rfl rfl (s' rfl rfl (E0.nf hC rfl (e' rfl (S' (p' 2 rfl (c' (G4 hx1) rfl rfl (n' (ci' rfl hh (fun hh=>?_) (fun hh=>?_)))))))))
  ·cases hh
   exact p' 3 rfl (E0.s hC rfl (e' rfl (re' (rt' rfl rfl rfl))))
  obtain ⟨x2,hx2,hh⟩:=bs' hh
  refine sk' (S' (p' 2 rfl (c' (G4 hx2) rfl rfl (n' (ci' rfl hh (fun hh=>?_) (fun hh=>?_))))))
  ·obtain ⟨x3,hx3,hh⟩:=bs' hh
   cases hh
   exact p' 3 rfl (c' (Ut hx3) rfl rfl (o' 3 rfl (E0.s hC rfl (e' rfl (re' (rt' rfl rfl rfl))))))
  obtain ⟨x4,hx4,hh⟩:=bs' hh
  refine sk' (S' (p' 2 rfl (c' (G4 hx4) rfl rfl (n' (ci' rfl hh (fun hh=>?_) (fun hh=>?_))))))
  ·obtain ⟨x5,hx5,hh⟩:=bs' hh
   obtain ⟨x6,hx6,hh⟩:=bs' hh
   refine p' 3 rfl (c' (Sf hx5) rfl rfl (e' rfl (S' (sg' 8 rfl (G' 5 rfl (AG.c rfl rfl (fun hg=>⟨hg,hg,trivial⟩) (fun hw=>G4 (F2 hw hx6)) (a1' rfl (po' rfl (an' (n' (ci' rfl hh (fun hh=>?_) (fun hh=>?_))))))))))))
   ·cases hh
    exact p' 2 rfl (E0.s hC rfl (e' rfl (re' (rt' rfl rfl rfl))))
   obtain ⟨x10,hx10,hh⟩:=bs' hh
   refine sk' (p' 3 rfl (c' (ih0 _ _ hx10) rfl rfl (o' 4 rfl (E0.nf hC rfl (E0.s hC rfl (e' rfl (p' 2 rfl (E0.be hC rfl (C0.rows_map [x10.1]).symm (o' 3 rfl (E0.s hC rfl (e' rfl (re' ?_))))))))))))
   obtain rfl:=oi' hh
   exact ⟨_,.tup [.agg [.d (.int .i64 2),.d (.int .i64 0),.d (.int .i64 0),.d (.int .i64 x5.1),.d (.str []),.d (.sl (estr.rows [])),.d (.sl (C0.rows [x10.1]))],.d (.int .i64 x10.2.1),.d (.bool x10.2.2)],[],rfl,(.tupL ⟨(.aggL ⟨.rfl,.rfl,.rfl,.rfl,.rfl,.rfl,.full,trivial⟩),.rfl,.rfl,trivial⟩),trivial,rfl,rfl,rfl,rfl⟩
  obtain ⟨x7,hx7,hh⟩:=bs' hh
  refine sk' (S' (p' 2 rfl (c' (G4 hx7) rfl rfl (n' (ci' rfl hh (fun hh=>?_) (fun hh=>?_))))))
  ·obtain ⟨x8,hx8,hh⟩:=bs' hh
   cases hh
   exact p' 3 rfl (c' (ih1 _ _ hx8) rfl rfl (o' 3 rfl (E0.s hC rfl (e' rfl (re' (rt' rfl rfl rfl))))))
  obtain ⟨x9,hx9,hh⟩:=bs' hh
  cases hh
  exact sk' (p' 2 rfl (c' (Hq hx9) rfl rfl (e' rfl (p' 4 rfl (E0.s hC rfl (e' rfl (re' (rt' rfl rfl rfl))))))))
 ·intro g2 ih2 atV res hh
  obtain ⟨x1,hx1,hh⟩:=bs' hh
  refine K0.intro hC Tryz.func77 rfl rfl rfl (s' rfl rfl (E0.nf hC rfl (e' rfl (s' rfl rfl (E0.bz hC rfl (E0.nf hC rfl (E0.s hC rfl (E0.tokC 1 5 9 1 rfl rfl rfl rfl rfl (E0.tokC 1 6 36 7 rfl rfl rfl rfl rfl (n' (S' (p' 2 rfl (c' (G4 hx1) rfl rfl ?_)))))))))))))
  refine e' rfl (ci' rfl hh (fun hh=>?_) (fun hh=>?_))
  ·refine p' 2 rfl (E0.s hC rfl (e' rfl (re' ?_)))
   obtain rfl:=oi' hh
   exact ⟨_,.tup [.agg [.d (.int .i64 3),.d (.int .i64 0),.d (.int .i64 0),.d (.int .i64 0),.d (.str []),.d (.sl (estr.rows [])),.d (.sl (C0.rows []))],.d (.int .i64 atV),.d (.bool false)],[],rfl,(.tupL ⟨(.aggL ⟨.rfl,.rfl,.rfl,.rfl,.rfl,.osl,.osl,trivial⟩),.rfl,.rfl,trivial⟩),trivial,rfl,rfl,rfl,rfl⟩
  exact sk' (bk' (fw' (ih2 _ _ _ _ hh) rfl rfl rfl))
 ·intro g2 g3 ih2 ih3 o1_Names o1_Of atV1 res hh
  obtain ⟨x2,hx2,hh⟩:=bs' hh
  refine S0.unroll (bk' (p' 3 rfl (c' (ih3 _ _ hx2) rfl rfl (o' 4 rfl (E0.nf hC rfl (E0.s hC rfl (e' rfl (S' (t' rfl (ci' rfl hh (fun hh=>?_) (fun hh=>?_)))))))))))
  ·refine p' 2 rfl (E0.s hC rfl (e' rfl (re' ?_)))
   obtain rfl:=oi' hh
   exact ⟨_,.tup [.agg [.d (.int .i64 3),.d (.int .i64 0),.d (.int .i64 0),.d (.int .i64 0),.d (.str []),.d (.sl (estr.rows o1_Names)),.d (.sl (C0.rows o1_Of))],.d (.int .i64 x2.2.1),.d (.bool false)],[],rfl,(.tupL ⟨(.aggL ⟨.rfl,.rfl,.rfl,.rfl,.rfl,.osl,.osl,trivial⟩),.rfl,.rfl,trivial⟩),trivial,rfl,rfl,rfl,rfl⟩
  obtain ⟨c13,hh⟩:=T9 hh
  obtain ⟨c14,hh⟩:=T9 hh
  obtain ⟨x3,hx3,hh⟩:=bs' hh
  refine sk' (p' 4 rfl (E0.be hC rfl (estr.rows_map [x2.1.Name]).symm (E0.ap hC rfl (rs:=estr.rows (o1_Names++[x2.1.Name])) (estr.app o1_Names [x2.1.Name]) (estr.sz o1_Names) (estr.sz [x2.1.Name]) (Kk (estr.len o1_Names) (estr.len [x2.1.Name]) c13) (q' rfl (E0.s hC rfl (n' (p' 4 rfl (E0.be hC rfl (C0.rows_map [x2.1.TypeV]).symm ?_))))))))
  refine E0.ap hC rfl (rs:=C0.rows (o1_Of++[x2.1.TypeV])) (C0.app o1_Of [x2.1.TypeV]) (C0.sz o1_Of) (C0.sz [x2.1.TypeV]) (Kk (C0.len o1_Of) (C0.len [x2.1.TypeV]) c14) (q' rfl (E0.s hC rfl (n' (t' rfl (S' (p' 2 rfl (c' (G4 hx3) rfl rfl (n' (ci' rfl hh (fun hh=>?_) (fun hh=>?_))))))))))
  ·refine p' 3 rfl (E0.s hC rfl (e' rfl (re' ?_)))
   obtain rfl:=oi' hh
   exact ⟨_,.tup [.agg [.d (.int .i64 3),.d (.int .i64 0),.d (.int .i64 0),.d (.int .i64 0),.d (.str []),.d (.sl (estr.rows (o1_Names++[x2.1.Name]))),.d (.sl (C0.rows (o1_Of++[x2.1.TypeV])))],.d (.int .i64 (IntKind.i64.wrap (x2.2.1+1))),.d (.bool true)],[],rfl,(.tupL ⟨(.aggL ⟨.rfl,.rfl,.rfl,.rfl,.rfl,.osl,.osl,trivial⟩),.rfl,.rfl,trivial⟩),trivial,rfl,rfl,rfl,rfl⟩
  obtain ⟨x4,hx4,hh⟩:=bs' hh
  refine sk' (p' 2 rfl (c' (G4 hx4) rfl rfl (e' rfl (ci' rfl hh (fun hh=>?_) (fun hh=>?_)))))
  ·refine p' 2 rfl (E0.s hC rfl (e' rfl (re' ?_)))
   obtain rfl:=oi' hh
   exact ⟨_,.tup [.agg [.d (.int .i64 3),.d (.int .i64 0),.d (.int .i64 0),.d (.int .i64 0),.d (.str []),.d (.sl (estr.rows (o1_Names++[x2.1.Name]))),.d (.sl (C0.rows (o1_Of++[x2.1.TypeV])))],.d (.int .i64 x2.2.1),.d (.bool false)],[],rfl,(.tupL ⟨(.aggL ⟨.rfl,.rfl,.rfl,.rfl,.rfl,.osl,.osl,trivial⟩),.rfl,.rfl,trivial⟩),trivial,rfl,rfl,rfl,rfl⟩
  exact sk' (lw' (ih2 _ _ _ _ hh) rfl rfl rfl)
 ·intro g0 ih0 atV res hh
  obtain ⟨x1,hx1,hh⟩:=bs' hh
  obtain ⟨x2,hx2,hh⟩:=bs' hh
  refine K0.intro hC Tryz.func134 rfl rfl rfl (s' rfl rfl (E0.nf hC rfl (e' rfl (p' 2 rfl (c' (Hq hx1) rfl rfl (e' rfl (S' (sg' 8 rfl (G' 5 rfl (AG.c rfl rfl (fun hg=>⟨hg,hg,trivial⟩) (fun hw=>G4 (F2 hw hx2)) (a1' rfl (po' rfl (an' ?_)))))))))))))
  refine n' (ci' rfl hh (fun hh=>?_) (fun hh=>?_))
  ·cases hh
   exact p' 2 rfl (E0.s hC rfl (e' rfl (re' (rt' rfl rfl rfl))))
  obtain ⟨x3,hx3,hh⟩:=bs' hh
  cases hh
  exact sk' (p' 3 rfl (c' (ih0 _ _ hx3) rfl rfl (o' 4 rfl (E0.nf hC rfl (E0.s hC rfl (e' rfl (p' 5 rfl (E0.s hC rfl (e' rfl (re' (rt' rfl rfl rfl)))))))))))
theorem T11 {l atV res}(hh:U8 l atV=some res):Gu l atV res:=(A10 l).1 _ _ hh
mutual
def L4 (a:C0)(b:C0):Option Bool:=
 if (bif (bif (bif (bif (bif (bif (a.Kind != b.Kind) then true else (a.Low != b.Low)) then true else (a.High != b.High)) then true else (a.Size != b.Size)) then true else (!(a.Name == b.Name))) then true else (((a.Names).length:Int) != ((b.Names).length:Int))) then true else (((a.Of).length:Int) != ((b.Of).length:Int)))=true then
  some false
 else
  R6 a b 0
 partial_fixpoint
def R6 (a:C0)(b:C0)(i:Int):Option Bool:=
 if (decide (i < ((a.Names).length:Int)))=true then
  idx a.Names i>>=fun x1=>
  idx b.Names i>>=fun x2=>
  if (!(x1 == x2))=true then
   some false
  else
   R6 a b (IntKind.i64.wrap (i+1))
 else
  Y4 a b 0
 partial_fixpoint
def Y4 (a:C0)(b:C0)(i1:Int):Option Bool:=
 if (decide (i1 < ((a.Of).length:Int)))=true then
  idx a.Of i1>>=fun x3=>
  idx b.Of i1>>=fun x4=>
  L4 x3 x4>>=fun x5=>
  if (!x5)=true then
   some false
  else
   Y4 a b (IntKind.i64.wrap (i1+1))
 else
  some true
 partial_fixpoint
end
abbrev Sj (a:C0)(b:C0)(res:Bool):Prop:=K0 C 16 [.agg (C0.cells a),.agg (C0.cells b)] [] (Ret [] (.d (.bool res)))
abbrev Vp (a:C0)(b:C0)(i:Int)(res:Bool):Prop:=LM C 95 0 Tryz.f16 [1,1,0,1,4] [(2,.ref 0 0),(3,.ref 1 0),(5,.d (.int .i64 i))] [.row (C0.cells a) 36,.row (C0.cells b) 36] (Ret [] (.d (.bool res)))
abbrev Wp (a:C0)(b:C0)(i1:Int)(res:Bool):Prop:=LM C 95 0 Tryz.f16 [1,1,1,0,1,4] [(2,.ref 0 0),(3,.ref 1 0),(6,.d (.int .i64 i1))] [.row (C0.cells a) 36,.row (C0.cells b) 36] (Ret [] (.d (.bool res)))
theorem Yq:(∀ a b res,L4 a b=some res→Sj a b res)∧(∀ a b i res,R6 a b i=some res→Vp a b i res)∧(∀ a b i1 res,Y4 a b i1=some res→Wp a b i1 res):=by
 refine L4.mutual_partial_correctness _ _ _ ?_ ?_ ?_
 ·intro g1 ih1 a b res hh
  refine K0.intro hC Tryz.func16 rfl rfl rfl (s' rfl rfl (E0.n hC rfl (E0.n hC rfl (e' rfl (S' (sg' 51 rfl (G' 7 rfl (a1' rfl (a0' rfl (a1' rfl (a2' rfl (po' rfl (G' 2 rfl ?_)))))))))))))
  refine a1' rfl (a0' rfl (a1' rfl (a2' rfl (po' rfl (G' 2 rfl (a1' rfl (a0' rfl (a1' rfl (a2' rfl (po' rfl (G' 2 rfl (a1' rfl (a0' rfl ?_)))))))))))))
  refine a1' rfl (a2' rfl (po' rfl (G' 2 rfl (a1' rfl (AG.qe hC rfl (fun hg=>⟨⟨hg,trivial⟩,trivial⟩) (estr.lenA _) (a0' rfl (a1' rfl (AG.qe hC rfl (fun hg=>⟨⟨hg,trivial⟩,trivial⟩) (estr.lenA _) (a2' rfl (po' rfl (G' 2 rfl (a1' rfl (AG.qe hC rfl (fun hg=>⟨⟨hg,trivial⟩,trivial⟩) (C0.lenA _) ?_)))))))))))))
  refine a0' rfl (a1' rfl (AG.qe hC rfl (fun hg=>⟨⟨hg,trivial⟩,trivial⟩) (C0.lenA _) (a2' rfl (po' rfl (an' (n' (ci' rfl hh (fun hh=>?_) (fun hh=>?_))))))))
  ·cases hh
   exact t' rfl (re' (rt' rfl rfl rfl))
  exact sk' (S' (t' rfl (bk' (fw' (ih1 _ _ _ _ hh) rfl rfl rfl))))
 ·intro g1 g2 ih1 ih2 a b i res hh
  refine S0.unroll (S' (p' 3 rfl (qe' rfl trivial (estr.lenA _) (e' rfl (ci' rfl hh (fun hh=>?_) (fun hh=>?_))))))
  ·obtain ⟨x1,hx1,hh⟩:=bs' hh
   obtain ⟨x2,hx2,hh⟩:=bs' hh
   refine sk' (S' (bk' (S' (AEx.draw hC 11 rfl rfl rfl (O' 3 rfl (AQ.i hC rfl (J1 hx1) (estr.idx hx1) rfl (O' 4 rfl (AQ.i hC rfl (J1 hx2) (estr.idx hx2) rfl (E' rfl (n' (ci' rfl hh (fun hh=>?_) (fun hh=>?_))))))))))))
   ·cases hh
    exact t' rfl (re' (rt' rfl rfl rfl))
   exact sk' (T' rfl (lw' (ih1 _ _ _ _ hh) rfl rfl rfl))
  exact ex' (S' (t' rfl (bk' (fw' (ih2 _ _ _ _ hh) rfl rfl rfl))))
 ·intro g0 g2 ih0 ih2 a b i1 res hh
  refine S0.unroll (S' (p' 3 rfl (qe' rfl trivial (C0.lenA _) (e' rfl (ci' rfl hh (fun hh=>?_) (fun hh=>?_))))))
  ·obtain ⟨x3,hx3,hh⟩:=bs' hh
   obtain ⟨x4,hx4,hh⟩:=bs' hh
   obtain ⟨x5,hx5,hh⟩:=bs' hh
   refine sk' (S' (bk' (S' (AEx.draw hC 12 rfl rfl rfl (O' 3 rfl (AQ.i hC rfl (J1 hx3) (C0.idx hx3) rfl (O' 4 rfl (AQ.i hC rfl (J1 hx4) (C0.idx hx4) rfl (Q' rfl (Qc' (ih0 _ _ _ hx5) rfl rfl (E' rfl (n' (ci' rfl hh (fun hh=>?_) (fun hh=>?_))))))))))))))
   ·cases hh
    exact t' rfl (re' (rt' rfl rfl rfl))
   exact sk' (T' rfl (lw' (ih2 _ _ _ _ hh) rfl rfl rfl))
  cases hh
  exact ex' (t' rfl (re' (rt' rfl rfl rfl)))
theorem Xi {a b res}(hh:L4 a b=some res):Sj a b res:=(Yq).1 _ _ _ hh
def Ph (t:C0):Option Bool:=
 L4 t (C0.mk 0 0 0 0 [] [] [])>>=fun x1=>
 some x1
theorem Wt {t res}(hh:Ph t=some res):K0 C 135 [.agg (C0.cells t)] [] (Ret [] (.d (.bool res))):=by
 unfold Ph at hh
 obtain ⟨x1,hx1,hh⟩:=bs' hh
 cases hh
 exact K0.intro hC Tryz.func135 rfl rfl rfl (s' rfl rfl (E0.n hC rfl (e' rfl (p' 2 rfl (c' (Xi hx1) rfl rfl (e' rfl (re' (rt' rfl rfl rfl))))))))
mutual
def U5 (t:C0):Option Int:=
 S6 t 1 0
 partial_fixpoint
def S6 (t:C0)(n:Int)(i:Int):Option Int:=
 if (decide (i < ((t.Of).length:Int)))=true then
  idx t.Of i>>=fun x1=>
  U5 x1>>=fun x2=>
  S6 t (IntKind.i64.wrap (n+x2)) (IntKind.i64.wrap (i+1))
 else
  some n
 partial_fixpoint
end
abbrev Tj (t:C0)(res:Int):Prop:=K0 C 136 [.agg (C0.cells t)] [] (Ret [] (.d (.int .i64 res)))
abbrev Xp (t:C0)(n:Int)(i:Int)(res:Int):Prop:=LM C 21 0 Tryz.f136 [1,1,0,1,4] [(1,.ref 0 0),(3,.d (.int .i64 n)),(4,.d (.int .i64 i))] [.row (C0.cells t) 36] (Ret [] (.d (.int .i64 res)))
theorem Zq:(∀ t res,U5 t=some res→Tj t res)∧(∀ t n i res,S6 t n i=some res→Xp t n i res):=by
 refine U5.mutual_partial_correctness _ _ ?_ ?_
 ·intro g1 ih1 t res hh
  exact K0.intro hC Tryz.func136 rfl rfl rfl (s' rfl rfl (E0.n hC rfl (e' rfl (t' rfl (S' (t' rfl (bk' (fw' (ih1 _ _ _ _ hh) rfl rfl rfl))))))))
 ·intro g0 g1 ih0 ih1 t n i res hh
  refine S0.unroll (S' (p' 3 rfl (qe' rfl trivial (C0.lenA _) (e' rfl (ci' rfl hh (fun hh=>?_) (fun hh=>?_))))))
  ·obtain ⟨x1,hx1,hh⟩:=bs' hh
   obtain ⟨x2,hx2,hh⟩:=bs' hh
   exact sk' (S' (bk' (P' 4 rfl (i' rfl (J1 hx1) (C0.idx hx1) rfl (q' rfl (c' (ih0 _ _ hx2) rfl rfl (e' rfl (T' rfl (lw' (ih1 _ _ _ _ hh) rfl rfl rfl)))))))))
  cases hh
  exact ex' (t' rfl (re' (rt' rfl rfl rfl)))
theorem Ns {t res}(hh:U5 t=some res):Tj t res:=(Zq).1 _ _ hh
mutual
def V5 (t:C0):Option Int:=
 Z4 t 0 0
 partial_fixpoint
def Z4 (t:C0)(d:Int)(i:Int):Option Int:=
 if (decide (i < ((t.Of).length:Int)))=true then
  idx t.Of i>>=fun x1=>
  V5 x1>>=fun x2=>
  if (decide (x2 > d))=true then
   Z4 t x2 (IntKind.i64.wrap (i+1))
  else
   Z4 t d (IntKind.i64.wrap (i+1))
 else
  some (IntKind.i64.wrap (d+1))
 partial_fixpoint
end
abbrev Uj (t:C0)(res:Int):Prop:=K0 C 137 [.agg (C0.cells t)] [] (Ret [] (.d (.int .i64 res)))
abbrev Yp (t:C0)(d:Int)(i:Int)(res:Int):Prop:=LM C 25 0 Tryz.f137 [1,1,0,1,4] [(1,.ref 0 0),(3,.d (.int .i64 d)),(4,.d (.int .i64 i))] [.row (C0.cells t) 36] (Ret [] (.d (.int .i64 res)))
theorem Ar:(∀ t res,V5 t=some res→Uj t res)∧(∀ t d i res,Z4 t d i=some res→Yp t d i res):=by
 refine V5.mutual_partial_correctness _ _ ?_ ?_
 ·intro g1 ih1 t res hh
  exact K0.intro hC Tryz.func137 rfl rfl rfl (s' rfl rfl (E0.n hC rfl (e' rfl (t' rfl (S' (t' rfl (bk' (fw' (ih1 _ _ _ _ hh) rfl rfl rfl))))))))
 ·intro g0 g1 ih0 ih1 t d i res hh
  refine S0.unroll (S' (p' 3 rfl (qe' rfl trivial (C0.lenA _) (e' rfl (ci' rfl hh (fun hh=>?_) (fun hh=>?_))))))
  ·obtain ⟨x1,hx1,hh⟩:=bs' hh
   obtain ⟨x2,hx2,hh⟩:=bs' hh
   refine sk' (S' (bk' (p' 3 rfl (i' rfl (J1 hx1) (C0.idx hx1) rfl (q' rfl (c' (ih0 _ _ hx2) rfl rfl (e' rfl (t' rfl (ci' rfl hh (fun hh=>?_) (fun hh=>?_))))))))))
   ·exact T' rfl (T' rfl (lw' (ih1 _ _ _ _ hh) rfl rfl rfl))
   exact sk' (T' rfl (lw' (ih1 _ _ _ _ hh) rfl rfl rfl))
  cases hh
  exact ex' (t' rfl (re' (rt' rfl rfl rfl)))
theorem Ps {t res}(hh:V5 t=some res):Uj t res:=(Ar).1 _ _ hh
def Ld (s:Q1)(t:C0)(used:Bool):Option Q1:=
 (if (!used)=true then Ph t else some default)>>=fun x1=>
 if (bif (!used) then x1 else false)=true then
  some s
 else
  U5 t>>=fun x2=>
  V5 t>>=fun x3=>
  Pb (Q1.mk (IntKind.i64.wrap (s.nodes+x2)) s.depth) x3>>=fun x4=>
  some x4
theorem Bv {s t used res}(hh:Ld s t used=some res):K0 C 79 [.agg (Q1.cells s),.agg (C0.cells t),.d (.bool used)] [] (Ret [] (.agg (Q1.cells res))):=by
 unfold Ld at hh
 obtain ⟨x1,hx1,hh⟩:=bs' hh
 refine K0.intro hC Tryz.func79 rfl rfl rfl (s' rfl rfl (E0.n hC rfl (E0.n hC rfl (E0.n hC rfl (n' (S' (sg' 6 rfl (G' 4 rfl (AG.c rfl rfl (fun hg=>⟨hg,trivial⟩) (fun hw=>Wt (F2 hw hx1)) (pa' rfl (an' (n' (ci' rfl hh (fun hh=>?_) (fun hh=>?_))))))))))))))
 ·cases hh
  exact p' 1 rfl (E0.s hC rfl (n' (re' (rt' rfl rfl rfl))))
 obtain ⟨x2,hx2,hh⟩:=bs' hh
 obtain ⟨x3,hx3,hh⟩:=bs' hh
 obtain ⟨x4,hx4,hh⟩:=bs' hh
 cases hh
 refine sk' (S' (AEx.draw hC 6 rfl rfl rfl (O' 3 rfl (Qc' (Ns hx2) rfl rfl (E' rfl (E0.s hC rfl (n' (S' (AEx.draw hC 4 rfl rfl rfl (O' 2 rfl (Qc' (Ps hx3) rfl rfl (Qc' (Tp hx4) rfl rfl (Qn' ?_)))))))))))))
 exact E0.s hC rfl (n' (re' (rt' rfl rfl rfl)))
mutual
def T6 (t:C0):Option Bool:=
 if (bif (decide (t.Kind < 0)) then true else (decide (t.Kind > 4)))=true then
  some false
 else
  if (bif (bif (bif (bif (t.Kind != 1) then (bif (t.Low != 0) then true else (t.High != 0)) else false) then true else (bif (t.Kind != 2) then (t.Size != 0) else false)) then true else (bif (t.Kind != 4) then (!(t.Name == [])) else false)) then true else (bif (t.Kind != 3) then (((t.Names).length:Int) != 0) else false))=true then
   some false
  else
   if (bif (bif (bif (t.Kind == 2) then (((t.Of).length:Int) != 1) else false) then true else (bif (t.Kind == 3) then (bif (decide (((t.Of).length:Int) < 1)) then true else (((t.Of).length:Int) != ((t.Names).length:Int))) else false)) then true else (bif (bif (t.Kind != 2) then (t.Kind != 3) else false) then (((t.Of).length:Int) != 0) else false))=true then
    some false
   else
    M7 t 0
 partial_fixpoint
def M7 (t:C0)(i:Int):Option Bool:=
 if (decide (i < ((t.Of).length:Int)))=true then
  idx t.Of i>>=fun x1=>
  T6 x1>>=fun x2=>
  if (!x2)=true then
   some false
  else
   M7 t (IntKind.i64.wrap (i+1))
 else
  some true
 partial_fixpoint
end
abbrev El (t:C0)(res:Bool):Prop:=K0 C 80 [.agg (C0.cells t)] [] (Ret [] (.d (.bool res)))
abbrev Br (t:C0)(i:Int)(res:Bool):Prop:=LM C 115 0 Tryz.f80 [1,1,1,1,0,1,4] [(1,.ref 0 0),(3,.d (.int .i64 i))] [.row (C0.cells t) 36] (Ret [] (.d (.bool res)))
theorem Qs:(∀ t res,T6 t=some res→El t res)∧(∀ t i res,M7 t i=some res→Br t i res):=by
 refine T6.mutual_partial_correctness _ _ ?_ ?_
 ·intro g1 ih1 t res hh
  refine K0.intro hC Tryz.func80 rfl rfl rfl (s' rfl rfl (E0.n hC rfl (e' rfl (S' (sg' 8 rfl (G' 5 rfl (a1' rfl (a1' rfl (po' rfl (an' (n' (ci' rfl hh (fun hh=>?_) (fun hh=>?_)))))))))))))
  ·cases hh
   exact t' rfl (re' (rt' rfl rfl rfl))
  refine sk' (S' (sg' 44 rfl (G' 5 rfl (a1' rfl (a1' rfl (a1' rfl (a0' rfl (a1' rfl (a1' rfl (pO' rfl (pa' rfl (G' 2 rfl (a1' rfl ?_)))))))))))))
  refine a1' rfl (a1' rfl (a0' rfl (a1' rfl (a1' rfl (pA' rfl (po' rfl (G' 2 rfl (a1' rfl (a1' rfl (a1' rfl (a0' rfl (a1' rfl (a1' rfl ?_)))))))))))))
  refine pA' rfl (po' rfl (G' 2 rfl (a1' rfl (a1' rfl (a1' rfl (a0' rfl (a1' rfl (AG.qe hC rfl (fun hg=>⟨⟨hg,trivial⟩,trivial⟩) (estr.lenA _) (a1' rfl (pA' rfl (po' rfl (an' (n' (ci' rfl hh (fun hh=>?_) (fun hh=>?_)))))))))))))))
  ·cases hh
   exact t' rfl (re' (rt' rfl rfl rfl))
  refine sk' (S' (sg' 45 rfl (G' 5 rfl (a1' rfl (AG.qe hC rfl (fun hg=>⟨⟨hg,trivial⟩,trivial⟩) (C0.lenA _) (a1' rfl (pa' rfl (G' 2 rfl (a1' rfl (a1' rfl (a1' rfl (a0' rfl (a1' rfl ?_)))))))))))))
  refine AG.qe hC rfl (fun hg=>⟨⟨hg,trivial⟩,trivial⟩) (C0.lenA _) (a1' rfl (a1' rfl (a0' rfl (a1' rfl (AG.qe hC rfl (fun hg=>⟨⟨hg,trivial⟩,trivial⟩) (C0.lenA _) (a0' rfl (a1' rfl (AG.qe hC rfl (fun hg=>⟨⟨hg,trivial⟩,trivial⟩) (estr.lenA _) (a2' rfl (pO' rfl (pA' rfl (po' rfl (G' 2 rfl ?_)))))))))))))
  refine a1' rfl (a1' rfl (a1' rfl (a0' rfl (a1' rfl (a1' rfl (pA' rfl (a1' rfl (a0' rfl (a1' rfl (AG.qe hC rfl (fun hg=>⟨⟨hg,trivial⟩,trivial⟩) (C0.lenA _) (a1' rfl (pA' rfl (po' rfl ?_)))))))))))))
  refine an' (n' (ci' rfl hh (fun hh=>?_) (fun hh=>?_)))
  ·cases hh
   exact t' rfl (re' (rt' rfl rfl rfl))
  exact sk' (S' (t' rfl (bk' (fw' (ih1 _ _ _ hh) rfl rfl rfl))))
 ·intro g0 g1 ih0 ih1 t i res hh
  refine S0.unroll (S' (p' 3 rfl (qe' rfl trivial (C0.lenA _) (e' rfl (ci' rfl hh (fun hh=>?_) (fun hh=>?_))))))
  ·obtain ⟨x1,hx1,hh⟩:=bs' hh
   obtain ⟨x2,hx2,hh⟩:=bs' hh
   refine sk' (S' (bk' (p' 3 rfl (i' rfl (J1 hx1) (C0.idx hx1) rfl (q' rfl (c' (ih0 _ _ hx2) rfl rfl (e' rfl (ci' rfl hh (fun hh=>?_) (fun hh=>?_)))))))))
   ·cases hh
    exact t' rfl (re' (rt' rfl rfl rfl))
   exact sk' (T' rfl (lw' (ih1 _ _ _ hh) rfl rfl rfl))
  cases hh
  exact ex' (t' rfl (re' (rt' rfl rfl rfl)))
theorem Xt {t res}(hh:T6 t=some res):El t res:=(Qs).1 _ _ hh
mutual
def W5 (t:C0):Option Bool:=
 (if (t.Kind == 4)=true then Ac t.Name else some default)>>=fun x1=>
 if (bif (t.Kind == 4) then (!x1) else false)=true then
  some false
 else
  U6 t 0
 partial_fixpoint
def U6 (t:C0)(i:Int):Option Bool:=
 if (decide (i < ((t.Names).length:Int)))=true then
  idx t.Names i>>=fun x2=>
  Ac x2>>=fun x3=>
  if (!x3)=true then
   some false
  else
   U6 t (IntKind.i64.wrap (i+1))
 else
  A5 t 0
 partial_fixpoint
def A5 (t:C0)(i1:Int):Option Bool:=
 if (decide (i1 < ((t.Of).length:Int)))=true then
  idx t.Of i1>>=fun x4=>
  W5 x4>>=fun x5=>
  if (!x5)=true then
   some false
  else
   A5 t (IntKind.i64.wrap (i1+1))
 else
  some true
 partial_fixpoint
end
abbrev Vj (t:C0)(res:Bool):Prop:=K0 C 81 [.agg (C0.cells t)] [] (Ret [] (.d (.bool res)))
abbrev Zp (t:C0)(i:Int)(res:Bool):Prop:=LM C 42 0 Tryz.f81 [1,1,0,1,4] [(1,.ref 0 0),(3,.d (.int .i64 i))] [.row (C0.cells t) 36] (Ret [] (.d (.bool res)))
abbrev Aq (t:C0)(i1:Int)(res:Bool):Prop:=LM C 42 0 Tryz.f81 [1,1,1,0,1,4] [(1,.ref 0 0),(4,.d (.int .i64 i1))] [.row (C0.cells t) 36] (Ret [] (.d (.bool res)))
theorem Cr:(∀ t res,W5 t=some res→Vj t res)∧(∀ t i res,U6 t i=some res→Zp t i res)∧(∀ t i1 res,A5 t i1=some res→Aq t i1 res):=by
 refine W5.mutual_partial_correctness _ _ _ ?_ ?_ ?_
 ·intro g1 ih1 t res hh
  obtain ⟨x1,hx1,hh⟩:=bs' hh
  refine K0.intro hC Tryz.func81 rfl rfl rfl (s' rfl rfl (E0.n hC rfl (e' rfl (S' (sg' 9 rfl (G' 5 rfl (a1' rfl (AG.c rfl rfl (fun hg=>⟨hg,trivial⟩) (fun hw=>Km (F2 hw hx1)) (a1' rfl (pa' rfl (an' (n' (ci' rfl hh (fun hh=>?_) (fun hh=>?_))))))))))))))
  ·cases hh
   exact t' rfl (re' (rt' rfl rfl rfl))
  exact sk' (S' (t' rfl (bk' (fw' (ih1 _ _ _ hh) rfl rfl rfl))))
 ·intro g1 g2 ih1 ih2 t i res hh
  refine S0.unroll (S' (p' 3 rfl (qe' rfl trivial (estr.lenA _) (e' rfl (ci' rfl hh (fun hh=>?_) (fun hh=>?_))))))
  ·obtain ⟨x2,hx2,hh⟩:=bs' hh
   obtain ⟨x3,hx3,hh⟩:=bs' hh
   refine sk' (S' (bk' (p' 3 rfl (i' rfl (J1 hx2) (estr.idx hx2) rfl (q' rfl (c' (Km hx3) rfl rfl (e' rfl (ci' rfl hh (fun hh=>?_) (fun hh=>?_)))))))))
   ·cases hh
    exact t' rfl (re' (rt' rfl rfl rfl))
   exact sk' (T' rfl (lw' (ih1 _ _ _ hh) rfl rfl rfl))
  exact ex' (S' (t' rfl (bk' (fw' (ih2 _ _ _ hh) rfl rfl rfl))))
 ·intro g0 g2 ih0 ih2 t i1 res hh
  refine S0.unroll (S' (p' 3 rfl (qe' rfl trivial (C0.lenA _) (e' rfl (ci' rfl hh (fun hh=>?_) (fun hh=>?_))))))
  ·obtain ⟨x4,hx4,hh⟩:=bs' hh
   obtain ⟨x5,hx5,hh⟩:=bs' hh
   refine sk' (S' (bk' (p' 3 rfl (i' rfl (J1 hx4) (C0.idx hx4) rfl (q' rfl (c' (ih0 _ _ hx5) rfl rfl (e' rfl (ci' rfl hh (fun hh=>?_) (fun hh=>?_)))))))))
   ·cases hh
    exact t' rfl (re' (rt' rfl rfl rfl))
   exact sk' (T' rfl (lw' (ih2 _ _ _ hh) rfl rfl rfl))
  cases hh
  exact ex' (t' rfl (re' (rt' rfl rfl rfl)))
theorem Rs {t res}(hh:W5 t=some res):Vj t res:=(Cr).1 _ _ hh
def Ie (n:Int):Option Bool:=
 some (bif (decide (n≥(-1048576))) then (decide (n≤1048576)) else false)
theorem Lm {n res}(hh:Ie n=some res):K0 C 138 [.d (.int .i64 n)] [] (Ret [] (.d (.bool res))):=by
 unfold Ie at hh
 cases hh
 exact K0.intro hC Tryz.func138 rfl rfl rfl (t' rfl (sg' 7 rfl (G' 4 rfl (a1' rfl (pa' rfl (a0' rfl (an' (n' (re' (rt' rfl rfl rfl))))))))))
mutual
def K4 (t:C0):Option Bool:=
 (if (t.Kind == 1)=true then Ie t.Low else some default)>>=fun x1=>
 (if ((t.Kind == 1)&&(!(!x1)))=true then Ie t.High else some default)>>=fun x2=>
 if (bif (bif (bif (t.Kind == 1) then (bif (bif (!x1) then true else (!x2)) then true else (decide (t.Low > t.High))) else false) then true else (bif (t.Kind == 2) then (bif (decide (t.Size < 1)) then true else (decide (t.Size > 32))) else false)) then true else (decide (((t.Of).length:Int) > 32)))=true then
  some false
 else
  L5 t 0
 partial_fixpoint
def L5 (t:C0)(i:Int):Option Bool:=
 if (decide (i < ((t.Of).length:Int)))=true then
  idx t.Of i>>=fun x3=>
  K4 x3>>=fun x4=>
  if (!x4)=true then
   some false
  else
   L5 t (IntKind.i64.wrap (i+1))
 else
  some true
 partial_fixpoint
end
abbrev Dh (t:C0)(res:Bool):Prop:=K0 C 82 [.agg (C0.cells t)] [] (Ret [] (.d (.bool res)))
abbrev Bn (t:C0)(i:Int)(res:Bool):Prop:=LM C 61 0 Tryz.f82 [1,1,0,1,4] [(1,.ref 0 0),(3,.d (.int .i64 i))] [.row (C0.cells t) 36] (Ret [] (.d (.bool res)))
theorem Ro:(∀ t res,K4 t=some res→Dh t res)∧(∀ t i res,L5 t i=some res→Bn t i res):=by
 refine K4.mutual_partial_correctness _ _ ?_ ?_
 ·intro g1 ih1 t res hh
  obtain ⟨x1,hx1,hh⟩:=bs' hh
  obtain ⟨x2,hx2,hh⟩:=bs' hh
  refine K0.intro hC Tryz.func82 rfl rfl rfl (s' rfl rfl (E0.n hC rfl (e' rfl (S' (sg' 43 rfl (G' 5 rfl (a1' rfl (AG.c rfl rfl (fun hg=>⟨hg,trivial⟩) (fun hw=>Lm (F2 hw hx1)) (a1' rfl (a1' rfl (a0' rfl (a1' rfl (AG.c rfl rfl (fun hg=>⟨hg,trivial⟩) (fun hw=>Lm (F2 hw hx2)) ?_)))))))))))))
  refine a1' rfl (pO' rfl (a1' rfl (a0' rfl (a1' rfl (a0' rfl (a1' rfl (a2' rfl (pO' rfl (pa' rfl (G' 2 rfl (a1' rfl (a1' rfl (a1' rfl ?_)))))))))))))
  refine a0' rfl (a1' rfl (a1' rfl (a1' rfl (a0' rfl (a1' rfl (a1' rfl (pO' rfl (pA' rfl (po' rfl (G' 2 rfl (a1' rfl (AG.qe hC rfl (fun hg=>⟨⟨hg,trivial⟩,trivial⟩) (C0.lenA _) (a1' rfl ?_)))))))))))))
  refine po' rfl (an' (n' (ci' rfl hh (fun hh=>?_) (fun hh=>?_))))
  ·cases hh
   exact t' rfl (re' (rt' rfl rfl rfl))
  exact sk' (S' (t' rfl (bk' (fw' (ih1 _ _ _ hh) rfl rfl rfl))))
 ·intro g0 g1 ih0 ih1 t i res hh
  refine S0.unroll (S' (p' 3 rfl (qe' rfl trivial (C0.lenA _) (e' rfl (ci' rfl hh (fun hh=>?_) (fun hh=>?_))))))
  ·obtain ⟨x3,hx3,hh⟩:=bs' hh
   obtain ⟨x4,hx4,hh⟩:=bs' hh
   refine sk' (S' (bk' (p' 3 rfl (i' rfl (J1 hx3) (C0.idx hx3) rfl (q' rfl (c' (ih0 _ _ hx4) rfl rfl (e' rfl (ci' rfl hh (fun hh=>?_) (fun hh=>?_)))))))))
   ·cases hh
    exact t' rfl (re' (rt' rfl rfl rfl))
   exact sk' (T' rfl (lw' (ih1 _ _ _ hh) rfl rfl rfl))
  cases hh
  exact ex' (t' rfl (re' (rt' rfl rfl rfl)))
theorem Bq {t res}(hh:K4 t=some res):Dh t res:=(Ro).1 _ _ hh
def Ya (t:C0):Option Int:=
 Ld (Q1.mk 0 0) t true>>=fun x1=>
 T6 t>>=fun x2=>
 W5 t>>=fun x3=>
 K4 t>>=fun x4=>
 Kd x1 x2 x3 x4>>=fun x5=>
 some x5
theorem Ss {t res}(hh:Ya t=some res):K0 C 39 [.agg (C0.cells t)] [] (Ret [] (.d (.int .i64 res))):=by
 unfold Ya at hh
 obtain ⟨x1,hx1,hh⟩:=bs' hh
 obtain ⟨x2,hx2,hh⟩:=bs' hh
 obtain ⟨x3,hx3,hh⟩:=bs' hh
 obtain ⟨x4,hx4,hh⟩:=bs' hh
 obtain ⟨x5,hx5,hh⟩:=bs' hh
 cases hh
 refine K0.intro hC Tryz.func39 rfl rfl rfl (s' rfl rfl (E0.n hC rfl (e' rfl (S' (AEx.draw hC 11 rfl rfl rfl (O' 2 rfl (Qc' (Bv hx1) rfl rfl (Q' rfl (Qc' (Xt hx2) rfl rfl (Q' rfl (Qc' (Rs hx3) rfl rfl (Q' rfl (Qc' (Bq hx4) rfl rfl ?_)))))))))))))
 exact Qc' (Av hx5) rfl rfl (E' rfl (n' (re' (rt' rfl rfl rfl))))
end Go.Proofs.YtmnhfbekncjnfaaGreatDoor

set_option maxRecDepth 100000
set_option maxHeartbeats 4000000
set_option synthInstance.maxSize 20000
set_option linter.unusedVariables false
namespace Go.Proofs.YtmnhfbekncjnfaaGreatDoor
open Go.Am
def Za (text:Str):Option (C0×Int×Int):=
 Wi text>>=fun x1=>
 if (x1.2.2 != 0)=true then
  some ((C0.mk 0 0 0 0 [] [] []),x1.2.1,x1.2.2)
 else
  U8 x1.1 0>>=fun x2=>
  if (bif (!x2.2.2) then true else (decide (x2.2.1 < ((x1.1).length:Int))))=true then
   He text x1.1 x2.2.1>>=fun x3=>
   some ((C0.mk 0 0 0 0 [] [] []),x3,6)
  else
   Ya x2.1>>=fun x4=>
   if (x4 != 0)=true then
    some ((C0.mk 0 0 0 0 [] [] []),0,x4)
   else
    some (x2.1,0,0)
theorem Ts {text res}(hh:Za text=some res):K0 C 15 [.d (.str text)] [] (Ret [] (.tup [.agg (C0.cells res.1),.d (.int .i64 res.2.1),.d (.int .i64 res.2.2)])):=by
 unfold Za at hh
 obtain ⟨x1,hx1,hh⟩:=bs' hh
 refine K0.intro hC Tryz.func15 rfl rfl rfl (s' rfl rfl (E0.nf hC rfl (e' rfl (p' 1 rfl (c' (R11 hx1) rfl rfl (e' rfl (S' (t' rfl (ci' rfl hh (fun hh=>?_) (fun hh=>?_))))))))))
 ·cases hh
  exact p' 3 rfl (E0.s hC rfl (e' rfl (re' (rt' rfl rfl rfl))))
 obtain ⟨x2,hx2,hh⟩:=bs' hh
 refine sk' (p' 1 rfl (c' (T11 hx2) rfl rfl (o' 4 rfl (E0.nf hC rfl (E0.s hC rfl (e' rfl (S' (sg' 8 rfl (G' 5 rfl (AG.qe hC rfl (fun hg=>⟨⟨hg,trivial⟩,trivial⟩) (F0.lenA _) (a2' rfl (po' rfl (an' ?_)))))))))))))
 refine n' (ci' rfl hh (fun hh=>?_) (fun hh=>?_))
 ·obtain ⟨x3,hx3,hh⟩:=bs' hh
  cases hh
  exact p' 4 rfl (c' (Zw hx3) rfl rfl (E0.s hC rfl (e' rfl (re' (rt' rfl rfl rfl)))))
 obtain ⟨x4,hx4,hh⟩:=bs' hh
 refine sk' (p' 1 rfl (c' (Ss hx4) rfl rfl (e' rfl (S' (t' rfl (ci' rfl hh (fun hh=>?_) (fun hh=>?_)))))))
 ·cases hh
  exact p' 2 rfl (E0.s hC rfl (e' rfl (re' (rt' rfl rfl rfl))))
 cases hh
 exact sk' (p' 1 rfl (E0.s hC rfl (e' rfl (re' (rt' rfl rfl rfl)))))
def Qb (text:Str):Option Bool:=
 Jb>>=fun x1=>
 if (!x1)=true then
  some false
 else
  if (decide (((text).length:Int) > 2000))=true then
   some true
  else
   Ha text>>=fun x2=>
   Za text>>=fun x3=>
   (if (bif (x2.2.2 == x3.2.2) then (x2.2.1 == x3.2.1) else false)=true then L4 x2.1 x3.1 else some default)>>=fun x4=>
   some (bif (bif (x2.2.2 == x3.2.2) then (x2.2.1 == x3.2.1) else false) then x4 else false)
theorem Cq {text res}(hh:Qb text=some res):K0 C 4 [.d (.str text)] [] (Ret [] (.d (.bool res))):=by
 unfold Qb at hh
 obtain ⟨x1,hx1,hh⟩:=bs' hh
 refine K0.intro hC Tryz.func4 rfl rfl rfl (t' rfl (S' (s' rfl rfl (c' (Hy hx1) rfl rfl (e' rfl (ci' rfl hh (fun hh=>?_) (fun hh=>?_)))))))
 ·cases hh
  exact t' rfl (re' (rt' rfl rfl rfl))
 refine sk' (S' (t' rfl (ci' rfl hh (fun hh=>?_) (fun hh=>?_))))
 ·cases hh
  exact t' rfl (re' (rt' rfl rfl rfl))
 obtain ⟨x2,hx2,hh⟩:=bs' hh
 obtain ⟨x3,hx3,hh⟩:=bs' hh
 obtain ⟨x4,hx4,hh⟩:=bs' hh
 cases hh
 refine sk' (p' 1 rfl (c' (Xq hx2) rfl rfl (o' 4 rfl (E0.nf hC rfl (E0.s hC rfl (e' rfl (p' 1 rfl (c' (Ts hx3) rfl rfl (o' 4 rfl (E0.nf hC rfl (E0.s hC rfl (e' rfl (sg' 14 rfl ?_)))))))))))))
 exact G' 6 rfl (a2' rfl (pa' rfl (G' 3 rfl (AG.c rfl rfl (fun hg=>⟨hg,hg,trivial⟩) (fun hw=>Xi (F2 hw hx4)) (pa' rfl (a0' rfl (an' (n' (re' (rt' rfl rfl rfl))))))))))
def Mc (o0:A0)(x1:B0×A0)(x4:Str×A0)(o2_Args:List B0):Option (Pn (R0×A0)):=
 L0 [44] o0>>=fun x13=>
 if x13.1=true then
  Z0 x13.2>>=fun x14=>match x14 with
  | .pn nn=>
  some (.pn nn)
  | .ok x14=>
  if (decide ((o2_Args.length+1) * 57≤140737488355328))=true then
   Mc x14.2 x1 x4 (o2_Args++[x14.1])
  else none
 else
  P0 [41] x13.2>>=fun x8=>match x8 with
  | .pn nn=>
  some (.pn nn)
  | .ok x8=>
  P0 [59] x8>>=fun x9=>match x9 with
  | .pn nn=>
  some (.pn nn)
  | .ok x9=>
  some (.ok ((R0.mk 1 x1.1 (B0.mk 0 0 [] []) x4.1 o2_Args 0 0 0 [] [] []),x9))
 partial_fixpoint
def Yi (x7:B0×A0)(x1:B0×A0)(x4:Str×A0):Option (Pn (R0×A0)):=
 Mc x7.2 x1 x4 [x7.1]
def Fl (parserParser:A0):Option (Pn (R0×A0)):=
 Y7 parserParser>>=fun x1=>match x1 with
 | .pn nn=>
 some (.pn nn)
 | .ok x1=>
 P0 [61] x1.2>>=fun x2=>match x2 with
 | .pn nn=>
 some (.pn nn)
 | .ok x2=>
 L0 [99,97,108,108] x2>>=fun x3=>
 if x3.1=true then
  I2 x3.2>>=fun x4=>match x4 with
  | .pn nn=>
  some (.pn nn)
  | .ok x4=>
  P0 [40] x4.2>>=fun x5=>match x5 with
  | .pn nn=>
  some (.pn nn)
  | .ok x5=>
  V4 [41] x5>>=fun x6=>
  if (!x6)=true then
   Z0 x5>>=fun x7=>match x7 with
   | .pn nn=>
   some (.pn nn)
   | .ok x7=>
   if (decide ((0+1) * 57≤140737488355328))=true then
    Yi x7 x1 x4
   else none
  else
   P0 [41] x5>>=fun x8=>match x8 with
   | .pn nn=>
   some (.pn nn)
   | .ok x8=>
   P0 [59] x8>>=fun x9=>match x9 with
   | .pn nn=>
   some (.pn nn)
   | .ok x9=>
   some (.ok ((R0.mk 1 x1.1 (B0.mk 0 0 [] []) x4.1 [] 0 0 0 [] [] []),x9))
 else
  L0 [114,101,108,101,97,115,101] x3.2>>=fun x10=>
  if x10.1=true then
   I2 x10.2>>=fun x11=>match x11 with
   | .pn nn=>
   some (.pn nn)
   | .ok x11=>
   P0 [59] x11.2>>=fun x9=>match x9 with
   | .pn nn=>
   some (.pn nn)
   | .ok x9=>
   some (.ok ((R0.mk 2 x1.1 (B0.mk 0 0 [] []) x11.1 [] 0 0 0 [] [] []),x9))
  else
   Z0 x10.2>>=fun x12=>match x12 with
   | .pn nn=>
   some (.pn nn)
   | .ok x12=>
   P0 [59] x12.2>>=fun x9=>match x9 with
   | .pn nn=>
   some (.pn nn)
   | .ok x9=>
   some (.ok ((R0.mk 0 x1.1 x12.1 [] [] 0 0 0 [] [] []),x9))
def Md (o0:A0)(o2_Numbers:List Int):Option (Pn (R0×Bool×A0)):=
 L0 [44] o0>>=fun x23=>
 if x23.1=true then
  V1 x23.2>>=fun x24=>match x24 with
  | .pn nn=>
  some (.pn nn)
  | .ok x24=>
  if (decide ((o2_Numbers.length+1) * 9≤140737488355328))=true then
   Md x24.2 (o2_Numbers++[x24.1])
  else none
 else
  P0 [59] x23.2>>=fun x25=>match x25 with
  | .pn nn=>
  some (.pn nn)
  | .ok x25=>
  some (.ok ((R0.mk 8 (B0.mk 0 0 [] []) (B0.mk 0 0 [] []) [] [] 0 0 0 o2_Numbers [] []),true,x25))
 partial_fixpoint
end Go.Proofs.YtmnhfbekncjnfaaGreatDoor

set_option maxRecDepth 100000
set_option maxHeartbeats 4000000
set_option synthInstance.maxSize 20000
set_option linter.unusedVariables false
namespace Go.Proofs.YtmnhfbekncjnfaaGreatDoor
open Go.Am
mutual
def Gl (parserParser:A0):Option (Pn (List R0×A0)):=
 V8 parserParser []
 partial_fixpoint
def V8 (o0:A0)(out:List R0):Option (Pn (List R0×A0)):=
 Yl o0>>=fun x1=>match x1 with
 | .pn nn=>
 some (.pn nn)
 | .ok x1=>
 if (!x1.2.1)=true then
  some (.ok (out,x1.2.2))
 else
  if (decide ((out.length+1) * 257≤140737488355328))=true then
   V8 x1.2.2 (out++[x1.1])
  else none
 partial_fixpoint
def Yl (parserParser:A0):Option (Pn (R0×Bool×A0)):=
 H5 parserParser>>=fun x1=>
 if x1=true then
  Fl parserParser>>=fun x2=>match x2 with
  | .pn nn=>
  some (.pn nn)
  | .ok x2=>
  some (.ok (x2.1,true,x2.2))
 else
  L0 [111,117,116,112,117,116] parserParser>>=fun x3=>
  if x3.1=true then
   Z0 x3.2>>=fun x4=>match x4 with
   | .pn nn=>
   some (.pn nn)
   | .ok x4=>
   P0 [59] x4.2>>=fun x5=>match x5 with
   | .pn nn=>
   some (.pn nn)
   | .ok x5=>
   some (.ok ((R0.mk 3 (B0.mk 0 0 [] []) x4.1 [] [] 0 0 0 [] [] []),true,x5))
  else
   L0 [119,97,105,116] x3.2>>=fun x6=>
   if x6.1=true then
    V1 x6.2>>=fun x7=>match x7 with
    | .pn nn=>
    some (.pn nn)
    | .ok x7=>
    P0 [59] x7.2>>=fun x8=>match x8 with
    | .pn nn=>
    some (.pn nn)
    | .ok x8=>
    some (.ok ((R0.mk 4 (B0.mk 0 0 [] []) (B0.mk 0 0 [] []) [] [] x7.1 0 0 [] [] []),true,x8))
   else
    L0 [115,101,116,116,108,101] x6.2>>=fun x9=>
    if x9.1=true then
     V1 x9.2>>=fun x10=>match x10 with
     | .pn nn=>
     some (.pn nn)
     | .ok x10=>
     Md x10.2 [x10.1]
    else
     L0 [105,102] x9.2>>=fun x11=>
     if x11.1=true then
      Z0 x11.2>>=fun x12=>match x12 with
      | .pn nn=>
      some (.pn nn)
      | .ok x12=>
      Z7 x12.2>>=fun x26=>match x26 with
      | .pn nn=>
      some (.pn nn)
      | .ok x26=>
      L0 [101,108,115,101] x26.2>>=fun x27=>
      if x27.1=true then
       Z7 x27.2>>=fun x28=>match x28 with
       | .pn nn=>
       some (.pn nn)
       | .ok x28=>
       some (.ok ((R0.mk 5 (B0.mk 0 0 [] []) x12.1 [] [] 0 0 0 [] x26.1 x28.1),true,x28.2))
      else
       some (.ok ((R0.mk 5 (B0.mk 0 0 [] []) x12.1 [] [] 0 0 0 [] x26.1 []),true,x27.2))
     else
      L0 [119,104,105,108,101] x11.2>>=fun x13=>
      if x13.1=true then
       Z0 x13.2>>=fun x14=>match x14 with
       | .pn nn=>
       some (.pn nn)
       | .ok x14=>
       P0 [108,105,109,105,116] x14.2>>=fun x15=>match x15 with
       | .pn nn=>
       some (.pn nn)
       | .ok x15=>
       V1 x15>>=fun x16=>match x16 with
       | .pn nn=>
       some (.pn nn)
       | .ok x16=>
       Z7 x16.2>>=fun x29=>match x29 with
       | .pn nn=>
       some (.pn nn)
       | .ok x29=>
       some (.ok ((R0.mk 6 (B0.mk 0 0 [] []) x14.1 [] [] x16.1 0 0 [] x29.1 []),true,x29.2))
      else
       L0 [102,111,114] x13.2>>=fun x17=>
       if x17.1=true then
        I2 x17.2>>=fun x18=>match x18 with
        | .pn nn=>
        some (.pn nn)
        | .ok x18=>
        P0 [61] x18.2>>=fun x19=>match x19 with
        | .pn nn=>
        some (.pn nn)
        | .ok x19=>
        V1 x19>>=fun x20=>match x20 with
        | .pn nn=>
        some (.pn nn)
        | .ok x20=>
        P0 [116,111] x20.2>>=fun x21=>match x21 with
        | .pn nn=>
        some (.pn nn)
        | .ok x21=>
        V1 x21>>=fun x22=>match x22 with
        | .pn nn=>
        some (.pn nn)
        | .ok x22=>
        Z7 x22.2>>=fun x30=>match x30 with
        | .pn nn=>
        some (.pn nn)
        | .ok x30=>
        some (.ok ((R0.mk 7 (B0.mk 0 0 [] []) (B0.mk 0 0 [] []) x18.1 [] 0 x20.1 x22.1 [] x30.1 []),true,x30.2))
       else
        some (.ok ((R0.mk 0 (B0.mk 0 0 [] []) (B0.mk 0 0 [] []) [] [] 0 0 0 [] [] []),false,x17.2))
 partial_fixpoint
def Z7 (parserParser:A0):Option (Pn (List R0×A0)):=
 P0 [123] parserParser>>=fun x1=>match x1 with
 | .pn nn=>
 some (.pn nn)
 | .ok x1=>
 Gl x1>>=fun x2=>match x2 with
 | .pn nn=>
 some (.pn nn)
 | .ok x2=>
 P0 [125] x2.2>>=fun x3=>match x3 with
 | .pn nn=>
 some (.pn nn)
 | .ok x3=>
 some (.ok (x2.1,x3))
 partial_fixpoint
end
def U11 (l:List F0)(atV:Int):Option Bool:=
 F6 l atV>>=fun x1=>
 (if (!x1.2.2)=true then Y0 l atV [111,117,116,112,117,116] else some default)>>=fun x2=>
 (if (!(bif x1.2.2 then true else x2))=true then Y0 l atV [119,97,105,116] else some default)>>=fun x3=>
 (if (!(bif (bif x1.2.2 then true else x2) then true else x3))=true then Y0 l atV [105,102] else some default)>>=fun x4=>
 (if (!(bif (bif (bif x1.2.2 then true else x2) then true else x3) then true else x4))=true then Y0 l atV [119,104,105,108,101] else some default)>>=fun x5=>
 (if (!(bif (bif (bif (bif x1.2.2 then true else x2) then true else x3) then true else x4) then true else x5))=true then Y0 l atV [102,111,114] else some default)>>=fun x6=>
 (if (!(bif (bif (bif (bif (bif x1.2.2 then true else x2) then true else x3) then true else x4) then true else x5) then true else x6))=true then Y0 l atV [115,101,116,116,108,101] else some default)>>=fun x7=>
 some (bif (bif (bif (bif (bif (bif x1.2.2 then true else x2) then true else x3) then true else x4) then true else x5) then true else x6) then true else x7)
def Ab (l:List F0)(o1_Verb:Int)(o1_Place:B0)(o1_Value:B0)(o1_Name:Str)(o1_Args:List B0)(o1_NV:Int)(o1_Low:Int)(o1_High:Int)(o1_Numbers:List Int)(o1_Then:List R0)(o1_Else:List R0)(atV1:Int)(ok:Bool):Option (R0×Int×Bool):=
 (if (!(!ok))=true then Y0 l atV1 [59] else some default)>>=fun x9=>
 if (bif (!ok) then true else (!x9))=true then
  some ((R0.mk o1_Verb o1_Place o1_Value o1_Name o1_Args o1_NV o1_Low o1_High o1_Numbers o1_Then o1_Else),atV1,false)
 else
  some ((R0.mk o1_Verb o1_Place o1_Value o1_Name o1_Args o1_NV o1_Low o1_High o1_Numbers o1_Then o1_Else),(IntKind.i64.wrap (atV1+1)),true)
def Wj (l:List F0)(atV1:Int)(out:List Int):Option (List Int×Int×Bool):=
 Q3 l atV1>>=fun x1=>
 if (!x1.2.2)=true then
  some (out,x1.2.1,false)
 else
  if (decide ((out.length+1) * 9≤140737488355328))=true then
   Y0 l x1.2.1 [44]>>=fun x2=>
   if (!x2)=true then
    some ((out++[x1.1]),x1.2.1,true)
   else
    Wj l (IntKind.i64.wrap (x1.2.1+1)) (out++[x1.1])
  else none
 partial_fixpoint
def Ky (l:List F0)(atV:Int):Option (List Int×Int×Bool):=
 Wj l atV []
def Zi (l:List F0)(atV1:Int)(out:List B0):Option (List B0×Int×Bool):=
 R2 l (IntKind.i64.wrap (atV1+1))>>=fun x3=>
 if (!x3.2.2)=true then
  some (out,x3.2.1,false)
 else
  if (decide ((out.length+1) * 57≤140737488355328))=true then
   Y0 l x3.2.1 [41]>>=fun x4=>
   if x4=true then
    some ((out++[x3.1]),(IntKind.i64.wrap (x3.2.1+1)),true)
   else
    Y0 l x3.2.1 [44]>>=fun x5=>
    if (!x5)=true then
     some ((out++[x3.1]),x3.2.1,false)
    else
     Zi l x3.2.1 (out++[x3.1])
  else none
 partial_fixpoint
def Bx (l:List F0)(atV:Int):Option (List B0×Int×Bool):=
 Y0 l atV [40]>>=fun x1=>
 if (!x1)=true then
  some ([],atV,false)
 else
  Y0 l (IntKind.i64.wrap (atV+1)) [41]>>=fun x2=>
  if x2=true then
   some ([],(IntKind.i64.wrap (atV+2)),true)
  else
   Zi l atV []
def Cv (l:List F0)(atV:Int):Option (R0×Int×Bool):=
 Fu l atV>>=fun x1=>
 (if (!(!x1.2.2))=true then Y0 l x1.2.1 [61] else some default)>>=fun x2=>
 if (bif (!x1.2.2) then true else (!x2))=true then
  some ((R0.mk 0 (B0.mk 0 0 [] []) (B0.mk 0 0 [] []) [] [] 0 0 0 [] [] []),x1.2.1,false)
 else
  Y0 l (IntKind.i64.wrap (x1.2.1+1)) [114,101,108,101,97,115,101]>>=fun x3=>
  if x3=true then
   F6 l (IntKind.i64.wrap ((IntKind.i64.wrap (x1.2.1+1))+1))>>=fun x4=>
   some ((R0.mk 2 x1.1 (B0.mk 0 0 [] []) x4.1 [] 0 0 0 [] [] []),x4.2.1,x4.2.2)
  else
   Y0 l (IntKind.i64.wrap (x1.2.1+1)) [99,97,108,108]>>=fun x5=>
   if x5=true then
    F6 l (IntKind.i64.wrap ((IntKind.i64.wrap (x1.2.1+1))+1))>>=fun x6=>
    if (!x6.2.2)=true then
     some ((R0.mk 1 x1.1 (B0.mk 0 0 [] []) x6.1 [] 0 0 0 [] [] []),x6.2.1,false)
    else
     Bx l x6.2.1>>=fun x7=>
     some ((R0.mk 1 x1.1 (B0.mk 0 0 [] []) x6.1 x7.1 0 0 0 [] [] []),x7.2.1,x7.2.2)
   else
    R2 l (IntKind.i64.wrap (x1.2.1+1))>>=fun x8=>
    some ((R0.mk 0 x1.1 x8.1 [] [] 0 0 0 [] [] []),x8.2.1,x8.2.2)
mutual
def Dv (l:List F0)(atV:Int):Option (List R0×Int×Bool):=
 Sd l atV []
 partial_fixpoint
def Sd (l:List F0)(atV1:Int)(out:List R0):Option (List R0×Int×Bool):=
 U11 l atV1>>=fun x1=>
 if x1=true then
  Dx l atV1>>=fun x2=>
  if (!x2.2.2)=true then
   some (out,x2.2.1,false)
  else
   if (decide ((out.length+1) * 257≤140737488355328))=true then
    Sd l x2.2.1 (out++[x2.1])
   else none
 else
  some (out,atV1,true)
 partial_fixpoint
def Dx (l:List F0)(atV:Int):Option (R0×Int×Bool):=
 Y0 l atV [105,102]>>=fun x1=>
 if x1=true then
  Yt l (IntKind.i64.wrap (atV+1))>>=fun x2=>
  some (x2.1,x2.2.1,x2.2.2)
 else
  Y0 l atV [119,104,105,108,101]>>=fun x3=>
  if x3=true then
   C13 l (IntKind.i64.wrap (atV+1))>>=fun x4=>
   some (x4.1,x4.2.1,x4.2.2)
  else
   Y0 l atV [102,111,114]>>=fun x5=>
   if x5=true then
    B10 l (IntKind.i64.wrap (atV+1))>>=fun x6=>
    some (x6.1,x6.2.1,x6.2.2)
   else
    Y0 l atV [111,117,116,112,117,116]>>=fun x7=>
    if x7=true then
     R2 l (IntKind.i64.wrap (atV+1))>>=fun x8=>
     Ab l 3 (B0.mk 0 0 [] []) x8.1 [] [] 0 0 0 [] [] [] x8.2.1 x8.2.2
    else
     Y0 l atV [119,97,105,116]>>=fun x10=>
     if x10=true then
      Q3 l (IntKind.i64.wrap (atV+1))>>=fun x11=>
      Ab l 4 (B0.mk 0 0 [] []) (B0.mk 0 0 [] []) [] [] x11.1 0 0 [] [] [] x11.2.1 x11.2.2
     else
      Y0 l atV [115,101,116,116,108,101]>>=fun x12=>
      if x12=true then
       Ky l (IntKind.i64.wrap (atV+1))>>=fun x13=>
       Ab l 8 (B0.mk 0 0 [] []) (B0.mk 0 0 [] []) [] [] 0 0 0 x13.1 [] [] x13.2.1 x13.2.2
      else
       Cv l atV>>=fun x14=>
       Ab l x14.1.Verb x14.1.Place x14.1.Value x14.1.Name x14.1.Args x14.1.NV x14.1.Low x14.1.High x14.1.Numbers x14.1.Then x14.1.Else x14.2.1 x14.2.2
 partial_fixpoint
def B10 (l:List F0)(atV:Int):Option (R0×Int×Bool):=
 F6 l atV>>=fun x1=>
 (if (!(!x1.2.2))=true then Y0 l x1.2.1 [61] else some default)>>=fun x2=>
 if (bif (!x1.2.2) then true else (!x2))=true then
  some ((R0.mk 7 (B0.mk 0 0 [] []) (B0.mk 0 0 [] []) [] [] 0 0 0 [] [] []),x1.2.1,false)
 else
  Q3 l (IntKind.i64.wrap (x1.2.1+1))>>=fun x3=>
  (if (!(!x3.2.2))=true then Y0 l x3.2.1 [116,111] else some default)>>=fun x4=>
  if (bif (!x3.2.2) then true else (!x4))=true then
   some ((R0.mk 7 (B0.mk 0 0 [] []) (B0.mk 0 0 [] []) x1.1 [] 0 x3.1 0 [] [] []),x3.2.1,false)
  else
   Q3 l (IntKind.i64.wrap (x3.2.1+1))>>=fun x5=>
   if (!x5.2.2)=true then
    some ((R0.mk 7 (B0.mk 0 0 [] []) (B0.mk 0 0 [] []) x1.1 [] 0 x3.1 x5.1 [] [] []),x5.2.1,false)
   else
    Kf l x5.2.1>>=fun x6=>
    some ((R0.mk 7 (B0.mk 0 0 [] []) (B0.mk 0 0 [] []) x1.1 [] 0 x3.1 x5.1 [] x6.1 []),x6.2.1,x6.2.2)
 partial_fixpoint
def Kf (l:List F0)(atV:Int):Option (List R0×Int×Bool):=
 Y0 l atV [123]>>=fun x1=>
 if (!x1)=true then
  some ([],atV,false)
 else
  Dv l (IntKind.i64.wrap (atV+1))>>=fun x2=>
  (if (!(!x2.2.2))=true then Y0 l x2.2.1 [125] else some default)>>=fun x3=>
  if (bif (!x2.2.2) then true else (!x3))=true then
   some (x2.1,x2.2.1,false)
  else
   some (x2.1,(IntKind.i64.wrap (x2.2.1+1)),true)
 partial_fixpoint
def C13 (l:List F0)(atV:Int):Option (R0×Int×Bool):=
 R2 l atV>>=fun x1=>
 (if (!(!x1.2.2))=true then Y0 l x1.2.1 [108,105,109,105,116] else some default)>>=fun x2=>
 if (bif (!x1.2.2) then true else (!x2))=true then
  some ((R0.mk 6 (B0.mk 0 0 [] []) (B0.mk 0 0 [] []) [] [] 0 0 0 [] [] []),x1.2.1,false)
 else
  Q3 l (IntKind.i64.wrap (x1.2.1+1))>>=fun x3=>
  if (!x3.2.2)=true then
   some ((R0.mk 6 (B0.mk 0 0 [] []) x1.1 [] [] x3.1 0 0 [] [] []),x3.2.1,false)
  else
   Kf l x3.2.1>>=fun x4=>
   some ((R0.mk 6 (B0.mk 0 0 [] []) x1.1 [] [] x3.1 0 0 [] x4.1 []),x4.2.1,x4.2.2)
 partial_fixpoint
def Yt (l:List F0)(atV:Int):Option (R0×Int×Bool):=
 R2 l atV>>=fun x1=>
 if (!x1.2.2)=true then
  some ((R0.mk 5 (B0.mk 0 0 [] []) (B0.mk 0 0 [] []) [] [] 0 0 0 [] [] []),x1.2.1,false)
 else
  Kf l x1.2.1>>=fun x2=>
  if (!x2.2.2)=true then
   some ((R0.mk 5 (B0.mk 0 0 [] []) x1.1 [] [] 0 0 0 [] x2.1 []),x2.2.1,false)
  else
   Y0 l x2.2.1 [101,108,115,101]>>=fun x3=>
   if x3=true then
    Kf l (IntKind.i64.wrap (x2.2.1+1))>>=fun x4=>
    some ((R0.mk 5 (B0.mk 0 0 [] []) x1.1 [] [] 0 0 0 [] x2.1 x4.1),x4.2.1,x4.2.2)
   else
    some ((R0.mk 5 (B0.mk 0 0 [] []) x1.1 [] [] 0 0 0 [] x2.1 []),x2.2.1,x2.2.2)
 partial_fixpoint
end
end Go.Proofs.YtmnhfbekncjnfaaGreatDoor

set_option maxRecDepth 100000
set_option maxHeartbeats 4000000
set_option synthInstance.maxSize 20000
set_option linter.unusedVariables false
namespace Go.Proofs.YtmnhfbekncjnfaaGreatDoor
open Go.Am
def Ia (fu:Nat)(c:Int):Option Bool:=
 some (bif (decide (c≥97)) then (decide (c≤122)) else false)
theorem Cf (fu:Nat)(c:Int):Le (Ia fu c) (L6 c):=by
 unfold Ia L6
 repeat (first | exact Le.rfl | exact N0 _ | refine Le.bind ?_ (fun _=>?_) | refine Le.ite ?_ ?_ | (rename_i x; cases x))
def B9 (fu:Nat)(c:Int):Option Bool:=
 some (bif (decide (c≥48)) then (decide (c≤57)) else false)
theorem Bd (fu:Nat)(c:Int):Le (B9 fu c) (C5 c):=by
 unfold B9 C5
 repeat (first | exact Le.rfl | exact N0 _ | refine Le.bind ?_ (fun _=>?_) | refine Le.ite ?_ ?_ | (rename_i x; cases x))
def Bc:Nat→Str→Int→Option Int
 | 0,_,_=>none
 | fu+1,s,i1=>
  (if (decide (i1 < ((s).length:Int)))=true then idx s i1 else some default)>>=fun x1=>
  (if (decide (i1 < ((s).length:Int)))=true then Ia fu (x1.toNat:Int) else some default)>>=fun x2=>
  (if ((decide (i1 < ((s).length:Int)))&&(!x2))=true then idx s i1 else some default)>>=fun x3=>
  (if ((decide (i1 < ((s).length:Int)))&&(!x2))=true then B9 fu (x3.toNat:Int) else some default)>>=fun x4=>
  if (bif (decide (i1 < ((s).length:Int))) then (bif x2 then true else x4) else false)=true then
   Bc fu s (IntKind.i64.wrap (i1+1))
  else
   some i1
theorem Ev (fu:Nat):(∀ (s:Str) (i1:Int),Le (Bc fu s i1) (U4 s i1)):=by
 induction fu with
 | zero=>exact fun _ _=>Le.none
 | succ fu ih=>
  have ih0:=ih
  refine fun s i1=>?_
  ·rw [Bc,U4]
   repeat (first | exact Le.rfl | exact ih0 _ _ | exact Cf fu _ | exact Bd fu _ | exact N0 _ | refine Le.bind ?_ (fun _=>?_) | refine Le.ite ?_ ?_ | (rename_i x; cases x))
theorem Gx (fu:Nat)(s:Str)(i1:Int):Le (Bc fu s i1) (U4 s i1):=(Ev fu) s i1
def Ei (fu:Nat)(s:Str)(i:Int):Option Int:=
 Bc fu s i
theorem V11 (fu:Nat)(s:Str)(i:Int):Le (Ei fu s i) (Ae s i):=by
 unfold Ei Ae
 repeat (first | exact Le.rfl | exact Gx fu _ _ | exact N0 _ | refine Le.bind ?_ (fun _=>?_) | refine Le.ite ?_ ?_ | (rename_i x; cases x))
def Cd (fu:Nat)(C6:Str):Option Bool:=
 (if (!(C6 == []))=true then Xc C6 [32] else some default)>>=fun x1=>
 if (!(bif (!(C6 == [])) then (!x1) else false)||(decide (1+C6.length≤maxLen)))=true then
  if (!(bif (!(C6 == [])) then (!x1) else false)||(decide (([32]++C6).length+1≤maxLen)))=true then
   (if (bif (!(C6 == [])) then (!x1) else false)=true then Xc [32,116,121,112,101,32,115,101,99,114,101,116,32,112,117,98,108,105,99,32,114,97,110,100,111,109,32,118,97,114,32,104,97,116,99,104,32,102,117,110,99,32,114,101,116,117,114,110,32,98,101,103,105,110,32,101,110,100,32,98,111,111,108,32,105,110,116,32,97,114,114,97,121,32,111,102,32,114,101,99,111,114,100,32,116,114,117,101,32,102,97,108,115,101,32,99,97,108,108,32,114,101,108,101,97,115,101,32,111,117,116,112,117,116,32,119,97,105,116,32,105,102,32,101,108,115,101,32,119,104,105,108,101,32,108,105,109,105,116,32,102,111,114,32,116,111,32,115,101,116,116,108,101,32,109,105,110,32,109,97,120,32] (([32]++C6)++[32]) else some default)>>=fun x2=>
   some (bif (bif (!(C6 == [])) then (!x1) else false) then x2 else false)
  else none
 else none
theorem Xj (fu:Nat)(C6:Str):Le (Cd fu C6) (G5 C6):=by
 unfold Cd G5
 repeat (first | exact Le.rfl | exact N0 _ | refine Le.bind ?_ (fun _=>?_) | refine Le.ite ?_ ?_ | (rename_i x; cases x))
def E9:Nat→Str→Int→Int→Option Int
 | 0,_,_,_=>none
 | fu+1,s,n,v7=>
  if (decide (v7 < ((s).length:Int)))=true then
   idx s v7>>=fun x1=>
   B9 fu (x1.toNat:Int)>>=fun x2=>
   if (!x2)=true then
    some 6
   else
    idx s v7>>=fun x3=>
    E9 fu s (min (IntKind.i64.wrap ((IntKind.i64.wrap (10 * n))+(IntKind.i64.wrap (IntKind.u8.wrap ((x3.toNat:Int) - 48))))) 1048577) (IntKind.i64.wrap (v7+1))
  else
   idx s 0>>=fun x4=>
   if (bif ((x4.toNat:Int) == 48) then (decide (((s).length:Int) > 1)) else false)=true then
    some 6
   else
    if (decide (n > 1048576))=true then
     some 3
    else
     some 0
theorem Dr (fu:Nat):(∀ (s:Str) (n:Int) (v7:Int),Le (E9 fu s n v7) (Z2 s n v7)):=by
 induction fu with
 | zero=>exact fun _ _ _=>Le.none
 | succ fu ih=>
  have ih0:=ih
  refine fun s n v7=>?_
  ·rw [E9,Z2]
   repeat (first | exact Le.rfl | exact ih0 _ _ _ | exact Bd fu _ | exact N0 _ | refine Le.bind ?_ (fun _=>?_) | refine Le.ite ?_ ?_ | (rename_i x; cases x))
theorem Us (fu:Nat)(s:Str)(n:Int)(v7:Int):Le (E9 fu s n v7) (Z2 s n v7):=(Dr fu) s n v7
def Qh (fu:Nat)(s:Str):Option Int:=
 E9 fu s 0 0
theorem Hx (fu:Nat)(s:Str):Le (Qh fu s) (Wb s):=by
 unfold Qh Wb
 repeat (first | exact Le.rfl | exact Us fu _ _ _ | exact N0 _ | refine Le.bind ?_ (fun _=>?_) | refine Le.ite ?_ ?_ | (rename_i x; cases x))
def Xd (fu:Nat)(s:Str):Option Str:=
 idx s 0>>=fun x3=>
 Di [59,58,44,46,61,43,45,42,47,37,60,62,33,63,40,41,91,93,123,125] (x3.toNat:Int)>>=fun x4=>
 if (decide (x4≥0))=true then
  slc s 0 1>>=fun x5=>
  some x5
 else
  some []
theorem Hl (fu:Nat)(s:Str):Le (Xd fu s) (O7 s):=by
 unfold Xd O7
 repeat (first | exact Le.rfl | exact N0 _ | refine Le.bind ?_ (fun _=>?_) | refine Le.ite ?_ ?_ | (rename_i x; cases x))
def M4 (fu:Nat)(s:Str)(v8:Bool):Option Str:=
 if v8=true then
  slc s 0 2>>=fun x2=>
  some x2
 else
  Xd fu s
theorem Fv (fu:Nat)(s:Str)(v8:Bool):Le (M4 fu s v8) (P3 s v8):=by
 unfold M4 P3
 repeat (first | exact Le.rfl | exact Hl fu _ | exact N0 _ | refine Le.bind ?_ (fun _=>?_) | refine Le.ite ?_ ?_ | (rename_i x; cases x))
def Il (fu:Nat)(s:Str):Option Str:=
 if (decide (((s).length:Int)≥2))=true then
  slc s 0 2>>=fun x1=>
  if (x1 == [46,46])=true then
   M4 fu s (x1 == [46,46])
  else
   if (x1 == [61,61])=true then
    M4 fu s (x1 == [61,61])
   else
    if (x1 == [33,61])=true then
     M4 fu s (x1 == [33,61])
    else
     if (x1 == [60,61])=true then
      M4 fu s (x1 == [60,61])
     else
      if (x1 == [62,61])=true then
       M4 fu s (x1 == [62,61])
      else
       if (x1 == [38,38])=true then
        M4 fu s (x1 == [38,38])
       else
        M4 fu s (x1 == [124,124])
 else
  Xd fu s
theorem C10 (fu:Nat)(s:Str):Le (Il fu s) (L9 s):=by
 unfold Il L9
 repeat (first | exact Le.rfl | exact Fv fu _ _ | exact Hl fu _ | exact N0 _ | refine Le.bind ?_ (fun _=>?_) | refine Le.ite ?_ ?_ | (rename_i x; cases x))
def Jl (fu:Nat)(s:Str)(i:Int):Option (F0×Int):=
 idx s i>>=fun x1=>
 Ia fu (x1.toNat:Int)>>=fun x2=>
 if x2=true then
  Ei fu s i>>=fun x3=>
  slc s i x3>>=fun x4=>
  Cd fu x4>>=fun x5=>
  if x5=true then
   some ((F0.mk 2 x4 i),0)
  else
   if (decide (((x4).length:Int) > 12))=true then
    some ((F0.mk 0 x4 i),7)
   else
    some ((F0.mk 0 x4 i),0)
 else
  B9 fu (x1.toNat:Int)>>=fun x6=>
  if x6=true then
   Ei fu s i>>=fun x7=>
   slc s i x7>>=fun x8=>
   Qh fu x8>>=fun x9=>
   some ((F0.mk 1 x8 i),x9)
  else
   slc s i ((s).length:Int)>>=fun x10=>
   Il fu x10>>=fun x11=>
   if (x11 == [])=true then
    some ((F0.mk 3 x11 i),6)
   else
    some ((F0.mk 3 x11 i),0)
theorem Gj (fu:Nat)(s:Str)(i:Int):Le (Jl fu s i) (Va s i):=by
 unfold Jl Va
 repeat (first | exact Le.rfl | exact Cf fu _ | exact V11 fu _ _ | exact Xj fu _ | exact Bd fu _ | exact Hx fu _ | exact C10 fu _ | exact N0 _ | refine Le.bind ?_ (fun _=>?_) | refine Le.ite ?_ ?_ | (rename_i x; cases x))
mutual
def D8:Nat→Str→(List F0)→Int→Option (List F0×Int×Int)
 | 0,_,_,_=>none
 | fu+1,s,out,i=>
  if (decide (i < ((s).length:Int)))=true then
   idx s i>>=fun x1=>
   if ((x1.toNat:Int) == 32)=true then
    Cc fu s out i x1 ((x1.toNat:Int) == 32)
   else
    if ((x1.toNat:Int) == 9)=true then
     Cc fu s out i x1 ((x1.toNat:Int) == 9)
    else
     Cc fu s out i x1 ((x1.toNat:Int) == 10)
  else
   some (out,0,0)
def Cc:Nat→Str→(List F0)→Int→UInt8→Bool→Option (List F0×Int×Int)
 | 0,_,_,_,_,_=>none
 | fu+1,s,out1,i1,x1,v19=>
  if v19=true then
   D8 fu s out1 (IntKind.i64.wrap (i1+1))
  else
   if ((x1.toNat:Int) == 35)=true then
    Ye fu s out1 i1
   else
    Jl fu s i1>>=fun x2=>
    if (x2.2 != 0)=true then
     some ([],i1,x2.2)
    else
     if (decide ((out1.length+1) * 33≤140737488355328))=true then
      D8 fu s (out1++[x2.1]) (IntKind.i64.wrap (i1+((x2.1.Text).length:Int)))
     else none
def Ye:Nat→Str→(List F0)→Int→Option (List F0×Int×Int)
 | 0,_,_,_=>none
 | fu+1,s,out2,i2=>
  (if (decide (i2 < ((s).length:Int)))=true then idx s i2 else some default)>>=fun x3=>
  if (bif (decide (i2 < ((s).length:Int))) then ((x3.toNat:Int) != 10) else false)=true then
   Ye fu s out2 (IntKind.i64.wrap (i2+1))
  else
   D8 fu s out2 i2
end
theorem Gv (fu:Nat):(∀ (s:Str) (out:List F0) (i:Int),Le (D8 fu s out i) (L2 s out i))∧(∀ (s:Str) (out1:List F0) (i1:Int) (x1:UInt8) (v19:Bool),Le (Cc fu s out1 i1 x1 v19) (O8 s out1 i1 x1 v19))∧(∀ (s:Str) (out2:List F0) (i2:Int),Le (Ye fu s out2 i2) (B6 s out2 i2)):=by
 induction fu with
 | zero=>exact ⟨fun _ _ _=>Le.none,fun _ _ _ _ _=>Le.none,fun _ _ _=>Le.none⟩
 | succ fu ih=>
  obtain ⟨ih0,ih1,ih2⟩:=ih
  refine ⟨fun s out i=>?_,fun s out1 i1 x1 v19=>?_,fun s out2 i2=>?_⟩
  ·rw [D8,L2]
   repeat (first | exact Le.rfl | exact ih0 _ _ _ | exact ih1 _ _ _ _ _ | exact ih2 _ _ _ | exact Gj fu _ _ | exact N0 _ | refine Le.bind ?_ (fun _=>?_) | refine Le.ite ?_ ?_ | (rename_i x; cases x))
  ·rw [Cc,O8]
   repeat (first | exact Le.rfl | exact ih0 _ _ _ | exact ih1 _ _ _ _ _ | exact ih2 _ _ _ | exact Gj fu _ _ | exact N0 _ | refine Le.bind ?_ (fun _=>?_) | refine Le.ite ?_ ?_ | (rename_i x; cases x))
  ·rw [Ye,B6]
   repeat (first | exact Le.rfl | exact ih0 _ _ _ | exact ih1 _ _ _ _ _ | exact ih2 _ _ _ | exact Gj fu _ _ | exact N0 _ | refine Le.bind ?_ (fun _=>?_) | refine Le.ite ?_ ?_ | (rename_i x; cases x))
theorem Ix (fu:Nat)(s:Str)(out:List F0)(i:Int):Le (D8 fu s out i) (L2 s out i):=(Gv fu).1 s out i
def Cn (fu:Nat)(s:Str):Option (List F0×Int×Int):=
 if (decide (((s).length:Int) > 8192))=true then
  some ([],0,5)
 else
  D8 fu s [] 0
theorem W11 (fu:Nat)(s:Str):Le (Cn fu s) (Kc s):=by
 unfold Cn Kc
 repeat (first | exact Le.rfl | exact Ix fu _ _ _ | exact N0 _ | refine Le.bind ?_ (fun _=>?_) | refine Le.ite ?_ ?_ | (rename_i x; cases x))
def Je (fu:Nat)(text:Str)(parserParser:A0):Option Bool:=
 if (decide (parserParser.next≥((parserParser.tokens).length:Int)))=true then
  some false
 else
  idx parserParser.tokens parserParser.next>>=fun x1=>
  some (bif (x1.Text == text) then (bif (x1.Kind == 2) then true else (x1.Kind == 3)) else false)
theorem Er (fu:Nat)(text:Str)(parserParser:A0):Le (Je fu text parserParser) (V4 text parserParser):=by
 unfold Je V4
 repeat (first | exact Le.rfl | exact N0 _ | refine Le.bind ?_ (fun _=>?_) | refine Le.ite ?_ ?_ | (rename_i x; cases x))
def X0 (fu:Nat)(text:Str)(parserParser:A0):Option (Bool×A0):=
 Je fu text parserParser>>=fun x1=>
 if (!x1)=true then
  some (false,parserParser)
 else
  some (true,(A0.mk parserParser.tokens (IntKind.i64.wrap (parserParser.next+1)) parserParser.endV))
theorem V0 (fu:Nat)(text:Str)(parserParser:A0):Le (X0 fu text parserParser) (L0 text parserParser):=by
 unfold X0 L0
 repeat (first | exact Le.rfl | exact Er fu _ _ | exact N0 _ | refine Le.bind ?_ (fun _=>?_) | refine Le.ite ?_ ?_ | (rename_i x; cases x))
def Kb (fu:Nat)(parserParser:A0):Option Bool:=
 (if (decide (parserParser.next < ((parserParser.tokens).length:Int)))=true then idx parserParser.tokens parserParser.next else some default)>>=fun x1=>
 some (bif (decide (parserParser.next < ((parserParser.tokens).length:Int))) then (x1.Kind == 0) else false)
theorem A1 (fu:Nat)(parserParser:A0):Le (Kb fu parserParser) (H5 parserParser):=by
 unfold Kb H5
 repeat (first | exact Le.rfl | exact N0 _ | refine Le.bind ?_ (fun _=>?_) | refine Le.ite ?_ ?_ | (rename_i x; cases x))
def F7 (fu:Nat)(parserParser:A0):Option (Pn Unit):=
 if (decide (parserParser.next < ((parserParser.tokens).length:Int)))=true then
  idx parserParser.tokens parserParser.next>>=fun x1=>
  some (.pn x1.At)
 else
  some (.pn parserParser.endV)
theorem Dc (fu:Nat)(parserParser:A0):Le (F7 fu parserParser) (V2 parserParser):=by
 unfold F7 V2
 repeat (first | exact Le.rfl | exact N0 _ | refine Le.bind ?_ (fun _=>?_) | refine Le.ite ?_ ?_ | (rename_i x; cases x))
def Q7 (fu:Nat)(parserParser:A0):Option (Pn (Str×A0)):=
 idx parserParser.tokens (IntKind.i64.wrap ((IntKind.i64.wrap (parserParser.next+1)) - 1))>>=fun x3=>
 some (.ok (x3.Text,(A0.mk parserParser.tokens (IntKind.i64.wrap (parserParser.next+1)) parserParser.endV)))
theorem Kl (fu:Nat)(parserParser:A0):Le (Q7 fu parserParser) (R3 parserParser):=by
 unfold Q7 R3
 repeat (first | exact Le.rfl | exact N0 _ | refine Le.bind ?_ (fun _=>?_) | refine Le.ite ?_ ?_ | (rename_i x; cases x))
def M9 (fu:Nat)(k:Int)(parserParser:A0):Option (Pn (Str×A0)):=
 (if (!(decide (parserParser.next≥((parserParser.tokens).length:Int))))=true then idx parserParser.tokens parserParser.next else some default)>>=fun x1=>
 if (bif (decide (parserParser.next≥((parserParser.tokens).length:Int))) then true else (x1.Kind != k))=true then
  F7 fu parserParser>>=fun x2=>match x2 with
  | .pn nn=>
  some (.pn nn)
  | .ok x2=>
  Q7 fu parserParser
 else
  Q7 fu parserParser
theorem Dg (fu:Nat)(k:Int)(parserParser:A0):Le (M9 fu k parserParser) (Y3 k parserParser):=by
 unfold M9 Y3
 repeat (first | exact Le.rfl | exact Dc fu _ | exact Kl fu _ | exact N0 _ | refine Le.bind ?_ (fun _=>?_) | refine Le.ite ?_ ?_ | (rename_i x; cases x))
def N9 (fu:Nat)(parserParser:A0):Option (Pn (Str×A0)):=
 M9 fu 0 parserParser>>=fun x1=>match x1 with
 | .pn nn=>
 some (.pn nn)
 | .ok x1=>
 some (.ok (x1.1,x1.2))
theorem E1 (fu:Nat)(parserParser:A0):Le (N9 fu parserParser) (I2 parserParser):=by
 unfold N9 I2
 repeat (first | exact Le.rfl | exact Dg fu _ _ | exact N0 _ | refine Le.bind ?_ (fun _=>?_) | refine Le.ite ?_ ?_ | (rename_i x; cases x))
def H3 (fu:Nat)(text:Str)(parserParser:A0):Option (Pn A0):=
 X0 fu text parserParser>>=fun x1=>
 if (!x1.1)=true then
  F7 fu x1.2>>=fun x2=>match x2 with
  | .pn nn=>
  some (.pn nn)
  | .ok x2=>
  some (.ok x1.2)
 else
  some (.ok x1.2)
theorem F1 (fu:Nat)(text:Str)(parserParser:A0):Le (H3 fu text parserParser) (P0 text parserParser):=by
 unfold H3 P0
 repeat (first | exact Le.rfl | exact V0 fu _ _ | exact Dc fu _ | exact N0 _ | refine Le.bind ?_ (fun _=>?_) | refine Le.ite ?_ ?_ | (rename_i x; cases x))
def Lb (fu:Nat)(parserParser:A0):Option (Pn (Int×A0)):=
 M9 fu 1 parserParser>>=fun x1=>match x1 with
 | .pn nn=>
 some (.pn nn)
 | .ok x1=>
 Yn x1.1>>=fun x2=>
 some (.ok (x2,x1.2))
theorem B1 (fu:Nat)(parserParser:A0):Le (Lb fu parserParser) (U2 parserParser):=by
 unfold Lb U2
 repeat (first | exact Le.rfl | exact Dg fu _ _ | exact N0 _ | refine Le.bind ?_ (fun _=>?_) | refine Le.ite ?_ ?_ | (rename_i x; cases x))
def O9 (fu:Nat)(parserParser:A0):Option (Int×Bool×A0):=
 X0 fu [42] parserParser>>=fun x1=>
 if x1.1=true then
  some (10,true,x1.2)
 else
  X0 fu [47] x1.2>>=fun x2=>
  if x2.1=true then
   some (11,true,x2.2)
  else
   X0 fu [37] x2.2>>=fun x3=>
   some (12,x3.1,x3.2)
theorem W0 (fu:Nat)(parserParser:A0):Le (O9 fu parserParser) (N5 parserParser):=by
 unfold O9 N5
 repeat (first | exact Le.rfl | exact V0 fu _ _ | exact N0 _ | refine Le.bind ?_ (fun _=>?_) | refine Le.ite ?_ ?_ | (rename_i x; cases x))
def Ec (fu:Nat)(parserParser:A0):Option (Int×Bool×A0):=
 X0 fu [43] parserParser>>=fun x1=>
 if x1.1=true then
  some (8,true,x1.2)
 else
  X0 fu [45] x1.2>>=fun x2=>
  some (9,x2.1,x2.2)
theorem C1 (fu:Nat)(parserParser:A0):Le (Ec fu parserParser) (W7 parserParser):=by
 unfold Ec W7
 repeat (first | exact Le.rfl | exact V0 fu _ _ | exact N0 _ | refine Le.bind ?_ (fun _=>?_) | refine Le.ite ?_ ?_ | (rename_i x; cases x))
def Fc (fu:Nat)(parserParser:A0):Option (Int×Bool×A0):=
 X0 fu [38,38] parserParser>>=fun x1=>
 some (19,x1.1,x1.2)
theorem D1 (fu:Nat)(parserParser:A0):Le (Fc fu parserParser) (X7 parserParser):=by
 unfold Fc X7
 repeat (first | exact Le.rfl | exact V0 fu _ _ | exact N0 _ | refine Le.bind ?_ (fun _=>?_) | refine Le.ite ?_ ?_ | (rename_i x; cases x))
def Dd (fu:Nat)(parserParser:A0):Option (Int×Bool×A0):=
 X0 fu [124,124] parserParser>>=fun x1=>
 some (20,x1.1,x1.2)
theorem G1 (fu:Nat)(parserParser:A0):Le (Dd fu parserParser) (P8 parserParser):=by
 unfold Dd P8
 repeat (first | exact Le.rfl | exact V0 fu _ _ | exact N0 _ | refine Le.bind ?_ (fun _=>?_) | refine Le.ite ?_ ?_ | (rename_i x; cases x))
mutual
def X1:Nat→A0→Option (Pn (B0×A0))
 | 0,_=>none
 | fu+1,parserParser=>
  Ke fu parserParser>>=fun x1=>match x1 with
  | .pn nn=>
  some (.pn nn)
  | .ok x1=>
  X0 fu [63] x1.2>>=fun x2=>
  if (!x2.1)=true then
   some (.ok (x1.1,x2.2))
  else
   X1 fu x2.2>>=fun x3=>match x3 with
   | .pn nn=>
   some (.pn nn)
   | .ok x3=>
   H3 fu [58] x3.2>>=fun x4=>match x4 with
   | .pn nn=>
   some (.pn nn)
   | .ok x4=>
   X1 fu x4>>=fun x5=>match x5 with
   | .pn nn=>
   some (.pn nn)
   | .ok x5=>
   some (.ok ((B0.mk 23 0 [] [x1.1,x3.1,x5.1]),x5.2))
def Ke:Nat→A0→Option (Pn (B0×A0))
 | 0,_=>none
 | fu+1,parserParser=>
  Gc fu parserParser>>=fun x1=>match x1 with
  | .pn nn=>
  some (.pn nn)
  | .ok x1=>
  some (.ok (x1.1,x1.2))
def Gc:Nat→A0→Option (Pn (B0×A0))
 | 0,_=>none
 | fu+1,parserParser=>
  Ra fu parserParser>>=fun x1=>match x1 with
  | .pn nn=>
  some (.pn nn)
  | .ok x1=>
  G7 fu x1.2 x1.1
def Ra:Nat→A0→Option (Pn (B0×A0))
 | 0,_=>none
 | fu+1,parserParser=>
  Ja fu parserParser>>=fun x1=>match x1 with
  | .pn nn=>
  some (.pn nn)
  | .ok x1=>
  some (.ok (x1.1,x1.2))
def Ja:Nat→A0→Option (Pn (B0×A0))
 | 0,_=>none
 | fu+1,parserParser=>
  G6 fu parserParser>>=fun x1=>match x1 with
  | .pn nn=>
  some (.pn nn)
  | .ok x1=>
  Z5 fu x1.2 x1.1
def G6:Nat→A0→Option (Pn (B0×A0))
 | 0,_=>none
 | fu+1,parserParser=>
  Sa fu parserParser>>=fun x1=>match x1 with
  | .pn nn=>
  some (.pn nn)
  | .ok x1=>
  X0 fu [61,61] x1.2>>=fun x2=>
  if x2.1=true then
   C2 fu x2.2 x1 13
  else
   X0 fu [33,61] x2.2>>=fun x4=>
   if x4.1=true then
    C2 fu x4.2 x1 14
   else
    X0 fu [60] x4.2>>=fun x5=>
    if x5.1=true then
     C2 fu x5.2 x1 15
    else
     X0 fu [60,61] x5.2>>=fun x6=>
     if x6.1=true then
      C2 fu x6.2 x1 16
     else
      X0 fu [62] x6.2>>=fun x7=>
      if x7.1=true then
       C2 fu x7.2 x1 17
      else
       X0 fu [62,61] x7.2>>=fun x8=>
       if x8.1=true then
        C2 fu x8.2 x1 18
       else
        some (.ok (x1.1,x8.2))
def Sa:Nat→A0→Option (Pn (B0×A0))
 | 0,_=>none
 | fu+1,parserParser=>
  Ka fu parserParser>>=fun x1=>match x1 with
  | .pn nn=>
  some (.pn nn)
  | .ok x1=>
  some (.ok (x1.1,x1.2))
def Ka:Nat→A0→Option (Pn (B0×A0))
 | 0,_=>none
 | fu+1,parserParser=>
  R7 fu parserParser>>=fun x1=>match x1 with
  | .pn nn=>
  some (.pn nn)
  | .ok x1=>
  Y5 fu x1.2 x1.1
def R7:Nat→A0→Option (Pn (B0×A0))
 | 0,_=>none
 | fu+1,parserParser=>
  La fu parserParser>>=fun x1=>match x1 with
  | .pn nn=>
  some (.pn nn)
  | .ok x1=>
  some (.ok (x1.1,x1.2))
def La:Nat→A0→Option (Pn (B0×A0))
 | 0,_=>none
 | fu+1,parserParser=>
  Q4 fu parserParser>>=fun x1=>match x1 with
  | .pn nn=>
  some (.pn nn)
  | .ok x1=>
  X5 fu x1.2 x1.1
def Q4:Nat→A0→Option (Pn (B0×A0))
 | 0,_=>none
 | fu+1,parserParser=>
  X0 fu [45] parserParser>>=fun x1=>
  if x1.1=true then
   Q4 fu x1.2>>=fun x4=>match x4 with
   | .pn nn=>
   some (.pn nn)
   | .ok x4=>
   some (.ok ((B0.mk 6 0 [] [x4.1]),x4.2))
  else
   X0 fu [33] x1.2>>=fun x2=>
   if x2.1=true then
    Q4 fu x2.2>>=fun x5=>match x5 with
    | .pn nn=>
    some (.pn nn)
    | .ok x5=>
    some (.ok ((B0.mk 7 0 [] [x5.1]),x5.2))
   else
    Ta fu x2.2>>=fun x3=>match x3 with
    | .pn nn=>
    some (.pn nn)
    | .ok x3=>
    some (.ok (x3.1,x3.2))
def Ta:Nat→A0→Option (Pn (B0×A0))
 | 0,_=>none
 | fu+1,parserParser=>
  Kb fu parserParser>>=fun x1=>
  if x1=true then
   Hc fu parserParser>>=fun x2=>match x2 with
   | .pn nn=>
   some (.pn nn)
   | .ok x2=>
   some (.ok (x2.1,x2.2))
  else
   X0 fu [116,114,117,101] parserParser>>=fun x3=>
   if x3.1=true then
    some (.ok ((B0.mk 1 0 [] []),x3.2))
   else
    X0 fu [102,97,108,115,101] x3.2>>=fun x4=>
    if x4.1=true then
     some (.ok ((B0.mk 2 0 [] []),x4.2))
    else
     X0 fu [109,105,110] x4.2>>=fun x5=>
     if x5.1=true then
      P9 fu 21 x5.2>>=fun x11=>match x11 with
      | .pn nn=>
      some (.pn nn)
      | .ok x11=>
      some (.ok (x11.1,x11.2))
     else
      X0 fu [109,97,120] x5.2>>=fun x6=>
      if x6.1=true then
       P9 fu 22 x6.2>>=fun x12=>match x12 with
       | .pn nn=>
       some (.pn nn)
       | .ok x12=>
       some (.ok (x12.1,x12.2))
      else
       X0 fu [40] x6.2>>=fun x7=>
       if x7.1=true then
        X1 fu x7.2>>=fun x9=>match x9 with
        | .pn nn=>
        some (.pn nn)
        | .ok x9=>
        H3 fu [41] x9.2>>=fun x10=>match x10 with
        | .pn nn=>
        some (.pn nn)
        | .ok x10=>
        some (.ok (x9.1,x10))
       else
        Lb fu x7.2>>=fun x8=>match x8 with
        | .pn nn=>
        some (.pn nn)
        | .ok x8=>
        some (.ok ((B0.mk 0 x8.1 [] []),x8.2))
def Hc:Nat→A0→Option (Pn (B0×A0))
 | 0,_=>none
 | fu+1,parserParser=>
  N9 fu parserParser>>=fun x1=>match x1 with
  | .pn nn=>
  some (.pn nn)
  | .ok x1=>
  B5 fu x1.2 3 x1.1 []
def B5:Nat→A0→Int→Str→(List B0)→Option (Pn (B0×A0))
 | 0,_,_,_,_=>none
 | fu+1,o0,o2_Op,o2_Name,o2_Kids=>
  X0 fu [46] o0>>=fun x2=>
  if x2.1=true then
   N9 fu x2.2>>=fun x3=>match x3 with
   | .pn nn=>
   some (.pn nn)
   | .ok x3=>
   B5 fu x3.2 4 x3.1 [(B0.mk o2_Op 0 o2_Name o2_Kids)]
  else
   X0 fu [91] x2.2>>=fun x4=>
   if x4.1=true then
    X1 fu x4.2>>=fun x5=>match x5 with
    | .pn nn=>
    some (.pn nn)
    | .ok x5=>
    H3 fu [93] x5.2>>=fun x6=>match x6 with
    | .pn nn=>
    some (.pn nn)
    | .ok x6=>
    B5 fu x6 5 [] [(B0.mk o2_Op 0 o2_Name o2_Kids),x5.1]
   else
    some (.ok ((B0.mk o2_Op 0 o2_Name o2_Kids),x4.2))
def P9:Nat→Int→A0→Option (Pn (B0×A0))
 | 0,_,_=>none
 | fu+1,op,parserParser=>
  H3 fu [40] parserParser>>=fun x1=>match x1 with
  | .pn nn=>
  some (.pn nn)
  | .ok x1=>
  X1 fu x1>>=fun x2=>match x2 with
  | .pn nn=>
  some (.pn nn)
  | .ok x2=>
  H3 fu [44] x2.2>>=fun x3=>match x3 with
  | .pn nn=>
  some (.pn nn)
  | .ok x3=>
  X1 fu x3>>=fun x4=>match x4 with
  | .pn nn=>
  some (.pn nn)
  | .ok x4=>
  H3 fu [41] x4.2>>=fun x5=>match x5 with
  | .pn nn=>
  some (.pn nn)
  | .ok x5=>
  some (.ok ((B0.mk op 0 [] [x2.1,x4.1]),x5))
def X5:Nat→A0→B0→Option (Pn (B0×A0))
 | 0,_,_=>none
 | fu+1,o0,o3=>
  O9 fu o0>>=fun x2=>
  if (!x2.2.1)=true then
   some (.ok (o3,x2.2.2))
  else
   Q4 fu x2.2.2>>=fun x3=>match x3 with
   | .pn nn=>
   some (.pn nn)
   | .ok x3=>
   X5 fu x3.2 (B0.mk x2.1 0 [] [o3,x3.1])
def Y5:Nat→A0→B0→Option (Pn (B0×A0))
 | 0,_,_=>none
 | fu+1,o0,o3=>
  Ec fu o0>>=fun x2=>
  if (!x2.2.1)=true then
   some (.ok (o3,x2.2.2))
  else
   R7 fu x2.2.2>>=fun x3=>match x3 with
   | .pn nn=>
   some (.pn nn)
   | .ok x3=>
   Y5 fu x3.2 (B0.mk x2.1 0 [] [o3,x3.1])
def C2:Nat→A0→(B0×A0)→Int→Option (Pn (B0×A0))
 | 0,_,_,_=>none
 | fu+1,o0,x1,op=>
  Sa fu o0>>=fun x3=>match x3 with
  | .pn nn=>
  some (.pn nn)
  | .ok x3=>
  some (.ok ((B0.mk op 0 [] [x1.1,x3.1]),x3.2))
def Z5:Nat→A0→B0→Option (Pn (B0×A0))
 | 0,_,_=>none
 | fu+1,o0,o3=>
  Fc fu o0>>=fun x2=>
  if (!x2.2.1)=true then
   some (.ok (o3,x2.2.2))
  else
   G6 fu x2.2.2>>=fun x3=>match x3 with
   | .pn nn=>
   some (.pn nn)
   | .ok x3=>
   Z5 fu x3.2 (B0.mk x2.1 0 [] [o3,x3.1])
def G7:Nat→A0→B0→Option (Pn (B0×A0))
 | 0,_,_=>none
 | fu+1,o0,o3=>
  Dd fu o0>>=fun x2=>
  if (!x2.2.1)=true then
   some (.ok (o3,x2.2.2))
  else
   Ra fu x2.2.2>>=fun x3=>match x3 with
   | .pn nn=>
   some (.pn nn)
   | .ok x3=>
   G7 fu x3.2 (B0.mk x2.1 0 [] [o3,x3.1])
end
theorem Rh (fu:Nat):(∀ (parserParser:A0),Le (X1 fu parserParser) (Z0 parserParser))∧(∀ (parserParser:A0),Le (Ke fu parserParser) (Ba parserParser))∧(∀ (parserParser:A0),Le (Gc fu parserParser) (Qa parserParser))∧(∀ (parserParser:A0),Le (Ra fu parserParser) (K7 parserParser))∧(∀ (parserParser:A0),Le (Ja fu parserParser) (J8 parserParser))∧(∀ (parserParser:A0),Le (G6 fu parserParser) (S3 parserParser))∧(∀ (parserParser:A0),Le (Sa fu parserParser) (L7 parserParser))∧(∀ (parserParser:A0),Le (Ka fu parserParser) (K8 parserParser))∧(∀ (parserParser:A0),Le (R7 fu parserParser) (P4 parserParser))∧(∀ (parserParser:A0),Le (La fu parserParser) (L8 parserParser))∧(∀ (parserParser:A0),Le (Q4 fu parserParser) (O3 parserParser))∧(∀ (parserParser:A0),Le (Ta fu parserParser) (Z8 parserParser))∧(∀ (parserParser:A0),Le (Hc fu parserParser) (Y7 parserParser))∧(∀ (o0:A0) (o2_Op:Int) (o2_Name:Str) (o2_Kids:List B0),Le (B5 fu o0 o2_Op o2_Name o2_Kids) (I3 o0 o2_Op o2_Name o2_Kids))∧(∀ (op:Int) (parserParser:A0),Le (P9 fu op parserParser) (Q8 op parserParser))∧(∀ (o0:A0) (o3:B0),Le (X5 fu o0 o3) (M3 o0 o3))∧(∀ (o0:A0) (o3:B0),Le (Y5 fu o0 o3) (L3 o0 o3))∧(∀ (o0:A0) (x1:B0×A0) (op:Int),Le (C2 fu o0 x1 op) (A2 o0 x1 op))∧(∀ (o0:A0) (o3:B0),Le (Z5 fu o0 o3) (K3 o0 o3))∧(∀ (o0:A0) (o3:B0),Le (G7 fu o0 o3) (F4 o0 o3)):=by
 induction fu with
 | zero=>exact ⟨fun _=>Le.none,fun _=>Le.none,fun _=>Le.none,fun _=>Le.none,fun _=>Le.none,fun _=>Le.none,fun _=>Le.none,fun _=>Le.none,fun _=>Le.none,fun _=>Le.none,fun _=>Le.none,fun _=>Le.none,fun _=>Le.none,fun _ _ _ _=>Le.none,fun _ _=>Le.none,fun _ _=>Le.none,fun _ _=>Le.none,fun _ _ _=>Le.none,fun _ _=>Le.none,fun _ _=>Le.none⟩
 | succ fu ih=>
  obtain ⟨ih0,ih1,ih2,ih3,ih4,ih5,ih6,ih7,ih8,ih9,ih10,ih11,ih12,ih13,ih14,ih15,ih16,ih17,ih18,ih19⟩:=ih
  refine ⟨fun parserParser=>?_,fun parserParser=>?_,fun parserParser=>?_,fun parserParser=>?_,fun parserParser=>?_,fun parserParser=>?_,fun parserParser=>?_,fun parserParser=>?_,fun parserParser=>?_,fun parserParser=>?_,fun parserParser=>?_,fun parserParser=>?_,fun parserParser=>?_,fun o0 o2_Op o2_Name o2_Kids=>?_,fun op parserParser=>?_,fun o0 o3=>?_,fun o0 o3=>?_,fun o0 x1 op=>?_,fun o0 o3=>?_,fun o0 o3=>?_⟩
  ·rw [X1,Z0]
   repeat (first | exact Le.rfl | exact ih0 _ | exact ih1 _ | exact ih2 _ | exact ih3 _ | exact ih4 _ | exact ih5 _ | exact ih6 _ | exact ih7 _ | exact ih8 _ | exact ih9 _ | exact ih10 _ | exact ih11 _ | exact ih12 _ | exact ih13 _ _ _ _ | exact ih14 _ _ | exact ih15 _ _ | exact ih16 _ _ | exact ih17 _ _ _ | exact ih18 _ _ | exact ih19 _ _ | exact V0 fu _ _ | exact F1 fu _ _ | exact A1 fu _ | exact B1 fu _ | exact E1 fu _ | exact W0 fu _ | exact C1 fu _ | exact D1 fu _ | exact G1 fu _ | exact N0 _ | refine Le.bind ?_ (fun _=>?_) | refine Le.ite ?_ ?_ | (rename_i x; cases x))
  ·rw [Ke,Ba]
   repeat (first | exact Le.rfl | exact ih0 _ | exact ih1 _ | exact ih2 _ | exact ih3 _ | exact ih4 _ | exact ih5 _ | exact ih6 _ | exact ih7 _ | exact ih8 _ | exact ih9 _ | exact ih10 _ | exact ih11 _ | exact ih12 _ | exact ih13 _ _ _ _ | exact ih14 _ _ | exact ih15 _ _ | exact ih16 _ _ | exact ih17 _ _ _ | exact ih18 _ _ | exact ih19 _ _ | exact V0 fu _ _ | exact F1 fu _ _ | exact A1 fu _ | exact B1 fu _ | exact E1 fu _ | exact W0 fu _ | exact C1 fu _ | exact D1 fu _ | exact G1 fu _ | exact N0 _ | refine Le.bind ?_ (fun _=>?_) | refine Le.ite ?_ ?_ | (rename_i x; cases x))
  ·rw [Gc,Qa]
   repeat (first | exact Le.rfl | exact ih0 _ | exact ih1 _ | exact ih2 _ | exact ih3 _ | exact ih4 _ | exact ih5 _ | exact ih6 _ | exact ih7 _ | exact ih8 _ | exact ih9 _ | exact ih10 _ | exact ih11 _ | exact ih12 _ | exact ih13 _ _ _ _ | exact ih14 _ _ | exact ih15 _ _ | exact ih16 _ _ | exact ih17 _ _ _ | exact ih18 _ _ | exact ih19 _ _ | exact V0 fu _ _ | exact F1 fu _ _ | exact A1 fu _ | exact B1 fu _ | exact E1 fu _ | exact W0 fu _ | exact C1 fu _ | exact D1 fu _ | exact G1 fu _ | exact N0 _ | refine Le.bind ?_ (fun _=>?_) | refine Le.ite ?_ ?_ | (rename_i x; cases x))
  ·rw [Ra,K7]
   repeat (first | exact Le.rfl | exact ih0 _ | exact ih1 _ | exact ih2 _ | exact ih3 _ | exact ih4 _ | exact ih5 _ | exact ih6 _ | exact ih7 _ | exact ih8 _ | exact ih9 _ | exact ih10 _ | exact ih11 _ | exact ih12 _ | exact ih13 _ _ _ _ | exact ih14 _ _ | exact ih15 _ _ | exact ih16 _ _ | exact ih17 _ _ _ | exact ih18 _ _ | exact ih19 _ _ | exact V0 fu _ _ | exact F1 fu _ _ | exact A1 fu _ | exact B1 fu _ | exact E1 fu _ | exact W0 fu _ | exact C1 fu _ | exact D1 fu _ | exact G1 fu _ | exact N0 _ | refine Le.bind ?_ (fun _=>?_) | refine Le.ite ?_ ?_ | (rename_i x; cases x))
  ·rw [Ja,J8]
   repeat (first | exact Le.rfl | exact ih0 _ | exact ih1 _ | exact ih2 _ | exact ih3 _ | exact ih4 _ | exact ih5 _ | exact ih6 _ | exact ih7 _ | exact ih8 _ | exact ih9 _ | exact ih10 _ | exact ih11 _ | exact ih12 _ | exact ih13 _ _ _ _ | exact ih14 _ _ | exact ih15 _ _ | exact ih16 _ _ | exact ih17 _ _ _ | exact ih18 _ _ | exact ih19 _ _ | exact V0 fu _ _ | exact F1 fu _ _ | exact A1 fu _ | exact B1 fu _ | exact E1 fu _ | exact W0 fu _ | exact C1 fu _ | exact D1 fu _ | exact G1 fu _ | exact N0 _ | refine Le.bind ?_ (fun _=>?_) | refine Le.ite ?_ ?_ | (rename_i x; cases x))
  ·rw [G6,S3]
   repeat (first | exact Le.rfl | exact ih0 _ | exact ih1 _ | exact ih2 _ | exact ih3 _ | exact ih4 _ | exact ih5 _ | exact ih6 _ | exact ih7 _ | exact ih8 _ | exact ih9 _ | exact ih10 _ | exact ih11 _ | exact ih12 _ | exact ih13 _ _ _ _ | exact ih14 _ _ | exact ih15 _ _ | exact ih16 _ _ | exact ih17 _ _ _ | exact ih18 _ _ | exact ih19 _ _ | exact V0 fu _ _ | exact F1 fu _ _ | exact A1 fu _ | exact B1 fu _ | exact E1 fu _ | exact W0 fu _ | exact C1 fu _ | exact D1 fu _ | exact G1 fu _ | exact N0 _ | refine Le.bind ?_ (fun _=>?_) | refine Le.ite ?_ ?_ | (rename_i x; cases x))
  ·rw [Sa,L7]
   repeat (first | exact Le.rfl | exact ih0 _ | exact ih1 _ | exact ih2 _ | exact ih3 _ | exact ih4 _ | exact ih5 _ | exact ih6 _ | exact ih7 _ | exact ih8 _ | exact ih9 _ | exact ih10 _ | exact ih11 _ | exact ih12 _ | exact ih13 _ _ _ _ | exact ih14 _ _ | exact ih15 _ _ | exact ih16 _ _ | exact ih17 _ _ _ | exact ih18 _ _ | exact ih19 _ _ | exact V0 fu _ _ | exact F1 fu _ _ | exact A1 fu _ | exact B1 fu _ | exact E1 fu _ | exact W0 fu _ | exact C1 fu _ | exact D1 fu _ | exact G1 fu _ | exact N0 _ | refine Le.bind ?_ (fun _=>?_) | refine Le.ite ?_ ?_ | (rename_i x; cases x))
  ·rw [Ka,K8]
   repeat (first | exact Le.rfl | exact ih0 _ | exact ih1 _ | exact ih2 _ | exact ih3 _ | exact ih4 _ | exact ih5 _ | exact ih6 _ | exact ih7 _ | exact ih8 _ | exact ih9 _ | exact ih10 _ | exact ih11 _ | exact ih12 _ | exact ih13 _ _ _ _ | exact ih14 _ _ | exact ih15 _ _ | exact ih16 _ _ | exact ih17 _ _ _ | exact ih18 _ _ | exact ih19 _ _ | exact V0 fu _ _ | exact F1 fu _ _ | exact A1 fu _ | exact B1 fu _ | exact E1 fu _ | exact W0 fu _ | exact C1 fu _ | exact D1 fu _ | exact G1 fu _ | exact N0 _ | refine Le.bind ?_ (fun _=>?_) | refine Le.ite ?_ ?_ | (rename_i x; cases x))
  ·rw [R7,P4]
   repeat (first | exact Le.rfl | exact ih0 _ | exact ih1 _ | exact ih2 _ | exact ih3 _ | exact ih4 _ | exact ih5 _ | exact ih6 _ | exact ih7 _ | exact ih8 _ | exact ih9 _ | exact ih10 _ | exact ih11 _ | exact ih12 _ | exact ih13 _ _ _ _ | exact ih14 _ _ | exact ih15 _ _ | exact ih16 _ _ | exact ih17 _ _ _ | exact ih18 _ _ | exact ih19 _ _ | exact V0 fu _ _ | exact F1 fu _ _ | exact A1 fu _ | exact B1 fu _ | exact E1 fu _ | exact W0 fu _ | exact C1 fu _ | exact D1 fu _ | exact G1 fu _ | exact N0 _ | refine Le.bind ?_ (fun _=>?_) | refine Le.ite ?_ ?_ | (rename_i x; cases x))
  ·rw [La,L8]
   repeat (first | exact Le.rfl | exact ih0 _ | exact ih1 _ | exact ih2 _ | exact ih3 _ | exact ih4 _ | exact ih5 _ | exact ih6 _ | exact ih7 _ | exact ih8 _ | exact ih9 _ | exact ih10 _ | exact ih11 _ | exact ih12 _ | exact ih13 _ _ _ _ | exact ih14 _ _ | exact ih15 _ _ | exact ih16 _ _ | exact ih17 _ _ _ | exact ih18 _ _ | exact ih19 _ _ | exact V0 fu _ _ | exact F1 fu _ _ | exact A1 fu _ | exact B1 fu _ | exact E1 fu _ | exact W0 fu _ | exact C1 fu _ | exact D1 fu _ | exact G1 fu _ | exact N0 _ | refine Le.bind ?_ (fun _=>?_) | refine Le.ite ?_ ?_ | (rename_i x; cases x))
  ·rw [Q4,O3]
   repeat (first | exact Le.rfl | exact ih0 _ | exact ih1 _ | exact ih2 _ | exact ih3 _ | exact ih4 _ | exact ih5 _ | exact ih6 _ | exact ih7 _ | exact ih8 _ | exact ih9 _ | exact ih10 _ | exact ih11 _ | exact ih12 _ | exact ih13 _ _ _ _ | exact ih14 _ _ | exact ih15 _ _ | exact ih16 _ _ | exact ih17 _ _ _ | exact ih18 _ _ | exact ih19 _ _ | exact V0 fu _ _ | exact F1 fu _ _ | exact A1 fu _ | exact B1 fu _ | exact E1 fu _ | exact W0 fu _ | exact C1 fu _ | exact D1 fu _ | exact G1 fu _ | exact N0 _ | refine Le.bind ?_ (fun _=>?_) | refine Le.ite ?_ ?_ | (rename_i x; cases x))
  ·rw [Ta,Z8]
   repeat (first | exact Le.rfl | exact ih0 _ | exact ih1 _ | exact ih2 _ | exact ih3 _ | exact ih4 _ | exact ih5 _ | exact ih6 _ | exact ih7 _ | exact ih8 _ | exact ih9 _ | exact ih10 _ | exact ih11 _ | exact ih12 _ | exact ih13 _ _ _ _ | exact ih14 _ _ | exact ih15 _ _ | exact ih16 _ _ | exact ih17 _ _ _ | exact ih18 _ _ | exact ih19 _ _ | exact V0 fu _ _ | exact F1 fu _ _ | exact A1 fu _ | exact B1 fu _ | exact E1 fu _ | exact W0 fu _ | exact C1 fu _ | exact D1 fu _ | exact G1 fu _ | exact N0 _ | refine Le.bind ?_ (fun _=>?_) | refine Le.ite ?_ ?_ | (rename_i x; cases x))
  ·rw [Hc,Y7]
   repeat (first | exact Le.rfl | exact ih0 _ | exact ih1 _ | exact ih2 _ | exact ih3 _ | exact ih4 _ | exact ih5 _ | exact ih6 _ | exact ih7 _ | exact ih8 _ | exact ih9 _ | exact ih10 _ | exact ih11 _ | exact ih12 _ | exact ih13 _ _ _ _ | exact ih14 _ _ | exact ih15 _ _ | exact ih16 _ _ | exact ih17 _ _ _ | exact ih18 _ _ | exact ih19 _ _ | exact V0 fu _ _ | exact F1 fu _ _ | exact A1 fu _ | exact B1 fu _ | exact E1 fu _ | exact W0 fu _ | exact C1 fu _ | exact D1 fu _ | exact G1 fu _ | exact N0 _ | refine Le.bind ?_ (fun _=>?_) | refine Le.ite ?_ ?_ | (rename_i x; cases x))
  ·rw [B5,I3]
   repeat (first | exact Le.rfl | exact ih0 _ | exact ih1 _ | exact ih2 _ | exact ih3 _ | exact ih4 _ | exact ih5 _ | exact ih6 _ | exact ih7 _ | exact ih8 _ | exact ih9 _ | exact ih10 _ | exact ih11 _ | exact ih12 _ | exact ih13 _ _ _ _ | exact ih14 _ _ | exact ih15 _ _ | exact ih16 _ _ | exact ih17 _ _ _ | exact ih18 _ _ | exact ih19 _ _ | exact V0 fu _ _ | exact F1 fu _ _ | exact A1 fu _ | exact B1 fu _ | exact E1 fu _ | exact W0 fu _ | exact C1 fu _ | exact D1 fu _ | exact G1 fu _ | exact N0 _ | refine Le.bind ?_ (fun _=>?_) | refine Le.ite ?_ ?_ | (rename_i x; cases x))
  ·rw [P9,Q8]
   repeat (first | exact Le.rfl | exact ih0 _ | exact ih1 _ | exact ih2 _ | exact ih3 _ | exact ih4 _ | exact ih5 _ | exact ih6 _ | exact ih7 _ | exact ih8 _ | exact ih9 _ | exact ih10 _ | exact ih11 _ | exact ih12 _ | exact ih13 _ _ _ _ | exact ih14 _ _ | exact ih15 _ _ | exact ih16 _ _ | exact ih17 _ _ _ | exact ih18 _ _ | exact ih19 _ _ | exact V0 fu _ _ | exact F1 fu _ _ | exact A1 fu _ | exact B1 fu _ | exact E1 fu _ | exact W0 fu _ | exact C1 fu _ | exact D1 fu _ | exact G1 fu _ | exact N0 _ | refine Le.bind ?_ (fun _=>?_) | refine Le.ite ?_ ?_ | (rename_i x; cases x))
  ·rw [X5,M3]
   repeat (first | exact Le.rfl | exact ih0 _ | exact ih1 _ | exact ih2 _ | exact ih3 _ | exact ih4 _ | exact ih5 _ | exact ih6 _ | exact ih7 _ | exact ih8 _ | exact ih9 _ | exact ih10 _ | exact ih11 _ | exact ih12 _ | exact ih13 _ _ _ _ | exact ih14 _ _ | exact ih15 _ _ | exact ih16 _ _ | exact ih17 _ _ _ | exact ih18 _ _ | exact ih19 _ _ | exact V0 fu _ _ | exact F1 fu _ _ | exact A1 fu _ | exact B1 fu _ | exact E1 fu _ | exact W0 fu _ | exact C1 fu _ | exact D1 fu _ | exact G1 fu _ | exact N0 _ | refine Le.bind ?_ (fun _=>?_) | refine Le.ite ?_ ?_ | (rename_i x; cases x))
  ·rw [Y5,L3]
   repeat (first | exact Le.rfl | exact ih0 _ | exact ih1 _ | exact ih2 _ | exact ih3 _ | exact ih4 _ | exact ih5 _ | exact ih6 _ | exact ih7 _ | exact ih8 _ | exact ih9 _ | exact ih10 _ | exact ih11 _ | exact ih12 _ | exact ih13 _ _ _ _ | exact ih14 _ _ | exact ih15 _ _ | exact ih16 _ _ | exact ih17 _ _ _ | exact ih18 _ _ | exact ih19 _ _ | exact V0 fu _ _ | exact F1 fu _ _ | exact A1 fu _ | exact B1 fu _ | exact E1 fu _ | exact W0 fu _ | exact C1 fu _ | exact D1 fu _ | exact G1 fu _ | exact N0 _ | refine Le.bind ?_ (fun _=>?_) | refine Le.ite ?_ ?_ | (rename_i x; cases x))
  ·rw [C2,A2]
   repeat (first | exact Le.rfl | exact ih0 _ | exact ih1 _ | exact ih2 _ | exact ih3 _ | exact ih4 _ | exact ih5 _ | exact ih6 _ | exact ih7 _ | exact ih8 _ | exact ih9 _ | exact ih10 _ | exact ih11 _ | exact ih12 _ | exact ih13 _ _ _ _ | exact ih14 _ _ | exact ih15 _ _ | exact ih16 _ _ | exact ih17 _ _ _ | exact ih18 _ _ | exact ih19 _ _ | exact V0 fu _ _ | exact F1 fu _ _ | exact A1 fu _ | exact B1 fu _ | exact E1 fu _ | exact W0 fu _ | exact C1 fu _ | exact D1 fu _ | exact G1 fu _ | exact N0 _ | refine Le.bind ?_ (fun _=>?_) | refine Le.ite ?_ ?_ | (rename_i x; cases x))
  ·rw [Z5,K3]
   repeat (first | exact Le.rfl | exact ih0 _ | exact ih1 _ | exact ih2 _ | exact ih3 _ | exact ih4 _ | exact ih5 _ | exact ih6 _ | exact ih7 _ | exact ih8 _ | exact ih9 _ | exact ih10 _ | exact ih11 _ | exact ih12 _ | exact ih13 _ _ _ _ | exact ih14 _ _ | exact ih15 _ _ | exact ih16 _ _ | exact ih17 _ _ _ | exact ih18 _ _ | exact ih19 _ _ | exact V0 fu _ _ | exact F1 fu _ _ | exact A1 fu _ | exact B1 fu _ | exact E1 fu _ | exact W0 fu _ | exact C1 fu _ | exact D1 fu _ | exact G1 fu _ | exact N0 _ | refine Le.bind ?_ (fun _=>?_) | refine Le.ite ?_ ?_ | (rename_i x; cases x))
  ·rw [G7,F4]
   repeat (first | exact Le.rfl | exact ih0 _ | exact ih1 _ | exact ih2 _ | exact ih3 _ | exact ih4 _ | exact ih5 _ | exact ih6 _ | exact ih7 _ | exact ih8 _ | exact ih9 _ | exact ih10 _ | exact ih11 _ | exact ih12 _ | exact ih13 _ _ _ _ | exact ih14 _ _ | exact ih15 _ _ | exact ih16 _ _ | exact ih17 _ _ _ | exact ih18 _ _ | exact ih19 _ _ | exact V0 fu _ _ | exact F1 fu _ _ | exact A1 fu _ | exact B1 fu _ | exact E1 fu _ | exact W0 fu _ | exact C1 fu _ | exact D1 fu _ | exact G1 fu _ | exact N0 _ | refine Le.bind ?_ (fun _=>?_) | refine Le.ite ?_ ?_ | (rename_i x; cases x))
theorem Aj (fu:Nat)(parserParser:A0):Le (X1 fu parserParser) (Z0 parserParser):=(Rh fu).1 parserParser
def Ed (fu:Nat)(parserParser:A0)(apiExpr:B0):Option (Pn (A0×B0)):=
 X1 fu parserParser>>=fun x1=>match x1 with
 | .pn nn=>
 some (.pn nn)
 | .ok x1=>
 some (.ok (x1.2,x1.1))
theorem So (fu:Nat)(parserParser:A0)(apiExpr:B0):Le (Ed fu parserParser apiExpr) (R8 parserParser apiExpr):=by
 unfold Ed R8
 repeat (first | exact Le.rfl | exact Aj fu _ | exact N0 _ | refine Le.bind ?_ (fun _=>?_) | refine Le.ite ?_ ?_ | (rename_i x; cases x))
def Hj (fu:Nat)(text:Str)(apiExpr:B0):Option (Int×Int×B0):=
 Cn fu text>>=fun x1=>
 if (x1.2.2 != 0)=true then
  some (x1.2.1,x1.2.2,apiExpr)
 else
  Ed fu (A0.mk x1.1 0 ((text).length:Int)) apiExpr>>=fun x2=>match x2 with
  | .pn nn=>
  some (nn,6,apiExpr)
  | .ok x2=>
  if (decide (x2.1.next < ((x2.1.tokens).length:Int)))=true then
   F7 fu x2.1>>=fun x3=>match x3 with
   | .pn nn=>
   some (nn,6,x2.2)
   | .ok x3=>
   some (0,0,x2.2)
  else
   some (0,0,x2.2)
theorem Ly (fu:Nat)(text:Str)(apiExpr:B0):Le (Hj fu text apiExpr) (Gf text apiExpr):=by
 unfold Hj Gf
 repeat (first | exact Le.rfl | exact W11 fu _ | exact So fu _ _ | exact Dc fu _ | exact N0 _ | refine Le.bind ?_ (fun _=>?_) | refine Le.ite ?_ ?_ | (rename_i x; cases x))
def Fd (fu:Nat)(d:Int)(syntaxReport:I0):Option I0:=
 some (I0.mk syntaxReport.nodes (max syntaxReport.depth d) syntaxReport.badForm syntaxReport.badName syntaxReport.badNumber)
theorem V6 (fu:Nat)(d:Int)(syntaxReport:I0):Le (Fd fu d syntaxReport) (W4 d syntaxReport):=by
 unfold Fd W4
 repeat (first | exact Le.rfl | exact N0 _ | refine Le.bind ?_ (fun _=>?_) | refine Le.ite ?_ ?_ | (rename_i x; cases x))
def F9 (fu:Nat)(op:Int)(v9:Bool):Option Int:=
 if v9=true then
  some 1
 else
  if (op == 5)=true then
   some 2
  else
   if (op == 23)=true then
    some 3
   else
    if (bif (decide (op≥8)) then (decide (op≤22)) else false)=true then
     some 2
    else
     some (-1)
theorem Vs (fu:Nat)(op:Int)(v9:Bool):Le (F9 fu op v9) (C7 op v9):=by
 unfold F9 C7
 repeat (first | exact Le.rfl | exact N0 _ | refine Le.bind ?_ (fun _=>?_) | refine Le.ite ?_ ?_ | (rename_i x; cases x))
def N7 (fu:Nat)(op:Int)(v4:Bool):Option Int:=
 if v4=true then
  some 0
 else
  if (op == 4)=true then
   F9 fu op (op == 4)
  else
   if (op == 6)=true then
    F9 fu op (op == 6)
   else
    F9 fu op (op == 7)
theorem Ws (fu:Nat)(op:Int)(v4:Bool):Le (N7 fu op v4) (P5 op v4):=by
 unfold N7 P5
 repeat (first | exact Le.rfl | exact Vs fu _ _ | exact N0 _ | refine Le.bind ?_ (fun _=>?_) | refine Le.ite ?_ ?_ | (rename_i x; cases x))
def Sh (fu:Nat)(op:Int):Option Int:=
 if (op == 0)=true then
  N7 fu op (op == 0)
 else
  if (op == 1)=true then
   N7 fu op (op == 1)
  else
   if (op == 2)=true then
    N7 fu op (op == 2)
   else
    N7 fu op (op == 3)
theorem Bb (fu:Nat)(op:Int):Le (Sh fu op) (De op):=by
 unfold Sh De
 repeat (first | exact Le.rfl | exact Ws fu _ _ | exact N0 _ | refine Le.bind ?_ (fun _=>?_) | refine Le.ite ?_ ?_ | (rename_i x; cases x))
def M5 (fu:Nat)(ok:Bool)(syntaxReport:I0):Option I0:=
 some (I0.mk syntaxReport.nodes syntaxReport.depth (bif syntaxReport.badForm then true else (!ok)) syntaxReport.badName syntaxReport.badNumber)
theorem W6 (fu:Nat)(ok:Bool)(syntaxReport:I0):Le (M5 fu ok syntaxReport) (O1 ok syntaxReport):=by
 unfold M5 O1
 repeat (first | exact Le.rfl | exact N0 _ | refine Le.bind ?_ (fun _=>?_) | refine Le.ite ?_ ?_ | (rename_i x; cases x))
def G9:Nat→B0→Option Bool
 | 0,_=>none
 | fu+1,o0=>
  if (bif (o0.Op == 4) then true else (o0.Op == 5))=true then
   if (((o0.Kids).length:Int) == 0)=true then
    some false
   else
    idx o0.Kids 0>>=fun x1=>
    G9 fu x1
  else
   some (o0.Op == 3)
theorem Gr (fu:Nat):(∀ (o0:B0),Le (G9 fu o0) (Q5 o0)):=by
 induction fu with
 | zero=>exact fun _=>Le.none
 | succ fu ih=>
  have ih0:=ih
  refine fun o0=>?_
  ·rw [G9,Q5]
   repeat (first | exact Le.rfl | exact ih0 _ | exact N0 _ | refine Le.bind ?_ (fun _=>?_) | refine Le.ite ?_ ?_ | (rename_i x; cases x))
theorem Xs (fu:Nat)(o0:B0):Le (G9 fu o0) (Q5 o0):=(Gr fu) o0
def Th (fu:Nat)(e:B0):Option Bool:=
 G9 fu e
theorem Cb (fu:Nat)(e:B0):Le (Th fu e) (Ee e):=by
 unfold Th Ee
 repeat (first | exact Le.rfl | exact Xs fu _ | exact N0 _ | refine Le.bind ?_ (fun _=>?_) | refine Le.ite ?_ ?_ | (rename_i x; cases x))
def H9:Nat→Str→Int→Option Bool
 | 0,_,_=>none
 | fu+1,s,v6=>
  if (decide (v6 < ((s).length:Int)))=true then
   idx s v6>>=fun x1=>
   Ia fu (x1.toNat:Int)>>=fun x2=>
   (if ((!x2)&&(!(v6 == 0)))=true then idx s v6 else some default)>>=fun x3=>
   (if ((!x2)&&(!(v6 == 0)))=true then B9 fu (x3.toNat:Int) else some default)>>=fun x4=>
   if (bif (!x2) then (bif (v6 == 0) then true else (!x4)) else false)=true then
    some false
   else
    H9 fu s (IntKind.i64.wrap (v6+1))
  else
   some (!(s == []))
theorem Hr (fu:Nat):(∀ (s:Str) (v6:Int),Le (H9 fu s v6) (D3 s v6)):=by
 induction fu with
 | zero=>exact fun _ _=>Le.none
 | succ fu ih=>
  have ih0:=ih
  refine fun s v6=>?_
  ·rw [H9,D3]
   repeat (first | exact Le.rfl | exact ih0 _ _ | exact Cf fu _ | exact Bd fu _ | exact N0 _ | refine Le.bind ?_ (fun _=>?_) | refine Le.ite ?_ ?_ | (rename_i x; cases x))
theorem Ys (fu:Nat)(s:Str)(v6:Int):Le (H9 fu s v6) (D3 s v6):=(Hr fu) s v6
def Uh (fu:Nat)(s:Str):Option Bool:=
 H9 fu s 0
theorem Jx (fu:Nat)(s:Str):Le (Uh fu s) (Xb s):=by
 unfold Uh Xb
 repeat (first | exact Le.rfl | exact Ys fu _ _ | exact N0 _ | refine Le.bind ?_ (fun _=>?_) | refine Le.ite ?_ ?_ | (rename_i x; cases x))
def Vh (fu:Nat)(s:Str):Option Bool:=
 (if (decide (((s).length:Int)≤12))=true then Uh fu s else some default)>>=fun x1=>
 (if (bif (decide (((s).length:Int)≤12)) then x1 else false)=true then Cd fu s else some default)>>=fun x2=>
 some (bif (bif (decide (((s).length:Int)≤12)) then x1 else false) then (!x2) else false)
theorem Kx (fu:Nat)(s:Str):Le (Vh fu s) (Yb s):=by
 unfold Vh Yb
 repeat (first | exact Le.rfl | exact Jx fu _ | exact Xj fu _ | exact N0 _ | refine Le.bind ?_ (fun _=>?_) | refine Le.ite ?_ ?_ | (rename_i x; cases x))
def Sg (fu:Nat)(s:Str):Option Bool:=
 Vh fu s>>=fun x1=>
 some x1
theorem Hv (fu:Nat)(s:Str):Le (Sg fu s) (D9 s):=by
 unfold Sg D9
 repeat (first | exact Le.rfl | exact Kx fu _ | exact N0 _ | refine Le.bind ?_ (fun _=>?_) | refine Le.ite ?_ ?_ | (rename_i x; cases x))
def Gd (fu:Nat)(s:Str)(syntaxReport:I0):Option I0:=
 (if (!syntaxReport.badName)=true then Sg fu s else some default)>>=fun x1=>
 some (I0.mk syntaxReport.nodes syntaxReport.depth syntaxReport.badForm (bif syntaxReport.badName then true else (!x1)) syntaxReport.badNumber)
theorem X6 (fu:Nat)(s:Str)(syntaxReport:I0):Le (Gd fu s syntaxReport) (E3 s syntaxReport):=by
 unfold Gd E3
 repeat (first | exact Le.rfl | exact Hv fu _ | exact N0 _ | refine Le.bind ?_ (fun _=>?_) | refine Le.ite ?_ ?_ | (rename_i x; cases x))
def Tg (fu:Nat)(n:Int)(low:Int)(high:Int):Option Bool:=
 some (bif (decide (n≥low)) then (decide (n≤high)) else false)
theorem Ma (fu:Nat)(n:Int)(low:Int)(high:Int):Le (Tg fu n low high) (E6 n low high):=by
 unfold Tg E6
 repeat (first | exact Le.rfl | exact N0 _ | refine Le.bind ?_ (fun _=>?_) | refine Le.ite ?_ ?_ | (rename_i x; cases x))
def Mb (fu:Nat)(ok:Bool)(syntaxReport:I0):Option I0:=
 some (I0.mk syntaxReport.nodes syntaxReport.depth syntaxReport.badForm syntaxReport.badName (bif syntaxReport.badNumber then true else (!ok)))
theorem O5 (fu:Nat)(ok:Bool)(syntaxReport:I0):Le (Mb fu ok syntaxReport) (O2 ok syntaxReport):=by
 unfold Mb O2
 repeat (first | exact Le.rfl | exact N0 _ | refine Le.bind ?_ (fun _=>?_) | refine Le.ite ?_ ?_ | (rename_i x; cases x))
mutual
def H7:Nat→B0→Int→I0→Option I0
 | 0,_,_,_=>none
 | fu+1,e,depth,syntaxReport=>
  Fd fu depth (I0.mk (IntKind.i64.wrap (syntaxReport.nodes+1)) syntaxReport.depth syntaxReport.badForm syntaxReport.badName syntaxReport.badNumber)>>=fun x1=>
  Sh fu e.Op>>=fun x2=>
  M5 fu (x2 == ((e.Kids).length:Int)) x1>>=fun x3=>
  M5 fu (bif (e.NV == 0) then true else (e.Op == 0)) x3>>=fun x4=>
  M5 fu (bif (e.Name == []) then true else (bif (e.Op == 3) then true else (e.Op == 4))) x4>>=fun x5=>
  if (bif (e.Op == 4) then true else (e.Op == 5))=true then
   Th fu e>>=fun x6=>
   M5 fu x6 x5>>=fun x7=>
   S7 fu e depth x7
  else
   S7 fu e depth x5
def S7:Nat→B0→Int→I0→Option I0
 | 0,_,_,_=>none
 | fu+1,e,depth,o0=>
  if (bif (e.Op == 3) then true else (e.Op == 4))=true then
   Gd fu e.Name o0>>=fun x8=>
   T7 fu e depth x8
  else
   T7 fu e depth o0
def T7:Nat→B0→Int→I0→Option I0
 | 0,_,_,_=>none
 | fu+1,e,depth,o01=>
  if (e.Op == 0)=true then
   Tg fu e.NV 0 1048576>>=fun x9=>
   Mb fu x9 o01>>=fun x10=>
   U7 fu e depth x10
  else
   U7 fu e depth o01
def U7:Nat→B0→Int→I0→Option I0
 | 0,_,_,_=>none
 | fu+1,e,depth,o02=>
  V7 fu e depth o02 0
def V7:Nat→B0→Int→I0→Int→Option I0
 | 0,_,_,_,_=>none
 | fu+1,e,depth,o03,v82=>
  if (decide (v82 < ((e.Kids).length:Int)))=true then
   idx e.Kids v82>>=fun x11=>
   H7 fu x11 (IntKind.i64.wrap (depth+1)) o03>>=fun x12=>
   V7 fu e depth x12 (IntKind.i64.wrap (v82+1))
  else
   some o03
end
theorem Dn (fu:Nat):(∀ (e:B0) (depth:Int) (syntaxReport:I0),Le (H7 fu e depth syntaxReport) (Z3 e depth syntaxReport))∧(∀ (e:B0) (depth:Int) (o0:I0),Le (S7 fu e depth o0) (M6 e depth o0))∧(∀ (e:B0) (depth:Int) (o01:I0),Le (T7 fu e depth o01) (N6 e depth o01))∧(∀ (e:B0) (depth:Int) (o02:I0),Le (U7 fu e depth o02) (O6 e depth o02))∧(∀ (e:B0) (depth:Int) (o03:I0) (v82:Int),Le (V7 fu e depth o03 v82) (P6 e depth o03 v82)):=by
 induction fu with
 | zero=>exact ⟨fun _ _ _=>Le.none,fun _ _ _=>Le.none,fun _ _ _=>Le.none,fun _ _ _=>Le.none,fun _ _ _ _=>Le.none⟩
 | succ fu ih=>
  obtain ⟨ih0,ih1,ih2,ih3,ih4⟩:=ih
  refine ⟨fun e depth syntaxReport=>?_,fun e depth o0=>?_,fun e depth o01=>?_,fun e depth o02=>?_,fun e depth o03 v82=>?_⟩
  ·rw [H7,Z3]
   repeat (first | exact Le.rfl | exact ih0 _ _ _ | exact ih1 _ _ _ | exact ih2 _ _ _ | exact ih3 _ _ _ | exact ih4 _ _ _ _ | exact V6 fu _ _ | exact Bb fu _ | exact W6 fu _ _ | exact Cb fu _ | exact X6 fu _ _ | exact Ma fu _ _ _ | exact O5 fu _ _ | exact N0 _ | refine Le.bind ?_ (fun _=>?_) | refine Le.ite ?_ ?_ | (rename_i x; cases x))
  ·rw [S7,M6]
   repeat (first | exact Le.rfl | exact ih0 _ _ _ | exact ih1 _ _ _ | exact ih2 _ _ _ | exact ih3 _ _ _ | exact ih4 _ _ _ _ | exact V6 fu _ _ | exact Bb fu _ | exact W6 fu _ _ | exact Cb fu _ | exact X6 fu _ _ | exact Ma fu _ _ _ | exact O5 fu _ _ | exact N0 _ | refine Le.bind ?_ (fun _=>?_) | refine Le.ite ?_ ?_ | (rename_i x; cases x))
  ·rw [T7,N6]
   repeat (first | exact Le.rfl | exact ih0 _ _ _ | exact ih1 _ _ _ | exact ih2 _ _ _ | exact ih3 _ _ _ | exact ih4 _ _ _ _ | exact V6 fu _ _ | exact Bb fu _ | exact W6 fu _ _ | exact Cb fu _ | exact X6 fu _ _ | exact Ma fu _ _ _ | exact O5 fu _ _ | exact N0 _ | refine Le.bind ?_ (fun _=>?_) | refine Le.ite ?_ ?_ | (rename_i x; cases x))
  ·rw [U7,O6]
   repeat (first | exact Le.rfl | exact ih0 _ _ _ | exact ih1 _ _ _ | exact ih2 _ _ _ | exact ih3 _ _ _ | exact ih4 _ _ _ _ | exact V6 fu _ _ | exact Bb fu _ | exact W6 fu _ _ | exact Cb fu _ | exact X6 fu _ _ | exact Ma fu _ _ _ | exact O5 fu _ _ | exact N0 _ | refine Le.bind ?_ (fun _=>?_) | refine Le.ite ?_ ?_ | (rename_i x; cases x))
  ·rw [V7,P6]
   repeat (first | exact Le.rfl | exact ih0 _ _ _ | exact ih1 _ _ _ | exact ih2 _ _ _ | exact ih3 _ _ _ | exact ih4 _ _ _ _ | exact V6 fu _ _ | exact Bb fu _ | exact W6 fu _ _ | exact Cb fu _ | exact X6 fu _ _ | exact Ma fu _ _ _ | exact O5 fu _ _ | exact N0 _ | refine Le.bind ?_ (fun _=>?_) | refine Le.ite ?_ ?_ | (rename_i x; cases x))
theorem To (fu:Nat)(e:B0)(depth:Int)(syntaxReport:I0):Le (H7 fu e depth syntaxReport) (Z3 e depth syntaxReport):=(Dn fu).1 e depth syntaxReport
def Hd (fu:Nat)(syntaxReport:I0):Option Int:=
 if (bif (decide (syntaxReport.nodes > 1024)) then true else (decide (syntaxReport.depth > 12)))=true then
  some 4
 else
  if syntaxReport.badForm=true then
   some 1
  else
   if syntaxReport.badName=true then
    some 7
   else
    if syntaxReport.badNumber=true then
     some 3
    else
     some 0
theorem Uo (fu:Nat)(syntaxReport:I0):Le (Hd fu syntaxReport) (A4 syntaxReport):=by
 unfold Hd A4
 repeat (first | exact Le.rfl | exact N0 _ | refine Le.bind ?_ (fun _=>?_) | refine Le.ite ?_ ?_ | (rename_i x; cases x))
def Me (fu:Nat)(e:B0):Option Int:=
 H7 fu e 1 (I0.mk 0 0 false false false)>>=fun x1=>
 Hd fu x1>>=fun x2=>
 some x2
theorem Ir (fu:Nat)(e:B0):Le (Me fu e) (Ca e):=by
 unfold Me Ca
 repeat (first | exact Le.rfl | exact To fu _ _ _ | exact Uo fu _ | exact N0 _ | refine Le.bind ?_ (fun _=>?_) | refine Le.ite ?_ ?_ | (rename_i x; cases x))
def Db (fu:Nat)(text:Str):Option (B0×Int×Int):=
 Hj fu text (B0.mk 0 0 [] [])>>=fun x1=>
 if (x1.2.1 != 0)=true then
  some ((B0.mk 0 0 [] []),x1.1,x1.2.1)
 else
  Me fu x1.2.2>>=fun x2=>
  if (x2 != 0)=true then
   some ((B0.mk 0 0 [] []),0,x2)
  else
   some (x1.2.2,0,0)
theorem Jr (fu:Nat)(text:Str):Le (Db fu text) (C8 text):=by
 unfold Db C8
 repeat (first | exact Le.rfl | exact Ly fu _ _ | exact Ir fu _ | exact N0 _ | refine Le.bind ?_ (fun _=>?_) | refine Le.ite ?_ ?_ | (rename_i x; cases x))
def Oe (fu:Nat)(s:Str):Option B0:=
 some (B0.mk 3 0 s [])
theorem D10 (fu:Nat)(s:Str):Le (Oe fu s) (Ad s):=by
 unfold Oe Ad
 repeat (first | exact Le.rfl | exact N0 _ | refine Le.bind ?_ (fun _=>?_) | refine Le.ite ?_ ?_ | (rename_i x; cases x))
mutual
def I9:Nat→B0→B0→Option Bool
 | 0,_,_=>none
 | fu+1,a,b=>
  if (bif (bif (bif (a.Op != b.Op) then true else (a.NV != b.NV)) then true else (!(a.Name == b.Name))) then true else (((a.Kids).length:Int) != ((b.Kids).length:Int)))=true then
   some false
  else
   Q9 fu a b 0
def Q9:Nat→B0→B0→Int→Option Bool
 | 0,_,_,_=>none
 | fu+1,a,b,i=>
  if (decide (i < ((a.Kids).length:Int)))=true then
   idx a.Kids i>>=fun x1=>
   idx b.Kids i>>=fun x2=>
   I9 fu x1 x2>>=fun x3=>
   if (!x3)=true then
    some false
   else
    Q9 fu a b (IntKind.i64.wrap (i+1))
  else
   some true
end
theorem Kr (fu:Nat):(∀ (a:B0) (b:B0),Le (I9 fu a b) (R5 a b))∧(∀ (a:B0) (b:B0) (i:Int),Le (Q9 fu a b i) (S8 a b i)):=by
 induction fu with
 | zero=>exact ⟨fun _ _=>Le.none,fun _ _ _=>Le.none⟩
 | succ fu ih=>
  obtain ⟨ih0,ih1⟩:=ih
  refine ⟨fun a b=>?_,fun a b i=>?_⟩
  ·rw [I9,R5]
   repeat (first | exact Le.rfl | exact ih0 _ _ | exact ih1 _ _ _ | exact N0 _ | refine Le.bind ?_ (fun _=>?_) | refine Le.ite ?_ ?_ | (rename_i x; cases x))
  ·rw [Q9,S8]
   repeat (first | exact Le.rfl | exact ih0 _ _ | exact ih1 _ _ _ | exact N0 _ | refine Le.bind ?_ (fun _=>?_) | refine Le.ite ?_ ?_ | (rename_i x; cases x))
theorem Zs (fu:Nat)(a:B0)(b:B0):Le (I9 fu a b) (R5 a b):=(Kr fu).1 a b
def Iq (fu:Nat):Option Bool:=
 Db fu [97,32,45,32,98,32,45,32,99,91,49,93,46,100]>>=fun x1=>
 Oe fu [99]>>=fun x2=>
 Oe fu [97]>>=fun x3=>
 Oe fu [98]>>=fun x4=>
 Db fu [97,32,61,61,32,98,32,61,61,32,99]>>=fun x5=>
 (if (x1.2.2 == 0)=true then I9 fu x1.1 (B0.mk 9 0 [] [(B0.mk 9 0 [] [x3,x4]),(B0.mk 4 0 [100] [(B0.mk 5 0 [] [x2,(B0.mk 0 1 [] [])])])]) else some default)>>=fun x6=>
 some (bif (bif (bif (x1.2.2 == 0) then x6 else false) then (x5.2.2 == 6) else false) then (x5.2.1 == 7) else false)
theorem My (fu:Nat):Le (Iq fu ) (Jb ):=by
 unfold Iq Jb
 repeat (first | exact Le.rfl | exact Jr fu _ | exact D10 fu _ | exact Zs fu _ _ | exact N0 _ | refine Le.bind ?_ (fun _=>?_) | refine Le.ite ?_ ?_ | (rename_i x; cases x))
end Go.Proofs.YtmnhfbekncjnfaaGreatDoor

