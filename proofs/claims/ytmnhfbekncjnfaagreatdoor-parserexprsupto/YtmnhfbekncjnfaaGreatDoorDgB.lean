/- A part of the proof of ParserExprs. -/
import Derived.Test.YtmnhfbekncjnfaaGreatDoorDgA
import Derived.Test.YtmnhfbekncjnfaaGreatDoorAmB
set_option maxRecDepth 100000
set_option maxHeartbeats 4000000
set_option synthInstance.maxSize 20000
set_option linter.unusedVariables false
namespace Go.Proofs.YtmnhfbekncjnfaaGreatDoor
open Go.Am
def Me (s:Str)(atV:Int):Option (E0×Int):=
 Qd s atV>>=fun x1=>
 idx s atV>>=fun x2=>
 O9 (x2.toNat:Int)>>=fun x3=>
 if x3=true then
  slc s atV x1>>=fun x4=>
  G9 x4>>=fun x5=>
  if x5=true then
   some ((E0.mk 2 x4 atV),0)
  else
   if (decide (((x4).length:Int) > 12))=true then
    some ((E0.mk 0 [] 0),7)
   else
    some ((E0.mk 0 x4 atV),0)
 else
  idx s atV>>=fun x6=>
  Wc (x6.toNat:Int)>>=fun x7=>
  if x7=true then
   slc s atV x1>>=fun x8=>
   Sd x8>>=fun x9=>
   if (x9 != 0)=true then
    some ((E0.mk 0 [] 0),x9)
   else
    slc s atV x1>>=fun x10=>
    some ((E0.mk 1 x10 atV),0)
  else
   (if (decide ((IntKind.i64.wrap (atV+2))≤((s).length:Int)))=true then slc s atV (IntKind.i64.wrap (atV+2)) else some default)>>=fun x11=>
   (if (decide ((IntKind.i64.wrap (atV+2))≤((s).length:Int)))=true then Y6 x11 else some default)>>=fun x12=>
   if (bif (decide ((IntKind.i64.wrap (atV+2))≤((s).length:Int))) then x12 else false)=true then
    slc s atV (IntKind.i64.wrap (atV+2))>>=fun x13=>
    some ((E0.mk 3 x13 atV),0)
   else
    slc s atV (IntKind.i64.wrap (atV+1))>>=fun x14=>
    Y6 x14>>=fun x15=>
    if x15=true then
     slc s atV (IntKind.i64.wrap (atV+1))>>=fun x16=>
     some ((E0.mk 3 x16 atV),0)
    else
     some ((E0.mk 0 [] 0),6)
theorem Nw {s atV res}(hh:Me s atV=some res):K0 C 56 [.d (.str s),.d (.int .i64 atV)] [] (Ret [] (.tup [.agg (E0.cells res.1),.d (.int .i64 res.2)])):=by
 unfold Me at hh
 obtain ⟨x1,hx1,hh⟩:=bs' hh
 obtain ⟨x2,hx2,hh⟩:=bs' hh
 obtain ⟨x3,hx3,hh⟩:=bs' hh
 refine K0.intro hC Tryz.func56 rfl rfl rfl (s' rfl rfl (D0.n hC rfl (e' rfl (p' 2 rfl (c' (Hq hx1) rfl rfl (e' rfl (S' (p' 2 rfl (x' rfl (I1 hx2) (F3 hx2) (c' (Fd hx3) rfl rfl (n' (ci' rfl hh (fun hh=>?_) (fun hh=>?_)))))))))))))
 ·obtain ⟨x4,hx4,hh⟩:=bs' hh
  obtain ⟨x5,hx5,hh⟩:=bs' hh
  refine p' 3 rfl (D0.lx hC rfl hx4 (e' rfl (S' (p' 1 rfl (c' (Qi hx5) rfl rfl (n' (ci' rfl hh (fun hh=>?_) (fun hh=>?_))))))))
  ·cases hh
   exact p' 3 rfl (D0.s hC rfl (e' rfl (re' (rt' rfl rfl rfl))))
  refine sk' (S' (t' rfl (ci' rfl hh (fun hh=>?_) (fun hh=>?_))))
  ·cases hh
   exact p' 1 rfl (D0.s hC rfl (e' rfl (re' (rt' rfl rfl rfl))))
  cases hh
  exact sk' (p' 3 rfl (D0.s hC rfl (e' rfl (re' (rt' rfl rfl rfl)))))
 obtain ⟨x6,hx6,hh⟩:=bs' hh
 obtain ⟨x7,hx7,hh⟩:=bs' hh
 refine sk' (S' (p' 2 rfl (x' rfl (I1 hx6) (F3 hx6) (c' (Qg hx7) rfl rfl (n' (ci' rfl hh (fun hh=>?_) (fun hh=>?_)))))))
 ·obtain ⟨x8,hx8,hh⟩:=bs' hh
  obtain ⟨x9,hx9,hh⟩:=bs' hh
  refine p' 3 rfl (D0.lx hC rfl hx8 (c' (Dv hx9) rfl rfl (e' rfl (S' (t' rfl (ci' rfl hh (fun hh=>?_) (fun hh=>?_)))))))
  ·cases hh
   exact p' 2 rfl (D0.s hC rfl (e' rfl (re' (rt' rfl rfl rfl))))
  obtain ⟨x10,hx10,hh⟩:=bs' hh
  cases hh
  exact sk' (p' 3 rfl (D0.lx hC rfl hx10 (o' 2 rfl (D0.s hC rfl (e' rfl (re' (rt' rfl rfl rfl)))))))
 obtain ⟨x11,hx11,hh⟩:=bs' hh
 obtain ⟨x12,hx12,hh⟩:=bs' hh
 refine sk' (S' (sg' 13 rfl (G' 9 rfl (a1' rfl (AG.lx hC rfl rfl (fun hg=>⟨hg,hg,hg,trivial⟩) (fun hw=>(Y1 hw hx11)) (AG.c rfl rfl (fun hg=>⟨hg,trivial⟩) (fun hw=>Hl (Y1 hw hx12)) (pa' rfl (an' (n' (ci' rfl hh (fun hh=>?_) (fun hh=>?_)))))))))))
 ·obtain ⟨x13,hx13,hh⟩:=bs' hh
  cases hh
  exact p' 4 rfl (D0.lx hC rfl hx13 (o' 2 rfl (D0.s hC rfl (e' rfl (re' (rt' rfl rfl rfl))))))
 obtain ⟨x14,hx14,hh⟩:=bs' hh
 obtain ⟨x15,hx15,hh⟩:=bs' hh
 refine sk' (S' (p' 4 rfl (D0.lx hC rfl hx14 (c' (Hl hx15) rfl rfl (n' (ci' rfl hh (fun hh=>?_) (fun hh=>?_)))))))
 ·obtain ⟨x16,hx16,hh⟩:=bs' hh
  cases hh
  exact p' 4 rfl (D0.lx hC rfl hx16 (o' 2 rfl (D0.s hC rfl (e' rfl (re' (rt' rfl rfl rfl))))))
 cases hh
 exact sk' (p' 1 rfl (D0.s hC rfl (e' rfl (re' (rt' rfl rfl rfl)))))
def P9 (s:Str)(out:List E0)(atV:Int):Option (List E0×Int×Int):=
 if (decide (atV < ((s).length:Int)))=true then
  Me s atV>>=fun x2=>
  if (x2.2 != 0)=true then
   some ([],atV,x2.2)
  else
   if (decide ((out.length+1) * 33≤140737488355328))=true then
    Vc s (IntKind.i64.wrap (atV+((x2.1.Text).length:Int)))>>=fun x3=>
    P9 s (out++[x2.1]) x3
   else none
 else
  some (out,0,0)
 partial_fixpoint
abbrev Xm (s:Str)(out:List E0)(atV:Int)(res:List E0×Int×Int):Prop:=LM C 41 0 Tryz.f26 [1,1,1,1,0,4] [(0,.d (.str s)),(5,.osl 0 (E0.rows out)),(6,.d (.int .i64 atV))] [.tok 62 3] (Ret [] (.tup [.d (.sl (E0.rows res.1)),.d (.int .i64 res.2.1),.d (.int .i64 res.2.2)]))
theorem Ft (s:Str):(∀ out atV res,P9 s out atV=some res→Xm s out atV res):=by
 refine P9.partial_correctness s _ ?_
 ·intro g0 ih0 out atV res hh
  refine P0.unroll (S' (t' rfl (ci' rfl hh (fun hh=>?_) (fun hh=>?_))))
  ·obtain ⟨x2,hx2,hh⟩:=bs' hh
   refine sk' (bk' (p' 2 rfl (c' (Nw hx2) rfl rfl (o' 3 rfl (D0.n hC rfl (D0.s hC rfl (e' rfl (S' (t' rfl (ci' rfl hh (fun hh=>?_) (fun hh=>?_)))))))))))
   ·refine t' rfl (re' ?_)
    obtain rfl:=oi' hh
    exact ⟨_,.tup [.d (.sl (E0.rows [])),.d (.int .i64 atV),.d (.int .i64 x2.2)],[],rfl,(.tupL ⟨.full,.rfl,.rfl,trivial⟩),trivial,rfl,rfl,rfl,rfl⟩
   obtain ⟨c6,hh⟩:=Ef hh
   obtain ⟨x3,hx3,hh⟩:=bs' hh
   exact sk' (p' 2 rfl (D0.be hC rfl (E0.rows_map [x2.1]).symm (D0.ap hC rfl (rs:=E0.rows (out++[x2.1])) (E0.app out [x2.1]) (E0.sz out) (E0.sz [x2.1]) (S11 (E0.len out) (E0.len [x2.1]) c6) (e' rfl (P' 6 rfl (c' (Tm hx3) rfl rfl (e' rfl (lw' (ih0 _ _ _ hh) rfl rfl rfl))))))))
  refine ex' (t' rfl (re' ?_))
  obtain rfl:=oi' hh
  exact ⟨_,.tup [.d (.sl (E0.rows out)),.d (.int .i64 0),.d (.int .i64 0)],[],rfl,(.tupL ⟨.osl,.rfl,.rfl,trivial⟩),trivial,rfl,rfl,rfl,rfl⟩
theorem Ev {s out atV res}(hh:P9 s out atV=some res):Xm s out atV res:=(Ft s) _ _ _ hh
def Vh (s:Str):Option (List E0×Int×Int):=
 if (decide (((s).length:Int) > 8192))=true then
  some ([],0,5)
 else
  Vc s 0>>=fun x1=>
  P9 s [] x1
theorem Wz {s res}(hh:Vh s=some res):K0 C 26 [.d (.str s)] [] (Ret [] (.tup [.d (.sl (E0.rows res.1)),.d (.int .i64 res.2.1),.d (.int .i64 res.2.2)])):=by
 unfold Vh at hh
 refine K0.intro hC Tryz.func26 rfl rfl rfl (t' rfl (S' (t' rfl (ci' rfl hh (fun hh=>?_) (fun hh=>?_)))))
 ·refine t' rfl (re' ?_)
  obtain rfl:=oi' hh
  exact ⟨_,.tup [.d (.sl (E0.rows [])),.d (.int .i64 0),.d (.int .i64 5)],[],rfl,(.tupL ⟨.full,.rfl,.rfl,trivial⟩),trivial,rfl,rfl,rfl,rfl⟩
 obtain ⟨x1,hx1,hh⟩:=bs' hh
 exact sk' (s' rfl rfl (D0.be hC rfl (E0.rows_map []).symm (D0.tokE 12 62 3 rfl (e' rfl (p' 1 rfl (c' (Tm hx1) rfl rfl (e' rfl (S' (bk' (fw' (Ev hh) rfl rfl rfl))))))))))
def Y0 (l:List E0)(atV:Int)(text:Str):Option Bool:=
 (if (decide (atV < ((l).length:Int)))=true then idx l atV else some default)>>=fun x1=>
 (if ((decide (atV < ((l).length:Int)))&&(!(x1.Kind == 2)))=true then idx l atV else some default)>>=fun x2=>
 (if (bif (decide (atV < ((l).length:Int))) then (bif (x1.Kind == 2) then true else (x2.Kind == 3)) else false)=true then idx l atV else some default)>>=fun x3=>
 some (bif (bif (decide (atV < ((l).length:Int))) then (bif (x1.Kind == 2) then true else (x2.Kind == 3)) else false) then (x3.Text == text) else false)
theorem U2 {l atV text res}(hh:Y0 l atV text=some res):K0 C 66 [.d (.sl (E0.rows l)),.d (.int .i64 atV),.d (.str text)] [] (Ret [] (.d (.bool res))):=by
 unfold Y0 at hh
 obtain ⟨x1,hx1,hh⟩:=bs' hh
 obtain ⟨x2,hx2,hh⟩:=bs' hh
 obtain ⟨x3,hx3,hh⟩:=bs' hh
 cases hh
 refine K0.intro hC Tryz.func66 rfl rfl rfl (t' rfl (sg' 30 rfl (G' 2 rfl (AG.qe hC rfl (fun hg=>⟨trivial,trivial⟩) (E0.lenA _) (G' 4 rfl (AG.i hC rfl rfl (fun hg=>⟨hg,hg,trivial⟩) (fun hw=>⟨I1 (Y1 hw hx1),E0.idx (Y1 hw hx1),rfl⟩) (a1' rfl (a1' rfl (a1' rfl (a1' rfl (G' 2 rfl (AG.i hC rfl rfl (fun hg=>⟨hg,hg,trivial⟩) (fun hw=>⟨I1 (Y1 hw hx2),E0.idx (Y1 hw hx2),rfl⟩) ?_))))))))))))
 refine a1' rfl (a1' rfl (a1' rfl (pO' rfl (pa' rfl (G' 3 rfl (AG.i hC rfl rfl (fun hg=>⟨hg,hg,trivial⟩) (fun hw=>⟨I1 (Y1 hw hx3),E0.idx (Y1 hw hx3),rfl⟩) (a1' rfl (a1' rfl (a0' rfl (a2' rfl (pa' rfl (a0' rfl (an' ?_)))))))))))))
 exact n' (re' (rt' rfl rfl rfl))
def Ce (op:Int)(a:A0)(b:A0):Option A0:=
 some (A0.mk op 0 [] [a,b])
theorem Gi {op a b res}(hh:Ce op a b=some res):K0 C 123 [.d (.int .i64 op),.agg (A0.cells a),.agg (A0.cells b)] [] (Ret [] (.agg (A0.cells res))):=by
 unfold Ce at hh
 refine K0.intro hC Tryz.func123 rfl rfl rfl (s' rfl rfl (D0.n hC rfl (D0.n hC rfl (D0.nf hC rfl (n' (p' 3 rfl (D0.be hC rfl (A0.rows_map [a,b]).symm (q' rfl (D0.s hC rfl (n' (re' ?_)))))))))))
 obtain rfl:=oi' hh
 exact ⟨_,.agg [.d (.int .i64 op),.d (.int .i64 0),.d (.str []),.d (.sl (A0.rows [a,b]))],[],rfl,(.aggL ⟨.rfl,.rfl,.rfl,.full,trivial⟩),trivial,rfl,rfl,rfl,rfl⟩
def P5 (l:List E0)(atV:Int)(n:Int)(i:Int):Option (Int×Int×Bool):=
 idx l atV>>=fun x2=>
 if (decide (i < ((x2.Text).length:Int)))=true then
  idx l atV>>=fun x3=>
  idx x3.Text i>>=fun x4=>
  P5 l atV (IntKind.i64.wrap ((IntKind.i64.wrap (10 * n))+(IntKind.i64.wrap (IntKind.u8.wrap ((x4.toNat:Int) - 48))))) (IntKind.i64.wrap (i+1))
 else
  some (n,(IntKind.i64.wrap (atV+1)),true)
 partial_fixpoint
abbrev Ti (l:List E0)(atV:Int)(n:Int)(i:Int)(res:Int×Int×Bool):Prop:=LM C 47 0 Tryz.f133 [1,1,1,0,1,4] [(0,.d (.sl (E0.rows l))),(1,.d (.int .i64 atV)),(7,.d (.int .i64 n)),(8,.d (.int .i64 i))] [] (Ret [] (.tup [.d (.int .i64 res.1),.d (.int .i64 res.2.1),.d (.bool res.2.2)]))
theorem Zo (l:List E0)(atV:Int):(∀ n i res,P5 l atV n i=some res→Ti l atV n i res):=by
 refine P5.partial_correctness l atV _ ?_
 ·intro g0 ih0 n i res hh
  obtain ⟨x2,hx2,hh⟩:=bs' hh
  refine P0.unroll (S' (p' 3 rfl (i' rfl (I1 hx2) (E0.idx hx2) rfl (e' rfl (ci' rfl hh (fun hh=>?_) (fun hh=>?_))))))
  ·obtain ⟨x3,hx3,hh⟩:=bs' hh
   obtain ⟨x4,hx4,hh⟩:=bs' hh
   exact sk' (S' (bk' (P' 4 rfl (i' rfl (I1 hx3) (E0.idx hx3) rfl (o' 3 rfl (x' rfl (I1 hx4) (F3 hx4) (e' rfl (T' rfl (lw' (ih0 _ _ _ hh) rfl rfl rfl)))))))))
  cases hh
  exact ex' (t' rfl (re' (rt' rfl rfl rfl)))
theorem Kq {l atV n i res}(hh:P5 l atV n i=some res):Ti l atV n i res:=(Zo l atV) _ _ _ hh
def Q9 (l:List E0)(atV:Int):Option (Int×Int×Bool):=
 (if (!(decide (atV≥((l).length:Int))))=true then idx l atV else some default)>>=fun x1=>
 if (bif (decide (atV≥((l).length:Int))) then true else (x1.Kind != 1))=true then
  some (0,atV,false)
 else
  P5 l atV 0 0
theorem Fv {l atV res}(hh:Q9 l atV=some res):K0 C 133 [.d (.sl (E0.rows l)),.d (.int .i64 atV)] [] (Ret [] (.tup [.d (.int .i64 res.1),.d (.int .i64 res.2.1),.d (.bool res.2.2)])):=by
 unfold Q9 at hh
 obtain ⟨x1,hx1,hh⟩:=bs' hh
 refine K0.intro hC Tryz.func133 rfl rfl rfl (t' rfl (S' (sg' 12 rfl (G' 2 rfl (AG.qe hC rfl (fun hg=>⟨trivial,trivial⟩) (E0.lenA _) (G' 4 rfl (AG.i hC rfl rfl (fun hg=>⟨hg,hg,trivial⟩) (fun hw=>⟨I1 (Y1 hw hx1),E0.idx (Y1 hw hx1),rfl⟩) (a1' rfl (a1' rfl (a1' rfl (po' rfl (an' (n' (ci' rfl hh (fun hh=>?_) (fun hh=>?_)))))))))))))))
 ·cases hh
  exact t' rfl (re' (rt' rfl rfl rfl))
 exact sk' (t' rfl (S' (t' rfl (bk' (fw' (Kq hh) rfl rfl rfl)))))
def E6 (l:List E0)(atV:Int):Option (Str×Int×Bool):=
 (if (decide (atV < ((l).length:Int)))=true then idx l atV else some default)>>=fun x1=>
 if (bif (decide (atV < ((l).length:Int))) then (x1.Kind == 0) else false)=true then
  idx l atV>>=fun x2=>
  some (x2.Text,(IntKind.i64.wrap (atV+1)),true)
 else
  some ([],atV,false)
theorem Jo {l atV res}(hh:E6 l atV=some res):K0 C 78 [.d (.sl (E0.rows l)),.d (.int .i64 atV)] [] (Ret [] (.tup [.d (.str res.1),.d (.int .i64 res.2.1),.d (.bool res.2.2)])):=by
 unfold E6 at hh
 obtain ⟨x1,hx1,hh⟩:=bs' hh
 refine K0.intro hC Tryz.func78 rfl rfl rfl (t' rfl (S' (sg' 12 rfl (G' 2 rfl (AG.qe hC rfl (fun hg=>⟨trivial,trivial⟩) (E0.lenA _) (G' 4 rfl (AG.i hC rfl rfl (fun hg=>⟨hg,hg,trivial⟩) (fun hw=>⟨I1 (Y1 hw hx1),E0.idx (Y1 hw hx1),rfl⟩) (a1' rfl (a1' rfl (a1' rfl (pa' rfl (an' (n' (ci' rfl hh (fun hh=>?_) (fun hh=>?_)))))))))))))))
 ·obtain ⟨x2,hx2,hh⟩:=bs' hh
  cases hh
  exact p' 2 rfl (i' rfl (I1 hx2) (E0.idx hx2) rfl (e' rfl (re' (rt' rfl rfl rfl))))
 cases hh
 exact sk' (t' rfl (re' (rt' rfl rfl rfl)))
def I3 (l:List E0)(atV:Int)(level:Int):Option (Int×Bool):=
 (if (!(decide (atV≥((l).length:Int))))=true then idx l atV else some default)>>=fun x1=>
 if (bif (decide (atV≥((l).length:Int))) then true else (x1.Kind != 3))=true then
  some (0,false)
 else
  idx l atV>>=fun x2=>
  if (x2.Text == [124,124])=true then
   some (20,(1 == level))
  else
   if (x2.Text == [38,38])=true then
    some (19,(2 == level))
   else
    if (x2.Text == [61,61])=true then
     some (13,(3 == level))
    else
     if (x2.Text == [33,61])=true then
      some (14,(3 == level))
     else
      if (x2.Text == [60])=true then
       some (15,(3 == level))
      else
       if (x2.Text == [60,61])=true then
        some (16,(3 == level))
       else
        if (x2.Text == [62])=true then
         some (17,(3 == level))
        else
         if (x2.Text == [62,61])=true then
          some (18,(3 == level))
         else
          if (x2.Text == [43])=true then
           some (8,(4 == level))
          else
           if (x2.Text == [45])=true then
            some (9,(4 == level))
           else
            if (x2.Text == [42])=true then
             some (10,(5 == level))
            else
             if (x2.Text == [47])=true then
              some (11,(5 == level))
             else
              if (x2.Text == [37])=true then
               some (12,(5 == level))
              else
               some (0,(0 == level))
theorem Gv {l atV level res}(hh:I3 l atV level=some res):K0 C 122 [.d (.sl (E0.rows l)),.d (.int .i64 atV),.d (.int .i64 level)] [] (Ret [] (.tup [.d (.int .i64 res.1),.d (.bool res.2)])):=by
 unfold I3 at hh
 obtain ⟨x1,hx1,hh⟩:=bs' hh
 refine K0.intro hC Tryz.func122 rfl rfl rfl (t' rfl (S' (sg' 12 rfl (G' 2 rfl (AG.qe hC rfl (fun hg=>⟨trivial,trivial⟩) (E0.lenA _) (G' 4 rfl (AG.i hC rfl rfl (fun hg=>⟨hg,hg,trivial⟩) (fun hw=>⟨I1 (Y1 hw hx1),E0.idx (Y1 hw hx1),rfl⟩) (a1' rfl (a1' rfl (a1' rfl (po' rfl (an' (n' (ci' rfl hh (fun hh=>?_) (fun hh=>?_)))))))))))))))
 ·cases hh
  exact t' rfl (re' (rt' rfl rfl rfl))
 obtain ⟨x2,hx2,hh⟩:=bs' hh
 refine sk' (t' rfl (S' (p' 2 rfl (i' rfl (I1 hx2) (E0.idx hx2) rfl (e' rfl (bk' (t' rfl (ci' rfl hh (fun hh=>?_) (fun hh=>?_)))))))))
 ·cases hh
  exact T' rfl (t' rfl (re' (rt' rfl rfl rfl)))
 refine t' rfl (ci' rfl hh (fun hh=>?_) (fun hh=>?_))
 ·cases hh
  exact T' rfl (t' rfl (re' (rt' rfl rfl rfl)))
 refine t' rfl (ci' rfl hh (fun hh=>?_) (fun hh=>?_))
 ·cases hh
  exact T' rfl (t' rfl (re' (rt' rfl rfl rfl)))
 refine t' rfl (ci' rfl hh (fun hh=>?_) (fun hh=>?_))
 ·cases hh
  exact T' rfl (t' rfl (re' (rt' rfl rfl rfl)))
 refine t' rfl (ci' rfl hh (fun hh=>?_) (fun hh=>?_))
 ·cases hh
  exact T' rfl (t' rfl (re' (rt' rfl rfl rfl)))
 refine t' rfl (ci' rfl hh (fun hh=>?_) (fun hh=>?_))
 ·cases hh
  exact T' rfl (t' rfl (re' (rt' rfl rfl rfl)))
 refine t' rfl (ci' rfl hh (fun hh=>?_) (fun hh=>?_))
 ·cases hh
  exact T' rfl (t' rfl (re' (rt' rfl rfl rfl)))
 refine t' rfl (ci' rfl hh (fun hh=>?_) (fun hh=>?_))
 ·cases hh
  exact T' rfl (t' rfl (re' (rt' rfl rfl rfl)))
 refine t' rfl (ci' rfl hh (fun hh=>?_) (fun hh=>?_))
 ·cases hh
  exact T' rfl (t' rfl (re' (rt' rfl rfl rfl)))
 refine t' rfl (ci' rfl hh (fun hh=>?_) (fun hh=>?_))
 ·cases hh
  exact T' rfl (t' rfl (re' (rt' rfl rfl rfl)))
 refine t' rfl (ci' rfl hh (fun hh=>?_) (fun hh=>?_))
 ·cases hh
  exact T' rfl (t' rfl (re' (rt' rfl rfl rfl)))
 refine t' rfl (ci' rfl hh (fun hh=>?_) (fun hh=>?_))
 ·cases hh
  exact T' rfl (t' rfl (re' (rt' rfl rfl rfl)))
 refine t' rfl (ci' rfl hh (fun hh=>?_) (fun hh=>?_))
 ·cases hh
  exact T' rfl (t' rfl (re' (rt' rfl rfl rfl)))
 cases hh
 exact sk' (t' rfl (re' (rt' rfl rfl rfl)))
mutual
def O1 (l:List E0)(atV:Int):Option (A0×Int×Bool):=
 Q1 l atV 1>>=fun x1=>
 (if (!(!x1.2.2))=true then Y0 l x1.2.1 [63] else some default)>>=fun x2=>
 if (bif (!x1.2.2) then true else (!x2))=true then
  some (x1.1,x1.2.1,x1.2.2)
 else
  O1 l (IntKind.i64.wrap (x1.2.1+1))>>=fun x3=>
  if (!x3.2.2)=true then
   some (x3.1,x3.2.1,false)
  else
   Y0 l x3.2.1 [58]>>=fun x4=>
   if (!x4)=true then
    some (x3.1,x3.2.1,false)
   else
    O1 l (IntKind.i64.wrap (x3.2.1+1))>>=fun x5=>
    if (!x5.2.2)=true then
     some (x5.1,x5.2.1,false)
    else
     some ((A0.mk 23 0 [] [x1.1,x3.1,x5.1]),x5.2.1,true)
 partial_fixpoint
def Q1 (l:List E0)(atV:Int)(n:Int):Option (A0×Int×Bool):=
 if (n == 6)=true then
  F9 l atV>>=fun x1=>
  some (x1.1,x1.2.1,x1.2.2)
 else
  Q1 l atV (IntKind.i64.wrap (n+1))>>=fun x2=>
  if (!x2.2.2)=true then
   some (x2.1,x2.2.1,false)
  else
   U1 l n x2.1 x2.2.1
 partial_fixpoint
def U1 (l:List E0)(n:Int)(o1:A0)(atV1:Int):Option (A0×Int×Bool):=
 I3 l atV1 n>>=fun x3=>
 if (!x3.2)=true then
  some (o1,atV1,true)
 else
  Q1 l (IntKind.i64.wrap (atV1+1)) (IntKind.i64.wrap (n+1))>>=fun x4=>
  if (!x4.2.2)=true then
   some (x4.1,x4.2.1,false)
  else
   Ce x3.1 o1 x4.1>>=fun x5=>
   if (n == 3)=true then
    some (x5,x4.2.1,true)
   else
    U1 l n x5 x4.2.1
 partial_fixpoint
def F9 (l:List E0)(atV:Int):Option (A0×Int×Bool):=
 Y0 l atV [45]>>=fun x1=>
 (if (!x1)=true then Y0 l atV [33] else some default)>>=fun x2=>
 if (bif (!x1) then (!x2) else false)=true then
  Se l atV>>=fun x3=>
  some (x3.1,x3.2.1,x3.2.2)
 else
  Y0 l atV [33]>>=fun x4=>
  if x4=true then
   Ib l atV 7
  else
   Ib l atV 6
 partial_fixpoint
def Ib (l:List E0)(atV:Int)(op:Int):Option (A0×Int×Bool):=
 F9 l (IntKind.i64.wrap (atV+1))>>=fun x5=>
 if (!x5.2.2)=true then
  some (x5.1,x5.2.1,false)
 else
  some ((A0.mk op 0 [] [x5.1]),x5.2.1,true)
 partial_fixpoint
def Se (l:List E0)(atV:Int):Option (A0×Int×Bool):=
 Y0 l atV [116,114,117,101]>>=fun x1=>
 if x1=true then
  some ((A0.mk 1 0 [] []),(IntKind.i64.wrap (atV+1)),true)
 else
  Y0 l atV [102,97,108,115,101]>>=fun x2=>
  if x2=true then
   some ((A0.mk 2 0 [] []),(IntKind.i64.wrap (atV+1)),true)
  else
   Y0 l atV [109,105,110]>>=fun x3=>
   (if (!x3)=true then Y0 l atV [109,97,120] else some default)>>=fun x4=>
   if (bif x3 then true else x4)=true then
    Te l atV>>=fun x5=>
    some (x5.1,x5.2.1,x5.2.2)
   else
    Y0 l atV [40]>>=fun x6=>
    if x6=true then
     O1 l (IntKind.i64.wrap (atV+1))>>=fun x9=>
     (if (!(!x9.2.2))=true then Y0 l x9.2.1 [41] else some default)>>=fun x10=>
     if (bif (!x9.2.2) then true else (!x10))=true then
      some (x9.1,x9.2.1,false)
     else
      some (x9.1,(IntKind.i64.wrap (x9.2.1+1)),true)
    else
     Q9 l atV>>=fun x7=>
     if x7.2.2=true then
      some ((A0.mk 0 x7.1 [] []),x7.2.1,true)
     else
      Xc l atV>>=fun x8=>
      some (x8.1,x8.2.1,x8.2.2)
 partial_fixpoint
def Xc (l:List E0)(atV:Int):Option (A0×Int×Bool):=
 E6 l atV>>=fun x1=>
 if (!x1.2.2)=true then
  some ((A0.mk 0 0 [] []),x1.2.1,false)
 else
  T7 l 3 0 x1.1 [] x1.2.1
 partial_fixpoint
def T7 (l:List E0)(o1_Op:Int)(o1_NV:Int)(o1_Name:Str)(o1_Kids:List A0)(atV1:Int):Option (A0×Int×Bool):=
 Y0 l atV1 [46]>>=fun x2=>
 (if (!x2)=true then Y0 l atV1 [91] else some default)>>=fun x3=>
 if (bif x2 then true else x3)=true then
  Y0 l atV1 [46]>>=fun x4=>
  if x4=true then
   E6 l (IntKind.i64.wrap (atV1+1))>>=fun x5=>
   if (!x5.2.2)=true then
    some ((A0.mk o1_Op o1_NV o1_Name o1_Kids),x5.2.1,false)
   else
    T7 l 4 0 x5.1 [(A0.mk o1_Op o1_NV o1_Name o1_Kids)] x5.2.1
  else
   O1 l (IntKind.i64.wrap (atV1+1))>>=fun x6=>
   (if (!(!x6.2.2))=true then Y0 l x6.2.1 [93] else some default)>>=fun x7=>
   if (bif (!x6.2.2) then true else (!x7))=true then
    some (x6.1,x6.2.1,false)
   else
    Ce 5 (A0.mk o1_Op o1_NV o1_Name o1_Kids) x6.1>>=fun x8=>
    T7 l x8.Op x8.NV x8.Name x8.Kids (IntKind.i64.wrap (x6.2.1+1))
 else
  some ((A0.mk o1_Op o1_NV o1_Name o1_Kids),atV1,true)
 partial_fixpoint
def Te (l:List E0)(atV:Int):Option (A0×Int×Bool):=
 Y0 l atV [109,97,120]>>=fun x1=>
 if x1=true then
  R9 l atV 22
 else
  R9 l atV 21
 partial_fixpoint
def R9 (l:List E0)(atV:Int)(op:Int):Option (A0×Int×Bool):=
 Y0 l (IntKind.i64.wrap (atV+1)) [40]>>=fun x2=>
 if (!x2)=true then
  some ((A0.mk 0 0 [] []),(IntKind.i64.wrap (atV+1)),false)
 else
  O1 l (IntKind.i64.wrap (atV+2))>>=fun x3=>
  (if (!(!x3.2.2))=true then Y0 l x3.2.1 [44] else some default)>>=fun x4=>
  if (bif (!x3.2.2) then true else (!x4))=true then
   some (x3.1,x3.2.1,false)
  else
   O1 l (IntKind.i64.wrap (x3.2.1+1))>>=fun x5=>
   (if (!(!x5.2.2))=true then Y0 l x5.2.1 [41] else some default)>>=fun x6=>
   if (bif (!x5.2.2) then true else (!x6))=true then
    some (x5.1,x5.2.1,false)
   else
    Ce op x3.1 x5.1>>=fun x7=>
    some (x7,(IntKind.i64.wrap (x5.2.1+1)),true)
 partial_fixpoint
end
abbrev Wh (l:List E0)(atV:Int)(res:A0×Int×Bool):Prop:=K0 C 32 [.d (.sl (E0.rows l)),.d (.int .i64 atV)] [] (Ret [] (.tup [.agg (A0.cells res.1),.d (.int .i64 res.2.1),.d (.bool res.2.2)]))
abbrev Zx (l:List E0)(atV:Int)(n:Int)(res:A0×Int×Bool):Prop:=K0 C 65 [.d (.sl (E0.rows l)),.d (.int .i64 atV),.d (.int .i64 n)] [] (Ret [] (.tup [.agg (A0.cells res.1),.d (.int .i64 res.2.1),.d (.bool res.2.2)]))
abbrev Gt (l:List E0)(n:Int)(o1:A0)(atV1:Int)(res:A0×Int×Bool):Prop:=LM C 71 0 Tryz.f65 [1,1,1,1,4] [(0,.d (.sl (E0.rows l))),(1,.d (.int .i64 atV1)),(2,.d (.int .i64 n)),(6,.ref 0 0),(9,.ref 1 0)] [.row [.d (.int .i64 0),.d (.int .i64 0),.d (.str []),.full (A0.rows [])] 26,.row (A0.cells o1) 26] (Ret [] (.tup [.agg (A0.cells res.1),.d (.int .i64 res.2.1),.d (.bool res.2.2)]))
abbrev Ay (l:List E0)(atV:Int)(res:A0×Int×Bool):Prop:=K0 C 121 [.d (.sl (E0.rows l)),.d (.int .i64 atV)] [] (Ret [] (.tup [.agg (A0.cells res.1),.d (.int .i64 res.2.1),.d (.bool res.2.2)]))
abbrev Ht (l:List E0)(atV:Int)(op:Int)(res:A0×Int×Bool):Prop:=JM C 46 0 Tryz.f121 [1,1,1,1] [(0,.d (.sl (E0.rows l))),(1,.d (.int .i64 atV)),(4,.ref 0 0),(7,.d (.int .i64 op))] [.row [.d (.int .i64 0),.d (.int .i64 0),.d (.str []),.full (A0.rows [])] 26] (Ret [] (.tup [.agg (A0.cells res.1),.d (.int .i64 res.2.1),.d (.bool res.2.2)]))
abbrev Hv (l:List E0)(atV:Int)(res:A0×Int×Bool):Prop:=K0 C 169 [.d (.sl (E0.rows l)),.d (.int .i64 atV)] [] (Ret [] (.tup [.agg (A0.cells res.1),.d (.int .i64 res.2.1),.d (.bool res.2.2)]))
abbrev Cy (l:List E0)(atV:Int)(res:A0×Int×Bool):Prop:=K0 C 192 [.d (.sl (E0.rows l)),.d (.int .i64 atV)] [] (Ret [] (.tup [.agg (A0.cells res.1),.d (.int .i64 res.2.1),.d (.bool res.2.2)]))
abbrev It (l:List E0)(o1_Op:Int)(o1_NV:Int)(o1_Name:Str)(o1_Kids:List A0)(atV1:Int)(res:A0×Int×Bool):Prop:=LM C 82 0 Tryz.f192 [1,1,1,1,0,4] [(0,.d (.sl (E0.rows l))),(1,.d (.int .i64 atV1)),(4,.ref 0 0),(9,.ref 1 0)] [.row [.d (.int .i64 0),.d (.int .i64 0),.d (.str []),.full (A0.rows [])] 26,.row [.d (.int .i64 o1_Op),.d (.int .i64 o1_NV),.d (.str o1_Name),.d (.sl (A0.rows o1_Kids))] 26] (Ret [] (.tup [.agg (A0.cells res.1),.d (.int .i64 res.2.1),.d (.bool res.2.2)]))
abbrev Iv (l:List E0)(atV:Int)(res:A0×Int×Bool):Prop:=K0 C 191 [.d (.sl (E0.rows l)),.d (.int .i64 atV)] [] (Ret [] (.tup [.agg (A0.cells res.1),.d (.int .i64 res.2.1),.d (.bool res.2.2)]))
abbrev Lq (l:List E0)(atV:Int)(op:Int)(res:A0×Int×Bool):Prop:=JM C 64 0 Tryz.f191 [1,1,1] [(0,.d (.sl (E0.rows l))),(1,.d (.int .i64 atV)),(4,.ref 0 0),(7,.d (.int .i64 op))] [.row [.d (.int .i64 0),.d (.int .i64 0),.d (.str []),.full (A0.rows [])] 26] (Ret [] (.tup [.agg (A0.cells res.1),.d (.int .i64 res.2.1),.d (.bool res.2.2)]))
theorem Xn (l:List E0):(∀ atV res,O1 l atV=some res→Wh l atV res)∧(∀ atV n res,Q1 l atV n=some res→Zx l atV n res)∧(∀ n o1 atV1 res,U1 l n o1 atV1=some res→Gt l n o1 atV1 res)∧(∀ atV res,F9 l atV=some res→Ay l atV res)∧(∀ atV op res,Ib l atV op=some res→Ht l atV op res)∧(∀ atV res,Se l atV=some res→Hv l atV res)∧(∀ atV res,Xc l atV=some res→Cy l atV res)∧(∀ o1_Op o1_NV o1_Name o1_Kids atV1 res,T7 l o1_Op o1_NV o1_Name o1_Kids atV1=some res→It l o1_Op o1_NV o1_Name o1_Kids atV1 res)∧(∀ atV res,Te l atV=some res→Iv l atV res)∧(∀ atV op res,R9 l atV op=some res→Lq l atV op res):=by
 refine O1.mutual_partial_correctness l _ _ _ _ _ _ _ _ _ _ ?_ ?_ ?_ ?_ ?_ ?_ ?_ ?_ ?_ ?_
 ·intro g0 g1 ih0 ih1 atV res hh
  obtain ⟨x1,hx1,hh⟩:=bs' hh
  obtain ⟨x2,hx2,hh⟩:=bs' hh
  refine K0.intro hC Tryz.func32 rfl rfl rfl (s' rfl rfl (D0.nf hC rfl (e' rfl (p' 2 rfl (c' (ih1 _ _ _ hx1) rfl rfl (o' 4 rfl (D0.nf hC rfl (D0.s hC rfl (e' rfl (S' (sg' 8 rfl (G' 5 rfl (AG.c rfl rfl (fun hg=>⟨hg,hg,trivial⟩) (fun hw=>U2 (Y1 hw hx2)) ?_)))))))))))))
  refine a1' rfl (po' rfl (an' (n' (ci' rfl hh (fun hh=>?_) (fun hh=>?_)))))
  ·cases hh
   exact p' 3 rfl (D0.s hC rfl (e' rfl (re' (rt' rfl rfl rfl))))
  obtain ⟨x3,hx3,hh⟩:=bs' hh
  refine sk' (p' 3 rfl (c' (ih0 _ _ hx3) rfl rfl (o' 4 rfl (D0.nf hC rfl (D0.s hC rfl (e' rfl (S' (t' rfl (ci' rfl hh (fun hh=>?_) (fun hh=>?_))))))))))
  ·cases hh
   exact p' 2 rfl (D0.s hC rfl (e' rfl (re' (rt' rfl rfl rfl))))
  obtain ⟨x4,hx4,hh⟩:=bs' hh
  refine sk' (S' (p' 2 rfl (c' (U2 hx4) rfl rfl (e' rfl (ci' rfl hh (fun hh=>?_) (fun hh=>?_))))))
  ·cases hh
   exact p' 2 rfl (D0.s hC rfl (e' rfl (re' (rt' rfl rfl rfl))))
  obtain ⟨x5,hx5,hh⟩:=bs' hh
  refine sk' (p' 3 rfl (c' (ih0 _ _ hx5) rfl rfl (o' 4 rfl (D0.nf hC rfl (D0.s hC rfl (e' rfl (S' (t' rfl (ci' rfl hh (fun hh=>?_) (fun hh=>?_))))))))))
  ·cases hh
   exact p' 2 rfl (D0.s hC rfl (e' rfl (re' (rt' rfl rfl rfl))))
  refine sk' (p' 3 rfl (D0.be hC rfl (A0.rows_map [x1.1,x3.1,x5.1]).symm (o' 2 rfl (D0.s hC rfl (e' rfl (re' ?_))))))
  obtain rfl:=oi' hh
  exact ⟨_,.tup [.agg [.d (.int .i64 23),.d (.int .i64 0),.d (.str []),.d (.sl (A0.rows [x1.1,x3.1,x5.1]))],.d (.int .i64 x5.2.1),.d (.bool true)],[],rfl,(.tupL ⟨(.aggL ⟨.rfl,.rfl,.rfl,.full,trivial⟩),.rfl,.rfl,trivial⟩),trivial,rfl,rfl,rfl,rfl⟩
 ·intro g1 g2 g3 ih1 ih2 ih3 atV n res hh
  refine K0.intro hC Tryz.func65 rfl rfl rfl (s' rfl rfl (D0.nf hC rfl (e' rfl (S' (t' rfl (ci' rfl hh (fun hh=>?_) (fun hh=>?_)))))))
  ·obtain ⟨x1,hx1,hh⟩:=bs' hh
   cases hh
   exact p' 2 rfl (c' (ih3 _ _ hx1) rfl rfl (o' 3 rfl (D0.s hC rfl (e' rfl (re' (rt' rfl rfl rfl))))))
  obtain ⟨x2,hx2,hh⟩:=bs' hh
  refine sk' (p' 4 rfl (c' (ih1 _ _ _ hx2) rfl rfl (o' 4 rfl (D0.nf hC rfl (D0.s hC rfl (e' rfl (S' (t' rfl (ci' rfl hh (fun hh=>?_) (fun hh=>?_))))))))))
  ·cases hh
   exact p' 2 rfl (D0.s hC rfl (e' rfl (re' (rt' rfl rfl rfl))))
  exact sk' (bk' (fw' (ih2 _ _ _ _ hh) rfl rfl rfl))
 ·intro g1 g2 ih1 ih2 n o1 atV1 res hh
  obtain ⟨x3,hx3,hh⟩:=bs' hh
  refine P0.unroll (bk' (p' 3 rfl (c' (Gv hx3) rfl rfl (e' rfl (S' (t' rfl (ci' rfl hh (fun hh=>?_) (fun hh=>?_))))))))
  ·cases hh
   exact p' 2 rfl (D0.s hC rfl (e' rfl (re' (rt' rfl rfl rfl))))
  obtain ⟨x4,hx4,hh⟩:=bs' hh
  refine sk' (p' 5 rfl (c' (ih1 _ _ _ hx4) rfl rfl (o' 4 rfl (D0.nf hC rfl (D0.s hC rfl (e' rfl (S' (t' rfl (ci' rfl hh (fun hh=>?_) (fun hh=>?_))))))))))
  ·cases hh
   exact p' 2 rfl (D0.s hC rfl (e' rfl (re' (rt' rfl rfl rfl))))
  obtain ⟨x5,hx5,hh⟩:=bs' hh
  refine sk' (p' 3 rfl (c' (Gi hx5) rfl rfl (q' rfl (D0.s hC rfl (e' rfl (t' rfl (ci' rfl hh (fun hh=>?_) (fun hh=>?_))))))))
  ·cases hh
   exact p' 2 rfl (D0.s hC rfl (e' rfl (re' (rt' rfl rfl rfl))))
  exact sk' (lw' (ih2 _ _ _ _ hh) rfl rfl rfl)
 ·intro g4 g5 ih4 ih5 atV res hh
  obtain ⟨x1,hx1,hh⟩:=bs' hh
  obtain ⟨x2,hx2,hh⟩:=bs' hh
  refine K0.intro hC Tryz.func121 rfl rfl rfl (s' rfl rfl (D0.nf hC rfl (e' rfl (S' (sg' 10 rfl (G' 2 rfl (AG.c rfl rfl (fun _=>trivial) (fun _=>U2 hx1) (G' 4 rfl (AG.c rfl rfl (fun hg=>⟨hg,hg,trivial⟩) (fun hw=>U2 (Y1 hw hx2)) (a1' rfl (pa' rfl (an' (n' (ci' rfl hh (fun hh=>?_) (fun hh=>?_)))))))))))))))
  ·obtain ⟨x3,hx3,hh⟩:=bs' hh
   cases hh
   exact p' 2 rfl (c' (ih5 _ _ hx3) rfl rfl (o' 3 rfl (D0.s hC rfl (e' rfl (re' (rt' rfl rfl rfl))))))
  obtain ⟨x4,hx4,hh⟩:=bs' hh
  refine sk' (t' rfl (S' (p' 2 rfl (c' (U2 hx4) rfl rfl (n' (ci' rfl hh (fun hh=>?_) (fun hh=>?_)))))))
  ·exact T' rfl (ew' (ih4 _ _ _ hh) rfl rfl rfl)
  exact sk' (ew' (ih4 _ _ _ hh) rfl rfl rfl)
 ·intro g3 ih3 atV op res hh
  obtain ⟨x5,hx5,hh⟩:=bs' hh
  refine p' 3 rfl (c' (ih3 _ _ hx5) rfl rfl (o' 4 rfl (D0.nf hC rfl (D0.s hC rfl (e' rfl (S' (t' rfl (ci' rfl hh (fun hh=>?_) (fun hh=>?_)))))))))
  ·cases hh
   exact p' 2 rfl (D0.s hC rfl (e' rfl (re' (rt' rfl rfl rfl))))
  refine sk' (p' 2 rfl (D0.be hC rfl (A0.rows_map [x5.1]).symm (o' 2 rfl (D0.s hC rfl (e' rfl (re' ?_))))))
  obtain rfl:=oi' hh
  exact ⟨_,.tup [.agg [.d (.int .i64 op),.d (.int .i64 0),.d (.str []),.d (.sl (A0.rows [x5.1]))],.d (.int .i64 x5.2.1),.d (.bool true)],[],rfl,(.tupL ⟨(.aggL ⟨.rfl,.rfl,.rfl,.full,trivial⟩),.rfl,.rfl,trivial⟩),trivial,rfl,rfl,rfl,rfl⟩
 ·intro g0 g6 g8 ih0 ih6 ih8 atV res hh
  obtain ⟨x1,hx1,hh⟩:=bs' hh
  refine K0.intro hC Tryz.func169 rfl rfl rfl (s' rfl rfl (D0.nf hC rfl (e' rfl (S' (p' 2 rfl (c' (U2 hx1) rfl rfl (n' (ci' rfl hh (fun hh=>?_) (fun hh=>?_)))))))))
  ·cases hh
   exact p' 3 rfl (D0.s hC rfl (e' rfl (re' (rt' rfl rfl rfl))))
  obtain ⟨x2,hx2,hh⟩:=bs' hh
  refine sk' (S' (p' 2 rfl (c' (U2 hx2) rfl rfl (n' (ci' rfl hh (fun hh=>?_) (fun hh=>?_))))))
  ·cases hh
   exact p' 3 rfl (D0.s hC rfl (e' rfl (re' (rt' rfl rfl rfl))))
  obtain ⟨x3,hx3,hh⟩:=bs' hh
  obtain ⟨x4,hx4,hh⟩:=bs' hh
  refine sk' (S' (sg' 8 rfl (G' 2 rfl (AG.c rfl rfl (fun _=>trivial) (fun _=>U2 hx3) (G' 3 rfl (AG.c rfl rfl (fun hg=>⟨hg,hg,trivial⟩) (fun hw=>U2 (Y1 hw hx4)) (po' rfl (an' (n' (ci' rfl hh (fun hh=>?_) (fun hh=>?_)))))))))))
  ·obtain ⟨x5,hx5,hh⟩:=bs' hh
   cases hh
   exact p' 2 rfl (c' (ih8 _ _ hx5) rfl rfl (o' 3 rfl (D0.s hC rfl (e' rfl (re' (rt' rfl rfl rfl))))))
  obtain ⟨x6,hx6,hh⟩:=bs' hh
  refine sk' (S' (p' 2 rfl (c' (U2 hx6) rfl rfl (n' (ci' rfl hh (fun hh=>?_) (fun hh=>?_))))))
  ·obtain ⟨x9,hx9,hh⟩:=bs' hh
   obtain ⟨x10,hx10,hh⟩:=bs' hh
   refine p' 3 rfl (c' (ih0 _ _ hx9) rfl rfl (o' 4 rfl (D0.nf hC rfl (D0.s hC rfl (e' rfl (S' (sg' 8 rfl (G' 5 rfl (AG.c rfl rfl (fun hg=>⟨hg,hg,trivial⟩) (fun hw=>U2 (Y1 hw hx10)) (a1' rfl (po' rfl (an' (n' (ci' rfl hh (fun hh=>?_) (fun hh=>?_)))))))))))))))
   ·cases hh
    exact p' 2 rfl (D0.s hC rfl (e' rfl (re' (rt' rfl rfl rfl))))
   cases hh
   exact sk' (p' 3 rfl (D0.s hC rfl (e' rfl (re' (rt' rfl rfl rfl)))))
  obtain ⟨x7,hx7,hh⟩:=bs' hh
  refine sk' (p' 2 rfl (c' (Fv hx7) rfl rfl (e' rfl (S' (t' rfl (ci' rfl hh (fun hh=>?_) (fun hh=>?_)))))))
  ·cases hh
   exact p' 3 rfl (D0.s hC rfl (e' rfl (re' (rt' rfl rfl rfl))))
  obtain ⟨x8,hx8,hh⟩:=bs' hh
  cases hh
  exact sk' (p' 2 rfl (c' (ih6 _ _ hx8) rfl rfl (o' 3 rfl (D0.s hC rfl (e' rfl (re' (rt' rfl rfl rfl)))))))
 ·intro g7 ih7 atV res hh
  obtain ⟨x1,hx1,hh⟩:=bs' hh
  refine K0.intro hC Tryz.func192 rfl rfl rfl (s' rfl rfl (D0.nf hC rfl (e' rfl (p' 2 rfl (c' (Jo hx1) rfl rfl (e' rfl (S' (t' rfl (ci' rfl hh (fun hh=>?_) (fun hh=>?_))))))))))
  ·cases hh
   exact p' 2 rfl (D0.s hC rfl (e' rfl (re' (rt' rfl rfl rfl))))
  exact sk' (p' 2 rfl (D0.nf hC rfl (D0.s hC rfl (n' (S' (bk' (fw' (ih7 _ _ _ _ _ _ hh) rfl rfl rfl)))))))
 ·intro g0 g7 ih0 ih7 o1_Op o1_NV o1_Name o1_Kids atV1 res hh
  obtain ⟨x2,hx2,hh⟩:=bs' hh
  obtain ⟨x3,hx3,hh⟩:=bs' hh
  refine P0.unroll (S' (sg' 8 rfl (G' 2 rfl (AG.c rfl rfl (fun _=>trivial) (fun _=>U2 hx2) (G' 3 rfl (AG.c rfl rfl (fun hg=>⟨hg,hg,trivial⟩) (fun hw=>U2 (Y1 hw hx3)) (po' rfl (an' (n' (ci' rfl hh (fun hh=>?_) (fun hh=>?_)))))))))))
  ·obtain ⟨x4,hx4,hh⟩:=bs' hh
   refine sk' (bk' (S' (p' 2 rfl (c' (U2 hx4) rfl rfl (n' (ci' rfl hh (fun hh=>?_) (fun hh=>?_)))))))
   ·obtain ⟨x5,hx5,hh⟩:=bs' hh
    refine p' 3 rfl (c' (Jo hx5) rfl rfl (e' rfl (S' (t' rfl (ci' rfl hh (fun hh=>?_) (fun hh=>?_))))))
    ·cases hh
     exact p' 2 rfl (D0.s hC rfl (e' rfl (re' (rt' rfl rfl rfl))))
    refine sk' (p' 2 rfl (D0.be hC rfl (A0.rows_map [(A0.mk o1_Op o1_NV o1_Name o1_Kids)]).symm (o' 2 rfl (D0.s hC rfl (e' rfl (ex' ?_))))))
    refine P0.wk ?_ (ih7 _ _ _ _ _ _ hh)
    exact ⟨⟨⟨.rfl,rfl⟩,⟨.rfl,rfl⟩,⟨.rfl,rfl⟩,⟨.rfl,rfl⟩,trivial⟩,⟨⟨rfl,.refl _,rfl⟩,⟨rfl,⟨.rfl,.rfl,.rfl,.full,trivial⟩,rfl⟩,trivial⟩,rfl⟩
   obtain ⟨x6,hx6,hh⟩:=bs' hh
   obtain ⟨x7,hx7,hh⟩:=bs' hh
   refine sk' (p' 3 rfl (c' (ih0 _ _ hx6) rfl rfl (o' 4 rfl (D0.nf hC rfl (D0.s hC rfl (e' rfl (S' (sg' 8 rfl (G' 5 rfl (AG.c rfl rfl (fun hg=>⟨hg,hg,trivial⟩) (fun hw=>U2 (Y1 hw hx7)) (a1' rfl (po' rfl (an' ?_)))))))))))))
   refine n' (ci' rfl hh (fun hh=>?_) (fun hh=>?_))
   ·cases hh
    exact p' 2 rfl (D0.s hC rfl (e' rfl (re' (rt' rfl rfl rfl))))
   obtain ⟨x8,hx8,hh⟩:=bs' hh
   exact sk' (P' 2 rfl (c' (Gi hx8) rfl rfl (o' 2 rfl (D0.s hC rfl (e' rfl (lw' (ih7 _ _ _ _ _ _ hh) rfl rfl rfl))))))
  cases hh
  exact ex' (p' 2 rfl (D0.s hC rfl (e' rfl (re' (rt' rfl rfl rfl)))))
 ·intro g9 ih9 atV res hh
  obtain ⟨x1,hx1,hh⟩:=bs' hh
  refine K0.intro hC Tryz.func191 rfl rfl rfl (s' rfl rfl (D0.nf hC rfl (e' rfl (t' rfl (S' (p' 2 rfl (c' (U2 hx1) rfl rfl (n' (ci' rfl hh (fun hh=>?_) (fun hh=>?_))))))))))
  ·exact T' rfl (ew' (ih9 _ _ _ hh) rfl rfl rfl)
  exact sk' (ew' (ih9 _ _ _ hh) rfl rfl rfl)
 ·intro g0 ih0 atV op res hh
  obtain ⟨x2,hx2,hh⟩:=bs' hh
  refine S' (p' 3 rfl (c' (U2 hx2) rfl rfl (e' rfl (ci' rfl hh (fun hh=>?_) (fun hh=>?_)))))
  ·cases hh
   exact p' 3 rfl (D0.s hC rfl (e' rfl (re' (rt' rfl rfl rfl))))
  obtain ⟨x3,hx3,hh⟩:=bs' hh
  obtain ⟨x4,hx4,hh⟩:=bs' hh
  refine sk' (p' 3 rfl (c' (ih0 _ _ hx3) rfl rfl (o' 4 rfl (D0.nf hC rfl (D0.s hC rfl (e' rfl (S' (sg' 8 rfl (G' 5 rfl (AG.c rfl rfl (fun hg=>⟨hg,hg,trivial⟩) (fun hw=>U2 (Y1 hw hx4)) (a1' rfl (po' rfl (an' ?_)))))))))))))
  refine n' (ci' rfl hh (fun hh=>?_) (fun hh=>?_))
  ·cases hh
   exact p' 2 rfl (D0.s hC rfl (e' rfl (re' (rt' rfl rfl rfl))))
  obtain ⟨x5,hx5,hh⟩:=bs' hh
  obtain ⟨x6,hx6,hh⟩:=bs' hh
  refine sk' (p' 3 rfl (c' (ih0 _ _ hx5) rfl rfl (o' 4 rfl (D0.nf hC rfl (D0.s hC rfl (e' rfl (S' (sg' 8 rfl (G' 5 rfl (AG.c rfl rfl (fun hg=>⟨hg,hg,trivial⟩) (fun hw=>U2 (Y1 hw hx6)) (a1' rfl (po' rfl (an' ?_)))))))))))))
  refine n' (ci' rfl hh (fun hh=>?_) (fun hh=>?_))
  ·cases hh
   exact p' 2 rfl (D0.s hC rfl (e' rfl (re' (rt' rfl rfl rfl))))
  obtain ⟨x7,hx7,hh⟩:=bs' hh
  cases hh
  exact sk' (p' 3 rfl (c' (Gi hx7) rfl rfl (o' 2 rfl (D0.s hC rfl (e' rfl (re' (rt' rfl rfl rfl)))))))
theorem Bp {l atV res}(hh:O1 l atV=some res):Wh l atV res:=(Xn l).1 _ _ hh
def Td (text:Str)(l:List E0)(atV:Int):Option Int:=
 if (decide (atV < ((l).length:Int)))=true then
  idx l atV>>=fun x1=>
  some x1.At
 else
  some ((text).length:Int)
theorem Jv {text l atV res}(hh:Td text l atV=some res):K0 C 33 [.d (.str text),.d (.sl (E0.rows l)),.d (.int .i64 atV)] [] (Ret [] (.d (.int .i64 res))):=by
 unfold Td at hh
 refine K0.intro hC Tryz.func33 rfl rfl rfl (t' rfl (S' (p' 2 rfl (qe' rfl trivial (E0.lenA _) (e' rfl (ci' rfl hh (fun hh=>?_) (fun hh=>?_)))))))
 ·obtain ⟨x1,hx1,hh⟩:=bs' hh
  cases hh
  exact p' 2 rfl (i' rfl (I1 hx1) (E0.idx hx1) rfl (e' rfl (re' (rt' rfl rfl rfl))))
 cases hh
 exact sk' (t' rfl (re' (rt' rfl rfl rfl)))
def Rg (e:A0):Option Bool:=
 Y2 e (A0.mk 0 0 [] [])>>=fun x1=>
 some x1
theorem Vr {e res}(hh:Rg e=some res):K0 C 124 [.agg (A0.cells e)] [] (Ret [] (.d (.bool res))):=by
 unfold Rg at hh
 obtain ⟨x1,hx1,hh⟩:=bs' hh
 cases hh
 exact K0.intro hC Tryz.func124 rfl rfl rfl (s' rfl rfl (D0.n hC rfl (e' rfl (p' 2 rfl (c' (Pd hx1) rfl rfl (e' rfl (re' (rt' rfl rfl rfl))))))))
mutual
def Q5 (e:A0):Option Int:=
 O6 e 1 0
 partial_fixpoint
def O6 (e:A0)(n:Int)(i:Int):Option Int:=
 if (decide (i < ((e.Kids).length:Int)))=true then
  idx e.Kids i>>=fun x1=>
  Q5 x1>>=fun x2=>
  O6 e (IntKind.i64.wrap (n+x2)) (IntKind.i64.wrap (i+1))
 else
  some n
 partial_fixpoint
end
abbrev Ui (e:A0)(res:Int):Prop:=K0 C 125 [.agg (A0.cells e)] [] (Ret [] (.d (.int .i64 res)))
abbrev Yn (e:A0)(n:Int)(i:Int)(res:Int):Prop:=LM C 21 0 Tryz.f125 [1,1,0,1,4] [(1,.ref 0 0),(3,.d (.int .i64 n)),(4,.d (.int .i64 i))] [.row (A0.cells e) 26] (Ret [] (.d (.int .i64 res)))
theorem Cp:(∀ e res,Q5 e=some res→Ui e res)∧(∀ e n i res,O6 e n i=some res→Yn e n i res):=by
 refine Q5.mutual_partial_correctness _ _ ?_ ?_
 ·intro g1 ih1 e res hh
  exact K0.intro hC Tryz.func125 rfl rfl rfl (s' rfl rfl (D0.n hC rfl (e' rfl (t' rfl (S' (t' rfl (bk' (fw' (ih1 _ _ _ _ hh) rfl rfl rfl))))))))
 ·intro g0 g1 ih0 ih1 e n i res hh
  refine P0.unroll (S' (p' 3 rfl (qe' rfl trivial (A0.lenA _) (e' rfl (ci' rfl hh (fun hh=>?_) (fun hh=>?_))))))
  ·obtain ⟨x1,hx1,hh⟩:=bs' hh
   obtain ⟨x2,hx2,hh⟩:=bs' hh
   exact sk' (S' (bk' (P' 4 rfl (i' rfl (I1 hx1) (A0.idx hx1) rfl (q' rfl (c' (ih0 _ _ hx2) rfl rfl (e' rfl (T' rfl (lw' (ih1 _ _ _ _ hh) rfl rfl rfl)))))))))
  cases hh
  exact ex' (t' rfl (re' (rt' rfl rfl rfl)))
theorem Mq {e res}(hh:Q5 e=some res):Ui e res:=(Cp).1 _ _ hh
mutual
def R5 (e:A0):Option Int:=
 F5 e 0 0
 partial_fixpoint
def F5 (e:A0)(d:Int)(i:Int):Option Int:=
 if (decide (i < ((e.Kids).length:Int)))=true then
  idx e.Kids i>>=fun x1=>
  R5 x1>>=fun x2=>
  if (decide (x2 > d))=true then
   F5 e x2 (IntKind.i64.wrap (i+1))
  else
   F5 e d (IntKind.i64.wrap (i+1))
 else
  some (IntKind.i64.wrap (d+1))
 partial_fixpoint
end
abbrev Vi (e:A0)(res:Int):Prop:=K0 C 127 [.agg (A0.cells e)] [] (Ret [] (.d (.int .i64 res)))
abbrev Zn (e:A0)(d:Int)(i:Int)(res:Int):Prop:=LM C 25 0 Tryz.f127 [1,1,0,1,4] [(1,.ref 0 0),(3,.d (.int .i64 d)),(4,.d (.int .i64 i))] [.row (A0.cells e) 26] (Ret [] (.d (.int .i64 res)))
theorem Dp:(∀ e res,R5 e=some res→Vi e res)∧(∀ e d i res,F5 e d i=some res→Zn e d i res):=by
 refine R5.mutual_partial_correctness _ _ ?_ ?_
 ·intro g1 ih1 e res hh
  exact K0.intro hC Tryz.func127 rfl rfl rfl (s' rfl rfl (D0.n hC rfl (e' rfl (t' rfl (S' (t' rfl (bk' (fw' (ih1 _ _ _ _ hh) rfl rfl rfl))))))))
 ·intro g0 g1 ih0 ih1 e d i res hh
  refine P0.unroll (S' (p' 3 rfl (qe' rfl trivial (A0.lenA _) (e' rfl (ci' rfl hh (fun hh=>?_) (fun hh=>?_))))))
  ·obtain ⟨x1,hx1,hh⟩:=bs' hh
   obtain ⟨x2,hx2,hh⟩:=bs' hh
   refine sk' (S' (bk' (p' 3 rfl (i' rfl (I1 hx1) (A0.idx hx1) rfl (q' rfl (c' (ih0 _ _ hx2) rfl rfl (e' rfl (t' rfl (ci' rfl hh (fun hh=>?_) (fun hh=>?_))))))))))
   ·exact T' rfl (T' rfl (lw' (ih1 _ _ _ _ hh) rfl rfl rfl))
   exact sk' (T' rfl (lw' (ih1 _ _ _ _ hh) rfl rfl rfl))
  cases hh
  exact ex' (t' rfl (re' (rt' rfl rfl rfl)))
theorem Nq {e res}(hh:R5 e=some res):Vi e res:=(Dp).1 _ _ hh
def P8 (s:J1)(d:Int):Option J1:=
 if (decide (d > s.depth))=true then
  some (J1.mk s.nodes d)
 else
  some s
theorem Ao {s d res}(hh:P8 s d=some res):K0 C 126 [.agg (J1.cells s),.d (.int .i64 d)] [] (Ret [] (.agg (J1.cells res))):=by
 unfold P8 at hh
 refine K0.intro hC Tryz.func126 rfl rfl rfl (s' rfl rfl (D0.n hC rfl (D0.n hC rfl (n' (S' (t' rfl (ci' rfl hh (fun hh=>?_) (fun hh=>?_))))))))
 ·cases hh
  exact P' 2 rfl (D0.s hC rfl (n' (p' 1 rfl (D0.s hC rfl (n' (re' (rt' rfl rfl rfl)))))))
 cases hh
 exact sk' (p' 1 rfl (D0.s hC rfl (n' (re' (rt' rfl rfl rfl)))))
def Nc (s:J1)(e:A0)(used:Bool):Option J1:=
 (if (!used)=true then Rg e else some default)>>=fun x1=>
 if (bif (!used) then x1 else false)=true then
  some s
 else
  Q5 e>>=fun x2=>
  R5 e>>=fun x3=>
  P8 (J1.mk (IntKind.i64.wrap (s.nodes+x2)) s.depth) x3>>=fun x4=>
  some x4
theorem Jt {s e used res}(hh:Nc s e used=some res):K0 C 68 [.agg (J1.cells s),.agg (A0.cells e),.d (.bool used)] [] (Ret [] (.agg (J1.cells res))):=by
 unfold Nc at hh
 obtain ⟨x1,hx1,hh⟩:=bs' hh
 refine K0.intro hC Tryz.func68 rfl rfl rfl (s' rfl rfl (D0.n hC rfl (D0.n hC rfl (D0.n hC rfl (n' (S' (sg' 6 rfl (G' 4 rfl (AG.c rfl rfl (fun hg=>⟨hg,trivial⟩) (fun hw=>Vr (Y1 hw hx1)) (pa' rfl (an' (n' (ci' rfl hh (fun hh=>?_) (fun hh=>?_))))))))))))))
 ·cases hh
  exact p' 1 rfl (D0.s hC rfl (n' (re' (rt' rfl rfl rfl))))
 obtain ⟨x2,hx2,hh⟩:=bs' hh
 obtain ⟨x3,hx3,hh⟩:=bs' hh
 obtain ⟨x4,hx4,hh⟩:=bs' hh
 cases hh
 refine sk' (S' (AEx.draw hC 6 rfl rfl rfl (O' 3 rfl (Qc' (Mq hx2) rfl rfl (E' rfl (D0.s hC rfl (n' (S' (AEx.draw hC 4 rfl rfl rfl (O' 2 rfl (Qc' (Nq hx3) rfl rfl (Qc' (Ao hx4) rfl rfl (Qn' ?_)))))))))))))
 exact D0.s hC rfl (n' (re' (rt' rfl rfl rfl)))
def Vf (o:Int):Option Int:=
 if (bif (bif (bif (o == 0) then true else (o == 1)) then true else (o == 2)) then true else (o == 3))=true then
  some 0
 else
  if (bif (bif (o == 4) then true else (o == 6)) then true else (o == 7))=true then
   some 1
  else
   if (bif (o == 5) then true else (bif (decide (o≥8)) then (decide (o≤22)) else false))=true then
    some 2
   else
    if (o == 23)=true then
     some 3
    else
     some (-1)
theorem Dy {o res}(hh:Vf o=some res):K0 C 128 [.d (.int .i64 o)] [] (Ret [] (.d (.int .i64 res))):=by
 unfold Vf at hh
 refine K0.intro hC Tryz.func128 rfl rfl rfl (t' rfl (S' (sg' 14 rfl (G' 4 rfl (a1' rfl (po' rfl (G' 2 rfl (a1' rfl (po' rfl (G' 2 rfl (a1' rfl (po' rfl (an' ?_)))))))))))))
 refine n' (ci' rfl hh (fun hh=>?_) (fun hh=>?_))
 ·cases hh
  exact t' rfl (re' (rt' rfl rfl rfl))
 refine sk' (S' (sg' 10 rfl (G' 4 rfl (a1' rfl (po' rfl (G' 2 rfl (a1' rfl (po' rfl (an' (n' (ci' rfl hh (fun hh=>?_) (fun hh=>?_))))))))))))
 ·cases hh
  exact t' rfl (re' (rt' rfl rfl rfl))
 refine sk' (S' (sg' 10 rfl (G' 4 rfl (a1' rfl (a1' rfl (a0' rfl (a1' rfl (pA' rfl (po' rfl (an' (n' (ci' rfl hh (fun hh=>?_) (fun hh=>?_)))))))))))))
 ·cases hh
  exact t' rfl (re' (rt' rfl rfl rfl))
 refine sk' (S' (t' rfl (ci' rfl hh (fun hh=>?_) (fun hh=>?_))))
 ·cases hh
  exact t' rfl (re' (rt' rfl rfl rfl))
 cases hh
 exact sk' (t' rfl (re' (rt' rfl rfl rfl)))
def N8 (e:A0):Option Bool:=
 if (e.Op == 3)=true then
  some true
 else
  (if (bif (bif (e.Op == 4) then true else (e.Op == 5)) then (decide (((e.Kids).length:Int) > 0)) else false)=true then idx e.Kids 0 else some default)>>=fun x1=>
  (if (bif (bif (e.Op == 4) then true else (e.Op == 5)) then (decide (((e.Kids).length:Int) > 0)) else false)=true then N8 x1 else some default)>>=fun x2=>
  some (bif (bif (bif (e.Op == 4) then true else (e.Op == 5)) then (decide (((e.Kids).length:Int) > 0)) else false) then x2 else false)
 partial_fixpoint
abbrev Il (e:A0)(res:Bool):Prop:=K0 C 129 [.agg (A0.cells e)] [] (Ret [] (.d (.bool res)))
theorem Wr:(∀ e res,N8 e=some res→Il e res):=by
 refine N8.partial_correctness _ ?_
 ·intro g0 ih0 e res hh
  refine K0.intro hC Tryz.func129 rfl rfl rfl (s' rfl rfl (D0.n hC rfl (e' rfl (S' (t' rfl (ci' rfl hh (fun hh=>?_) (fun hh=>?_)))))))
  ·cases hh
   exact t' rfl (re' (rt' rfl rfl rfl))
  obtain ⟨x1,hx1,hh⟩:=bs' hh
  obtain ⟨x2,hx2,hh⟩:=bs' hh
  cases hh
  refine sk' (sg' 22 rfl (G' 5 rfl (a1' rfl (a1' rfl (po' rfl (G' 2 rfl (a1' rfl (AG.qe hC rfl (fun hg=>⟨⟨hg,trivial⟩,trivial⟩) (A0.lenA _) (a1' rfl (pa' rfl (G' 2 rfl (a1' rfl (AG.i hC rfl rfl (fun hg=>⟨hg,trivial⟩) (fun hw=>⟨I1 (Y1 hw hx1),A0.idx (Y1 hw hx1),rfl⟩) ?_)))))))))))))
  exact a1' rfl (AG.c rfl rfl (fun hg=>⟨hg,trivial⟩) (fun hw=>ih0 _ _ (Y1 hw hx2)) (pa' rfl (a0' rfl (an' (n' (re' (rt' rfl rfl rfl)))))))
theorem Kt {e res}(hh:N8 e=some res):Il e res:=(Wr) _ _ hh
mutual
def P6 (e:A0):Option Bool:=
 Vf e.Op>>=fun x1=>
 if (bif (bif (x1 != ((e.Kids).length:Int)) then true else (bif (e.Op != 0) then (e.NV != 0) else false)) then true else (bif (bif (e.Op != 3) then (e.Op != 4) else false) then (!(e.Name == [])) else false))=true then
  some false
 else
  (if (bif (e.Op == 4) then true else (e.Op == 5))=true then N8 e else some default)>>=fun x2=>
  if (bif (bif (e.Op == 4) then true else (e.Op == 5)) then (!x2) else false)=true then
   some false
  else
   D7 e 0
 partial_fixpoint
def D7 (e:A0)(i:Int):Option Bool:=
 if (decide (i < ((e.Kids).length:Int)))=true then
  idx e.Kids i>>=fun x3=>
  P6 x3>>=fun x4=>
  if (!x4)=true then
   some false
  else
   D7 e (IntKind.i64.wrap (i+1))
 else
  some true
 partial_fixpoint
end
abbrev Ak (e:A0)(res:Bool):Prop:=K0 C 69 [.agg (A0.cells e)] [] (Ret [] (.d (.bool res)))
abbrev Ep (e:A0)(i:Int)(res:Bool):Prop:=LM C 63 0 Tryz.f69 [1,1,1,0,1,4] [(1,.ref 0 0),(3,.d (.int .i64 i))] [.row (A0.cells e) 26] (Ret [] (.d (.bool res)))
theorem Oq:(∀ e res,P6 e=some res→Ak e res)∧(∀ e i res,D7 e i=some res→Ep e i res):=by
 refine P6.mutual_partial_correctness _ _ ?_ ?_
 ·intro g1 ih1 e res hh
  obtain ⟨x1,hx1,hh⟩:=bs' hh
  refine K0.intro hC Tryz.func69 rfl rfl rfl (s' rfl rfl (D0.n hC rfl (e' rfl (S' (S' (AEx.drawG hC 32 rfl rfl rfl (G' 2 rfl (AG.c rfl rfl (fun _=>trivial) (fun _=>Dy hx1) (G' 2 rfl (AG.qe hC rfl (fun hg=>⟨trivial,trivial⟩) (A0.lenA _) (G' 3 rfl (a1' rfl (a1' rfl ?_)))))))))))))
  refine a1' rfl (a0' rfl (a1' rfl (a1' rfl (pA' rfl (po' rfl (G' 2 rfl (a1' rfl (a1' rfl (a1' rfl (a0' rfl (a1' rfl (a1' rfl (pA' rfl ?_)))))))))))))
  refine a1' rfl (a0' rfl (a1' rfl (a1' rfl (pA' rfl (po' rfl (an' (n' (ci' rfl hh (fun hh=>?_) (fun hh=>?_)))))))))
  ·cases hh
   exact t' rfl (re' (rt' rfl rfl rfl))
  obtain ⟨x2,hx2,hh⟩:=bs' hh
  refine sk' (S' (sg' 13 rfl (G' 5 rfl (a1' rfl (a1' rfl (po' rfl (G' 2 rfl (AG.c rfl rfl (fun hg=>⟨hg,trivial⟩) (fun hw=>Kt (Y1 hw hx2)) (a1' rfl (pa' rfl (an' (n' (ci' rfl hh (fun hh=>?_) (fun hh=>?_))))))))))))))
  ·cases hh
   exact t' rfl (re' (rt' rfl rfl rfl))
  exact sk' (S' (t' rfl (bk' (fw' (ih1 _ _ _ hh) rfl rfl rfl))))
 ·intro g0 g1 ih0 ih1 e i res hh
  refine P0.unroll (S' (p' 3 rfl (qe' rfl trivial (A0.lenA _) (e' rfl (ci' rfl hh (fun hh=>?_) (fun hh=>?_))))))
  ·obtain ⟨x3,hx3,hh⟩:=bs' hh
   obtain ⟨x4,hx4,hh⟩:=bs' hh
   refine sk' (S' (bk' (p' 3 rfl (i' rfl (I1 hx3) (A0.idx hx3) rfl (q' rfl (c' (ih0 _ _ hx4) rfl rfl (e' rfl (ci' rfl hh (fun hh=>?_) (fun hh=>?_)))))))))
   ·cases hh
    exact t' rfl (re' (rt' rfl rfl rfl))
   exact sk' (T' rfl (lw' (ih1 _ _ _ hh) rfl rfl rfl))
  cases hh
  exact ex' (t' rfl (re' (rt' rfl rfl rfl)))
theorem Xr {e res}(hh:P6 e=some res):Ak e res:=(Oq).1 _ _ hh
def Wf (s:Str):Option Bool:=
 (if (!(bif (decide (((s).length:Int) < 1)) then true else (decide (((s).length:Int) > 12))))=true then idx s 0 else some default)>>=fun x1=>
 (if (!(bif (decide (((s).length:Int) < 1)) then true else (decide (((s).length:Int) > 12))))=true then O9 (x1.toNat:Int) else some default)>>=fun x2=>
 (if (!(bif (bif (decide (((s).length:Int) < 1)) then true else (decide (((s).length:Int) > 12))) then true else (!x2)))=true then G9 s else some default)>>=fun x3=>
 if (bif (bif (bif (decide (((s).length:Int) < 1)) then true else (decide (((s).length:Int) > 12))) then true else (!x2)) then true else x3)=true then
  some false
 else
  Qd s 0>>=fun x4=>
  some (x4 == ((s).length:Int))
theorem Kv {s res}(hh:Wf s=some res):K0 C 170 [.d (.str s)] [] (Ret [] (.d (.bool res))):=by
 unfold Wf at hh
 obtain ⟨x1,hx1,hh⟩:=bs' hh
 obtain ⟨x2,hx2,hh⟩:=bs' hh
 obtain ⟨x3,hx3,hh⟩:=bs' hh
 refine K0.intro hC Tryz.func170 rfl rfl rfl (t' rfl (S' (sg' 18 rfl (G' 5 rfl (a1' rfl (a1' rfl (po' rfl (G' 2 rfl (AG.x hC rfl rfl (fun hg=>⟨hg,trivial⟩) (fun hw=>⟨I1 (Y1 hw hx1),F3 (Y1 hw hx1)⟩) (AG.c rfl rfl (fun hg=>⟨hg,trivial⟩) (fun hw=>Fd (Y1 hw hx2)) (a1' rfl (po' rfl (G' 2 rfl ?_)))))))))))))
 refine AG.c rfl rfl (fun hg=>⟨hg,trivial⟩) (fun hw=>Qi (Y1 hw hx3)) (po' rfl (an' (n' (ci' rfl hh (fun hh=>?_) (fun hh=>?_)))))
 ·cases hh
  exact t' rfl (re' (rt' rfl rfl rfl))
 obtain ⟨x4,hx4,hh⟩:=bs' hh
 cases hh
 exact sk' (p' 1 rfl (c' (Hq hx4) rfl rfl (e' rfl (re' (rt' rfl rfl rfl)))))
def Ud (s:Str):Option Bool:=
 Wf s>>=fun x1=>
 some x1
theorem Lv {s res}(hh:Ud s=some res):K0 C 130 [.d (.str s)] [] (Ret [] (.d (.bool res))):=by
 unfold Ud at hh
 obtain ⟨x1,hx1,hh⟩:=bs' hh
 cases hh
 exact K0.intro hC Tryz.func130 rfl rfl rfl (t' rfl (p' 1 rfl (c' (Kv hx1) rfl rfl (e' rfl (re' (rt' rfl rfl rfl))))))
end Go.Proofs.YtmnhfbekncjnfaaGreatDoor

set_option maxRecDepth 100000
set_option maxHeartbeats 4000000
set_option synthInstance.maxSize 20000
set_option linter.unusedVariables false
namespace Go.Proofs.YtmnhfbekncjnfaaGreatDoor
open Go.Am
mutual
def S5 (e:A0):Option Bool:=
 (if (bif (e.Op == 3) then true else (e.Op == 4))=true then Ud e.Name else some default)>>=fun x1=>
 if (bif (bif (e.Op == 3) then true else (e.Op == 4)) then (!x1) else false)=true then
  some false
 else
  Q6 e 0
 partial_fixpoint
def Q6 (e:A0)(i:Int):Option Bool:=
 if (decide (i < ((e.Kids).length:Int)))=true then
  idx e.Kids i>>=fun x2=>
  S5 x2>>=fun x3=>
  if (!x3)=true then
   some false
  else
   Q6 e (IntKind.i64.wrap (i+1))
 else
  some true
 partial_fixpoint
end
abbrev Wi (e:A0)(res:Bool):Prop:=K0 C 70 [.agg (A0.cells e)] [] (Ret [] (.d (.bool res)))
abbrev Bo (e:A0)(i:Int)(res:Bool):Prop:=LM C 32 0 Tryz.f70 [1,1,0,1,4] [(1,.ref 0 0),(3,.d (.int .i64 i))] [.row (A0.cells e) 26] (Ret [] (.d (.bool res)))
theorem Fp:(∀ e res,S5 e=some res→Wi e res)∧(∀ e i res,Q6 e i=some res→Bo e i res):=by
 refine S5.mutual_partial_correctness _ _ ?_ ?_
 ·intro g1 ih1 e res hh
  obtain ⟨x1,hx1,hh⟩:=bs' hh
  refine K0.intro hC Tryz.func70 rfl rfl rfl (s' rfl rfl (D0.n hC rfl (e' rfl (S' (sg' 14 rfl (G' 5 rfl (a1' rfl (a1' rfl (po' rfl (G' 2 rfl (a1' rfl (AG.c rfl rfl (fun hg=>⟨hg,trivial⟩) (fun hw=>Lv (Y1 hw hx1)) (a1' rfl ?_)))))))))))))
  refine pa' rfl (an' (n' (ci' rfl hh (fun hh=>?_) (fun hh=>?_))))
  ·cases hh
   exact t' rfl (re' (rt' rfl rfl rfl))
  exact sk' (S' (t' rfl (bk' (fw' (ih1 _ _ _ hh) rfl rfl rfl))))
 ·intro g0 g1 ih0 ih1 e i res hh
  refine P0.unroll (S' (p' 3 rfl (qe' rfl trivial (A0.lenA _) (e' rfl (ci' rfl hh (fun hh=>?_) (fun hh=>?_))))))
  ·obtain ⟨x2,hx2,hh⟩:=bs' hh
   obtain ⟨x3,hx3,hh⟩:=bs' hh
   refine sk' (S' (bk' (p' 3 rfl (i' rfl (I1 hx2) (A0.idx hx2) rfl (q' rfl (c' (ih0 _ _ hx3) rfl rfl (e' rfl (ci' rfl hh (fun hh=>?_) (fun hh=>?_)))))))))
   ·cases hh
    exact t' rfl (re' (rt' rfl rfl rfl))
   exact sk' (T' rfl (lw' (ih1 _ _ _ hh) rfl rfl rfl))
  cases hh
  exact ex' (t' rfl (re' (rt' rfl rfl rfl)))
theorem Pq {e res}(hh:S5 e=some res):Wi e res:=(Fp).1 _ _ hh
mutual
def K4 (e:A0):Option Bool:=
 if (bif (e.Op == 0) then (bif (decide (e.NV < 0)) then true else (decide (e.NV > 1048576))) else false)=true then
  some false
 else
  J5 e 0
 partial_fixpoint
def J5 (e:A0)(i:Int):Option Bool:=
 if (decide (i < ((e.Kids).length:Int)))=true then
  idx e.Kids i>>=fun x1=>
  K4 x1>>=fun x2=>
  if (!x2)=true then
   some false
  else
   J5 e (IntKind.i64.wrap (i+1))
 else
  some true
 partial_fixpoint
end
abbrev Fg (e:A0)(res:Bool):Prop:=K0 C 71 [.agg (A0.cells e)] [] (Ret [] (.d (.bool res)))
abbrev Pl (e:A0)(i:Int)(res:Bool):Prop:=LM C 31 0 Tryz.f71 [1,1,0,1,4] [(1,.ref 0 0),(3,.d (.int .i64 i))] [.row (A0.cells e) 26] (Ret [] (.d (.bool res)))
theorem Ym:(∀ e res,K4 e=some res→Fg e res)∧(∀ e i res,J5 e i=some res→Pl e i res):=by
 refine K4.mutual_partial_correctness _ _ ?_ ?_
 ·intro g1 ih1 e res hh
  refine K0.intro hC Tryz.func71 rfl rfl rfl (s' rfl rfl (D0.n hC rfl (e' rfl (S' (sg' 13 rfl (G' 5 rfl (a1' rfl (a1' rfl (a1' rfl (a0' rfl (a1' rfl (a1' rfl (pO' rfl ?_)))))))))))))
  refine pa' rfl (an' (n' (ci' rfl hh (fun hh=>?_) (fun hh=>?_))))
  ·cases hh
   exact t' rfl (re' (rt' rfl rfl rfl))
  exact sk' (S' (t' rfl (bk' (fw' (ih1 _ _ _ hh) rfl rfl rfl))))
 ·intro g0 g1 ih0 ih1 e i res hh
  refine P0.unroll (S' (p' 3 rfl (qe' rfl trivial (A0.lenA _) (e' rfl (ci' rfl hh (fun hh=>?_) (fun hh=>?_))))))
  ·obtain ⟨x1,hx1,hh⟩:=bs' hh
   obtain ⟨x2,hx2,hh⟩:=bs' hh
   refine sk' (S' (bk' (p' 3 rfl (i' rfl (I1 hx1) (A0.idx hx1) rfl (q' rfl (c' (ih0 _ _ hx2) rfl rfl (e' rfl (ci' rfl hh (fun hh=>?_) (fun hh=>?_)))))))))
   ·cases hh
    exact t' rfl (re' (rt' rfl rfl rfl))
   exact sk' (T' rfl (lw' (ih1 _ _ _ hh) rfl rfl rfl))
  cases hh
  exact ex' (t' rfl (re' (rt' rfl rfl rfl)))
theorem Co {e res}(hh:K4 e=some res):Fg e res:=(Ym).1 _ _ hh
def Oc (s:J1)(form:Bool)(names:Bool)(numbers:Bool):Option Int:=
 if (bif (decide (s.nodes > 1024)) then true else (decide (s.depth > 12)))=true then
  some 4
 else
  if (!form)=true then
   some 1
  else
   if (!names)=true then
    some 7
   else
    if (!numbers)=true then
     some 3
    else
     some 0
theorem Lt {s form names numbers res}(hh:Oc s form names numbers=some res):K0 C 67 [.agg (J1.cells s),.d (.bool form),.d (.bool names),.d (.bool numbers)] [] (Ret [] (.d (.int .i64 res))):=by
 unfold Oc at hh
 refine K0.intro hC Tryz.func67 rfl rfl rfl (s' rfl rfl (D0.n hC rfl (e' rfl (S' (sg' 8 rfl (G' 5 rfl (a1' rfl (a1' rfl (po' rfl (an' (n' (ci' rfl hh (fun hh=>?_) (fun hh=>?_)))))))))))))
 ·cases hh
  exact t' rfl (re' (rt' rfl rfl rfl))
 refine sk' (S' (t' rfl (ci' rfl hh (fun hh=>?_) (fun hh=>?_))))
 ·cases hh
  exact t' rfl (re' (rt' rfl rfl rfl))
 refine sk' (S' (t' rfl (ci' rfl hh (fun hh=>?_) (fun hh=>?_))))
 ·cases hh
  exact t' rfl (re' (rt' rfl rfl rfl))
 refine sk' (S' (t' rfl (ci' rfl hh (fun hh=>?_) (fun hh=>?_))))
 ·cases hh
  exact t' rfl (re' (rt' rfl rfl rfl))
 cases hh
 exact sk' (t' rfl (re' (rt' rfl rfl rfl)))
def Ia (e:A0):Option Int:=
 Nc (J1.mk 0 0) e true>>=fun x1=>
 P6 e>>=fun x2=>
 S5 e>>=fun x3=>
 K4 e>>=fun x4=>
 Oc x1 x2 x3 x4>>=fun x5=>
 some x5
theorem Qq {e res}(hh:Ia e=some res):K0 C 34 [.agg (A0.cells e)] [] (Ret [] (.d (.int .i64 res))):=by
 unfold Ia at hh
 obtain ⟨x1,hx1,hh⟩:=bs' hh
 obtain ⟨x2,hx2,hh⟩:=bs' hh
 obtain ⟨x3,hx3,hh⟩:=bs' hh
 obtain ⟨x4,hx4,hh⟩:=bs' hh
 obtain ⟨x5,hx5,hh⟩:=bs' hh
 cases hh
 refine K0.intro hC Tryz.func34 rfl rfl rfl (s' rfl rfl (D0.n hC rfl (e' rfl (S' (AEx.draw hC 11 rfl rfl rfl (O' 2 rfl (Qc' (Jt hx1) rfl rfl (Q' rfl (Qc' (Xr hx2) rfl rfl (Q' rfl (Qc' (Pq hx3) rfl rfl (Q' rfl (Qc' (Co hx4) rfl rfl ?_)))))))))))))
 exact Qc' (Lt hx5) rfl rfl (E' rfl (n' (re' (rt' rfl rfl rfl))))
def Ja (text:Str):Option (A0×Int×Int):=
 Vh text>>=fun x1=>
 if (x1.2.2 != 0)=true then
  some ((A0.mk 0 0 [] []),x1.2.1,x1.2.2)
 else
  O1 x1.1 0>>=fun x2=>
  if (bif (!x2.2.2) then true else (decide (x2.2.1 < ((x1.1).length:Int))))=true then
   Td text x1.1 x2.2.1>>=fun x3=>
   some ((A0.mk 0 0 [] []),x3,6)
  else
   Ia x2.1>>=fun x4=>
   if (x4 != 0)=true then
    some ((A0.mk 0 0 [] []),0,x4)
   else
    some (x2.1,0,0)
theorem Rq {text res}(hh:Ja text=some res):K0 C 12 [.d (.str text)] [] (Ret [] (.tup [.agg (A0.cells res.1),.d (.int .i64 res.2.1),.d (.int .i64 res.2.2)])):=by
 unfold Ja at hh
 obtain ⟨x1,hx1,hh⟩:=bs' hh
 refine K0.intro hC Tryz.func12 rfl rfl rfl (s' rfl rfl (D0.nf hC rfl (e' rfl (p' 1 rfl (c' (Wz hx1) rfl rfl (e' rfl (S' (t' rfl (ci' rfl hh (fun hh=>?_) (fun hh=>?_))))))))))
 ·cases hh
  exact p' 3 rfl (D0.s hC rfl (e' rfl (re' (rt' rfl rfl rfl))))
 obtain ⟨x2,hx2,hh⟩:=bs' hh
 refine sk' (p' 1 rfl (c' (Bp hx2) rfl rfl (o' 4 rfl (D0.nf hC rfl (D0.s hC rfl (e' rfl (S' (sg' 8 rfl (G' 5 rfl (AG.qe hC rfl (fun hg=>⟨⟨hg,trivial⟩,trivial⟩) (E0.lenA _) (a2' rfl (po' rfl (an' ?_)))))))))))))
 refine n' (ci' rfl hh (fun hh=>?_) (fun hh=>?_))
 ·obtain ⟨x3,hx3,hh⟩:=bs' hh
  cases hh
  exact p' 4 rfl (c' (Jv hx3) rfl rfl (D0.s hC rfl (e' rfl (re' (rt' rfl rfl rfl)))))
 obtain ⟨x4,hx4,hh⟩:=bs' hh
 refine sk' (p' 1 rfl (c' (Qq hx4) rfl rfl (e' rfl (S' (t' rfl (ci' rfl hh (fun hh=>?_) (fun hh=>?_)))))))
 ·cases hh
  exact p' 2 rfl (D0.s hC rfl (e' rfl (re' (rt' rfl rfl rfl))))
 cases hh
 exact sk' (p' 1 rfl (D0.s hC rfl (e' rfl (re' (rt' rfl rfl rfl)))))
def Za (text:Str):Option Bool:=
 Ua>>=fun x1=>
 if (!x1)=true then
  some false
 else
  if (decide (((text).length:Int) > 2000))=true then
   some true
  else
   F4 text>>=fun x2=>
   Ja text>>=fun x3=>
   (if (bif (x2.2.2 == x3.2.2) then (x2.2.1 == x3.2.1) else false)=true then Y2 x2.1 x3.1 else some default)>>=fun x4=>
   some (bif (bif (x2.2.2 == x3.2.2) then (x2.2.1 == x3.2.1) else false) then x4 else false)
theorem Do {text res}(hh:Za text=some res):K0 C 3 [.d (.str text)] [] (Ret [] (.d (.bool res))):=by
 unfold Za at hh
 obtain ⟨x1,hx1,hh⟩:=bs' hh
 refine K0.intro hC Tryz.func3 rfl rfl rfl (t' rfl (S' (s' rfl rfl (c' (Mw hx1) rfl rfl (e' rfl (ci' rfl hh (fun hh=>?_) (fun hh=>?_)))))))
 ·cases hh
  exact t' rfl (re' (rt' rfl rfl rfl))
 refine sk' (S' (t' rfl (ci' rfl hh (fun hh=>?_) (fun hh=>?_))))
 ·cases hh
  exact t' rfl (re' (rt' rfl rfl rfl))
 obtain ⟨x2,hx2,hh⟩:=bs' hh
 obtain ⟨x3,hx3,hh⟩:=bs' hh
 obtain ⟨x4,hx4,hh⟩:=bs' hh
 cases hh
 refine sk' (p' 1 rfl (c' (Zc hx2) rfl rfl (o' 4 rfl (D0.nf hC rfl (D0.s hC rfl (e' rfl (p' 1 rfl (c' (Rq hx3) rfl rfl (o' 4 rfl (D0.nf hC rfl (D0.s hC rfl (e' rfl (sg' 14 rfl ?_)))))))))))))
 exact G' 6 rfl (a2' rfl (pa' rfl (G' 3 rfl (AG.c rfl rfl (fun hg=>⟨hg,hg,trivial⟩) (fun hw=>Pd (Y1 hw hx4)) (pa' rfl (a0' rfl (an' (n' (re' (rt' rfl rfl rfl))))))))))
def Z2 (parserParser:B0):Option (Pn (Int×B0)):=
 J0 [45] parserParser>>=fun x1=>
 if x1.1=true then
  D3 x1.2>>=fun x2=>match x2 with
  | .pn nn=>
  some (.pn nn)
  | .ok x2=>
  some (.ok ((IntKind.i64.wrap (0 - x2.1)),x2.2))
 else
  D3 x1.2>>=fun x3=>match x3 with
  | .pn nn=>
  some (.pn nn)
  | .ok x3=>
  some (.ok (x3.1,x3.2))
mutual
def He (parserParser:B0):Option (Pn (T1×B0)):=
 J0 [98,111,111,108] parserParser>>=fun x1=>
 if x1.1=true then
  some (.ok ((T1.mk 0 0 0 0 [] [] []),x1.2))
 else
  J0 [105,110,116] x1.2>>=fun x2=>
  if x2.1=true then
   N0 [91] x2.2>>=fun x3=>match x3 with
   | .pn nn=>
   some (.pn nn)
   | .ok x3=>
   Z2 x3>>=fun x4=>match x4 with
   | .pn nn=>
   some (.pn nn)
   | .ok x4=>
   N0 [46,46] x4.2>>=fun x5=>match x5 with
   | .pn nn=>
   some (.pn nn)
   | .ok x5=>
   Z2 x5>>=fun x6=>match x6 with
   | .pn nn=>
   some (.pn nn)
   | .ok x6=>
   N0 [93] x6.2>>=fun x7=>match x7 with
   | .pn nn=>
   some (.pn nn)
   | .ok x7=>
   some (.ok ((T1.mk 1 x4.1 x6.1 0 [] [] []),x7))
  else
   J0 [97,114,114,97,121] x2.2>>=fun x8=>
   if x8.1=true then
    Z2 x8.2>>=fun x9=>match x9 with
    | .pn nn=>
    some (.pn nn)
    | .ok x9=>
    N0 [111,102] x9.2>>=fun x10=>match x10 with
    | .pn nn=>
    some (.pn nn)
    | .ok x10=>
    He x10>>=fun x16=>match x16 with
    | .pn nn=>
    some (.pn nn)
    | .ok x16=>
    some (.ok ((T1.mk 2 0 0 x9.1 [] [] [x16.1]),x16.2))
   else
    J0 [114,101,99,111,114,100] x8.2>>=fun x11=>
    if x11.1=true then
     N0 [123] x11.2>>=fun x12=>match x12 with
     | .pn nn=>
     some (.pn nn)
     | .ok x12=>
     Dc x12 [] []
    else
     E2 x11.2>>=fun x13=>match x13 with
     | .pn nn=>
     some (.pn nn)
     | .ok x13=>
     some (.ok ((T1.mk 4 0 0 0 x13.1 [] []),x13.2))
 partial_fixpoint
def Dc (o0:B0)(o2_Names:List Str)(o2_Of:List T1):Option (Pn (T1×B0)):=
 E2 o0>>=fun x14=>match x14 with
 | .pn nn=>
 some (.pn nn)
 | .ok x14=>
 N0 [58] x14.2>>=fun x15=>match x15 with
 | .pn nn=>
 some (.pn nn)
 | .ok x15=>
 He x15>>=fun x17=>match x17 with
 | .pn nn=>
 some (.pn nn)
 | .ok x17=>
 if (decide ((o2_Names.length+1) * 17≤140737488355328))=true then
  if (decide ((o2_Of.length+1) * 97≤140737488355328))=true then
   J0 [44] x17.2>>=fun x18=>
   if (!x18.1)=true then
    N0 [125] x18.2>>=fun x19=>match x19 with
    | .pn nn=>
    some (.pn nn)
    | .ok x19=>
    some (.ok ((T1.mk 3 0 0 0 [] (o2_Names++[x14.1]) (o2_Of++[x17.1])),x19))
   else
    Dc x18.2 (o2_Names++[x14.1]) (o2_Of++[x17.1])
  else none
 else none
 partial_fixpoint
end
def G7 (l:List E0)(atV:Int):Option (Int×Int×Bool):=
 Y0 l atV [45]>>=fun x1=>
 if x1=true then
  Q9 l (IntKind.i64.wrap (atV+1))>>=fun x2=>
  some ((IntKind.i64.wrap (0 - x2.1)),x2.2.1,x2.2.2)
 else
  Q9 l atV>>=fun x3=>
  some (x3.1,x3.2.1,x3.2.2)
def Ow (l:List E0)(atV:Int):Option (T1×Int×Bool):=
 Y0 l atV [91]>>=fun x1=>
 if (!x1)=true then
  some ((T1.mk 0 0 0 0 [] [] []),atV,false)
 else
  G7 l (IntKind.i64.wrap (atV+1))>>=fun x2=>
  (if (!(!x2.2.2))=true then Y0 l x2.2.1 [46,46] else some default)>>=fun x3=>
  if (bif (!x2.2.2) then true else (!x3))=true then
   some ((T1.mk 0 0 0 0 [] [] []),x2.2.1,false)
  else
   G7 l (IntKind.i64.wrap (x2.2.1+1))>>=fun x4=>
   (if (!(!x4.2.2))=true then Y0 l x4.2.1 [93] else some default)>>=fun x5=>
   if (bif (!x4.2.2) then true else (!x5))=true then
    some ((T1.mk 0 0 0 0 [] [] []),x4.2.1,false)
   else
    some ((T1.mk 1 x2.1 x4.1 0 [] [] []),(IntKind.i64.wrap (x4.2.1+1)),true)
mutual
def Sq (l:List E0)(atV:Int):Option (T1×Int×Bool):=
 Y0 l atV [98,111,111,108]>>=fun x1=>
 if x1=true then
  some ((T1.mk 0 0 0 0 [] [] []),(IntKind.i64.wrap (atV+1)),true)
 else
  Y0 l atV [105,110,116]>>=fun x2=>
  if x2=true then
   Ow l (IntKind.i64.wrap (atV+1))>>=fun x3=>
   some (x3.1,x3.2.1,x3.2.2)
  else
   Y0 l atV [97,114,114,97,121]>>=fun x4=>
   if x4=true then
    G7 l (IntKind.i64.wrap (atV+1))>>=fun x5=>
    (if (!(!x5.2.2))=true then Y0 l x5.2.1 [111,102] else some default)>>=fun x6=>
    if (bif (!x5.2.2) then true else (!x6))=true then
     some ((T1.mk 0 0 0 0 [] [] []),x5.2.1,false)
    else
     Sq l (IntKind.i64.wrap (x5.2.1+1))>>=fun x10=>
     some ((T1.mk 2 0 0 x5.1 [] [] [x10.1]),x10.2.1,x10.2.2)
   else
    Y0 l atV [114,101,99,111,114,100]>>=fun x7=>
    if x7=true then
     Xz l (IntKind.i64.wrap (atV+1))>>=fun x8=>
     some (x8.1,x8.2.1,x8.2.2)
    else
     E6 l atV>>=fun x9=>
     some ((T1.mk 4 0 0 0 x9.1 [] []),x9.2.1,x9.2.2)
 partial_fixpoint
def Xz (l:List E0)(atV:Int):Option (T1×Int×Bool):=
 Y0 l atV [123]>>=fun x1=>
 if (!x1)=true then
  some ((T1.mk 3 0 0 0 [] [] []),atV,false)
 else
  Xf l [] [] atV
 partial_fixpoint
def Xf (l:List E0)(o1_Names:List Str)(o1_Of:List T1)(atV1:Int):Option (T1×Int×Bool):=
 E11 l (IntKind.i64.wrap (atV1+1))>>=fun x2=>
 if (!x2.2.2)=true then
  some ((T1.mk 3 0 0 0 [] o1_Names o1_Of),x2.2.1,false)
 else
  if (decide ((o1_Names.length+1) * 17≤140737488355328))=true then
   if (decide ((o1_Of.length+1) * 97≤140737488355328))=true then
    Y0 l x2.2.1 [125]>>=fun x3=>
    if x3=true then
     some ((T1.mk 3 0 0 0 [] (o1_Names++[x2.1.Name]) (o1_Of++[x2.1.TypeV])),(IntKind.i64.wrap (x2.2.1+1)),true)
    else
     Y0 l x2.2.1 [44]>>=fun x4=>
     if (!x4)=true then
      some ((T1.mk 3 0 0 0 [] (o1_Names++[x2.1.Name]) (o1_Of++[x2.1.TypeV])),x2.2.1,false)
     else
      Xf l (o1_Names++[x2.1.Name]) (o1_Of++[x2.1.TypeV]) x2.2.1
   else none
  else none
 partial_fixpoint
def E11 (l:List E0)(atV:Int):Option (Tc×Int×Bool):=
 E6 l atV>>=fun x1=>
 (if (!(!x1.2.2))=true then Y0 l x1.2.1 [58] else some default)>>=fun x2=>
 if (bif (!x1.2.2) then true else (!x2))=true then
  some ((Tc.mk 0 [] (T1.mk 0 0 0 0 [] [] []) 0 (A0.mk 0 0 [] []) [] [] []),x1.2.1,false)
 else
  Sq l (IntKind.i64.wrap (x1.2.1+1))>>=fun x3=>
  some ((Tc.mk 4 x1.1 x3.1 0 (A0.mk 0 0 [] []) [] [] []),x3.2.1,x3.2.2)
 partial_fixpoint
end
def Tb (o0:B0)(x1:A0×B0)(x4:Str×B0)(o2_Args:List A0):Option (Pn (W0×B0)):=
 J0 [44] o0>>=fun x13=>
 if x13.1=true then
  O0 x13.2>>=fun x14=>match x14 with
  | .pn nn=>
  some (.pn nn)
  | .ok x14=>
  if (decide ((o2_Args.length+1) * 57≤140737488355328))=true then
   Tb x14.2 x1 x4 (o2_Args++[x14.1])
  else none
 else
  N0 [41] x13.2>>=fun x8=>match x8 with
  | .pn nn=>
  some (.pn nn)
  | .ok x8=>
  N0 [59] x8>>=fun x9=>match x9 with
  | .pn nn=>
  some (.pn nn)
  | .ok x9=>
  some (.ok ((W0.mk 1 x1.1 (A0.mk 0 0 [] []) x4.1 o2_Args 0 0 0 [] [] []),x9))
 partial_fixpoint
end Go.Proofs.YtmnhfbekncjnfaaGreatDoor

set_option maxRecDepth 100000
set_option maxHeartbeats 4000000
set_option synthInstance.maxSize 20000
set_option linter.unusedVariables false
namespace Go.Proofs.YtmnhfbekncjnfaaGreatDoor
open Go.Am
def Xh (x7:A0×B0)(x1:A0×B0)(x4:Str×B0):Option (Pn (W0×B0)):=
 Tb x7.2 x1 x4 [x7.1]
def Bk (parserParser:B0):Option (Pn (W0×B0)):=
 N4 parserParser>>=fun x1=>match x1 with
 | .pn nn=>
 some (.pn nn)
 | .ok x1=>
 N0 [61] x1.2>>=fun x2=>match x2 with
 | .pn nn=>
 some (.pn nn)
 | .ok x2=>
 J0 [99,97,108,108] x2>>=fun x3=>
 if x3.1=true then
  E2 x3.2>>=fun x4=>match x4 with
  | .pn nn=>
  some (.pn nn)
  | .ok x4=>
  N0 [40] x4.2>>=fun x5=>match x5 with
  | .pn nn=>
  some (.pn nn)
  | .ok x5=>
  Y4 [41] x5>>=fun x6=>
  if (!x6)=true then
   O0 x5>>=fun x7=>match x7 with
   | .pn nn=>
   some (.pn nn)
   | .ok x7=>
   if (decide ((0+1) * 57≤140737488355328))=true then
    Xh x7 x1 x4
   else none
  else
   N0 [41] x5>>=fun x8=>match x8 with
   | .pn nn=>
   some (.pn nn)
   | .ok x8=>
   N0 [59] x8>>=fun x9=>match x9 with
   | .pn nn=>
   some (.pn nn)
   | .ok x9=>
   some (.ok ((W0.mk 1 x1.1 (A0.mk 0 0 [] []) x4.1 [] 0 0 0 [] [] []),x9))
 else
  J0 [114,101,108,101,97,115,101] x3.2>>=fun x10=>
  if x10.1=true then
   E2 x10.2>>=fun x11=>match x11 with
   | .pn nn=>
   some (.pn nn)
   | .ok x11=>
   N0 [59] x11.2>>=fun x9=>match x9 with
   | .pn nn=>
   some (.pn nn)
   | .ok x9=>
   some (.ok ((W0.mk 2 x1.1 (A0.mk 0 0 [] []) x11.1 [] 0 0 0 [] [] []),x9))
  else
   O0 x10.2>>=fun x12=>match x12 with
   | .pn nn=>
   some (.pn nn)
   | .ok x12=>
   N0 [59] x12.2>>=fun x9=>match x9 with
   | .pn nn=>
   some (.pn nn)
   | .ok x9=>
   some (.ok ((W0.mk 0 x1.1 x12.1 [] [] 0 0 0 [] [] []),x9))
def Rc (o0:B0)(o2_Numbers:List Int):Option (Pn (W0×Bool×B0)):=
 J0 [44] o0>>=fun x23=>
 if x23.1=true then
  Z2 x23.2>>=fun x24=>match x24 with
  | .pn nn=>
  some (.pn nn)
  | .ok x24=>
  if (decide ((o2_Numbers.length+1) * 9≤140737488355328))=true then
   Rc x24.2 (o2_Numbers++[x24.1])
  else none
 else
  N0 [59] x23.2>>=fun x25=>match x25 with
  | .pn nn=>
  some (.pn nn)
  | .ok x25=>
  some (.ok ((W0.mk 8 (A0.mk 0 0 [] []) (A0.mk 0 0 [] []) [] [] 0 0 0 o2_Numbers [] []),true,x25))
 partial_fixpoint
mutual
def Ck (parserParser:B0):Option (Pn (List W0×B0)):=
 E8 parserParser []
 partial_fixpoint
def E8 (o0:B0)(out:List W0):Option (Pn (List W0×B0)):=
 Xk o0>>=fun x1=>match x1 with
 | .pn nn=>
 some (.pn nn)
 | .ok x1=>
 if (!x1.2.1)=true then
  some (.ok (out,x1.2.2))
 else
  if (decide ((out.length+1) * 257≤140737488355328))=true then
   E8 x1.2.2 (out++[x1.1])
  else none
 partial_fixpoint
def Xk (parserParser:B0):Option (Pn (W0×Bool×B0)):=
 N3 parserParser>>=fun x1=>
 if x1=true then
  Bk parserParser>>=fun x2=>match x2 with
  | .pn nn=>
  some (.pn nn)
  | .ok x2=>
  some (.ok (x2.1,true,x2.2))
 else
  J0 [111,117,116,112,117,116] parserParser>>=fun x3=>
  if x3.1=true then
   O0 x3.2>>=fun x4=>match x4 with
   | .pn nn=>
   some (.pn nn)
   | .ok x4=>
   N0 [59] x4.2>>=fun x5=>match x5 with
   | .pn nn=>
   some (.pn nn)
   | .ok x5=>
   some (.ok ((W0.mk 3 (A0.mk 0 0 [] []) x4.1 [] [] 0 0 0 [] [] []),true,x5))
  else
   J0 [119,97,105,116] x3.2>>=fun x6=>
   if x6.1=true then
    Z2 x6.2>>=fun x7=>match x7 with
    | .pn nn=>
    some (.pn nn)
    | .ok x7=>
    N0 [59] x7.2>>=fun x8=>match x8 with
    | .pn nn=>
    some (.pn nn)
    | .ok x8=>
    some (.ok ((W0.mk 4 (A0.mk 0 0 [] []) (A0.mk 0 0 [] []) [] [] x7.1 0 0 [] [] []),true,x8))
   else
    J0 [115,101,116,116,108,101] x6.2>>=fun x9=>
    if x9.1=true then
     Z2 x9.2>>=fun x10=>match x10 with
     | .pn nn=>
     some (.pn nn)
     | .ok x10=>
     Rc x10.2 [x10.1]
    else
     J0 [105,102] x9.2>>=fun x11=>
     if x11.1=true then
      O0 x11.2>>=fun x12=>match x12 with
      | .pn nn=>
      some (.pn nn)
      | .ok x12=>
      P7 x12.2>>=fun x26=>match x26 with
      | .pn nn=>
      some (.pn nn)
      | .ok x26=>
      J0 [101,108,115,101] x26.2>>=fun x27=>
      if x27.1=true then
       P7 x27.2>>=fun x28=>match x28 with
       | .pn nn=>
       some (.pn nn)
       | .ok x28=>
       some (.ok ((W0.mk 5 (A0.mk 0 0 [] []) x12.1 [] [] 0 0 0 [] x26.1 x28.1),true,x28.2))
      else
       some (.ok ((W0.mk 5 (A0.mk 0 0 [] []) x12.1 [] [] 0 0 0 [] x26.1 []),true,x27.2))
     else
      J0 [119,104,105,108,101] x11.2>>=fun x13=>
      if x13.1=true then
       O0 x13.2>>=fun x14=>match x14 with
       | .pn nn=>
       some (.pn nn)
       | .ok x14=>
       N0 [108,105,109,105,116] x14.2>>=fun x15=>match x15 with
       | .pn nn=>
       some (.pn nn)
       | .ok x15=>
       Z2 x15>>=fun x16=>match x16 with
       | .pn nn=>
       some (.pn nn)
       | .ok x16=>
       P7 x16.2>>=fun x29=>match x29 with
       | .pn nn=>
       some (.pn nn)
       | .ok x29=>
       some (.ok ((W0.mk 6 (A0.mk 0 0 [] []) x14.1 [] [] x16.1 0 0 [] x29.1 []),true,x29.2))
      else
       J0 [102,111,114] x13.2>>=fun x17=>
       if x17.1=true then
        E2 x17.2>>=fun x18=>match x18 with
        | .pn nn=>
        some (.pn nn)
        | .ok x18=>
        N0 [61] x18.2>>=fun x19=>match x19 with
        | .pn nn=>
        some (.pn nn)
        | .ok x19=>
        Z2 x19>>=fun x20=>match x20 with
        | .pn nn=>
        some (.pn nn)
        | .ok x20=>
        N0 [116,111] x20.2>>=fun x21=>match x21 with
        | .pn nn=>
        some (.pn nn)
        | .ok x21=>
        Z2 x21>>=fun x22=>match x22 with
        | .pn nn=>
        some (.pn nn)
        | .ok x22=>
        P7 x22.2>>=fun x30=>match x30 with
        | .pn nn=>
        some (.pn nn)
        | .ok x30=>
        some (.ok ((W0.mk 7 (A0.mk 0 0 [] []) (A0.mk 0 0 [] []) x18.1 [] 0 x20.1 x22.1 [] x30.1 []),true,x30.2))
       else
        some (.ok ((W0.mk 0 (A0.mk 0 0 [] []) (A0.mk 0 0 [] []) [] [] 0 0 0 [] [] []),false,x17.2))
 partial_fixpoint
def P7 (parserParser:B0):Option (Pn (List W0×B0)):=
 N0 [123] parserParser>>=fun x1=>match x1 with
 | .pn nn=>
 some (.pn nn)
 | .ok x1=>
 Ck x1>>=fun x2=>match x2 with
 | .pn nn=>
 some (.pn nn)
 | .ok x2=>
 N0 [125] x2.2>>=fun x3=>match x3 with
 | .pn nn=>
 some (.pn nn)
 | .ok x3=>
 some (.ok (x2.1,x3))
 partial_fixpoint
end
def Yz (l:List E0)(atV:Int):Option Bool:=
 E6 l atV>>=fun x1=>
 (if (!x1.2.2)=true then Y0 l atV [111,117,116,112,117,116] else some default)>>=fun x2=>
 (if (!(bif x1.2.2 then true else x2))=true then Y0 l atV [119,97,105,116] else some default)>>=fun x3=>
 (if (!(bif (bif x1.2.2 then true else x2) then true else x3))=true then Y0 l atV [105,102] else some default)>>=fun x4=>
 (if (!(bif (bif (bif x1.2.2 then true else x2) then true else x3) then true else x4))=true then Y0 l atV [119,104,105,108,101] else some default)>>=fun x5=>
 (if (!(bif (bif (bif (bif x1.2.2 then true else x2) then true else x3) then true else x4) then true else x5))=true then Y0 l atV [102,111,114] else some default)>>=fun x6=>
 (if (!(bif (bif (bif (bif (bif x1.2.2 then true else x2) then true else x3) then true else x4) then true else x5) then true else x6))=true then Y0 l atV [115,101,116,116,108,101] else some default)>>=fun x7=>
 some (bif (bif (bif (bif (bif (bif x1.2.2 then true else x2) then true else x3) then true else x4) then true else x5) then true else x6) then true else x7)
end Go.Proofs.YtmnhfbekncjnfaaGreatDoor

set_option maxRecDepth 100000
set_option maxHeartbeats 4000000
set_option synthInstance.maxSize 20000
set_option linter.unusedVariables false
namespace Go.Proofs.YtmnhfbekncjnfaaGreatDoor
open Go.Am
def Ka (l:List E0)(o1_Verb:Int)(o1_Place:A0)(o1_Value:A0)(o1_Name:Str)(o1_Args:List A0)(o1_NV:Int)(o1_Low:Int)(o1_High:Int)(o1_Numbers:List Int)(o1_Then:List W0)(o1_Else:List W0)(atV1:Int)(ok:Bool):Option (W0×Int×Bool):=
 (if (!(!ok))=true then Y0 l atV1 [59] else some default)>>=fun x9=>
 if (bif (!ok) then true else (!x9))=true then
  some ((W0.mk o1_Verb o1_Place o1_Value o1_Name o1_Args o1_NV o1_Low o1_High o1_Numbers o1_Then o1_Else),atV1,false)
 else
  some ((W0.mk o1_Verb o1_Place o1_Value o1_Name o1_Args o1_NV o1_Low o1_High o1_Numbers o1_Then o1_Else),(IntKind.i64.wrap (atV1+1)),true)
def Xi (l:List E0)(atV1:Int)(out:List Int):Option (List Int×Int×Bool):=
 G7 l atV1>>=fun x1=>
 if (!x1.2.2)=true then
  some (out,x1.2.1,false)
 else
  if (decide ((out.length+1) * 9≤140737488355328))=true then
   Y0 l x1.2.1 [44]>>=fun x2=>
   if (!x2)=true then
    some ((out++[x1.1]),x1.2.1,true)
   else
    Xi l (IntKind.i64.wrap (x1.2.1+1)) (out++[x1.1])
  else none
 partial_fixpoint
def Pw (l:List E0)(atV:Int):Option (List Int×Int×Bool):=
 Xi l atV []
def Yh (l:List E0)(atV1:Int)(out:List A0):Option (List A0×Int×Bool):=
 O1 l (IntKind.i64.wrap (atV1+1))>>=fun x3=>
 if (!x3.2.2)=true then
  some (out,x3.2.1,false)
 else
  if (decide ((out.length+1) * 57≤140737488355328))=true then
   Y0 l x3.2.1 [41]>>=fun x4=>
   if x4=true then
    some ((out++[x3.1]),(IntKind.i64.wrap (x3.2.1+1)),true)
   else
    Y0 l x3.2.1 [44]>>=fun x5=>
    if (!x5)=true then
     some ((out++[x3.1]),x3.2.1,false)
    else
     Yh l x3.2.1 (out++[x3.1])
  else none
 partial_fixpoint
def Mv (l:List E0)(atV:Int):Option (List A0×Int×Bool):=
 Y0 l atV [40]>>=fun x1=>
 if (!x1)=true then
  some ([],atV,false)
 else
  Y0 l (IntKind.i64.wrap (atV+1)) [41]>>=fun x2=>
  if x2=true then
   some ([],(IntKind.i64.wrap (atV+2)),true)
  else
   Yh l atV []
def Mt (l:List E0)(atV:Int):Option (W0×Int×Bool):=
 Xc l atV>>=fun x1=>
 (if (!(!x1.2.2))=true then Y0 l x1.2.1 [61] else some default)>>=fun x2=>
 if (bif (!x1.2.2) then true else (!x2))=true then
  some ((W0.mk 0 (A0.mk 0 0 [] []) (A0.mk 0 0 [] []) [] [] 0 0 0 [] [] []),x1.2.1,false)
 else
  Y0 l (IntKind.i64.wrap (x1.2.1+1)) [114,101,108,101,97,115,101]>>=fun x3=>
  if x3=true then
   E6 l (IntKind.i64.wrap ((IntKind.i64.wrap (x1.2.1+1))+1))>>=fun x4=>
   some ((W0.mk 2 x1.1 (A0.mk 0 0 [] []) x4.1 [] 0 0 0 [] [] []),x4.2.1,x4.2.2)
  else
   Y0 l (IntKind.i64.wrap (x1.2.1+1)) [99,97,108,108]>>=fun x5=>
   if x5=true then
    E6 l (IntKind.i64.wrap ((IntKind.i64.wrap (x1.2.1+1))+1))>>=fun x6=>
    if (!x6.2.2)=true then
     some ((W0.mk 1 x1.1 (A0.mk 0 0 [] []) x6.1 [] 0 0 0 [] [] []),x6.2.1,false)
    else
     Mv l x6.2.1>>=fun x7=>
     some ((W0.mk 1 x1.1 (A0.mk 0 0 [] []) x6.1 x7.1 0 0 0 [] [] []),x7.2.1,x7.2.2)
   else
    O1 l (IntKind.i64.wrap (x1.2.1+1))>>=fun x8=>
    some ((W0.mk 0 x1.1 x8.1 [] [] 0 0 0 [] [] []),x8.2.1,x8.2.2)
mutual
def Nt (l:List E0)(atV:Int):Option (List W0×Int×Bool):=
 Ad l atV []
 partial_fixpoint
def Ad (l:List E0)(atV1:Int)(out:List W0):Option (List W0×Int×Bool):=
 Yz l atV1>>=fun x1=>
 if x1=true then
  Nv l atV1>>=fun x2=>
  if (!x2.2.2)=true then
   some (out,x2.2.1,false)
  else
   if (decide ((out.length+1) * 257≤140737488355328))=true then
    Ad l x2.2.1 (out++[x2.1])
   else none
 else
  some (out,atV1,true)
 partial_fixpoint
def Nv (l:List E0)(atV:Int):Option (W0×Int×Bool):=
 Y0 l atV [105,102]>>=fun x1=>
 if x1=true then
  Yr l (IntKind.i64.wrap (atV+1))>>=fun x2=>
  some (x2.1,x2.2.1,x2.2.2)
 else
  Y0 l atV [119,104,105,108,101]>>=fun x3=>
  if x3=true then
   F11 l (IntKind.i64.wrap (atV+1))>>=fun x4=>
   some (x4.1,x4.2.1,x4.2.2)
  else
   Y0 l atV [102,111,114]>>=fun x5=>
   if x5=true then
    Ey l (IntKind.i64.wrap (atV+1))>>=fun x6=>
    some (x6.1,x6.2.1,x6.2.2)
   else
    Y0 l atV [111,117,116,112,117,116]>>=fun x7=>
    if x7=true then
     O1 l (IntKind.i64.wrap (atV+1))>>=fun x8=>
     Ka l 3 (A0.mk 0 0 [] []) x8.1 [] [] 0 0 0 [] [] [] x8.2.1 x8.2.2
    else
     Y0 l atV [119,97,105,116]>>=fun x10=>
     if x10=true then
      G7 l (IntKind.i64.wrap (atV+1))>>=fun x11=>
      Ka l 4 (A0.mk 0 0 [] []) (A0.mk 0 0 [] []) [] [] x11.1 0 0 [] [] [] x11.2.1 x11.2.2
     else
      Y0 l atV [115,101,116,116,108,101]>>=fun x12=>
      if x12=true then
       Pw l (IntKind.i64.wrap (atV+1))>>=fun x13=>
       Ka l 8 (A0.mk 0 0 [] []) (A0.mk 0 0 [] []) [] [] 0 0 0 x13.1 [] [] x13.2.1 x13.2.2
      else
       Mt l atV>>=fun x14=>
       Ka l x14.1.Verb x14.1.Place x14.1.Value x14.1.Name x14.1.Args x14.1.NV x14.1.Low x14.1.High x14.1.Numbers x14.1.Then x14.1.Else x14.2.1 x14.2.2
 partial_fixpoint
def Ey (l:List E0)(atV:Int):Option (W0×Int×Bool):=
 E6 l atV>>=fun x1=>
 (if (!(!x1.2.2))=true then Y0 l x1.2.1 [61] else some default)>>=fun x2=>
 if (bif (!x1.2.2) then true else (!x2))=true then
  some ((W0.mk 7 (A0.mk 0 0 [] []) (A0.mk 0 0 [] []) [] [] 0 0 0 [] [] []),x1.2.1,false)
 else
  G7 l (IntKind.i64.wrap (x1.2.1+1))>>=fun x3=>
  (if (!(!x3.2.2))=true then Y0 l x3.2.1 [116,111] else some default)>>=fun x4=>
  if (bif (!x3.2.2) then true else (!x4))=true then
   some ((W0.mk 7 (A0.mk 0 0 [] []) (A0.mk 0 0 [] []) x1.1 [] 0 x3.1 0 [] [] []),x3.2.1,false)
  else
   G7 l (IntKind.i64.wrap (x3.2.1+1))>>=fun x5=>
   if (!x5.2.2)=true then
    some ((W0.mk 7 (A0.mk 0 0 [] []) (A0.mk 0 0 [] []) x1.1 [] 0 x3.1 x5.1 [] [] []),x5.2.1,false)
   else
    Oe l x5.2.1>>=fun x6=>
    some ((W0.mk 7 (A0.mk 0 0 [] []) (A0.mk 0 0 [] []) x1.1 [] 0 x3.1 x5.1 [] x6.1 []),x6.2.1,x6.2.2)
 partial_fixpoint
def Oe (l:List E0)(atV:Int):Option (List W0×Int×Bool):=
 Y0 l atV [123]>>=fun x1=>
 if (!x1)=true then
  some ([],atV,false)
 else
  Nt l (IntKind.i64.wrap (atV+1))>>=fun x2=>
  (if (!(!x2.2.2))=true then Y0 l x2.2.1 [125] else some default)>>=fun x3=>
  if (bif (!x2.2.2) then true else (!x3))=true then
   some (x2.1,x2.2.1,false)
  else
   some (x2.1,(IntKind.i64.wrap (x2.2.1+1)),true)
 partial_fixpoint
def F11 (l:List E0)(atV:Int):Option (W0×Int×Bool):=
 O1 l atV>>=fun x1=>
 (if (!(!x1.2.2))=true then Y0 l x1.2.1 [108,105,109,105,116] else some default)>>=fun x2=>
 if (bif (!x1.2.2) then true else (!x2))=true then
  some ((W0.mk 6 (A0.mk 0 0 [] []) (A0.mk 0 0 [] []) [] [] 0 0 0 [] [] []),x1.2.1,false)
 else
  G7 l (IntKind.i64.wrap (x1.2.1+1))>>=fun x3=>
  if (!x3.2.2)=true then
   some ((W0.mk 6 (A0.mk 0 0 [] []) x1.1 [] [] x3.1 0 0 [] [] []),x3.2.1,false)
  else
   Oe l x3.2.1>>=fun x4=>
   some ((W0.mk 6 (A0.mk 0 0 [] []) x1.1 [] [] x3.1 0 0 [] x4.1 []),x4.2.1,x4.2.2)
 partial_fixpoint
def Yr (l:List E0)(atV:Int):Option (W0×Int×Bool):=
 O1 l atV>>=fun x1=>
 if (!x1.2.2)=true then
  some ((W0.mk 5 (A0.mk 0 0 [] []) (A0.mk 0 0 [] []) [] [] 0 0 0 [] [] []),x1.2.1,false)
 else
  Oe l x1.2.1>>=fun x2=>
  if (!x2.2.2)=true then
   some ((W0.mk 5 (A0.mk 0 0 [] []) x1.1 [] [] 0 0 0 [] x2.1 []),x2.2.1,false)
  else
   Y0 l x2.2.1 [101,108,115,101]>>=fun x3=>
   if x3=true then
    Oe l (IntKind.i64.wrap (x2.2.1+1))>>=fun x4=>
    some ((W0.mk 5 (A0.mk 0 0 [] []) x1.1 [] [] 0 0 0 [] x2.1 x4.1),x4.2.1,x4.2.2)
   else
    some ((W0.mk 5 (A0.mk 0 0 [] []) x1.1 [] [] 0 0 0 [] x2.1 []),x2.2.1,x2.2.2)
 partial_fixpoint
end
end Go.Proofs.YtmnhfbekncjnfaaGreatDoor

set_option maxRecDepth 100000
set_option maxHeartbeats 4000000
set_option synthInstance.maxSize 20000
set_option linter.unusedVariables false
namespace Go.Proofs.YtmnhfbekncjnfaaGreatDoor
open Go.Am
def S9 (fu:Nat)(c:Int):Option Bool:=
 some (bif (decide (c≥97)) then (decide (c≤122)) else false)
theorem Ie (fu:Nat)(c:Int):Le (S9 fu c) (K6 c):=by
 unfold S9 K6
 repeat (first | exact Le.rfl | exact L0 _ | refine Le.bind ?_ (fun _=>?_) | refine Le.ite ?_ ?_ | (rename_i x; cases x))
def I8 (fu:Nat)(c:Int):Option Bool:=
 some (bif (decide (c≥48)) then (decide (c≤57)) else false)
theorem Ec (fu:Nat)(c:Int):Le (I8 fu c) (H5 c):=by
 unfold I8 H5
 repeat (first | exact Le.rfl | exact L0 _ | refine Le.bind ?_ (fun _=>?_) | refine Le.ite ?_ ?_ | (rename_i x; cases x))
def Jb:Nat→Str→Int→Option Int
 | 0,_,_=>none
 | fu+1,s,i1=>
  (if (decide (i1 < ((s).length:Int)))=true then idx s i1 else some default)>>=fun x1=>
  (if (decide (i1 < ((s).length:Int)))=true then S9 fu (x1.toNat:Int) else some default)>>=fun x2=>
  (if ((decide (i1 < ((s).length:Int)))&&(!x2))=true then idx s i1 else some default)>>=fun x3=>
  (if ((decide (i1 < ((s).length:Int)))&&(!x2))=true then I8 fu (x3.toNat:Int) else some default)>>=fun x4=>
  if (bif (decide (i1 < ((s).length:Int))) then (bif x2 then true else x4) else false)=true then
   Jb fu s (IntKind.i64.wrap (i1+1))
  else
   some i1
theorem Ot (fu:Nat):(∀ (s:Str) (i1:Int),Le (Jb fu s i1) (X4 s i1)):=by
 induction fu with
 | zero=>exact fun _ _=>Le.none
 | succ fu ih=>
  have ih0:=ih
  refine fun s i1=>?_
  ·rw [Jb,X4]
   repeat (first | exact Le.rfl | exact ih0 _ _ | exact Ie fu _ | exact Ec fu _ | exact L0 _ | refine Le.bind ?_ (fun _=>?_) | refine Le.ite ?_ ?_ | (rename_i x; cases x))
theorem Ov (fu:Nat)(s:Str)(i1:Int):Le (Jb fu s i1) (X4 s i1):=(Ot fu) s i1
def Hh (fu:Nat)(s:Str)(i:Int):Option Int:=
 Jb fu s i
theorem Zz (fu:Nat)(s:Str)(i:Int):Le (Hh fu s i) (Ld s i):=by
 unfold Hh Ld
 repeat (first | exact Le.rfl | exact Ov fu _ _ | exact L0 _ | refine Le.bind ?_ (fun _=>?_) | refine Le.ite ?_ ?_ | (rename_i x; cases x))
def Fc (fu:Nat)(word:Str):Option Bool:=
 (if (!(word == []))=true then Ac word [32] else some default)>>=fun x1=>
 if (!(bif (!(word == [])) then (!x1) else false)||(decide (1+word.length≤maxLen)))=true then
  if (!(bif (!(word == [])) then (!x1) else false)||(decide (([32]++word).length+1≤maxLen)))=true then
   (if (bif (!(word == [])) then (!x1) else false)=true then Ac [32,116,121,112,101,32,115,101,99,114,101,116,32,112,117,98,108,105,99,32,114,97,110,100,111,109,32,118,97,114,32,104,97,116,99,104,32,102,117,110,99,32,114,101,116,117,114,110,32,98,101,103,105,110,32,101,110,100,32,98,111,111,108,32,105,110,116,32,97,114,114,97,121,32,111,102,32,114,101,99,111,114,100,32,116,114,117,101,32,102,97,108,115,101,32,99,97,108,108,32,114,101,108,101,97,115,101,32,111,117,116,112,117,116,32,119,97,105,116,32,105,102,32,101,108,115,101,32,119,104,105,108,101,32,108,105,109,105,116,32,102,111,114,32,116,111,32,115,101,116,116,108,101,32,109,105,110,32,109,97,120,32] (([32]++word)++[32]) else some default)>>=fun x2=>
   some (bif (bif (!(word == [])) then (!x1) else false) then x2 else false)
  else none
 else none
theorem Yi (fu:Nat)(word:Str):Le (Fc fu word) (I5 word):=by
 unfold Fc I5
 repeat (first | exact Le.rfl | exact L0 _ | refine Le.bind ?_ (fun _=>?_) | refine Le.ite ?_ ?_ | (rename_i x; cases x))
def Q8:Nat→Str→Int→Int→Option Int
 | 0,_,_,_=>none
 | fu+1,s,n,v7=>
  if (decide (v7 < ((s).length:Int)))=true then
   idx s v7>>=fun x1=>
   I8 fu (x1.toNat:Int)>>=fun x2=>
   if (!x2)=true then
    some 6
   else
    idx s v7>>=fun x3=>
    Q8 fu s (min (IntKind.i64.wrap ((IntKind.i64.wrap (10 * n))+(IntKind.i64.wrap (IntKind.u8.wrap ((x3.toNat:Int) - 48))))) 1048577) (IntKind.i64.wrap (v7+1))
  else
   idx s 0>>=fun x4=>
   if (bif ((x4.toNat:Int) == 48) then (decide (((s).length:Int) > 1)) else false)=true then
    some 6
   else
    if (decide (n > 1048576))=true then
     some 3
    else
     some 0
theorem Hp (fu:Nat):(∀ (s:Str) (n:Int) (v7:Int),Le (Q8 fu s n v7) (H3 s n v7)):=by
 induction fu with
 | zero=>exact fun _ _ _=>Le.none
 | succ fu ih=>
  have ih0:=ih
  refine fun s n v7=>?_
  ·rw [Q8,H3]
   repeat (first | exact Le.rfl | exact ih0 _ _ _ | exact Ec fu _ | exact L0 _ | refine Le.bind ?_ (fun _=>?_) | refine Le.ite ?_ ?_ | (rename_i x; cases x))
theorem Tq (fu:Nat)(s:Str)(n:Int)(v7:Int):Le (Q8 fu s n v7) (H3 s n v7):=(Hp fu) s n v7
def Sg (fu:Nat)(s:Str):Option Int:=
 Q8 fu s 0 0
theorem Pv (fu:Nat)(s:Str):Le (Sg fu s) (Fb s):=by
 unfold Sg Fb
 repeat (first | exact Le.rfl | exact Tq fu _ _ _ | exact L0 _ | refine Le.bind ?_ (fun _=>?_) | refine Le.ite ?_ ?_ | (rename_i x; cases x))
def Gd (fu:Nat)(s:Str):Option Str:=
 idx s 0>>=fun x3=>
 Gh [59,58,44,46,61,43,45,42,47,37,60,62,33,63,40,41,91,93,123,125] (x3.toNat:Int)>>=fun x4=>
 if (decide (x4≥0))=true then
  slc s 0 1>>=fun x5=>
  some x5
 else
  some []
theorem Dk (fu:Nat)(s:Str):Le (Gd fu s) (F7 s):=by
 unfold Gd F7
 repeat (first | exact Le.rfl | exact L0 _ | refine Le.bind ?_ (fun _=>?_) | refine Le.ite ?_ ?_ | (rename_i x; cases x))
def Q4 (fu:Nat)(s:Str)(v8:Bool):Option Str:=
 if v8=true then
  slc s 0 2>>=fun x2=>
  some x2
 else
  Gd fu s
theorem Pt (fu:Nat)(s:Str)(v8:Bool):Le (Q4 fu s v8) (V3 s v8):=by
 unfold Q4 V3
 repeat (first | exact Le.rfl | exact Dk fu _ | exact L0 _ | refine Le.bind ?_ (fun _=>?_) | refine Le.ite ?_ ?_ | (rename_i x; cases x))
def Ek (fu:Nat)(s:Str):Option Str:=
 if (decide (((s).length:Int)≥2))=true then
  slc s 0 2>>=fun x1=>
  if (x1 == [46,46])=true then
   Q4 fu s (x1 == [46,46])
  else
   if (x1 == [61,61])=true then
    Q4 fu s (x1 == [61,61])
   else
    if (x1 == [33,61])=true then
     Q4 fu s (x1 == [33,61])
    else
     if (x1 == [60,61])=true then
      Q4 fu s (x1 == [60,61])
     else
      if (x1 == [62,61])=true then
       Q4 fu s (x1 == [62,61])
      else
       if (x1 == [38,38])=true then
        Q4 fu s (x1 == [38,38])
       else
        Q4 fu s (x1 == [124,124])
 else
  Gd fu s
theorem Fy (fu:Nat)(s:Str):Le (Ek fu s) (Y8 s):=by
 unfold Ek Y8
 repeat (first | exact Le.rfl | exact Pt fu _ _ | exact Dk fu _ | exact L0 _ | refine Le.bind ?_ (fun _=>?_) | refine Le.ite ?_ ?_ | (rename_i x; cases x))
def Fk (fu:Nat)(s:Str)(i:Int):Option (E0×Int):=
 idx s i>>=fun x1=>
 S9 fu (x1.toNat:Int)>>=fun x2=>
 if x2=true then
  Hh fu s i>>=fun x3=>
  slc s i x3>>=fun x4=>
  Fc fu x4>>=fun x5=>
  if x5=true then
   some ((E0.mk 2 x4 i),0)
  else
   if (decide (((x4).length:Int) > 12))=true then
    some ((E0.mk 0 x4 i),7)
   else
    some ((E0.mk 0 x4 i),0)
 else
  I8 fu (x1.toNat:Int)>>=fun x6=>
  if x6=true then
   Hh fu s i>>=fun x7=>
   slc s i x7>>=fun x8=>
   Sg fu x8>>=fun x9=>
   some ((E0.mk 1 x8 i),x9)
  else
   slc s i ((s).length:Int)>>=fun x10=>
   Ek fu x10>>=fun x11=>
   if (x11 == [])=true then
    some ((E0.mk 3 x11 i),6)
   else
    some ((E0.mk 3 x11 i),0)
theorem Hi (fu:Nat)(s:Str)(i:Int):Le (Fk fu s i) (Ga s i):=by
 unfold Fk Ga
 repeat (first | exact Le.rfl | exact Ie fu _ | exact Zz fu _ _ | exact Yi fu _ | exact Ec fu _ | exact Pv fu _ | exact Fy fu _ | exact L0 _ | refine Le.bind ?_ (fun _=>?_) | refine Le.ite ?_ ?_ | (rename_i x; cases x))
mutual
def U7:Nat→Str→(List E0)→Int→Option (List E0×Int×Int)
 | 0,_,_,_=>none
 | fu+1,s,out,i=>
  if (decide (i < ((s).length:Int)))=true then
   idx s i>>=fun x1=>
   if ((x1.toNat:Int) == 32)=true then
    Kb fu s out i x1 ((x1.toNat:Int) == 32)
   else
    if ((x1.toNat:Int) == 9)=true then
     Kb fu s out i x1 ((x1.toNat:Int) == 9)
    else
     Kb fu s out i x1 ((x1.toNat:Int) == 10)
  else
   some (out,0,0)
def Kb:Nat→Str→(List E0)→Int→UInt8→Bool→Option (List E0×Int×Int)
 | 0,_,_,_,_,_=>none
 | fu+1,s,out1,i1,x1,v19=>
  if v19=true then
   U7 fu s out1 (IntKind.i64.wrap (i1+1))
  else
   if ((x1.toNat:Int) == 35)=true then
    De fu s out1 i1
   else
    Fk fu s i1>>=fun x2=>
    if (x2.2 != 0)=true then
     some ([],i1,x2.2)
    else
     if (decide ((out1.length+1) * 33≤140737488355328))=true then
      U7 fu s (out1++[x2.1]) (IntKind.i64.wrap (i1+((x2.1.Text).length:Int)))
     else none
def De:Nat→Str→(List E0)→Int→Option (List E0×Int×Int)
 | 0,_,_,_=>none
 | fu+1,s,out2,i2=>
  (if (decide (i2 < ((s).length:Int)))=true then idx s i2 else some default)>>=fun x3=>
  if (bif (decide (i2 < ((s).length:Int))) then ((x3.toNat:Int) != 10) else false)=true then
   De fu s out2 (IntKind.i64.wrap (i2+1))
  else
   U7 fu s out2 i2
end
theorem Qt (fu:Nat):(∀ (s:Str) (out:List E0) (i:Int),Le (U7 fu s out i) (Q2 s out i))∧(∀ (s:Str) (out1:List E0) (i1:Int) (x1:UInt8) (v19:Bool),Le (Kb fu s out1 i1 x1 v19) (C8 s out1 i1 x1 v19))∧(∀ (s:Str) (out2:List E0) (i2:Int),Le (De fu s out2 i2) (Y5 s out2 i2)):=by
 induction fu with
 | zero=>exact ⟨fun _ _ _=>Le.none,fun _ _ _ _ _=>Le.none,fun _ _ _=>Le.none⟩
 | succ fu ih=>
  obtain ⟨ih0,ih1,ih2⟩:=ih
  refine ⟨fun s out i=>?_,fun s out1 i1 x1 v19=>?_,fun s out2 i2=>?_⟩
  ·rw [U7,Q2]
   repeat (first | exact Le.rfl | exact ih0 _ _ _ | exact ih1 _ _ _ _ _ | exact ih2 _ _ _ | exact Hi fu _ _ | exact L0 _ | refine Le.bind ?_ (fun _=>?_) | refine Le.ite ?_ ?_ | (rename_i x; cases x))
  ·rw [Kb,C8]
   repeat (first | exact Le.rfl | exact ih0 _ _ _ | exact ih1 _ _ _ _ _ | exact ih2 _ _ _ | exact Hi fu _ _ | exact L0 _ | refine Le.bind ?_ (fun _=>?_) | refine Le.ite ?_ ?_ | (rename_i x; cases x))
  ·rw [De,Y5]
   repeat (first | exact Le.rfl | exact ih0 _ _ _ | exact ih1 _ _ _ _ _ | exact ih2 _ _ _ | exact Hi fu _ _ | exact L0 _ | refine Le.bind ?_ (fun _=>?_) | refine Le.ite ?_ ?_ | (rename_i x; cases x))
theorem Qv (fu:Nat)(s:Str)(out:List E0)(i:Int):Le (U7 fu s out i) (Q2 s out i):=(Qt fu).1 s out i
def Ql (fu:Nat)(s:Str):Option (List E0×Int×Int):=
 if (decide (((s).length:Int) > 8192))=true then
  some ([],0,5)
 else
  U7 fu s [] 0
theorem A10 (fu:Nat)(s:Str):Le (Ql fu s) (Md s):=by
 unfold Ql Md
 repeat (first | exact Le.rfl | exact Qv fu _ _ _ | exact L0 _ | refine Le.bind ?_ (fun _=>?_) | refine Le.ite ?_ ?_ | (rename_i x; cases x))
def Vd (fu:Nat)(text:Str)(parserParser:B0):Option Bool:=
 if (decide (parserParser.next≥((parserParser.tokens).length:Int)))=true then
  some false
 else
  idx parserParser.tokens parserParser.next>>=fun x1=>
  some (bif (x1.Text == text) then (bif (x1.Kind == 2) then true else (x1.Kind == 3)) else false)
theorem Ip (fu:Nat)(text:Str)(parserParser:B0):Le (Vd fu text parserParser) (Y4 text parserParser):=by
 unfold Vd Y4
 repeat (first | exact Le.rfl | exact L0 _ | refine Le.bind ?_ (fun _=>?_) | refine Le.ite ?_ ?_ | (rename_i x; cases x))
def T0 (fu:Nat)(text:Str)(parserParser:B0):Option (Bool×B0):=
 Vd fu text parserParser>>=fun x1=>
 if (!x1)=true then
  some (false,parserParser)
 else
  some (true,(B0.mk parserParser.tokens (IntKind.i64.wrap (parserParser.next+1)) parserParser.endV))
theorem R0 (fu:Nat)(text:Str)(parserParser:B0):Le (T0 fu text parserParser) (J0 text parserParser):=by
 unfold T0 J0
 repeat (first | exact Le.rfl | exact Ip fu _ _ | exact L0 _ | refine Le.bind ?_ (fun _=>?_) | refine Le.ite ?_ ?_ | (rename_i x; cases x))
def Va (fu:Nat)(parserParser:B0):Option Bool:=
 (if (decide (parserParser.next < ((parserParser.tokens).length:Int)))=true then idx parserParser.tokens parserParser.next else some default)>>=fun x1=>
 some (bif (decide (parserParser.next < ((parserParser.tokens).length:Int))) then (x1.Kind == 0) else false)
theorem Z0 (fu:Nat)(parserParser:B0):Le (Va fu parserParser) (N3 parserParser):=by
 unfold Va N3
 repeat (first | exact Le.rfl | exact L0 _ | refine Le.bind ?_ (fun _=>?_) | refine Le.ite ?_ ?_ | (rename_i x; cases x))
def Z6 (fu:Nat)(parserParser:B0):Option (Pn Unit):=
 if (decide (parserParser.next < ((parserParser.tokens).length:Int)))=true then
  idx parserParser.tokens parserParser.next>>=fun x1=>
  some (.pn x1.At)
 else
  some (.pn parserParser.endV)
theorem Lb (fu:Nat)(parserParser:B0):Le (Z6 fu parserParser) (O3 parserParser):=by
 unfold Z6 O3
 repeat (first | exact Le.rfl | exact L0 _ | refine Le.bind ?_ (fun _=>?_) | refine Le.ite ?_ ?_ | (rename_i x; cases x))
def H7 (fu:Nat)(parserParser:B0):Option (Pn (Str×B0)):=
 idx parserParser.tokens (IntKind.i64.wrap ((IntKind.i64.wrap (parserParser.next+1)) - 1))>>=fun x3=>
 some (.ok (x3.Text,(B0.mk parserParser.tokens (IntKind.i64.wrap (parserParser.next+1)) parserParser.endV)))
theorem Gk (fu:Nat)(parserParser:B0):Le (H7 fu parserParser) (W3 parserParser):=by
 unfold H7 W3
 repeat (first | exact Le.rfl | exact L0 _ | refine Le.bind ?_ (fun _=>?_) | refine Le.ite ?_ ?_ | (rename_i x; cases x))
def Z8 (fu:Nat)(k:Int)(parserParser:B0):Option (Pn (Str×B0)):=
 (if (!(decide (parserParser.next≥((parserParser.tokens).length:Int))))=true then idx parserParser.tokens parserParser.next else some default)>>=fun x1=>
 if (bif (decide (parserParser.next≥((parserParser.tokens).length:Int))) then true else (x1.Kind != k))=true then
  Z6 fu parserParser>>=fun x2=>match x2 with
  | .pn nn=>
  some (.pn nn)
  | .ok x2=>
  H7 fu parserParser
 else
  H7 fu parserParser
theorem Gf (fu:Nat)(k:Int)(parserParser:B0):Le (Z8 fu k parserParser) (C4 k parserParser):=by
 unfold Z8 C4
 repeat (first | exact Le.rfl | exact Lb fu _ | exact Gk fu _ | exact L0 _ | refine Le.bind ?_ (fun _=>?_) | refine Le.ite ?_ ?_ | (rename_i x; cases x))
def A9 (fu:Nat)(parserParser:B0):Option (Pn (Str×B0)):=
 Z8 fu 0 parserParser>>=fun x1=>match x1 with
 | .pn nn=>
 some (.pn nn)
 | .ok x1=>
 some (.ok (x1.1,x1.2))
theorem D1 (fu:Nat)(parserParser:B0):Le (A9 fu parserParser) (E2 parserParser):=by
 unfold A9 E2
 repeat (first | exact Le.rfl | exact Gf fu _ _ | exact L0 _ | refine Le.bind ?_ (fun _=>?_) | refine Le.ite ?_ ?_ | (rename_i x; cases x))
def Q3 (fu:Nat)(text:Str)(parserParser:B0):Option (Pn B0):=
 T0 fu text parserParser>>=fun x1=>
 if (!x1.1)=true then
  Z6 fu x1.2>>=fun x2=>match x2 with
  | .pn nn=>
  some (.pn nn)
  | .ok x2=>
  some (.ok x1.2)
 else
  some (.ok x1.2)
theorem E1 (fu:Nat)(text:Str)(parserParser:B0):Le (Q3 fu text parserParser) (N0 text parserParser):=by
 unfold Q3 N0
 repeat (first | exact Le.rfl | exact R0 fu _ _ | exact Lb fu _ | exact L0 _ | refine Le.bind ?_ (fun _=>?_) | refine Le.ite ?_ ?_ | (rename_i x; cases x))
def Wa (fu:Nat)(parserParser:B0):Option (Pn (Int×B0)):=
 Z8 fu 1 parserParser>>=fun x1=>match x1 with
 | .pn nn=>
 some (.pn nn)
 | .ok x1=>
 Im x1.1>>=fun x2=>
 some (.ok (x2,x1.2))
theorem A1 (fu:Nat)(parserParser:B0):Le (Wa fu parserParser) (D3 parserParser):=by
 unfold Wa D3
 repeat (first | exact Le.rfl | exact Gf fu _ _ | exact L0 _ | refine Le.bind ?_ (fun _=>?_) | refine Le.ite ?_ ?_ | (rename_i x; cases x))
def B9 (fu:Nat)(parserParser:B0):Option (Int×Bool×B0):=
 T0 fu [42] parserParser>>=fun x1=>
 if x1.1=true then
  some (10,true,x1.2)
 else
  T0 fu [47] x1.2>>=fun x2=>
  if x2.1=true then
   some (11,true,x2.2)
  else
   T0 fu [37] x2.2>>=fun x3=>
   some (12,x3.1,x3.2)
theorem S0 (fu:Nat)(parserParser:B0):Le (B9 fu parserParser) (K3 parserParser):=by
 unfold B9 K3
 repeat (first | exact Le.rfl | exact R0 fu _ _ | exact L0 _ | refine Le.bind ?_ (fun _=>?_) | refine Le.ite ?_ ?_ | (rename_i x; cases x))
def Mb (fu:Nat)(parserParser:B0):Option (Int×Bool×B0):=
 T0 fu [43] parserParser>>=fun x1=>
 if x1.1=true then
  some (8,true,x1.2)
 else
  T0 fu [45] x1.2>>=fun x2=>
  some (9,x2.1,x2.2)
theorem B1 (fu:Nat)(parserParser:B0):Le (Mb fu parserParser) (L4 parserParser):=by
 unfold Mb L4
 repeat (first | exact Le.rfl | exact R0 fu _ _ | exact L0 _ | refine Le.bind ?_ (fun _=>?_) | refine Le.ite ?_ ?_ | (rename_i x; cases x))
def Nb (fu:Nat)(parserParser:B0):Option (Int×Bool×B0):=
 T0 fu [38,38] parserParser>>=fun x1=>
 some (19,x1.1,x1.2)
theorem C1 (fu:Nat)(parserParser:B0):Le (Nb fu parserParser) (M4 parserParser):=by
 unfold Nb M4
 repeat (first | exact Le.rfl | exact R0 fu _ _ | exact L0 _ | refine Le.bind ?_ (fun _=>?_) | refine Le.ite ?_ ?_ | (rename_i x; cases x))
def Gc (fu:Nat)(parserParser:B0):Option (Int×Bool×B0):=
 T0 fu [124,124] parserParser>>=fun x1=>
 some (20,x1.1,x1.2)
theorem F1 (fu:Nat)(parserParser:B0):Le (Gc fu parserParser) (Z4 parserParser):=by
 unfold Gc Z4
 repeat (first | exact Le.rfl | exact R0 fu _ _ | exact L0 _ | refine Le.bind ?_ (fun _=>?_) | refine Le.ite ?_ ?_ | (rename_i x; cases x))
mutual
def W1:Nat→B0→Option (Pn (A0×B0))
 | 0,_=>none
 | fu+1,parserParser=>
  Wd fu parserParser>>=fun x1=>match x1 with
  | .pn nn=>
  some (.pn nn)
  | .ok x1=>
  T0 fu [63] x1.2>>=fun x2=>
  if (!x2.1)=true then
   some (.ok (x1.1,x2.2))
  else
   W1 fu x2.2>>=fun x3=>match x3 with
   | .pn nn=>
   some (.pn nn)
   | .ok x3=>
   Q3 fu [58] x3.2>>=fun x4=>match x4 with
   | .pn nn=>
   some (.pn nn)
   | .ok x4=>
   W1 fu x4>>=fun x5=>match x5 with
   | .pn nn=>
   some (.pn nn)
   | .ok x5=>
   some (.ok ((A0.mk 23 0 [] [x1.1,x3.1,x5.1]),x5.2))
def Wd:Nat→B0→Option (Pn (A0×B0))
 | 0,_=>none
 | fu+1,parserParser=>
  Pb fu parserParser>>=fun x1=>match x1 with
  | .pn nn=>
  some (.pn nn)
  | .ok x1=>
  some (.ok (x1.1,x1.2))
def Pb:Nat→B0→Option (Pn (A0×B0))
 | 0,_=>none
 | fu+1,parserParser=>
  Aa fu parserParser>>=fun x1=>match x1 with
  | .pn nn=>
  some (.pn nn)
  | .ok x1=>
  A7 fu x1.2 x1.1
def Aa:Nat→B0→Option (Pn (A0×B0))
 | 0,_=>none
 | fu+1,parserParser=>
  T9 fu parserParser>>=fun x1=>match x1 with
  | .pn nn=>
  some (.pn nn)
  | .ok x1=>
  some (.ok (x1.1,x1.2))
def T9:Nat→B0→Option (Pn (A0×B0))
 | 0,_=>none
 | fu+1,parserParser=>
  F6 fu parserParser>>=fun x1=>match x1 with
  | .pn nn=>
  some (.pn nn)
  | .ok x1=>
  V5 fu x1.2 x1.1
def F6:Nat→B0→Option (Pn (A0×B0))
 | 0,_=>none
 | fu+1,parserParser=>
  Ba fu parserParser>>=fun x1=>match x1 with
  | .pn nn=>
  some (.pn nn)
  | .ok x1=>
  T0 fu [61,61] x1.2>>=fun x2=>
  if x2.1=true then
   D2 fu x2.2 x1 13
  else
   T0 fu [33,61] x2.2>>=fun x4=>
   if x4.1=true then
    D2 fu x4.2 x1 14
   else
    T0 fu [60] x4.2>>=fun x5=>
    if x5.1=true then
     D2 fu x5.2 x1 15
    else
     T0 fu [60,61] x5.2>>=fun x6=>
     if x6.1=true then
      D2 fu x6.2 x1 16
     else
      T0 fu [62] x6.2>>=fun x7=>
      if x7.1=true then
       D2 fu x7.2 x1 17
      else
       T0 fu [62,61] x7.2>>=fun x8=>
       if x8.1=true then
        D2 fu x8.2 x1 18
       else
        some (.ok (x1.1,x8.2))
def Ba:Nat→B0→Option (Pn (A0×B0))
 | 0,_=>none
 | fu+1,parserParser=>
  U9 fu parserParser>>=fun x1=>match x1 with
  | .pn nn=>
  some (.pn nn)
  | .ok x1=>
  some (.ok (x1.1,x1.2))
def U9:Nat→B0→Option (Pn (A0×B0))
 | 0,_=>none
 | fu+1,parserParser=>
  I7 fu parserParser>>=fun x1=>match x1 with
  | .pn nn=>
  some (.pn nn)
  | .ok x1=>
  U5 fu x1.2 x1.1
def I7:Nat→B0→Option (Pn (A0×B0))
 | 0,_=>none
 | fu+1,parserParser=>
  V9 fu parserParser>>=fun x1=>match x1 with
  | .pn nn=>
  some (.pn nn)
  | .ok x1=>
  some (.ok (x1.1,x1.2))
def V9:Nat→B0→Option (Pn (A0×B0))
 | 0,_=>none
 | fu+1,parserParser=>
  W4 fu parserParser>>=fun x1=>match x1 with
  | .pn nn=>
  some (.pn nn)
  | .ok x1=>
  T5 fu x1.2 x1.1
def W4:Nat→B0→Option (Pn (A0×B0))
 | 0,_=>none
 | fu+1,parserParser=>
  T0 fu [45] parserParser>>=fun x1=>
  if x1.1=true then
   W4 fu x1.2>>=fun x4=>match x4 with
   | .pn nn=>
   some (.pn nn)
   | .ok x4=>
   some (.ok ((A0.mk 6 0 [] [x4.1]),x4.2))
  else
   T0 fu [33] x1.2>>=fun x2=>
   if x2.1=true then
    W4 fu x2.2>>=fun x5=>match x5 with
    | .pn nn=>
    some (.pn nn)
    | .ok x5=>
    some (.ok ((A0.mk 7 0 [] [x5.1]),x5.2))
   else
    Ca fu x2.2>>=fun x3=>match x3 with
    | .pn nn=>
    some (.pn nn)
    | .ok x3=>
    some (.ok (x3.1,x3.2))
def Ca:Nat→B0→Option (Pn (A0×B0))
 | 0,_=>none
 | fu+1,parserParser=>
  Va fu parserParser>>=fun x1=>
  if x1=true then
   Qb fu parserParser>>=fun x2=>match x2 with
   | .pn nn=>
   some (.pn nn)
   | .ok x2=>
   some (.ok (x2.1,x2.2))
  else
   T0 fu [116,114,117,101] parserParser>>=fun x3=>
   if x3.1=true then
    some (.ok ((A0.mk 1 0 [] []),x3.2))
   else
    T0 fu [102,97,108,115,101] x3.2>>=fun x4=>
    if x4.1=true then
     some (.ok ((A0.mk 2 0 [] []),x4.2))
    else
     T0 fu [109,105,110] x4.2>>=fun x5=>
     if x5.1=true then
      C9 fu 21 x5.2>>=fun x11=>match x11 with
      | .pn nn=>
      some (.pn nn)
      | .ok x11=>
      some (.ok (x11.1,x11.2))
     else
      T0 fu [109,97,120] x5.2>>=fun x6=>
      if x6.1=true then
       C9 fu 22 x6.2>>=fun x12=>match x12 with
       | .pn nn=>
       some (.pn nn)
       | .ok x12=>
       some (.ok (x12.1,x12.2))
      else
       T0 fu [40] x6.2>>=fun x7=>
       if x7.1=true then
        W1 fu x7.2>>=fun x9=>match x9 with
        | .pn nn=>
        some (.pn nn)
        | .ok x9=>
        Q3 fu [41] x9.2>>=fun x10=>match x10 with
        | .pn nn=>
        some (.pn nn)
        | .ok x10=>
        some (.ok (x9.1,x10))
       else
        Wa fu x7.2>>=fun x8=>match x8 with
        | .pn nn=>
        some (.pn nn)
        | .ok x8=>
        some (.ok ((A0.mk 0 x8.1 [] []),x8.2))
def Qb:Nat→B0→Option (Pn (A0×B0))
 | 0,_=>none
 | fu+1,parserParser=>
  A9 fu parserParser>>=fun x1=>match x1 with
  | .pn nn=>
  some (.pn nn)
  | .ok x1=>
  G5 fu x1.2 3 x1.1 []
def G5:Nat→B0→Int→Str→(List A0)→Option (Pn (A0×B0))
 | 0,_,_,_,_=>none
 | fu+1,o0,o2_Op,o2_Name,o2_Kids=>
  T0 fu [46] o0>>=fun x2=>
  if x2.1=true then
   A9 fu x2.2>>=fun x3=>match x3 with
   | .pn nn=>
   some (.pn nn)
   | .ok x3=>
   G5 fu x3.2 4 x3.1 [(A0.mk o2_Op 0 o2_Name o2_Kids)]
  else
   T0 fu [91] x2.2>>=fun x4=>
   if x4.1=true then
    W1 fu x4.2>>=fun x5=>match x5 with
    | .pn nn=>
    some (.pn nn)
    | .ok x5=>
    Q3 fu [93] x5.2>>=fun x6=>match x6 with
    | .pn nn=>
    some (.pn nn)
    | .ok x6=>
    G5 fu x6 5 [] [(A0.mk o2_Op 0 o2_Name o2_Kids),x5.1]
   else
    some (.ok ((A0.mk o2_Op 0 o2_Name o2_Kids),x4.2))
def C9:Nat→Int→B0→Option (Pn (A0×B0))
 | 0,_,_=>none
 | fu+1,op,parserParser=>
  Q3 fu [40] parserParser>>=fun x1=>match x1 with
  | .pn nn=>
  some (.pn nn)
  | .ok x1=>
  W1 fu x1>>=fun x2=>match x2 with
  | .pn nn=>
  some (.pn nn)
  | .ok x2=>
  Q3 fu [44] x2.2>>=fun x3=>match x3 with
  | .pn nn=>
  some (.pn nn)
  | .ok x3=>
  W1 fu x3>>=fun x4=>match x4 with
  | .pn nn=>
  some (.pn nn)
  | .ok x4=>
  Q3 fu [41] x4.2>>=fun x5=>match x5 with
  | .pn nn=>
  some (.pn nn)
  | .ok x5=>
  some (.ok ((A0.mk op 0 [] [x2.1,x4.1]),x5))
def T5:Nat→B0→A0→Option (Pn (A0×B0))
 | 0,_,_=>none
 | fu+1,o0,o3=>
  B9 fu o0>>=fun x2=>
  if (!x2.2.1)=true then
   some (.ok (o3,x2.2.2))
  else
   W4 fu x2.2.2>>=fun x3=>match x3 with
   | .pn nn=>
   some (.pn nn)
   | .ok x3=>
   T5 fu x3.2 (A0.mk x2.1 0 [] [o3,x3.1])
def U5:Nat→B0→A0→Option (Pn (A0×B0))
 | 0,_,_=>none
 | fu+1,o0,o3=>
  Mb fu o0>>=fun x2=>
  if (!x2.2.1)=true then
   some (.ok (o3,x2.2.2))
  else
   I7 fu x2.2.2>>=fun x3=>match x3 with
   | .pn nn=>
   some (.pn nn)
   | .ok x3=>
   U5 fu x3.2 (A0.mk x2.1 0 [] [o3,x3.1])
def D2:Nat→B0→(A0×B0)→Int→Option (Pn (A0×B0))
 | 0,_,_,_=>none
 | fu+1,o0,x1,op=>
  Ba fu o0>>=fun x3=>match x3 with
  | .pn nn=>
  some (.pn nn)
  | .ok x3=>
  some (.ok ((A0.mk op 0 [] [x1.1,x3.1]),x3.2))
def V5:Nat→B0→A0→Option (Pn (A0×B0))
 | 0,_,_=>none
 | fu+1,o0,o3=>
  Nb fu o0>>=fun x2=>
  if (!x2.2.1)=true then
   some (.ok (o3,x2.2.2))
  else
   F6 fu x2.2.2>>=fun x3=>match x3 with
   | .pn nn=>
   some (.pn nn)
   | .ok x3=>
   V5 fu x3.2 (A0.mk x2.1 0 [] [o3,x3.1])
def A7:Nat→B0→A0→Option (Pn (A0×B0))
 | 0,_,_=>none
 | fu+1,o0,o3=>
  Gc fu o0>>=fun x2=>
  if (!x2.2.1)=true then
   some (.ok (o3,x2.2.2))
  else
   Aa fu x2.2.2>>=fun x3=>match x3 with
   | .pn nn=>
   some (.pn nn)
   | .ok x3=>
   A7 fu x3.2 (A0.mk x2.1 0 [] [o3,x3.1])
end
theorem Tg (fu:Nat):(∀ (parserParser:B0),Le (W1 fu parserParser) (O0 parserParser))∧(∀ (parserParser:B0),Le (Wd fu parserParser) (A5 parserParser))∧(∀ (parserParser:B0),Le (Pb fu parserParser) (O7 parserParser))∧(∀ (parserParser:B0),Le (Aa fu parserParser) (U3 parserParser))∧(∀ (parserParser:B0),Le (T9 fu parserParser) (Z5 parserParser))∧(∀ (parserParser:B0),Le (F6 fu parserParser) (N2 parserParser))∧(∀ (parserParser:B0),Le (Ba fu parserParser) (J3 parserParser))∧(∀ (parserParser:B0),Le (U9 fu parserParser) (A6 parserParser))∧(∀ (parserParser:B0),Le (I7 fu parserParser) (X2 parserParser))∧(∀ (parserParser:B0),Le (V9 fu parserParser) (B6 parserParser))∧(∀ (parserParser:B0),Le (W4 fu parserParser) (F2 parserParser))∧(∀ (parserParser:B0),Le (Ca fu parserParser) (T4 parserParser))∧(∀ (parserParser:B0),Le (Qb fu parserParser) (N4 parserParser))∧(∀ (o0:B0) (o2_Op:Int) (o2_Name:Str) (o2_Kids:List A0),Le (G5 fu o0 o2_Op o2_Name o2_Kids) (T2 o0 o2_Op o2_Name o2_Kids))∧(∀ (op:Int) (parserParser:B0),Le (C9 fu op parserParser) (B5 op parserParser))∧(∀ (o0:B0) (o3:A0),Le (T5 fu o0 o3) (B2 o0 o3))∧(∀ (o0:B0) (o3:A0),Le (U5 fu o0 o3) (A2 o0 o3))∧(∀ (o0:B0) (x1:A0×B0) (op:Int),Le (D2 fu o0 x1 op) (X0 o0 x1 op))∧(∀ (o0:B0) (o3:A0),Le (V5 fu o0 o3) (Z1 o0 o3))∧(∀ (o0:B0) (o3:A0),Le (A7 fu o0 o3) (L2 o0 o3)):=by
 induction fu with
 | zero=>exact ⟨fun _=>Le.none,fun _=>Le.none,fun _=>Le.none,fun _=>Le.none,fun _=>Le.none,fun _=>Le.none,fun _=>Le.none,fun _=>Le.none,fun _=>Le.none,fun _=>Le.none,fun _=>Le.none,fun _=>Le.none,fun _=>Le.none,fun _ _ _ _=>Le.none,fun _ _=>Le.none,fun _ _=>Le.none,fun _ _=>Le.none,fun _ _ _=>Le.none,fun _ _=>Le.none,fun _ _=>Le.none⟩
 | succ fu ih=>
  obtain ⟨ih0,ih1,ih2,ih3,ih4,ih5,ih6,ih7,ih8,ih9,ih10,ih11,ih12,ih13,ih14,ih15,ih16,ih17,ih18,ih19⟩:=ih
  refine ⟨fun parserParser=>?_,fun parserParser=>?_,fun parserParser=>?_,fun parserParser=>?_,fun parserParser=>?_,fun parserParser=>?_,fun parserParser=>?_,fun parserParser=>?_,fun parserParser=>?_,fun parserParser=>?_,fun parserParser=>?_,fun parserParser=>?_,fun parserParser=>?_,fun o0 o2_Op o2_Name o2_Kids=>?_,fun op parserParser=>?_,fun o0 o3=>?_,fun o0 o3=>?_,fun o0 x1 op=>?_,fun o0 o3=>?_,fun o0 o3=>?_⟩
  ·rw [W1,O0]
   repeat (first | exact Le.rfl | exact ih0 _ | exact ih1 _ | exact ih2 _ | exact ih3 _ | exact ih4 _ | exact ih5 _ | exact ih6 _ | exact ih7 _ | exact ih8 _ | exact ih9 _ | exact ih10 _ | exact ih11 _ | exact ih12 _ | exact ih13 _ _ _ _ | exact ih14 _ _ | exact ih15 _ _ | exact ih16 _ _ | exact ih17 _ _ _ | exact ih18 _ _ | exact ih19 _ _ | exact R0 fu _ _ | exact E1 fu _ _ | exact Z0 fu _ | exact A1 fu _ | exact D1 fu _ | exact S0 fu _ | exact B1 fu _ | exact C1 fu _ | exact F1 fu _ | exact L0 _ | refine Le.bind ?_ (fun _=>?_) | refine Le.ite ?_ ?_ | (rename_i x; cases x))
  ·rw [Wd,A5]
   repeat (first | exact Le.rfl | exact ih0 _ | exact ih1 _ | exact ih2 _ | exact ih3 _ | exact ih4 _ | exact ih5 _ | exact ih6 _ | exact ih7 _ | exact ih8 _ | exact ih9 _ | exact ih10 _ | exact ih11 _ | exact ih12 _ | exact ih13 _ _ _ _ | exact ih14 _ _ | exact ih15 _ _ | exact ih16 _ _ | exact ih17 _ _ _ | exact ih18 _ _ | exact ih19 _ _ | exact R0 fu _ _ | exact E1 fu _ _ | exact Z0 fu _ | exact A1 fu _ | exact D1 fu _ | exact S0 fu _ | exact B1 fu _ | exact C1 fu _ | exact F1 fu _ | exact L0 _ | refine Le.bind ?_ (fun _=>?_) | refine Le.ite ?_ ?_ | (rename_i x; cases x))
  ·rw [Pb,O7]
   repeat (first | exact Le.rfl | exact ih0 _ | exact ih1 _ | exact ih2 _ | exact ih3 _ | exact ih4 _ | exact ih5 _ | exact ih6 _ | exact ih7 _ | exact ih8 _ | exact ih9 _ | exact ih10 _ | exact ih11 _ | exact ih12 _ | exact ih13 _ _ _ _ | exact ih14 _ _ | exact ih15 _ _ | exact ih16 _ _ | exact ih17 _ _ _ | exact ih18 _ _ | exact ih19 _ _ | exact R0 fu _ _ | exact E1 fu _ _ | exact Z0 fu _ | exact A1 fu _ | exact D1 fu _ | exact S0 fu _ | exact B1 fu _ | exact C1 fu _ | exact F1 fu _ | exact L0 _ | refine Le.bind ?_ (fun _=>?_) | refine Le.ite ?_ ?_ | (rename_i x; cases x))
  ·rw [Aa,U3]
   repeat (first | exact Le.rfl | exact ih0 _ | exact ih1 _ | exact ih2 _ | exact ih3 _ | exact ih4 _ | exact ih5 _ | exact ih6 _ | exact ih7 _ | exact ih8 _ | exact ih9 _ | exact ih10 _ | exact ih11 _ | exact ih12 _ | exact ih13 _ _ _ _ | exact ih14 _ _ | exact ih15 _ _ | exact ih16 _ _ | exact ih17 _ _ _ | exact ih18 _ _ | exact ih19 _ _ | exact R0 fu _ _ | exact E1 fu _ _ | exact Z0 fu _ | exact A1 fu _ | exact D1 fu _ | exact S0 fu _ | exact B1 fu _ | exact C1 fu _ | exact F1 fu _ | exact L0 _ | refine Le.bind ?_ (fun _=>?_) | refine Le.ite ?_ ?_ | (rename_i x; cases x))
  ·rw [T9,Z5]
   repeat (first | exact Le.rfl | exact ih0 _ | exact ih1 _ | exact ih2 _ | exact ih3 _ | exact ih4 _ | exact ih5 _ | exact ih6 _ | exact ih7 _ | exact ih8 _ | exact ih9 _ | exact ih10 _ | exact ih11 _ | exact ih12 _ | exact ih13 _ _ _ _ | exact ih14 _ _ | exact ih15 _ _ | exact ih16 _ _ | exact ih17 _ _ _ | exact ih18 _ _ | exact ih19 _ _ | exact R0 fu _ _ | exact E1 fu _ _ | exact Z0 fu _ | exact A1 fu _ | exact D1 fu _ | exact S0 fu _ | exact B1 fu _ | exact C1 fu _ | exact F1 fu _ | exact L0 _ | refine Le.bind ?_ (fun _=>?_) | refine Le.ite ?_ ?_ | (rename_i x; cases x))
  ·rw [F6,N2]
   repeat (first | exact Le.rfl | exact ih0 _ | exact ih1 _ | exact ih2 _ | exact ih3 _ | exact ih4 _ | exact ih5 _ | exact ih6 _ | exact ih7 _ | exact ih8 _ | exact ih9 _ | exact ih10 _ | exact ih11 _ | exact ih12 _ | exact ih13 _ _ _ _ | exact ih14 _ _ | exact ih15 _ _ | exact ih16 _ _ | exact ih17 _ _ _ | exact ih18 _ _ | exact ih19 _ _ | exact R0 fu _ _ | exact E1 fu _ _ | exact Z0 fu _ | exact A1 fu _ | exact D1 fu _ | exact S0 fu _ | exact B1 fu _ | exact C1 fu _ | exact F1 fu _ | exact L0 _ | refine Le.bind ?_ (fun _=>?_) | refine Le.ite ?_ ?_ | (rename_i x; cases x))
  ·rw [Ba,J3]
   repeat (first | exact Le.rfl | exact ih0 _ | exact ih1 _ | exact ih2 _ | exact ih3 _ | exact ih4 _ | exact ih5 _ | exact ih6 _ | exact ih7 _ | exact ih8 _ | exact ih9 _ | exact ih10 _ | exact ih11 _ | exact ih12 _ | exact ih13 _ _ _ _ | exact ih14 _ _ | exact ih15 _ _ | exact ih16 _ _ | exact ih17 _ _ _ | exact ih18 _ _ | exact ih19 _ _ | exact R0 fu _ _ | exact E1 fu _ _ | exact Z0 fu _ | exact A1 fu _ | exact D1 fu _ | exact S0 fu _ | exact B1 fu _ | exact C1 fu _ | exact F1 fu _ | exact L0 _ | refine Le.bind ?_ (fun _=>?_) | refine Le.ite ?_ ?_ | (rename_i x; cases x))
  ·rw [U9,A6]
   repeat (first | exact Le.rfl | exact ih0 _ | exact ih1 _ | exact ih2 _ | exact ih3 _ | exact ih4 _ | exact ih5 _ | exact ih6 _ | exact ih7 _ | exact ih8 _ | exact ih9 _ | exact ih10 _ | exact ih11 _ | exact ih12 _ | exact ih13 _ _ _ _ | exact ih14 _ _ | exact ih15 _ _ | exact ih16 _ _ | exact ih17 _ _ _ | exact ih18 _ _ | exact ih19 _ _ | exact R0 fu _ _ | exact E1 fu _ _ | exact Z0 fu _ | exact A1 fu _ | exact D1 fu _ | exact S0 fu _ | exact B1 fu _ | exact C1 fu _ | exact F1 fu _ | exact L0 _ | refine Le.bind ?_ (fun _=>?_) | refine Le.ite ?_ ?_ | (rename_i x; cases x))
  ·rw [I7,X2]
   repeat (first | exact Le.rfl | exact ih0 _ | exact ih1 _ | exact ih2 _ | exact ih3 _ | exact ih4 _ | exact ih5 _ | exact ih6 _ | exact ih7 _ | exact ih8 _ | exact ih9 _ | exact ih10 _ | exact ih11 _ | exact ih12 _ | exact ih13 _ _ _ _ | exact ih14 _ _ | exact ih15 _ _ | exact ih16 _ _ | exact ih17 _ _ _ | exact ih18 _ _ | exact ih19 _ _ | exact R0 fu _ _ | exact E1 fu _ _ | exact Z0 fu _ | exact A1 fu _ | exact D1 fu _ | exact S0 fu _ | exact B1 fu _ | exact C1 fu _ | exact F1 fu _ | exact L0 _ | refine Le.bind ?_ (fun _=>?_) | refine Le.ite ?_ ?_ | (rename_i x; cases x))
  ·rw [V9,B6]
   repeat (first | exact Le.rfl | exact ih0 _ | exact ih1 _ | exact ih2 _ | exact ih3 _ | exact ih4 _ | exact ih5 _ | exact ih6 _ | exact ih7 _ | exact ih8 _ | exact ih9 _ | exact ih10 _ | exact ih11 _ | exact ih12 _ | exact ih13 _ _ _ _ | exact ih14 _ _ | exact ih15 _ _ | exact ih16 _ _ | exact ih17 _ _ _ | exact ih18 _ _ | exact ih19 _ _ | exact R0 fu _ _ | exact E1 fu _ _ | exact Z0 fu _ | exact A1 fu _ | exact D1 fu _ | exact S0 fu _ | exact B1 fu _ | exact C1 fu _ | exact F1 fu _ | exact L0 _ | refine Le.bind ?_ (fun _=>?_) | refine Le.ite ?_ ?_ | (rename_i x; cases x))
  ·rw [W4,F2]
   repeat (first | exact Le.rfl | exact ih0 _ | exact ih1 _ | exact ih2 _ | exact ih3 _ | exact ih4 _ | exact ih5 _ | exact ih6 _ | exact ih7 _ | exact ih8 _ | exact ih9 _ | exact ih10 _ | exact ih11 _ | exact ih12 _ | exact ih13 _ _ _ _ | exact ih14 _ _ | exact ih15 _ _ | exact ih16 _ _ | exact ih17 _ _ _ | exact ih18 _ _ | exact ih19 _ _ | exact R0 fu _ _ | exact E1 fu _ _ | exact Z0 fu _ | exact A1 fu _ | exact D1 fu _ | exact S0 fu _ | exact B1 fu _ | exact C1 fu _ | exact F1 fu _ | exact L0 _ | refine Le.bind ?_ (fun _=>?_) | refine Le.ite ?_ ?_ | (rename_i x; cases x))
  ·rw [Ca,T4]
   repeat (first | exact Le.rfl | exact ih0 _ | exact ih1 _ | exact ih2 _ | exact ih3 _ | exact ih4 _ | exact ih5 _ | exact ih6 _ | exact ih7 _ | exact ih8 _ | exact ih9 _ | exact ih10 _ | exact ih11 _ | exact ih12 _ | exact ih13 _ _ _ _ | exact ih14 _ _ | exact ih15 _ _ | exact ih16 _ _ | exact ih17 _ _ _ | exact ih18 _ _ | exact ih19 _ _ | exact R0 fu _ _ | exact E1 fu _ _ | exact Z0 fu _ | exact A1 fu _ | exact D1 fu _ | exact S0 fu _ | exact B1 fu _ | exact C1 fu _ | exact F1 fu _ | exact L0 _ | refine Le.bind ?_ (fun _=>?_) | refine Le.ite ?_ ?_ | (rename_i x; cases x))
  ·rw [Qb,N4]
   repeat (first | exact Le.rfl | exact ih0 _ | exact ih1 _ | exact ih2 _ | exact ih3 _ | exact ih4 _ | exact ih5 _ | exact ih6 _ | exact ih7 _ | exact ih8 _ | exact ih9 _ | exact ih10 _ | exact ih11 _ | exact ih12 _ | exact ih13 _ _ _ _ | exact ih14 _ _ | exact ih15 _ _ | exact ih16 _ _ | exact ih17 _ _ _ | exact ih18 _ _ | exact ih19 _ _ | exact R0 fu _ _ | exact E1 fu _ _ | exact Z0 fu _ | exact A1 fu _ | exact D1 fu _ | exact S0 fu _ | exact B1 fu _ | exact C1 fu _ | exact F1 fu _ | exact L0 _ | refine Le.bind ?_ (fun _=>?_) | refine Le.ite ?_ ?_ | (rename_i x; cases x))
  ·rw [G5,T2]
   repeat (first | exact Le.rfl | exact ih0 _ | exact ih1 _ | exact ih2 _ | exact ih3 _ | exact ih4 _ | exact ih5 _ | exact ih6 _ | exact ih7 _ | exact ih8 _ | exact ih9 _ | exact ih10 _ | exact ih11 _ | exact ih12 _ | exact ih13 _ _ _ _ | exact ih14 _ _ | exact ih15 _ _ | exact ih16 _ _ | exact ih17 _ _ _ | exact ih18 _ _ | exact ih19 _ _ | exact R0 fu _ _ | exact E1 fu _ _ | exact Z0 fu _ | exact A1 fu _ | exact D1 fu _ | exact S0 fu _ | exact B1 fu _ | exact C1 fu _ | exact F1 fu _ | exact L0 _ | refine Le.bind ?_ (fun _=>?_) | refine Le.ite ?_ ?_ | (rename_i x; cases x))
  ·rw [C9,B5]
   repeat (first | exact Le.rfl | exact ih0 _ | exact ih1 _ | exact ih2 _ | exact ih3 _ | exact ih4 _ | exact ih5 _ | exact ih6 _ | exact ih7 _ | exact ih8 _ | exact ih9 _ | exact ih10 _ | exact ih11 _ | exact ih12 _ | exact ih13 _ _ _ _ | exact ih14 _ _ | exact ih15 _ _ | exact ih16 _ _ | exact ih17 _ _ _ | exact ih18 _ _ | exact ih19 _ _ | exact R0 fu _ _ | exact E1 fu _ _ | exact Z0 fu _ | exact A1 fu _ | exact D1 fu _ | exact S0 fu _ | exact B1 fu _ | exact C1 fu _ | exact F1 fu _ | exact L0 _ | refine Le.bind ?_ (fun _=>?_) | refine Le.ite ?_ ?_ | (rename_i x; cases x))
  ·rw [T5,B2]
   repeat (first | exact Le.rfl | exact ih0 _ | exact ih1 _ | exact ih2 _ | exact ih3 _ | exact ih4 _ | exact ih5 _ | exact ih6 _ | exact ih7 _ | exact ih8 _ | exact ih9 _ | exact ih10 _ | exact ih11 _ | exact ih12 _ | exact ih13 _ _ _ _ | exact ih14 _ _ | exact ih15 _ _ | exact ih16 _ _ | exact ih17 _ _ _ | exact ih18 _ _ | exact ih19 _ _ | exact R0 fu _ _ | exact E1 fu _ _ | exact Z0 fu _ | exact A1 fu _ | exact D1 fu _ | exact S0 fu _ | exact B1 fu _ | exact C1 fu _ | exact F1 fu _ | exact L0 _ | refine Le.bind ?_ (fun _=>?_) | refine Le.ite ?_ ?_ | (rename_i x; cases x))
  ·rw [U5,A2]
   repeat (first | exact Le.rfl | exact ih0 _ | exact ih1 _ | exact ih2 _ | exact ih3 _ | exact ih4 _ | exact ih5 _ | exact ih6 _ | exact ih7 _ | exact ih8 _ | exact ih9 _ | exact ih10 _ | exact ih11 _ | exact ih12 _ | exact ih13 _ _ _ _ | exact ih14 _ _ | exact ih15 _ _ | exact ih16 _ _ | exact ih17 _ _ _ | exact ih18 _ _ | exact ih19 _ _ | exact R0 fu _ _ | exact E1 fu _ _ | exact Z0 fu _ | exact A1 fu _ | exact D1 fu _ | exact S0 fu _ | exact B1 fu _ | exact C1 fu _ | exact F1 fu _ | exact L0 _ | refine Le.bind ?_ (fun _=>?_) | refine Le.ite ?_ ?_ | (rename_i x; cases x))
  ·rw [D2,X0]
   repeat (first | exact Le.rfl | exact ih0 _ | exact ih1 _ | exact ih2 _ | exact ih3 _ | exact ih4 _ | exact ih5 _ | exact ih6 _ | exact ih7 _ | exact ih8 _ | exact ih9 _ | exact ih10 _ | exact ih11 _ | exact ih12 _ | exact ih13 _ _ _ _ | exact ih14 _ _ | exact ih15 _ _ | exact ih16 _ _ | exact ih17 _ _ _ | exact ih18 _ _ | exact ih19 _ _ | exact R0 fu _ _ | exact E1 fu _ _ | exact Z0 fu _ | exact A1 fu _ | exact D1 fu _ | exact S0 fu _ | exact B1 fu _ | exact C1 fu _ | exact F1 fu _ | exact L0 _ | refine Le.bind ?_ (fun _=>?_) | refine Le.ite ?_ ?_ | (rename_i x; cases x))
  ·rw [V5,Z1]
   repeat (first | exact Le.rfl | exact ih0 _ | exact ih1 _ | exact ih2 _ | exact ih3 _ | exact ih4 _ | exact ih5 _ | exact ih6 _ | exact ih7 _ | exact ih8 _ | exact ih9 _ | exact ih10 _ | exact ih11 _ | exact ih12 _ | exact ih13 _ _ _ _ | exact ih14 _ _ | exact ih15 _ _ | exact ih16 _ _ | exact ih17 _ _ _ | exact ih18 _ _ | exact ih19 _ _ | exact R0 fu _ _ | exact E1 fu _ _ | exact Z0 fu _ | exact A1 fu _ | exact D1 fu _ | exact S0 fu _ | exact B1 fu _ | exact C1 fu _ | exact F1 fu _ | exact L0 _ | refine Le.bind ?_ (fun _=>?_) | refine Le.ite ?_ ?_ | (rename_i x; cases x))
  ·rw [A7,L2]
   repeat (first | exact Le.rfl | exact ih0 _ | exact ih1 _ | exact ih2 _ | exact ih3 _ | exact ih4 _ | exact ih5 _ | exact ih6 _ | exact ih7 _ | exact ih8 _ | exact ih9 _ | exact ih10 _ | exact ih11 _ | exact ih12 _ | exact ih13 _ _ _ _ | exact ih14 _ _ | exact ih15 _ _ | exact ih16 _ _ | exact ih17 _ _ _ | exact ih18 _ _ | exact ih19 _ _ | exact R0 fu _ _ | exact E1 fu _ _ | exact Z0 fu _ | exact A1 fu _ | exact D1 fu _ | exact S0 fu _ | exact B1 fu _ | exact C1 fu _ | exact F1 fu _ | exact L0 _ | refine Le.bind ?_ (fun _=>?_) | refine Le.ite ?_ ?_ | (rename_i x; cases x))
theorem Zh (fu:Nat)(parserParser:B0):Le (W1 fu parserParser) (O0 parserParser):=(Tg fu).1 parserParser
def Hc (fu:Nat)(parserParser:B0)(apiExpr:A0):Option (Pn (B0×A0)):=
 W1 fu parserParser>>=fun x1=>match x1 with
 | .pn nn=>
 some (.pn nn)
 | .ok x1=>
 some (.ok (x1.2,x1.1))
theorem Zm (fu:Nat)(parserParser:B0)(apiExpr:A0):Le (Hc fu parserParser apiExpr) (L6 parserParser apiExpr):=by
 unfold Hc L6
 repeat (first | exact Le.rfl | exact Zh fu _ | exact L0 _ | refine Le.bind ?_ (fun _=>?_) | refine Le.ite ?_ ?_ | (rename_i x; cases x))
def Ii (fu:Nat)(text:Str)(apiExpr:A0):Option (Int×Int×A0):=
 Ql fu text>>=fun x1=>
 if (x1.2.2 != 0)=true then
  some (x1.2.1,x1.2.2,apiExpr)
 else
  Hc fu (B0.mk x1.1 0 ((text).length:Int)) apiExpr>>=fun x2=>match x2 with
  | .pn nn=>
  some (nn,6,apiExpr)
  | .ok x2=>
  if (decide (x2.1.next < ((x2.1.tokens).length:Int)))=true then
   Z6 fu x2.1>>=fun x3=>match x3 with
   | .pn nn=>
   some (nn,6,x2.2)
   | .ok x3=>
   some (0,0,x2.2)
  else
   some (0,0,x2.2)
theorem Rw (fu:Nat)(text:Str)(apiExpr:A0):Le (Ii fu text apiExpr) (Uc text apiExpr):=by
 unfold Ii Uc
 repeat (first | exact Le.rfl | exact A10 fu _ | exact Zm fu _ _ | exact Lb fu _ | exact L0 _ | refine Le.bind ?_ (fun _=>?_) | refine Le.ite ?_ ?_ | (rename_i x; cases x))
def Ic (fu:Nat)(d:Int)(syntaxReport:I0):Option I0:=
 some (I0.mk syntaxReport.nodes (max syntaxReport.depth d) syntaxReport.badForm syntaxReport.badName syntaxReport.badNumber)
theorem R6 (fu:Nat)(d:Int)(syntaxReport:I0):Le (Ic fu d syntaxReport) (M6 d syntaxReport):=by
 unfold Ic M6
 repeat (first | exact Le.rfl | exact L0 _ | refine Le.bind ?_ (fun _=>?_) | refine Le.ite ?_ ?_ | (rename_i x; cases x))
def R8 (fu:Nat)(op:Int)(v9:Bool):Option Int:=
 if v9=true then
  some 1
 else
  if (op == 5)=true then
   some 2
  else
   if (op == 23)=true then
    some 3
   else
    if (bif (decide (op≥8)) then (decide (op≤22)) else false)=true then
     some 2
    else
     some (-1)
theorem Uq (fu:Nat)(op:Int)(v9:Bool):Le (R8 fu op v9) (N5 op v9):=by
 unfold R8 N5
 repeat (first | exact Le.rfl | exact L0 _ | refine Le.bind ?_ (fun _=>?_) | refine Le.ite ?_ ?_ | (rename_i x; cases x))
def E7 (fu:Nat)(op:Int)(v4:Bool):Option Int:=
 if v4=true then
  some 0
 else
  if (op == 4)=true then
   R8 fu op (op == 4)
  else
   if (op == 6)=true then
    R8 fu op (op == 6)
   else
    R8 fu op (op == 7)
theorem Vq (fu:Nat)(op:Int)(v4:Bool):Le (E7 fu op v4) (O4 op v4):=by
 unfold E7 O4
 repeat (first | exact Le.rfl | exact Uq fu _ _ | exact L0 _ | refine Le.bind ?_ (fun _=>?_) | refine Le.ite ?_ ?_ | (rename_i x; cases x))
def Ug (fu:Nat)(op:Int):Option Int:=
 if (op == 0)=true then
  E7 fu op (op == 0)
 else
  if (op == 1)=true then
   E7 fu op (op == 1)
  else
   if (op == 2)=true then
    E7 fu op (op == 2)
   else
    E7 fu op (op == 3)
theorem La (fu:Nat)(op:Int):Le (Ug fu op) (M9 op):=by
 unfold Ug M9
 repeat (first | exact Le.rfl | exact Vq fu _ _ | exact L0 _ | refine Le.bind ?_ (fun _=>?_) | refine Le.ite ?_ ?_ | (rename_i x; cases x))
def K5 (fu:Nat)(ok:Bool)(syntaxReport:I0):Option I0:=
 some (I0.mk syntaxReport.nodes syntaxReport.depth (bif syntaxReport.badForm then true else (!ok)) syntaxReport.badName syntaxReport.badNumber)
theorem S6 (fu:Nat)(ok:Bool)(syntaxReport:I0):Le (K5 fu ok syntaxReport) (E3 ok syntaxReport):=by
 unfold K5 E3
 repeat (first | exact Le.rfl | exact L0 _ | refine Le.bind ?_ (fun _=>?_) | refine Le.ite ?_ ?_ | (rename_i x; cases x))
def S8:Nat→A0→Option Bool
 | 0,_=>none
 | fu+1,o0=>
  if (bif (o0.Op == 4) then true else (o0.Op == 5))=true then
   if (((o0.Kids).length:Int) == 0)=true then
    some false
   else
    idx o0.Kids 0>>=fun x1=>
    S8 fu x1
  else
   some (o0.Op == 3)
theorem Jp (fu:Nat):(∀ (o0:A0),Le (S8 fu o0) (P4 o0)):=by
 induction fu with
 | zero=>exact fun _=>Le.none
 | succ fu ih=>
  have ih0:=ih
  refine fun o0=>?_
  ·rw [S8,P4]
   repeat (first | exact Le.rfl | exact ih0 _ | exact L0 _ | refine Le.bind ?_ (fun _=>?_) | refine Le.ite ?_ ?_ | (rename_i x; cases x))
theorem Wq (fu:Nat)(o0:A0):Le (S8 fu o0) (P4 o0):=(Jp fu) o0
def Vg (fu:Nat)(e:A0):Option Bool:=
 S8 fu e
theorem Ma (fu:Nat)(e:A0):Le (Vg fu e) (N9 e):=by
 unfold Vg N9
 repeat (first | exact Le.rfl | exact Wq fu _ | exact L0 _ | refine Le.bind ?_ (fun _=>?_) | refine Le.ite ?_ ?_ | (rename_i x; cases x))
def T8:Nat→Str→Int→Option Bool
 | 0,_,_=>none
 | fu+1,s,v6=>
  if (decide (v6 < ((s).length:Int)))=true then
   idx s v6>>=fun x1=>
   S9 fu (x1.toNat:Int)>>=fun x2=>
   (if ((!x2)&&(!(v6 == 0)))=true then idx s v6 else some default)>>=fun x3=>
   (if ((!x2)&&(!(v6 == 0)))=true then I8 fu (x3.toNat:Int) else some default)>>=fun x4=>
   if (bif (!x2) then (bif (v6 == 0) then true else (!x4)) else false)=true then
    some false
   else
    T8 fu s (IntKind.i64.wrap (v6+1))
  else
   some (!(s == []))
theorem Kp (fu:Nat):(∀ (s:Str) (v6:Int),Le (T8 fu s v6) (P3 s v6)):=by
 induction fu with
 | zero=>exact fun _ _=>Le.none
 | succ fu ih=>
  have ih0:=ih
  refine fun s v6=>?_
  ·rw [T8,P3]
   repeat (first | exact Le.rfl | exact ih0 _ _ | exact Ie fu _ | exact Ec fu _ | exact L0 _ | refine Le.bind ?_ (fun _=>?_) | refine Le.ite ?_ ?_ | (rename_i x; cases x))
theorem Xq (fu:Nat)(s:Str)(v6:Int):Le (T8 fu s v6) (P3 s v6):=(Kp fu) s v6
def Wg (fu:Nat)(s:Str):Option Bool:=
 T8 fu s 0
theorem Rv (fu:Nat)(s:Str):Le (Wg fu s) (Gb s):=by
 unfold Wg Gb
 repeat (first | exact Le.rfl | exact Xq fu _ _ | exact L0 _ | refine Le.bind ?_ (fun _=>?_) | refine Le.ite ?_ ?_ | (rename_i x; cases x))
def Xg (fu:Nat)(s:Str):Option Bool:=
 (if (decide (((s).length:Int)≤12))=true then Wg fu s else some default)>>=fun x1=>
 (if (bif (decide (((s).length:Int)≤12)) then x1 else false)=true then Fc fu s else some default)>>=fun x2=>
 some (bif (bif (decide (((s).length:Int)≤12)) then x1 else false) then (!x2) else false)
theorem Sv (fu:Nat)(s:Str):Le (Xg fu s) (Hb s):=by
 unfold Xg Hb
 repeat (first | exact Le.rfl | exact Rv fu _ | exact Yi fu _ | exact L0 _ | refine Le.bind ?_ (fun _=>?_) | refine Le.ite ?_ ?_ | (rename_i x; cases x))
def Yf (fu:Nat)(s:Str):Option Bool:=
 Xg fu s>>=fun x1=>
 some x1
theorem Rt (fu:Nat)(s:Str):Le (Yf fu s) (M8 s):=by
 unfold Yf M8
 repeat (first | exact Le.rfl | exact Sv fu _ | exact L0 _ | refine Le.bind ?_ (fun _=>?_) | refine Le.ite ?_ ?_ | (rename_i x; cases x))
def Jc (fu:Nat)(s:Str)(syntaxReport:I0):Option I0:=
 (if (!syntaxReport.badName)=true then Yf fu s else some default)>>=fun x1=>
 some (I0.mk syntaxReport.nodes syntaxReport.depth syntaxReport.badForm (bif syntaxReport.badName then true else (!x1)) syntaxReport.badNumber)
theorem T6 (fu:Nat)(s:Str)(syntaxReport:I0):Le (Jc fu s syntaxReport) (C5 s syntaxReport):=by
 unfold Jc C5
 repeat (first | exact Le.rfl | exact Rt fu _ | exact L0 _ | refine Le.bind ?_ (fun _=>?_) | refine Le.ite ?_ ?_ | (rename_i x; cases x))
def Zf (fu:Nat)(n:Int)(low:Int)(high:Int):Option Bool:=
 some (bif (decide (n≥low)) then (decide (n≤high)) else false)
theorem W9 (fu:Nat)(n:Int)(low:Int)(high:Int):Le (Zf fu n low high) (Da n low high):=by
 unfold Zf Da
 repeat (first | exact Le.rfl | exact L0 _ | refine Le.bind ?_ (fun _=>?_) | refine Le.ite ?_ ?_ | (rename_i x; cases x))
def Xa (fu:Nat)(ok:Bool)(syntaxReport:I0):Option I0:=
 some (I0.mk syntaxReport.nodes syntaxReport.depth syntaxReport.badForm syntaxReport.badName (bif syntaxReport.badNumber then true else (!ok)))
theorem L5 (fu:Nat)(ok:Bool)(syntaxReport:I0):Le (Xa fu ok syntaxReport) (E4 ok syntaxReport):=by
 unfold Xa E4
 repeat (first | exact Le.rfl | exact L0 _ | refine Le.bind ?_ (fun _=>?_) | refine Le.ite ?_ ?_ | (rename_i x; cases x))
mutual
def B7:Nat→A0→Int→I0→Option I0
 | 0,_,_,_=>none
 | fu+1,e,depth,syntaxReport=>
  Ic fu depth (I0.mk (IntKind.i64.wrap (syntaxReport.nodes+1)) syntaxReport.depth syntaxReport.badForm syntaxReport.badName syntaxReport.badNumber)>>=fun x1=>
  Ug fu e.Op>>=fun x2=>
  K5 fu (x2 == ((e.Kids).length:Int)) x1>>=fun x3=>
  K5 fu (bif (e.NV == 0) then true else (e.Op == 0)) x3>>=fun x4=>
  K5 fu (bif (e.Name == []) then true else (bif (e.Op == 3) then true else (e.Op == 4))) x4>>=fun x5=>
  if (bif (e.Op == 4) then true else (e.Op == 5))=true then
   Vg fu e>>=fun x6=>
   K5 fu x6 x5>>=fun x7=>
   J7 fu e depth x7
  else
   J7 fu e depth x5
def J7:Nat→A0→Int→I0→Option I0
 | 0,_,_,_=>none
 | fu+1,e,depth,o0=>
  if (bif (e.Op == 3) then true else (e.Op == 4))=true then
   Jc fu e.Name o0>>=fun x8=>
   K7 fu e depth x8
  else
   K7 fu e depth o0
def K7:Nat→A0→Int→I0→Option I0
 | 0,_,_,_=>none
 | fu+1,e,depth,o01=>
  if (e.Op == 0)=true then
   Zf fu e.NV 0 1048576>>=fun x9=>
   Xa fu x9 o01>>=fun x10=>
   L7 fu e depth x10
  else
   L7 fu e depth o01
def L7:Nat→A0→Int→I0→Option I0
 | 0,_,_,_=>none
 | fu+1,e,depth,o02=>
  M7 fu e depth o02 0
def M7:Nat→A0→Int→I0→Int→Option I0
 | 0,_,_,_,_=>none
 | fu+1,e,depth,o03,v82=>
  if (decide (v82 < ((e.Kids).length:Int)))=true then
   idx e.Kids v82>>=fun x11=>
   B7 fu x11 (IntKind.i64.wrap (depth+1)) o03>>=fun x12=>
   M7 fu e depth x12 (IntKind.i64.wrap (v82+1))
  else
   some o03
end
theorem Rl (fu:Nat):(∀ (e:A0) (depth:Int) (syntaxReport:I0),Le (B7 fu e depth syntaxReport) (V2 e depth syntaxReport))∧(∀ (e:A0) (depth:Int) (o0:I0),Le (J7 fu e depth o0) (X3 e depth o0))∧(∀ (e:A0) (depth:Int) (o01:I0),Le (K7 fu e depth o01) (U4 e depth o01))∧(∀ (e:A0) (depth:Int) (o02:I0),Le (L7 fu e depth o02) (V4 e depth o02))∧(∀ (e:A0) (depth:Int) (o03:I0) (v82:Int),Le (M7 fu e depth o03 v82) (P2 e depth o03 v82)):=by
 induction fu with
 | zero=>exact ⟨fun _ _ _=>Le.none,fun _ _ _=>Le.none,fun _ _ _=>Le.none,fun _ _ _=>Le.none,fun _ _ _ _=>Le.none⟩
 | succ fu ih=>
  obtain ⟨ih0,ih1,ih2,ih3,ih4⟩:=ih
  refine ⟨fun e depth syntaxReport=>?_,fun e depth o0=>?_,fun e depth o01=>?_,fun e depth o02=>?_,fun e depth o03 v82=>?_⟩
  ·rw [B7,V2]
   repeat (first | exact Le.rfl | exact ih0 _ _ _ | exact ih1 _ _ _ | exact ih2 _ _ _ | exact ih3 _ _ _ | exact ih4 _ _ _ _ | exact R6 fu _ _ | exact La fu _ | exact S6 fu _ _ | exact Ma fu _ | exact T6 fu _ _ | exact W9 fu _ _ _ | exact L5 fu _ _ | exact L0 _ | refine Le.bind ?_ (fun _=>?_) | refine Le.ite ?_ ?_ | (rename_i x; cases x))
  ·rw [J7,X3]
   repeat (first | exact Le.rfl | exact ih0 _ _ _ | exact ih1 _ _ _ | exact ih2 _ _ _ | exact ih3 _ _ _ | exact ih4 _ _ _ _ | exact R6 fu _ _ | exact La fu _ | exact S6 fu _ _ | exact Ma fu _ | exact T6 fu _ _ | exact W9 fu _ _ _ | exact L5 fu _ _ | exact L0 _ | refine Le.bind ?_ (fun _=>?_) | refine Le.ite ?_ ?_ | (rename_i x; cases x))
  ·rw [K7,U4]
   repeat (first | exact Le.rfl | exact ih0 _ _ _ | exact ih1 _ _ _ | exact ih2 _ _ _ | exact ih3 _ _ _ | exact ih4 _ _ _ _ | exact R6 fu _ _ | exact La fu _ | exact S6 fu _ _ | exact Ma fu _ | exact T6 fu _ _ | exact W9 fu _ _ _ | exact L5 fu _ _ | exact L0 _ | refine Le.bind ?_ (fun _=>?_) | refine Le.ite ?_ ?_ | (rename_i x; cases x))
  ·rw [L7,V4]
   repeat (first | exact Le.rfl | exact ih0 _ _ _ | exact ih1 _ _ _ | exact ih2 _ _ _ | exact ih3 _ _ _ | exact ih4 _ _ _ _ | exact R6 fu _ _ | exact La fu _ | exact S6 fu _ _ | exact Ma fu _ | exact T6 fu _ _ | exact W9 fu _ _ _ | exact L5 fu _ _ | exact L0 _ | refine Le.bind ?_ (fun _=>?_) | refine Le.ite ?_ ?_ | (rename_i x; cases x))
  ·rw [M7,P2]
   repeat (first | exact Le.rfl | exact ih0 _ _ _ | exact ih1 _ _ _ | exact ih2 _ _ _ | exact ih3 _ _ _ | exact ih4 _ _ _ _ | exact R6 fu _ _ | exact La fu _ | exact S6 fu _ _ | exact Ma fu _ | exact T6 fu _ _ | exact W9 fu _ _ _ | exact L5 fu _ _ | exact L0 _ | refine Le.bind ?_ (fun _=>?_) | refine Le.ite ?_ ?_ | (rename_i x; cases x))
theorem An (fu:Nat)(e:A0)(depth:Int)(syntaxReport:I0):Le (B7 fu e depth syntaxReport) (V2 e depth syntaxReport):=(Rl fu).1 e depth syntaxReport
def Kc (fu:Nat)(syntaxReport:I0):Option Int:=
 if (bif (decide (syntaxReport.nodes > 1024)) then true else (decide (syntaxReport.depth > 12)))=true then
  some 4
 else
  if syntaxReport.badForm=true then
   some 1
  else
   if syntaxReport.badName=true then
    some 7
   else
    if syntaxReport.badNumber=true then
     some 3
    else
     some 0
theorem Bn (fu:Nat)(syntaxReport:I0):Le (Kc fu syntaxReport) (D5 syntaxReport):=by
 unfold Kc D5
 repeat (first | exact Le.rfl | exact L0 _ | refine Le.bind ?_ (fun _=>?_) | refine Le.ite ?_ ?_ | (rename_i x; cases x))
def Xd (fu:Nat)(e:A0):Option Int:=
 B7 fu e 1 (I0.mk 0 0 false false false)>>=fun x1=>
 Kc fu x1>>=fun x2=>
 some x2
theorem Lp (fu:Nat)(e:A0):Le (Xd fu e) (I6 e):=by
 unfold Xd I6
 repeat (first | exact Le.rfl | exact An fu _ _ _ | exact Bn fu _ | exact L0 _ | refine Le.bind ?_ (fun _=>?_) | refine Le.ite ?_ ?_ | (rename_i x; cases x))
def Na (fu:Nat)(text:Str):Option (A0×Int×Int):=
 Ii fu text (A0.mk 0 0 [] [])>>=fun x1=>
 if (x1.2.1 != 0)=true then
  some ((A0.mk 0 0 [] []),x1.1,x1.2.1)
 else
  Xd fu x1.2.2>>=fun x2=>
  if (x2 != 0)=true then
   some ((A0.mk 0 0 [] []),0,x2)
  else
   some (x1.2.2,0,0)
theorem Mp (fu:Nat)(text:Str):Le (Na fu text) (F4 text):=by
 unfold Na F4
 repeat (first | exact Le.rfl | exact Rw fu _ _ | exact Lp fu _ | exact L0 _ | refine Le.bind ?_ (fun _=>?_) | refine Le.ite ?_ ?_ | (rename_i x; cases x))
def Yd (fu:Nat)(s:Str):Option A0:=
 some (A0.mk 3 0 s [])
theorem Gy (fu:Nat)(s:Str):Le (Yd fu s) (Cc s):=by
 unfold Yd Cc
 repeat (first | exact Le.rfl | exact L0 _ | refine Le.bind ?_ (fun _=>?_) | refine Le.ite ?_ ?_ | (rename_i x; cases x))
mutual
def U8:Nat→A0→A0→Option Bool
 | 0,_,_=>none
 | fu+1,a,b=>
  if (bif (bif (bif (a.Op != b.Op) then true else (a.NV != b.NV)) then true else (!(a.Name == b.Name))) then true else (((a.Kids).length:Int) != ((b.Kids).length:Int)))=true then
   some false
  else
   D9 fu a b 0
def D9:Nat→A0→A0→Int→Option Bool
 | 0,_,_,_=>none
 | fu+1,a,b,i=>
  if (decide (i < ((a.Kids).length:Int)))=true then
   idx a.Kids i>>=fun x1=>
   idx b.Kids i>>=fun x2=>
   U8 fu x1 x2>>=fun x3=>
   if (!x3)=true then
    some false
   else
    D9 fu a b (IntKind.i64.wrap (i+1))
  else
   some true
end
theorem Np (fu:Nat):(∀ (a:A0) (b:A0),Le (U8 fu a b) (Y2 a b))∧(∀ (a:A0) (b:A0) (i:Int),Le (D9 fu a b i) (D4 a b i)):=by
 induction fu with
 | zero=>exact ⟨fun _ _=>Le.none,fun _ _ _=>Le.none⟩
 | succ fu ih=>
  obtain ⟨ih0,ih1⟩:=ih
  refine ⟨fun a b=>?_,fun a b i=>?_⟩
  ·rw [U8,Y2]
   repeat (first | exact Le.rfl | exact ih0 _ _ | exact ih1 _ _ _ | exact L0 _ | refine Le.bind ?_ (fun _=>?_) | refine Le.ite ?_ ?_ | (rename_i x; cases x))
  ·rw [D9,D4]
   repeat (first | exact Le.rfl | exact ih0 _ _ | exact ih1 _ _ _ | exact L0 _ | refine Le.bind ?_ (fun _=>?_) | refine Le.ite ?_ ?_ | (rename_i x; cases x))
theorem Yq (fu:Nat)(a:A0)(b:A0):Le (U8 fu a b) (Y2 a b):=(Np fu).1 a b
def Ko (fu:Nat):Option Bool:=
 Na fu [97,32,45,32,98,32,45,32,99,91,49,93,46,100]>>=fun x1=>
 Yd fu [99]>>=fun x2=>
 Yd fu [97]>>=fun x3=>
 Yd fu [98]>>=fun x4=>
 Na fu [97,32,61,61,32,98,32,61,61,32,99]>>=fun x5=>
 (if (x1.2.2 == 0)=true then U8 fu x1.1 (A0.mk 9 0 [] [(A0.mk 9 0 [] [x3,x4]),(A0.mk 4 0 [100] [(A0.mk 5 0 [] [x2,(A0.mk 0 1 [] [])])])]) else some default)>>=fun x6=>
 some (bif (bif (bif (x1.2.2 == 0) then x6 else false) then (x5.2.2 == 6) else false) then (x5.2.1 == 7) else false)
theorem Sw (fu:Nat):Le (Ko fu ) (Ua ):=by
 unfold Ko Ua
 repeat (first | exact Le.rfl | exact Mp fu _ | exact Gy fu _ | exact Yq fu _ _ | exact L0 _ | refine Le.bind ?_ (fun _=>?_) | refine Le.ite ?_ ?_ | (rename_i x; cases x))
end Go.Proofs.YtmnhfbekncjnfaaGreatDoor

