/- A part of the proof of ParserParses. -/
import Derived.Test.YtmnhfbekncjnfaaGreatDoorDgA
set_option maxRecDepth 100000
set_option maxHeartbeats 4000000
set_option synthInstance.maxSize 20000
set_option linter.unusedVariables false
namespace Go.Proofs.YtmnhfbekncjnfaaGreatDoor
open Go.Am
def On (s:Str)(atV:Int):Option (K0×Int):=
 Wl s atV>>=fun x1=>
 idx s atV>>=fun x2=>
 Og (x2.toNat:Int)>>=fun x3=>
 if x3=true then
  slc s atV x1>>=fun x4=>
  Eg x4>>=fun x5=>
  if x5=true then
   some ((K0.mk 2 x4 atV),0)
  else
   if (decide (((x4).length:Int) > 12))=true then
    some ((K0.mk 0 [] 0),7)
   else
    some ((K0.mk 0 x4 atV),0)
 else
  idx s atV>>=fun x6=>
  El (x6.toNat:Int)>>=fun x7=>
  if x7=true then
   slc s atV x1>>=fun x8=>
   Xl x8>>=fun x9=>
   if (x9 != 0)=true then
    some ((K0.mk 0 [] 0),x9)
   else
    slc s atV x1>>=fun x10=>
    some ((K0.mk 1 x10 atV),0)
  else
   (if (decide ((IntKind.i64.wrap (atV+2))≤((s).length:Int)))=true then slc s atV (IntKind.i64.wrap (atV+2)) else some default)>>=fun x11=>
   (if (decide ((IntKind.i64.wrap (atV+2))≤((s).length:Int)))=true then Sc x11 else some default)>>=fun x12=>
   if (bif (decide ((IntKind.i64.wrap (atV+2))≤((s).length:Int))) then x12 else false)=true then
    slc s atV (IntKind.i64.wrap (atV+2))>>=fun x13=>
    some ((K0.mk 3 x13 atV),0)
   else
    slc s atV (IntKind.i64.wrap (atV+1))>>=fun x14=>
    Sc x14>>=fun x15=>
    if x15=true then
     slc s atV (IntKind.i64.wrap (atV+1))>>=fun x16=>
     some ((K0.mk 3 x16 atV),0)
    else
     some ((K0.mk 0 [] 0),6)
theorem S1d {s atV res}(hh:On s atV=some res):O0 C 56 [.d (.str s),.d (.int .i64 atV)] [] (Ret [] (.tup [.agg (K0.cells res.1),.d (.int .i64 res.2)])):=by
 unfold On at hh
 obtain ⟨x1,hx1,hh⟩:=bs' hh
 obtain ⟨x2,hx2,hh⟩:=bs' hh
 obtain ⟨x3,hx3,hh⟩:=bs' hh
 refine O0.intro hC Tryz.func56 rfl rfl rfl (s' rfl rfl (F0.n hC rfl (e' rfl (p' 2 rfl (c' (P16 hx1) rfl rfl (e' rfl (S' (p' 2 rfl (x' rfl (C1 hx2) (H5 hx2) (c' (Jl hx3) rfl rfl (n' (ci' rfl hh (fun hh=>?_) (fun hh=>?_)))))))))))))
 ·obtain ⟨x4,hx4,hh⟩:=bs' hh
  obtain ⟨x5,hx5,hh⟩:=bs' hh
  refine p' 3 rfl (F0.lx hC rfl hx4 (e' rfl (S' (p' 1 rfl (c' (Wu hx5) rfl rfl (n' (ci' rfl hh (fun hh=>?_) (fun hh=>?_))))))))
  ·cases hh
   exact p' 3 rfl (F0.s hC rfl (e' rfl (re' (rt' rfl rfl rfl))))
  refine sk' (S' (t' rfl (ci' rfl hh (fun hh=>?_) (fun hh=>?_))))
  ·cases hh
   exact p' 1 rfl (F0.s hC rfl (e' rfl (re' (rt' rfl rfl rfl))))
  cases hh
  exact sk' (p' 3 rfl (F0.s hC rfl (e' rfl (re' (rt' rfl rfl rfl)))))
 obtain ⟨x6,hx6,hh⟩:=bs' hh
 obtain ⟨x7,hx7,hh⟩:=bs' hh
 refine sk' (S' (p' 2 rfl (x' rfl (C1 hx6) (H5 hx6) (c' (Mr hx7) rfl rfl (n' (ci' rfl hh (fun hh=>?_) (fun hh=>?_)))))))
 ·obtain ⟨x8,hx8,hh⟩:=bs' hh
  obtain ⟨x9,hx9,hh⟩:=bs' hh
  refine p' 3 rfl (F0.lx hC rfl hx8 (c' (B1c hx9) rfl rfl (e' rfl (S' (t' rfl (ci' rfl hh (fun hh=>?_) (fun hh=>?_)))))))
  ·cases hh
   exact p' 2 rfl (F0.s hC rfl (e' rfl (re' (rt' rfl rfl rfl))))
  obtain ⟨x10,hx10,hh⟩:=bs' hh
  cases hh
  exact sk' (p' 3 rfl (F0.lx hC rfl hx10 (o' 2 rfl (F0.s hC rfl (e' rfl (re' (rt' rfl rfl rfl)))))))
 obtain ⟨x11,hx11,hh⟩:=bs' hh
 obtain ⟨x12,hx12,hh⟩:=bs' hh
 refine sk' (S' (sg' 13 rfl (G' 9 rfl (a1' rfl (AG.lx hC rfl rfl (fun hg=>⟨hg,hg,hg,trivial⟩) (fun hw=>(E1 hw hx11)) (AG.c rfl rfl (fun hg=>⟨hg,trivial⟩) (fun hw=>Py (E1 hw hx12)) (pa' rfl (an' (n' (ci' rfl hh (fun hh=>?_) (fun hh=>?_)))))))))))
 ·obtain ⟨x13,hx13,hh⟩:=bs' hh
  cases hh
  exact p' 4 rfl (F0.lx hC rfl hx13 (o' 2 rfl (F0.s hC rfl (e' rfl (re' (rt' rfl rfl rfl))))))
 obtain ⟨x14,hx14,hh⟩:=bs' hh
 obtain ⟨x15,hx15,hh⟩:=bs' hh
 refine sk' (S' (p' 4 rfl (F0.lx hC rfl hx14 (c' (Py hx15) rfl rfl (n' (ci' rfl hh (fun hh=>?_) (fun hh=>?_)))))))
 ·obtain ⟨x16,hx16,hh⟩:=bs' hh
  cases hh
  exact p' 4 rfl (F0.lx hC rfl hx16 (o' 2 rfl (F0.s hC rfl (e' rfl (re' (rt' rfl rfl rfl))))))
 cases hh
 exact sk' (p' 1 rfl (F0.s hC rfl (e' rfl (re' (rt' rfl rfl rfl)))))
def Pg (s:Str)(out:List K0)(atV:Int):Option (List K0×Int×Int):=
 if (decide (atV < ((s).length:Int)))=true then
  On s atV>>=fun x2=>
  if (x2.2 != 0)=true then
   some ([],atV,x2.2)
  else
   if (decide ((out.length+1) * 33≤140737488355328))=true then
    Dl s (IntKind.i64.wrap (atV+((x2.1.Text).length:Int)))>>=fun x3=>
    Pg s (out++[x2.1]) x3
   else none
 else
  some (out,0,0)
 partial_fixpoint
abbrev S10 (s:Str)(out:List K0)(atV:Int)(res:List K0×Int×Int):Prop:=LM C 41 0 Tryz.f26 [1,1,1,1,0,4] [(0,.d (.str s)),(5,.osl 0 (K0.rows out)),(6,.d (.int .i64 atV))] [.tok 62 3] (Ret [] (.tup [.d (.sl (K0.rows res.1)),.d (.int .i64 res.2.1),.d (.int .i64 res.2.2)]))
theorem Z19 (s:Str):(∀ out atV res,Pg s out atV=some res→S10 s out atV res):=by
 refine Pg.partial_correctness s _ ?_
 ·intro g0 ih0 out atV res hh
  refine W0.unroll (S' (t' rfl (ci' rfl hh (fun hh=>?_) (fun hh=>?_))))
  ·obtain ⟨x2,hx2,hh⟩:=bs' hh
   refine sk' (bk' (p' 2 rfl (c' (S1d hx2) rfl rfl (o' 3 rfl (F0.n hC rfl (F0.s hC rfl (e' rfl (S' (t' rfl (ci' rfl hh (fun hh=>?_) (fun hh=>?_)))))))))))
   ·refine t' rfl (re' ?_)
    obtain rfl:=oi' hh
    exact ⟨_,.tup [.d (.sl (K0.rows [])),.d (.int .i64 atV),.d (.int .i64 x2.2)],[],rfl,(.tupL ⟨.full,.rfl,.rfl,trivial⟩),trivial,rfl,rfl,rfl,rfl⟩
   obtain ⟨c6,hh⟩:=I4 hh
   obtain ⟨x3,hx3,hh⟩:=bs' hh
   exact sk' (p' 2 rfl (F0.be hC rfl (K0.rows_map [x2.1]).symm (F0.ap hC rfl (rs:=K0.rows (out++[x2.1])) (K0.app out [x2.1]) (K0.sz out) (K0.sz [x2.1]) (P1 (K0.len out) (K0.len [x2.1]) c6) (e' rfl (P' 6 rfl (c' (O10 hx3) rfl rfl (e' rfl (lw' (ih0 _ _ _ hh) rfl rfl rfl))))))))
  refine ex' (t' rfl (re' ?_))
  obtain rfl:=oi' hh
  exact ⟨_,.tup [.d (.sl (K0.rows out)),.d (.int .i64 0),.d (.int .i64 0)],[],rfl,(.tupL ⟨.osl,.rfl,.rfl,trivial⟩),trivial,rfl,rfl,rfl,rfl⟩
theorem C1c {s out atV res}(hh:Pg s out atV=some res):S10 s out atV res:=(Z19 s) _ _ _ hh
def Mt (s:Str):Option (List K0×Int×Int):=
 if (decide (((s).length:Int) > 8192))=true then
  some ([],0,5)
 else
  Dl s 0>>=fun x1=>
  Pg s [] x1
theorem W1h {s res}(hh:Mt s=some res):O0 C 26 [.d (.str s)] [] (Ret [] (.tup [.d (.sl (K0.rows res.1)),.d (.int .i64 res.2.1),.d (.int .i64 res.2.2)])):=by
 unfold Mt at hh
 refine O0.intro hC Tryz.func26 rfl rfl rfl (t' rfl (S' (t' rfl (ci' rfl hh (fun hh=>?_) (fun hh=>?_)))))
 ·refine t' rfl (re' ?_)
  obtain rfl:=oi' hh
  exact ⟨_,.tup [.d (.sl (K0.rows [])),.d (.int .i64 0),.d (.int .i64 5)],[],rfl,(.tupL ⟨.full,.rfl,.rfl,trivial⟩),trivial,rfl,rfl,rfl,rfl⟩
 obtain ⟨x1,hx1,hh⟩:=bs' hh
 exact sk' (s' rfl rfl (F0.be hC rfl (K0.rows_map []).symm (F0.tokE 12 62 3 rfl (e' rfl (p' 1 rfl (c' (O10 hx1) rfl rfl (e' rfl (S' (bk' (fw' (C1c hh) rfl rfl rfl))))))))))
def Y0 (l:List K0)(atV:Int)(text:Str):Option Bool:=
 (if (decide (atV < ((l).length:Int)))=true then idx l atV else some default)>>=fun x1=>
 (if ((decide (atV < ((l).length:Int)))&&(!(x1.Kind == 2)))=true then idx l atV else some default)>>=fun x2=>
 (if (bif (decide (atV < ((l).length:Int))) then (bif (x1.Kind == 2) then true else (x2.Kind == 3)) else false)=true then idx l atV else some default)>>=fun x3=>
 some (bif (bif (decide (atV < ((l).length:Int))) then (bif (x1.Kind == 2) then true else (x2.Kind == 3)) else false) then (x3.Text == text) else false)
theorem V0 {l atV text res}(hh:Y0 l atV text=some res):O0 C 66 [.d (.sl (K0.rows l)),.d (.int .i64 atV),.d (.str text)] [] (Ret [] (.d (.bool res))):=by
 unfold Y0 at hh
 obtain ⟨x1,hx1,hh⟩:=bs' hh
 obtain ⟨x2,hx2,hh⟩:=bs' hh
 obtain ⟨x3,hx3,hh⟩:=bs' hh
 cases hh
 refine O0.intro hC Tryz.func66 rfl rfl rfl (t' rfl (sg' 30 rfl (G' 2 rfl (AG.qe hC rfl (fun hg=>⟨trivial,trivial⟩) (K0.lenA _) (G' 4 rfl (AG.i hC rfl rfl (fun hg=>⟨hg,hg,trivial⟩) (fun hw=>⟨C1 (E1 hw hx1),K0.idx (E1 hw hx1),rfl⟩) (a1' rfl (a1' rfl (a1' rfl (a1' rfl (G' 2 rfl (AG.i hC rfl rfl (fun hg=>⟨hg,hg,trivial⟩) (fun hw=>⟨C1 (E1 hw hx2),K0.idx (E1 hw hx2),rfl⟩) ?_))))))))))))
 refine a1' rfl (a1' rfl (a1' rfl (pO' rfl (pa' rfl (G' 3 rfl (AG.i hC rfl rfl (fun hg=>⟨hg,hg,trivial⟩) (fun hw=>⟨C1 (E1 hw hx3),K0.idx (E1 hw hx3),rfl⟩) (a1' rfl (a1' rfl (a0' rfl (a2' rfl (pa' rfl (a0' rfl (an' ?_)))))))))))))
 exact n' (re' (rt' rfl rfl rfl))
def Wm (op:Int)(a:A0)(b:A0):Option A0:=
 some (A0.mk op 0 [] [a,b])
theorem Mu {op a b res}(hh:Wm op a b=some res):O0 C 123 [.d (.int .i64 op),.agg (A0.cells a),.agg (A0.cells b)] [] (Ret [] (.agg (A0.cells res))):=by
 unfold Wm at hh
 refine O0.intro hC Tryz.func123 rfl rfl rfl (s' rfl rfl (F0.n hC rfl (F0.n hC rfl (F0.nf hC rfl (n' (p' 3 rfl (F0.be hC rfl (A0.rows_map [a,b]).symm (q' rfl (F0.s hC rfl (n' (re' ?_)))))))))))
 obtain rfl:=oi' hh
 exact ⟨_,.agg [.d (.int .i64 op),.d (.int .i64 0),.d (.str []),.d (.sl (A0.rows [a,b]))],[],rfl,(.aggL ⟨.rfl,.rfl,.rfl,.full,trivial⟩),trivial,rfl,rfl,rfl,rfl⟩
def Ga (l:List K0)(atV:Int)(n:Int)(i:Int):Option (Int×Int×Bool):=
 idx l atV>>=fun x2=>
 if (decide (i < ((x2.Text).length:Int)))=true then
  idx l atV>>=fun x3=>
  idx x3.Text i>>=fun x4=>
  Ga l atV (IntKind.i64.wrap ((IntKind.i64.wrap (10 * n))+(IntKind.i64.wrap (IntKind.u8.wrap ((x4.toNat:Int) - 48))))) (IntKind.i64.wrap (i+1))
 else
  some (n,(IntKind.i64.wrap (atV+1)),true)
 partial_fixpoint
abbrev Zu (l:List K0)(atV:Int)(n:Int)(i:Int)(res:Int×Int×Bool):Prop:=LM C 47 0 Tryz.f133 [1,1,1,0,1,4] [(0,.d (.sl (K0.rows l))),(1,.d (.int .i64 atV)),(7,.d (.int .i64 n)),(8,.d (.int .i64 i))] [] (Ret [] (.tup [.d (.int .i64 res.1),.d (.int .i64 res.2.1),.d (.bool res.2.2)]))
theorem Q14 (l:List K0)(atV:Int):(∀ n i res,Ga l atV n i=some res→Zu l atV n i res):=by
 refine Ga.partial_correctness l atV _ ?_
 ·intro g0 ih0 n i res hh
  obtain ⟨x2,hx2,hh⟩:=bs' hh
  refine W0.unroll (S' (p' 3 rfl (i' rfl (C1 hx2) (K0.idx hx2) rfl (e' rfl (ci' rfl hh (fun hh=>?_) (fun hh=>?_))))))
  ·obtain ⟨x3,hx3,hh⟩:=bs' hh
   obtain ⟨x4,hx4,hh⟩:=bs' hh
   exact sk' (S' (bk' (P' 4 rfl (i' rfl (C1 hx3) (K0.idx hx3) rfl (o' 3 rfl (x' rfl (C1 hx4) (H5 hx4) (e' rfl (T' rfl (lw' (ih0 _ _ _ hh) rfl rfl rfl)))))))))
  cases hh
  exact ex' (t' rfl (re' (rt' rfl rfl rfl)))
theorem S16 {l atV n i res}(hh:Ga l atV n i=some res):Zu l atV n i res:=(Q14 l atV) _ _ _ hh
def Qg (l:List K0)(atV:Int):Option (Int×Int×Bool):=
 (if (!(decide (atV≥((l).length:Int))))=true then idx l atV else some default)>>=fun x1=>
 if (bif (decide (atV≥((l).length:Int))) then true else (x1.Kind != 1))=true then
  some (0,atV,false)
 else
  Ga l atV 0 0
theorem Mp {l atV res}(hh:Qg l atV=some res):O0 C 133 [.d (.sl (K0.rows l)),.d (.int .i64 atV)] [] (Ret [] (.tup [.d (.int .i64 res.1),.d (.int .i64 res.2.1),.d (.bool res.2.2)])):=by
 unfold Qg at hh
 obtain ⟨x1,hx1,hh⟩:=bs' hh
 refine O0.intro hC Tryz.func133 rfl rfl rfl (t' rfl (S' (sg' 12 rfl (G' 2 rfl (AG.qe hC rfl (fun hg=>⟨trivial,trivial⟩) (K0.lenA _) (G' 4 rfl (AG.i hC rfl rfl (fun hg=>⟨hg,hg,trivial⟩) (fun hw=>⟨C1 (E1 hw hx1),K0.idx (E1 hw hx1),rfl⟩) (a1' rfl (a1' rfl (a1' rfl (po' rfl (an' (n' (ci' rfl hh (fun hh=>?_) (fun hh=>?_)))))))))))))))
 ·cases hh
  exact t' rfl (re' (rt' rfl rfl rfl))
 exact sk' (t' rfl (S' (t' rfl (bk' (fw' (S16 hh) rfl rfl rfl)))))
def I8 (l:List K0)(atV:Int):Option (Str×Int×Bool):=
 (if (decide (atV < ((l).length:Int)))=true then idx l atV else some default)>>=fun x1=>
 if (bif (decide (atV < ((l).length:Int))) then (x1.Kind == 0) else false)=true then
  idx l atV>>=fun x2=>
  some (x2.Text,(IntKind.i64.wrap (atV+1)),true)
 else
  some ([],atV,false)
theorem N9 {l atV res}(hh:I8 l atV=some res):O0 C 78 [.d (.sl (K0.rows l)),.d (.int .i64 atV)] [] (Ret [] (.tup [.d (.str res.1),.d (.int .i64 res.2.1),.d (.bool res.2.2)])):=by
 unfold I8 at hh
 obtain ⟨x1,hx1,hh⟩:=bs' hh
 refine O0.intro hC Tryz.func78 rfl rfl rfl (t' rfl (S' (sg' 12 rfl (G' 2 rfl (AG.qe hC rfl (fun hg=>⟨trivial,trivial⟩) (K0.lenA _) (G' 4 rfl (AG.i hC rfl rfl (fun hg=>⟨hg,hg,trivial⟩) (fun hw=>⟨C1 (E1 hw hx1),K0.idx (E1 hw hx1),rfl⟩) (a1' rfl (a1' rfl (a1' rfl (pa' rfl (an' (n' (ci' rfl hh (fun hh=>?_) (fun hh=>?_)))))))))))))))
 ·obtain ⟨x2,hx2,hh⟩:=bs' hh
  cases hh
  exact p' 2 rfl (i' rfl (C1 hx2) (K0.idx hx2) rfl (e' rfl (re' (rt' rfl rfl rfl))))
 cases hh
 exact sk' (t' rfl (re' (rt' rfl rfl rfl)))
def K5 (l:List K0)(atV:Int)(level:Int):Option (Int×Bool):=
 (if (!(decide (atV≥((l).length:Int))))=true then idx l atV else some default)>>=fun x1=>
 if (bif (decide (atV≥((l).length:Int))) then true else (x1.Kind != 3))=true then
  some (0,false)
 else
  idx l atV>>=fun x2=>
  if (x2.Text == [124,124])=true then
   some (20,(1 == level))
  else
   if (x2.Text == [38,38])=true then
    some (19,(2 == level))
   else
    if (x2.Text == [61,61])=true then
     some (13,(3 == level))
    else
     if (x2.Text == [33,61])=true then
      some (14,(3 == level))
     else
      if (x2.Text == [60])=true then
       some (15,(3 == level))
      else
       if (x2.Text == [60,61])=true then
        some (16,(3 == level))
       else
        if (x2.Text == [62])=true then
         some (17,(3 == level))
        else
         if (x2.Text == [62,61])=true then
          some (18,(3 == level))
         else
          if (x2.Text == [43])=true then
           some (8,(4 == level))
          else
           if (x2.Text == [45])=true then
            some (9,(4 == level))
           else
            if (x2.Text == [42])=true then
             some (10,(5 == level))
            else
             if (x2.Text == [47])=true then
              some (11,(5 == level))
             else
              if (x2.Text == [37])=true then
               some (12,(5 == level))
              else
               some (0,(0 == level))
theorem D1c {l atV level res}(hh:K5 l atV level=some res):O0 C 122 [.d (.sl (K0.rows l)),.d (.int .i64 atV),.d (.int .i64 level)] [] (Ret [] (.tup [.d (.int .i64 res.1),.d (.bool res.2)])):=by
 unfold K5 at hh
 obtain ⟨x1,hx1,hh⟩:=bs' hh
 refine O0.intro hC Tryz.func122 rfl rfl rfl (t' rfl (S' (sg' 12 rfl (G' 2 rfl (AG.qe hC rfl (fun hg=>⟨trivial,trivial⟩) (K0.lenA _) (G' 4 rfl (AG.i hC rfl rfl (fun hg=>⟨hg,hg,trivial⟩) (fun hw=>⟨C1 (E1 hw hx1),K0.idx (E1 hw hx1),rfl⟩) (a1' rfl (a1' rfl (a1' rfl (po' rfl (an' (n' (ci' rfl hh (fun hh=>?_) (fun hh=>?_)))))))))))))))
 ·cases hh
  exact t' rfl (re' (rt' rfl rfl rfl))
 obtain ⟨x2,hx2,hh⟩:=bs' hh
 refine sk' (t' rfl (S' (p' 2 rfl (i' rfl (C1 hx2) (K0.idx hx2) rfl (e' rfl (bk' (t' rfl (ci' rfl hh (fun hh=>?_) (fun hh=>?_)))))))))
 ·cases hh
  exact T' rfl (t' rfl (re' (rt' rfl rfl rfl)))
 refine t' rfl (ci' rfl hh (fun hh=>?_) (fun hh=>?_))
 ·cases hh
  exact T' rfl (t' rfl (re' (rt' rfl rfl rfl)))
 refine t' rfl (ci' rfl hh (fun hh=>?_) (fun hh=>?_))
 ·cases hh
  exact T' rfl (t' rfl (re' (rt' rfl rfl rfl)))
 refine t' rfl (ci' rfl hh (fun hh=>?_) (fun hh=>?_))
 ·cases hh
  exact T' rfl (t' rfl (re' (rt' rfl rfl rfl)))
 refine t' rfl (ci' rfl hh (fun hh=>?_) (fun hh=>?_))
 ·cases hh
  exact T' rfl (t' rfl (re' (rt' rfl rfl rfl)))
 refine t' rfl (ci' rfl hh (fun hh=>?_) (fun hh=>?_))
 ·cases hh
  exact T' rfl (t' rfl (re' (rt' rfl rfl rfl)))
 refine t' rfl (ci' rfl hh (fun hh=>?_) (fun hh=>?_))
 ·cases hh
  exact T' rfl (t' rfl (re' (rt' rfl rfl rfl)))
 refine t' rfl (ci' rfl hh (fun hh=>?_) (fun hh=>?_))
 ·cases hh
  exact T' rfl (t' rfl (re' (rt' rfl rfl rfl)))
 refine t' rfl (ci' rfl hh (fun hh=>?_) (fun hh=>?_))
 ·cases hh
  exact T' rfl (t' rfl (re' (rt' rfl rfl rfl)))
 refine t' rfl (ci' rfl hh (fun hh=>?_) (fun hh=>?_))
 ·cases hh
  exact T' rfl (t' rfl (re' (rt' rfl rfl rfl)))
 refine t' rfl (ci' rfl hh (fun hh=>?_) (fun hh=>?_))
 ·cases hh
  exact T' rfl (t' rfl (re' (rt' rfl rfl rfl)))
 refine t' rfl (ci' rfl hh (fun hh=>?_) (fun hh=>?_))
 ·cases hh
  exact T' rfl (t' rfl (re' (rt' rfl rfl rfl)))
 refine t' rfl (ci' rfl hh (fun hh=>?_) (fun hh=>?_))
 ·cases hh
  exact T' rfl (t' rfl (re' (rt' rfl rfl rfl)))
 cases hh
 exact sk' (t' rfl (re' (rt' rfl rfl rfl)))
mutual
def T2 (l:List K0)(atV:Int):Option (A0×Int×Bool):=
 R2 l atV 1>>=fun x1=>
 (if (!(!x1.2.2))=true then Y0 l x1.2.1 [63] else some default)>>=fun x2=>
 if (bif (!x1.2.2) then true else (!x2))=true then
  some (x1.1,x1.2.1,x1.2.2)
 else
  T2 l (IntKind.i64.wrap (x1.2.1+1))>>=fun x3=>
  if (!x3.2.2)=true then
   some (x3.1,x3.2.1,false)
  else
   Y0 l x3.2.1 [58]>>=fun x4=>
   if (!x4)=true then
    some (x3.1,x3.2.1,false)
   else
    T2 l (IntKind.i64.wrap (x3.2.1+1))>>=fun x5=>
    if (!x5.2.2)=true then
     some (x5.1,x5.2.1,false)
    else
     some ((A0.mk 23 0 [] [x1.1,x3.1,x5.1]),x5.2.1,true)
 partial_fixpoint
def R2 (l:List K0)(atV:Int)(n:Int):Option (A0×Int×Bool):=
 if (n == 6)=true then
  Ag l atV>>=fun x1=>
  some (x1.1,x1.2.1,x1.2.2)
 else
  R2 l atV (IntKind.i64.wrap (n+1))>>=fun x2=>
  if (!x2.2.2)=true then
   some (x2.1,x2.2.1,false)
  else
   V2 l n x2.1 x2.2.1
 partial_fixpoint
def V2 (l:List K0)(n:Int)(o1:A0)(atV1:Int):Option (A0×Int×Bool):=
 K5 l atV1 n>>=fun x3=>
 if (!x3.2)=true then
  some (o1,atV1,true)
 else
  R2 l (IntKind.i64.wrap (atV1+1)) (IntKind.i64.wrap (n+1))>>=fun x4=>
  if (!x4.2.2)=true then
   some (x4.1,x4.2.1,false)
  else
   Wm x3.1 o1 x4.1>>=fun x5=>
   if (n == 3)=true then
    some (x5,x4.2.1,true)
   else
    V2 l n x5 x4.2.1
 partial_fixpoint
def Ag (l:List K0)(atV:Int):Option (A0×Int×Bool):=
 Y0 l atV [45]>>=fun x1=>
 (if (!x1)=true then Y0 l atV [33] else some default)>>=fun x2=>
 if (bif (!x1) then (!x2) else false)=true then
  Zn l atV>>=fun x3=>
  some (x3.1,x3.2.1,x3.2.2)
 else
  Y0 l atV [33]>>=fun x4=>
  if x4=true then
   Wi l atV 7
  else
   Wi l atV 6
 partial_fixpoint
def Wi (l:List K0)(atV:Int)(op:Int):Option (A0×Int×Bool):=
 Ag l (IntKind.i64.wrap (atV+1))>>=fun x5=>
 if (!x5.2.2)=true then
  some (x5.1,x5.2.1,false)
 else
  some ((A0.mk op 0 [] [x5.1]),x5.2.1,true)
 partial_fixpoint
def Zn (l:List K0)(atV:Int):Option (A0×Int×Bool):=
 Y0 l atV [116,114,117,101]>>=fun x1=>
 if x1=true then
  some ((A0.mk 1 0 [] []),(IntKind.i64.wrap (atV+1)),true)
 else
  Y0 l atV [102,97,108,115,101]>>=fun x2=>
  if x2=true then
   some ((A0.mk 2 0 [] []),(IntKind.i64.wrap (atV+1)),true)
  else
   Y0 l atV [109,105,110]>>=fun x3=>
   (if (!x3)=true then Y0 l atV [109,97,120] else some default)>>=fun x4=>
   if (bif x3 then true else x4)=true then
    Ao l atV>>=fun x5=>
    some (x5.1,x5.2.1,x5.2.2)
   else
    Y0 l atV [40]>>=fun x6=>
    if x6=true then
     T2 l (IntKind.i64.wrap (atV+1))>>=fun x9=>
     (if (!(!x9.2.2))=true then Y0 l x9.2.1 [41] else some default)>>=fun x10=>
     if (bif (!x9.2.2) then true else (!x10))=true then
      some (x9.1,x9.2.1,false)
     else
      some (x9.1,(IntKind.i64.wrap (x9.2.1+1)),true)
    else
     Qg l atV>>=fun x7=>
     if x7.2.2=true then
      some ((A0.mk 0 x7.1 [] []),x7.2.1,true)
     else
      Di l atV>>=fun x8=>
      some (x8.1,x8.2.1,x8.2.2)
 partial_fixpoint
def Di (l:List K0)(atV:Int):Option (A0×Int×Bool):=
 I8 l atV>>=fun x1=>
 if (!x1.2.2)=true then
  some ((A0.mk 0 0 [] []),x1.2.1,false)
 else
  Yd l 3 0 x1.1 [] x1.2.1
 partial_fixpoint
def Yd (l:List K0)(o1_Op:Int)(o1_NV:Int)(o1_Name:Str)(o1_Kids:List A0)(atV1:Int):Option (A0×Int×Bool):=
 Y0 l atV1 [46]>>=fun x2=>
 (if (!x2)=true then Y0 l atV1 [91] else some default)>>=fun x3=>
 if (bif x2 then true else x3)=true then
  Y0 l atV1 [46]>>=fun x4=>
  if x4=true then
   I8 l (IntKind.i64.wrap (atV1+1))>>=fun x5=>
   if (!x5.2.2)=true then
    some ((A0.mk o1_Op o1_NV o1_Name o1_Kids),x5.2.1,false)
   else
    Yd l 4 0 x5.1 [(A0.mk o1_Op o1_NV o1_Name o1_Kids)] x5.2.1
  else
   T2 l (IntKind.i64.wrap (atV1+1))>>=fun x6=>
   (if (!(!x6.2.2))=true then Y0 l x6.2.1 [93] else some default)>>=fun x7=>
   if (bif (!x6.2.2) then true else (!x7))=true then
    some (x6.1,x6.2.1,false)
   else
    Wm 5 (A0.mk o1_Op o1_NV o1_Name o1_Kids) x6.1>>=fun x8=>
    Yd l x8.Op x8.NV x8.Name x8.Kids (IntKind.i64.wrap (x6.2.1+1))
 else
  some ((A0.mk o1_Op o1_NV o1_Name o1_Kids),atV1,true)
 partial_fixpoint
def Ao (l:List K0)(atV:Int):Option (A0×Int×Bool):=
 Y0 l atV [109,97,120]>>=fun x1=>
 if x1=true then
  Rg l atV 22
 else
  Rg l atV 21
 partial_fixpoint
def Rg (l:List K0)(atV:Int)(op:Int):Option (A0×Int×Bool):=
 Y0 l (IntKind.i64.wrap (atV+1)) [40]>>=fun x2=>
 if (!x2)=true then
  some ((A0.mk 0 0 [] []),(IntKind.i64.wrap (atV+1)),false)
 else
  T2 l (IntKind.i64.wrap (atV+2))>>=fun x3=>
  (if (!(!x3.2.2))=true then Y0 l x3.2.1 [44] else some default)>>=fun x4=>
  if (bif (!x3.2.2) then true else (!x4))=true then
   some (x3.1,x3.2.1,false)
  else
   T2 l (IntKind.i64.wrap (x3.2.1+1))>>=fun x5=>
   (if (!(!x5.2.2))=true then Y0 l x5.2.1 [41] else some default)>>=fun x6=>
   if (bif (!x5.2.2) then true else (!x6))=true then
    some (x5.1,x5.2.1,false)
   else
    Wm op x3.1 x5.1>>=fun x7=>
    some (x7,(IntKind.i64.wrap (x5.2.1+1)),true)
 partial_fixpoint
end
abbrev Nt (l:List K0)(atV:Int)(res:A0×Int×Bool):Prop:=O0 C 32 [.d (.sl (K0.rows l)),.d (.int .i64 atV)] [] (Ret [] (.tup [.agg (A0.cells res.1),.d (.int .i64 res.2.1),.d (.bool res.2.2)]))
abbrev A1g (l:List K0)(atV:Int)(n:Int)(res:A0×Int×Bool):Prop:=O0 C 65 [.d (.sl (K0.rows l)),.d (.int .i64 atV),.d (.int .i64 n)] [] (Ret [] (.tup [.agg (A0.cells res.1),.d (.int .i64 res.2.1),.d (.bool res.2.2)]))
abbrev A1a (l:List K0)(n:Int)(o1:A0)(atV1:Int)(res:A0×Int×Bool):Prop:=LM C 71 0 Tryz.f65 [1,1,1,1,4] [(0,.d (.sl (K0.rows l))),(1,.d (.int .i64 atV1)),(2,.d (.int .i64 n)),(6,.ref 0 0),(9,.ref 1 0)] [.row [.d (.int .i64 0),.d (.int .i64 0),.d (.str []),.full (A0.rows [])] 26,.row (A0.cells o1) 26] (Ret [] (.tup [.agg (A0.cells res.1),.d (.int .i64 res.2.1),.d (.bool res.2.2)]))
abbrev B1g (l:List K0)(atV:Int)(res:A0×Int×Bool):Prop:=O0 C 121 [.d (.sl (K0.rows l)),.d (.int .i64 atV)] [] (Ret [] (.tup [.agg (A0.cells res.1),.d (.int .i64 res.2.1),.d (.bool res.2.2)]))
abbrev B1a (l:List K0)(atV:Int)(op:Int)(res:A0×Int×Bool):Prop:=JM C 46 0 Tryz.f121 [1,1,1,1] [(0,.d (.sl (K0.rows l))),(1,.d (.int .i64 atV)),(4,.ref 0 0),(7,.d (.int .i64 op))] [.row [.d (.int .i64 0),.d (.int .i64 0),.d (.str []),.full (A0.rows [])] 26] (Ret [] (.tup [.agg (A0.cells res.1),.d (.int .i64 res.2.1),.d (.bool res.2.2)]))
abbrev E1c (l:List K0)(atV:Int)(res:A0×Int×Bool):Prop:=O0 C 169 [.d (.sl (K0.rows l)),.d (.int .i64 atV)] [] (Ret [] (.tup [.agg (A0.cells res.1),.d (.int .i64 res.2.1),.d (.bool res.2.2)]))
abbrev A14 (l:List K0)(atV:Int)(res:A0×Int×Bool):Prop:=O0 C 192 [.d (.sl (K0.rows l)),.d (.int .i64 atV)] [] (Ret [] (.tup [.agg (A0.cells res.1),.d (.int .i64 res.2.1),.d (.bool res.2.2)]))
abbrev C1a (l:List K0)(o1_Op:Int)(o1_NV:Int)(o1_Name:Str)(o1_Kids:List A0)(atV1:Int)(res:A0×Int×Bool):Prop:=LM C 82 0 Tryz.f192 [1,1,1,1,0,4] [(0,.d (.sl (K0.rows l))),(1,.d (.int .i64 atV1)),(4,.ref 0 0),(9,.ref 1 0)] [.row [.d (.int .i64 0),.d (.int .i64 0),.d (.str []),.full (A0.rows [])] 26,.row [.d (.int .i64 o1_Op),.d (.int .i64 o1_NV),.d (.str o1_Name),.d (.sl (A0.rows o1_Kids))] 26] (Ret [] (.tup [.agg (A0.cells res.1),.d (.int .i64 res.2.1),.d (.bool res.2.2)]))
abbrev F1c (l:List K0)(atV:Int)(res:A0×Int×Bool):Prop:=O0 C 191 [.d (.sl (K0.rows l)),.d (.int .i64 atV)] [] (Ret [] (.tup [.agg (A0.cells res.1),.d (.int .i64 res.2.1),.d (.bool res.2.2)]))
abbrev T16 (l:List K0)(atV:Int)(op:Int)(res:A0×Int×Bool):Prop:=JM C 64 0 Tryz.f191 [1,1,1] [(0,.d (.sl (K0.rows l))),(1,.d (.int .i64 atV)),(4,.ref 0 0),(7,.d (.int .i64 op))] [.row [.d (.int .i64 0),.d (.int .i64 0),.d (.str []),.full (A0.rows [])] 26] (Ret [] (.tup [.agg (A0.cells res.1),.d (.int .i64 res.2.1),.d (.bool res.2.2)]))
theorem Np (l:List K0):(∀ atV res,T2 l atV=some res→Nt l atV res)∧(∀ atV n res,R2 l atV n=some res→A1g l atV n res)∧(∀ n o1 atV1 res,V2 l n o1 atV1=some res→A1a l n o1 atV1 res)∧(∀ atV res,Ag l atV=some res→B1g l atV res)∧(∀ atV op res,Wi l atV op=some res→B1a l atV op res)∧(∀ atV res,Zn l atV=some res→E1c l atV res)∧(∀ atV res,Di l atV=some res→A14 l atV res)∧(∀ o1_Op o1_NV o1_Name o1_Kids atV1 res,Yd l o1_Op o1_NV o1_Name o1_Kids atV1=some res→C1a l o1_Op o1_NV o1_Name o1_Kids atV1 res)∧(∀ atV res,Ao l atV=some res→F1c l atV res)∧(∀ atV op res,Rg l atV op=some res→T16 l atV op res):=by
 refine T2.mutual_partial_correctness l _ _ _ _ _ _ _ _ _ _ ?_ ?_ ?_ ?_ ?_ ?_ ?_ ?_ ?_ ?_
 ·intro g0 g1 ih0 ih1 atV res hh
  obtain ⟨x1,hx1,hh⟩:=bs' hh
  obtain ⟨x2,hx2,hh⟩:=bs' hh
  refine O0.intro hC Tryz.func32 rfl rfl rfl (s' rfl rfl (F0.nf hC rfl (e' rfl (p' 2 rfl (c' (ih1 _ _ _ hx1) rfl rfl (o' 4 rfl (F0.nf hC rfl (F0.s hC rfl (e' rfl (S' (sg' 8 rfl (G' 5 rfl (AG.c rfl rfl (fun hg=>⟨hg,hg,trivial⟩) (fun hw=>V0 (E1 hw hx2)) ?_)))))))))))))
  refine a1' rfl (po' rfl (an' (n' (ci' rfl hh (fun hh=>?_) (fun hh=>?_)))))
  ·cases hh
   exact p' 3 rfl (F0.s hC rfl (e' rfl (re' (rt' rfl rfl rfl))))
  obtain ⟨x3,hx3,hh⟩:=bs' hh
  refine sk' (p' 3 rfl (c' (ih0 _ _ hx3) rfl rfl (o' 4 rfl (F0.nf hC rfl (F0.s hC rfl (e' rfl (S' (t' rfl (ci' rfl hh (fun hh=>?_) (fun hh=>?_))))))))))
  ·cases hh
   exact p' 2 rfl (F0.s hC rfl (e' rfl (re' (rt' rfl rfl rfl))))
  obtain ⟨x4,hx4,hh⟩:=bs' hh
  refine sk' (S' (p' 2 rfl (c' (V0 hx4) rfl rfl (e' rfl (ci' rfl hh (fun hh=>?_) (fun hh=>?_))))))
  ·cases hh
   exact p' 2 rfl (F0.s hC rfl (e' rfl (re' (rt' rfl rfl rfl))))
  obtain ⟨x5,hx5,hh⟩:=bs' hh
  refine sk' (p' 3 rfl (c' (ih0 _ _ hx5) rfl rfl (o' 4 rfl (F0.nf hC rfl (F0.s hC rfl (e' rfl (S' (t' rfl (ci' rfl hh (fun hh=>?_) (fun hh=>?_))))))))))
  ·cases hh
   exact p' 2 rfl (F0.s hC rfl (e' rfl (re' (rt' rfl rfl rfl))))
  refine sk' (p' 3 rfl (F0.be hC rfl (A0.rows_map [x1.1,x3.1,x5.1]).symm (o' 2 rfl (F0.s hC rfl (e' rfl (re' ?_))))))
  obtain rfl:=oi' hh
  exact ⟨_,.tup [.agg [.d (.int .i64 23),.d (.int .i64 0),.d (.str []),.d (.sl (A0.rows [x1.1,x3.1,x5.1]))],.d (.int .i64 x5.2.1),.d (.bool true)],[],rfl,(.tupL ⟨(.aggL ⟨.rfl,.rfl,.rfl,.full,trivial⟩),.rfl,.rfl,trivial⟩),trivial,rfl,rfl,rfl,rfl⟩
 ·intro g1 g2 g3 ih1 ih2 ih3 atV n res hh
  refine O0.intro hC Tryz.func65 rfl rfl rfl (s' rfl rfl (F0.nf hC rfl (e' rfl (S' (t' rfl (ci' rfl hh (fun hh=>?_) (fun hh=>?_)))))))
  ·obtain ⟨x1,hx1,hh⟩:=bs' hh
   cases hh
   exact p' 2 rfl (c' (ih3 _ _ hx1) rfl rfl (o' 3 rfl (F0.s hC rfl (e' rfl (re' (rt' rfl rfl rfl))))))
  obtain ⟨x2,hx2,hh⟩:=bs' hh
  refine sk' (p' 4 rfl (c' (ih1 _ _ _ hx2) rfl rfl (o' 4 rfl (F0.nf hC rfl (F0.s hC rfl (e' rfl (S' (t' rfl (ci' rfl hh (fun hh=>?_) (fun hh=>?_))))))))))
  ·cases hh
   exact p' 2 rfl (F0.s hC rfl (e' rfl (re' (rt' rfl rfl rfl))))
  exact sk' (bk' (fw' (ih2 _ _ _ _ hh) rfl rfl rfl))
 ·intro g1 g2 ih1 ih2 n o1 atV1 res hh
  obtain ⟨x3,hx3,hh⟩:=bs' hh
  refine W0.unroll (bk' (p' 3 rfl (c' (D1c hx3) rfl rfl (e' rfl (S' (t' rfl (ci' rfl hh (fun hh=>?_) (fun hh=>?_))))))))
  ·cases hh
   exact p' 2 rfl (F0.s hC rfl (e' rfl (re' (rt' rfl rfl rfl))))
  obtain ⟨x4,hx4,hh⟩:=bs' hh
  refine sk' (p' 5 rfl (c' (ih1 _ _ _ hx4) rfl rfl (o' 4 rfl (F0.nf hC rfl (F0.s hC rfl (e' rfl (S' (t' rfl (ci' rfl hh (fun hh=>?_) (fun hh=>?_))))))))))
  ·cases hh
   exact p' 2 rfl (F0.s hC rfl (e' rfl (re' (rt' rfl rfl rfl))))
  obtain ⟨x5,hx5,hh⟩:=bs' hh
  refine sk' (p' 3 rfl (c' (Mu hx5) rfl rfl (q' rfl (F0.s hC rfl (e' rfl (t' rfl (ci' rfl hh (fun hh=>?_) (fun hh=>?_))))))))
  ·cases hh
   exact p' 2 rfl (F0.s hC rfl (e' rfl (re' (rt' rfl rfl rfl))))
  exact sk' (lw' (ih2 _ _ _ _ hh) rfl rfl rfl)
 ·intro g4 g5 ih4 ih5 atV res hh
  obtain ⟨x1,hx1,hh⟩:=bs' hh
  obtain ⟨x2,hx2,hh⟩:=bs' hh
  refine O0.intro hC Tryz.func121 rfl rfl rfl (s' rfl rfl (F0.nf hC rfl (e' rfl (S' (sg' 10 rfl (G' 2 rfl (AG.c rfl rfl (fun _=>trivial) (fun _=>V0 hx1) (G' 4 rfl (AG.c rfl rfl (fun hg=>⟨hg,hg,trivial⟩) (fun hw=>V0 (E1 hw hx2)) (a1' rfl (pa' rfl (an' (n' (ci' rfl hh (fun hh=>?_) (fun hh=>?_)))))))))))))))
  ·obtain ⟨x3,hx3,hh⟩:=bs' hh
   cases hh
   exact p' 2 rfl (c' (ih5 _ _ hx3) rfl rfl (o' 3 rfl (F0.s hC rfl (e' rfl (re' (rt' rfl rfl rfl))))))
  obtain ⟨x4,hx4,hh⟩:=bs' hh
  refine sk' (t' rfl (S' (p' 2 rfl (c' (V0 hx4) rfl rfl (n' (ci' rfl hh (fun hh=>?_) (fun hh=>?_)))))))
  ·exact T' rfl (ew' (ih4 _ _ _ hh) rfl rfl rfl)
  exact sk' (ew' (ih4 _ _ _ hh) rfl rfl rfl)
 ·intro g3 ih3 atV op res hh
  obtain ⟨x5,hx5,hh⟩:=bs' hh
  refine p' 3 rfl (c' (ih3 _ _ hx5) rfl rfl (o' 4 rfl (F0.nf hC rfl (F0.s hC rfl (e' rfl (S' (t' rfl (ci' rfl hh (fun hh=>?_) (fun hh=>?_)))))))))
  ·cases hh
   exact p' 2 rfl (F0.s hC rfl (e' rfl (re' (rt' rfl rfl rfl))))
  refine sk' (p' 2 rfl (F0.be hC rfl (A0.rows_map [x5.1]).symm (o' 2 rfl (F0.s hC rfl (e' rfl (re' ?_))))))
  obtain rfl:=oi' hh
  exact ⟨_,.tup [.agg [.d (.int .i64 op),.d (.int .i64 0),.d (.str []),.d (.sl (A0.rows [x5.1]))],.d (.int .i64 x5.2.1),.d (.bool true)],[],rfl,(.tupL ⟨(.aggL ⟨.rfl,.rfl,.rfl,.full,trivial⟩),.rfl,.rfl,trivial⟩),trivial,rfl,rfl,rfl,rfl⟩
 ·intro g0 g6 g8 ih0 ih6 ih8 atV res hh
  obtain ⟨x1,hx1,hh⟩:=bs' hh
  refine O0.intro hC Tryz.func169 rfl rfl rfl (s' rfl rfl (F0.nf hC rfl (e' rfl (S' (p' 2 rfl (c' (V0 hx1) rfl rfl (n' (ci' rfl hh (fun hh=>?_) (fun hh=>?_)))))))))
  ·cases hh
   exact p' 3 rfl (F0.s hC rfl (e' rfl (re' (rt' rfl rfl rfl))))
  obtain ⟨x2,hx2,hh⟩:=bs' hh
  refine sk' (S' (p' 2 rfl (c' (V0 hx2) rfl rfl (n' (ci' rfl hh (fun hh=>?_) (fun hh=>?_))))))
  ·cases hh
   exact p' 3 rfl (F0.s hC rfl (e' rfl (re' (rt' rfl rfl rfl))))
  obtain ⟨x3,hx3,hh⟩:=bs' hh
  obtain ⟨x4,hx4,hh⟩:=bs' hh
  refine sk' (S' (sg' 8 rfl (G' 2 rfl (AG.c rfl rfl (fun _=>trivial) (fun _=>V0 hx3) (G' 3 rfl (AG.c rfl rfl (fun hg=>⟨hg,hg,trivial⟩) (fun hw=>V0 (E1 hw hx4)) (po' rfl (an' (n' (ci' rfl hh (fun hh=>?_) (fun hh=>?_)))))))))))
  ·obtain ⟨x5,hx5,hh⟩:=bs' hh
   cases hh
   exact p' 2 rfl (c' (ih8 _ _ hx5) rfl rfl (o' 3 rfl (F0.s hC rfl (e' rfl (re' (rt' rfl rfl rfl))))))
  obtain ⟨x6,hx6,hh⟩:=bs' hh
  refine sk' (S' (p' 2 rfl (c' (V0 hx6) rfl rfl (n' (ci' rfl hh (fun hh=>?_) (fun hh=>?_))))))
  ·obtain ⟨x9,hx9,hh⟩:=bs' hh
   obtain ⟨x10,hx10,hh⟩:=bs' hh
   refine p' 3 rfl (c' (ih0 _ _ hx9) rfl rfl (o' 4 rfl (F0.nf hC rfl (F0.s hC rfl (e' rfl (S' (sg' 8 rfl (G' 5 rfl (AG.c rfl rfl (fun hg=>⟨hg,hg,trivial⟩) (fun hw=>V0 (E1 hw hx10)) (a1' rfl (po' rfl (an' (n' (ci' rfl hh (fun hh=>?_) (fun hh=>?_)))))))))))))))
   ·cases hh
    exact p' 2 rfl (F0.s hC rfl (e' rfl (re' (rt' rfl rfl rfl))))
   cases hh
   exact sk' (p' 3 rfl (F0.s hC rfl (e' rfl (re' (rt' rfl rfl rfl)))))
  obtain ⟨x7,hx7,hh⟩:=bs' hh
  refine sk' (p' 2 rfl (c' (Mp hx7) rfl rfl (e' rfl (S' (t' rfl (ci' rfl hh (fun hh=>?_) (fun hh=>?_)))))))
  ·cases hh
   exact p' 3 rfl (F0.s hC rfl (e' rfl (re' (rt' rfl rfl rfl))))
  obtain ⟨x8,hx8,hh⟩:=bs' hh
  cases hh
  exact sk' (p' 2 rfl (c' (ih6 _ _ hx8) rfl rfl (o' 3 rfl (F0.s hC rfl (e' rfl (re' (rt' rfl rfl rfl)))))))
 ·intro g7 ih7 atV res hh
  obtain ⟨x1,hx1,hh⟩:=bs' hh
  refine O0.intro hC Tryz.func192 rfl rfl rfl (s' rfl rfl (F0.nf hC rfl (e' rfl (p' 2 rfl (c' (N9 hx1) rfl rfl (e' rfl (S' (t' rfl (ci' rfl hh (fun hh=>?_) (fun hh=>?_))))))))))
  ·cases hh
   exact p' 2 rfl (F0.s hC rfl (e' rfl (re' (rt' rfl rfl rfl))))
  exact sk' (p' 2 rfl (F0.nf hC rfl (F0.s hC rfl (n' (S' (bk' (fw' (ih7 _ _ _ _ _ _ hh) rfl rfl rfl)))))))
 ·intro g0 g7 ih0 ih7 o1_Op o1_NV o1_Name o1_Kids atV1 res hh
  obtain ⟨x2,hx2,hh⟩:=bs' hh
  obtain ⟨x3,hx3,hh⟩:=bs' hh
  refine W0.unroll (S' (sg' 8 rfl (G' 2 rfl (AG.c rfl rfl (fun _=>trivial) (fun _=>V0 hx2) (G' 3 rfl (AG.c rfl rfl (fun hg=>⟨hg,hg,trivial⟩) (fun hw=>V0 (E1 hw hx3)) (po' rfl (an' (n' (ci' rfl hh (fun hh=>?_) (fun hh=>?_)))))))))))
  ·obtain ⟨x4,hx4,hh⟩:=bs' hh
   refine sk' (bk' (S' (p' 2 rfl (c' (V0 hx4) rfl rfl (n' (ci' rfl hh (fun hh=>?_) (fun hh=>?_)))))))
   ·obtain ⟨x5,hx5,hh⟩:=bs' hh
    refine p' 3 rfl (c' (N9 hx5) rfl rfl (e' rfl (S' (t' rfl (ci' rfl hh (fun hh=>?_) (fun hh=>?_))))))
    ·cases hh
     exact p' 2 rfl (F0.s hC rfl (e' rfl (re' (rt' rfl rfl rfl))))
    refine sk' (p' 2 rfl (F0.be hC rfl (A0.rows_map [(A0.mk o1_Op o1_NV o1_Name o1_Kids)]).symm (o' 2 rfl (F0.s hC rfl (e' rfl (ex' ?_))))))
    refine W0.wk ?_ (ih7 _ _ _ _ _ _ hh)
    exact ⟨⟨⟨.rfl,rfl⟩,⟨.rfl,rfl⟩,⟨.rfl,rfl⟩,⟨.rfl,rfl⟩,trivial⟩,⟨⟨rfl,.refl _,rfl⟩,⟨rfl,⟨.rfl,.rfl,.rfl,.full,trivial⟩,rfl⟩,trivial⟩,rfl⟩
   obtain ⟨x6,hx6,hh⟩:=bs' hh
   obtain ⟨x7,hx7,hh⟩:=bs' hh
   refine sk' (p' 3 rfl (c' (ih0 _ _ hx6) rfl rfl (o' 4 rfl (F0.nf hC rfl (F0.s hC rfl (e' rfl (S' (sg' 8 rfl (G' 5 rfl (AG.c rfl rfl (fun hg=>⟨hg,hg,trivial⟩) (fun hw=>V0 (E1 hw hx7)) (a1' rfl (po' rfl (an' ?_)))))))))))))
   refine n' (ci' rfl hh (fun hh=>?_) (fun hh=>?_))
   ·cases hh
    exact p' 2 rfl (F0.s hC rfl (e' rfl (re' (rt' rfl rfl rfl))))
   obtain ⟨x8,hx8,hh⟩:=bs' hh
   exact sk' (P' 2 rfl (c' (Mu hx8) rfl rfl (o' 2 rfl (F0.s hC rfl (e' rfl (lw' (ih7 _ _ _ _ _ _ hh) rfl rfl rfl))))))
  cases hh
  exact ex' (p' 2 rfl (F0.s hC rfl (e' rfl (re' (rt' rfl rfl rfl)))))
 ·intro g9 ih9 atV res hh
  obtain ⟨x1,hx1,hh⟩:=bs' hh
  refine O0.intro hC Tryz.func191 rfl rfl rfl (s' rfl rfl (F0.nf hC rfl (e' rfl (t' rfl (S' (p' 2 rfl (c' (V0 hx1) rfl rfl (n' (ci' rfl hh (fun hh=>?_) (fun hh=>?_))))))))))
  ·exact T' rfl (ew' (ih9 _ _ _ hh) rfl rfl rfl)
  exact sk' (ew' (ih9 _ _ _ hh) rfl rfl rfl)
 ·intro g0 ih0 atV op res hh
  obtain ⟨x2,hx2,hh⟩:=bs' hh
  refine S' (p' 3 rfl (c' (V0 hx2) rfl rfl (e' rfl (ci' rfl hh (fun hh=>?_) (fun hh=>?_)))))
  ·cases hh
   exact p' 3 rfl (F0.s hC rfl (e' rfl (re' (rt' rfl rfl rfl))))
  obtain ⟨x3,hx3,hh⟩:=bs' hh
  obtain ⟨x4,hx4,hh⟩:=bs' hh
  refine sk' (p' 3 rfl (c' (ih0 _ _ hx3) rfl rfl (o' 4 rfl (F0.nf hC rfl (F0.s hC rfl (e' rfl (S' (sg' 8 rfl (G' 5 rfl (AG.c rfl rfl (fun hg=>⟨hg,hg,trivial⟩) (fun hw=>V0 (E1 hw hx4)) (a1' rfl (po' rfl (an' ?_)))))))))))))
  refine n' (ci' rfl hh (fun hh=>?_) (fun hh=>?_))
  ·cases hh
   exact p' 2 rfl (F0.s hC rfl (e' rfl (re' (rt' rfl rfl rfl))))
  obtain ⟨x5,hx5,hh⟩:=bs' hh
  obtain ⟨x6,hx6,hh⟩:=bs' hh
  refine sk' (p' 3 rfl (c' (ih0 _ _ hx5) rfl rfl (o' 4 rfl (F0.nf hC rfl (F0.s hC rfl (e' rfl (S' (sg' 8 rfl (G' 5 rfl (AG.c rfl rfl (fun hg=>⟨hg,hg,trivial⟩) (fun hw=>V0 (E1 hw hx6)) (a1' rfl (po' rfl (an' ?_)))))))))))))
  refine n' (ci' rfl hh (fun hh=>?_) (fun hh=>?_))
  ·cases hh
   exact p' 2 rfl (F0.s hC rfl (e' rfl (re' (rt' rfl rfl rfl))))
  obtain ⟨x7,hx7,hh⟩:=bs' hh
  cases hh
  exact sk' (p' 3 rfl (c' (Mu hx7) rfl rfl (o' 2 rfl (F0.s hC rfl (e' rfl (re' (rt' rfl rfl rfl)))))))
theorem E8 {l atV res}(hh:T2 l atV=some res):Nt l atV res:=(Np l).1 _ _ hh
theorem T1d {l atV res}(hh:Di l atV=some res):A14 l atV res:=(Np l).2.2.2.2.2.2.1 _ _ hh
def Yl (text:Str)(l:List K0)(atV:Int):Option Int:=
 if (decide (atV < ((l).length:Int)))=true then
  idx l atV>>=fun x1=>
  some x1.At
 else
  some ((text).length:Int)
theorem G1c {text l atV res}(hh:Yl text l atV=some res):O0 C 33 [.d (.str text),.d (.sl (K0.rows l)),.d (.int .i64 atV)] [] (Ret [] (.d (.int .i64 res))):=by
 unfold Yl at hh
 refine O0.intro hC Tryz.func33 rfl rfl rfl (t' rfl (S' (p' 2 rfl (qe' rfl trivial (K0.lenA _) (e' rfl (ci' rfl hh (fun hh=>?_) (fun hh=>?_)))))))
 ·obtain ⟨x1,hx1,hh⟩:=bs' hh
  cases hh
  exact p' 2 rfl (i' rfl (C1 hx1) (K0.idx hx1) rfl (e' rfl (re' (rt' rfl rfl rfl))))
 cases hh
 exact sk' (t' rfl (re' (rt' rfl rfl rfl)))
def Wb (e:A0):Option Bool:=
 U3 e (A0.mk 0 0 [] [])>>=fun x1=>
 some x1
theorem Ii {e res}(hh:Wb e=some res):O0 C 124 [.agg (A0.cells e)] [] (Ret [] (.d (.bool res))):=by
 unfold Wb at hh
 obtain ⟨x1,hx1,hh⟩:=bs' hh
 cases hh
 exact O0.intro hC Tryz.func124 rfl rfl rfl (s' rfl rfl (F0.n hC rfl (e' rfl (p' 2 rfl (c' (Ub hx1) rfl rfl (e' rfl (re' (rt' rfl rfl rfl))))))))
mutual
def Ha (e:A0):Option Int:=
 Xb e 1 0
 partial_fixpoint
def Xb (e:A0)(n:Int)(i:Int):Option Int:=
 if (decide (i < ((e.Kids).length:Int)))=true then
  idx e.Kids i>>=fun x1=>
  Ha x1>>=fun x2=>
  Xb e (IntKind.i64.wrap (n+x2)) (IntKind.i64.wrap (i+1))
 else
  some n
 partial_fixpoint
end
abbrev Av (e:A0)(res:Int):Prop:=O0 C 125 [.agg (A0.cells e)] [] (Ret [] (.d (.int .i64 res)))
abbrev J12 (e:A0)(n:Int)(i:Int)(res:Int):Prop:=LM C 21 0 Tryz.f125 [1,1,0,1,4] [(1,.ref 0 0),(3,.d (.int .i64 n)),(4,.d (.int .i64 i))] [.row (A0.cells e) 26] (Ret [] (.d (.int .i64 res)))
theorem R14:(∀ e res,Ha e=some res→Av e res)∧(∀ e n i res,Xb e n i=some res→J12 e n i res):=by
 refine Ha.mutual_partial_correctness _ _ ?_ ?_
 ·intro g1 ih1 e res hh
  exact O0.intro hC Tryz.func125 rfl rfl rfl (s' rfl rfl (F0.n hC rfl (e' rfl (t' rfl (S' (t' rfl (bk' (fw' (ih1 _ _ _ _ hh) rfl rfl rfl))))))))
 ·intro g0 g1 ih0 ih1 e n i res hh
  refine W0.unroll (S' (p' 3 rfl (qe' rfl trivial (A0.lenA _) (e' rfl (ci' rfl hh (fun hh=>?_) (fun hh=>?_))))))
  ·obtain ⟨x1,hx1,hh⟩:=bs' hh
   obtain ⟨x2,hx2,hh⟩:=bs' hh
   exact sk' (S' (bk' (P' 4 rfl (i' rfl (C1 hx1) (A0.idx hx1) rfl (q' rfl (c' (ih0 _ _ hx2) rfl rfl (e' rfl (T' rfl (lw' (ih1 _ _ _ _ hh) rfl rfl rfl)))))))))
  cases hh
  exact ex' (t' rfl (re' (rt' rfl rfl rfl)))
theorem U16 {e res}(hh:Ha e=some res):Av e res:=(R14).1 _ _ hh
mutual
def Ia (e:A0):Option Int:=
 C9 e 0 0
 partial_fixpoint
def C9 (e:A0)(d:Int)(i:Int):Option Int:=
 if (decide (i < ((e.Kids).length:Int)))=true then
  idx e.Kids i>>=fun x1=>
  Ia x1>>=fun x2=>
  if (decide (x2 > d))=true then
   C9 e x2 (IntKind.i64.wrap (i+1))
  else
   C9 e d (IntKind.i64.wrap (i+1))
 else
  some (IntKind.i64.wrap (d+1))
 partial_fixpoint
end
abbrev Bv (e:A0)(res:Int):Prop:=O0 C 127 [.agg (A0.cells e)] [] (Ret [] (.d (.int .i64 res)))
abbrev K12 (e:A0)(d:Int)(i:Int)(res:Int):Prop:=LM C 25 0 Tryz.f127 [1,1,0,1,4] [(1,.ref 0 0),(3,.d (.int .i64 d)),(4,.d (.int .i64 i))] [.row (A0.cells e) 26] (Ret [] (.d (.int .i64 res)))
theorem S14:(∀ e res,Ia e=some res→Bv e res)∧(∀ e d i res,C9 e d i=some res→K12 e d i res):=by
 refine Ia.mutual_partial_correctness _ _ ?_ ?_
 ·intro g1 ih1 e res hh
  exact O0.intro hC Tryz.func127 rfl rfl rfl (s' rfl rfl (F0.n hC rfl (e' rfl (t' rfl (S' (t' rfl (bk' (fw' (ih1 _ _ _ _ hh) rfl rfl rfl))))))))
 ·intro g0 g1 ih0 ih1 e d i res hh
  refine W0.unroll (S' (p' 3 rfl (qe' rfl trivial (A0.lenA _) (e' rfl (ci' rfl hh (fun hh=>?_) (fun hh=>?_))))))
  ·obtain ⟨x1,hx1,hh⟩:=bs' hh
   obtain ⟨x2,hx2,hh⟩:=bs' hh
   refine sk' (S' (bk' (p' 3 rfl (i' rfl (C1 hx1) (A0.idx hx1) rfl (q' rfl (c' (ih0 _ _ hx2) rfl rfl (e' rfl (t' rfl (ci' rfl hh (fun hh=>?_) (fun hh=>?_))))))))))
   ·exact T' rfl (T' rfl (lw' (ih1 _ _ _ _ hh) rfl rfl rfl))
   exact sk' (T' rfl (lw' (ih1 _ _ _ _ hh) rfl rfl rfl))
  cases hh
  exact ex' (t' rfl (re' (rt' rfl rfl rfl)))
theorem V16 {e res}(hh:Ia e=some res):Bv e res:=(S14).1 _ _ hh
def Y7 (s:P0)(d:Int):Option P0:=
 if (decide (d > s.depth))=true then
  some (P0.mk s.nodes d)
 else
  some s
theorem Fk {s d res}(hh:Y7 s d=some res):O0 C 126 [.agg (P0.cells s),.d (.int .i64 d)] [] (Ret [] (.agg (P0.cells res))):=by
 unfold Y7 at hh
 refine O0.intro hC Tryz.func126 rfl rfl rfl (s' rfl rfl (F0.n hC rfl (F0.n hC rfl (n' (S' (t' rfl (ci' rfl hh (fun hh=>?_) (fun hh=>?_))))))))
 ·cases hh
  exact P' 2 rfl (F0.s hC rfl (n' (p' 1 rfl (F0.s hC rfl (n' (re' (rt' rfl rfl rfl)))))))
 cases hh
 exact sk' (p' 1 rfl (F0.s hC rfl (n' (re' (rt' rfl rfl rfl)))))
def Jb (s:P0)(e:A0)(used:Bool):Option P0:=
 (if (!used)=true then Wb e else some default)>>=fun x1=>
 if (bif (!used) then x1 else false)=true then
  some s
 else
  Ha e>>=fun x2=>
  Ia e>>=fun x3=>
  Y7 (P0.mk (IntKind.i64.wrap (s.nodes+x2)) s.depth) x3>>=fun x4=>
  some x4
theorem Gk {s e used res}(hh:Jb s e used=some res):O0 C 68 [.agg (P0.cells s),.agg (A0.cells e),.d (.bool used)] [] (Ret [] (.agg (P0.cells res))):=by
 unfold Jb at hh
 obtain ⟨x1,hx1,hh⟩:=bs' hh
 refine O0.intro hC Tryz.func68 rfl rfl rfl (s' rfl rfl (F0.n hC rfl (F0.n hC rfl (F0.n hC rfl (n' (S' (sg' 6 rfl (G' 4 rfl (AG.c rfl rfl (fun hg=>⟨hg,trivial⟩) (fun hw=>Ii (E1 hw hx1)) (pa' rfl (an' (n' (ci' rfl hh (fun hh=>?_) (fun hh=>?_))))))))))))))
 ·cases hh
  exact p' 1 rfl (F0.s hC rfl (n' (re' (rt' rfl rfl rfl))))
 obtain ⟨x2,hx2,hh⟩:=bs' hh
 obtain ⟨x3,hx3,hh⟩:=bs' hh
 obtain ⟨x4,hx4,hh⟩:=bs' hh
 cases hh
 refine sk' (S' (AEx.draw hC 6 rfl rfl rfl (O' 3 rfl (Qc' (U16 hx2) rfl rfl (E' rfl (F0.s hC rfl (n' (S' (AEx.draw hC 4 rfl rfl rfl (O' 2 rfl (Qc' (V16 hx3) rfl rfl (Qc' (Fk hx4) rfl rfl (Qn' ?_)))))))))))))
 exact F0.s hC rfl (n' (re' (rt' rfl rfl rfl)))
def Pp (o:Int):Option Int:=
 if (bif (bif (bif (o == 0) then true else (o == 1)) then true else (o == 2)) then true else (o == 3))=true then
  some 0
 else
  if (bif (bif (o == 4) then true else (o == 6)) then true else (o == 7))=true then
   some 1
  else
   if (bif (o == 5) then true else (bif (decide (o≥8)) then (decide (o≤22)) else false))=true then
    some 2
   else
    if (o == 23)=true then
     some 3
    else
     some (-1)
theorem C1g {o res}(hh:Pp o=some res):O0 C 128 [.d (.int .i64 o)] [] (Ret [] (.d (.int .i64 res))):=by
 unfold Pp at hh
 refine O0.intro hC Tryz.func128 rfl rfl rfl (t' rfl (S' (sg' 14 rfl (G' 4 rfl (a1' rfl (po' rfl (G' 2 rfl (a1' rfl (po' rfl (G' 2 rfl (a1' rfl (po' rfl (an' ?_)))))))))))))
 refine n' (ci' rfl hh (fun hh=>?_) (fun hh=>?_))
 ·cases hh
  exact t' rfl (re' (rt' rfl rfl rfl))
 refine sk' (S' (sg' 10 rfl (G' 4 rfl (a1' rfl (po' rfl (G' 2 rfl (a1' rfl (po' rfl (an' (n' (ci' rfl hh (fun hh=>?_) (fun hh=>?_))))))))))))
 ·cases hh
  exact t' rfl (re' (rt' rfl rfl rfl))
 refine sk' (S' (sg' 10 rfl (G' 4 rfl (a1' rfl (a1' rfl (a0' rfl (a1' rfl (pA' rfl (po' rfl (an' (n' (ci' rfl hh (fun hh=>?_) (fun hh=>?_)))))))))))))
 ·cases hh
  exact t' rfl (re' (rt' rfl rfl rfl))
 refine sk' (S' (t' rfl (ci' rfl hh (fun hh=>?_) (fun hh=>?_))))
 ·cases hh
  exact t' rfl (re' (rt' rfl rfl rfl))
 cases hh
 exact sk' (t' rfl (re' (rt' rfl rfl rfl)))
def Hd (e:A0):Option Bool:=
 if (e.Op == 3)=true then
  some true
 else
  (if (bif (bif (e.Op == 4) then true else (e.Op == 5)) then (decide (((e.Kids).length:Int) > 0)) else false)=true then idx e.Kids 0 else some default)>>=fun x1=>
  (if (bif (bif (e.Op == 4) then true else (e.Op == 5)) then (decide (((e.Kids).length:Int) > 0)) else false)=true then Hd x1 else some default)>>=fun x2=>
  some (bif (bif (bif (e.Op == 4) then true else (e.Op == 5)) then (decide (((e.Kids).length:Int) > 0)) else false) then x2 else false)
 partial_fixpoint
abbrev Qy (e:A0)(res:Bool):Prop:=O0 C 129 [.agg (A0.cells e)] [] (Ret [] (.d (.bool res)))
theorem L18:(∀ e res,Hd e=some res→Qy e res):=by
 refine Hd.partial_correctness _ ?_
 ·intro g0 ih0 e res hh
  refine O0.intro hC Tryz.func129 rfl rfl rfl (s' rfl rfl (F0.n hC rfl (e' rfl (S' (t' rfl (ci' rfl hh (fun hh=>?_) (fun hh=>?_)))))))
  ·cases hh
   exact t' rfl (re' (rt' rfl rfl rfl))
  obtain ⟨x1,hx1,hh⟩:=bs' hh
  obtain ⟨x2,hx2,hh⟩:=bs' hh
  cases hh
  refine sk' (sg' 22 rfl (G' 5 rfl (a1' rfl (a1' rfl (po' rfl (G' 2 rfl (a1' rfl (AG.qe hC rfl (fun hg=>⟨⟨hg,trivial⟩,trivial⟩) (A0.lenA _) (a1' rfl (pa' rfl (G' 2 rfl (a1' rfl (AG.i hC rfl rfl (fun hg=>⟨hg,trivial⟩) (fun hw=>⟨C1 (E1 hw hx1),A0.idx (E1 hw hx1),rfl⟩) ?_)))))))))))))
  exact a1' rfl (AG.c rfl rfl (fun hg=>⟨hg,trivial⟩) (fun hw=>ih0 _ _ (E1 hw hx2)) (pa' rfl (a0' rfl (an' (n' (re' (rt' rfl rfl rfl)))))))
theorem Sw {e res}(hh:Hd e=some res):Qy e res:=(L18) _ _ hh
mutual
def S5 (e:A0):Option Bool:=
 Pp e.Op>>=fun x1=>
 if (bif (bif (x1 != ((e.Kids).length:Int)) then true else (bif (e.Op != 0) then (e.NV != 0) else false)) then true else (bif (bif (e.Op != 3) then (e.Op != 4) else false) then (!(e.Name == [])) else false))=true then
  some false
 else
  (if (bif (e.Op == 4) then true else (e.Op == 5))=true then Hd e else some default)>>=fun x2=>
  if (bif (bif (e.Op == 4) then true else (e.Op == 5)) then (!x2) else false)=true then
   some false
  else
   Bd e 0
 partial_fixpoint
def Bd (e:A0)(i:Int):Option Bool:=
 if (decide (i < ((e.Kids).length:Int)))=true then
  idx e.Kids i>>=fun x3=>
  S5 x3>>=fun x4=>
  if (!x4)=true then
   some false
  else
   Bd e (IntKind.i64.wrap (i+1))
 else
  some true
 partial_fixpoint
end
abbrev Tw (e:A0)(res:Bool):Prop:=O0 C 69 [.agg (A0.cells e)] [] (Ret [] (.d (.bool res)))
abbrev T14 (e:A0)(i:Int)(res:Bool):Prop:=LM C 63 0 Tryz.f69 [1,1,1,0,1,4] [(1,.ref 0 0),(3,.d (.int .i64 i))] [.row (A0.cells e) 26] (Ret [] (.d (.bool res)))
theorem W16:(∀ e res,S5 e=some res→Tw e res)∧(∀ e i res,Bd e i=some res→T14 e i res):=by
 refine S5.mutual_partial_correctness _ _ ?_ ?_
 ·intro g1 ih1 e res hh
  obtain ⟨x1,hx1,hh⟩:=bs' hh
  refine O0.intro hC Tryz.func69 rfl rfl rfl (s' rfl rfl (F0.n hC rfl (e' rfl (S' (S' (AEx.drawG hC 32 rfl rfl rfl (G' 2 rfl (AG.c rfl rfl (fun _=>trivial) (fun _=>C1g hx1) (G' 2 rfl (AG.qe hC rfl (fun hg=>⟨trivial,trivial⟩) (A0.lenA _) (G' 3 rfl (a1' rfl (a1' rfl ?_)))))))))))))
  refine a1' rfl (a0' rfl (a1' rfl (a1' rfl (pA' rfl (po' rfl (G' 2 rfl (a1' rfl (a1' rfl (a1' rfl (a0' rfl (a1' rfl (a1' rfl (pA' rfl ?_)))))))))))))
  refine a1' rfl (a0' rfl (a1' rfl (a1' rfl (pA' rfl (po' rfl (an' (n' (ci' rfl hh (fun hh=>?_) (fun hh=>?_)))))))))
  ·cases hh
   exact t' rfl (re' (rt' rfl rfl rfl))
  obtain ⟨x2,hx2,hh⟩:=bs' hh
  refine sk' (S' (sg' 13 rfl (G' 5 rfl (a1' rfl (a1' rfl (po' rfl (G' 2 rfl (AG.c rfl rfl (fun hg=>⟨hg,trivial⟩) (fun hw=>Sw (E1 hw hx2)) (a1' rfl (pa' rfl (an' (n' (ci' rfl hh (fun hh=>?_) (fun hh=>?_))))))))))))))
  ·cases hh
   exact t' rfl (re' (rt' rfl rfl rfl))
  exact sk' (S' (t' rfl (bk' (fw' (ih1 _ _ _ hh) rfl rfl rfl))))
 ·intro g0 g1 ih0 ih1 e i res hh
  refine W0.unroll (S' (p' 3 rfl (qe' rfl trivial (A0.lenA _) (e' rfl (ci' rfl hh (fun hh=>?_) (fun hh=>?_))))))
  ·obtain ⟨x3,hx3,hh⟩:=bs' hh
   obtain ⟨x4,hx4,hh⟩:=bs' hh
   refine sk' (S' (bk' (p' 3 rfl (i' rfl (C1 hx3) (A0.idx hx3) rfl (q' rfl (c' (ih0 _ _ hx4) rfl rfl (e' rfl (ci' rfl hh (fun hh=>?_) (fun hh=>?_)))))))))
   ·cases hh
    exact t' rfl (re' (rt' rfl rfl rfl))
   exact sk' (T' rfl (lw' (ih1 _ _ _ hh) rfl rfl rfl))
  cases hh
  exact ex' (t' rfl (re' (rt' rfl rfl rfl)))
theorem Ji {e res}(hh:S5 e=some res):Tw e res:=(W16).1 _ _ hh
def Qp (s:Str):Option Bool:=
 (if (!(bif (decide (((s).length:Int) < 1)) then true else (decide (((s).length:Int) > 12))))=true then idx s 0 else some default)>>=fun x1=>
 (if (!(bif (decide (((s).length:Int) < 1)) then true else (decide (((s).length:Int) > 12))))=true then Og (x1.toNat:Int) else some default)>>=fun x2=>
 (if (!(bif (bif (decide (((s).length:Int) < 1)) then true else (decide (((s).length:Int) > 12))) then true else (!x2)))=true then Eg s else some default)>>=fun x3=>
 if (bif (bif (bif (decide (((s).length:Int) < 1)) then true else (decide (((s).length:Int) > 12))) then true else (!x2)) then true else x3)=true then
  some false
 else
  Wl s 0>>=fun x4=>
  some (x4 == ((s).length:Int))
theorem H1c {s res}(hh:Qp s=some res):O0 C 170 [.d (.str s)] [] (Ret [] (.d (.bool res))):=by
 unfold Qp at hh
 obtain ⟨x1,hx1,hh⟩:=bs' hh
 obtain ⟨x2,hx2,hh⟩:=bs' hh
 obtain ⟨x3,hx3,hh⟩:=bs' hh
 refine O0.intro hC Tryz.func170 rfl rfl rfl (t' rfl (S' (sg' 18 rfl (G' 5 rfl (a1' rfl (a1' rfl (po' rfl (G' 2 rfl (AG.x hC rfl rfl (fun hg=>⟨hg,trivial⟩) (fun hw=>⟨C1 (E1 hw hx1),H5 (E1 hw hx1)⟩) (AG.c rfl rfl (fun hg=>⟨hg,trivial⟩) (fun hw=>Jl (E1 hw hx2)) (a1' rfl (po' rfl (G' 2 rfl ?_)))))))))))))
 refine AG.c rfl rfl (fun hg=>⟨hg,trivial⟩) (fun hw=>Wu (E1 hw hx3)) (po' rfl (an' (n' (ci' rfl hh (fun hh=>?_) (fun hh=>?_)))))
 ·cases hh
  exact t' rfl (re' (rt' rfl rfl rfl))
 obtain ⟨x4,hx4,hh⟩:=bs' hh
 cases hh
 exact sk' (p' 1 rfl (c' (P16 hx4) rfl rfl (e' rfl (re' (rt' rfl rfl rfl)))))
def Tc (s:Str):Option Bool:=
 Qp s>>=fun x1=>
 some x1
theorem Oh {s res}(hh:Tc s=some res):O0 C 130 [.d (.str s)] [] (Ret [] (.d (.bool res))):=by
 unfold Tc at hh
 obtain ⟨x1,hx1,hh⟩:=bs' hh
 cases hh
 exact O0.intro hC Tryz.func130 rfl rfl rfl (t' rfl (p' 1 rfl (c' (H1c hx1) rfl rfl (e' rfl (re' (rt' rfl rfl rfl))))))
end Go.Proofs.YtmnhfbekncjnfaaGreatDoor

set_option maxRecDepth 100000
set_option maxHeartbeats 4000000
set_option synthInstance.maxSize 20000
set_option linter.unusedVariables false
namespace Go.Proofs.YtmnhfbekncjnfaaGreatDoor
open Go.Am
mutual
def J5 (e:A0):Option Bool:=
 (if (bif (e.Op == 3) then true else (e.Op == 4))=true then Tc e.Name else some default)>>=fun x1=>
 if (bif (bif (e.Op == 3) then true else (e.Op == 4)) then (!x1) else false)=true then
  some false
 else
  Yb e 0
 partial_fixpoint
def Yb (e:A0)(i:Int):Option Bool:=
 if (decide (i < ((e.Kids).length:Int)))=true then
  idx e.Kids i>>=fun x2=>
  J5 x2>>=fun x3=>
  if (!x3)=true then
   some false
  else
   Yb e (IntKind.i64.wrap (i+1))
 else
  some true
 partial_fixpoint
end
abbrev Cv (e:A0)(res:Bool):Prop:=O0 C 70 [.agg (A0.cells e)] [] (Ret [] (.d (.bool res)))
abbrev L12 (e:A0)(i:Int)(res:Bool):Prop:=LM C 32 0 Tryz.f70 [1,1,0,1,4] [(1,.ref 0 0),(3,.d (.int .i64 i))] [.row (A0.cells e) 26] (Ret [] (.d (.bool res)))
theorem U14:(∀ e res,J5 e=some res→Cv e res)∧(∀ e i res,Yb e i=some res→L12 e i res):=by
 refine J5.mutual_partial_correctness _ _ ?_ ?_
 ·intro g1 ih1 e res hh
  obtain ⟨x1,hx1,hh⟩:=bs' hh
  refine O0.intro hC Tryz.func70 rfl rfl rfl (s' rfl rfl (F0.n hC rfl (e' rfl (S' (sg' 14 rfl (G' 5 rfl (a1' rfl (a1' rfl (po' rfl (G' 2 rfl (a1' rfl (AG.c rfl rfl (fun hg=>⟨hg,trivial⟩) (fun hw=>Oh (E1 hw hx1)) (a1' rfl ?_)))))))))))))
  refine pa' rfl (an' (n' (ci' rfl hh (fun hh=>?_) (fun hh=>?_))))
  ·cases hh
   exact t' rfl (re' (rt' rfl rfl rfl))
  exact sk' (S' (t' rfl (bk' (fw' (ih1 _ _ _ hh) rfl rfl rfl))))
 ·intro g0 g1 ih0 ih1 e i res hh
  refine W0.unroll (S' (p' 3 rfl (qe' rfl trivial (A0.lenA _) (e' rfl (ci' rfl hh (fun hh=>?_) (fun hh=>?_))))))
  ·obtain ⟨x2,hx2,hh⟩:=bs' hh
   obtain ⟨x3,hx3,hh⟩:=bs' hh
   refine sk' (S' (bk' (p' 3 rfl (i' rfl (C1 hx2) (A0.idx hx2) rfl (q' rfl (c' (ih0 _ _ hx3) rfl rfl (e' rfl (ci' rfl hh (fun hh=>?_) (fun hh=>?_)))))))))
   ·cases hh
    exact t' rfl (re' (rt' rfl rfl rfl))
   exact sk' (T' rfl (lw' (ih1 _ _ _ hh) rfl rfl rfl))
  cases hh
  exact ex' (t' rfl (re' (rt' rfl rfl rfl)))
theorem Ph {e res}(hh:J5 e=some res):Cv e res:=(U14).1 _ _ hh
mutual
def J4 (e:A0):Option Bool:=
 if (bif (e.Op == 0) then (bif (decide (e.NV < 0)) then true else (decide (e.NV > 1048576))) else false)=true then
  some false
 else
  R9 e 0
 partial_fixpoint
def R9 (e:A0)(i:Int):Option Bool:=
 if (decide (i < ((e.Kids).length:Int)))=true then
  idx e.Kids i>>=fun x1=>
  J4 x1>>=fun x2=>
  if (!x2)=true then
   some false
  else
   R9 e (IntKind.i64.wrap (i+1))
 else
  some true
 partial_fixpoint
end
abbrev Rq (e:A0)(res:Bool):Prop:=O0 C 71 [.agg (A0.cells e)] [] (Ret [] (.d (.bool res)))
abbrev Cz (e:A0)(i:Int)(res:Bool):Prop:=LM C 31 0 Tryz.f71 [1,1,0,1,4] [(1,.ref 0 0),(3,.d (.int .i64 i))] [.row (A0.cells e) 26] (Ret [] (.d (.bool res)))
theorem T10:(∀ e res,J4 e=some res→Rq e res)∧(∀ e i res,R9 e i=some res→Cz e i res):=by
 refine J4.mutual_partial_correctness _ _ ?_ ?_
 ·intro g1 ih1 e res hh
  refine O0.intro hC Tryz.func71 rfl rfl rfl (s' rfl rfl (F0.n hC rfl (e' rfl (S' (sg' 13 rfl (G' 5 rfl (a1' rfl (a1' rfl (a1' rfl (a0' rfl (a1' rfl (a1' rfl (pO' rfl ?_)))))))))))))
  refine pa' rfl (an' (n' (ci' rfl hh (fun hh=>?_) (fun hh=>?_))))
  ·cases hh
   exact t' rfl (re' (rt' rfl rfl rfl))
  exact sk' (S' (t' rfl (bk' (fw' (ih1 _ _ _ hh) rfl rfl rfl))))
 ·intro g0 g1 ih0 ih1 e i res hh
  refine W0.unroll (S' (p' 3 rfl (qe' rfl trivial (A0.lenA _) (e' rfl (ci' rfl hh (fun hh=>?_) (fun hh=>?_))))))
  ·obtain ⟨x1,hx1,hh⟩:=bs' hh
   obtain ⟨x2,hx2,hh⟩:=bs' hh
   refine sk' (S' (bk' (p' 3 rfl (i' rfl (C1 hx1) (A0.idx hx1) rfl (q' rfl (c' (ih0 _ _ hx2) rfl rfl (e' rfl (ci' rfl hh (fun hh=>?_) (fun hh=>?_)))))))))
   ·cases hh
    exact t' rfl (re' (rt' rfl rfl rfl))
   exact sk' (T' rfl (lw' (ih1 _ _ _ hh) rfl rfl rfl))
  cases hh
  exact ex' (t' rfl (re' (rt' rfl rfl rfl)))
theorem Rf {e res}(hh:J4 e=some res):Rq e res:=(T10).1 _ _ hh
def Xk (s:P0)(form:Bool)(names:Bool)(numbers:Bool):Option Int:=
 if (bif (decide (s.nodes > 1024)) then true else (decide (s.depth > 12)))=true then
  some 4
 else
  if (!form)=true then
   some 1
  else
   if (!names)=true then
    some 7
   else
    if (!numbers)=true then
     some 3
    else
     some 0
theorem D1a {s form names numbers res}(hh:Xk s form names numbers=some res):O0 C 67 [.agg (P0.cells s),.d (.bool form),.d (.bool names),.d (.bool numbers)] [] (Ret [] (.d (.int .i64 res))):=by
 unfold Xk at hh
 refine O0.intro hC Tryz.func67 rfl rfl rfl (s' rfl rfl (F0.n hC rfl (e' rfl (S' (sg' 8 rfl (G' 5 rfl (a1' rfl (a1' rfl (po' rfl (an' (n' (ci' rfl hh (fun hh=>?_) (fun hh=>?_)))))))))))))
 ·cases hh
  exact t' rfl (re' (rt' rfl rfl rfl))
 refine sk' (S' (t' rfl (ci' rfl hh (fun hh=>?_) (fun hh=>?_))))
 ·cases hh
  exact t' rfl (re' (rt' rfl rfl rfl))
 refine sk' (S' (t' rfl (ci' rfl hh (fun hh=>?_) (fun hh=>?_))))
 ·cases hh
  exact t' rfl (re' (rt' rfl rfl rfl))
 refine sk' (S' (t' rfl (ci' rfl hh (fun hh=>?_) (fun hh=>?_))))
 ·cases hh
  exact t' rfl (re' (rt' rfl rfl rfl))
 cases hh
 exact sk' (t' rfl (re' (rt' rfl rfl rfl)))
def U2 (parserParser:B0):Option (Pn (Int×B0)):=
 R0 [45] parserParser>>=fun x1=>
 if x1.1=true then
  A5 x1.2>>=fun x2=>match x2 with
  | .pn nn=>
  some (.pn nn)
  | .ok x2=>
  some (.ok ((IntKind.i64.wrap (0 - x2.1)),x2.2))
 else
  A5 x1.2>>=fun x3=>match x3 with
  | .pn nn=>
  some (.pn nn)
  | .ok x3=>
  some (.ok (x3.1,x3.2))
theorem B1 {parserParser res}(hh:U2 parserParser=some res):E2 C 72 [.ref 0 0] [.row (B0.cells parserParser) 99] (R4 res (fun rr=>[.row (B0.cells rr.2) 99]) (fun rr=>.d (.int .i64 rr.1))) (N4 res L3 [.dead]):=by
 unfold U2 at hh
 obtain ⟨x1,hx1,hh⟩:=bs' hh
 refine E2.intro hC Tryz.func72 rfl rfl rfl (t' rfl (S' (p' 1 rfl (g' [0] (S0 hx1) rfl rfl rfl rfl rfl rfl (n' (ci' rfl hh (fun hh=>?_) (fun hh=>?_)))))))
 ·refine p' 1 rfl ?_
  rcases bp' hh with ⟨nn,hx2,⟨⟩⟩ | ⟨x2,hx2,hh⟩
  ·exact gn' [0] (F7 hx2) rfl rfl rfl rfl rfl (fun hi=>peW ⟨trivial,trivial⟩ rfl hi)
  cases hh
  exact g' [0] ((F7 hx2).ok) rfl rfl rfl rfl rfl rfl (e' rfl (re' (rt' rfl rfl rfl)))
 refine sk' (p' 1 rfl ?_)
 rcases bp' hh with ⟨nn,hx3,⟨⟩⟩ | ⟨x3,hx3,hh⟩
 ·exact gn' [0] (F7 hx3) rfl rfl rfl rfl rfl (fun hi=>peW ⟨trivial,trivial⟩ rfl hi)
 cases hh
 exact g' [0] ((F7 hx3).ok) rfl rfl rfl rfl rfl rfl (e' rfl (re' (rt' rfl rfl rfl)))
mutual
def Y4 (parserParser:B0):Option (Pn (I0×B0)):=
 R0 [98,111,111,108] parserParser>>=fun x1=>
 if x1.1=true then
  some (.ok ((I0.mk 0 0 0 0 [] [] []),x1.2))
 else
  R0 [105,110,116] x1.2>>=fun x2=>
  if x2.1=true then
   T0 [91] x2.2>>=fun x3=>match x3 with
   | .pn nn=>
   some (.pn nn)
   | .ok x3=>
   U2 x3>>=fun x4=>match x4 with
   | .pn nn=>
   some (.pn nn)
   | .ok x4=>
   T0 [46,46] x4.2>>=fun x5=>match x5 with
   | .pn nn=>
   some (.pn nn)
   | .ok x5=>
   U2 x5>>=fun x6=>match x6 with
   | .pn nn=>
   some (.pn nn)
   | .ok x6=>
   T0 [93] x6.2>>=fun x7=>match x7 with
   | .pn nn=>
   some (.pn nn)
   | .ok x7=>
   some (.ok ((I0.mk 1 x4.1 x6.1 0 [] [] []),x7))
  else
   R0 [97,114,114,97,121] x2.2>>=fun x8=>
   if x8.1=true then
    U2 x8.2>>=fun x9=>match x9 with
    | .pn nn=>
    some (.pn nn)
    | .ok x9=>
    T0 [111,102] x9.2>>=fun x10=>match x10 with
    | .pn nn=>
    some (.pn nn)
    | .ok x10=>
    Y4 x10>>=fun x16=>match x16 with
    | .pn nn=>
    some (.pn nn)
    | .ok x16=>
    some (.ok ((I0.mk 2 0 0 x9.1 [] [] [x16.1]),x16.2))
   else
    R0 [114,101,99,111,114,100] x8.2>>=fun x11=>
    if x11.1=true then
     T0 [123] x11.2>>=fun x12=>match x12 with
     | .pn nn=>
     some (.pn nn)
     | .ok x12=>
     S9 x12 [] []
    else
     X2 x11.2>>=fun x13=>match x13 with
     | .pn nn=>
     some (.pn nn)
     | .ok x13=>
     some (.ok ((I0.mk 4 0 0 0 x13.1 [] []),x13.2))
 partial_fixpoint
def S9 (o0:B0)(o2_Names:List Str)(o2_Of:List I0):Option (Pn (I0×B0)):=
 X2 o0>>=fun x14=>match x14 with
 | .pn nn=>
 some (.pn nn)
 | .ok x14=>
 T0 [58] x14.2>>=fun x15=>match x15 with
 | .pn nn=>
 some (.pn nn)
 | .ok x15=>
 Y4 x15>>=fun x17=>match x17 with
 | .pn nn=>
 some (.pn nn)
 | .ok x17=>
 if (decide ((o2_Names.length+1) * 17≤140737488355328))=true then
  if (decide ((o2_Of.length+1) * 97≤140737488355328))=true then
   R0 [44] x17.2>>=fun x18=>
   if (!x18.1)=true then
    T0 [125] x18.2>>=fun x19=>match x19 with
    | .pn nn=>
    some (.pn nn)
    | .ok x19=>
    some (.ok ((I0.mk 3 0 0 0 [] (o2_Names++[x14.1]) (o2_Of++[x17.1])),x19))
   else
    S9 x18.2 (o2_Names++[x14.1]) (o2_Of++[x17.1])
  else none
 else none
 partial_fixpoint
end
abbrev Sq (parserParser:B0)(res:Pn (I0×B0)):Prop:=E2 C 36 [.ref 0 0] [.row (B0.cells parserParser) 99] (R4 res (fun rr=>[.row (B0.cells rr.2) 99]) (fun rr=>.agg (I0.cells rr.1))) (N4 res L3 [.dead])
abbrev Dz (o0:B0)(o2_Names:List Str)(o2_Of:List I0)(res:Pn (I0×B0)):Prop:=LMp C 74 1 Tryz.f36 [1,0,4,1,3,1,3,1,3,1,2,1,1,0,4] [(0,.ref 0 0),(2,.ref 1 0),(6,.ref 2 0)] [.row (B0.cells o0) 99,.row [.d (.int .i64 0),.d (.int .i64 0),.d (.int .i64 0),.d (.int .i64 0),.d (.str []),.full (estr.rows []),.full (I0.rows [])] 36,.row [.d (.int .i64 3),.d (.int .i64 0),.d (.int .i64 0),.d (.int .i64 0),.d (.str []),.osl 3 (estr.rows o2_Names),.osl 4 (I0.rows o2_Of)] 36,.tok 9 1,.tok 36 7] (R4 res (fun rr=>[.row (B0.cells rr.2) 99]) (fun rr=>.agg (I0.cells rr.1))) (N4 res L3 [.dead])
theorem U10:(∀ parserParser res,Y4 parserParser=some res→Sq parserParser res)∧(∀ o0 o2_Names o2_Of res,S9 o0 o2_Names o2_Of=some res→Dz o0 o2_Names o2_Of res):=by
 refine Y4.mutual_partial_correctness _ _ ?_ ?_
 ·intro g0 g1 ih0 ih1 parserParser res hh
  obtain ⟨x1,hx1,hh⟩:=bs' hh
  refine E2.intro hC Tryz.func36 rfl rfl rfl (s' rfl rfl (F0.nf hC rfl (n' (S' (bk' (p' 1 rfl (g' [0] (S0 hx1) rfl rfl rfl rfl rfl rfl (e' rfl (ci' rfl hh (fun hh=>?_) (fun hh=>?_))))))))))
  ·refine s' rfl rfl (F0.bz hC rfl (F0.s hC rfl (n' (re' ?_))))
   obtain rfl:=oi' hh
   exact ⟨_,.agg [.d (.int .i64 0),.d (.int .i64 0),.d (.int .i64 0),.d (.int .i64 0),.d (.str []),.d (.sl (estr.rows [])),.d (.sl (I0.rows []))],[.row (B0.cells x1.2) 99],rfl,(.aggL ⟨.rfl,.rfl,.rfl,.rfl,.rfl,.full,.full,trivial⟩),⟨⟨rfl,.refl _,rfl⟩,trivial⟩,rfl,rfl,rpq rfl rfl⟩
  obtain ⟨x2,hx2,hh⟩:=bs' hh
  refine p' 1 rfl (g' [0] (S0 hx2) rfl rfl rfl rfl rfl rfl (e' rfl (ci' rfl hh (fun hh=>?_) (fun hh=>?_))))
  ·refine p' 1 rfl ?_
   rcases bp' hh with ⟨nn,hx3,⟨⟩⟩ | ⟨x3,hx3,hh⟩
   ·exact gn' [0] (L0 hx3) rfl rfl rfl rfl rfl (fun hi=>peW ⟨trivial,trivial⟩ rfl hi)
   refine g' [0] ((L0 hx3).ok) rfl rfl rfl rfl rfl rfl (n' (p' 1 rfl ?_))
   rcases bp' hh with ⟨nn,hx4,⟨⟩⟩ | ⟨x4,hx4,hh⟩
   ·exact gn' [0] (B1 hx4) rfl rfl rfl rfl rfl (fun hi=>peW ⟨trivial,trivial⟩ rfl hi)
   refine g' [0] ((B1 hx4).ok) rfl rfl rfl rfl rfl rfl (e' rfl (p' 1 rfl ?_))
   rcases bp' hh with ⟨nn,hx5,⟨⟩⟩ | ⟨x5,hx5,hh⟩
   ·exact gn' [0] (L0 hx5) rfl rfl rfl rfl rfl (fun hi=>peW ⟨trivial,trivial⟩ rfl hi)
   refine g' [0] ((L0 hx5).ok) rfl rfl rfl rfl rfl rfl (n' (p' 1 rfl ?_))
   rcases bp' hh with ⟨nn,hx6,⟨⟩⟩ | ⟨x6,hx6,hh⟩
   ·exact gn' [0] (B1 hx6) rfl rfl rfl rfl rfl (fun hi=>peW ⟨trivial,trivial⟩ rfl hi)
   refine g' [0] ((B1 hx6).ok) rfl rfl rfl rfl rfl rfl (e' rfl (p' 1 rfl ?_))
   rcases bp' hh with ⟨nn,hx7,⟨⟩⟩ | ⟨x7,hx7,hh⟩
   ·exact gn' [0] (L0 hx7) rfl rfl rfl rfl rfl (fun hi=>peW ⟨trivial,trivial⟩ rfl hi)
   refine g' [0] ((L0 hx7).ok) rfl rfl rfl rfl rfl rfl (n' (p' 2 rfl (F0.bz hC rfl (F0.s hC rfl (n' (re' ?_))))))
   obtain rfl:=oi' hh
   exact ⟨_,.agg [.d (.int .i64 1),.d (.int .i64 x4.1),.d (.int .i64 x6.1),.d (.int .i64 0),.d (.str []),.d (.sl (estr.rows [])),.d (.sl (I0.rows []))],[.row (B0.cells x7) 99],rfl,(.aggL ⟨.rfl,.rfl,.rfl,.rfl,.rfl,.full,.full,trivial⟩),⟨⟨rfl,.refl _,rfl⟩,trivial⟩,rfl,rfl,rpq rfl rfl⟩
  obtain ⟨x8,hx8,hh⟩:=bs' hh
  refine p' 1 rfl (g' [0] (S0 hx8) rfl rfl rfl rfl rfl rfl (e' rfl (ci' rfl hh (fun hh=>?_) (fun hh=>?_))))
  ·refine p' 1 rfl ?_
   rcases bp' hh with ⟨nn,hx9,⟨⟩⟩ | ⟨x9,hx9,hh⟩
   ·exact gn' [0] (B1 hx9) rfl rfl rfl rfl rfl (fun hi=>peW ⟨trivial,trivial⟩ rfl hi)
   refine g' [0] ((B1 hx9).ok) rfl rfl rfl rfl rfl rfl (e' rfl (p' 1 rfl ?_))
   rcases bp' hh with ⟨nn,hx10,⟨⟩⟩ | ⟨x10,hx10,hh⟩
   ·exact gn' [0] (L0 hx10) rfl rfl rfl rfl rfl (fun hi=>peW ⟨trivial,trivial⟩ rfl hi)
   refine g' [0] ((L0 hx10).ok) rfl rfl rfl rfl rfl rfl (n' (p' 2 rfl ?_))
   rcases bp' hh with ⟨nn,hx16,⟨⟩⟩ | ⟨x16,hx16,hh⟩
   ·exact gn' [0] (ih0 _ _ hx16) rfl rfl rfl rfl rfl (fun hi=>peW ⟨trivial,trivial⟩ rfl hi)
   refine g' [0] ((ih0 _ _ hx16).ok) rfl rfl rfl rfl rfl rfl (F0.be hC rfl (I0.rows_map [x16.1]).symm (F0.bz hC rfl (F0.s hC rfl (n' (re' ?_)))))
   obtain rfl:=oi' hh
   exact ⟨_,.agg [.d (.int .i64 2),.d (.int .i64 0),.d (.int .i64 0),.d (.int .i64 x9.1),.d (.str []),.d (.sl (estr.rows [])),.d (.sl (I0.rows [x16.1]))],[.row (B0.cells x16.2) 99],rfl,(.aggL ⟨.rfl,.rfl,.rfl,.rfl,.rfl,.full,.full,trivial⟩),⟨⟨rfl,.refl _,rfl⟩,trivial⟩,rfl,rfl,rpq rfl rfl⟩
  obtain ⟨x11,hx11,hh⟩:=bs' hh
  refine p' 1 rfl (g' [0] (S0 hx11) rfl rfl rfl rfl rfl rfl (e' rfl (ci' rfl hh (fun hh=>?_) (fun hh=>?_))))
  ·refine s' rfl rfl (F0.bz hC rfl (F0.nf hC rfl (F0.s hC rfl (F0.tokC 2 5 9 1 rfl rfl rfl rfl rfl (F0.tokC 2 6 36 7 rfl rfl rfl rfl rfl (n' (p' 1 rfl ?_)))))))
   rcases bp' hh with ⟨nn,hx12,⟨⟩⟩ | ⟨x12,hx12,hh⟩
   ·exact gn' [0] (L0 hx12) rfl rfl rfl rfl rfl (fun hi=>peW ⟨trivial,trivial⟩ rfl hi)
   exact g' [0] ((L0 hx12).ok) rfl rfl rfl rfl rfl rfl (n' (S' (bk' (fw' (ih1 _ _ _ _ hh) rfl rfl rfl))))
  refine sk' (p' 1 rfl ?_)
  rcases bp' hh with ⟨nn,hx13,⟨⟩⟩ | ⟨x13,hx13,hh⟩
  ·exact gn' [0] (F1 hx13) rfl rfl rfl rfl rfl (fun hi=>peW ⟨trivial,trivial⟩ rfl hi)
  refine g' [0] ((F1 hx13).ok) rfl rfl rfl rfl rfl rfl (F0.bz hC rfl (F0.s hC rfl (n' (re' ?_))))
  obtain rfl:=oi' hh
  exact ⟨_,.agg [.d (.int .i64 4),.d (.int .i64 0),.d (.int .i64 0),.d (.int .i64 0),.d (.str x13.1),.d (.sl (estr.rows [])),.d (.sl (I0.rows []))],[.row (B0.cells x13.2) 99],rfl,(.aggL ⟨.rfl,.rfl,.rfl,.rfl,.rfl,.full,.full,trivial⟩),⟨⟨rfl,.refl _,rfl⟩,trivial⟩,rfl,rfl,rpq rfl rfl⟩
 ·intro g0 g1 ih0 ih1 o0 o2_Names o2_Of res hh
  refine W0.unroll (bk' (p' 1 rfl ?_))
  rcases bp' hh with ⟨nn,hx14,⟨⟩⟩ | ⟨x14,hx14,hh⟩
  ·exact gn' [0] (F1 hx14) rfl rfl rfl rfl rfl (fun hi=>peW ⟨trivial,trivial⟩ rfl hi)
  refine g' [0] ((F1 hx14).ok) rfl rfl rfl rfl rfl rfl (e' rfl (p' 1 rfl ?_))
  rcases bp' hh with ⟨nn,hx15,⟨⟩⟩ | ⟨x15,hx15,hh⟩
  ·exact gn' [0] (L0 hx15) rfl rfl rfl rfl rfl (fun hi=>peW ⟨trivial,trivial⟩ rfl hi)
  refine g' [0] ((L0 hx15).ok) rfl rfl rfl rfl rfl rfl (n' (p' 1 rfl ?_))
  rcases bp' hh with ⟨nn,hx17,⟨⟩⟩ | ⟨x17,hx17,hh⟩
  ·exact gn' [0] (ih0 _ _ hx17) rfl rfl rfl rfl rfl (fun hi=>peW ⟨trivial,trivial⟩ rfl hi)
  obtain ⟨c11,hh⟩:=I4 hh
  obtain ⟨c12,hh⟩:=I4 hh
  obtain ⟨x18,hx18,hh⟩:=bs' hh
  refine g' [0] ((ih0 _ _ hx17).ok) rfl rfl rfl rfl rfl rfl (F0.nf hC rfl (F0.s hC rfl (n' (S' ?_))))
  refine AEx.drawL hC 11 [4,9] [] [[.row (B0.cells x17.2) 99,.row [.d (.int .i64 0),.d (.int .i64 0),.d (.int .i64 0),.d (.int .i64 0),.d (.str []),.full (estr.rows []),.full (I0.rows [])] 36,.row [.d (.int .i64 3),.d (.int .i64 0),.d (.int .i64 0),.d (.int .i64 0),.d (.str []),.osl 3 (estr.rows o2_Names),.osl 4 (I0.rows o2_Of)] 36,.tok 9 1,.tok 36 7,.row (I0.cells x17.1) 36],[.row (B0.cells x17.2) 99,.row [.d (.int .i64 0),.d (.int .i64 0),.d (.int .i64 0),.d (.int .i64 0),.d (.str []),.full (estr.rows []),.full (I0.rows [])] 36,.row [.d (.int .i64 3),.d (.int .i64 0),.d (.int .i64 0),.d (.int .i64 0),.d (.str []),.osl 3 (estr.rows o2_Names),.osl 4 (I0.rows o2_Of)] 36,.dead,.tok 36 7,.row (I0.cells x17.1) 36,.tok 9 1],[.row (B0.cells x17.2) 99,.row [.d (.int .i64 0),.d (.int .i64 0),.d (.int .i64 0),.d (.int .i64 0),.d (.str []),.full (estr.rows []),.full (I0.rows [])] 36,.row [.d (.int .i64 3),.d (.int .i64 0),.d (.int .i64 0),.d (.int .i64 0),.d (.str []),.osl 3 (estr.rows o2_Names),.osl 4 (I0.rows o2_Of)] 36,.dead,.dead,.row (I0.cells x17.1) 36,.tok 9 1,.tok 36 7]] rfl rfl rfl rfl rfl rfl rfl rfl rfl rfl ?_
  refine AS.q hC rfl rfl rfl rfl (AS.q hC rfl rfl rfl rfl (AS.q hC rfl rfl rfl rfl (AS.a rfl (fun H=>AQ.be hC rfl (estr.rows_map [x14.1]).symm (AQ.nil rfl)) rfl rfl (AS.am hC rfl rfl rfl rfl rfl (rs:=estr.rows (o2_Names++[x14.1])) (estr.app o2_Names [x14.1]) (estr.sz o2_Names) (estr.sz [x14.1]) (P1 (estr.len o2_Names) (estr.len [x14.1]) c11) rfl rfl (AS.q hC rfl rfl rfl rfl (AS.q hC rfl rfl rfl rfl ?_))))))
  refine AS.q hC rfl rfl rfl rfl (AS.a rfl (fun H=>AQ.be hC rfl (I0.rows_map [x17.1]).symm (AQ.nil rfl)) rfl rfl (AS.am hC rfl rfl rfl rfl rfl (rs:=I0.rows (o2_Of++[x17.1])) (I0.app o2_Of [x17.1]) (I0.sz o2_Of) (I0.sz [x17.1]) (P1 (I0.len o2_Of) (I0.len [x17.1]) c12) rfl rfl (AS.q hC rfl rfl rfl rfl (AS.nil (F0.s hC rfl (q' rfl (F0.s hC rfl (n' (p' 1 rfl ?_)))))))))
  refine g' [0] (S0 hx18) rfl rfl rfl rfl rfl rfl (e' rfl (ci' rfl hh (fun hh=>?_) (fun hh=>?_)))
  ·refine ex' (p' 1 rfl ?_)
   rcases bp' hh with ⟨nn,hx19,⟨⟩⟩ | ⟨x19,hx19,hh⟩
   ·exact gn' [0] (L0 hx19) rfl rfl rfl rfl rfl (fun hi=>peW ⟨trivial,trivial⟩ rfl hi)
   refine g' [0] ((L0 hx19).ok) rfl rfl rfl rfl rfl rfl (n' (p' 1 rfl (F0.s hC rfl (n' (re' ?_)))))
   obtain rfl:=oi' hh
   exact ⟨_,.agg [.d (.int .i64 3),.d (.int .i64 0),.d (.int .i64 0),.d (.int .i64 0),.d (.str []),.d (.sl (estr.rows (o2_Names++[x14.1]))),.d (.sl (I0.rows (o2_Of++[x17.1])))],[.row (B0.cells x19) 99],rfl,(.aggL ⟨.rfl,.rfl,.rfl,.rfl,.rfl,.osl,.osl,trivial⟩),⟨⟨rfl,.refl _,rfl⟩,trivial⟩,rfl,rfl,rpq rfl rfl⟩
  refine sk' ?_
  refine W0.rj (L:=[(0,.ref 0 0),(2,.ref 1 0),(6,.ref 2 0)]) (H2:=[.row (B0.cells x18.2) 99,.row [.d (.int .i64 0),.d (.int .i64 0),.d (.int .i64 0),.d (.int .i64 0),.d (.str []),.full (estr.rows []),.full (I0.rows [])] 36,.row [.d (.int .i64 3),.d (.int .i64 0),.d (.int .i64 0),.d (.int .i64 0),.d (.str []),.osl 3 (estr.rows (o2_Names++[x14.1])),.osl 4 (I0.rows (o2_Of++[x17.1]))] 36,.tok 9 1,.tok 36 7]) [0,1,2,6,7] ?_ rfl rfl rfl rfl
  exact lw' (ih1 _ _ _ _ hh) rfl rfl rfl
theorem T9 {parserParser res}(hh:Y4 parserParser=some res):Sq parserParser res:=(U10).1 _ _ hh
mutual
def L6 (t:I0)(depth:Int)(syntaxReport:J0):Option J0:=
 V5 depth (J0.mk (IntKind.i64.wrap (syntaxReport.nodes+1)) syntaxReport.depth syntaxReport.badForm syntaxReport.badName syntaxReport.badNumber)>>=fun x1=>
 Z0 (bif (decide (t.Kind≥0)) then (decide (t.Kind≤4)) else false) x1>>=fun x2=>
 Z0 (bif (t.Kind == 1) then true else (bif (t.Low == 0) then (t.High == 0) else false)) x2>>=fun x3=>
 Z0 (bif (t.Kind == 2) then true else (t.Size == 0)) x3>>=fun x4=>
 Z0 (bif (t.Kind == 4) then true else (t.Name == [])) x4>>=fun x5=>
 Z0 (bif (t.Kind == 3) then true else (((t.Names).length:Int) == 0)) x5>>=fun x6=>
 if (t.Kind == 2)=true then
  Z0 (((t.Of).length:Int) == 1) x6>>=fun x7=>
  X3 t.Size 1 32>>=fun x8=>
  I2 x8 x7>>=fun x9=>
  U9 t depth x9
 else
  if (t.Kind == 3)=true then
   Z0 (bif (decide (((t.Of).length:Int)≥1)) then (((t.Of).length:Int) == ((t.Names).length:Int)) else false) x6>>=fun x14=>
   I2 (decide (((t.Of).length:Int)≤32)) x14>>=fun x15=>
   U9 t depth x15
  else
   Z0 (((t.Of).length:Int) == 0) x6>>=fun x16=>
   U9 t depth x16
 partial_fixpoint
def U9 (t:I0)(depth:Int)(o0:J0):Option J0:=
 if (t.Kind == 1)=true then
  X3 t.Low (-1048576) 1048576>>=fun x10=>
  (if x10=true then X3 t.High t.Low 1048576 else some default)>>=fun x11=>
  I2 (bif x10 then x11 else false) o0>>=fun x12=>
  V9 t depth x12
 else
  V9 t depth o0
 partial_fixpoint
def V9 (t:I0)(depth:Int)(o01:J0):Option J0:=
 if (t.Kind == 4)=true then
  C4 t.Name o01>>=fun x13=>
  Uc t depth x13
 else
  Uc t depth o01
 partial_fixpoint
def Uc (t:I0)(depth:Int)(o02:J0):Option J0:=
 Y5 t depth o02 0
 partial_fixpoint
def Y5 (t:I0)(depth:Int)(o03:J0)(v147:Int):Option J0:=
 if (decide (v147 < ((t.Names).length:Int)))=true then
  idx t.Names v147>>=fun x17=>
  C4 x17 o03>>=fun x18=>
  Y5 t depth x18 (IntKind.i64.wrap (v147+1))
 else
  H7 t depth o03 0
 partial_fixpoint
def H7 (t:I0)(depth:Int)(o04:J0)(v158:Int):Option J0:=
 if (decide (v158 < ((t.Of).length:Int)))=true then
  idx t.Of v158>>=fun x19=>
  L6 x19 (IntKind.i64.wrap (depth+1)) o04>>=fun x20=>
  H7 t depth x20 (IntKind.i64.wrap (v158+1))
 else
  some o04
 partial_fixpoint
end
abbrev Tq (t:I0)(depth:Int)(syntaxReport:J0)(res:J0):Prop:=O0 C 74 [.ref 0 0,.agg (I0.cells t),.d (.int .i64 depth)] [.row (J0.cells syntaxReport) 103] (Ret [.row (J0.cells res) 103] (.tup []))
abbrev Ez (t:I0)(depth:Int)(o0:J0)(res:J0):Prop:=JM C 168 1 Tryz.f74 [1,1,1,1,1,1,1,1,1,1] [(0,.ref 0 0),(2,.d (.int .i64 depth)),(4,.ref 1 0),(6,.d (.bool (t.Kind == 1))),(9,.d (.bool (t.Kind == 4)))] [.row (J0.cells o0) 103,.row (I0.cells t) 36] (Ret [.row (J0.cells res) 103] (.tup []))
abbrev Fz (t:I0)(depth:Int)(o01:J0)(res:J0):Prop:=JM C 168 1 Tryz.f74 [1,1,1,1,1,1,1,1,1,1,1] [(0,.ref 0 0),(2,.d (.int .i64 depth)),(4,.ref 1 0),(9,.d (.bool (t.Kind == 4)))] [.row (J0.cells o01) 103,.row (I0.cells t) 36] (Ret [.row (J0.cells res) 103] (.tup []))
abbrev Gz (t:I0)(depth:Int)(o02:J0)(res:J0):Prop:=JM C 168 1 Tryz.f74 [1,1,1,1,1,1,1,1,1,1,1,1] [(0,.ref 0 0),(2,.d (.int .i64 depth)),(4,.ref 1 0)] [.row (J0.cells o02) 103,.row (I0.cells t) 36] (Ret [.row (J0.cells res) 103] (.tup []))
abbrev Hz (t:I0)(depth:Int)(o03:J0)(v147:Int)(res:J0):Prop:=LM C 168 1 Tryz.f74 [1,1,1,1,1,1,1,1,1,1,1,1,0,1,4] [(0,.ref 0 0),(2,.d (.int .i64 depth)),(4,.ref 1 0),(145,.d (.sl (estr.rows t.Names))),(146,.d (.int .i64 ((t.Names).length:Int))),(147,.d (.int .i64 v147))] [.row (J0.cells o03) 103,.row (I0.cells t) 36] (Ret [.row (J0.cells res) 103] (.tup []))
abbrev Iz (t:I0)(depth:Int)(o04:J0)(v158:Int)(res:J0):Prop:=LM C 168 1 Tryz.f74 [1,1,1,1,1,1,1,1,1,1,1,1,1,1,4] [(0,.ref 0 0),(2,.d (.int .i64 depth)),(156,.d (.sl (I0.rows t.Of))),(157,.d (.int .i64 ((t.Of).length:Int))),(158,.d (.int .i64 v158))] [.row (J0.cells o04) 103] (Ret [.row (J0.cells res) 103] (.tup []))
theorem V10:(∀ t depth syntaxReport res,L6 t depth syntaxReport=some res→Tq t depth syntaxReport res)∧(∀ t depth o0 res,U9 t depth o0=some res→Ez t depth o0 res)∧(∀ t depth o01 res,V9 t depth o01=some res→Fz t depth o01 res)∧(∀ t depth o02 res,Uc t depth o02=some res→Gz t depth o02 res)∧(∀ t depth o03 v147 res,Y5 t depth o03 v147=some res→Hz t depth o03 v147 res)∧(∀ t depth o04 v158 res,H7 t depth o04 v158=some res→Iz t depth o04 v158 res):=by
 refine L6.mutual_partial_correctness _ _ _ _ _ _ ?_ ?_ ?_ ?_ ?_ ?_
 ·intro g1 ih1 t depth syntaxReport res hh
  obtain ⟨x1,hx1,hh⟩:=bs' hh
  obtain ⟨x2,hx2,hh⟩:=bs' hh
  obtain ⟨x3,hx3,hh⟩:=bs' hh
  obtain ⟨x4,hx4,hh⟩:=bs' hh
  obtain ⟨x5,hx5,hh⟩:=bs' hh
  obtain ⟨x6,hx6,hh⟩:=bs' hh
  refine O0.intro hC Tryz.func74 rfl rfl rfl (s' rfl rfl (F0.n hC rfl (n' (p' 7 rfl (F0.s hC rfl (n' (p' 2 rfl (g' [0] (Si hx1) rfl rfl rfl rfl rfl rfl (n' (sg' 9 rfl (G' 6 rfl (a1' rfl (a1' rfl ?_)))))))))))))
  refine pa' rfl (an' (g' [0] (I1 hx2) rfl rfl rfl rfl rfl rfl (n' (S' (AEx.draw hC 16 rfl rfl rfl (E' rfl (n' (sg' 12 rfl (G' 4 rfl (a1' rfl (a1' rfl (a1' rfl (a0' rfl ?_)))))))))))))
  refine a1' rfl (a1' rfl (pA' rfl (po' rfl (an' (g' [0] (I1 hx3) rfl rfl rfl rfl rfl rfl (n' (sg' 7 rfl (G' 4 rfl (a1' rfl (a1' rfl (po' rfl (an' (g' [0] (I1 hx4) rfl rfl rfl rfl rfl rfl ?_)))))))))))))
  refine n' (sg' 7 rfl (G' 4 rfl (a1' rfl (a1' rfl (po' rfl (an' (g' [0] (I1 hx5) rfl rfl rfl rfl rfl rfl (n' (sg' 8 rfl (G' 4 rfl (a1' rfl (AG.qe hC rfl (fun hg=>⟨⟨hg,trivial⟩,trivial⟩) (estr.lenA _) (a1' rfl ?_)))))))))))))
  refine po' rfl (an' (g' [0] (I1 hx6) rfl rfl rfl rfl rfl rfl (n' (S' (bk' (t' rfl (ci' rfl hh (fun hh=>?_) (fun hh=>?_))))))))
  ·obtain ⟨x7,hx7,hh⟩:=bs' hh
   obtain ⟨x8,hx8,hh⟩:=bs' hh
   obtain ⟨x9,hx9,hh⟩:=bs' hh
   exact p' 3 rfl (qe' rfl trivial (I0.lenA _) (q' rfl (g' [0] (I1 hx7) rfl rfl rfl rfl rfl rfl (n' (P' 3 rfl (c' (U4 hx8) rfl rfl (g' [0] (V3 hx9) rfl rfl rfl rfl rfl rfl (n' (ew' (ih1 _ _ _ _ hh) rfl rfl rfl)))))))))
  refine t' rfl (ci' rfl hh (fun hh=>?_) (fun hh=>?_))
  ·obtain ⟨x14,hx14,hh⟩:=bs' hh
   obtain ⟨x15,hx15,hh⟩:=bs' hh
   refine sg' 14 rfl (G' 3 rfl (AG.qe hC rfl (fun hg=>⟨trivial,trivial⟩) (I0.lenA _) (G' 3 rfl (a1' rfl (AG.qe hC rfl (fun hg=>⟨⟨hg,trivial⟩,trivial⟩) (I0.lenA _) (a0' rfl (a1' rfl (AG.qe hC rfl (fun hg=>⟨⟨hg,trivial⟩,trivial⟩) (estr.lenA _) (a2' rfl (pa' rfl (an' (g' [0] (I1 hx14) rfl rfl rfl rfl rfl rfl (n' ?_)))))))))))))
   exact P' 3 rfl (qe' rfl trivial (I0.lenA _) (q' rfl (g' [0] (V3 hx15) rfl rfl rfl rfl rfl rfl (n' (ew' (ih1 _ _ _ _ hh) rfl rfl rfl)))))
  obtain ⟨x16,hx16,hh⟩:=bs' hh
  exact P' 3 rfl (qe' rfl trivial (I0.lenA _) (q' rfl (g' [0] (I1 hx16) rfl rfl rfl rfl rfl rfl (n' (ew' (ih1 _ _ _ _ hh) rfl rfl rfl)))))
 ·intro g2 ih2 t depth o0 res hh
  refine S' (t' rfl (ci' rfl hh (fun hh=>?_) (fun hh=>?_)))
  ·obtain ⟨x10,hx10,hh⟩:=bs' hh
   obtain ⟨x11,hx11,hh⟩:=bs' hh
   obtain ⟨x12,hx12,hh⟩:=bs' hh
   exact AEx.regionG 11 rfl (G' 3 rfl (AG.c rfl rfl (fun _=>trivial) (fun _=>U4 hx10) (G' 2 rfl (a1' rfl (a0' rfl (a1' rfl (AG.c rfl rfl (fun hg=>⟨hg,hg,trivial⟩) (fun hw=>U4 (E1 hw hx11)) (pa' rfl (an' (g' [0] (V3 hx12) rfl rfl rfl rfl rfl rfl (n' (ew' (ih2 _ _ _ _ hh) rfl rfl rfl))))))))))))
  exact sk' (ew' (ih2 _ _ _ _ hh) rfl rfl rfl)
 ·intro g3 ih3 t depth o01 res hh
  refine S' (t' rfl (ci' rfl hh (fun hh=>?_) (fun hh=>?_)))
  ·obtain ⟨x13,hx13,hh⟩:=bs' hh
   exact P' 3 rfl (g' [0] (Tb hx13) rfl rfl rfl rfl rfl rfl (n' (ew' (ih3 _ _ _ _ hh) rfl rfl rfl)))
  exact sk' (ew' (ih3 _ _ _ _ hh) rfl rfl rfl)
 ·intro g4 ih4 t depth o02 res hh
  exact S' (p' 2 rfl (qe' rfl trivial (estr.lenA _) (e' rfl (bk' (fw' (ih4 _ _ _ _ _ hh) rfl rfl rfl)))))
 ·intro g4 g5 ih4 ih5 t depth o03 v147 res hh
  refine W0.unroll (t' rfl (S' (ci' rfl hh (fun hh=>?_) (fun hh=>?_))))
  ·obtain ⟨x17,hx17,hh⟩:=bs' hh
   obtain ⟨x18,hx18,hh⟩:=bs' hh
   exact sk' (S' (bk' (s' rfl rfl (i' rfl (C1 hx17) (estr.idx hx17) rfl (e' rfl (P' 2 rfl (g' [0] (Tb hx18) rfl rfl rfl rfl rfl rfl (n' (T' rfl (lw' (ih4 _ _ _ _ _ hh) rfl rfl rfl))))))))))
  exact ex' (p' 2 rfl (qe' rfl trivial (I0.lenA _) (e' rfl (bk' (fw' (ih5 _ _ _ _ _ hh) rfl rfl rfl)))))
 ·intro g0 g5 ih0 ih5 t depth o04 v158 res hh
  refine W0.unroll (t' rfl (S' (ci' rfl hh (fun hh=>?_) (fun hh=>?_))))
  ·obtain ⟨x19,hx19,hh⟩:=bs' hh
   obtain ⟨x20,hx20,hh⟩:=bs' hh
   exact sk' (S' (bk' (s' rfl rfl (i' rfl (C1 hx19) (I0.idx hx19) rfl (q' rfl (F0.nf hC rfl (F0.s hC rfl (n' (P' 4 rfl (g' [0] (ih0 _ _ _ _ hx20) rfl rfl rfl rfl rfl rfl (n' (T' rfl (lw' (ih5 _ _ _ _ _ hh) rfl rfl rfl)))))))))))))
  cases hh
  exact ex' (rn' rfl rfl rfl)
theorem M12 {t depth syntaxReport res}(hh:L6 t depth syntaxReport=some res):Tq t depth syntaxReport res:=(V10).1 _ _ _ _ hh
def T5 (l:List K0)(atV:Int):Option (Int×Int×Bool):=
 Y0 l atV [45]>>=fun x1=>
 if x1=true then
  Qg l (IntKind.i64.wrap (atV+1))>>=fun x2=>
  some ((IntKind.i64.wrap (0 - x2.1)),x2.2.1,x2.2.2)
 else
  Qg l atV>>=fun x3=>
  some (x3.1,x3.2.1,x3.2.2)
theorem I7 {l atV res}(hh:T5 l atV=some res):O0 C 76 [.d (.sl (K0.rows l)),.d (.int .i64 atV)] [] (Ret [] (.tup [.d (.int .i64 res.1),.d (.int .i64 res.2.1),.d (.bool res.2.2)])):=by
 unfold T5 at hh
 obtain ⟨x1,hx1,hh⟩:=bs' hh
 refine O0.intro hC Tryz.func76 rfl rfl rfl (t' rfl (S' (p' 2 rfl (c' (V0 hx1) rfl rfl (n' (ci' rfl hh (fun hh=>?_) (fun hh=>?_)))))))
 ·obtain ⟨x2,hx2,hh⟩:=bs' hh
  cases hh
  exact p' 3 rfl (c' (Mp hx2) rfl rfl (e' rfl (t' rfl (re' (rt' rfl rfl rfl)))))
 obtain ⟨x3,hx3,hh⟩:=bs' hh
 cases hh
 exact sk' (p' 2 rfl (c' (Mp hx3) rfl rfl (e' rfl (re' (rt' rfl rfl rfl)))))
def Xm (l:List K0)(atV:Int):Option (I0×Int×Bool):=
 Y0 l atV [91]>>=fun x1=>
 if (!x1)=true then
  some ((I0.mk 0 0 0 0 [] [] []),atV,false)
 else
  T5 l (IntKind.i64.wrap (atV+1))>>=fun x2=>
  (if (!(!x2.2.2))=true then Y0 l x2.2.1 [46,46] else some default)>>=fun x3=>
  if (bif (!x2.2.2) then true else (!x3))=true then
   some ((I0.mk 0 0 0 0 [] [] []),x2.2.1,false)
  else
   T5 l (IntKind.i64.wrap (x2.2.1+1))>>=fun x4=>
   (if (!(!x4.2.2))=true then Y0 l x4.2.1 [93] else some default)>>=fun x5=>
   if (bif (!x4.2.2) then true else (!x5))=true then
    some ((I0.mk 0 0 0 0 [] [] []),x4.2.1,false)
   else
    some ((I0.mk 1 x2.1 x4.1 0 [] [] []),(IntKind.i64.wrap (x4.2.1+1)),true)
theorem M18 {l atV res}(hh:Xm l atV=some res):O0 C 75 [.d (.sl (K0.rows l)),.d (.int .i64 atV)] [] (Ret [] (.tup [.agg (I0.cells res.1),.d (.int .i64 res.2.1),.d (.bool res.2.2)])):=by
 unfold Xm at hh
 obtain ⟨x1,hx1,hh⟩:=bs' hh
 refine O0.intro hC Tryz.func75 rfl rfl rfl (s' rfl rfl (F0.nf hC rfl (e' rfl (S' (p' 2 rfl (c' (V0 hx1) rfl rfl (e' rfl (ci' rfl hh (fun hh=>?_) (fun hh=>?_)))))))))
 ·cases hh
  exact p' 2 rfl (F0.s hC rfl (e' rfl (re' (rt' rfl rfl rfl))))
 obtain ⟨x2,hx2,hh⟩:=bs' hh
 obtain ⟨x3,hx3,hh⟩:=bs' hh
 refine sk' (p' 3 rfl (c' (I7 hx2) rfl rfl (e' rfl (S' (sg' 8 rfl (G' 5 rfl (AG.c rfl rfl (fun hg=>⟨hg,hg,trivial⟩) (fun hw=>V0 (E1 hw hx3)) (a1' rfl (po' rfl (an' (n' (ci' rfl hh (fun hh=>?_) (fun hh=>?_)))))))))))))
 ·cases hh
  exact p' 2 rfl (F0.s hC rfl (e' rfl (re' (rt' rfl rfl rfl))))
 obtain ⟨x4,hx4,hh⟩:=bs' hh
 obtain ⟨x5,hx5,hh⟩:=bs' hh
 refine sk' (p' 3 rfl (c' (I7 hx4) rfl rfl (e' rfl (S' (sg' 8 rfl (G' 5 rfl (AG.c rfl rfl (fun hg=>⟨hg,hg,trivial⟩) (fun hw=>V0 (E1 hw hx5)) (a1' rfl (po' rfl (an' (n' (ci' rfl hh (fun hh=>?_) (fun hh=>?_)))))))))))))
 ·cases hh
  exact p' 2 rfl (F0.s hC rfl (e' rfl (re' (rt' rfl rfl rfl))))
 cases hh
 exact sk' (p' 5 rfl (F0.s hC rfl (e' rfl (re' (rt' rfl rfl rfl)))))
mutual
def Bg (l:List K0)(atV:Int):Option (I0×Int×Bool):=
 Y0 l atV [98,111,111,108]>>=fun x1=>
 if x1=true then
  some ((I0.mk 0 0 0 0 [] [] []),(IntKind.i64.wrap (atV+1)),true)
 else
  Y0 l atV [105,110,116]>>=fun x2=>
  if x2=true then
   Xm l (IntKind.i64.wrap (atV+1))>>=fun x3=>
   some (x3.1,x3.2.1,x3.2.2)
  else
   Y0 l atV [97,114,114,97,121]>>=fun x4=>
   if x4=true then
    T5 l (IntKind.i64.wrap (atV+1))>>=fun x5=>
    (if (!(!x5.2.2))=true then Y0 l x5.2.1 [111,102] else some default)>>=fun x6=>
    if (bif (!x5.2.2) then true else (!x6))=true then
     some ((I0.mk 0 0 0 0 [] [] []),x5.2.1,false)
    else
     Bg l (IntKind.i64.wrap (x5.2.1+1))>>=fun x10=>
     some ((I0.mk 2 0 0 x5.1 [] [] [x10.1]),x10.2.1,x10.2.2)
   else
    Y0 l atV [114,101,99,111,114,100]>>=fun x7=>
    if x7=true then
     Uw l (IntKind.i64.wrap (atV+1))>>=fun x8=>
     some (x8.1,x8.2.1,x8.2.2)
    else
     I8 l atV>>=fun x9=>
     some ((I0.mk 4 0 0 0 x9.1 [] []),x9.2.1,x9.2.2)
 partial_fixpoint
def Uw (l:List K0)(atV:Int):Option (I0×Int×Bool):=
 Y0 l atV [123]>>=fun x1=>
 if (!x1)=true then
  some ((I0.mk 3 0 0 0 [] [] []),atV,false)
 else
  Ue l [] [] atV
 partial_fixpoint
def Ue (l:List K0)(o1_Names:List Str)(o1_Of:List I0)(atV1:Int):Option (I0×Int×Bool):=
 V6 l (IntKind.i64.wrap (atV1+1))>>=fun x2=>
 if (!x2.2.2)=true then
  some ((I0.mk 3 0 0 0 [] o1_Names o1_Of),x2.2.1,false)
 else
  if (decide ((o1_Names.length+1) * 17≤140737488355328))=true then
   if (decide ((o1_Of.length+1) * 97≤140737488355328))=true then
    Y0 l x2.2.1 [125]>>=fun x3=>
    if x3=true then
     some ((I0.mk 3 0 0 0 [] (o1_Names++[x2.1.Name]) (o1_Of++[x2.1.TypeV])),(IntKind.i64.wrap (x2.2.1+1)),true)
    else
     Y0 l x2.2.1 [44]>>=fun x4=>
     if (!x4)=true then
      some ((I0.mk 3 0 0 0 [] (o1_Names++[x2.1.Name]) (o1_Of++[x2.1.TypeV])),x2.2.1,false)
     else
      Ue l (o1_Names++[x2.1.Name]) (o1_Of++[x2.1.TypeV]) x2.2.1
   else none
  else none
 partial_fixpoint
def V6 (l:List K0)(atV:Int):Option (C0×Int×Bool):=
 I8 l atV>>=fun x1=>
 (if (!(!x1.2.2))=true then Y0 l x1.2.1 [58] else some default)>>=fun x2=>
 if (bif (!x1.2.2) then true else (!x2))=true then
  some ((C0.mk 0 [] (I0.mk 0 0 0 0 [] [] []) 0 (A0.mk 0 0 [] []) [] [] []),x1.2.1,false)
 else
  Bg l (IntKind.i64.wrap (x1.2.1+1))>>=fun x3=>
  some ((C0.mk 4 x1.1 x3.1 0 (A0.mk 0 0 [] []) [] [] []),x3.2.1,x3.2.2)
 partial_fixpoint
end
abbrev G19 (l:List K0)(atV:Int)(res:I0×Int×Bool):Prop:=O0 C 38 [.d (.sl (K0.rows l)),.d (.int .i64 atV)] [] (Ret [] (.tup [.agg (I0.cells res.1),.d (.int .i64 res.2.1),.d (.bool res.2.2)]))
abbrev U1d (l:List K0)(atV:Int)(res:I0×Int×Bool):Prop:=O0 C 77 [.d (.sl (K0.rows l)),.d (.int .i64 atV)] [] (Ret [] (.tup [.agg (I0.cells res.1),.d (.int .i64 res.2.1),.d (.bool res.2.2)]))
abbrev N18 (l:List K0)(o1_Names:List Str)(o1_Of:List I0)(atV1:Int)(res:I0×Int×Bool):Prop:=LM C 57 0 Tryz.f77 [1,1,1,4] [(0,.d (.sl (K0.rows l))),(1,.d (.int .i64 atV1)),(4,.ref 0 0),(7,.ref 1 0)] [.row [.d (.int .i64 0),.d (.int .i64 0),.d (.int .i64 0),.d (.int .i64 0),.d (.str []),.full (estr.rows []),.full (I0.rows [])] 36,.row [.d (.int .i64 3),.d (.int .i64 0),.d (.int .i64 0),.d (.int .i64 0),.d (.str []),.osl 2 (estr.rows o1_Names),.osl 3 (I0.rows o1_Of)] 36,.tok 9 1,.tok 36 7] (Ret [] (.tup [.agg (I0.cells res.1),.d (.int .i64 res.2.1),.d (.bool res.2.2)]))
abbrev B14 (l:List K0)(atV:Int)(res:C0×Int×Bool):Prop:=O0 C 134 [.d (.sl (K0.rows l)),.d (.int .i64 atV)] [] (Ret [] (.tup [.agg (C0.cells res.1),.d (.int .i64 res.2.1),.d (.bool res.2.2)]))
theorem C14 (l:List K0):(∀ atV res,Bg l atV=some res→G19 l atV res)∧(∀ atV res,Uw l atV=some res→U1d l atV res)∧(∀ o1_Names o1_Of atV1 res,Ue l o1_Names o1_Of atV1=some res→N18 l o1_Names o1_Of atV1 res)∧(∀ atV res,V6 l atV=some res→B14 l atV res):=by
 refine Bg.mutual_partial_correctness l _ _ _ _ ?_ ?_ ?_ ?_
 ·intro g0 g1 ih0 ih1 atV res hh
  obtain ⟨x1,hx1,hh⟩:=bs' hh
  refine O0.intro hC Tryz.func38 rfl rfl rfl (s' rfl rfl (F0.nf hC rfl (e' rfl (S' (p' 2 rfl (c' (V0 hx1) rfl rfl (n' (ci' rfl hh (fun hh=>?_) (fun hh=>?_)))))))))
  ·cases hh
   exact p' 3 rfl (F0.s hC rfl (e' rfl (re' (rt' rfl rfl rfl))))
  obtain ⟨x2,hx2,hh⟩:=bs' hh
  refine sk' (S' (p' 2 rfl (c' (V0 hx2) rfl rfl (n' (ci' rfl hh (fun hh=>?_) (fun hh=>?_))))))
  ·obtain ⟨x3,hx3,hh⟩:=bs' hh
   cases hh
   exact p' 3 rfl (c' (M18 hx3) rfl rfl (o' 3 rfl (F0.s hC rfl (e' rfl (re' (rt' rfl rfl rfl))))))
  obtain ⟨x4,hx4,hh⟩:=bs' hh
  refine sk' (S' (p' 2 rfl (c' (V0 hx4) rfl rfl (n' (ci' rfl hh (fun hh=>?_) (fun hh=>?_))))))
  ·obtain ⟨x5,hx5,hh⟩:=bs' hh
   obtain ⟨x6,hx6,hh⟩:=bs' hh
   refine p' 3 rfl (c' (I7 hx5) rfl rfl (e' rfl (S' (sg' 8 rfl (G' 5 rfl (AG.c rfl rfl (fun hg=>⟨hg,hg,trivial⟩) (fun hw=>V0 (E1 hw hx6)) (a1' rfl (po' rfl (an' (n' (ci' rfl hh (fun hh=>?_) (fun hh=>?_))))))))))))
   ·cases hh
    exact p' 2 rfl (F0.s hC rfl (e' rfl (re' (rt' rfl rfl rfl))))
   obtain ⟨x10,hx10,hh⟩:=bs' hh
   refine sk' (p' 3 rfl (c' (ih0 _ _ hx10) rfl rfl (o' 4 rfl (F0.nf hC rfl (F0.s hC rfl (e' rfl (p' 2 rfl (F0.be hC rfl (I0.rows_map [x10.1]).symm (o' 3 rfl (F0.s hC rfl (e' rfl (re' ?_))))))))))))
   obtain rfl:=oi' hh
   exact ⟨_,.tup [.agg [.d (.int .i64 2),.d (.int .i64 0),.d (.int .i64 0),.d (.int .i64 x5.1),.d (.str []),.d (.sl (estr.rows [])),.d (.sl (I0.rows [x10.1]))],.d (.int .i64 x10.2.1),.d (.bool x10.2.2)],[],rfl,(.tupL ⟨(.aggL ⟨.rfl,.rfl,.rfl,.rfl,.rfl,.rfl,.full,trivial⟩),.rfl,.rfl,trivial⟩),trivial,rfl,rfl,rfl,rfl⟩
  obtain ⟨x7,hx7,hh⟩:=bs' hh
  refine sk' (S' (p' 2 rfl (c' (V0 hx7) rfl rfl (n' (ci' rfl hh (fun hh=>?_) (fun hh=>?_))))))
  ·obtain ⟨x8,hx8,hh⟩:=bs' hh
   cases hh
   exact p' 3 rfl (c' (ih1 _ _ hx8) rfl rfl (o' 3 rfl (F0.s hC rfl (e' rfl (re' (rt' rfl rfl rfl))))))
  obtain ⟨x9,hx9,hh⟩:=bs' hh
  cases hh
  exact sk' (p' 2 rfl (c' (N9 hx9) rfl rfl (e' rfl (p' 4 rfl (F0.s hC rfl (e' rfl (re' (rt' rfl rfl rfl))))))))
 ·intro g2 ih2 atV res hh
  obtain ⟨x1,hx1,hh⟩:=bs' hh
  refine O0.intro hC Tryz.func77 rfl rfl rfl (s' rfl rfl (F0.nf hC rfl (e' rfl (s' rfl rfl (F0.bz hC rfl (F0.nf hC rfl (F0.s hC rfl (F0.tokC 1 5 9 1 rfl rfl rfl rfl rfl (F0.tokC 1 6 36 7 rfl rfl rfl rfl rfl (n' (S' (p' 2 rfl (c' (V0 hx1) rfl rfl ?_)))))))))))))
  refine e' rfl (ci' rfl hh (fun hh=>?_) (fun hh=>?_))
  ·refine p' 2 rfl (F0.s hC rfl (e' rfl (re' ?_)))
   obtain rfl:=oi' hh
   exact ⟨_,.tup [.agg [.d (.int .i64 3),.d (.int .i64 0),.d (.int .i64 0),.d (.int .i64 0),.d (.str []),.d (.sl (estr.rows [])),.d (.sl (I0.rows []))],.d (.int .i64 atV),.d (.bool false)],[],rfl,(.tupL ⟨(.aggL ⟨.rfl,.rfl,.rfl,.rfl,.rfl,.osl,.osl,trivial⟩),.rfl,.rfl,trivial⟩),trivial,rfl,rfl,rfl,rfl⟩
  exact sk' (bk' (fw' (ih2 _ _ _ _ hh) rfl rfl rfl))
 ·intro g2 g3 ih2 ih3 o1_Names o1_Of atV1 res hh
  obtain ⟨x2,hx2,hh⟩:=bs' hh
  refine W0.unroll (bk' (p' 3 rfl (c' (ih3 _ _ hx2) rfl rfl (o' 4 rfl (F0.nf hC rfl (F0.s hC rfl (e' rfl (S' (t' rfl (ci' rfl hh (fun hh=>?_) (fun hh=>?_)))))))))))
  ·refine p' 2 rfl (F0.s hC rfl (e' rfl (re' ?_)))
   obtain rfl:=oi' hh
   exact ⟨_,.tup [.agg [.d (.int .i64 3),.d (.int .i64 0),.d (.int .i64 0),.d (.int .i64 0),.d (.str []),.d (.sl (estr.rows o1_Names)),.d (.sl (I0.rows o1_Of))],.d (.int .i64 x2.2.1),.d (.bool false)],[],rfl,(.tupL ⟨(.aggL ⟨.rfl,.rfl,.rfl,.rfl,.rfl,.osl,.osl,trivial⟩),.rfl,.rfl,trivial⟩),trivial,rfl,rfl,rfl,rfl⟩
  obtain ⟨c13,hh⟩:=I4 hh
  obtain ⟨c14,hh⟩:=I4 hh
  obtain ⟨x3,hx3,hh⟩:=bs' hh
  refine sk' (p' 4 rfl (F0.be hC rfl (estr.rows_map [x2.1.Name]).symm (F0.ap hC rfl (rs:=estr.rows (o1_Names++[x2.1.Name])) (estr.app o1_Names [x2.1.Name]) (estr.sz o1_Names) (estr.sz [x2.1.Name]) (P1 (estr.len o1_Names) (estr.len [x2.1.Name]) c13) (q' rfl (F0.s hC rfl (n' (p' 4 rfl (F0.be hC rfl (I0.rows_map [x2.1.TypeV]).symm ?_))))))))
  refine F0.ap hC rfl (rs:=I0.rows (o1_Of++[x2.1.TypeV])) (I0.app o1_Of [x2.1.TypeV]) (I0.sz o1_Of) (I0.sz [x2.1.TypeV]) (P1 (I0.len o1_Of) (I0.len [x2.1.TypeV]) c14) (q' rfl (F0.s hC rfl (n' (t' rfl (S' (p' 2 rfl (c' (V0 hx3) rfl rfl (n' (ci' rfl hh (fun hh=>?_) (fun hh=>?_))))))))))
  ·refine p' 3 rfl (F0.s hC rfl (e' rfl (re' ?_)))
   obtain rfl:=oi' hh
   exact ⟨_,.tup [.agg [.d (.int .i64 3),.d (.int .i64 0),.d (.int .i64 0),.d (.int .i64 0),.d (.str []),.d (.sl (estr.rows (o1_Names++[x2.1.Name]))),.d (.sl (I0.rows (o1_Of++[x2.1.TypeV])))],.d (.int .i64 (IntKind.i64.wrap (x2.2.1+1))),.d (.bool true)],[],rfl,(.tupL ⟨(.aggL ⟨.rfl,.rfl,.rfl,.rfl,.rfl,.osl,.osl,trivial⟩),.rfl,.rfl,trivial⟩),trivial,rfl,rfl,rfl,rfl⟩
  obtain ⟨x4,hx4,hh⟩:=bs' hh
  refine sk' (p' 2 rfl (c' (V0 hx4) rfl rfl (e' rfl (ci' rfl hh (fun hh=>?_) (fun hh=>?_)))))
  ·refine p' 2 rfl (F0.s hC rfl (e' rfl (re' ?_)))
   obtain rfl:=oi' hh
   exact ⟨_,.tup [.agg [.d (.int .i64 3),.d (.int .i64 0),.d (.int .i64 0),.d (.int .i64 0),.d (.str []),.d (.sl (estr.rows (o1_Names++[x2.1.Name]))),.d (.sl (I0.rows (o1_Of++[x2.1.TypeV])))],.d (.int .i64 x2.2.1),.d (.bool false)],[],rfl,(.tupL ⟨(.aggL ⟨.rfl,.rfl,.rfl,.rfl,.rfl,.osl,.osl,trivial⟩),.rfl,.rfl,trivial⟩),trivial,rfl,rfl,rfl,rfl⟩
  exact sk' (lw' (ih2 _ _ _ _ hh) rfl rfl rfl)
 ·intro g0 ih0 atV res hh
  obtain ⟨x1,hx1,hh⟩:=bs' hh
  obtain ⟨x2,hx2,hh⟩:=bs' hh
  refine O0.intro hC Tryz.func134 rfl rfl rfl (s' rfl rfl (F0.nf hC rfl (e' rfl (p' 2 rfl (c' (N9 hx1) rfl rfl (e' rfl (S' (sg' 8 rfl (G' 5 rfl (AG.c rfl rfl (fun hg=>⟨hg,hg,trivial⟩) (fun hw=>V0 (E1 hw hx2)) (a1' rfl (po' rfl (an' ?_)))))))))))))
  refine n' (ci' rfl hh (fun hh=>?_) (fun hh=>?_))
  ·cases hh
   exact p' 2 rfl (F0.s hC rfl (e' rfl (re' (rt' rfl rfl rfl))))
  obtain ⟨x3,hx3,hh⟩:=bs' hh
  cases hh
  exact sk' (p' 3 rfl (c' (ih0 _ _ hx3) rfl rfl (o' 4 rfl (F0.nf hC rfl (F0.s hC rfl (e' rfl (p' 5 rfl (F0.s hC rfl (e' rfl (re' (rt' rfl rfl rfl)))))))))))
theorem X16 {l atV res}(hh:Bg l atV=some res):G19 l atV res:=(C14 l).1 _ _ hh
theorem Nr {l atV res}(hh:V6 l atV=some res):B14 l atV res:=(C14 l).2.2.2 _ _ hh
mutual
def J8 (a:I0)(b:I0):Option Bool:=
 if (bif (bif (bif (bif (bif (bif (a.Kind != b.Kind) then true else (a.Low != b.Low)) then true else (a.High != b.High)) then true else (a.Size != b.Size)) then true else (!(a.Name == b.Name))) then true else (((a.Names).length:Int) != ((b.Names).length:Int))) then true else (((a.Of).length:Int) != ((b.Of).length:Int)))=true then
  some false
 else
  Zb a b 0
 partial_fixpoint
def Zb (a:I0)(b:I0)(i:Int):Option Bool:=
 if (decide (i < ((a.Names).length:Int)))=true then
  idx a.Names i>>=fun x1=>
  idx b.Names i>>=fun x2=>
  if (!(x1 == x2))=true then
   some false
  else
   Zb a b (IntKind.i64.wrap (i+1))
 else
  D9 a b 0
 partial_fixpoint
def D9 (a:I0)(b:I0)(i1:Int):Option Bool:=
 if (decide (i1 < ((a.Of).length:Int)))=true then
  idx a.Of i1>>=fun x3=>
  idx b.Of i1>>=fun x4=>
  J8 x3 x4>>=fun x5=>
  if (!x5)=true then
   some false
  else
   D9 a b (IntKind.i64.wrap (i1+1))
 else
  some true
 partial_fixpoint
end
abbrev Dv (a:I0)(b:I0)(res:Bool):Prop:=O0 C 16 [.agg (I0.cells a),.agg (I0.cells b)] [] (Ret [] (.d (.bool res)))
abbrev N12 (a:I0)(b:I0)(i:Int)(res:Bool):Prop:=LM C 95 0 Tryz.f16 [1,1,0,1,4] [(2,.ref 0 0),(3,.ref 1 0),(5,.d (.int .i64 i))] [.row (I0.cells a) 36,.row (I0.cells b) 36] (Ret [] (.d (.bool res)))
abbrev O12 (a:I0)(b:I0)(i1:Int)(res:Bool):Prop:=LM C 95 0 Tryz.f16 [1,1,1,0,1,4] [(2,.ref 0 0),(3,.ref 1 0),(6,.d (.int .i64 i1))] [.row (I0.cells a) 36,.row (I0.cells b) 36] (Ret [] (.d (.bool res)))
theorem V14:(∀ a b res,J8 a b=some res→Dv a b res)∧(∀ a b i res,Zb a b i=some res→N12 a b i res)∧(∀ a b i1 res,D9 a b i1=some res→O12 a b i1 res):=by
 refine J8.mutual_partial_correctness _ _ _ ?_ ?_ ?_
 ·intro g1 ih1 a b res hh
  refine O0.intro hC Tryz.func16 rfl rfl rfl (s' rfl rfl (F0.n hC rfl (F0.n hC rfl (e' rfl (S' (sg' 51 rfl (G' 7 rfl (a1' rfl (a0' rfl (a1' rfl (a2' rfl (po' rfl (G' 2 rfl ?_)))))))))))))
  refine a1' rfl (a0' rfl (a1' rfl (a2' rfl (po' rfl (G' 2 rfl (a1' rfl (a0' rfl (a1' rfl (a2' rfl (po' rfl (G' 2 rfl (a1' rfl (a0' rfl ?_)))))))))))))
  refine a1' rfl (a2' rfl (po' rfl (G' 2 rfl (a1' rfl (AG.qe hC rfl (fun hg=>⟨⟨hg,trivial⟩,trivial⟩) (estr.lenA _) (a0' rfl (a1' rfl (AG.qe hC rfl (fun hg=>⟨⟨hg,trivial⟩,trivial⟩) (estr.lenA _) (a2' rfl (po' rfl (G' 2 rfl (a1' rfl (AG.qe hC rfl (fun hg=>⟨⟨hg,trivial⟩,trivial⟩) (I0.lenA _) ?_)))))))))))))
  refine a0' rfl (a1' rfl (AG.qe hC rfl (fun hg=>⟨⟨hg,trivial⟩,trivial⟩) (I0.lenA _) (a2' rfl (po' rfl (an' (n' (ci' rfl hh (fun hh=>?_) (fun hh=>?_))))))))
  ·cases hh
   exact t' rfl (re' (rt' rfl rfl rfl))
  exact sk' (S' (t' rfl (bk' (fw' (ih1 _ _ _ _ hh) rfl rfl rfl))))
 ·intro g1 g2 ih1 ih2 a b i res hh
  refine W0.unroll (S' (p' 3 rfl (qe' rfl trivial (estr.lenA _) (e' rfl (ci' rfl hh (fun hh=>?_) (fun hh=>?_))))))
  ·obtain ⟨x1,hx1,hh⟩:=bs' hh
   obtain ⟨x2,hx2,hh⟩:=bs' hh
   refine sk' (S' (bk' (S' (AEx.draw hC 11 rfl rfl rfl (O' 3 rfl (AQ.i hC rfl (C1 hx1) (estr.idx hx1) rfl (O' 4 rfl (AQ.i hC rfl (C1 hx2) (estr.idx hx2) rfl (E' rfl (n' (ci' rfl hh (fun hh=>?_) (fun hh=>?_))))))))))))
   ·cases hh
    exact t' rfl (re' (rt' rfl rfl rfl))
   exact sk' (T' rfl (lw' (ih1 _ _ _ _ hh) rfl rfl rfl))
  exact ex' (S' (t' rfl (bk' (fw' (ih2 _ _ _ _ hh) rfl rfl rfl))))
 ·intro g0 g2 ih0 ih2 a b i1 res hh
  refine W0.unroll (S' (p' 3 rfl (qe' rfl trivial (I0.lenA _) (e' rfl (ci' rfl hh (fun hh=>?_) (fun hh=>?_))))))
  ·obtain ⟨x3,hx3,hh⟩:=bs' hh
   obtain ⟨x4,hx4,hh⟩:=bs' hh
   obtain ⟨x5,hx5,hh⟩:=bs' hh
   refine sk' (S' (bk' (S' (AEx.draw hC 12 rfl rfl rfl (O' 3 rfl (AQ.i hC rfl (C1 hx3) (I0.idx hx3) rfl (O' 4 rfl (AQ.i hC rfl (C1 hx4) (I0.idx hx4) rfl (Q' rfl (Qc' (ih0 _ _ _ hx5) rfl rfl (E' rfl (n' (ci' rfl hh (fun hh=>?_) (fun hh=>?_))))))))))))))
   ·cases hh
    exact t' rfl (re' (rt' rfl rfl rfl))
   exact sk' (T' rfl (lw' (ih2 _ _ _ _ hh) rfl rfl rfl))
  cases hh
  exact ex' (t' rfl (re' (rt' rfl rfl rfl)))
theorem Ot {a b res}(hh:J8 a b=some res):Dv a b res:=(V14).1 _ _ _ hh
def Xi (t:I0):Option Bool:=
 J8 t (I0.mk 0 0 0 0 [] [] [])>>=fun x1=>
 some x1
theorem O18 {t res}(hh:Xi t=some res):O0 C 135 [.agg (I0.cells t)] [] (Ret [] (.d (.bool res))):=by
 unfold Xi at hh
 obtain ⟨x1,hx1,hh⟩:=bs' hh
 cases hh
 exact O0.intro hC Tryz.func135 rfl rfl rfl (s' rfl rfl (F0.n hC rfl (e' rfl (p' 2 rfl (c' (Ot hx1) rfl rfl (e' rfl (re' (rt' rfl rfl rfl))))))))
mutual
def Ja (t:I0):Option Int:=
 Ac t 1 0
 partial_fixpoint
def Ac (t:I0)(n:Int)(i:Int):Option Int:=
 if (decide (i < ((t.Of).length:Int)))=true then
  idx t.Of i>>=fun x1=>
  Ja x1>>=fun x2=>
  Ac t (IntKind.i64.wrap (n+x2)) (IntKind.i64.wrap (i+1))
 else
  some n
 partial_fixpoint
end
abbrev Ev (t:I0)(res:Int):Prop:=O0 C 136 [.agg (I0.cells t)] [] (Ret [] (.d (.int .i64 res)))
abbrev P12 (t:I0)(n:Int)(i:Int)(res:Int):Prop:=LM C 21 0 Tryz.f136 [1,1,0,1,4] [(1,.ref 0 0),(3,.d (.int .i64 n)),(4,.d (.int .i64 i))] [.row (I0.cells t) 36] (Ret [] (.d (.int .i64 res)))
theorem W14:(∀ t res,Ja t=some res→Ev t res)∧(∀ t n i res,Ac t n i=some res→P12 t n i res):=by
 refine Ja.mutual_partial_correctness _ _ ?_ ?_
 ·intro g1 ih1 t res hh
  exact O0.intro hC Tryz.func136 rfl rfl rfl (s' rfl rfl (F0.n hC rfl (e' rfl (t' rfl (S' (t' rfl (bk' (fw' (ih1 _ _ _ _ hh) rfl rfl rfl))))))))
 ·intro g0 g1 ih0 ih1 t n i res hh
  refine W0.unroll (S' (p' 3 rfl (qe' rfl trivial (I0.lenA _) (e' rfl (ci' rfl hh (fun hh=>?_) (fun hh=>?_))))))
  ·obtain ⟨x1,hx1,hh⟩:=bs' hh
   obtain ⟨x2,hx2,hh⟩:=bs' hh
   exact sk' (S' (bk' (P' 4 rfl (i' rfl (C1 hx1) (I0.idx hx1) rfl (q' rfl (c' (ih0 _ _ hx2) rfl rfl (e' rfl (T' rfl (lw' (ih1 _ _ _ _ hh) rfl rfl rfl)))))))))
  cases hh
  exact ex' (t' rfl (re' (rt' rfl rfl rfl)))
theorem Y16 {t res}(hh:Ja t=some res):Ev t res:=(W14).1 _ _ hh
mutual
def Ka (t:I0):Option Int:=
 E9 t 0 0
 partial_fixpoint
def E9 (t:I0)(d:Int)(i:Int):Option Int:=
 if (decide (i < ((t.Of).length:Int)))=true then
  idx t.Of i>>=fun x1=>
  Ka x1>>=fun x2=>
  if (decide (x2 > d))=true then
   E9 t x2 (IntKind.i64.wrap (i+1))
  else
   E9 t d (IntKind.i64.wrap (i+1))
 else
  some (IntKind.i64.wrap (d+1))
 partial_fixpoint
end
abbrev Fv (t:I0)(res:Int):Prop:=O0 C 137 [.agg (I0.cells t)] [] (Ret [] (.d (.int .i64 res)))
abbrev Q12 (t:I0)(d:Int)(i:Int)(res:Int):Prop:=LM C 25 0 Tryz.f137 [1,1,0,1,4] [(1,.ref 0 0),(3,.d (.int .i64 d)),(4,.d (.int .i64 i))] [.row (I0.cells t) 36] (Ret [] (.d (.int .i64 res)))
theorem X14:(∀ t res,Ka t=some res→Fv t res)∧(∀ t d i res,E9 t d i=some res→Q12 t d i res):=by
 refine Ka.mutual_partial_correctness _ _ ?_ ?_
 ·intro g1 ih1 t res hh
  exact O0.intro hC Tryz.func137 rfl rfl rfl (s' rfl rfl (F0.n hC rfl (e' rfl (t' rfl (S' (t' rfl (bk' (fw' (ih1 _ _ _ _ hh) rfl rfl rfl))))))))
 ·intro g0 g1 ih0 ih1 t d i res hh
  refine W0.unroll (S' (p' 3 rfl (qe' rfl trivial (I0.lenA _) (e' rfl (ci' rfl hh (fun hh=>?_) (fun hh=>?_))))))
  ·obtain ⟨x1,hx1,hh⟩:=bs' hh
   obtain ⟨x2,hx2,hh⟩:=bs' hh
   refine sk' (S' (bk' (p' 3 rfl (i' rfl (C1 hx1) (I0.idx hx1) rfl (q' rfl (c' (ih0 _ _ hx2) rfl rfl (e' rfl (t' rfl (ci' rfl hh (fun hh=>?_) (fun hh=>?_))))))))))
   ·exact T' rfl (T' rfl (lw' (ih1 _ _ _ _ hh) rfl rfl rfl))
   exact sk' (T' rfl (lw' (ih1 _ _ _ _ hh) rfl rfl rfl))
  cases hh
  exact ex' (t' rfl (re' (rt' rfl rfl rfl)))
theorem Z16 {t res}(hh:Ka t=some res):Fv t res:=(X14).1 _ _ hh
end Go.Proofs.YtmnhfbekncjnfaaGreatDoor

set_option maxRecDepth 100000
set_option maxHeartbeats 4000000
set_option synthInstance.maxSize 20000
set_option linter.unusedVariables false
namespace Go.Proofs.YtmnhfbekncjnfaaGreatDoor
open Go.Am
def Yk (s:P0)(t:I0)(used:Bool):Option P0:=
 (if (!used)=true then Xi t else some default)>>=fun x1=>
 if (bif (!used) then x1 else false)=true then
  some s
 else
  Ja t>>=fun x2=>
  Ka t>>=fun x3=>
  Y7 (P0.mk (IntKind.i64.wrap (s.nodes+x2)) s.depth) x3>>=fun x4=>
  some x4
theorem E1a {s t used res}(hh:Yk s t used=some res):O0 C 79 [.agg (P0.cells s),.agg (I0.cells t),.d (.bool used)] [] (Ret [] (.agg (P0.cells res))):=by
 unfold Yk at hh
 obtain ⟨x1,hx1,hh⟩:=bs' hh
 refine O0.intro hC Tryz.func79 rfl rfl rfl (s' rfl rfl (F0.n hC rfl (F0.n hC rfl (F0.n hC rfl (n' (S' (sg' 6 rfl (G' 4 rfl (AG.c rfl rfl (fun hg=>⟨hg,trivial⟩) (fun hw=>O18 (E1 hw hx1)) (pa' rfl (an' (n' (ci' rfl hh (fun hh=>?_) (fun hh=>?_))))))))))))))
 ·cases hh
  exact p' 1 rfl (F0.s hC rfl (n' (re' (rt' rfl rfl rfl))))
 obtain ⟨x2,hx2,hh⟩:=bs' hh
 obtain ⟨x3,hx3,hh⟩:=bs' hh
 obtain ⟨x4,hx4,hh⟩:=bs' hh
 cases hh
 refine sk' (S' (AEx.draw hC 6 rfl rfl rfl (O' 3 rfl (Qc' (Y16 hx2) rfl rfl (E' rfl (F0.s hC rfl (n' (S' (AEx.draw hC 4 rfl rfl rfl (O' 2 rfl (Qc' (Z16 hx3) rfl rfl (Qc' (Fk hx4) rfl rfl (Qn' ?_)))))))))))))
 exact F0.s hC rfl (n' (re' (rt' rfl rfl rfl)))
mutual
def Bc (t:I0):Option Bool:=
 if (bif (decide (t.Kind < 0)) then true else (decide (t.Kind > 4)))=true then
  some false
 else
  if (bif (bif (bif (bif (t.Kind != 1) then (bif (t.Low != 0) then true else (t.High != 0)) else false) then true else (bif (t.Kind != 2) then (t.Size != 0) else false)) then true else (bif (t.Kind != 4) then (!(t.Name == [])) else false)) then true else (bif (t.Kind != 3) then (((t.Names).length:Int) != 0) else false))=true then
   some false
  else
   if (bif (bif (bif (t.Kind == 2) then (((t.Of).length:Int) != 1) else false) then true else (bif (t.Kind == 3) then (bif (decide (((t.Of).length:Int) < 1)) then true else (((t.Of).length:Int) != ((t.Names).length:Int))) else false)) then true else (bif (bif (t.Kind != 2) then (t.Kind != 3) else false) then (((t.Of).length:Int) != 0) else false))=true then
    some false
   else
    Cd t 0
 partial_fixpoint
def Cd (t:I0)(i:Int):Option Bool:=
 if (decide (i < ((t.Of).length:Int)))=true then
  idx t.Of i>>=fun x1=>
  Bc x1>>=fun x2=>
  if (!x2)=true then
   some false
  else
   Cd t (IntKind.i64.wrap (i+1))
 else
  some true
 partial_fixpoint
end
abbrev Vw (t:I0)(res:Bool):Prop:=O0 C 80 [.agg (I0.cells t)] [] (Ret [] (.d (.bool res)))
abbrev Y14 (t:I0)(i:Int)(res:Bool):Prop:=LM C 115 0 Tryz.f80 [1,1,1,1,0,1,4] [(1,.ref 0 0),(3,.d (.int .i64 i))] [.row (I0.cells t) 36] (Ret [] (.d (.bool res)))
theorem A17:(∀ t res,Bc t=some res→Vw t res)∧(∀ t i res,Cd t i=some res→Y14 t i res):=by
 refine Bc.mutual_partial_correctness _ _ ?_ ?_
 ·intro g1 ih1 t res hh
  refine O0.intro hC Tryz.func80 rfl rfl rfl (s' rfl rfl (F0.n hC rfl (e' rfl (S' (sg' 8 rfl (G' 5 rfl (a1' rfl (a1' rfl (po' rfl (an' (n' (ci' rfl hh (fun hh=>?_) (fun hh=>?_)))))))))))))
  ·cases hh
   exact t' rfl (re' (rt' rfl rfl rfl))
  refine sk' (S' (sg' 44 rfl (G' 5 rfl (a1' rfl (a1' rfl (a1' rfl (a0' rfl (a1' rfl (a1' rfl (pO' rfl (pa' rfl (G' 2 rfl (a1' rfl ?_)))))))))))))
  refine a1' rfl (a1' rfl (a0' rfl (a1' rfl (a1' rfl (pA' rfl (po' rfl (G' 2 rfl (a1' rfl (a1' rfl (a1' rfl (a0' rfl (a1' rfl (a1' rfl ?_)))))))))))))
  refine pA' rfl (po' rfl (G' 2 rfl (a1' rfl (a1' rfl (a1' rfl (a0' rfl (a1' rfl (AG.qe hC rfl (fun hg=>⟨⟨hg,trivial⟩,trivial⟩) (estr.lenA _) (a1' rfl (pA' rfl (po' rfl (an' (n' (ci' rfl hh (fun hh=>?_) (fun hh=>?_)))))))))))))))
  ·cases hh
   exact t' rfl (re' (rt' rfl rfl rfl))
  refine sk' (S' (sg' 45 rfl (G' 5 rfl (a1' rfl (AG.qe hC rfl (fun hg=>⟨⟨hg,trivial⟩,trivial⟩) (I0.lenA _) (a1' rfl (pa' rfl (G' 2 rfl (a1' rfl (a1' rfl (a1' rfl (a0' rfl (a1' rfl ?_)))))))))))))
  refine AG.qe hC rfl (fun hg=>⟨⟨hg,trivial⟩,trivial⟩) (I0.lenA _) (a1' rfl (a1' rfl (a0' rfl (a1' rfl (AG.qe hC rfl (fun hg=>⟨⟨hg,trivial⟩,trivial⟩) (I0.lenA _) (a0' rfl (a1' rfl (AG.qe hC rfl (fun hg=>⟨⟨hg,trivial⟩,trivial⟩) (estr.lenA _) (a2' rfl (pO' rfl (pA' rfl (po' rfl (G' 2 rfl ?_)))))))))))))
  refine a1' rfl (a1' rfl (a1' rfl (a0' rfl (a1' rfl (a1' rfl (pA' rfl (a1' rfl (a0' rfl (a1' rfl (AG.qe hC rfl (fun hg=>⟨⟨hg,trivial⟩,trivial⟩) (I0.lenA _) (a1' rfl (pA' rfl (po' rfl ?_)))))))))))))
  refine an' (n' (ci' rfl hh (fun hh=>?_) (fun hh=>?_)))
  ·cases hh
   exact t' rfl (re' (rt' rfl rfl rfl))
  exact sk' (S' (t' rfl (bk' (fw' (ih1 _ _ _ hh) rfl rfl rfl))))
 ·intro g0 g1 ih0 ih1 t i res hh
  refine W0.unroll (S' (p' 3 rfl (qe' rfl trivial (I0.lenA _) (e' rfl (ci' rfl hh (fun hh=>?_) (fun hh=>?_))))))
  ·obtain ⟨x1,hx1,hh⟩:=bs' hh
   obtain ⟨x2,hx2,hh⟩:=bs' hh
   refine sk' (S' (bk' (p' 3 rfl (i' rfl (C1 hx1) (I0.idx hx1) rfl (q' rfl (c' (ih0 _ _ hx2) rfl rfl (e' rfl (ci' rfl hh (fun hh=>?_) (fun hh=>?_)))))))))
   ·cases hh
    exact t' rfl (re' (rt' rfl rfl rfl))
   exact sk' (T' rfl (lw' (ih1 _ _ _ hh) rfl rfl rfl))
  cases hh
  exact ex' (t' rfl (re' (rt' rfl rfl rfl)))
theorem P18 {t res}(hh:Bc t=some res):Vw t res:=(A17).1 _ _ hh
mutual
def La (t:I0):Option Bool:=
 (if (t.Kind == 4)=true then Tc t.Name else some default)>>=fun x1=>
 if (bif (t.Kind == 4) then (!x1) else false)=true then
  some false
 else
  Cc t 0
 partial_fixpoint
def Cc (t:I0)(i:Int):Option Bool:=
 if (decide (i < ((t.Names).length:Int)))=true then
  idx t.Names i>>=fun x2=>
  Tc x2>>=fun x3=>
  if (!x3)=true then
   some false
  else
   Cc t (IntKind.i64.wrap (i+1))
 else
  F9 t 0
 partial_fixpoint
def F9 (t:I0)(i1:Int):Option Bool:=
 if (decide (i1 < ((t.Of).length:Int)))=true then
  idx t.Of i1>>=fun x4=>
  La x4>>=fun x5=>
  if (!x5)=true then
   some false
  else
   F9 t (IntKind.i64.wrap (i1+1))
 else
  some true
 partial_fixpoint
end
abbrev Gv (t:I0)(res:Bool):Prop:=O0 C 81 [.agg (I0.cells t)] [] (Ret [] (.d (.bool res)))
abbrev R12 (t:I0)(i:Int)(res:Bool):Prop:=LM C 42 0 Tryz.f81 [1,1,0,1,4] [(1,.ref 0 0),(3,.d (.int .i64 i))] [.row (I0.cells t) 36] (Ret [] (.d (.bool res)))
abbrev S12 (t:I0)(i1:Int)(res:Bool):Prop:=LM C 42 0 Tryz.f81 [1,1,1,0,1,4] [(1,.ref 0 0),(4,.d (.int .i64 i1))] [.row (I0.cells t) 36] (Ret [] (.d (.bool res)))
theorem Z14:(∀ t res,La t=some res→Gv t res)∧(∀ t i res,Cc t i=some res→R12 t i res)∧(∀ t i1 res,F9 t i1=some res→S12 t i1 res):=by
 refine La.mutual_partial_correctness _ _ _ ?_ ?_ ?_
 ·intro g1 ih1 t res hh
  obtain ⟨x1,hx1,hh⟩:=bs' hh
  refine O0.intro hC Tryz.func81 rfl rfl rfl (s' rfl rfl (F0.n hC rfl (e' rfl (S' (sg' 9 rfl (G' 5 rfl (a1' rfl (AG.c rfl rfl (fun hg=>⟨hg,trivial⟩) (fun hw=>Oh (E1 hw hx1)) (a1' rfl (pa' rfl (an' (n' (ci' rfl hh (fun hh=>?_) (fun hh=>?_))))))))))))))
  ·cases hh
   exact t' rfl (re' (rt' rfl rfl rfl))
  exact sk' (S' (t' rfl (bk' (fw' (ih1 _ _ _ hh) rfl rfl rfl))))
 ·intro g1 g2 ih1 ih2 t i res hh
  refine W0.unroll (S' (p' 3 rfl (qe' rfl trivial (estr.lenA _) (e' rfl (ci' rfl hh (fun hh=>?_) (fun hh=>?_))))))
  ·obtain ⟨x2,hx2,hh⟩:=bs' hh
   obtain ⟨x3,hx3,hh⟩:=bs' hh
   refine sk' (S' (bk' (p' 3 rfl (i' rfl (C1 hx2) (estr.idx hx2) rfl (q' rfl (c' (Oh hx3) rfl rfl (e' rfl (ci' rfl hh (fun hh=>?_) (fun hh=>?_)))))))))
   ·cases hh
    exact t' rfl (re' (rt' rfl rfl rfl))
   exact sk' (T' rfl (lw' (ih1 _ _ _ hh) rfl rfl rfl))
  exact ex' (S' (t' rfl (bk' (fw' (ih2 _ _ _ hh) rfl rfl rfl))))
 ·intro g0 g2 ih0 ih2 t i1 res hh
  refine W0.unroll (S' (p' 3 rfl (qe' rfl trivial (I0.lenA _) (e' rfl (ci' rfl hh (fun hh=>?_) (fun hh=>?_))))))
  ·obtain ⟨x4,hx4,hh⟩:=bs' hh
   obtain ⟨x5,hx5,hh⟩:=bs' hh
   refine sk' (S' (bk' (p' 3 rfl (i' rfl (C1 hx4) (I0.idx hx4) rfl (q' rfl (c' (ih0 _ _ hx5) rfl rfl (e' rfl (ci' rfl hh (fun hh=>?_) (fun hh=>?_)))))))))
   ·cases hh
    exact t' rfl (re' (rt' rfl rfl rfl))
   exact sk' (T' rfl (lw' (ih2 _ _ _ hh) rfl rfl rfl))
  cases hh
  exact ex' (t' rfl (re' (rt' rfl rfl rfl)))
theorem B17 {t res}(hh:La t=some res):Gv t res:=(Z14).1 _ _ hh
def Oe (n:Int):Option Bool:=
 some (bif (decide (n≥(-1048576))) then (decide (n≤1048576)) else false)
theorem Qh {n res}(hh:Oe n=some res):O0 C 138 [.d (.int .i64 n)] [] (Ret [] (.d (.bool res))):=by
 unfold Oe at hh
 cases hh
 exact O0.intro hC Tryz.func138 rfl rfl rfl (t' rfl (sg' 7 rfl (G' 4 rfl (a1' rfl (pa' rfl (a0' rfl (an' (n' (re' (rt' rfl rfl rfl))))))))))
mutual
def Z7 (t:I0):Option Bool:=
 (if (t.Kind == 1)=true then Oe t.Low else some default)>>=fun x1=>
 (if ((t.Kind == 1)&&(!(!x1)))=true then Oe t.High else some default)>>=fun x2=>
 if (bif (bif (bif (t.Kind == 1) then (bif (bif (!x1) then true else (!x2)) then true else (decide (t.Low > t.High))) else false) then true else (bif (t.Kind == 2) then (bif (decide (t.Size < 1)) then true else (decide (t.Size > 32))) else false)) then true else (decide (((t.Of).length:Int) > 32)))=true then
  some false
 else
  W9 t 0
 partial_fixpoint
def W9 (t:I0)(i:Int):Option Bool:=
 if (decide (i < ((t.Of).length:Int)))=true then
  idx t.Of i>>=fun x3=>
  Z7 x3>>=fun x4=>
  if (!x4)=true then
   some false
  else
   W9 t (IntKind.i64.wrap (i+1))
 else
  some true
 partial_fixpoint
end
abbrev Uq (t:I0)(res:Bool):Prop:=O0 C 82 [.agg (I0.cells t)] [] (Ret [] (.d (.bool res)))
abbrev Jz (t:I0)(i:Int)(res:Bool):Prop:=LM C 61 0 Tryz.f82 [1,1,0,1,4] [(1,.ref 0 0),(3,.d (.int .i64 i))] [.row (I0.cells t) 36] (Ret [] (.d (.bool res)))
theorem W10:(∀ t res,Z7 t=some res→Uq t res)∧(∀ t i res,W9 t i=some res→Jz t i res):=by
 refine Z7.mutual_partial_correctness _ _ ?_ ?_
 ·intro g1 ih1 t res hh
  obtain ⟨x1,hx1,hh⟩:=bs' hh
  obtain ⟨x2,hx2,hh⟩:=bs' hh
  refine O0.intro hC Tryz.func82 rfl rfl rfl (s' rfl rfl (F0.n hC rfl (e' rfl (S' (sg' 43 rfl (G' 5 rfl (a1' rfl (AG.c rfl rfl (fun hg=>⟨hg,trivial⟩) (fun hw=>Qh (E1 hw hx1)) (a1' rfl (a1' rfl (a0' rfl (a1' rfl (AG.c rfl rfl (fun hg=>⟨hg,trivial⟩) (fun hw=>Qh (E1 hw hx2)) ?_)))))))))))))
  refine a1' rfl (pO' rfl (a1' rfl (a0' rfl (a1' rfl (a0' rfl (a1' rfl (a2' rfl (pO' rfl (pa' rfl (G' 2 rfl (a1' rfl (a1' rfl (a1' rfl ?_)))))))))))))
  refine a0' rfl (a1' rfl (a1' rfl (a1' rfl (a0' rfl (a1' rfl (a1' rfl (pO' rfl (pA' rfl (po' rfl (G' 2 rfl (a1' rfl (AG.qe hC rfl (fun hg=>⟨⟨hg,trivial⟩,trivial⟩) (I0.lenA _) (a1' rfl ?_)))))))))))))
  refine po' rfl (an' (n' (ci' rfl hh (fun hh=>?_) (fun hh=>?_))))
  ·cases hh
   exact t' rfl (re' (rt' rfl rfl rfl))
  exact sk' (S' (t' rfl (bk' (fw' (ih1 _ _ _ hh) rfl rfl rfl))))
 ·intro g0 g1 ih0 ih1 t i res hh
  refine W0.unroll (S' (p' 3 rfl (qe' rfl trivial (I0.lenA _) (e' rfl (ci' rfl hh (fun hh=>?_) (fun hh=>?_))))))
  ·obtain ⟨x3,hx3,hh⟩:=bs' hh
   obtain ⟨x4,hx4,hh⟩:=bs' hh
   refine sk' (S' (bk' (p' 3 rfl (i' rfl (C1 hx3) (I0.idx hx3) rfl (q' rfl (c' (ih0 _ _ hx4) rfl rfl (e' rfl (ci' rfl hh (fun hh=>?_) (fun hh=>?_)))))))))
   ·cases hh
    exact t' rfl (re' (rt' rfl rfl rfl))
   exact sk' (T' rfl (lw' (ih1 _ _ _ hh) rfl rfl rfl))
  cases hh
  exact ex' (t' rfl (re' (rt' rfl rfl rfl)))
theorem T12 {t res}(hh:Z7 t=some res):Uq t res:=(W10).1 _ _ hh
def Z2 (kind:Int)(parserParser:B0):Option (Pn (C0×B0)):=
 X2 parserParser>>=fun x1=>match x1 with
 | .pn nn=>
 some (.pn nn)
 | .ok x1=>
 T0 [58] x1.2>>=fun x2=>match x2 with
 | .pn nn=>
 some (.pn nn)
 | .ok x2=>
 Y4 x2>>=fun x3=>match x3 with
 | .pn nn=>
 some (.pn nn)
 | .ok x3=>
 some (.ok ((C0.mk kind x1.1 x3.1 0 (A0.mk 0 0 [] []) [] [] []),x3.2))
theorem X0 {kind parserParser res}(hh:Z2 kind parserParser=some res):E2 C 139 [.ref 0 0,.d (.int .i64 kind)] [.row (B0.cells parserParser) 99] (R4 res (fun rr=>[.row (B0.cells rr.2) 99]) (fun rr=>.agg (C0.cells rr.1))) (N4 res L3 [.dead]):=by
 unfold Z2 at hh
 refine E2.intro hC Tryz.func139 rfl rfl rfl (s' rfl rfl (F0.nf hC rfl (n' (p' 1 rfl ?_))))
 rcases bp' hh with ⟨nn,hx1,⟨⟩⟩ | ⟨x1,hx1,hh⟩
 ·exact gn' [0] (F1 hx1) rfl rfl rfl rfl rfl (fun hi=>peW ⟨trivial,trivial⟩ rfl hi)
 refine g' [0] ((F1 hx1).ok) rfl rfl rfl rfl rfl rfl (e' rfl (p' 1 rfl ?_))
 rcases bp' hh with ⟨nn,hx2,⟨⟩⟩ | ⟨x2,hx2,hh⟩
 ·exact gn' [0] (L0 hx2) rfl rfl rfl rfl rfl (fun hi=>peW ⟨trivial,trivial⟩ rfl hi)
 refine g' [0] ((L0 hx2).ok) rfl rfl rfl rfl rfl rfl (n' (p' 3 rfl ?_))
 rcases bp' hh with ⟨nn,hx3,⟨⟩⟩ | ⟨x3,hx3,hh⟩
 ·exact gn' [0] (T9 hx3) rfl rfl rfl rfl rfl (fun hi=>peW ⟨trivial,trivial⟩ rfl hi)
 cases hh
 exact g' [0] ((T9 hx3).ok) rfl rfl rfl rfl rfl rfl (q' rfl (F0.s hC rfl (n' (re' (rt' rfl rfl rfl)))))
def R7 (parserParser:B0):Option (Pn (C0×B0)):=
 Z2 4 parserParser>>=fun x1=>match x1 with
 | .pn nn=>
 some (.pn nn)
 | .ok x1=>
 R0 [61] x1.2>>=fun x2=>
 if x2.1=true then
  R0 [116,114,117,101] x2.2>>=fun x3=>
  if x3.1=true then
   T0 [59] x3.2>>=fun x4=>match x4 with
   | .pn nn=>
   some (.pn nn)
   | .ok x4=>
   some (.ok ((C0.mk x1.1.Kind x1.1.Name x1.1.TypeV 1 x1.1.Value x1.1.Params x1.1.Vars x1.1.Body),x4))
  else
   R0 [102,97,108,115,101] x3.2>>=fun x5=>
   if x5.1=true then
    T0 [59] x5.2>>=fun x4=>match x4 with
    | .pn nn=>
    some (.pn nn)
    | .ok x4=>
    some (.ok (x1.1,x4))
   else
    U2 x5.2>>=fun x6=>match x6 with
    | .pn nn=>
    some (.pn nn)
    | .ok x6=>
    T0 [59] x6.2>>=fun x4=>match x4 with
    | .pn nn=>
    some (.pn nn)
    | .ok x4=>
    some (.ok ((C0.mk x1.1.Kind x1.1.Name x1.1.TypeV x6.1 x1.1.Value x1.1.Params x1.1.Vars x1.1.Body),x4))
 else
  T0 [59] x2.2>>=fun x4=>match x4 with
  | .pn nn=>
  some (.pn nn)
  | .ok x4=>
  some (.ok (x1.1,x4))
theorem D2 {parserParser res}(hh:R7 parserParser=some res):E2 C 140 [.ref 0 0] [.row (B0.cells parserParser) 99] (R4 res (fun rr=>[.row (B0.cells rr.2) 99]) (fun rr=>.agg (C0.cells rr.1))) (N4 res L3 [.dead]):=by
 unfold R7 at hh
 refine E2.intro hC Tryz.func140 rfl rfl rfl (s' rfl rfl (F0.nf hC rfl (n' (p' 1 rfl ?_))))
 rcases bp' hh with ⟨nn,hx1,⟨⟩⟩ | ⟨x1,hx1,hh⟩
 ·exact gn' [0] (X0 hx1) rfl rfl rfl rfl rfl (fun hi=>peW ⟨trivial,trivial⟩ rfl hi)
 obtain ⟨x2,hx2,hh⟩:=bs' hh
 refine g' [0] ((X0 hx1).ok) rfl rfl rfl rfl rfl rfl (F0.nf hC rfl (F0.s hC rfl (n' (S' (p' 1 rfl (g' [0] (S0 hx2) rfl rfl rfl rfl rfl rfl (n' (ci' rfl hh (fun hh=>?_) (fun hh=>?_)))))))))
 ·obtain ⟨x3,hx3,hh⟩:=bs' hh
  refine bk' (p' 1 rfl (g' [0] (S0 hx3) rfl rfl rfl rfl rfl rfl (e' rfl (ci' rfl hh (fun hh=>?_) (fun hh=>?_)))))
  ·refine P' 1 rfl (F0.s hC rfl (n' (p' 1 rfl ?_)))
   rcases bp' hh with ⟨nn,hx4,⟨⟩⟩ | ⟨x4,hx4,hh⟩
   ·exact gn' [0] (L0 hx4) rfl rfl rfl rfl rfl (fun hi=>peW ⟨trivial,trivial⟩ rfl hi)
   cases hh
   exact g' [0] ((L0 hx4).ok) rfl rfl rfl rfl rfl rfl (n' (p' 1 rfl (F0.s hC rfl (n' (re' (rt' rfl rfl rfl))))))
  obtain ⟨x5,hx5,hh⟩:=bs' hh
  refine p' 1 rfl (g' [0] (S0 hx5) rfl rfl rfl rfl rfl rfl (e' rfl (ci' rfl hh (fun hh=>?_) (fun hh=>?_))))
  ·refine sk' (p' 1 rfl ?_)
   rcases bp' hh with ⟨nn,hx4,⟨⟩⟩ | ⟨x4,hx4,hh⟩
   ·exact gn' [0] (L0 hx4) rfl rfl rfl rfl rfl (fun hi=>peW ⟨trivial,trivial⟩ rfl hi)
   cases hh
   exact g' [0] ((L0 hx4).ok) rfl rfl rfl rfl rfl rfl (n' (p' 1 rfl (F0.s hC rfl (n' (re' (rt' rfl rfl rfl))))))
  refine P' 1 rfl ?_
  rcases bp' hh with ⟨nn,hx6,⟨⟩⟩ | ⟨x6,hx6,hh⟩
  ·exact gn' [0] (B1 hx6) rfl rfl rfl rfl rfl (fun hi=>peW ⟨trivial,trivial⟩ rfl hi)
  refine g' [0] ((B1 hx6).ok) rfl rfl rfl rfl rfl rfl (q' rfl (F0.s hC rfl (n' (p' 1 rfl ?_))))
  rcases bp' hh with ⟨nn,hx4,⟨⟩⟩ | ⟨x4,hx4,hh⟩
  ·exact gn' [0] (L0 hx4) rfl rfl rfl rfl rfl (fun hi=>peW ⟨trivial,trivial⟩ rfl hi)
  cases hh
  exact g' [0] ((L0 hx4).ok) rfl rfl rfl rfl rfl rfl (n' (p' 1 rfl (F0.s hC rfl (n' (re' (rt' rfl rfl rfl))))))
 refine sk' (p' 1 rfl ?_)
 rcases bp' hh with ⟨nn,hx4,⟨⟩⟩ | ⟨x4,hx4,hh⟩
 ·exact gn' [0] (L0 hx4) rfl rfl rfl rfl rfl (fun hi=>peW ⟨trivial,trivial⟩ rfl hi)
 cases hh
 exact g' [0] ((L0 hx4).ok) rfl rfl rfl rfl rfl rfl (n' (p' 1 rfl (F0.s hC rfl (n' (re' (rt' rfl rfl rfl))))))
def O4 (o0:B0)(x1:A0×B0)(x4:Str×B0)(o2_Args:List A0):Option (Pn (D0×B0)):=
 R0 [44] o0>>=fun x13=>
 if x13.1=true then
  G1 x13.2>>=fun x14=>match x14 with
  | .pn nn=>
  some (.pn nn)
  | .ok x14=>
  if (decide ((o2_Args.length+1) * 57≤140737488355328))=true then
   O4 x14.2 x1 x4 (o2_Args++[x14.1])
  else none
 else
  T0 [41] x13.2>>=fun x8=>match x8 with
  | .pn nn=>
  some (.pn nn)
  | .ok x8=>
  T0 [59] x8>>=fun x9=>match x9 with
  | .pn nn=>
  some (.pn nn)
  | .ok x9=>
  some (.ok ((D0.mk 1 x1.1 (A0.mk 0 0 [] []) x4.1 o2_Args 0 0 0 [] [] []),x9))
 partial_fixpoint
abbrev Hi (o0:B0)(x1:A0×B0)(x4:Str×B0)(o2_Args:List A0)(res:Pn (D0×B0)):Prop:=LMp C 52 1 Tryz.f173 [1,1,1,0,4,1,2,1,1,0,1,2,1,4] [(0,.ref 0 0),(2,.ref 1 0),(3,.ref 2 0)] [.row (B0.cells o0) 99,.row [.d (.int .i64 0),.d (.int .i64 0),.d (.int .i64 0),.d (.str []),.full (A0.rows []),.d (.int .i64 0),.d (.int .i64 0),.d (.str []),.full (A0.rows []),.d (.str []),.full (A0.rows []),.d (.int .i64 0),.d (.int .i64 0),.d (.int .i64 0),.full (ei64.rows []),.full (D0.rows []),.full (D0.rows [])] 144,.row [.d (.int .i64 1),.d (.int .i64 x1.1.Op),.d (.int .i64 x1.1.NV),.d (.str x1.1.Name),.d (.sl (A0.rows x1.1.Kids)),.d (.int .i64 0),.d (.int .i64 0),.d (.str []),.full (A0.rows []),.d (.str x4.1),.osl 3 (A0.rows o2_Args),.d (.int .i64 0),.d (.int .i64 0),.d (.int .i64 0),.full (ei64.rows []),.full (D0.rows []),.full (D0.rows [])] 144,.tok 26 4] (R4 res (fun rr=>[.row (B0.cells rr.2) 99]) (fun rr=>.agg (D0.cells rr.1))) (N4 res L3 [.dead])
theorem Zo (x1:A0×B0)(x4:Str×B0):(∀ o0 o2_Args res,O4 o0 x1 x4 o2_Args=some res→Hi o0 x1 x4 o2_Args res):=by
 refine O4.partial_correctness x1 x4 _ ?_
 ·intro g0 ih0 o0 o2_Args res hh
  obtain ⟨x13,hx13,hh⟩:=bs' hh
  refine W0.unroll (S' (p' 1 rfl (g' [0] (S0 hx13) rfl rfl rfl rfl rfl rfl (n' (ci' rfl hh (fun hh=>?_) (fun hh=>?_))))))
  ·refine sk' (bk' ?_)
   rcases bp' hh with ⟨nn,hx14,⟨⟩⟩ | ⟨x14,hx14,hh⟩
   ·refine AEx.drawE hC ?_
    refine E0.step rfl (j0:=0) (js:=[2]) (by kernel_rfl) ⟨⟨_,rfl,?_⟩,⟨_,rfl,?_⟩,trivial⟩
    ·refine e' rfl ?_
     refine E0.step rfl (j0:=1) (js:=[2]) (by kernel_rfl) ⟨⟨_,rfl,?_⟩,⟨_,rfl,?_⟩,trivial⟩
     ·refine e' rfl ?_
      refine E0.step rfl (j0:=2) (js:=[]) (by kernel_rfl) ⟨⟨_,rfl,?_⟩,trivial⟩
      refine e' rfl ?_
      refine E0.step rfl (j0:=3) (js:=[]) (by kernel_rfl) ⟨⟨_,rfl,?_⟩,trivial⟩
      exact gn' [0] (U0 hx14) rfl rfl rfl rfl rfl (fun hi=>peW ⟨trivial,trivial⟩ rfl hi)
     ·refine e' rfl ?_
      refine E0.step rfl (j0:=1) (js:=[3]) (by kernel_rfl) ⟨⟨_,rfl,?_⟩,⟨_,rfl,?_⟩,trivial⟩
      ·refine e' rfl ?_
       refine E0.step rfl (j0:=3) (js:=[]) (by kernel_rfl) ⟨⟨_,rfl,?_⟩,trivial⟩
       exact gn' [0] (U0 hx14) rfl rfl rfl rfl rfl (fun hi=>peW ⟨trivial,trivial⟩ rfl hi)
      ·exact gn' [0] (U0 hx14) rfl rfl rfl rfl rfl (fun hi=>peW ⟨trivial,trivial⟩ rfl hi)
    ·refine e' rfl ?_
     refine E0.step rfl (j0:=0) (js:=[3]) (by kernel_rfl) ⟨⟨_,rfl,?_⟩,⟨_,rfl,?_⟩,trivial⟩
     ·refine e' rfl ?_
      refine E0.step rfl (j0:=1) (js:=[3]) (by kernel_rfl) ⟨⟨_,rfl,?_⟩,⟨_,rfl,?_⟩,trivial⟩
      ·refine e' rfl ?_
       refine E0.step rfl (j0:=3) (js:=[]) (by kernel_rfl) ⟨⟨_,rfl,?_⟩,trivial⟩
       exact gn' [0] (U0 hx14) rfl rfl rfl rfl rfl (fun hi=>peW ⟨trivial,trivial⟩ rfl hi)
      ·exact gn' [0] (U0 hx14) rfl rfl rfl rfl rfl (fun hi=>peW ⟨trivial,trivial⟩ rfl hi)
     ·exact gn' [0] (U0 hx14) rfl rfl rfl rfl rfl (fun hi=>peW ⟨trivial,trivial⟩ rfl hi)
   obtain ⟨c11,hh⟩:=I4 hh
   refine AEx.drawE hC ?_
   refine E0.step rfl (j0:=0) (js:=[2]) (by kernel_rfl) ⟨⟨_,rfl,?_⟩,⟨_,rfl,?_⟩,trivial⟩
   ·refine e' rfl ?_
    refine E0.step rfl (j0:=1) (js:=[2]) (by kernel_rfl) ⟨⟨_,rfl,?_⟩,⟨_,rfl,?_⟩,trivial⟩
    ·refine e' rfl ?_
     refine E0.step rfl (j0:=2) (js:=[]) (by kernel_rfl) ⟨⟨_,rfl,?_⟩,trivial⟩
     refine e' rfl ?_
     refine E0.step rfl (j0:=3) (js:=[]) (by kernel_rfl) ⟨⟨_,rfl,?_⟩,trivial⟩
     refine g' [0] ((U0 hx14).ok) rfl rfl rfl rfl rfl rfl (n' ?_)
     refine E0.step rfl (j0:=4) (js:=[]) (by kernel_rfl) ⟨⟨_,rfl,?_⟩,trivial⟩
     refine F0.be hC rfl (A0.rows_map [x14.1]).symm (n' ?_)
     refine E0.step rfl (j0:=5) (js:=[]) (by kernel_rfl) ⟨⟨_,rfl,?_⟩,trivial⟩
     refine F0.ap hC rfl (rs:=A0.rows (o2_Args++[x14.1])) (A0.app o2_Args [x14.1]) (A0.sz o2_Args) (A0.sz [x14.1]) (P1 (A0.len o2_Args) (A0.len [x14.1]) c11) (n' ?_)
     refine E0.step rfl (j0:=6) (js:=[]) (by kernel_rfl) ⟨⟨_,rfl,?_⟩,trivial⟩
     refine e' rfl ?_
     refine E0.step rfl (j0:=7) (js:=[]) (by kernel_rfl) ⟨⟨_,rfl,?_⟩,trivial⟩
     exact F0.s hC rfl (n' (E0.nil (by kernel_rfl) (lw' (ih0 _ _ _ hh) rfl rfl rfl)))
    ·refine e' rfl ?_
     refine E0.step rfl (j0:=1) (js:=[3]) (by kernel_rfl) ⟨⟨_,rfl,?_⟩,⟨_,rfl,?_⟩,trivial⟩
     ·refine e' rfl ?_
      refine E0.step rfl (j0:=3) (js:=[]) (by kernel_rfl) ⟨⟨_,rfl,?_⟩,trivial⟩
      refine g' [0] ((U0 hx14).ok) rfl rfl rfl rfl rfl rfl (n' ?_)
      refine E0.step rfl (j0:=4) (js:=[]) (by kernel_rfl) ⟨⟨_,rfl,?_⟩,trivial⟩
      refine F0.be hC rfl (A0.rows_map [x14.1]).symm (n' ?_)
      refine E0.step rfl (j0:=5) (js:=[]) (by kernel_rfl) ⟨⟨_,rfl,?_⟩,trivial⟩
      refine F0.ap hC rfl (rs:=A0.rows (o2_Args++[x14.1])) (A0.app o2_Args [x14.1]) (A0.sz o2_Args) (A0.sz [x14.1]) (P1 (A0.len o2_Args) (A0.len [x14.1]) c11) (n' ?_)
      refine E0.step rfl (j0:=6) (js:=[]) (by kernel_rfl) ⟨⟨_,rfl,?_⟩,trivial⟩
      refine e' rfl ?_
      refine E0.step rfl (j0:=7) (js:=[]) (by kernel_rfl) ⟨⟨_,rfl,?_⟩,trivial⟩
      exact F0.s hC rfl (n' (E0.nil (by kernel_rfl) (lw' (ih0 _ _ _ hh) rfl rfl rfl)))
     ·refine g' [0] ((U0 hx14).ok) rfl rfl rfl rfl rfl rfl (n' ?_)
      refine E0.step rfl (j0:=1) (js:=[4]) (by kernel_rfl) ⟨⟨_,rfl,?_⟩,⟨_,rfl,?_⟩,trivial⟩
      ·refine e' rfl ?_
       refine E0.step rfl (j0:=4) (js:=[]) (by kernel_rfl) ⟨⟨_,rfl,?_⟩,trivial⟩
       refine F0.be hC rfl (A0.rows_map [x14.1]).symm (n' ?_)
       refine E0.step rfl (j0:=5) (js:=[]) (by kernel_rfl) ⟨⟨_,rfl,?_⟩,trivial⟩
       refine F0.ap hC rfl (rs:=A0.rows (o2_Args++[x14.1])) (A0.app o2_Args [x14.1]) (A0.sz o2_Args) (A0.sz [x14.1]) (P1 (A0.len o2_Args) (A0.len [x14.1]) c11) (n' ?_)
       refine E0.step rfl (j0:=6) (js:=[]) (by kernel_rfl) ⟨⟨_,rfl,?_⟩,trivial⟩
       refine e' rfl ?_
       refine E0.step rfl (j0:=7) (js:=[]) (by kernel_rfl) ⟨⟨_,rfl,?_⟩,trivial⟩
       exact F0.s hC rfl (n' (E0.nil (by kernel_rfl) (lw' (ih0 _ _ _ hh) rfl rfl rfl)))
      ·refine F0.be hC rfl (A0.rows_map [x14.1]).symm (n' ?_)
       refine E0.step rfl (j0:=1) (js:=[]) (by kernel_rfl) ⟨⟨_,rfl,?_⟩,trivial⟩
       refine e' rfl ?_
       refine E0.step rfl (j0:=5) (js:=[]) (by kernel_rfl) ⟨⟨_,rfl,?_⟩,trivial⟩
       refine F0.ap hC rfl (rs:=A0.rows (o2_Args++[x14.1])) (A0.app o2_Args [x14.1]) (A0.sz o2_Args) (A0.sz [x14.1]) (P1 (A0.len o2_Args) (A0.len [x14.1]) c11) (n' ?_)
       refine E0.step rfl (j0:=6) (js:=[]) (by kernel_rfl) ⟨⟨_,rfl,?_⟩,trivial⟩
       refine e' rfl ?_
       refine E0.step rfl (j0:=7) (js:=[]) (by kernel_rfl) ⟨⟨_,rfl,?_⟩,trivial⟩
       exact F0.s hC rfl (n' (E0.nil (by kernel_rfl) (lw' (ih0 _ _ _ hh) rfl rfl rfl)))
   ·refine e' rfl ?_
    refine E0.step rfl (j0:=0) (js:=[3]) (by kernel_rfl) ⟨⟨_,rfl,?_⟩,⟨_,rfl,?_⟩,trivial⟩
    ·refine e' rfl ?_
     refine E0.step rfl (j0:=1) (js:=[3]) (by kernel_rfl) ⟨⟨_,rfl,?_⟩,⟨_,rfl,?_⟩,trivial⟩
     ·refine e' rfl ?_
      refine E0.step rfl (j0:=3) (js:=[]) (by kernel_rfl) ⟨⟨_,rfl,?_⟩,trivial⟩
      refine g' [0] ((U0 hx14).ok) rfl rfl rfl rfl rfl rfl (n' ?_)
      refine E0.step rfl (j0:=4) (js:=[]) (by kernel_rfl) ⟨⟨_,rfl,?_⟩,trivial⟩
      refine F0.be hC rfl (A0.rows_map [x14.1]).symm (n' ?_)
      refine E0.step rfl (j0:=5) (js:=[]) (by kernel_rfl) ⟨⟨_,rfl,?_⟩,trivial⟩
      refine F0.ap hC rfl (rs:=A0.rows (o2_Args++[x14.1])) (A0.app o2_Args [x14.1]) (A0.sz o2_Args) (A0.sz [x14.1]) (P1 (A0.len o2_Args) (A0.len [x14.1]) c11) (n' ?_)
      refine E0.step rfl (j0:=6) (js:=[]) (by kernel_rfl) ⟨⟨_,rfl,?_⟩,trivial⟩
      refine e' rfl ?_
      refine E0.step rfl (j0:=7) (js:=[]) (by kernel_rfl) ⟨⟨_,rfl,?_⟩,trivial⟩
      exact F0.s hC rfl (n' (E0.nil (by kernel_rfl) (lw' (ih0 _ _ _ hh) rfl rfl rfl)))
     ·refine g' [0] ((U0 hx14).ok) rfl rfl rfl rfl rfl rfl (n' ?_)
      refine E0.step rfl (j0:=1) (js:=[4]) (by kernel_rfl) ⟨⟨_,rfl,?_⟩,⟨_,rfl,?_⟩,trivial⟩
      ·refine e' rfl ?_
       refine E0.step rfl (j0:=4) (js:=[]) (by kernel_rfl) ⟨⟨_,rfl,?_⟩,trivial⟩
       refine F0.be hC rfl (A0.rows_map [x14.1]).symm (n' ?_)
       refine E0.step rfl (j0:=5) (js:=[]) (by kernel_rfl) ⟨⟨_,rfl,?_⟩,trivial⟩
       refine F0.ap hC rfl (rs:=A0.rows (o2_Args++[x14.1])) (A0.app o2_Args [x14.1]) (A0.sz o2_Args) (A0.sz [x14.1]) (P1 (A0.len o2_Args) (A0.len [x14.1]) c11) (n' ?_)
       refine E0.step rfl (j0:=6) (js:=[]) (by kernel_rfl) ⟨⟨_,rfl,?_⟩,trivial⟩
       refine e' rfl ?_
       refine E0.step rfl (j0:=7) (js:=[]) (by kernel_rfl) ⟨⟨_,rfl,?_⟩,trivial⟩
       exact F0.s hC rfl (n' (E0.nil (by kernel_rfl) (lw' (ih0 _ _ _ hh) rfl rfl rfl)))
      ·refine F0.be hC rfl (A0.rows_map [x14.1]).symm (n' ?_)
       refine E0.step rfl (j0:=1) (js:=[]) (by kernel_rfl) ⟨⟨_,rfl,?_⟩,trivial⟩
       refine e' rfl ?_
       refine E0.step rfl (j0:=5) (js:=[]) (by kernel_rfl) ⟨⟨_,rfl,?_⟩,trivial⟩
       refine F0.ap hC rfl (rs:=A0.rows (o2_Args++[x14.1])) (A0.app o2_Args [x14.1]) (A0.sz o2_Args) (A0.sz [x14.1]) (P1 (A0.len o2_Args) (A0.len [x14.1]) c11) (n' ?_)
       refine E0.step rfl (j0:=6) (js:=[]) (by kernel_rfl) ⟨⟨_,rfl,?_⟩,trivial⟩
       refine e' rfl ?_
       refine E0.step rfl (j0:=7) (js:=[]) (by kernel_rfl) ⟨⟨_,rfl,?_⟩,trivial⟩
       exact F0.s hC rfl (n' (E0.nil (by kernel_rfl) (lw' (ih0 _ _ _ hh) rfl rfl rfl)))
    ·refine g' [0] ((U0 hx14).ok) rfl rfl rfl rfl rfl rfl (n' ?_)
     refine E0.step rfl (j0:=0) (js:=[4]) (by kernel_rfl) ⟨⟨_,rfl,?_⟩,⟨_,rfl,?_⟩,trivial⟩
     ·refine e' rfl ?_
      refine E0.step rfl (j0:=1) (js:=[4]) (by kernel_rfl) ⟨⟨_,rfl,?_⟩,⟨_,rfl,?_⟩,trivial⟩
      ·refine e' rfl ?_
       refine E0.step rfl (j0:=4) (js:=[]) (by kernel_rfl) ⟨⟨_,rfl,?_⟩,trivial⟩
       refine F0.be hC rfl (A0.rows_map [x14.1]).symm (n' ?_)
       refine E0.step rfl (j0:=5) (js:=[]) (by kernel_rfl) ⟨⟨_,rfl,?_⟩,trivial⟩
       refine F0.ap hC rfl (rs:=A0.rows (o2_Args++[x14.1])) (A0.app o2_Args [x14.1]) (A0.sz o2_Args) (A0.sz [x14.1]) (P1 (A0.len o2_Args) (A0.len [x14.1]) c11) (n' ?_)
       refine E0.step rfl (j0:=6) (js:=[]) (by kernel_rfl) ⟨⟨_,rfl,?_⟩,trivial⟩
       refine e' rfl ?_
       refine E0.step rfl (j0:=7) (js:=[]) (by kernel_rfl) ⟨⟨_,rfl,?_⟩,trivial⟩
       exact F0.s hC rfl (n' (E0.nil (by kernel_rfl) (lw' (ih0 _ _ _ hh) rfl rfl rfl)))
      ·refine F0.be hC rfl (A0.rows_map [x14.1]).symm (n' ?_)
       refine E0.step rfl (j0:=1) (js:=[]) (by kernel_rfl) ⟨⟨_,rfl,?_⟩,trivial⟩
       refine e' rfl ?_
       refine E0.step rfl (j0:=5) (js:=[]) (by kernel_rfl) ⟨⟨_,rfl,?_⟩,trivial⟩
       refine F0.ap hC rfl (rs:=A0.rows (o2_Args++[x14.1])) (A0.app o2_Args [x14.1]) (A0.sz o2_Args) (A0.sz [x14.1]) (P1 (A0.len o2_Args) (A0.len [x14.1]) c11) (n' ?_)
       refine E0.step rfl (j0:=6) (js:=[]) (by kernel_rfl) ⟨⟨_,rfl,?_⟩,trivial⟩
       refine e' rfl ?_
       refine E0.step rfl (j0:=7) (js:=[]) (by kernel_rfl) ⟨⟨_,rfl,?_⟩,trivial⟩
       exact F0.s hC rfl (n' (E0.nil (by kernel_rfl) (lw' (ih0 _ _ _ hh) rfl rfl rfl)))
     ·refine F0.be hC rfl (A0.rows_map [x14.1]).symm (n' ?_)
      refine E0.step rfl (j0:=0) (js:=[]) (by kernel_rfl) ⟨⟨_,rfl,?_⟩,trivial⟩
      refine e' rfl ?_
      refine E0.step rfl (j0:=1) (js:=[]) (by kernel_rfl) ⟨⟨_,rfl,?_⟩,trivial⟩
      refine e' rfl ?_
      refine E0.step rfl (j0:=5) (js:=[]) (by kernel_rfl) ⟨⟨_,rfl,?_⟩,trivial⟩
      refine F0.ap hC rfl (rs:=A0.rows (o2_Args++[x14.1])) (A0.app o2_Args [x14.1]) (A0.sz o2_Args) (A0.sz [x14.1]) (P1 (A0.len o2_Args) (A0.len [x14.1]) c11) (n' ?_)
      refine E0.step rfl (j0:=6) (js:=[]) (by kernel_rfl) ⟨⟨_,rfl,?_⟩,trivial⟩
      refine e' rfl ?_
      refine E0.step rfl (j0:=7) (js:=[]) (by kernel_rfl) ⟨⟨_,rfl,?_⟩,trivial⟩
      exact F0.s hC rfl (n' (E0.nil (by kernel_rfl) (lw' (ih0 _ _ _ hh) rfl rfl rfl)))
  refine ex' (P' 1 rfl ?_)
  rcases bp' hh with ⟨nn,hx8,⟨⟩⟩ | ⟨x8,hx8,hh⟩
  ·exact gn' [0] (L0 hx8) rfl rfl rfl rfl rfl (fun hi=>peW ⟨trivial,trivial⟩ rfl hi)
  refine g' [0] ((L0 hx8).ok) rfl rfl rfl rfl rfl rfl (n' (p' 1 rfl ?_))
  rcases bp' hh with ⟨nn,hx9,⟨⟩⟩ | ⟨x9,hx9,hh⟩
  ·exact gn' [0] (L0 hx9) rfl rfl rfl rfl rfl (fun hi=>peW ⟨trivial,trivial⟩ rfl hi)
  refine g' [0] ((L0 hx9).ok) rfl rfl rfl rfl rfl rfl (n' (p' 1 rfl (F0.s hC rfl (n' (re' ?_)))))
  obtain rfl:=oi' hh
  exact ⟨_,.agg [.d (.int .i64 1),.d (.int .i64 x1.1.Op),.d (.int .i64 x1.1.NV),.d (.str x1.1.Name),.d (.sl (A0.rows x1.1.Kids)),.d (.int .i64 0),.d (.int .i64 0),.d (.str []),.d (.sl (A0.rows [])),.d (.str x4.1),.d (.sl (A0.rows o2_Args)),.d (.int .i64 0),.d (.int .i64 0),.d (.int .i64 0),.d (.sl (ei64.rows [])),.d (.sl (D0.rows [])),.d (.sl (D0.rows []))],[.row (B0.cells x9) 99],rfl,(.aggL ⟨.rfl,.rfl,.rfl,.rfl,.rfl,.rfl,.rfl,.rfl,.full,.rfl,.osl,.rfl,.rfl,.rfl,.full,.full,.full,trivial⟩),⟨⟨rfl,.refl _,rfl⟩,trivial⟩,rfl,rfl,rpq rfl rfl⟩
theorem Rp {o0 x1 x4 o2_Args res}(hh:O4 o0 x1 x4 o2_Args=some res):Hi o0 x1 x4 o2_Args res:=(Zo x1 x4) _ _ _ hh
def Ma (x7:A0×B0)(x1:A0×B0)(x4:Str×B0):Option (Pn (D0×B0)):=
 O4 x7.2 x1 x4 [x7.1]
theorem S2 {x7 x1 x4 res}(hh:Ma x7 x1 x4=some res):JMp C 52 1 Tryz.f173 [1,1,1,0,4,1,2,1,1,0,1,2,1] [(0,.ref 0 0),(2,.ref 1 0),(3,.ref 2 0)] [.row (B0.cells x7.2) 99,.row [.d (.int .i64 0),.d (.int .i64 0),.d (.int .i64 0),.d (.str []),.full (A0.rows []),.d (.int .i64 0),.d (.int .i64 0),.d (.str []),.full (A0.rows []),.d (.str []),.full (A0.rows []),.d (.int .i64 0),.d (.int .i64 0),.d (.int .i64 0),.full (ei64.rows []),.full (D0.rows []),.full (D0.rows [])] 144,.row [.d (.int .i64 1),.d (.int .i64 x1.1.Op),.d (.int .i64 x1.1.NV),.d (.str x1.1.Name),.d (.sl (A0.rows x1.1.Kids)),.d (.int .i64 0),.d (.int .i64 0),.d (.str []),.full (A0.rows []),.d (.str x4.1),.osl 3 (A0.rows [x7.1]),.d (.int .i64 0),.d (.int .i64 0),.d (.int .i64 0),.full (ei64.rows []),.full (D0.rows []),.full (D0.rows [])] 144,.tok 26 4] (R4 res (fun rr=>[.row (B0.cells rr.2) 99]) (fun rr=>.agg (D0.cells rr.1))) (N4 res L3 [.dead]):=by
 unfold Ma at hh
 exact bk' (fw' (Rp hh) rfl rfl rfl)
def G9 (parserParser:B0):Option (Pn (D0×B0)):=
 H6 parserParser>>=fun x1=>match x1 with
 | .pn nn=>
 some (.pn nn)
 | .ok x1=>
 T0 [61] x1.2>>=fun x2=>match x2 with
 | .pn nn=>
 some (.pn nn)
 | .ok x2=>
 R0 [99,97,108,108] x2>>=fun x3=>
 if x3.1=true then
  X2 x3.2>>=fun x4=>match x4 with
  | .pn nn=>
  some (.pn nn)
  | .ok x4=>
  T0 [40] x4.2>>=fun x5=>match x5 with
  | .pn nn=>
  some (.pn nn)
  | .ok x5=>
  X8 [41] x5>>=fun x6=>
  if (!x6)=true then
   G1 x5>>=fun x7=>match x7 with
   | .pn nn=>
   some (.pn nn)
   | .ok x7=>
   if (decide ((0+1) * 57≤140737488355328))=true then
    Ma x7 x1 x4
   else none
  else
   T0 [41] x5>>=fun x8=>match x8 with
   | .pn nn=>
   some (.pn nn)
   | .ok x8=>
   T0 [59] x8>>=fun x9=>match x9 with
   | .pn nn=>
   some (.pn nn)
   | .ok x9=>
   some (.ok ((D0.mk 1 x1.1 (A0.mk 0 0 [] []) x4.1 [] 0 0 0 [] [] []),x9))
 else
  R0 [114,101,108,101,97,115,101] x3.2>>=fun x10=>
  if x10.1=true then
   X2 x10.2>>=fun x11=>match x11 with
   | .pn nn=>
   some (.pn nn)
   | .ok x11=>
   T0 [59] x11.2>>=fun x9=>match x9 with
   | .pn nn=>
   some (.pn nn)
   | .ok x9=>
   some (.ok ((D0.mk 2 x1.1 (A0.mk 0 0 [] []) x11.1 [] 0 0 0 [] [] []),x9))
  else
   G1 x10.2>>=fun x12=>match x12 with
   | .pn nn=>
   some (.pn nn)
   | .ok x12=>
   T0 [59] x12.2>>=fun x9=>match x9 with
   | .pn nn=>
   some (.pn nn)
   | .ok x9=>
   some (.ok ((D0.mk 0 x1.1 x12.1 [] [] 0 0 0 [] [] []),x9))
theorem Rj {parserParser res}(hh:G9 parserParser=some res):E2 C 173 [.ref 0 0] [.row (B0.cells parserParser) 99] (R4 res (fun rr=>[.row (B0.cells rr.2) 99]) (fun rr=>.agg (D0.cells rr.1))) (N4 res L3 [.dead]):=by
 unfold G9 at hh
 refine E2.intro hC Tryz.func173 rfl rfl rfl (s' rfl rfl (F0.nf hC rfl (n' (p' 1 rfl ?_))))
 rcases bp' hh with ⟨nn,hx1,⟨⟩⟩ | ⟨x1,hx1,hh⟩
 ·exact gn' [0] (Mn hx1) rfl rfl rfl rfl rfl (fun hi=>peW ⟨trivial,trivial⟩ rfl hi)
 refine g' [0] ((Mn hx1).ok) rfl rfl rfl rfl rfl rfl (F0.bz hC rfl (F0.nf hC rfl (F0.s hC rfl (n' (p' 1 rfl ?_)))))
 rcases bp' hh with ⟨nn,hx2,⟨⟩⟩ | ⟨x2,hx2,hh⟩
 ·exact gn' [0] (L0 hx2) rfl rfl rfl rfl rfl (fun hi=>peW ⟨trivial,trivial⟩ rfl hi)
 obtain ⟨x3,hx3,hh⟩:=bs' hh
 refine g' [0] ((L0 hx2).ok) rfl rfl rfl rfl rfl rfl (n' (S' (bk' (p' 1 rfl (g' [0] (S0 hx3) rfl rfl rfl rfl rfl rfl (e' rfl (ci' rfl hh (fun hh=>?_) (fun hh=>?_))))))))
 ·refine p' 1 rfl ?_
  rcases bp' hh with ⟨nn,hx4,⟨⟩⟩ | ⟨x4,hx4,hh⟩
  ·exact gn' [0] (F1 hx4) rfl rfl rfl rfl rfl (fun hi=>peW ⟨trivial,trivial⟩ rfl hi)
  refine g' [0] ((F1 hx4).ok) rfl rfl rfl rfl rfl rfl (q' rfl (F0.s hC rfl (q' rfl (F0.s hC rfl (n' (p' 1 rfl ?_))))))
  rcases bp' hh with ⟨nn,hx5,⟨⟩⟩ | ⟨x5,hx5,hh⟩
  ·exact gn' [0] (L0 hx5) rfl rfl rfl rfl rfl (fun hi=>peW ⟨trivial,trivial⟩ rfl hi)
  obtain ⟨x6,hx6,hh⟩:=bs' hh
  refine g' [0] ((L0 hx5).ok) rfl rfl rfl rfl rfl rfl (n' (S' (p' 1 rfl (g' [0] (Nq hx6) rfl rfl rfl rfl rfl rfl (e' rfl (ci' rfl hh (fun hh=>?_) (fun hh=>?_)))))))
  ·refine S' ?_
   rcases bp' hh with ⟨nn,hx7,⟨⟩⟩ | ⟨x7,hx7,hh⟩
   ·refine AEx.drawE hC ?_
    refine E0.step rfl (j0:=0) (js:=[2]) (by kernel_rfl) ⟨⟨_,rfl,?_⟩,⟨_,rfl,?_⟩,trivial⟩
    ·refine e' rfl ?_
     refine E0.step rfl (j0:=1) (js:=[2]) (by kernel_rfl) ⟨⟨_,rfl,?_⟩,⟨_,rfl,?_⟩,trivial⟩
     ·refine e' rfl ?_
      refine E0.step rfl (j0:=2) (js:=[]) (by kernel_rfl) ⟨⟨_,rfl,?_⟩,trivial⟩
      refine e' rfl ?_
      refine E0.step rfl (j0:=3) (js:=[]) (by kernel_rfl) ⟨⟨_,rfl,?_⟩,trivial⟩
      exact gn' [0] (U0 hx7) rfl rfl rfl rfl rfl (fun hi=>peW ⟨trivial,trivial⟩ rfl hi)
     ·refine e' rfl ?_
      refine E0.step rfl (j0:=1) (js:=[3]) (by kernel_rfl) ⟨⟨_,rfl,?_⟩,⟨_,rfl,?_⟩,trivial⟩
      ·refine e' rfl ?_
       refine E0.step rfl (j0:=3) (js:=[]) (by kernel_rfl) ⟨⟨_,rfl,?_⟩,trivial⟩
       exact gn' [0] (U0 hx7) rfl rfl rfl rfl rfl (fun hi=>peW ⟨trivial,trivial⟩ rfl hi)
      ·exact gn' [0] (U0 hx7) rfl rfl rfl rfl rfl (fun hi=>peW ⟨trivial,trivial⟩ rfl hi)
    ·refine e' rfl ?_
     refine E0.step rfl (j0:=0) (js:=[3]) (by kernel_rfl) ⟨⟨_,rfl,?_⟩,⟨_,rfl,?_⟩,trivial⟩
     ·refine e' rfl ?_
      refine E0.step rfl (j0:=1) (js:=[3]) (by kernel_rfl) ⟨⟨_,rfl,?_⟩,⟨_,rfl,?_⟩,trivial⟩
      ·refine e' rfl ?_
       refine E0.step rfl (j0:=3) (js:=[]) (by kernel_rfl) ⟨⟨_,rfl,?_⟩,trivial⟩
       exact gn' [0] (U0 hx7) rfl rfl rfl rfl rfl (fun hi=>peW ⟨trivial,trivial⟩ rfl hi)
      ·exact gn' [0] (U0 hx7) rfl rfl rfl rfl rfl (fun hi=>peW ⟨trivial,trivial⟩ rfl hi)
     ·exact gn' [0] (U0 hx7) rfl rfl rfl rfl rfl (fun hi=>peW ⟨trivial,trivial⟩ rfl hi)
   obtain ⟨c10,hh⟩:=I4 hh
   refine AEx.drawE hC ?_
   refine E0.step rfl (j0:=0) (js:=[2]) (by kernel_rfl) ⟨⟨_,rfl,?_⟩,⟨_,rfl,?_⟩,trivial⟩
   ·refine e' rfl ?_
    refine E0.step rfl (j0:=1) (js:=[2]) (by kernel_rfl) ⟨⟨_,rfl,?_⟩,⟨_,rfl,?_⟩,trivial⟩
    ·refine e' rfl ?_
     refine E0.step rfl (j0:=2) (js:=[]) (by kernel_rfl) ⟨⟨_,rfl,?_⟩,trivial⟩
     refine e' rfl ?_
     refine E0.step rfl (j0:=3) (js:=[]) (by kernel_rfl) ⟨⟨_,rfl,?_⟩,trivial⟩
     refine g' [0] ((U0 hx7).ok) rfl rfl rfl rfl rfl rfl (n' ?_)
     refine E0.step rfl (j0:=4) (js:=[]) (by kernel_rfl) ⟨⟨_,rfl,?_⟩,trivial⟩
     refine F0.be hC rfl (A0.rows_map [x7.1]).symm (n' ?_)
     refine E0.step rfl (j0:=5) (js:=[]) (by kernel_rfl) ⟨⟨_,rfl,?_⟩,trivial⟩
     refine F0.ap hC rfl (rs:=A0.rows [x7.1]) rfl (A0.sz []) (A0.sz [x7.1]) (P1 (A0.len []) (A0.len [x7.1]) c10) (n' ?_)
     refine E0.step rfl (j0:=6) (js:=[]) (by kernel_rfl) ⟨⟨_,rfl,?_⟩,trivial⟩
     refine e' rfl ?_
     refine E0.step rfl (j0:=7) (js:=[]) (by kernel_rfl) ⟨⟨_,rfl,?_⟩,trivial⟩
     exact F0.s hC rfl (n' (E0.nil (by kernel_rfl) (ew' (S2 hh) rfl rfl rfl)))
    ·refine e' rfl ?_
     refine E0.step rfl (j0:=1) (js:=[3]) (by kernel_rfl) ⟨⟨_,rfl,?_⟩,⟨_,rfl,?_⟩,trivial⟩
     ·refine e' rfl ?_
      refine E0.step rfl (j0:=3) (js:=[]) (by kernel_rfl) ⟨⟨_,rfl,?_⟩,trivial⟩
      refine g' [0] ((U0 hx7).ok) rfl rfl rfl rfl rfl rfl (n' ?_)
      refine E0.step rfl (j0:=4) (js:=[]) (by kernel_rfl) ⟨⟨_,rfl,?_⟩,trivial⟩
      refine F0.be hC rfl (A0.rows_map [x7.1]).symm (n' ?_)
      refine E0.step rfl (j0:=5) (js:=[]) (by kernel_rfl) ⟨⟨_,rfl,?_⟩,trivial⟩
      refine F0.ap hC rfl (rs:=A0.rows [x7.1]) rfl (A0.sz []) (A0.sz [x7.1]) (P1 (A0.len []) (A0.len [x7.1]) c10) (n' ?_)
      refine E0.step rfl (j0:=6) (js:=[]) (by kernel_rfl) ⟨⟨_,rfl,?_⟩,trivial⟩
      refine e' rfl ?_
      refine E0.step rfl (j0:=7) (js:=[]) (by kernel_rfl) ⟨⟨_,rfl,?_⟩,trivial⟩
      exact F0.s hC rfl (n' (E0.nil (by kernel_rfl) (ew' (S2 hh) rfl rfl rfl)))
     ·refine g' [0] ((U0 hx7).ok) rfl rfl rfl rfl rfl rfl (n' ?_)
      refine E0.step rfl (j0:=1) (js:=[4]) (by kernel_rfl) ⟨⟨_,rfl,?_⟩,⟨_,rfl,?_⟩,trivial⟩
      ·refine e' rfl ?_
       refine E0.step rfl (j0:=4) (js:=[]) (by kernel_rfl) ⟨⟨_,rfl,?_⟩,trivial⟩
       refine F0.be hC rfl (A0.rows_map [x7.1]).symm (n' ?_)
       refine E0.step rfl (j0:=5) (js:=[]) (by kernel_rfl) ⟨⟨_,rfl,?_⟩,trivial⟩
       refine F0.ap hC rfl (rs:=A0.rows [x7.1]) rfl (A0.sz []) (A0.sz [x7.1]) (P1 (A0.len []) (A0.len [x7.1]) c10) (n' ?_)
       refine E0.step rfl (j0:=6) (js:=[]) (by kernel_rfl) ⟨⟨_,rfl,?_⟩,trivial⟩
       refine e' rfl ?_
       refine E0.step rfl (j0:=7) (js:=[]) (by kernel_rfl) ⟨⟨_,rfl,?_⟩,trivial⟩
       exact F0.s hC rfl (n' (E0.nil (by kernel_rfl) (ew' (S2 hh) rfl rfl rfl)))
      ·refine F0.be hC rfl (A0.rows_map [x7.1]).symm (n' ?_)
       refine E0.step rfl (j0:=1) (js:=[]) (by kernel_rfl) ⟨⟨_,rfl,?_⟩,trivial⟩
       refine e' rfl ?_
       refine E0.step rfl (j0:=5) (js:=[]) (by kernel_rfl) ⟨⟨_,rfl,?_⟩,trivial⟩
       refine F0.ap hC rfl (rs:=A0.rows [x7.1]) rfl (A0.sz []) (A0.sz [x7.1]) (P1 (A0.len []) (A0.len [x7.1]) c10) (n' ?_)
       refine E0.step rfl (j0:=6) (js:=[]) (by kernel_rfl) ⟨⟨_,rfl,?_⟩,trivial⟩
       refine e' rfl ?_
       refine E0.step rfl (j0:=7) (js:=[]) (by kernel_rfl) ⟨⟨_,rfl,?_⟩,trivial⟩
       exact F0.s hC rfl (n' (E0.nil (by kernel_rfl) (ew' (S2 hh) rfl rfl rfl)))
   ·refine e' rfl ?_
    refine E0.step rfl (j0:=0) (js:=[3]) (by kernel_rfl) ⟨⟨_,rfl,?_⟩,⟨_,rfl,?_⟩,trivial⟩
    ·refine e' rfl ?_
     refine E0.step rfl (j0:=1) (js:=[3]) (by kernel_rfl) ⟨⟨_,rfl,?_⟩,⟨_,rfl,?_⟩,trivial⟩
     ·refine e' rfl ?_
      refine E0.step rfl (j0:=3) (js:=[]) (by kernel_rfl) ⟨⟨_,rfl,?_⟩,trivial⟩
      refine g' [0] ((U0 hx7).ok) rfl rfl rfl rfl rfl rfl (n' ?_)
      refine E0.step rfl (j0:=4) (js:=[]) (by kernel_rfl) ⟨⟨_,rfl,?_⟩,trivial⟩
      refine F0.be hC rfl (A0.rows_map [x7.1]).symm (n' ?_)
      refine E0.step rfl (j0:=5) (js:=[]) (by kernel_rfl) ⟨⟨_,rfl,?_⟩,trivial⟩
      refine F0.ap hC rfl (rs:=A0.rows [x7.1]) rfl (A0.sz []) (A0.sz [x7.1]) (P1 (A0.len []) (A0.len [x7.1]) c10) (n' ?_)
      refine E0.step rfl (j0:=6) (js:=[]) (by kernel_rfl) ⟨⟨_,rfl,?_⟩,trivial⟩
      refine e' rfl ?_
      refine E0.step rfl (j0:=7) (js:=[]) (by kernel_rfl) ⟨⟨_,rfl,?_⟩,trivial⟩
      exact F0.s hC rfl (n' (E0.nil (by kernel_rfl) (ew' (S2 hh) rfl rfl rfl)))
     ·refine g' [0] ((U0 hx7).ok) rfl rfl rfl rfl rfl rfl (n' ?_)
      refine E0.step rfl (j0:=1) (js:=[4]) (by kernel_rfl) ⟨⟨_,rfl,?_⟩,⟨_,rfl,?_⟩,trivial⟩
      ·refine e' rfl ?_
       refine E0.step rfl (j0:=4) (js:=[]) (by kernel_rfl) ⟨⟨_,rfl,?_⟩,trivial⟩
       refine F0.be hC rfl (A0.rows_map [x7.1]).symm (n' ?_)
       refine E0.step rfl (j0:=5) (js:=[]) (by kernel_rfl) ⟨⟨_,rfl,?_⟩,trivial⟩
       refine F0.ap hC rfl (rs:=A0.rows [x7.1]) rfl (A0.sz []) (A0.sz [x7.1]) (P1 (A0.len []) (A0.len [x7.1]) c10) (n' ?_)
       refine E0.step rfl (j0:=6) (js:=[]) (by kernel_rfl) ⟨⟨_,rfl,?_⟩,trivial⟩
       refine e' rfl ?_
       refine E0.step rfl (j0:=7) (js:=[]) (by kernel_rfl) ⟨⟨_,rfl,?_⟩,trivial⟩
       exact F0.s hC rfl (n' (E0.nil (by kernel_rfl) (ew' (S2 hh) rfl rfl rfl)))
      ·refine F0.be hC rfl (A0.rows_map [x7.1]).symm (n' ?_)
       refine E0.step rfl (j0:=1) (js:=[]) (by kernel_rfl) ⟨⟨_,rfl,?_⟩,trivial⟩
       refine e' rfl ?_
       refine E0.step rfl (j0:=5) (js:=[]) (by kernel_rfl) ⟨⟨_,rfl,?_⟩,trivial⟩
       refine F0.ap hC rfl (rs:=A0.rows [x7.1]) rfl (A0.sz []) (A0.sz [x7.1]) (P1 (A0.len []) (A0.len [x7.1]) c10) (n' ?_)
       refine E0.step rfl (j0:=6) (js:=[]) (by kernel_rfl) ⟨⟨_,rfl,?_⟩,trivial⟩
       refine e' rfl ?_
       refine E0.step rfl (j0:=7) (js:=[]) (by kernel_rfl) ⟨⟨_,rfl,?_⟩,trivial⟩
       exact F0.s hC rfl (n' (E0.nil (by kernel_rfl) (ew' (S2 hh) rfl rfl rfl)))
    ·refine g' [0] ((U0 hx7).ok) rfl rfl rfl rfl rfl rfl (n' ?_)
     refine E0.step rfl (j0:=0) (js:=[4]) (by kernel_rfl) ⟨⟨_,rfl,?_⟩,⟨_,rfl,?_⟩,trivial⟩
     ·refine e' rfl ?_
      refine E0.step rfl (j0:=1) (js:=[4]) (by kernel_rfl) ⟨⟨_,rfl,?_⟩,⟨_,rfl,?_⟩,trivial⟩
      ·refine e' rfl ?_
       refine E0.step rfl (j0:=4) (js:=[]) (by kernel_rfl) ⟨⟨_,rfl,?_⟩,trivial⟩
       refine F0.be hC rfl (A0.rows_map [x7.1]).symm (n' ?_)
       refine E0.step rfl (j0:=5) (js:=[]) (by kernel_rfl) ⟨⟨_,rfl,?_⟩,trivial⟩
       refine F0.ap hC rfl (rs:=A0.rows [x7.1]) rfl (A0.sz []) (A0.sz [x7.1]) (P1 (A0.len []) (A0.len [x7.1]) c10) (n' ?_)
       refine E0.step rfl (j0:=6) (js:=[]) (by kernel_rfl) ⟨⟨_,rfl,?_⟩,trivial⟩
       refine e' rfl ?_
       refine E0.step rfl (j0:=7) (js:=[]) (by kernel_rfl) ⟨⟨_,rfl,?_⟩,trivial⟩
       exact F0.s hC rfl (n' (E0.nil (by kernel_rfl) (ew' (S2 hh) rfl rfl rfl)))
      ·refine F0.be hC rfl (A0.rows_map [x7.1]).symm (n' ?_)
       refine E0.step rfl (j0:=1) (js:=[]) (by kernel_rfl) ⟨⟨_,rfl,?_⟩,trivial⟩
       refine e' rfl ?_
       refine E0.step rfl (j0:=5) (js:=[]) (by kernel_rfl) ⟨⟨_,rfl,?_⟩,trivial⟩
       refine F0.ap hC rfl (rs:=A0.rows [x7.1]) rfl (A0.sz []) (A0.sz [x7.1]) (P1 (A0.len []) (A0.len [x7.1]) c10) (n' ?_)
       refine E0.step rfl (j0:=6) (js:=[]) (by kernel_rfl) ⟨⟨_,rfl,?_⟩,trivial⟩
       refine e' rfl ?_
       refine E0.step rfl (j0:=7) (js:=[]) (by kernel_rfl) ⟨⟨_,rfl,?_⟩,trivial⟩
       exact F0.s hC rfl (n' (E0.nil (by kernel_rfl) (ew' (S2 hh) rfl rfl rfl)))
     ·refine F0.be hC rfl (A0.rows_map [x7.1]).symm (n' ?_)
      refine E0.step rfl (j0:=0) (js:=[]) (by kernel_rfl) ⟨⟨_,rfl,?_⟩,trivial⟩
      refine e' rfl ?_
      refine E0.step rfl (j0:=1) (js:=[]) (by kernel_rfl) ⟨⟨_,rfl,?_⟩,trivial⟩
      refine e' rfl ?_
      refine E0.step rfl (j0:=5) (js:=[]) (by kernel_rfl) ⟨⟨_,rfl,?_⟩,trivial⟩
      refine F0.ap hC rfl (rs:=A0.rows [x7.1]) rfl (A0.sz []) (A0.sz [x7.1]) (P1 (A0.len []) (A0.len [x7.1]) c10) (n' ?_)
      refine E0.step rfl (j0:=6) (js:=[]) (by kernel_rfl) ⟨⟨_,rfl,?_⟩,trivial⟩
      refine e' rfl ?_
      refine E0.step rfl (j0:=7) (js:=[]) (by kernel_rfl) ⟨⟨_,rfl,?_⟩,trivial⟩
      exact F0.s hC rfl (n' (E0.nil (by kernel_rfl) (ew' (S2 hh) rfl rfl rfl)))
  refine sk' (P' 1 rfl ?_)
  rcases bp' hh with ⟨nn,hx8,⟨⟩⟩ | ⟨x8,hx8,hh⟩
  ·exact gn' [0] (L0 hx8) rfl rfl rfl rfl rfl (fun hi=>peW ⟨trivial,trivial⟩ rfl hi)
  refine g' [0] ((L0 hx8).ok) rfl rfl rfl rfl rfl rfl (n' (p' 1 rfl ?_))
  rcases bp' hh with ⟨nn,hx9,⟨⟩⟩ | ⟨x9,hx9,hh⟩
  ·exact gn' [0] (L0 hx9) rfl rfl rfl rfl rfl (fun hi=>peW ⟨trivial,trivial⟩ rfl hi)
  refine g' [0] ((L0 hx9).ok) rfl rfl rfl rfl rfl rfl (n' (p' 1 rfl (F0.s hC rfl (n' (re' ?_)))))
  obtain rfl:=oi' hh
  exact ⟨_,.agg [.d (.int .i64 1),.d (.int .i64 x1.1.Op),.d (.int .i64 x1.1.NV),.d (.str x1.1.Name),.d (.sl (A0.rows x1.1.Kids)),.d (.int .i64 0),.d (.int .i64 0),.d (.str []),.d (.sl (A0.rows [])),.d (.str x4.1),.d (.sl (A0.rows [])),.d (.int .i64 0),.d (.int .i64 0),.d (.int .i64 0),.d (.sl (ei64.rows [])),.d (.sl (D0.rows [])),.d (.sl (D0.rows []))],[.row (B0.cells x9) 99],rfl,(.aggL ⟨.rfl,.rfl,.rfl,.rfl,.rfl,.rfl,.rfl,.rfl,.full,.rfl,.full,.rfl,.rfl,.rfl,.full,.full,.full,trivial⟩),⟨⟨rfl,.refl _,rfl⟩,trivial⟩,rfl,rfl,rpq rfl rfl⟩
 obtain ⟨x10,hx10,hh⟩:=bs' hh
 refine p' 1 rfl (g' [0] (S0 hx10) rfl rfl rfl rfl rfl rfl (e' rfl (ci' rfl hh (fun hh=>?_) (fun hh=>?_))))
 ·refine P' 1 rfl ?_
  rcases bp' hh with ⟨nn,hx11,⟨⟩⟩ | ⟨x11,hx11,hh⟩
  ·exact gn' [0] (F1 hx11) rfl rfl rfl rfl rfl (fun hi=>peW ⟨trivial,trivial⟩ rfl hi)
  refine g' [0] ((F1 hx11).ok) rfl rfl rfl rfl rfl rfl (q' rfl (F0.s hC rfl (q' rfl (F0.s hC rfl (n' (p' 1 rfl ?_))))))
  rcases bp' hh with ⟨nn,hx9,⟨⟩⟩ | ⟨x9,hx9,hh⟩
  ·exact gn' [0] (L0 hx9) rfl rfl rfl rfl rfl (fun hi=>peW ⟨trivial,trivial⟩ rfl hi)
  refine g' [0] ((L0 hx9).ok) rfl rfl rfl rfl rfl rfl (n' (p' 1 rfl (F0.s hC rfl (n' (re' ?_)))))
  obtain rfl:=oi' hh
  exact ⟨_,.agg [.d (.int .i64 2),.d (.int .i64 x1.1.Op),.d (.int .i64 x1.1.NV),.d (.str x1.1.Name),.d (.sl (A0.rows x1.1.Kids)),.d (.int .i64 0),.d (.int .i64 0),.d (.str []),.d (.sl (A0.rows [])),.d (.str x11.1),.d (.sl (A0.rows [])),.d (.int .i64 0),.d (.int .i64 0),.d (.int .i64 0),.d (.sl (ei64.rows [])),.d (.sl (D0.rows [])),.d (.sl (D0.rows []))],[.row (B0.cells x9) 99],rfl,(.aggL ⟨.rfl,.rfl,.rfl,.rfl,.rfl,.rfl,.rfl,.rfl,.full,.rfl,.full,.rfl,.rfl,.rfl,.full,.full,.full,trivial⟩),⟨⟨rfl,.refl _,rfl⟩,trivial⟩,rfl,rfl,rpq rfl rfl⟩
 refine P' 1 rfl ?_
 rcases bp' hh with ⟨nn,hx12,⟨⟩⟩ | ⟨x12,hx12,hh⟩
 ·exact gn' [0] (U0 hx12) rfl rfl rfl rfl rfl (fun hi=>peW ⟨trivial,trivial⟩ rfl hi)
 refine g' [0] ((U0 hx12).ok) rfl rfl rfl rfl rfl rfl (q' rfl (F0.s hC rfl (n' (p' 1 rfl ?_))))
 rcases bp' hh with ⟨nn,hx9,⟨⟩⟩ | ⟨x9,hx9,hh⟩
 ·exact gn' [0] (L0 hx9) rfl rfl rfl rfl rfl (fun hi=>peW ⟨trivial,trivial⟩ rfl hi)
 refine g' [0] ((L0 hx9).ok) rfl rfl rfl rfl rfl rfl (n' (p' 1 rfl (F0.s hC rfl (n' (re' ?_)))))
 obtain rfl:=oi' hh
 exact ⟨_,.agg [.d (.int .i64 0),.d (.int .i64 x1.1.Op),.d (.int .i64 x1.1.NV),.d (.str x1.1.Name),.d (.sl (A0.rows x1.1.Kids)),.d (.int .i64 x12.1.Op),.d (.int .i64 x12.1.NV),.d (.str x12.1.Name),.d (.sl (A0.rows x12.1.Kids)),.d (.str []),.d (.sl (A0.rows [])),.d (.int .i64 0),.d (.int .i64 0),.d (.int .i64 0),.d (.sl (ei64.rows [])),.d (.sl (D0.rows [])),.d (.sl (D0.rows []))],[.row (B0.cells x9) 99],rfl,(.aggL ⟨.rfl,.rfl,.rfl,.rfl,.rfl,.rfl,.rfl,.rfl,.rfl,.rfl,.full,.rfl,.rfl,.rfl,.full,.full,.full,trivial⟩),⟨⟨rfl,.refl _,rfl⟩,trivial⟩,rfl,rfl,rpq rfl rfl⟩
end Go.Proofs.YtmnhfbekncjnfaaGreatDoor

set_option maxRecDepth 100000
set_option maxHeartbeats 4000000
set_option synthInstance.maxSize 20000
set_option linter.unusedVariables false
namespace Go.Proofs.YtmnhfbekncjnfaaGreatDoor
open Go.Am
def V4 (o0:B0)(o2_Numbers:List Int):Option (Pn (D0×Bool×B0)):=
 R0 [44] o0>>=fun x23=>
 if x23.1=true then
  U2 x23.2>>=fun x24=>match x24 with
  | .pn nn=>
  some (.pn nn)
  | .ok x24=>
  if (decide ((o2_Numbers.length+1) * 9≤140737488355328))=true then
   V4 x24.2 (o2_Numbers++[x24.1])
  else none
 else
  T0 [59] x23.2>>=fun x25=>match x25 with
  | .pn nn=>
  some (.pn nn)
  | .ok x25=>
  some (.ok ((D0.mk 8 (A0.mk 0 0 [] []) (A0.mk 0 0 [] []) [] [] 0 0 0 o2_Numbers [] []),true,x25))
 partial_fixpoint
abbrev Yi (o0:B0)(o2_Numbers:List Int)(res:Pn (D0×Bool×B0)):Prop:=LMp C 93 1 Tryz.f142 [1,1,0,4,1,3,1,3,1,3,1,2,1,0,4] [(0,.ref 0 0),(2,.ref 1 0),(4,.ref 2 0)] [.row (B0.cells o0) 99,.row [.d (.int .i64 0),.d (.int .i64 0),.d (.int .i64 0),.d (.str []),.full (A0.rows []),.d (.int .i64 0),.d (.int .i64 0),.d (.str []),.full (A0.rows []),.d (.str []),.full (A0.rows []),.d (.int .i64 0),.d (.int .i64 0),.d (.int .i64 0),.full (ei64.rows []),.full (D0.rows []),.full (D0.rows [])] 144,.row [.d (.int .i64 8),.d (.int .i64 0),.d (.int .i64 0),.d (.str []),.d (.sl (A0.rows [])),.d (.int .i64 0),.d (.int .i64 0),.d (.str []),.d (.sl (A0.rows [])),.d (.str []),.d (.sl (A0.rows [])),.d (.int .i64 0),.d (.int .i64 0),.d (.int .i64 0),.osl 3 (ei64.rows o2_Numbers),.d (.sl (D0.rows [])),.d (.sl (D0.rows []))] 144,.tok 3 1] (R4 res (fun rr=>[.row (B0.cells rr.2.2) 99]) (fun rr=>.tup [.agg (D0.cells rr.1),.d (.bool rr.2.1)])) (N4 res L3 [.dead])
theorem Sp:(∀ o0 o2_Numbers res,V4 o0 o2_Numbers=some res→Yi o0 o2_Numbers res):=by
 refine V4.partial_correctness _ ?_
 ·intro g0 ih0 o0 o2_Numbers res hh
  obtain ⟨x23,hx23,hh⟩:=bs' hh
  refine W0.unroll (S' (p' 1 rfl (g' [0] (S0 hx23) rfl rfl rfl rfl rfl rfl (n' (ci' rfl hh (fun hh=>?_) (fun hh=>?_))))))
  ·refine sk' (bk' ?_)
   rcases bp' hh with ⟨nn,hx24,⟨⟩⟩ | ⟨x24,hx24,hh⟩
   ·refine AEx.drawE hC ?_
    refine E0.step rfl (j0:=0) (js:=[2]) (by kernel_rfl) ⟨⟨_,rfl,?_⟩,⟨_,rfl,?_⟩,trivial⟩
    ·refine e' rfl ?_
     refine E0.step rfl (j0:=1) (js:=[2]) (by kernel_rfl) ⟨⟨_,rfl,?_⟩,⟨_,rfl,?_⟩,trivial⟩
     ·refine e' rfl ?_
      refine E0.step rfl (j0:=2) (js:=[]) (by kernel_rfl) ⟨⟨_,rfl,?_⟩,trivial⟩
      refine e' rfl ?_
      refine E0.step rfl (j0:=3) (js:=[]) (by kernel_rfl) ⟨⟨_,rfl,?_⟩,trivial⟩
      exact gn' [0] (B1 hx24) rfl rfl rfl rfl rfl (fun hi=>peW ⟨trivial,trivial⟩ rfl hi)
     ·refine e' rfl ?_
      refine E0.step rfl (j0:=1) (js:=[3]) (by kernel_rfl) ⟨⟨_,rfl,?_⟩,⟨_,rfl,?_⟩,trivial⟩
      ·refine e' rfl ?_
       refine E0.step rfl (j0:=3) (js:=[]) (by kernel_rfl) ⟨⟨_,rfl,?_⟩,trivial⟩
       exact gn' [0] (B1 hx24) rfl rfl rfl rfl rfl (fun hi=>peW ⟨trivial,trivial⟩ rfl hi)
      ·exact gn' [0] (B1 hx24) rfl rfl rfl rfl rfl (fun hi=>peW ⟨trivial,trivial⟩ rfl hi)
    ·refine e' rfl ?_
     refine E0.step rfl (j0:=0) (js:=[3]) (by kernel_rfl) ⟨⟨_,rfl,?_⟩,⟨_,rfl,?_⟩,trivial⟩
     ·refine e' rfl ?_
      refine E0.step rfl (j0:=1) (js:=[3]) (by kernel_rfl) ⟨⟨_,rfl,?_⟩,⟨_,rfl,?_⟩,trivial⟩
      ·refine e' rfl ?_
       refine E0.step rfl (j0:=3) (js:=[]) (by kernel_rfl) ⟨⟨_,rfl,?_⟩,trivial⟩
       exact gn' [0] (B1 hx24) rfl rfl rfl rfl rfl (fun hi=>peW ⟨trivial,trivial⟩ rfl hi)
      ·exact gn' [0] (B1 hx24) rfl rfl rfl rfl rfl (fun hi=>peW ⟨trivial,trivial⟩ rfl hi)
     ·exact gn' [0] (B1 hx24) rfl rfl rfl rfl rfl (fun hi=>peW ⟨trivial,trivial⟩ rfl hi)
   obtain ⟨c6,hh⟩:=I4 hh
   refine AEx.drawE hC ?_
   refine E0.step rfl (j0:=0) (js:=[2]) (by kernel_rfl) ⟨⟨_,rfl,?_⟩,⟨_,rfl,?_⟩,trivial⟩
   ·refine e' rfl ?_
    refine E0.step rfl (j0:=1) (js:=[2]) (by kernel_rfl) ⟨⟨_,rfl,?_⟩,⟨_,rfl,?_⟩,trivial⟩
    ·refine e' rfl ?_
     refine E0.step rfl (j0:=2) (js:=[]) (by kernel_rfl) ⟨⟨_,rfl,?_⟩,trivial⟩
     refine e' rfl ?_
     refine E0.step rfl (j0:=3) (js:=[]) (by kernel_rfl) ⟨⟨_,rfl,?_⟩,trivial⟩
     refine g' [0] ((B1 hx24).ok) rfl rfl rfl rfl rfl rfl (n' ?_)
     refine E0.step rfl (j0:=4) (js:=[]) (by kernel_rfl) ⟨⟨_,rfl,?_⟩,trivial⟩
     refine F0.be hC rfl (ei64.rows_map [x24.1]).symm (n' ?_)
     refine E0.step rfl (j0:=5) (js:=[]) (by kernel_rfl) ⟨⟨_,rfl,?_⟩,trivial⟩
     refine F0.ap hC rfl (rs:=ei64.rows (o2_Numbers++[x24.1])) (ei64.app o2_Numbers [x24.1]) (ei64.sz o2_Numbers) (ei64.sz [x24.1]) (P1 (ei64.len o2_Numbers) (ei64.len [x24.1]) c6) (n' ?_)
     refine E0.step rfl (j0:=6) (js:=[]) (by kernel_rfl) ⟨⟨_,rfl,?_⟩,trivial⟩
     refine e' rfl ?_
     refine E0.step rfl (j0:=7) (js:=[]) (by kernel_rfl) ⟨⟨_,rfl,?_⟩,trivial⟩
     exact F0.s hC rfl (n' (E0.nil (by kernel_rfl) (lw' (ih0 _ _ _ hh) rfl rfl rfl)))
    ·refine e' rfl ?_
     refine E0.step rfl (j0:=1) (js:=[3]) (by kernel_rfl) ⟨⟨_,rfl,?_⟩,⟨_,rfl,?_⟩,trivial⟩
     ·refine e' rfl ?_
      refine E0.step rfl (j0:=3) (js:=[]) (by kernel_rfl) ⟨⟨_,rfl,?_⟩,trivial⟩
      refine g' [0] ((B1 hx24).ok) rfl rfl rfl rfl rfl rfl (n' ?_)
      refine E0.step rfl (j0:=4) (js:=[]) (by kernel_rfl) ⟨⟨_,rfl,?_⟩,trivial⟩
      refine F0.be hC rfl (ei64.rows_map [x24.1]).symm (n' ?_)
      refine E0.step rfl (j0:=5) (js:=[]) (by kernel_rfl) ⟨⟨_,rfl,?_⟩,trivial⟩
      refine F0.ap hC rfl (rs:=ei64.rows (o2_Numbers++[x24.1])) (ei64.app o2_Numbers [x24.1]) (ei64.sz o2_Numbers) (ei64.sz [x24.1]) (P1 (ei64.len o2_Numbers) (ei64.len [x24.1]) c6) (n' ?_)
      refine E0.step rfl (j0:=6) (js:=[]) (by kernel_rfl) ⟨⟨_,rfl,?_⟩,trivial⟩
      refine e' rfl ?_
      refine E0.step rfl (j0:=7) (js:=[]) (by kernel_rfl) ⟨⟨_,rfl,?_⟩,trivial⟩
      exact F0.s hC rfl (n' (E0.nil (by kernel_rfl) (lw' (ih0 _ _ _ hh) rfl rfl rfl)))
     ·refine g' [0] ((B1 hx24).ok) rfl rfl rfl rfl rfl rfl (n' ?_)
      refine E0.step rfl (j0:=1) (js:=[4]) (by kernel_rfl) ⟨⟨_,rfl,?_⟩,⟨_,rfl,?_⟩,trivial⟩
      ·refine e' rfl ?_
       refine E0.step rfl (j0:=4) (js:=[]) (by kernel_rfl) ⟨⟨_,rfl,?_⟩,trivial⟩
       refine F0.be hC rfl (ei64.rows_map [x24.1]).symm (n' ?_)
       refine E0.step rfl (j0:=5) (js:=[]) (by kernel_rfl) ⟨⟨_,rfl,?_⟩,trivial⟩
       refine F0.ap hC rfl (rs:=ei64.rows (o2_Numbers++[x24.1])) (ei64.app o2_Numbers [x24.1]) (ei64.sz o2_Numbers) (ei64.sz [x24.1]) (P1 (ei64.len o2_Numbers) (ei64.len [x24.1]) c6) (n' ?_)
       refine E0.step rfl (j0:=6) (js:=[]) (by kernel_rfl) ⟨⟨_,rfl,?_⟩,trivial⟩
       refine e' rfl ?_
       refine E0.step rfl (j0:=7) (js:=[]) (by kernel_rfl) ⟨⟨_,rfl,?_⟩,trivial⟩
       exact F0.s hC rfl (n' (E0.nil (by kernel_rfl) (lw' (ih0 _ _ _ hh) rfl rfl rfl)))
      ·refine F0.be hC rfl (ei64.rows_map [x24.1]).symm (n' ?_)
       refine E0.step rfl (j0:=1) (js:=[]) (by kernel_rfl) ⟨⟨_,rfl,?_⟩,trivial⟩
       refine e' rfl ?_
       refine E0.step rfl (j0:=5) (js:=[]) (by kernel_rfl) ⟨⟨_,rfl,?_⟩,trivial⟩
       refine F0.ap hC rfl (rs:=ei64.rows (o2_Numbers++[x24.1])) (ei64.app o2_Numbers [x24.1]) (ei64.sz o2_Numbers) (ei64.sz [x24.1]) (P1 (ei64.len o2_Numbers) (ei64.len [x24.1]) c6) (n' ?_)
       refine E0.step rfl (j0:=6) (js:=[]) (by kernel_rfl) ⟨⟨_,rfl,?_⟩,trivial⟩
       refine e' rfl ?_
       refine E0.step rfl (j0:=7) (js:=[]) (by kernel_rfl) ⟨⟨_,rfl,?_⟩,trivial⟩
       exact F0.s hC rfl (n' (E0.nil (by kernel_rfl) (lw' (ih0 _ _ _ hh) rfl rfl rfl)))
   ·refine e' rfl ?_
    refine E0.step rfl (j0:=0) (js:=[3]) (by kernel_rfl) ⟨⟨_,rfl,?_⟩,⟨_,rfl,?_⟩,trivial⟩
    ·refine e' rfl ?_
     refine E0.step rfl (j0:=1) (js:=[3]) (by kernel_rfl) ⟨⟨_,rfl,?_⟩,⟨_,rfl,?_⟩,trivial⟩
     ·refine e' rfl ?_
      refine E0.step rfl (j0:=3) (js:=[]) (by kernel_rfl) ⟨⟨_,rfl,?_⟩,trivial⟩
      refine g' [0] ((B1 hx24).ok) rfl rfl rfl rfl rfl rfl (n' ?_)
      refine E0.step rfl (j0:=4) (js:=[]) (by kernel_rfl) ⟨⟨_,rfl,?_⟩,trivial⟩
      refine F0.be hC rfl (ei64.rows_map [x24.1]).symm (n' ?_)
      refine E0.step rfl (j0:=5) (js:=[]) (by kernel_rfl) ⟨⟨_,rfl,?_⟩,trivial⟩
      refine F0.ap hC rfl (rs:=ei64.rows (o2_Numbers++[x24.1])) (ei64.app o2_Numbers [x24.1]) (ei64.sz o2_Numbers) (ei64.sz [x24.1]) (P1 (ei64.len o2_Numbers) (ei64.len [x24.1]) c6) (n' ?_)
      refine E0.step rfl (j0:=6) (js:=[]) (by kernel_rfl) ⟨⟨_,rfl,?_⟩,trivial⟩
      refine e' rfl ?_
      refine E0.step rfl (j0:=7) (js:=[]) (by kernel_rfl) ⟨⟨_,rfl,?_⟩,trivial⟩
      exact F0.s hC rfl (n' (E0.nil (by kernel_rfl) (lw' (ih0 _ _ _ hh) rfl rfl rfl)))
     ·refine g' [0] ((B1 hx24).ok) rfl rfl rfl rfl rfl rfl (n' ?_)
      refine E0.step rfl (j0:=1) (js:=[4]) (by kernel_rfl) ⟨⟨_,rfl,?_⟩,⟨_,rfl,?_⟩,trivial⟩
      ·refine e' rfl ?_
       refine E0.step rfl (j0:=4) (js:=[]) (by kernel_rfl) ⟨⟨_,rfl,?_⟩,trivial⟩
       refine F0.be hC rfl (ei64.rows_map [x24.1]).symm (n' ?_)
       refine E0.step rfl (j0:=5) (js:=[]) (by kernel_rfl) ⟨⟨_,rfl,?_⟩,trivial⟩
       refine F0.ap hC rfl (rs:=ei64.rows (o2_Numbers++[x24.1])) (ei64.app o2_Numbers [x24.1]) (ei64.sz o2_Numbers) (ei64.sz [x24.1]) (P1 (ei64.len o2_Numbers) (ei64.len [x24.1]) c6) (n' ?_)
       refine E0.step rfl (j0:=6) (js:=[]) (by kernel_rfl) ⟨⟨_,rfl,?_⟩,trivial⟩
       refine e' rfl ?_
       refine E0.step rfl (j0:=7) (js:=[]) (by kernel_rfl) ⟨⟨_,rfl,?_⟩,trivial⟩
       exact F0.s hC rfl (n' (E0.nil (by kernel_rfl) (lw' (ih0 _ _ _ hh) rfl rfl rfl)))
      ·refine F0.be hC rfl (ei64.rows_map [x24.1]).symm (n' ?_)
       refine E0.step rfl (j0:=1) (js:=[]) (by kernel_rfl) ⟨⟨_,rfl,?_⟩,trivial⟩
       refine e' rfl ?_
       refine E0.step rfl (j0:=5) (js:=[]) (by kernel_rfl) ⟨⟨_,rfl,?_⟩,trivial⟩
       refine F0.ap hC rfl (rs:=ei64.rows (o2_Numbers++[x24.1])) (ei64.app o2_Numbers [x24.1]) (ei64.sz o2_Numbers) (ei64.sz [x24.1]) (P1 (ei64.len o2_Numbers) (ei64.len [x24.1]) c6) (n' ?_)
       refine E0.step rfl (j0:=6) (js:=[]) (by kernel_rfl) ⟨⟨_,rfl,?_⟩,trivial⟩
       refine e' rfl ?_
       refine E0.step rfl (j0:=7) (js:=[]) (by kernel_rfl) ⟨⟨_,rfl,?_⟩,trivial⟩
       exact F0.s hC rfl (n' (E0.nil (by kernel_rfl) (lw' (ih0 _ _ _ hh) rfl rfl rfl)))
    ·refine g' [0] ((B1 hx24).ok) rfl rfl rfl rfl rfl rfl (n' ?_)
     refine E0.step rfl (j0:=0) (js:=[4]) (by kernel_rfl) ⟨⟨_,rfl,?_⟩,⟨_,rfl,?_⟩,trivial⟩
     ·refine e' rfl ?_
      refine E0.step rfl (j0:=1) (js:=[4]) (by kernel_rfl) ⟨⟨_,rfl,?_⟩,⟨_,rfl,?_⟩,trivial⟩
      ·refine e' rfl ?_
       refine E0.step rfl (j0:=4) (js:=[]) (by kernel_rfl) ⟨⟨_,rfl,?_⟩,trivial⟩
       refine F0.be hC rfl (ei64.rows_map [x24.1]).symm (n' ?_)
       refine E0.step rfl (j0:=5) (js:=[]) (by kernel_rfl) ⟨⟨_,rfl,?_⟩,trivial⟩
       refine F0.ap hC rfl (rs:=ei64.rows (o2_Numbers++[x24.1])) (ei64.app o2_Numbers [x24.1]) (ei64.sz o2_Numbers) (ei64.sz [x24.1]) (P1 (ei64.len o2_Numbers) (ei64.len [x24.1]) c6) (n' ?_)
       refine E0.step rfl (j0:=6) (js:=[]) (by kernel_rfl) ⟨⟨_,rfl,?_⟩,trivial⟩
       refine e' rfl ?_
       refine E0.step rfl (j0:=7) (js:=[]) (by kernel_rfl) ⟨⟨_,rfl,?_⟩,trivial⟩
       exact F0.s hC rfl (n' (E0.nil (by kernel_rfl) (lw' (ih0 _ _ _ hh) rfl rfl rfl)))
      ·refine F0.be hC rfl (ei64.rows_map [x24.1]).symm (n' ?_)
       refine E0.step rfl (j0:=1) (js:=[]) (by kernel_rfl) ⟨⟨_,rfl,?_⟩,trivial⟩
       refine e' rfl ?_
       refine E0.step rfl (j0:=5) (js:=[]) (by kernel_rfl) ⟨⟨_,rfl,?_⟩,trivial⟩
       refine F0.ap hC rfl (rs:=ei64.rows (o2_Numbers++[x24.1])) (ei64.app o2_Numbers [x24.1]) (ei64.sz o2_Numbers) (ei64.sz [x24.1]) (P1 (ei64.len o2_Numbers) (ei64.len [x24.1]) c6) (n' ?_)
       refine E0.step rfl (j0:=6) (js:=[]) (by kernel_rfl) ⟨⟨_,rfl,?_⟩,trivial⟩
       refine e' rfl ?_
       refine E0.step rfl (j0:=7) (js:=[]) (by kernel_rfl) ⟨⟨_,rfl,?_⟩,trivial⟩
       exact F0.s hC rfl (n' (E0.nil (by kernel_rfl) (lw' (ih0 _ _ _ hh) rfl rfl rfl)))
     ·refine F0.be hC rfl (ei64.rows_map [x24.1]).symm (n' ?_)
      refine E0.step rfl (j0:=0) (js:=[]) (by kernel_rfl) ⟨⟨_,rfl,?_⟩,trivial⟩
      refine e' rfl ?_
      refine E0.step rfl (j0:=1) (js:=[]) (by kernel_rfl) ⟨⟨_,rfl,?_⟩,trivial⟩
      refine e' rfl ?_
      refine E0.step rfl (j0:=5) (js:=[]) (by kernel_rfl) ⟨⟨_,rfl,?_⟩,trivial⟩
      refine F0.ap hC rfl (rs:=ei64.rows (o2_Numbers++[x24.1])) (ei64.app o2_Numbers [x24.1]) (ei64.sz o2_Numbers) (ei64.sz [x24.1]) (P1 (ei64.len o2_Numbers) (ei64.len [x24.1]) c6) (n' ?_)
      refine E0.step rfl (j0:=6) (js:=[]) (by kernel_rfl) ⟨⟨_,rfl,?_⟩,trivial⟩
      refine e' rfl ?_
      refine E0.step rfl (j0:=7) (js:=[]) (by kernel_rfl) ⟨⟨_,rfl,?_⟩,trivial⟩
      exact F0.s hC rfl (n' (E0.nil (by kernel_rfl) (lw' (ih0 _ _ _ hh) rfl rfl rfl)))
  refine ex' (P' 1 rfl ?_)
  rcases bp' hh with ⟨nn,hx25,⟨⟩⟩ | ⟨x25,hx25,hh⟩
  ·exact gn' [0] (L0 hx25) rfl rfl rfl rfl rfl (fun hi=>peW ⟨trivial,trivial⟩ rfl hi)
  refine g' [0] ((L0 hx25).ok) rfl rfl rfl rfl rfl rfl (n' (p' 1 rfl (F0.s hC rfl (e' rfl (re' ?_)))))
  obtain rfl:=oi' hh
  exact ⟨_,.tup [.agg [.d (.int .i64 8),.d (.int .i64 0),.d (.int .i64 0),.d (.str []),.d (.sl (A0.rows [])),.d (.int .i64 0),.d (.int .i64 0),.d (.str []),.d (.sl (A0.rows [])),.d (.str []),.d (.sl (A0.rows [])),.d (.int .i64 0),.d (.int .i64 0),.d (.int .i64 0),.d (.sl (ei64.rows o2_Numbers)),.d (.sl (D0.rows [])),.d (.sl (D0.rows []))],.d (.bool true)],[.row (B0.cells x25) 99],rfl,(.tupL ⟨(.aggL ⟨.rfl,.rfl,.rfl,.rfl,.rfl,.rfl,.rfl,.rfl,.rfl,.rfl,.rfl,.rfl,.rfl,.rfl,.osl,.rfl,.rfl,trivial⟩),.rfl,trivial⟩),⟨⟨rfl,.refl _,rfl⟩,trivial⟩,rfl,rfl,rpq rfl rfl⟩
theorem Iq {o0 o2_Numbers res}(hh:V4 o0 o2_Numbers=some res):Yi o0 o2_Numbers res:=(Sp) _ _ _ hh
mutual
def A4 (parserParser:B0):Option (Pn (List D0×B0)):=
 P5 parserParser []
 partial_fixpoint
def P5 (o0:B0)(out:List D0):Option (Pn (List D0×B0)):=
 G7 o0>>=fun x1=>match x1 with
 | .pn nn=>
 some (.pn nn)
 | .ok x1=>
 if (!x1.2.1)=true then
  some (.ok (out,x1.2.2))
 else
  if (decide ((out.length+1) * 257≤140737488355328))=true then
   P5 x1.2.2 (out++[x1.1])
  else none
 partial_fixpoint
def G7 (parserParser:B0):Option (Pn (D0×Bool×B0)):=
 Z4 parserParser>>=fun x1=>
 if x1=true then
  G9 parserParser>>=fun x2=>match x2 with
  | .pn nn=>
  some (.pn nn)
  | .ok x2=>
  some (.ok (x2.1,true,x2.2))
 else
  R0 [111,117,116,112,117,116] parserParser>>=fun x3=>
  if x3.1=true then
   G1 x3.2>>=fun x4=>match x4 with
   | .pn nn=>
   some (.pn nn)
   | .ok x4=>
   T0 [59] x4.2>>=fun x5=>match x5 with
   | .pn nn=>
   some (.pn nn)
   | .ok x5=>
   some (.ok ((D0.mk 3 (A0.mk 0 0 [] []) x4.1 [] [] 0 0 0 [] [] []),true,x5))
  else
   R0 [119,97,105,116] x3.2>>=fun x6=>
   if x6.1=true then
    U2 x6.2>>=fun x7=>match x7 with
    | .pn nn=>
    some (.pn nn)
    | .ok x7=>
    T0 [59] x7.2>>=fun x8=>match x8 with
    | .pn nn=>
    some (.pn nn)
    | .ok x8=>
    some (.ok ((D0.mk 4 (A0.mk 0 0 [] []) (A0.mk 0 0 [] []) [] [] x7.1 0 0 [] [] []),true,x8))
   else
    R0 [115,101,116,116,108,101] x6.2>>=fun x9=>
    if x9.1=true then
     U2 x9.2>>=fun x10=>match x10 with
     | .pn nn=>
     some (.pn nn)
     | .ok x10=>
     V4 x10.2 [x10.1]
    else
     R0 [105,102] x9.2>>=fun x11=>
     if x11.1=true then
      G1 x11.2>>=fun x12=>match x12 with
      | .pn nn=>
      some (.pn nn)
      | .ok x12=>
      I6 x12.2>>=fun x26=>match x26 with
      | .pn nn=>
      some (.pn nn)
      | .ok x26=>
      R0 [101,108,115,101] x26.2>>=fun x27=>
      if x27.1=true then
       I6 x27.2>>=fun x28=>match x28 with
       | .pn nn=>
       some (.pn nn)
       | .ok x28=>
       some (.ok ((D0.mk 5 (A0.mk 0 0 [] []) x12.1 [] [] 0 0 0 [] x26.1 x28.1),true,x28.2))
      else
       some (.ok ((D0.mk 5 (A0.mk 0 0 [] []) x12.1 [] [] 0 0 0 [] x26.1 []),true,x27.2))
     else
      R0 [119,104,105,108,101] x11.2>>=fun x13=>
      if x13.1=true then
       G1 x13.2>>=fun x14=>match x14 with
       | .pn nn=>
       some (.pn nn)
       | .ok x14=>
       T0 [108,105,109,105,116] x14.2>>=fun x15=>match x15 with
       | .pn nn=>
       some (.pn nn)
       | .ok x15=>
       U2 x15>>=fun x16=>match x16 with
       | .pn nn=>
       some (.pn nn)
       | .ok x16=>
       I6 x16.2>>=fun x29=>match x29 with
       | .pn nn=>
       some (.pn nn)
       | .ok x29=>
       some (.ok ((D0.mk 6 (A0.mk 0 0 [] []) x14.1 [] [] x16.1 0 0 [] x29.1 []),true,x29.2))
      else
       R0 [102,111,114] x13.2>>=fun x17=>
       if x17.1=true then
        X2 x17.2>>=fun x18=>match x18 with
        | .pn nn=>
        some (.pn nn)
        | .ok x18=>
        T0 [61] x18.2>>=fun x19=>match x19 with
        | .pn nn=>
        some (.pn nn)
        | .ok x19=>
        U2 x19>>=fun x20=>match x20 with
        | .pn nn=>
        some (.pn nn)
        | .ok x20=>
        T0 [116,111] x20.2>>=fun x21=>match x21 with
        | .pn nn=>
        some (.pn nn)
        | .ok x21=>
        U2 x21>>=fun x22=>match x22 with
        | .pn nn=>
        some (.pn nn)
        | .ok x22=>
        I6 x22.2>>=fun x30=>match x30 with
        | .pn nn=>
        some (.pn nn)
        | .ok x30=>
        some (.ok ((D0.mk 7 (A0.mk 0 0 [] []) (A0.mk 0 0 [] []) x18.1 [] 0 x20.1 x22.1 [] x30.1 []),true,x30.2))
       else
        some (.ok ((D0.mk 0 (A0.mk 0 0 [] []) (A0.mk 0 0 [] []) [] [] 0 0 0 [] [] []),false,x17.2))
 partial_fixpoint
def I6 (parserParser:B0):Option (Pn (List D0×B0)):=
 T0 [123] parserParser>>=fun x1=>match x1 with
 | .pn nn=>
 some (.pn nn)
 | .ok x1=>
 A4 x1>>=fun x2=>match x2 with
 | .pn nn=>
 some (.pn nn)
 | .ok x2=>
 T0 [125] x2.2>>=fun x3=>match x3 with
 | .pn nn=>
 some (.pn nn)
 | .ok x3=>
 some (.ok (x2.1,x3))
 partial_fixpoint
end
abbrev Zk (parserParser:B0)(res:Pn (List D0×B0)):Prop:=E2 C 88 [.ref 0 0] [.row (B0.cells parserParser) 99] (R4 res (fun rr=>[.row (B0.cells rr.2) 99]) (fun rr=>.d (.sl (D0.rows rr.1)))) (N4 res L3 [.dead])
abbrev Jq (o0:B0)(out:List D0)(res:Pn (List D0×B0)):Prop:=LMp C 18 1 Tryz.f88 [1,1,4] [(0,.ref 0 0),(3,.osl 1 (D0.rows out))] [.row (B0.cells o0) 99,.tok 144 17] (R4 res (fun rr=>[.row (B0.cells rr.2) 99]) (fun rr=>.d (.sl (D0.rows rr.1)))) (N4 res L3 [.dead])
abbrev Vv (parserParser:B0)(res:Pn (D0×Bool×B0)):Prop:=E2 C 142 [.ref 0 0] [.row (B0.cells parserParser) 99] (R4 res (fun rr=>[.row (B0.cells rr.2.2) 99]) (fun rr=>.tup [.agg (D0.cells rr.1),.d (.bool rr.2.1)])) (N4 res L3 [.dead])
abbrev X10 (parserParser:B0)(res:Pn (List D0×B0)):Prop:=E2 C 174 [.ref 0 0] [.row (B0.cells parserParser) 99] (R4 res (fun rr=>[.row (B0.cells rr.2) 99]) (fun rr=>.d (.sl (D0.rows rr.1)))) (N4 res L3 [.dead])
theorem Pr:(∀ parserParser res,A4 parserParser=some res→Zk parserParser res)∧(∀ o0 out res,P5 o0 out=some res→Jq o0 out res)∧(∀ parserParser res,G7 parserParser=some res→Vv parserParser res)∧(∀ parserParser res,I6 parserParser=some res→X10 parserParser res):=by
 refine A4.mutual_partial_correctness _ _ _ _ ?_ ?_ ?_ ?_
 ·intro g1 ih1 parserParser res hh
  exact E2.intro hC Tryz.func88 rfl rfl rfl (t' rfl (p' 1 rfl (F0.tokE 3 144 17 rfl (n' (bk' (fw' (ih1 _ _ _ hh) rfl rfl rfl))))))
 ·intro g1 g2 ih1 ih2 o0 out res hh
  refine W0.unroll (bk' (p' 1 rfl ?_))
  rcases bp' hh with ⟨nn,hx1,⟨⟩⟩ | ⟨x1,hx1,hh⟩
  ·exact gn' [0] (ih2 _ _ hx1) rfl rfl rfl rfl rfl (fun hi=>peW ⟨trivial,trivial⟩ rfl hi)
  refine g' [0] ((ih2 _ _ hx1).ok) rfl rfl rfl rfl rfl rfl (o' 3 rfl (F0.nf hC rfl (F0.s hC rfl (e' rfl (S' (t' rfl (ci' rfl hh (fun hh=>?_) (fun hh=>?_))))))))
  ·refine t' rfl (re' ?_)
   obtain rfl:=oi' hh
   exact ⟨_,.d (.sl (D0.rows out)),[.row (B0.cells x1.2.2) 99],rfl,.osl,⟨⟨rfl,.refl _,rfl⟩,trivial⟩,rfl,rfl,rpq rfl rfl⟩
  obtain ⟨c6,hh⟩:=I4 hh
  exact sk' (P' 2 rfl (F0.be hC rfl (D0.rows_map [x1.1]).symm (F0.ap hC rfl (rs:=D0.rows (out++[x1.1])) (D0.app out [x1.1]) (D0.sz out) (D0.sz [x1.1]) (P1 (D0.len out) (D0.len [x1.1]) c6) (e' rfl (lw' (ih1 _ _ _ hh) rfl rfl rfl)))))
 ·intro g3 ih3 parserParser res hh
  obtain ⟨x1,hx1,hh⟩:=bs' hh
  refine E2.intro hC Tryz.func142 rfl rfl rfl (s' rfl rfl (F0.nf hC rfl (e' rfl (s' rfl rfl (F0.nf hC rfl (n' (S' (bk' (p' 1 rfl (g' [0] (Gh hx1) rfl rfl rfl rfl rfl rfl (e' rfl (ci' rfl hh (fun hh=>?_) (fun hh=>?_)))))))))))))
  ·refine p' 1 rfl ?_
   rcases bp' hh with ⟨nn,hx2,⟨⟩⟩ | ⟨x2,hx2,hh⟩
   ·exact gn' [0] (Rj hx2) rfl rfl rfl rfl rfl (fun hi=>peW ⟨trivial,trivial⟩ rfl hi)
   cases hh
   exact g' [0] ((Rj hx2).ok) rfl rfl rfl rfl rfl rfl (F0.s hC rfl (e' rfl (re' (rt' rfl rfl rfl))))
  obtain ⟨x3,hx3,hh⟩:=bs' hh
  refine p' 1 rfl (g' [0] (S0 hx3) rfl rfl rfl rfl rfl rfl (e' rfl (ci' rfl hh (fun hh=>?_) (fun hh=>?_))))
  ·refine p' 1 rfl ?_
   rcases bp' hh with ⟨nn,hx4,⟨⟩⟩ | ⟨x4,hx4,hh⟩
   ·exact gn' [0] (U0 hx4) rfl rfl rfl rfl rfl (fun hi=>peW ⟨trivial,trivial⟩ rfl hi)
   refine g' [0] ((U0 hx4).ok) rfl rfl rfl rfl rfl rfl (q' rfl (F0.s hC rfl (n' (P' 1 rfl ?_))))
   rcases bp' hh with ⟨nn,hx5,⟨⟩⟩ | ⟨x5,hx5,hh⟩
   ·exact gn' [0] (L0 hx5) rfl rfl rfl rfl rfl (fun hi=>peW ⟨trivial,trivial⟩ rfl hi)
   cases hh
   exact g' [0] ((L0 hx5).ok) rfl rfl rfl rfl rfl rfl (n' (p' 1 rfl (F0.s hC rfl (e' rfl (re' (rt' rfl rfl rfl))))))
  obtain ⟨x6,hx6,hh⟩:=bs' hh
  refine p' 1 rfl (g' [0] (S0 hx6) rfl rfl rfl rfl rfl rfl (e' rfl (ci' rfl hh (fun hh=>?_) (fun hh=>?_))))
  ·refine p' 1 rfl ?_
   rcases bp' hh with ⟨nn,hx7,⟨⟩⟩ | ⟨x7,hx7,hh⟩
   ·exact gn' [0] (B1 hx7) rfl rfl rfl rfl rfl (fun hi=>peW ⟨trivial,trivial⟩ rfl hi)
   refine g' [0] ((B1 hx7).ok) rfl rfl rfl rfl rfl rfl (q' rfl (F0.s hC rfl (n' (P' 1 rfl ?_))))
   rcases bp' hh with ⟨nn,hx8,⟨⟩⟩ | ⟨x8,hx8,hh⟩
   ·exact gn' [0] (L0 hx8) rfl rfl rfl rfl rfl (fun hi=>peW ⟨trivial,trivial⟩ rfl hi)
   cases hh
   exact g' [0] ((L0 hx8).ok) rfl rfl rfl rfl rfl rfl (n' (p' 1 rfl (F0.s hC rfl (e' rfl (re' (rt' rfl rfl rfl))))))
  obtain ⟨x9,hx9,hh⟩:=bs' hh
  refine p' 1 rfl (g' [0] (S0 hx9) rfl rfl rfl rfl rfl rfl (e' rfl (ci' rfl hh (fun hh=>?_) (fun hh=>?_))))
  ·refine p' 1 rfl ?_
   rcases bp' hh with ⟨nn,hx10,⟨⟩⟩ | ⟨x10,hx10,hh⟩
   ·exact gn' [0] (B1 hx10) rfl rfl rfl rfl rfl (fun hi=>peW ⟨trivial,trivial⟩ rfl hi)
   exact g' [0] ((B1 hx10).ok) rfl rfl rfl rfl rfl rfl (F0.be hC rfl (ei64.rows_map [x10.1]).symm (F0.tokE 32 3 1 rfl (q' rfl (F0.s hC rfl (n' (S' (bk' (fw' (Iq hh) rfl rfl rfl))))))))
  obtain ⟨x11,hx11,hh⟩:=bs' hh
  refine p' 1 rfl (g' [0] (S0 hx11) rfl rfl rfl rfl rfl rfl (e' rfl (ci' rfl hh (fun hh=>?_) (fun hh=>?_))))
  ·refine p' 1 rfl ?_
   rcases bp' hh with ⟨nn,hx12,⟨⟩⟩ | ⟨x12,hx12,hh⟩
   ·exact gn' [0] (U0 hx12) rfl rfl rfl rfl rfl (fun hi=>peW ⟨trivial,trivial⟩ rfl hi)
   refine g' [0] ((U0 hx12).ok) rfl rfl rfl rfl rfl rfl (q' rfl (F0.s hC rfl (n' (p' 1 rfl ?_))))
   rcases bp' hh with ⟨nn,hx26,⟨⟩⟩ | ⟨x26,hx26,hh⟩
   ·exact gn' [0] (ih3 _ _ hx26) rfl rfl rfl rfl rfl (fun hi=>peW ⟨trivial,trivial⟩ rfl hi)
   obtain ⟨x27,hx27,hh⟩:=bs' hh
   refine g' [0] ((ih3 _ _ hx26).ok) rfl rfl rfl rfl rfl rfl (q' rfl (F0.s hC rfl (n' (p' 1 rfl (g' [0] (S0 hx27) rfl rfl rfl rfl rfl rfl (n' (ci' rfl hh (fun hh=>?_) (fun hh=>?_))))))))
   ·refine P' 1 rfl ?_
    rcases bp' hh with ⟨nn,hx28,⟨⟩⟩ | ⟨x28,hx28,hh⟩
    ·exact gn' [0] (ih3 _ _ hx28) rfl rfl rfl rfl rfl (fun hi=>peW ⟨trivial,trivial⟩ rfl hi)
    cases hh
    exact g' [0] ((ih3 _ _ hx28).ok) rfl rfl rfl rfl rfl rfl (q' rfl (F0.s hC rfl (n' (p' 1 rfl (F0.s hC rfl (e' rfl (re' (rt' rfl rfl rfl))))))))
   cases hh
   exact sk' (p' 1 rfl (F0.s hC rfl (e' rfl (re' (rt' rfl rfl rfl)))))
  obtain ⟨x13,hx13,hh⟩:=bs' hh
  refine p' 1 rfl (g' [0] (S0 hx13) rfl rfl rfl rfl rfl rfl (e' rfl (ci' rfl hh (fun hh=>?_) (fun hh=>?_))))
  ·refine p' 1 rfl ?_
   rcases bp' hh with ⟨nn,hx14,⟨⟩⟩ | ⟨x14,hx14,hh⟩
   ·exact gn' [0] (U0 hx14) rfl rfl rfl rfl rfl (fun hi=>peW ⟨trivial,trivial⟩ rfl hi)
   refine g' [0] ((U0 hx14).ok) rfl rfl rfl rfl rfl rfl (q' rfl (F0.s hC rfl (n' (p' 1 rfl ?_))))
   rcases bp' hh with ⟨nn,hx15,⟨⟩⟩ | ⟨x15,hx15,hh⟩
   ·exact gn' [0] (L0 hx15) rfl rfl rfl rfl rfl (fun hi=>peW ⟨trivial,trivial⟩ rfl hi)
   refine g' [0] ((L0 hx15).ok) rfl rfl rfl rfl rfl rfl (n' (p' 1 rfl ?_))
   rcases bp' hh with ⟨nn,hx16,⟨⟩⟩ | ⟨x16,hx16,hh⟩
   ·exact gn' [0] (B1 hx16) rfl rfl rfl rfl rfl (fun hi=>peW ⟨trivial,trivial⟩ rfl hi)
   refine g' [0] ((B1 hx16).ok) rfl rfl rfl rfl rfl rfl (q' rfl (F0.s hC rfl (n' (P' 1 rfl ?_))))
   rcases bp' hh with ⟨nn,hx29,⟨⟩⟩ | ⟨x29,hx29,hh⟩
   ·exact gn' [0] (ih3 _ _ hx29) rfl rfl rfl rfl rfl (fun hi=>peW ⟨trivial,trivial⟩ rfl hi)
   cases hh
   exact g' [0] ((ih3 _ _ hx29).ok) rfl rfl rfl rfl rfl rfl (q' rfl (F0.s hC rfl (n' (p' 1 rfl (F0.s hC rfl (e' rfl (re' (rt' rfl rfl rfl))))))))
  obtain ⟨x17,hx17,hh⟩:=bs' hh
  refine p' 1 rfl (g' [0] (S0 hx17) rfl rfl rfl rfl rfl rfl (e' rfl (ci' rfl hh (fun hh=>?_) (fun hh=>?_))))
  ·refine p' 1 rfl ?_
   rcases bp' hh with ⟨nn,hx18,⟨⟩⟩ | ⟨x18,hx18,hh⟩
   ·exact gn' [0] (F1 hx18) rfl rfl rfl rfl rfl (fun hi=>peW ⟨trivial,trivial⟩ rfl hi)
   refine g' [0] ((F1 hx18).ok) rfl rfl rfl rfl rfl rfl (q' rfl (F0.s hC rfl (n' (p' 1 rfl ?_))))
   rcases bp' hh with ⟨nn,hx19,⟨⟩⟩ | ⟨x19,hx19,hh⟩
   ·exact gn' [0] (L0 hx19) rfl rfl rfl rfl rfl (fun hi=>peW ⟨trivial,trivial⟩ rfl hi)
   refine g' [0] ((L0 hx19).ok) rfl rfl rfl rfl rfl rfl (n' (p' 1 rfl ?_))
   rcases bp' hh with ⟨nn,hx20,⟨⟩⟩ | ⟨x20,hx20,hh⟩
   ·exact gn' [0] (B1 hx20) rfl rfl rfl rfl rfl (fun hi=>peW ⟨trivial,trivial⟩ rfl hi)
   refine g' [0] ((B1 hx20).ok) rfl rfl rfl rfl rfl rfl (q' rfl (F0.s hC rfl (n' (p' 1 rfl ?_))))
   rcases bp' hh with ⟨nn,hx21,⟨⟩⟩ | ⟨x21,hx21,hh⟩
   ·exact gn' [0] (L0 hx21) rfl rfl rfl rfl rfl (fun hi=>peW ⟨trivial,trivial⟩ rfl hi)
   refine g' [0] ((L0 hx21).ok) rfl rfl rfl rfl rfl rfl (n' (p' 1 rfl ?_))
   rcases bp' hh with ⟨nn,hx22,⟨⟩⟩ | ⟨x22,hx22,hh⟩
   ·exact gn' [0] (B1 hx22) rfl rfl rfl rfl rfl (fun hi=>peW ⟨trivial,trivial⟩ rfl hi)
   refine g' [0] ((B1 hx22).ok) rfl rfl rfl rfl rfl rfl (q' rfl (F0.s hC rfl (n' (P' 1 rfl ?_))))
   rcases bp' hh with ⟨nn,hx30,⟨⟩⟩ | ⟨x30,hx30,hh⟩
   ·exact gn' [0] (ih3 _ _ hx30) rfl rfl rfl rfl rfl (fun hi=>peW ⟨trivial,trivial⟩ rfl hi)
   cases hh
   exact g' [0] ((ih3 _ _ hx30).ok) rfl rfl rfl rfl rfl rfl (q' rfl (F0.s hC rfl (n' (p' 1 rfl (F0.s hC rfl (e' rfl (re' (rt' rfl rfl rfl))))))))
  refine p' 1 rfl (F0.s hC rfl (e' rfl (re' ?_)))
  obtain rfl:=oi' hh
  exact ⟨_,.tup [.agg [.d (.int .i64 0),.d (.int .i64 0),.d (.int .i64 0),.d (.str []),.d (.sl (A0.rows [])),.d (.int .i64 0),.d (.int .i64 0),.d (.str []),.d (.sl (A0.rows [])),.d (.str []),.d (.sl (A0.rows [])),.d (.int .i64 0),.d (.int .i64 0),.d (.int .i64 0),.d (.sl (ei64.rows [])),.d (.sl (D0.rows [])),.d (.sl (D0.rows []))],.d (.bool false)],[.row (B0.cells x17.2) 99],rfl,(.tupL ⟨(.aggL ⟨.rfl,.rfl,.rfl,.rfl,.full,.rfl,.rfl,.rfl,.full,.rfl,.full,.rfl,.rfl,.rfl,.full,.full,.full,trivial⟩),.rfl,trivial⟩),⟨⟨rfl,.refl _,rfl⟩,trivial⟩,rfl,rfl,rpq rfl rfl⟩
 ·intro g0 ih0 parserParser res hh
  refine E2.intro hC Tryz.func174 rfl rfl rfl (t' rfl (p' 1 rfl ?_))
  rcases bp' hh with ⟨nn,hx1,⟨⟩⟩ | ⟨x1,hx1,hh⟩
  ·exact gn' [0] (L0 hx1) rfl rfl rfl rfl rfl (fun hi=>peW ⟨trivial,trivial⟩ rfl hi)
  refine g' [0] ((L0 hx1).ok) rfl rfl rfl rfl rfl rfl (n' (p' 1 rfl ?_))
  rcases bp' hh with ⟨nn,hx2,⟨⟩⟩ | ⟨x2,hx2,hh⟩
  ·exact gn' [0] (ih0 _ _ hx2) rfl rfl rfl rfl rfl (fun hi=>peW ⟨trivial,trivial⟩ rfl hi)
  refine g' [0] ((ih0 _ _ hx2).ok) rfl rfl rfl rfl rfl rfl (e' rfl (p' 1 rfl ?_))
  rcases bp' hh with ⟨nn,hx3,⟨⟩⟩ | ⟨x3,hx3,hh⟩
  ·exact gn' [0] (L0 hx3) rfl rfl rfl rfl rfl (fun hi=>peW ⟨trivial,trivial⟩ rfl hi)
  cases hh
  exact g' [0] ((L0 hx3).ok) rfl rfl rfl rfl rfl rfl (n' (t' rfl (re' (rt' rfl rfl rfl))))
theorem Na {parserParser res}(hh:A4 parserParser=some res):Zk parserParser res:=(Pr).1 _ _ hh
def B5 (o02:B0)(x1:Str×B0)(x7:I0×B0)(o2_Params2:List C0)(o2_Vars:List C0):Option (Pn (C0×B0)):=
 R0 [118,97,114] o02>>=fun x9=>
 if x9.1=true then
  R7 x9.2>>=fun x10=>match x10 with
  | .pn nn=>
  some (.pn nn)
  | .ok x10=>
  if (decide ((o2_Vars.length+1) * 257≤140737488355328))=true then
   B5 x10.2 x1 x7 o2_Params2 (o2_Vars++[x10.1])
  else none
 else
  A4 x9.2>>=fun x11=>match x11 with
  | .pn nn=>
  some (.pn nn)
  | .ok x11=>
  T0 [114,101,116,117,114,110] x11.2>>=fun x12=>match x12 with
  | .pn nn=>
  some (.pn nn)
  | .ok x12=>
  G1 x12>>=fun x13=>match x13 with
  | .pn nn=>
  some (.pn nn)
  | .ok x13=>
  T0 [59] x13.2>>=fun x14=>match x14 with
  | .pn nn=>
  some (.pn nn)
  | .ok x14=>
  T0 [125] x14>>=fun x15=>match x15 with
  | .pn nn=>
  some (.pn nn)
  | .ok x15=>
  some (.ok ((C0.mk 6 x1.1 x7.1 0 x13.1 o2_Params2 o2_Vars x11.1),x15))
 partial_fixpoint
abbrev Sj (o02:B0)(x1:Str×B0)(x7:I0×B0)(o2_Params2:List C0)(o2_Vars:List C0)(res:Pn (C0×B0)):Prop:=LMp C 58 1 Tryz.f141 [1,1,1,1,1,1,1,1,0,4] [(0,.ref 0 0),(2,.ref 1 0),(3,.ref 2 0)] [.row (B0.cells o02) 99,.row [.d (.int .i64 0),.d (.str []),.d (.int .i64 0),.d (.int .i64 0),.d (.int .i64 0),.d (.int .i64 0),.d (.str []),.full (estr.rows []),.full (I0.rows []),.d (.int .i64 0),.d (.int .i64 0),.d (.int .i64 0),.d (.str []),.full (A0.rows []),.full (C0.rows []),.full (C0.rows []),.full (D0.rows [])] 128,.row [.d (.int .i64 6),.d (.str x1.1),.d (.int .i64 x7.1.Kind),.d (.int .i64 x7.1.Low),.d (.int .i64 x7.1.High),.d (.int .i64 x7.1.Size),.d (.str x7.1.Name),.d (.sl (estr.rows x7.1.Names)),.d (.sl (I0.rows x7.1.Of)),.d (.int .i64 0),.d (.int .i64 0),.d (.int .i64 0),.d (.str []),.full (A0.rows []),.osl 3 (C0.rows o2_Params2),.osl 4 (C0.rows o2_Vars),.full (D0.rows [])] 128,.tok 128 17,.tok 128 17] (R4 res (fun rr=>[.row (B0.cells rr.2) 99]) (fun rr=>.agg (C0.cells rr.1))) (N4 res L3 [.dead])
theorem Kq (x1:Str×B0)(x7:I0×B0)(o2_Params2:List C0):(∀ o02 o2_Vars res,B5 o02 x1 x7 o2_Params2 o2_Vars=some res→Sj o02 x1 x7 o2_Params2 o2_Vars res):=by
 refine B5.partial_correctness x1 x7 o2_Params2 _ ?_
 ·intro g0 ih0 o02 o2_Vars res hh
  obtain ⟨x9,hx9,hh⟩:=bs' hh
  refine W0.unroll (S' (p' 1 rfl (g' [0] (S0 hx9) rfl rfl rfl rfl rfl rfl (n' (ci' rfl hh (fun hh=>?_) (fun hh=>?_))))))
  ·refine sk' (bk' ?_)
   rcases bp' hh with ⟨nn,hx10,⟨⟩⟩ | ⟨x10,hx10,hh⟩
   ·refine AEx.drawE hC ?_
    refine E0.step rfl (j0:=0) (js:=[2]) (by kernel_rfl) ⟨⟨_,rfl,?_⟩,⟨_,rfl,?_⟩,trivial⟩
    ·refine e' rfl ?_
     refine E0.step rfl (j0:=1) (js:=[2]) (by kernel_rfl) ⟨⟨_,rfl,?_⟩,⟨_,rfl,?_⟩,trivial⟩
     ·refine e' rfl ?_
      refine E0.step rfl (j0:=2) (js:=[]) (by kernel_rfl) ⟨⟨_,rfl,?_⟩,trivial⟩
      refine e' rfl ?_
      refine E0.step rfl (j0:=3) (js:=[]) (by kernel_rfl) ⟨⟨_,rfl,?_⟩,trivial⟩
      exact gn' [0] (D2 hx10) rfl rfl rfl rfl rfl (fun hi=>peW ⟨trivial,trivial⟩ rfl hi)
     ·refine e' rfl ?_
      refine E0.step rfl (j0:=1) (js:=[3]) (by kernel_rfl) ⟨⟨_,rfl,?_⟩,⟨_,rfl,?_⟩,trivial⟩
      ·refine e' rfl ?_
       refine E0.step rfl (j0:=3) (js:=[]) (by kernel_rfl) ⟨⟨_,rfl,?_⟩,trivial⟩
       exact gn' [0] (D2 hx10) rfl rfl rfl rfl rfl (fun hi=>peW ⟨trivial,trivial⟩ rfl hi)
      ·exact gn' [0] (D2 hx10) rfl rfl rfl rfl rfl (fun hi=>peW ⟨trivial,trivial⟩ rfl hi)
    ·refine e' rfl ?_
     refine E0.step rfl (j0:=0) (js:=[3]) (by kernel_rfl) ⟨⟨_,rfl,?_⟩,⟨_,rfl,?_⟩,trivial⟩
     ·refine e' rfl ?_
      refine E0.step rfl (j0:=1) (js:=[3]) (by kernel_rfl) ⟨⟨_,rfl,?_⟩,⟨_,rfl,?_⟩,trivial⟩
      ·refine e' rfl ?_
       refine E0.step rfl (j0:=3) (js:=[]) (by kernel_rfl) ⟨⟨_,rfl,?_⟩,trivial⟩
       exact gn' [0] (D2 hx10) rfl rfl rfl rfl rfl (fun hi=>peW ⟨trivial,trivial⟩ rfl hi)
      ·exact gn' [0] (D2 hx10) rfl rfl rfl rfl rfl (fun hi=>peW ⟨trivial,trivial⟩ rfl hi)
     ·exact gn' [0] (D2 hx10) rfl rfl rfl rfl rfl (fun hi=>peW ⟨trivial,trivial⟩ rfl hi)
   obtain ⟨c35,hh⟩:=I4 hh
   refine AEx.drawE hC ?_
   refine E0.step rfl (j0:=0) (js:=[2]) (by kernel_rfl) ⟨⟨_,rfl,?_⟩,⟨_,rfl,?_⟩,trivial⟩
   ·refine e' rfl ?_
    refine E0.step rfl (j0:=1) (js:=[2]) (by kernel_rfl) ⟨⟨_,rfl,?_⟩,⟨_,rfl,?_⟩,trivial⟩
    ·refine e' rfl ?_
     refine E0.step rfl (j0:=2) (js:=[]) (by kernel_rfl) ⟨⟨_,rfl,?_⟩,trivial⟩
     refine e' rfl ?_
     refine E0.step rfl (j0:=3) (js:=[]) (by kernel_rfl) ⟨⟨_,rfl,?_⟩,trivial⟩
     refine g' [0] ((D2 hx10).ok) rfl rfl rfl rfl rfl rfl (n' ?_)
     refine E0.step rfl (j0:=4) (js:=[]) (by kernel_rfl) ⟨⟨_,rfl,?_⟩,trivial⟩
     refine F0.be hC rfl (C0.rows_map [x10.1]).symm (n' ?_)
     refine E0.step rfl (j0:=5) (js:=[]) (by kernel_rfl) ⟨⟨_,rfl,?_⟩,trivial⟩
     refine F0.ap hC rfl (rs:=C0.rows (o2_Vars++[x10.1])) (C0.app o2_Vars [x10.1]) (C0.sz o2_Vars) (C0.sz [x10.1]) (P1 (C0.len o2_Vars) (C0.len [x10.1]) c35) (n' ?_)
     refine E0.step rfl (j0:=6) (js:=[]) (by kernel_rfl) ⟨⟨_,rfl,?_⟩,trivial⟩
     refine e' rfl ?_
     refine E0.step rfl (j0:=7) (js:=[]) (by kernel_rfl) ⟨⟨_,rfl,?_⟩,trivial⟩
     exact F0.s hC rfl (n' (E0.nil (by kernel_rfl) (lw' (ih0 _ _ _ hh) rfl rfl rfl)))
    ·refine e' rfl ?_
     refine E0.step rfl (j0:=1) (js:=[3]) (by kernel_rfl) ⟨⟨_,rfl,?_⟩,⟨_,rfl,?_⟩,trivial⟩
     ·refine e' rfl ?_
      refine E0.step rfl (j0:=3) (js:=[]) (by kernel_rfl) ⟨⟨_,rfl,?_⟩,trivial⟩
      refine g' [0] ((D2 hx10).ok) rfl rfl rfl rfl rfl rfl (n' ?_)
      refine E0.step rfl (j0:=4) (js:=[]) (by kernel_rfl) ⟨⟨_,rfl,?_⟩,trivial⟩
      refine F0.be hC rfl (C0.rows_map [x10.1]).symm (n' ?_)
      refine E0.step rfl (j0:=5) (js:=[]) (by kernel_rfl) ⟨⟨_,rfl,?_⟩,trivial⟩
      refine F0.ap hC rfl (rs:=C0.rows (o2_Vars++[x10.1])) (C0.app o2_Vars [x10.1]) (C0.sz o2_Vars) (C0.sz [x10.1]) (P1 (C0.len o2_Vars) (C0.len [x10.1]) c35) (n' ?_)
      refine E0.step rfl (j0:=6) (js:=[]) (by kernel_rfl) ⟨⟨_,rfl,?_⟩,trivial⟩
      refine e' rfl ?_
      refine E0.step rfl (j0:=7) (js:=[]) (by kernel_rfl) ⟨⟨_,rfl,?_⟩,trivial⟩
      exact F0.s hC rfl (n' (E0.nil (by kernel_rfl) (lw' (ih0 _ _ _ hh) rfl rfl rfl)))
     ·refine g' [0] ((D2 hx10).ok) rfl rfl rfl rfl rfl rfl (n' ?_)
      refine E0.step rfl (j0:=1) (js:=[4]) (by kernel_rfl) ⟨⟨_,rfl,?_⟩,⟨_,rfl,?_⟩,trivial⟩
      ·refine e' rfl ?_
       refine E0.step rfl (j0:=4) (js:=[]) (by kernel_rfl) ⟨⟨_,rfl,?_⟩,trivial⟩
       refine F0.be hC rfl (C0.rows_map [x10.1]).symm (n' ?_)
       refine E0.step rfl (j0:=5) (js:=[]) (by kernel_rfl) ⟨⟨_,rfl,?_⟩,trivial⟩
       refine F0.ap hC rfl (rs:=C0.rows (o2_Vars++[x10.1])) (C0.app o2_Vars [x10.1]) (C0.sz o2_Vars) (C0.sz [x10.1]) (P1 (C0.len o2_Vars) (C0.len [x10.1]) c35) (n' ?_)
       refine E0.step rfl (j0:=6) (js:=[]) (by kernel_rfl) ⟨⟨_,rfl,?_⟩,trivial⟩
       refine e' rfl ?_
       refine E0.step rfl (j0:=7) (js:=[]) (by kernel_rfl) ⟨⟨_,rfl,?_⟩,trivial⟩
       exact F0.s hC rfl (n' (E0.nil (by kernel_rfl) (lw' (ih0 _ _ _ hh) rfl rfl rfl)))
      ·refine F0.be hC rfl (C0.rows_map [x10.1]).symm (n' ?_)
       refine E0.step rfl (j0:=1) (js:=[]) (by kernel_rfl) ⟨⟨_,rfl,?_⟩,trivial⟩
       refine e' rfl ?_
       refine E0.step rfl (j0:=5) (js:=[]) (by kernel_rfl) ⟨⟨_,rfl,?_⟩,trivial⟩
       refine F0.ap hC rfl (rs:=C0.rows (o2_Vars++[x10.1])) (C0.app o2_Vars [x10.1]) (C0.sz o2_Vars) (C0.sz [x10.1]) (P1 (C0.len o2_Vars) (C0.len [x10.1]) c35) (n' ?_)
       refine E0.step rfl (j0:=6) (js:=[]) (by kernel_rfl) ⟨⟨_,rfl,?_⟩,trivial⟩
       refine e' rfl ?_
       refine E0.step rfl (j0:=7) (js:=[]) (by kernel_rfl) ⟨⟨_,rfl,?_⟩,trivial⟩
       exact F0.s hC rfl (n' (E0.nil (by kernel_rfl) (lw' (ih0 _ _ _ hh) rfl rfl rfl)))
   ·refine e' rfl ?_
    refine E0.step rfl (j0:=0) (js:=[3]) (by kernel_rfl) ⟨⟨_,rfl,?_⟩,⟨_,rfl,?_⟩,trivial⟩
    ·refine e' rfl ?_
     refine E0.step rfl (j0:=1) (js:=[3]) (by kernel_rfl) ⟨⟨_,rfl,?_⟩,⟨_,rfl,?_⟩,trivial⟩
     ·refine e' rfl ?_
      refine E0.step rfl (j0:=3) (js:=[]) (by kernel_rfl) ⟨⟨_,rfl,?_⟩,trivial⟩
      refine g' [0] ((D2 hx10).ok) rfl rfl rfl rfl rfl rfl (n' ?_)
      refine E0.step rfl (j0:=4) (js:=[]) (by kernel_rfl) ⟨⟨_,rfl,?_⟩,trivial⟩
      refine F0.be hC rfl (C0.rows_map [x10.1]).symm (n' ?_)
      refine E0.step rfl (j0:=5) (js:=[]) (by kernel_rfl) ⟨⟨_,rfl,?_⟩,trivial⟩
      refine F0.ap hC rfl (rs:=C0.rows (o2_Vars++[x10.1])) (C0.app o2_Vars [x10.1]) (C0.sz o2_Vars) (C0.sz [x10.1]) (P1 (C0.len o2_Vars) (C0.len [x10.1]) c35) (n' ?_)
      refine E0.step rfl (j0:=6) (js:=[]) (by kernel_rfl) ⟨⟨_,rfl,?_⟩,trivial⟩
      refine e' rfl ?_
      refine E0.step rfl (j0:=7) (js:=[]) (by kernel_rfl) ⟨⟨_,rfl,?_⟩,trivial⟩
      exact F0.s hC rfl (n' (E0.nil (by kernel_rfl) (lw' (ih0 _ _ _ hh) rfl rfl rfl)))
     ·refine g' [0] ((D2 hx10).ok) rfl rfl rfl rfl rfl rfl (n' ?_)
      refine E0.step rfl (j0:=1) (js:=[4]) (by kernel_rfl) ⟨⟨_,rfl,?_⟩,⟨_,rfl,?_⟩,trivial⟩
      ·refine e' rfl ?_
       refine E0.step rfl (j0:=4) (js:=[]) (by kernel_rfl) ⟨⟨_,rfl,?_⟩,trivial⟩
       refine F0.be hC rfl (C0.rows_map [x10.1]).symm (n' ?_)
       refine E0.step rfl (j0:=5) (js:=[]) (by kernel_rfl) ⟨⟨_,rfl,?_⟩,trivial⟩
       refine F0.ap hC rfl (rs:=C0.rows (o2_Vars++[x10.1])) (C0.app o2_Vars [x10.1]) (C0.sz o2_Vars) (C0.sz [x10.1]) (P1 (C0.len o2_Vars) (C0.len [x10.1]) c35) (n' ?_)
       refine E0.step rfl (j0:=6) (js:=[]) (by kernel_rfl) ⟨⟨_,rfl,?_⟩,trivial⟩
       refine e' rfl ?_
       refine E0.step rfl (j0:=7) (js:=[]) (by kernel_rfl) ⟨⟨_,rfl,?_⟩,trivial⟩
       exact F0.s hC rfl (n' (E0.nil (by kernel_rfl) (lw' (ih0 _ _ _ hh) rfl rfl rfl)))
      ·refine F0.be hC rfl (C0.rows_map [x10.1]).symm (n' ?_)
       refine E0.step rfl (j0:=1) (js:=[]) (by kernel_rfl) ⟨⟨_,rfl,?_⟩,trivial⟩
       refine e' rfl ?_
       refine E0.step rfl (j0:=5) (js:=[]) (by kernel_rfl) ⟨⟨_,rfl,?_⟩,trivial⟩
       refine F0.ap hC rfl (rs:=C0.rows (o2_Vars++[x10.1])) (C0.app o2_Vars [x10.1]) (C0.sz o2_Vars) (C0.sz [x10.1]) (P1 (C0.len o2_Vars) (C0.len [x10.1]) c35) (n' ?_)
       refine E0.step rfl (j0:=6) (js:=[]) (by kernel_rfl) ⟨⟨_,rfl,?_⟩,trivial⟩
       refine e' rfl ?_
       refine E0.step rfl (j0:=7) (js:=[]) (by kernel_rfl) ⟨⟨_,rfl,?_⟩,trivial⟩
       exact F0.s hC rfl (n' (E0.nil (by kernel_rfl) (lw' (ih0 _ _ _ hh) rfl rfl rfl)))
    ·refine g' [0] ((D2 hx10).ok) rfl rfl rfl rfl rfl rfl (n' ?_)
     refine E0.step rfl (j0:=0) (js:=[4]) (by kernel_rfl) ⟨⟨_,rfl,?_⟩,⟨_,rfl,?_⟩,trivial⟩
     ·refine e' rfl ?_
      refine E0.step rfl (j0:=1) (js:=[4]) (by kernel_rfl) ⟨⟨_,rfl,?_⟩,⟨_,rfl,?_⟩,trivial⟩
      ·refine e' rfl ?_
       refine E0.step rfl (j0:=4) (js:=[]) (by kernel_rfl) ⟨⟨_,rfl,?_⟩,trivial⟩
       refine F0.be hC rfl (C0.rows_map [x10.1]).symm (n' ?_)
       refine E0.step rfl (j0:=5) (js:=[]) (by kernel_rfl) ⟨⟨_,rfl,?_⟩,trivial⟩
       refine F0.ap hC rfl (rs:=C0.rows (o2_Vars++[x10.1])) (C0.app o2_Vars [x10.1]) (C0.sz o2_Vars) (C0.sz [x10.1]) (P1 (C0.len o2_Vars) (C0.len [x10.1]) c35) (n' ?_)
       refine E0.step rfl (j0:=6) (js:=[]) (by kernel_rfl) ⟨⟨_,rfl,?_⟩,trivial⟩
       refine e' rfl ?_
       refine E0.step rfl (j0:=7) (js:=[]) (by kernel_rfl) ⟨⟨_,rfl,?_⟩,trivial⟩
       exact F0.s hC rfl (n' (E0.nil (by kernel_rfl) (lw' (ih0 _ _ _ hh) rfl rfl rfl)))
      ·refine F0.be hC rfl (C0.rows_map [x10.1]).symm (n' ?_)
       refine E0.step rfl (j0:=1) (js:=[]) (by kernel_rfl) ⟨⟨_,rfl,?_⟩,trivial⟩
       refine e' rfl ?_
       refine E0.step rfl (j0:=5) (js:=[]) (by kernel_rfl) ⟨⟨_,rfl,?_⟩,trivial⟩
       refine F0.ap hC rfl (rs:=C0.rows (o2_Vars++[x10.1])) (C0.app o2_Vars [x10.1]) (C0.sz o2_Vars) (C0.sz [x10.1]) (P1 (C0.len o2_Vars) (C0.len [x10.1]) c35) (n' ?_)
       refine E0.step rfl (j0:=6) (js:=[]) (by kernel_rfl) ⟨⟨_,rfl,?_⟩,trivial⟩
       refine e' rfl ?_
       refine E0.step rfl (j0:=7) (js:=[]) (by kernel_rfl) ⟨⟨_,rfl,?_⟩,trivial⟩
       exact F0.s hC rfl (n' (E0.nil (by kernel_rfl) (lw' (ih0 _ _ _ hh) rfl rfl rfl)))
     ·refine F0.be hC rfl (C0.rows_map [x10.1]).symm (n' ?_)
      refine E0.step rfl (j0:=0) (js:=[]) (by kernel_rfl) ⟨⟨_,rfl,?_⟩,trivial⟩
      refine e' rfl ?_
      refine E0.step rfl (j0:=1) (js:=[]) (by kernel_rfl) ⟨⟨_,rfl,?_⟩,trivial⟩
      refine e' rfl ?_
      refine E0.step rfl (j0:=5) (js:=[]) (by kernel_rfl) ⟨⟨_,rfl,?_⟩,trivial⟩
      refine F0.ap hC rfl (rs:=C0.rows (o2_Vars++[x10.1])) (C0.app o2_Vars [x10.1]) (C0.sz o2_Vars) (C0.sz [x10.1]) (P1 (C0.len o2_Vars) (C0.len [x10.1]) c35) (n' ?_)
      refine E0.step rfl (j0:=6) (js:=[]) (by kernel_rfl) ⟨⟨_,rfl,?_⟩,trivial⟩
      refine e' rfl ?_
      refine E0.step rfl (j0:=7) (js:=[]) (by kernel_rfl) ⟨⟨_,rfl,?_⟩,trivial⟩
      exact F0.s hC rfl (n' (E0.nil (by kernel_rfl) (lw' (ih0 _ _ _ hh) rfl rfl rfl)))
  refine ex' (p' 1 rfl ?_)
  rcases bp' hh with ⟨nn,hx11,⟨⟩⟩ | ⟨x11,hx11,hh⟩
  ·exact gn' [0] (Na hx11) rfl rfl rfl rfl rfl (fun hi=>peW ⟨trivial,trivial⟩ rfl hi)
  refine g' [0] ((Na hx11).ok) rfl rfl rfl rfl rfl rfl (q' rfl (F0.s hC rfl (n' (p' 1 rfl ?_))))
  rcases bp' hh with ⟨nn,hx12,⟨⟩⟩ | ⟨x12,hx12,hh⟩
  ·exact gn' [0] (L0 hx12) rfl rfl rfl rfl rfl (fun hi=>peW ⟨trivial,trivial⟩ rfl hi)
  refine g' [0] ((L0 hx12).ok) rfl rfl rfl rfl rfl rfl (n' (p' 1 rfl ?_))
  rcases bp' hh with ⟨nn,hx13,⟨⟩⟩ | ⟨x13,hx13,hh⟩
  ·exact gn' [0] (U0 hx13) rfl rfl rfl rfl rfl (fun hi=>peW ⟨trivial,trivial⟩ rfl hi)
  refine g' [0] ((U0 hx13).ok) rfl rfl rfl rfl rfl rfl (q' rfl (F0.s hC rfl (n' (p' 1 rfl ?_))))
  rcases bp' hh with ⟨nn,hx14,⟨⟩⟩ | ⟨x14,hx14,hh⟩
  ·exact gn' [0] (L0 hx14) rfl rfl rfl rfl rfl (fun hi=>peW ⟨trivial,trivial⟩ rfl hi)
  refine g' [0] ((L0 hx14).ok) rfl rfl rfl rfl rfl rfl (n' (p' 1 rfl ?_))
  rcases bp' hh with ⟨nn,hx15,⟨⟩⟩ | ⟨x15,hx15,hh⟩
  ·exact gn' [0] (L0 hx15) rfl rfl rfl rfl rfl (fun hi=>peW ⟨trivial,trivial⟩ rfl hi)
  refine g' [0] ((L0 hx15).ok) rfl rfl rfl rfl rfl rfl (n' (p' 1 rfl (F0.s hC rfl (n' (re' ?_)))))
  obtain rfl:=oi' hh
  exact ⟨_,.agg [.d (.int .i64 6),.d (.str x1.1),.d (.int .i64 x7.1.Kind),.d (.int .i64 x7.1.Low),.d (.int .i64 x7.1.High),.d (.int .i64 x7.1.Size),.d (.str x7.1.Name),.d (.sl (estr.rows x7.1.Names)),.d (.sl (I0.rows x7.1.Of)),.d (.int .i64 0),.d (.int .i64 x13.1.Op),.d (.int .i64 x13.1.NV),.d (.str x13.1.Name),.d (.sl (A0.rows x13.1.Kids)),.d (.sl (C0.rows o2_Params2)),.d (.sl (C0.rows o2_Vars)),.d (.sl (D0.rows x11.1))],[.row (B0.cells x15) 99],rfl,(.aggL ⟨.rfl,.rfl,.rfl,.rfl,.rfl,.rfl,.rfl,.rfl,.rfl,.rfl,.rfl,.rfl,.rfl,.rfl,.osl,.osl,.rfl,trivial⟩),⟨⟨rfl,.refl _,rfl⟩,trivial⟩,rfl,rfl,rpq rfl rfl⟩
theorem Rr {o02 x1 x7 o2_Params2 o2_Vars res}(hh:B5 o02 x1 x7 o2_Params2 o2_Vars=some res):Sj o02 x1 x7 o2_Params2 o2_Vars res:=(Kq x1 x7 o2_Params2) _ _ _ hh
def C5 (o01:B0)(x1:Str×B0)(o2_Params1:List C0):Option (Pn (C0×B0)):=
 T0 [41] o01>>=fun x5=>match x5 with
 | .pn nn=>
 some (.pn nn)
 | .ok x5=>
 T0 [58] x5>>=fun x6=>match x6 with
 | .pn nn=>
 some (.pn nn)
 | .ok x6=>
 Y4 x6>>=fun x7=>match x7 with
 | .pn nn=>
 some (.pn nn)
 | .ok x7=>
 T0 [123] x7.2>>=fun x8=>match x8 with
 | .pn nn=>
 some (.pn nn)
 | .ok x8=>
 B5 x8 x1 x7 o2_Params1 []
theorem Zi {o01 x1 o2_Params1 res}(hh:C5 o01 x1 o2_Params1=some res):JMp C 58 1 Tryz.f141 [1,1,1,1] [(0,.ref 0 0),(2,.ref 1 0),(3,.ref 2 0)] [.row (B0.cells o01) 99,.row [.d (.int .i64 0),.d (.str []),.d (.int .i64 0),.d (.int .i64 0),.d (.int .i64 0),.d (.int .i64 0),.d (.str []),.full (estr.rows []),.full (I0.rows []),.d (.int .i64 0),.d (.int .i64 0),.d (.int .i64 0),.d (.str []),.full (A0.rows []),.full (C0.rows []),.full (C0.rows []),.full (D0.rows [])] 128,.row [.d (.int .i64 6),.d (.str x1.1),.d (.int .i64 0),.d (.int .i64 0),.d (.int .i64 0),.d (.int .i64 0),.d (.str []),.full (estr.rows []),.full (I0.rows []),.d (.int .i64 0),.d (.int .i64 0),.d (.int .i64 0),.d (.str []),.full (A0.rows []),.osl 3 (C0.rows o2_Params1),.osl 4 (C0.rows []),.full (D0.rows [])] 128,.tok 128 17,.tok 128 17] (R4 res (fun rr=>[.row (B0.cells rr.2) 99]) (fun rr=>.agg (C0.cells rr.1))) (N4 res L3 [.dead]):=by
 unfold C5 at hh
 refine p' 1 rfl ?_
 rcases bp' hh with ⟨nn,hx5,⟨⟩⟩ | ⟨x5,hx5,hh⟩
 ·exact gn' [0] (L0 hx5) rfl rfl rfl rfl rfl (fun hi=>peW ⟨trivial,trivial⟩ rfl hi)
 refine g' [0] ((L0 hx5).ok) rfl rfl rfl rfl rfl rfl (n' (p' 1 rfl ?_))
 rcases bp' hh with ⟨nn,hx6,⟨⟩⟩ | ⟨x6,hx6,hh⟩
 ·exact gn' [0] (L0 hx6) rfl rfl rfl rfl rfl (fun hi=>peW ⟨trivial,trivial⟩ rfl hi)
 refine g' [0] ((L0 hx6).ok) rfl rfl rfl rfl rfl rfl (n' (p' 1 rfl ?_))
 rcases bp' hh with ⟨nn,hx7,⟨⟩⟩ | ⟨x7,hx7,hh⟩
 ·exact gn' [0] (T9 hx7) rfl rfl rfl rfl rfl (fun hi=>peW ⟨trivial,trivial⟩ rfl hi)
 refine g' [0] ((T9 hx7).ok) rfl rfl rfl rfl rfl rfl (q' rfl (F0.s hC rfl (n' (p' 1 rfl ?_))))
 rcases bp' hh with ⟨nn,hx8,⟨⟩⟩ | ⟨x8,hx8,hh⟩
 ·exact gn' [0] (L0 hx8) rfl rfl rfl rfl rfl (fun hi=>peW ⟨trivial,trivial⟩ rfl hi)
 exact g' [0] ((L0 hx8).ok) rfl rfl rfl rfl rfl rfl (n' (S' (bk' (fw' (Rr hh) rfl rfl rfl))))
def D5 (o0:B0)(x1:Str×B0)(o2_Params:List C0):Option (Pn (C0×B0)):=
 R0 [44] o0>>=fun x16=>
 if x16.1=true then
  Z2 4 x16.2>>=fun x17=>match x17 with
  | .pn nn=>
  some (.pn nn)
  | .ok x17=>
  if (decide ((o2_Params.length+1) * 257≤140737488355328))=true then
   D5 x17.2 x1 (o2_Params++[x17.1])
  else none
 else
  C5 x16.2 x1 o2_Params
 partial_fixpoint
abbrev Tj (o0:B0)(x1:Str×B0)(o2_Params:List C0)(res:Pn (C0×B0)):Prop:=LMp C 58 1 Tryz.f141 [1,1,1,0,1,2,1,4] [(0,.ref 0 0),(2,.ref 1 0),(3,.ref 2 0)] [.row (B0.cells o0) 99,.row [.d (.int .i64 0),.d (.str []),.d (.int .i64 0),.d (.int .i64 0),.d (.int .i64 0),.d (.int .i64 0),.d (.str []),.full (estr.rows []),.full (I0.rows []),.d (.int .i64 0),.d (.int .i64 0),.d (.int .i64 0),.d (.str []),.full (A0.rows []),.full (C0.rows []),.full (C0.rows []),.full (D0.rows [])] 128,.row [.d (.int .i64 6),.d (.str x1.1),.d (.int .i64 0),.d (.int .i64 0),.d (.int .i64 0),.d (.int .i64 0),.d (.str []),.full (estr.rows []),.full (I0.rows []),.d (.int .i64 0),.d (.int .i64 0),.d (.int .i64 0),.d (.str []),.full (A0.rows []),.osl 3 (C0.rows o2_Params),.osl 4 (C0.rows []),.full (D0.rows [])] 128,.tok 128 17,.tok 128 17] (R4 res (fun rr=>[.row (B0.cells rr.2) 99]) (fun rr=>.agg (C0.cells rr.1))) (N4 res L3 [.dead])
theorem Lq (x1:Str×B0):(∀ o0 o2_Params res,D5 o0 x1 o2_Params=some res→Tj o0 x1 o2_Params res):=by
 refine D5.partial_correctness x1 _ ?_
 ·intro g0 ih0 o0 o2_Params res hh
  obtain ⟨x16,hx16,hh⟩:=bs' hh
  refine W0.unroll (S' (p' 1 rfl (g' [0] (S0 hx16) rfl rfl rfl rfl rfl rfl (n' (ci' rfl hh (fun hh=>?_) (fun hh=>?_))))))
  ·refine sk' (bk' ?_)
   rcases bp' hh with ⟨nn,hx17,⟨⟩⟩ | ⟨x17,hx17,hh⟩
   ·refine AEx.drawE hC ?_
    refine E0.step rfl (j0:=0) (js:=[2]) (by kernel_rfl) ⟨⟨_,rfl,?_⟩,⟨_,rfl,?_⟩,trivial⟩
    ·refine e' rfl ?_
     refine E0.step rfl (j0:=1) (js:=[2]) (by kernel_rfl) ⟨⟨_,rfl,?_⟩,⟨_,rfl,?_⟩,trivial⟩
     ·refine e' rfl ?_
      refine E0.step rfl (j0:=2) (js:=[]) (by kernel_rfl) ⟨⟨_,rfl,?_⟩,trivial⟩
      refine e' rfl ?_
      refine E0.step rfl (j0:=3) (js:=[]) (by kernel_rfl) ⟨⟨_,rfl,?_⟩,trivial⟩
      exact gn' [0] (X0 hx17) rfl rfl rfl rfl rfl (fun hi=>peW ⟨trivial,trivial⟩ rfl hi)
     ·refine e' rfl ?_
      refine E0.step rfl (j0:=1) (js:=[3]) (by kernel_rfl) ⟨⟨_,rfl,?_⟩,⟨_,rfl,?_⟩,trivial⟩
      ·refine e' rfl ?_
       refine E0.step rfl (j0:=3) (js:=[]) (by kernel_rfl) ⟨⟨_,rfl,?_⟩,trivial⟩
       exact gn' [0] (X0 hx17) rfl rfl rfl rfl rfl (fun hi=>peW ⟨trivial,trivial⟩ rfl hi)
      ·exact gn' [0] (X0 hx17) rfl rfl rfl rfl rfl (fun hi=>peW ⟨trivial,trivial⟩ rfl hi)
    ·refine e' rfl ?_
     refine E0.step rfl (j0:=0) (js:=[3]) (by kernel_rfl) ⟨⟨_,rfl,?_⟩,⟨_,rfl,?_⟩,trivial⟩
     ·refine e' rfl ?_
      refine E0.step rfl (j0:=1) (js:=[3]) (by kernel_rfl) ⟨⟨_,rfl,?_⟩,⟨_,rfl,?_⟩,trivial⟩
      ·refine e' rfl ?_
       refine E0.step rfl (j0:=3) (js:=[]) (by kernel_rfl) ⟨⟨_,rfl,?_⟩,trivial⟩
       exact gn' [0] (X0 hx17) rfl rfl rfl rfl rfl (fun hi=>peW ⟨trivial,trivial⟩ rfl hi)
      ·exact gn' [0] (X0 hx17) rfl rfl rfl rfl rfl (fun hi=>peW ⟨trivial,trivial⟩ rfl hi)
     ·exact gn' [0] (X0 hx17) rfl rfl rfl rfl rfl (fun hi=>peW ⟨trivial,trivial⟩ rfl hi)
   obtain ⟨c34,hh⟩:=I4 hh
   refine AEx.drawE hC ?_
   refine E0.step rfl (j0:=0) (js:=[2]) (by kernel_rfl) ⟨⟨_,rfl,?_⟩,⟨_,rfl,?_⟩,trivial⟩
   ·refine e' rfl ?_
    refine E0.step rfl (j0:=1) (js:=[2]) (by kernel_rfl) ⟨⟨_,rfl,?_⟩,⟨_,rfl,?_⟩,trivial⟩
    ·refine e' rfl ?_
     refine E0.step rfl (j0:=2) (js:=[]) (by kernel_rfl) ⟨⟨_,rfl,?_⟩,trivial⟩
     refine e' rfl ?_
     refine E0.step rfl (j0:=3) (js:=[]) (by kernel_rfl) ⟨⟨_,rfl,?_⟩,trivial⟩
     refine g' [0] ((X0 hx17).ok) rfl rfl rfl rfl rfl rfl (n' ?_)
     refine E0.step rfl (j0:=4) (js:=[]) (by kernel_rfl) ⟨⟨_,rfl,?_⟩,trivial⟩
     refine F0.be hC rfl (C0.rows_map [x17.1]).symm (n' ?_)
     refine E0.step rfl (j0:=5) (js:=[]) (by kernel_rfl) ⟨⟨_,rfl,?_⟩,trivial⟩
     refine F0.ap hC rfl (rs:=C0.rows (o2_Params++[x17.1])) (C0.app o2_Params [x17.1]) (C0.sz o2_Params) (C0.sz [x17.1]) (P1 (C0.len o2_Params) (C0.len [x17.1]) c34) (n' ?_)
     refine E0.step rfl (j0:=6) (js:=[]) (by kernel_rfl) ⟨⟨_,rfl,?_⟩,trivial⟩
     refine e' rfl ?_
     refine E0.step rfl (j0:=7) (js:=[]) (by kernel_rfl) ⟨⟨_,rfl,?_⟩,trivial⟩
     exact F0.s hC rfl (n' (E0.nil (by kernel_rfl) (lw' (ih0 _ _ _ hh) rfl rfl rfl)))
    ·refine e' rfl ?_
     refine E0.step rfl (j0:=1) (js:=[3]) (by kernel_rfl) ⟨⟨_,rfl,?_⟩,⟨_,rfl,?_⟩,trivial⟩
     ·refine e' rfl ?_
      refine E0.step rfl (j0:=3) (js:=[]) (by kernel_rfl) ⟨⟨_,rfl,?_⟩,trivial⟩
      refine g' [0] ((X0 hx17).ok) rfl rfl rfl rfl rfl rfl (n' ?_)
      refine E0.step rfl (j0:=4) (js:=[]) (by kernel_rfl) ⟨⟨_,rfl,?_⟩,trivial⟩
      refine F0.be hC rfl (C0.rows_map [x17.1]).symm (n' ?_)
      refine E0.step rfl (j0:=5) (js:=[]) (by kernel_rfl) ⟨⟨_,rfl,?_⟩,trivial⟩
      refine F0.ap hC rfl (rs:=C0.rows (o2_Params++[x17.1])) (C0.app o2_Params [x17.1]) (C0.sz o2_Params) (C0.sz [x17.1]) (P1 (C0.len o2_Params) (C0.len [x17.1]) c34) (n' ?_)
      refine E0.step rfl (j0:=6) (js:=[]) (by kernel_rfl) ⟨⟨_,rfl,?_⟩,trivial⟩
      refine e' rfl ?_
      refine E0.step rfl (j0:=7) (js:=[]) (by kernel_rfl) ⟨⟨_,rfl,?_⟩,trivial⟩
      exact F0.s hC rfl (n' (E0.nil (by kernel_rfl) (lw' (ih0 _ _ _ hh) rfl rfl rfl)))
     ·refine g' [0] ((X0 hx17).ok) rfl rfl rfl rfl rfl rfl (n' ?_)
      refine E0.step rfl (j0:=1) (js:=[4]) (by kernel_rfl) ⟨⟨_,rfl,?_⟩,⟨_,rfl,?_⟩,trivial⟩
      ·refine e' rfl ?_
       refine E0.step rfl (j0:=4) (js:=[]) (by kernel_rfl) ⟨⟨_,rfl,?_⟩,trivial⟩
       refine F0.be hC rfl (C0.rows_map [x17.1]).symm (n' ?_)
       refine E0.step rfl (j0:=5) (js:=[]) (by kernel_rfl) ⟨⟨_,rfl,?_⟩,trivial⟩
       refine F0.ap hC rfl (rs:=C0.rows (o2_Params++[x17.1])) (C0.app o2_Params [x17.1]) (C0.sz o2_Params) (C0.sz [x17.1]) (P1 (C0.len o2_Params) (C0.len [x17.1]) c34) (n' ?_)
       refine E0.step rfl (j0:=6) (js:=[]) (by kernel_rfl) ⟨⟨_,rfl,?_⟩,trivial⟩
       refine e' rfl ?_
       refine E0.step rfl (j0:=7) (js:=[]) (by kernel_rfl) ⟨⟨_,rfl,?_⟩,trivial⟩
       exact F0.s hC rfl (n' (E0.nil (by kernel_rfl) (lw' (ih0 _ _ _ hh) rfl rfl rfl)))
      ·refine F0.be hC rfl (C0.rows_map [x17.1]).symm (n' ?_)
       refine E0.step rfl (j0:=1) (js:=[]) (by kernel_rfl) ⟨⟨_,rfl,?_⟩,trivial⟩
       refine e' rfl ?_
       refine E0.step rfl (j0:=5) (js:=[]) (by kernel_rfl) ⟨⟨_,rfl,?_⟩,trivial⟩
       refine F0.ap hC rfl (rs:=C0.rows (o2_Params++[x17.1])) (C0.app o2_Params [x17.1]) (C0.sz o2_Params) (C0.sz [x17.1]) (P1 (C0.len o2_Params) (C0.len [x17.1]) c34) (n' ?_)
       refine E0.step rfl (j0:=6) (js:=[]) (by kernel_rfl) ⟨⟨_,rfl,?_⟩,trivial⟩
       refine e' rfl ?_
       refine E0.step rfl (j0:=7) (js:=[]) (by kernel_rfl) ⟨⟨_,rfl,?_⟩,trivial⟩
       exact F0.s hC rfl (n' (E0.nil (by kernel_rfl) (lw' (ih0 _ _ _ hh) rfl rfl rfl)))
   ·refine e' rfl ?_
    refine E0.step rfl (j0:=0) (js:=[3]) (by kernel_rfl) ⟨⟨_,rfl,?_⟩,⟨_,rfl,?_⟩,trivial⟩
    ·refine e' rfl ?_
     refine E0.step rfl (j0:=1) (js:=[3]) (by kernel_rfl) ⟨⟨_,rfl,?_⟩,⟨_,rfl,?_⟩,trivial⟩
     ·refine e' rfl ?_
      refine E0.step rfl (j0:=3) (js:=[]) (by kernel_rfl) ⟨⟨_,rfl,?_⟩,trivial⟩
      refine g' [0] ((X0 hx17).ok) rfl rfl rfl rfl rfl rfl (n' ?_)
      refine E0.step rfl (j0:=4) (js:=[]) (by kernel_rfl) ⟨⟨_,rfl,?_⟩,trivial⟩
      refine F0.be hC rfl (C0.rows_map [x17.1]).symm (n' ?_)
      refine E0.step rfl (j0:=5) (js:=[]) (by kernel_rfl) ⟨⟨_,rfl,?_⟩,trivial⟩
      refine F0.ap hC rfl (rs:=C0.rows (o2_Params++[x17.1])) (C0.app o2_Params [x17.1]) (C0.sz o2_Params) (C0.sz [x17.1]) (P1 (C0.len o2_Params) (C0.len [x17.1]) c34) (n' ?_)
      refine E0.step rfl (j0:=6) (js:=[]) (by kernel_rfl) ⟨⟨_,rfl,?_⟩,trivial⟩
      refine e' rfl ?_
      refine E0.step rfl (j0:=7) (js:=[]) (by kernel_rfl) ⟨⟨_,rfl,?_⟩,trivial⟩
      exact F0.s hC rfl (n' (E0.nil (by kernel_rfl) (lw' (ih0 _ _ _ hh) rfl rfl rfl)))
     ·refine g' [0] ((X0 hx17).ok) rfl rfl rfl rfl rfl rfl (n' ?_)
      refine E0.step rfl (j0:=1) (js:=[4]) (by kernel_rfl) ⟨⟨_,rfl,?_⟩,⟨_,rfl,?_⟩,trivial⟩
      ·refine e' rfl ?_
       refine E0.step rfl (j0:=4) (js:=[]) (by kernel_rfl) ⟨⟨_,rfl,?_⟩,trivial⟩
       refine F0.be hC rfl (C0.rows_map [x17.1]).symm (n' ?_)
       refine E0.step rfl (j0:=5) (js:=[]) (by kernel_rfl) ⟨⟨_,rfl,?_⟩,trivial⟩
       refine F0.ap hC rfl (rs:=C0.rows (o2_Params++[x17.1])) (C0.app o2_Params [x17.1]) (C0.sz o2_Params) (C0.sz [x17.1]) (P1 (C0.len o2_Params) (C0.len [x17.1]) c34) (n' ?_)
       refine E0.step rfl (j0:=6) (js:=[]) (by kernel_rfl) ⟨⟨_,rfl,?_⟩,trivial⟩
       refine e' rfl ?_
       refine E0.step rfl (j0:=7) (js:=[]) (by kernel_rfl) ⟨⟨_,rfl,?_⟩,trivial⟩
       exact F0.s hC rfl (n' (E0.nil (by kernel_rfl) (lw' (ih0 _ _ _ hh) rfl rfl rfl)))
      ·refine F0.be hC rfl (C0.rows_map [x17.1]).symm (n' ?_)
       refine E0.step rfl (j0:=1) (js:=[]) (by kernel_rfl) ⟨⟨_,rfl,?_⟩,trivial⟩
       refine e' rfl ?_
       refine E0.step rfl (j0:=5) (js:=[]) (by kernel_rfl) ⟨⟨_,rfl,?_⟩,trivial⟩
       refine F0.ap hC rfl (rs:=C0.rows (o2_Params++[x17.1])) (C0.app o2_Params [x17.1]) (C0.sz o2_Params) (C0.sz [x17.1]) (P1 (C0.len o2_Params) (C0.len [x17.1]) c34) (n' ?_)
       refine E0.step rfl (j0:=6) (js:=[]) (by kernel_rfl) ⟨⟨_,rfl,?_⟩,trivial⟩
       refine e' rfl ?_
       refine E0.step rfl (j0:=7) (js:=[]) (by kernel_rfl) ⟨⟨_,rfl,?_⟩,trivial⟩
       exact F0.s hC rfl (n' (E0.nil (by kernel_rfl) (lw' (ih0 _ _ _ hh) rfl rfl rfl)))
    ·refine g' [0] ((X0 hx17).ok) rfl rfl rfl rfl rfl rfl (n' ?_)
     refine E0.step rfl (j0:=0) (js:=[4]) (by kernel_rfl) ⟨⟨_,rfl,?_⟩,⟨_,rfl,?_⟩,trivial⟩
     ·refine e' rfl ?_
      refine E0.step rfl (j0:=1) (js:=[4]) (by kernel_rfl) ⟨⟨_,rfl,?_⟩,⟨_,rfl,?_⟩,trivial⟩
      ·refine e' rfl ?_
       refine E0.step rfl (j0:=4) (js:=[]) (by kernel_rfl) ⟨⟨_,rfl,?_⟩,trivial⟩
       refine F0.be hC rfl (C0.rows_map [x17.1]).symm (n' ?_)
       refine E0.step rfl (j0:=5) (js:=[]) (by kernel_rfl) ⟨⟨_,rfl,?_⟩,trivial⟩
       refine F0.ap hC rfl (rs:=C0.rows (o2_Params++[x17.1])) (C0.app o2_Params [x17.1]) (C0.sz o2_Params) (C0.sz [x17.1]) (P1 (C0.len o2_Params) (C0.len [x17.1]) c34) (n' ?_)
       refine E0.step rfl (j0:=6) (js:=[]) (by kernel_rfl) ⟨⟨_,rfl,?_⟩,trivial⟩
       refine e' rfl ?_
       refine E0.step rfl (j0:=7) (js:=[]) (by kernel_rfl) ⟨⟨_,rfl,?_⟩,trivial⟩
       exact F0.s hC rfl (n' (E0.nil (by kernel_rfl) (lw' (ih0 _ _ _ hh) rfl rfl rfl)))
      ·refine F0.be hC rfl (C0.rows_map [x17.1]).symm (n' ?_)
       refine E0.step rfl (j0:=1) (js:=[]) (by kernel_rfl) ⟨⟨_,rfl,?_⟩,trivial⟩
       refine e' rfl ?_
       refine E0.step rfl (j0:=5) (js:=[]) (by kernel_rfl) ⟨⟨_,rfl,?_⟩,trivial⟩
       refine F0.ap hC rfl (rs:=C0.rows (o2_Params++[x17.1])) (C0.app o2_Params [x17.1]) (C0.sz o2_Params) (C0.sz [x17.1]) (P1 (C0.len o2_Params) (C0.len [x17.1]) c34) (n' ?_)
       refine E0.step rfl (j0:=6) (js:=[]) (by kernel_rfl) ⟨⟨_,rfl,?_⟩,trivial⟩
       refine e' rfl ?_
       refine E0.step rfl (j0:=7) (js:=[]) (by kernel_rfl) ⟨⟨_,rfl,?_⟩,trivial⟩
       exact F0.s hC rfl (n' (E0.nil (by kernel_rfl) (lw' (ih0 _ _ _ hh) rfl rfl rfl)))
     ·refine F0.be hC rfl (C0.rows_map [x17.1]).symm (n' ?_)
      refine E0.step rfl (j0:=0) (js:=[]) (by kernel_rfl) ⟨⟨_,rfl,?_⟩,trivial⟩
      refine e' rfl ?_
      refine E0.step rfl (j0:=1) (js:=[]) (by kernel_rfl) ⟨⟨_,rfl,?_⟩,trivial⟩
      refine e' rfl ?_
      refine E0.step rfl (j0:=5) (js:=[]) (by kernel_rfl) ⟨⟨_,rfl,?_⟩,trivial⟩
      refine F0.ap hC rfl (rs:=C0.rows (o2_Params++[x17.1])) (C0.app o2_Params [x17.1]) (C0.sz o2_Params) (C0.sz [x17.1]) (P1 (C0.len o2_Params) (C0.len [x17.1]) c34) (n' ?_)
      refine E0.step rfl (j0:=6) (js:=[]) (by kernel_rfl) ⟨⟨_,rfl,?_⟩,trivial⟩
      refine e' rfl ?_
      refine E0.step rfl (j0:=7) (js:=[]) (by kernel_rfl) ⟨⟨_,rfl,?_⟩,trivial⟩
      exact F0.s hC rfl (n' (E0.nil (by kernel_rfl) (lw' (ih0 _ _ _ hh) rfl rfl rfl)))
  exact ex' (ew' (Zi hh) rfl rfl rfl)
theorem Sr {o0 x1 o2_Params res}(hh:D5 o0 x1 o2_Params=some res):Tj o0 x1 o2_Params res:=(Lq x1) _ _ _ hh
end Go.Proofs.YtmnhfbekncjnfaaGreatDoor

