/- A part of the proof of TypecheckRanges. -/
import Derived.Test.YtdkabnfphmmmnaaGreatDoorDgB
set_option maxRecDepth 100000
set_option maxHeartbeats 4000000
set_option synthInstance.maxSize 20000
set_option linter.unusedVariables false
namespace Go.Proofs.YtdkabnfphmmmnaaGreatDoor
open Go.Am
def I9 (p:I0)(kind:Int)(name:Str)(n:Int):Option Int:=
 N7 p kind name n 0
theorem Cp {p kind name n res}(hh:I9 p kind name n=some res):K0 C 166 [.agg (I0.cells p),.d (.int .i64 kind),.d (.str name),.d (.int .i64 n)] [] (Ret [] (.d (.int .i64 res))):=by
 unfold I9 at hh
 exact K0.intro hC Tryz.func166 rfl rfl rfl (s' rfl rfl (E0.n hC rfl (e' rfl (S' (t' rfl (bk' (fw' (N16 hh) rfl rfl rfl)))))))
def Ed (s:T0)(x:C0)(x1:A0×Int)(x3:B0)(x2:Int)(k:Int):Option Int:=
 if (decide (k < ((x.Args).length:Int)))=true then
  idx x3.Params k>>=fun x4=>
  T8 s.Program x2 x4.TypeV>>=fun x5=>
  idx x.Args k>>=fun x6=>
  Tb s x6 x5.1>>=fun x7=>
  if (x7 != 0)=true then
   some x7
  else
   Ed s x x1 x3 x2 (IntKind.i64.wrap (k+1))
 else
  T8 s.Program x2 x3.TypeV>>=fun x8=>
  Qa x8.1 true x1.1>>=fun x9=>
  if (!x9)=true then
   some 9
  else
   some 0
 partial_fixpoint
abbrev J11 (s:T0)(x:C0)(x1:A0×Int)(x3:B0)(x2:Int)(k:Int)(res:Int):Prop:=LM C 99 0 Tryz.f142 [1,1,1,1,1,1,1,1,1,0,1,4] [(2,.ref 0 0),(3,.ref 1 0),(5,.ref 2 0),(8,.d (.int .i64 x2)),(9,.ref 3 0),(10,.d (.int .i64 k))] [.row (T0.cells s) 78,.row (C0.cells x) 53,.row (A0.cells x1.1) 40,.row (B0.cells x3) 59] (Ret [] (.d (.int .i64 res)))
theorem D1e (s:T0)(x:C0)(x1:A0×Int)(x3:B0)(x2:Int):(∀ k res,Ed s x x1 x3 x2 k=some res→J11 s x x1 x3 x2 k res):=by
 refine Ed.partial_correctness s x x1 x3 x2 _ ?_
 ·intro g0 ih0 k res hh
  refine W0.unroll (S' (p' 3 rfl (qe' rfl trivial (D0.lenA _) (e' rfl (ci' rfl hh (fun hh=>?_) (fun hh=>?_))))))
  ·obtain ⟨x4,hx4,hh⟩:=bs' hh
   obtain ⟨x5,hx5,hh⟩:=bs' hh
   obtain ⟨x6,hx6,hh⟩:=bs' hh
   obtain ⟨x7,hx7,hh⟩:=bs' hh
   refine sk' (S' (bk' (S' ?_)))
   refine AEx.drawL hC 15 [14] [(13,4)] [[.row (T0.cells s) 78,.row (C0.cells x) 53,.row (A0.cells x1.1) 40,.row (B0.cells x3) 59,.row [.d (.int .i64 0),.d (.int .i64 0),.d (.int .i64 0),.d (.int .i64 0),.d (.str []),.full (estr.rows []),.full (A0.rows [])] 40],[.row (T0.cells s) 78,.row (C0.cells x) 53,.row (A0.cells x1.1) 40,.row (B0.cells x3) 59,.row (A0.cells x5.1) 40]] rfl rfl rfl rfl rfl rfl rfl rfl rfl rfl ?_
   iterate 6 refine AS.q hC rfl rfl rfl rfl ?_
   refine AS.ix hC rfl (U0 hx4) (B0.idx hx4) rfl rfl rfl (AS.q hC rfl rfl rfl rfl (AS.q hC rfl rfl rfl rfl (AS.c (Ec hx5) rfl rfl rfl rfl (AS.q hC rfl rfl rfl rfl (AS.q hC rfl rfl rfl rfl (AS.q hC rfl rfl rfl rfl (AS.n hC rfl rfl rfl rfl (AS.s hC rfl rfl rfl rfl rfl rfl rfl (AS.nil (e' rfl (S' (AEx.draw hC 9 rfl rfl rfl (O' 4 rfl ?_)))))))))))))
   refine AQ.i hC rfl (U0 hx6) (D0.idx hx6) rfl (O' 2 rfl (Qc' (Ro hx7) rfl rfl (E' rfl (n' (t' rfl (ci' rfl hh (fun hh=>?_) (fun hh=>?_)))))))
   ·cases hh
    exact t' rfl (re' (rt' rfl rfl rfl))
   exact sk' (T' rfl (lw' (ih0 _ _ hh) rfl rfl rfl))
  obtain ⟨x8,hx8,hh⟩:=bs' hh
  obtain ⟨x9,hx9,hh⟩:=bs' hh
  refine ex' (p' 5 rfl (c' (Ec hx8) rfl rfl (o' 3 rfl (E0.nf hC rfl (E0.s hC rfl (e' rfl (S' (p' 2 rfl (c' (Nm hx9) rfl rfl (e' rfl (ci' rfl hh (fun hh=>?_) (fun hh=>?_))))))))))))
  ·cases hh
   exact t' rfl (re' (rt' rfl rfl rfl))
  cases hh
  exact sk' (t' rfl (re' (rt' rfl rfl rfl)))
theorem I1g {s x x1 x3 x2 k res}(hh:Ed s x x1 x3 x2 k=some res):J11 s x x1 x3 x2 k res:=(D1e s x x1 x3 x2) _ _ hh
def Fd (s:T0)(x:C0)(x1:A0×Int)(n:Int):Option Int:=
 I9 s.Program 6 x.Name n>>=fun x2=>
 if (decide (x2 < 0))=true then
  some 7
 else
  idx s.Program.Decls x2>>=fun x3=>
  if (((x.Args).length:Int) != ((x3.Params).length:Int))=true then
   some 2
  else
   Ed s x x1 x3 x2 0
theorem Sz {s x x1 n res}(hh:Fd s x x1 n=some res):JM C 99 0 Tryz.f142 [1,1,1,1,1] [(2,.ref 0 0),(3,.ref 1 0),(5,.ref 2 0),(7,.d (.int .i64 n))] [.row (T0.cells s) 78,.row (C0.cells x) 53,.row (A0.cells x1.1) 40] (Ret [] (.d (.int .i64 res))):=by
 unfold Fd at hh
 obtain ⟨x2,hx2,hh⟩:=bs' hh
 refine p' 5 rfl (c' (Cp hx2) rfl rfl (e' rfl (S' (t' rfl (ci' rfl hh (fun hh=>?_) (fun hh=>?_))))))
 ·cases hh
  exact t' rfl (re' (rt' rfl rfl rfl))
 obtain ⟨x3,hx3,hh⟩:=bs' hh
 refine sk' (p' 4 rfl (i' rfl (U0 hx3) (B0.idx hx3) rfl (q' rfl (E0.nf hC rfl (E0.s hC rfl (n' (S' (p' 2 rfl (qe' rfl trivial (D0.lenA _) (o' 2 rfl (qe' rfl trivial (B0.lenA _) (e' rfl (ci' rfl hh (fun hh=>?_) (fun hh=>?_))))))))))))))
 ·cases hh
  exact t' rfl (re' (rt' rfl rfl rfl))
 exact sk' (S' (t' rfl (bk' (fw' (I1g hh) rfl rfl rfl))))
def Js (s:T0)(x:C0):Option Int:=
 Jj s x.Place>>=fun x1=>
 if (x1.2 != 0)=true then
  some x1.2
 else
  if (decide (s.Function≥0))=true then
   Fd s x x1 s.Function
  else
   Fd s x x1 ((s.Program.Decls).length:Int)
theorem G1o {s x res}(hh:Js s x=some res):K0 C 142 [.agg (T0.cells s),.agg (C0.cells x)] [] (Ret [] (.d (.int .i64 res))):=by
 unfold Js at hh
 obtain ⟨x1,hx1,hh⟩:=bs' hh
 refine K0.intro hC Tryz.func142 rfl rfl rfl (s' rfl rfl (E0.n hC rfl (E0.n hC rfl (e' rfl (p' 3 rfl (c' (Hu hx1) rfl rfl (o' 3 rfl (E0.nf hC rfl (E0.s hC rfl (e' rfl (S' (t' rfl (ci' rfl hh (fun hh=>?_) (fun hh=>?_))))))))))))))
 ·cases hh
  exact t' rfl (re' (rt' rfl rfl rfl))
 refine sk' (p' 3 rfl (qe' rfl trivial (B0.lenA _) (e' rfl (S' (t' rfl (ci' rfl hh (fun hh=>?_) (fun hh=>?_)))))))
 ·exact T' rfl (ew' (Sz hh) rfl rfl rfl)
 exact sk' (ew' (Sz hh) rfl rfl rfl)
def Cm (s:T0)(x:C0):Option Int:=
 Jj s x.Place>>=fun x1=>
 if (x1.2 != 0)=true then
  some x1.2
 else
  if (decide (s.Function≥0))=true then
   some 15
  else
   I9 s.Program 5 x.Name ((s.Program.Decls).length:Int)>>=fun x2=>
   if (decide (x2 < 0))=true then
    some 7
   else
    idx s.Program.Decls x2>>=fun x3=>
    T8 s.Program x2 x3.TypeV>>=fun x4=>
    Qa x4.1 false x1.1>>=fun x5=>
    if (!x5)=true then
     some 9
    else
     some 0
theorem J1g {s x res}(hh:Cm s x=some res):K0 C 143 [.agg (T0.cells s),.agg (C0.cells x)] [] (Ret [] (.d (.int .i64 res))):=by
 unfold Cm at hh
 obtain ⟨x1,hx1,hh⟩:=bs' hh
 refine K0.intro hC Tryz.func143 rfl rfl rfl (s' rfl rfl (E0.n hC rfl (E0.n hC rfl (e' rfl (p' 3 rfl (c' (Hu hx1) rfl rfl (o' 3 rfl (E0.nf hC rfl (E0.s hC rfl (e' rfl (S' (t' rfl (ci' rfl hh (fun hh=>?_) (fun hh=>?_))))))))))))))
 ·cases hh
  exact t' rfl (re' (rt' rfl rfl rfl))
 refine sk' (S' (t' rfl (ci' rfl hh (fun hh=>?_) (fun hh=>?_))))
 ·cases hh
  exact t' rfl (re' (rt' rfl rfl rfl))
 obtain ⟨x2,hx2,hh⟩:=bs' hh
 refine sk' (p' 7 rfl (qe' rfl trivial (B0.lenA _) (c' (Cp hx2) rfl rfl (e' rfl (S' (t' rfl (ci' rfl hh (fun hh=>?_) (fun hh=>?_))))))))
 ·cases hh
  exact t' rfl (re' (rt' rfl rfl rfl))
 obtain ⟨x3,hx3,hh⟩:=bs' hh
 obtain ⟨x4,hx4,hh⟩:=bs' hh
 obtain ⟨x5,hx5,hh⟩:=bs' hh
 refine sk' (S' ?_)
 refine AEx.drawL hC 16 [15] [(14,3)] [[.row (T0.cells s) 78,.row (C0.cells x) 53,.row (A0.cells x1.1) 40,.row [.d (.int .i64 0),.d (.int .i64 0),.d (.int .i64 0),.d (.int .i64 0),.d (.str []),.full (estr.rows []),.full (A0.rows [])] 40],[.row (T0.cells s) 78,.row (C0.cells x) 53,.row (A0.cells x1.1) 40,.row (A0.cells x4.1) 40]] rfl rfl rfl rfl rfl rfl rfl rfl rfl rfl ?_
 iterate 7 refine AS.q hC rfl rfl rfl rfl ?_
 refine AS.ix hC rfl (U0 hx3) (B0.idx hx3) rfl rfl rfl (AS.q hC rfl rfl rfl rfl (AS.q hC rfl rfl rfl rfl (AS.c (Ec hx4) rfl rfl rfl rfl (AS.q hC rfl rfl rfl rfl (AS.q hC rfl rfl rfl rfl (AS.q hC rfl rfl rfl rfl (AS.n hC rfl rfl rfl rfl (AS.s hC rfl rfl rfl rfl rfl rfl rfl (AS.nil (e' rfl (S' (p' 2 rfl (c' (Nm hx5) rfl rfl ?_)))))))))))))
 refine e' rfl (ci' rfl hh (fun hh=>?_) (fun hh=>?_))
 ·cases hh
  exact t' rfl (re' (rt' rfl rfl rfl))
 cases hh
 exact sk' (t' rfl (re' (rt' rfl rfl rfl)))
def Fc (s:T0)(e:D0):Option Int:=
 V7 s e>>=fun x1=>
 if (x1.2 != 0)=true then
  some x1.2
 else
  if (x1.1.Kind != 0)=true then
   some 9
  else
   some 0
theorem Q1b {s e res}(hh:Fc s e=some res):K0 C 144 [.agg (T0.cells s),.agg (D0.cells e)] [] (Ret [] (.d (.int .i64 res))):=by
 unfold Fc at hh
 obtain ⟨x1,hx1,hh⟩:=bs' hh
 refine K0.intro hC Tryz.func144 rfl rfl rfl (s' rfl rfl (E0.n hC rfl (E0.n hC rfl (e' rfl (p' 2 rfl (c' (Bm hx1) rfl rfl (o' 3 rfl (E0.nf hC rfl (E0.s hC rfl (e' rfl (S' (t' rfl (ci' rfl hh (fun hh=>?_) (fun hh=>?_))))))))))))))
 ·cases hh
  exact t' rfl (re' (rt' rfl rfl rfl))
 refine sk' (S' (t' rfl (ci' rfl hh (fun hh=>?_) (fun hh=>?_))))
 ·cases hh
  exact t' rfl (re' (rt' rfl rfl rfl))
 cases hh
 exact sk' (t' rfl (re' (rt' rfl rfl rfl)))
def Tn (s:T0)(x:C0):Option T0:=
 if (decide ((0+s.Vars.length) * 121≤140737488355328))=true then
  A4 x.Low x.High>>=fun x1=>
  if (decide ((s.Vars.length+1) * 121≤140737488355328))=true then
   if (decide ((0+s.Taken.length) * 17≤140737488355328))=true then
    if (decide ((s.Taken.length+1) * 17≤140737488355328))=true then
     some (T0.mk s.Program s.Function (s.Vars++[(J0.mk x.Name x1 true)]) (s.Taken++[x.Name]))
    else none
   else none
  else none
 else none
theorem J1j {s x res}(hh:Tn s x=some res):K0 C 145 [.agg (T0.cells s),.agg (C0.cells x)] [] (Ret [] (.agg (T0.cells res))):=by
 unfold Tn at hh
 obtain ⟨c21,hh⟩:=I1 hh
 obtain ⟨x1,hx1,hh⟩:=bs' hh
 obtain ⟨c22,hh⟩:=I1 hh
 obtain ⟨c23,hh⟩:=I1 hh
 obtain ⟨c24,hh⟩:=I1 hh
 refine K0.intro hC Tryz.func145 rfl rfl rfl (s' rfl rfl (E0.n hC rfl (E0.n hC rfl (E0.nf hC rfl (n' (p' 5 rfl (E0.nf hC rfl (E0.s hC rfl (n' (S' ?_))))))))))
 refine AEx.drawL hC 11 [3] [] [[.row (T0.cells s) 78,.row (C0.cells x) 53,.row [.full (B0.rows []),.full (C0.rows []),.d (.int .i64 0),.full (J0.rows []),.full (estr.rows [])] 78,.row [.d (.sl (B0.rows s.Program.Decls)),.d (.sl (C0.rows s.Program.Body)),.d (.int .i64 s.Function),.d (.sl (J0.rows [])),.d (.sl (estr.rows []))] 78],[.row (T0.cells s) 78,.row (C0.cells x) 53,.row [.full (B0.rows []),.full (C0.rows []),.d (.int .i64 0),.full (J0.rows []),.full (estr.rows [])] 78,.row [.d (.sl (B0.rows s.Program.Decls)),.d (.sl (C0.rows s.Program.Body)),.d (.int .i64 s.Function),.d (.sl (J0.rows [])),.d (.sl (estr.rows []))] 78,.tok 146 9]] rfl rfl rfl rfl rfl rfl rfl rfl rfl rfl ?_
 refine AS.a rfl (fun H=>AQ.be hC rfl (J0.rows_map []).symm (AQ.nil rfl)) rfl rfl (AS.q hC rfl rfl rfl rfl (AS.q hC rfl rfl rfl rfl (AS.am hC rfl rfl rfl rfl rfl (rs:=J0.rows s.Vars) rfl (J0.sz []) (J0.sz s.Vars) (E4 (J0.len []) (J0.len s.Vars) c21) rfl rfl (AS.q hC rfl rfl rfl rfl (AS.q hC rfl rfl rfl rfl (AS.q hC rfl rfl rfl rfl ?_))))))
 refine AS.q hC rfl rfl rfl rfl (AS.q hC rfl rfl rfl rfl (AS.q hC rfl rfl rfl rfl (AS.c (Y5 hx1) rfl rfl rfl rfl (AS.nil (q' rfl (E0.be hC rfl (J0.rows_map [(J0.mk x.Name x1 true)]).symm ?_))))))
 refine E0.ap hC rfl (rs:=J0.rows (s.Vars++[(J0.mk x.Name x1 true)])) (J0.app s.Vars [(J0.mk x.Name x1 true)]) (J0.sz s.Vars) (J0.sz [(J0.mk x.Name x1 true)]) (E4 (J0.len s.Vars) (J0.len [(J0.mk x.Name x1 true)]) c22) (q' rfl (E0.s hC rfl (n' (S' ?_))))
 refine AEx.drawL hC 7 [3] [] [[.row (T0.cells s) 78,.row (C0.cells x) 53,.row [.full (B0.rows []),.full (C0.rows []),.d (.int .i64 0),.full (J0.rows []),.full (estr.rows [])] 78,.row [.d (.sl (B0.rows s.Program.Decls)),.d (.sl (C0.rows s.Program.Body)),.d (.int .i64 s.Function),.osl 4 (J0.rows (s.Vars++[(J0.mk x.Name x1 true)])),.d (.sl (estr.rows []))] 78,.tok 146 9],[.row (T0.cells s) 78,.row (C0.cells x) 53,.row [.full (B0.rows []),.full (C0.rows []),.d (.int .i64 0),.full (J0.rows []),.full (estr.rows [])] 78,.row [.d (.sl (B0.rows s.Program.Decls)),.d (.sl (C0.rows s.Program.Body)),.d (.int .i64 s.Function),.osl 4 (J0.rows (s.Vars++[(J0.mk x.Name x1 true)])),.d (.sl (estr.rows []))] 78,.tok 146 9,.tok 9 1]] rfl rfl rfl rfl rfl rfl rfl rfl rfl rfl ?_
 refine AS.a rfl (fun H=>AQ.be hC rfl (estr.rows_map []).symm (AQ.nil rfl)) rfl rfl (AS.q hC rfl rfl rfl rfl (AS.q hC rfl rfl rfl rfl (AS.am hC rfl rfl rfl rfl rfl (rs:=estr.rows s.Taken) rfl (estr.sz []) (estr.sz s.Taken) (E4 (estr.len []) (estr.len s.Taken) c23) rfl rfl (AS.q hC rfl rfl rfl rfl (AS.q hC rfl rfl rfl rfl (AS.a rfl (fun H=>AQ.be hC rfl (estr.rows_map [x.Name]).symm (AQ.nil rfl)) rfl rfl ?_))))))
 refine AS.nil (E0.ap hC rfl (rs:=estr.rows (s.Taken++[x.Name])) (estr.app s.Taken [x.Name]) (estr.sz s.Taken) (estr.sz [x.Name]) (E4 (estr.len s.Taken) (estr.len [x.Name]) c24) (q' rfl (E0.s hC rfl (n' (p' 1 rfl (E0.s hC rfl (n' (re' ?_))))))))
 obtain rfl:=oi' hh
 exact ⟨_,.agg [.d (.sl (B0.rows s.Program.Decls)),.d (.sl (C0.rows s.Program.Body)),.d (.int .i64 s.Function),.d (.sl (J0.rows (s.Vars++[(J0.mk x.Name x1 true)]))),.d (.sl (estr.rows (s.Taken++[x.Name])))],[],rfl,(.aggL ⟨.rfl,.rfl,.rfl,.osl,.osl,trivial⟩),trivial,rfl,rfl,rfl,rfl⟩
mutual
def M5 (s:T0)(l:List C0)(top:Bool):Option Int:=
 Ug s l top 0
 partial_fixpoint
def Ug (s:T0)(l:List C0)(top:Bool)(i:Int):Option Int:=
 if (decide (i < ((l).length:Int)))=true then
  idx l i>>=fun x1=>
  Xx s x1 (bif top then (i == (IntKind.i64.wrap (((l).length:Int) - 1))) else false)>>=fun x2=>
  if (x2 != 0)=true then
   some x2
  else
   Ug s l top (IntKind.i64.wrap (i+1))
 else
  some 0
 partial_fixpoint
def Xx (s:T0)(x:C0)(last:Bool):Option Int:=
 if (x.Verb == 0)=true then
  Jj s x.Place>>=fun x1=>
  if (x1.2 != 0)=true then
   some x1.2
  else
   Tb s x.Value x1.1>>=fun x2=>
   some x2
 else
  if (x.Verb == 1)=true then
   Js s x>>=fun x3=>
   some x3
  else
   if (x.Verb == 2)=true then
    Cm s x>>=fun x4=>
    some x4
   else
    if (x.Verb == 3)=true then
     V7 s x.Value>>=fun x5=>
     (if (x5.2 == 0)=true then X6 x5.1 else some default)>>=fun x6=>
     if (bif (x5.2 == 0) then (!x6) else false)=true then
      some 9
     else
      some x5.2
    else
     if (bif (x.Verb == 5) then true else (x.Verb == 6))=true then
      Fc s x.Value>>=fun x7=>
      if (x7 != 0)=true then
       some x7
      else
       M5 s x.Then false>>=fun x10=>
       if (x10 != 0)=true then
        some x10
       else
        M5 s x.Else false>>=fun x11=>
        some x11
     else
      if (x.Verb == 7)=true then
       Ij s.Taken x.Name>>=fun x8=>
       if x8=true then
        some 8
       else
        Tn s x>>=fun x9=>
        M5 x9 x.Then false>>=fun x12=>
        some x12
      else
       if (bif (x.Verb == 8) then (!last) else false)=true then
        some 15
       else
        some 0
 partial_fixpoint
end
abbrev M17 (s:T0)(l:List C0)(top:Bool)(res:Int):Prop:=K0 C 37 [.agg (T0.cells s),.d (.sl (C0.rows l)),.d (.bool top)] [] (Ret [] (.d (.int .i64 res)))
abbrev K1g (s:T0)(l:List C0)(top:Bool)(i:Int)(res:Int):Prop:=LM C 32 0 Tryz.f37 [1,0,1,4] [(1,.d (.sl (C0.rows l))),(2,.d (.bool top)),(3,.ref 0 0),(7,.d (.int .i64 i))] [.row (T0.cells s) 78] (Ret [] (.d (.int .i64 res)))
abbrev D1q (s:T0)(x:C0)(last:Bool)(res:Int):Prop:=K0 C 79 [.agg (T0.cells s),.agg (C0.cells x),.d (.bool last)] [] (Ret [] (.d (.int .i64 res)))
theorem K1j:(∀ s l top res,M5 s l top=some res→M17 s l top res)∧(∀ s l top i res,Ug s l top i=some res→K1g s l top i res)∧(∀ s x last res,Xx s x last=some res→D1q s x last res):=by
 refine M5.mutual_partial_correctness _ _ _ ?_ ?_ ?_
 ·intro g1 ih1 s l top res hh
  exact K0.intro hC Tryz.func37 rfl rfl rfl (s' rfl rfl (E0.n hC rfl (e' rfl (S' (t' rfl (bk' (fw' (ih1 _ _ _ _ _ hh) rfl rfl rfl)))))))
 ·intro g1 g2 ih1 ih2 s l top i res hh
  refine W0.unroll (S' (p' 2 rfl (qe' rfl trivial (C0.lenA _) (e' rfl (ci' rfl hh (fun hh=>?_) (fun hh=>?_))))))
  ·obtain ⟨x1,hx1,hh⟩:=bs' hh
   obtain ⟨x2,hx2,hh⟩:=bs' hh
   refine sk' (S' (bk' (S' (AEx.drawG hC 15 rfl rfl rfl (G' 3 rfl (AG.i hC rfl rfl (fun _=>trivial) (fun hw=>⟨U0 hx1,C0.idx hx1,rfl⟩) (G' 5 rfl (AG.qe hC rfl (fun hg=>⟨⟨hg,trivial⟩,trivial⟩) (C0.lenA _) (a1' rfl (a2' rfl (pa' rfl (AG.c rfl rfl (fun _=>trivial) (fun _=>ih2 _ _ _ _ hx2) (a0' rfl ?_)))))))))))))
   refine an' (n' (t' rfl (ci' rfl hh (fun hh=>?_) (fun hh=>?_))))
   ·cases hh
    exact t' rfl (re' (rt' rfl rfl rfl))
   exact sk' (T' rfl (lw' (ih1 _ _ _ _ _ hh) rfl rfl rfl))
  cases hh
  exact ex' (t' rfl (re' (rt' rfl rfl rfl)))
 ·intro g0 ih0 s x last res hh
  refine K0.intro hC Tryz.func79 rfl rfl rfl (s' rfl rfl (E0.n hC rfl (E0.n hC rfl (e' rfl (S' (t' rfl (ci' rfl hh (fun hh=>?_) (fun hh=>?_))))))))
  ·obtain ⟨x1,hx1,hh⟩:=bs' hh
   refine p' 3 rfl (c' (Hu hx1) rfl rfl (o' 3 rfl (E0.nf hC rfl (E0.s hC rfl (e' rfl (S' (t' rfl (ci' rfl hh (fun hh=>?_) (fun hh=>?_)))))))))
   ·cases hh
    exact t' rfl (re' (rt' rfl rfl rfl))
   obtain ⟨x2,hx2,hh⟩:=bs' hh
   cases hh
   exact sk' (p' 4 rfl (c' (Ro hx2) rfl rfl (e' rfl (re' (rt' rfl rfl rfl)))))
  refine sk' (S' (t' rfl (ci' rfl hh (fun hh=>?_) (fun hh=>?_))))
  ·obtain ⟨x3,hx3,hh⟩:=bs' hh
   cases hh
   exact p' 2 rfl (c' (G1o hx3) rfl rfl (e' rfl (re' (rt' rfl rfl rfl))))
  refine sk' (S' (t' rfl (ci' rfl hh (fun hh=>?_) (fun hh=>?_))))
  ·obtain ⟨x4,hx4,hh⟩:=bs' hh
   cases hh
   exact p' 2 rfl (c' (J1g hx4) rfl rfl (e' rfl (re' (rt' rfl rfl rfl))))
  refine sk' (S' (t' rfl (ci' rfl hh (fun hh=>?_) (fun hh=>?_))))
  ·obtain ⟨x5,hx5,hh⟩:=bs' hh
   obtain ⟨x6,hx6,hh⟩:=bs' hh
   refine p' 3 rfl (c' (Bm hx5) rfl rfl (o' 3 rfl (E0.nf hC rfl (E0.s hC rfl (e' rfl (S' (sg' 7 rfl (G' 4 rfl (AG.c rfl rfl (fun hg=>⟨hg,trivial⟩) (fun hw=>Si (G1 hw hx6)) (a1' rfl (pa' rfl (an' (n' (ci' rfl hh (fun hh=>?_) (fun hh=>?_)))))))))))))))
   ·cases hh
    exact t' rfl (re' (rt' rfl rfl rfl))
   cases hh
   exact sk' (t' rfl (re' (rt' rfl rfl rfl)))
  refine sk' (S' (sg' 8 rfl (G' 5 rfl (a1' rfl (a1' rfl (po' rfl (an' (n' (ci' rfl hh (fun hh=>?_) (fun hh=>?_))))))))))
  ·obtain ⟨x7,hx7,hh⟩:=bs' hh
   refine p' 3 rfl (c' (Q1b hx7) rfl rfl (e' rfl (S' (t' rfl (ci' rfl hh (fun hh=>?_) (fun hh=>?_))))))
   ·cases hh
    exact t' rfl (re' (rt' rfl rfl rfl))
   obtain ⟨x10,hx10,hh⟩:=bs' hh
   refine sk' (p' 3 rfl (c' (ih0 _ _ _ _ hx10) rfl rfl (e' rfl (S' (t' rfl (ci' rfl hh (fun hh=>?_) (fun hh=>?_)))))))
   ·cases hh
    exact t' rfl (re' (rt' rfl rfl rfl))
   obtain ⟨x11,hx11,hh⟩:=bs' hh
   cases hh
   exact sk' (p' 3 rfl (c' (ih0 _ _ _ _ hx11) rfl rfl (e' rfl (re' (rt' rfl rfl rfl)))))
  refine sk' (S' (t' rfl (ci' rfl hh (fun hh=>?_) (fun hh=>?_))))
  ·obtain ⟨x8,hx8,hh⟩:=bs' hh
   refine S' (p' 4 rfl (c' (Qo hx8) rfl rfl (n' (ci' rfl hh (fun hh=>?_) (fun hh=>?_)))))
   ·cases hh
    exact t' rfl (re' (rt' rfl rfl rfl))
   obtain ⟨x9,hx9,hh⟩:=bs' hh
   obtain ⟨x12,hx12,hh⟩:=bs' hh
   cases hh
   exact sk' (S' (AEx.draw hC 7 rfl rfl rfl (O' 2 rfl (Qc' (J1j hx9) rfl rfl (O' 2 rfl (Qc' (ih0 _ _ _ _ hx12) rfl rfl (E' rfl (n' (re' (rt' rfl rfl rfl))))))))))
  refine sk' (S' (sg' 7 rfl (G' 5 rfl (a1' rfl (pa' rfl (an' (n' (ci' rfl hh (fun hh=>?_) (fun hh=>?_)))))))))
  ·cases hh
   exact t' rfl (re' (rt' rfl rfl rfl))
  cases hh
  exact sk' (t' rfl (re' (rt' rfl rfl rfl)))
theorem I14 {s l top res}(hh:M5 s l top=some res):M17 s l top res:=(K1j).1 _ _ _ _ hh
def Qk (p:I0)(i:Int)(t:A0):Option Int:=
 idx p.Decls i>>=fun x1=>
 Mk p i>>=fun x2=>
 if (x2.2 != 0)=true then
  some x2.2
 else
  M5 x2.1 x1.Body false>>=fun x3=>
  if (x3 != 0)=true then
   some x3
  else
   Tb x2.1 x1.Value t>>=fun x4=>
   some x4
theorem E1e {p i t res}(hh:Qk p i t=some res):K0 C 78 [.agg (I0.cells p),.d (.int .i64 i),.agg (A0.cells t)] [] (Ret [] (.d (.int .i64 res))):=by
 unfold Qk at hh
 obtain ⟨x1,hx1,hh⟩:=bs' hh
 obtain ⟨x2,hx2,hh⟩:=bs' hh
 refine K0.intro hC Tryz.func78 rfl rfl rfl (s' rfl rfl (E0.n hC rfl (E0.n hC rfl (e' rfl (p' 3 rfl (i' rfl (U0 hx1) (B0.idx hx1) rfl (q' rfl (E0.nf hC rfl (E0.s hC rfl (n' (p' 2 rfl (c' (I1j hx2) rfl rfl (o' 3 rfl ?_)))))))))))))
 refine E0.nf hC rfl (E0.s hC rfl (e' rfl (S' (t' rfl (ci' rfl hh (fun hh=>?_) (fun hh=>?_))))))
 ·cases hh
  exact t' rfl (re' (rt' rfl rfl rfl))
 obtain ⟨x3,hx3,hh⟩:=bs' hh
 refine sk' (p' 3 rfl (c' (I14 hx3) rfl rfl (e' rfl (S' (t' rfl (ci' rfl hh (fun hh=>?_) (fun hh=>?_)))))))
 ·cases hh
  exact t' rfl (re' (rt' rfl rfl rfl))
 obtain ⟨x4,hx4,hh⟩:=bs' hh
 cases hh
 exact sk' (p' 4 rfl (c' (Ro hx4) rfl rfl (e' rfl (re' (rt' rfl rfl rfl)))))
def Ks (p:I0)(i:Int):Option Int:=
 idx p.Decls i>>=fun x1=>
 T8 p i x1.TypeV>>=fun x2=>
 if (x2.2 != 0)=true then
  some x2.2
 else
  if (x1.Kind == 5)=true then
   X6 x2.1>>=fun x3=>
   if (!x3)=true then
    some 9
   else
    Zl p i false>>=fun x4=>
    Tb (T0.mk p (-1) x4 []) x1.Value x2.1>>=fun x5=>
    some x5
  else
   if (x1.Kind == 6)=true then
    Qk p i x2.1>>=fun x6=>
    some x6
   else
    some 0
theorem H1o {p i res}(hh:Ks p i=some res):K0 C 36 [.agg (I0.cells p),.d (.int .i64 i)] [] (Ret [] (.d (.int .i64 res))):=by
 unfold Ks at hh
 obtain ⟨x1,hx1,hh⟩:=bs' hh
 obtain ⟨x2,hx2,hh⟩:=bs' hh
 refine K0.intro hC Tryz.func36 rfl rfl rfl (s' rfl rfl (E0.n hC rfl (e' rfl (p' 3 rfl (i' rfl (U0 hx1) (B0.idx hx1) rfl (q' rfl (E0.nf hC rfl (E0.s hC rfl (n' (p' 4 rfl (c' (Ec hx2) rfl rfl (o' 3 rfl (E0.nf hC rfl ?_)))))))))))))
 refine E0.s hC rfl (e' rfl (S' (t' rfl (ci' rfl hh (fun hh=>?_) (fun hh=>?_)))))
 ·cases hh
  exact t' rfl (re' (rt' rfl rfl rfl))
 refine sk' (S' (t' rfl (ci' rfl hh (fun hh=>?_) (fun hh=>?_))))
 ·obtain ⟨x3,hx3,hh⟩:=bs' hh
  refine S' (p' 1 rfl (c' (Si hx3) rfl rfl (e' rfl (ci' rfl hh (fun hh=>?_) (fun hh=>?_)))))
  ·cases hh
   exact t' rfl (re' (rt' rfl rfl rfl))
  obtain ⟨x4,hx4,hh⟩:=bs' hh
  obtain ⟨x5,hx5,hh⟩:=bs' hh
  cases hh
  exact sk' (S' (AEx.draw hC 10 rfl rfl rfl (O' 3 rfl (Qc' (Qz hx4) rfl rfl (O' 4 rfl (Qc' (Ro hx5) rfl rfl (E' rfl (n' (re' (rt' rfl rfl rfl))))))))))
 refine sk' (S' (t' rfl (ci' rfl hh (fun hh=>?_) (fun hh=>?_))))
 ·obtain ⟨x6,hx6,hh⟩:=bs' hh
  cases hh
  exact p' 3 rfl (c' (E1e hx6) rfl rfl (e' rfl (re' (rt' rfl rfl rfl))))
 cases hh
 exact sk' (t' rfl (re' (rt' rfl rfl rfl)))
def So (p:I0):Option T0:=
 Zl p ((p.Decls).length:Int) true>>=fun x1=>
 Jm p>>=fun x2=>
 some (T0.mk p (-1) x1 x2)
theorem N17 {p res}(hh:So p=some res):K0 C 38 [.agg (I0.cells p)] [] (Ret [] (.agg (T0.cells res))):=by
 unfold So at hh
 obtain ⟨x1,hx1,hh⟩:=bs' hh
 obtain ⟨x2,hx2,hh⟩:=bs' hh
 refine K0.intro hC Tryz.func38 rfl rfl rfl (s' rfl rfl (E0.n hC rfl (E0.nf hC rfl (n' (S' ?_)))))
 refine AEx.drawL hC 8 [7] [] [[.row (I0.cells p) 25,.row [.full (B0.rows []),.full (C0.rows []),.d (.int .i64 0),.full (J0.rows []),.full (estr.rows [])] 78],[.row (I0.cells p) 25,.row [.full (B0.rows []),.full (C0.rows []),.d (.int .i64 0),.full (J0.rows []),.full (estr.rows [])] 78,.dead,.tok 9 1]] rfl rfl rfl rfl rfl rfl rfl rfl rfl rfl ?_
 refine AS.q hC rfl rfl rfl rfl (AS.q hC rfl rfl rfl rfl (AS.q hC rfl rfl rfl rfl (AS.q hC rfl rfl rfl rfl (AS.qe hC rfl trivial (B0.lenA _) rfl rfl rfl (AS.c (Qz hx1) rfl rfl rfl rfl (AS.q hC rfl rfl rfl rfl (AS.g [] (Gu hx2) rfl rfl rfl rfl rfl rfl rfl rfl rfl rfl rfl rfl (AS.nil (q' rfl (E0.s hC rfl (n' (re' ?_))))))))))))
 obtain rfl:=oi' hh
 exact ⟨_,.agg [.d (.sl (B0.rows p.Decls)),.d (.sl (C0.rows p.Body)),.d (.int .i64 (-1)),.d (.sl (J0.rows x1)),.d (.sl (estr.rows x2))],[],rfl,(.aggL ⟨.rfl,.rfl,.rfl,.rfl,.osl,trivial⟩),trivial,rfl,rfl,rfl,rfl⟩
mutual
def Kg (t:A0):Option Bool:=
 if (t.Kind == 4)=true then
  some true
 else
  Vg t 0
 partial_fixpoint
def Vg (t:A0)(i:Int):Option Bool:=
 if (decide (i < ((t.Of).length:Int)))=true then
  idx t.Of i>>=fun x1=>
  Kg x1>>=fun x2=>
  if x2=true then
   some true
  else
   Vg t (IntKind.i64.wrap (i+1))
 else
  some false
 partial_fixpoint
end
abbrev O17 (t:A0)(res:Bool):Prop:=K0 C 196 [.agg (A0.cells t)] [] (Ret [] (.d (.bool res)))
abbrev L1g (t:A0)(i:Int)(res:Bool):Prop:=LM C 20 0 Tryz.f196 [1,1,0,1,4] [(1,.ref 0 0),(3,.d (.int .i64 i))] [.row (A0.cells t) 40] (Ret [] (.d (.bool res)))
theorem L1j:(∀ t res,Kg t=some res→O17 t res)∧(∀ t i res,Vg t i=some res→L1g t i res):=by
 refine Kg.mutual_partial_correctness _ _ ?_ ?_
 ·intro g1 ih1 t res hh
  refine K0.intro hC Tryz.func196 rfl rfl rfl (s' rfl rfl (E0.n hC rfl (e' rfl (S' (t' rfl (ci' rfl hh (fun hh=>?_) (fun hh=>?_)))))))
  ·cases hh
   exact t' rfl (re' (rt' rfl rfl rfl))
  exact sk' (S' (t' rfl (bk' (fw' (ih1 _ _ _ hh) rfl rfl rfl))))
 ·intro g0 g1 ih0 ih1 t i res hh
  refine W0.unroll (S' (p' 3 rfl (qe' rfl trivial (A0.lenA _) (e' rfl (ci' rfl hh (fun hh=>?_) (fun hh=>?_))))))
  ·obtain ⟨x1,hx1,hh⟩:=bs' hh
   obtain ⟨x2,hx2,hh⟩:=bs' hh
   refine sk' (S' (bk' (p' 3 rfl (i' rfl (U0 hx1) (A0.idx hx1) rfl (q' rfl (c' (ih0 _ _ hx2) rfl rfl (n' (ci' rfl hh (fun hh=>?_) (fun hh=>?_)))))))))
   ·cases hh
    exact t' rfl (re' (rt' rfl rfl rfl))
   exact sk' (T' rfl (lw' (ih1 _ _ _ hh) rfl rfl rfl))
  cases hh
  exact ex' (t' rfl (re' (rt' rfl rfl rfl)))
theorem R1l {t res}(hh:Kg t=some res):O17 t res:=(L1j).1 _ _ hh
def Tp (t:A0):Option Int:=
 Bf t>>=fun x1=>
 if (x1 != 0)=true then
  some x1
 else
  Kg t>>=fun x2=>
  if x2=true then
   some 7
  else
   Ma t>>=fun x3=>
   if x3=true then
    some 8
   else
    Sb t>>=fun x4=>
    if (decide (x4 > 32))=true then
     some 4
    else
     some 0
theorem S1l {t res}(hh:Tp t=some res):K0 C 146 [.agg (A0.cells t)] [] (Ret [] (.d (.int .i64 res))):=by
 unfold Tp at hh
 obtain ⟨x1,hx1,hh⟩:=bs' hh
 refine K0.intro hC Tryz.func146 rfl rfl rfl (s' rfl rfl (E0.n hC rfl (e' rfl (p' 1 rfl (c' (Wv hx1) rfl rfl (e' rfl (S' (t' rfl (ci' rfl hh (fun hh=>?_) (fun hh=>?_))))))))))
 ·cases hh
  exact t' rfl (re' (rt' rfl rfl rfl))
 obtain ⟨x2,hx2,hh⟩:=bs' hh
 refine sk' (S' (p' 1 rfl (c' (R1l hx2) rfl rfl (n' (ci' rfl hh (fun hh=>?_) (fun hh=>?_))))))
 ·cases hh
  exact t' rfl (re' (rt' rfl rfl rfl))
 obtain ⟨x3,hx3,hh⟩:=bs' hh
 refine sk' (S' (p' 1 rfl (c' (Oz hx3) rfl rfl (n' (ci' rfl hh (fun hh=>?_) (fun hh=>?_))))))
 ·cases hh
  exact t' rfl (re' (rt' rfl rfl rfl))
 obtain ⟨x4,hx4,hh⟩:=bs' hh
 refine sk' (S' (p' 1 rfl (c' (F14 hx4) rfl rfl (e' rfl (ci' rfl hh (fun hh=>?_) (fun hh=>?_))))))
 ·cases hh
  exact t' rfl (re' (rt' rfl rfl rfl))
 cases hh
 exact sk' (t' rfl (re' (rt' rfl rfl rfl)))
def Gc (n:Int):Option Str:=
 if (decide (n < 10))=true then
  slc [48,49,50,51,52,53,54,55,56,57] n (IntKind.i64.wrap (n+1))>>=fun x1=>
  some x1
 else
  Gc (IntKind.i64.wrap (Int.tdiv n 10))>>=fun x2=>
  slc [48,49,50,51,52,53,54,55,56,57] (Int.tmod n 10) (IntKind.i64.wrap ((Int.tmod n 10)+1))>>=fun x3=>
  if (decide (x2.length+x3.length≤maxLen))=true then
   some (x2++x3)
  else none
 partial_fixpoint
abbrev J14 (n:Int)(res:Str):Prop:=K0 C 199 [.d (.int .i64 n)] [] (Ret [] (.d (.str res)))
theorem M1g:(∀ n res,Gc n=some res→J14 n res):=by
 refine Gc.partial_correctness _ ?_
 ·intro g0 ih0 n res hh
  refine K0.intro hC Tryz.func199 rfl rfl rfl (t' rfl (S' (t' rfl (ci' rfl hh (fun hh=>?_) (fun hh=>?_)))))
  ·obtain ⟨x1,hx1,hh⟩:=bs' hh
   cases hh
   exact p' 3 rfl (E0.lx hC rfl hx1 (e' rfl (re' (rt' rfl rfl rfl))))
  obtain ⟨x2,hx2,hh⟩:=bs' hh
  obtain ⟨x3,hx3,hh⟩:=bs' hh
  obtain ⟨c5,hh⟩:=I1 hh
  cases hh
  refine sk' (S' (AEx.draw hC 11 rfl rfl rfl (Q' rfl (AQ.q hC rfl (by decide) (Qc' (ih0 _ _ hx2) rfl rfl (Q' rfl (AQ.q hC rfl (by decide) (Q' rfl (AQ.q hC rfl (by decide) (Q' rfl (AQ.lx hC rfl hx3 (AQ.q hC rfl c5 (E' rfl ?_)))))))))))))
  exact n' (re' (rt' rfl rfl rfl))
theorem M1j {n res}(hh:Gc n=some res):J14 n res:=(M1g) _ _ hh
mutual
def X8 (t:A0)(path:Str):Option (List R0):=
 if (t.Kind == 0)=true then
  if (decide ((0+1) * 41≤140737488355328))=true then
   some [(R0.mk path true 0 1)]
  else none
 else
  if (t.Kind == 1)=true then
   if (decide ((0+1) * 41≤140737488355328))=true then
    some [(R0.mk path false t.Low t.High)]
   else none
  else
   if (t.Kind == 2)=true then
    Vd t path [] 0
   else
    if (t.Kind == 3)=true then
     Ud t path [] 0
    else
     some []
 partial_fixpoint
def Ud (t:A0)(path:Str)(out1:List R0)(i1:Int):Option (List R0):=
 if (decide (i1 < ((t.Of).length:Int)))=true then
  idx t.Of i1>>=fun x3=>
  if (decide (path.length+1≤maxLen))=true then
   idx t.Names i1>>=fun x4=>
   if (decide ((path++[46]).length+x4.length≤maxLen))=true then
    X8 x3 ((path++[46])++x4)>>=fun x6=>
    if (decide ((out1.length+x6.length) * 41≤140737488355328))=true then
     Ud t path (out1++x6) (IntKind.i64.wrap (i1+1))
    else none
   else none
  else none
 else
  some out1
 partial_fixpoint
def Vd (t:A0)(path:Str)(out:List R0)(i:Int):Option (List R0):=
 if (decide (i < t.Size))=true then
  idx t.Of 0>>=fun x1=>
  if (decide (path.length+1≤maxLen))=true then
   Gc i>>=fun x2=>
   if (decide ((path++[46]).length+x2.length≤maxLen))=true then
    X8 x1 ((path++[46])++x2)>>=fun x5=>
    if (decide ((out.length+x5.length) * 41≤140737488355328))=true then
     Vd t path (out++x5) (IntKind.i64.wrap (i+1))
    else none
   else none
  else none
 else
  some out
 partial_fixpoint
end
abbrev K11 (t:A0)(path:Str)(res:List R0):Prop:=K0 C 147 [.agg (A0.cells t),.d (.str path)] [] (Ret [] (.d (.sl (R0.rows res))))
abbrev R1b (t:A0)(path:Str)(out1:List R0)(i1:Int)(res:List R0):Prop:=LM C 74 0 Tryz.f147 [1,1,0,1,4,1,3,1,3,1,3,1,2,1,4] [(1,.d (.str path)),(2,.ref 0 0),(5,.osl 1 (R0.rows out1)),(7,.d (.int .i64 i1))] [.row (A0.cells t) 40,.tok 117 4] (Ret [] (.d (.sl (R0.rows res))))
abbrev S1b (t:A0)(path:Str)(out:List R0)(i:Int)(res:List R0):Prop:=LM C 74 0 Tryz.f147 [1,1,0,1,4,1,3,1,3,1,2,1,4] [(1,.d (.str path)),(2,.ref 0 0),(5,.osl 1 (R0.rows out)),(6,.d (.int .i64 i))] [.row (A0.cells t) 40,.tok 117 4] (Ret [] (.d (.sl (R0.rows res))))
theorem F1e:(∀ t path res,X8 t path=some res→K11 t path res)∧(∀ t path out1 i1 res,Ud t path out1 i1=some res→R1b t path out1 i1 res)∧(∀ t path out i res,Vd t path out i=some res→S1b t path out i res):=by
 refine X8.mutual_partial_correctness _ _ _ ?_ ?_ ?_
 ·intro g1 g2 ih1 ih2 t path res hh
  refine K0.intro hC Tryz.func147 rfl rfl rfl (s' rfl rfl (E0.n hC rfl (e' rfl (p' 1 rfl (E0.tokE 5 117 4 rfl (n' (S' (t' rfl (bk' (t' rfl (ci' rfl hh (fun hh=>?_) (fun hh=>?_))))))))))))
  ·obtain ⟨c57,hh⟩:=I1 hh
   refine P' 3 rfl (E0.be hC rfl (R0.rows_map [(R0.mk path true 0 1)]).symm (E0.ap hC rfl (rs:=R0.rows [(R0.mk path true 0 1)]) rfl (R0.sz []) (R0.sz [(R0.mk path true 0 1)]) (E4 (R0.len []) (R0.len [(R0.mk path true 0 1)]) c57) (e' rfl (t' rfl (re' ?_)))))
   obtain rfl:=oi' hh
   exact ⟨_,.d (.sl (R0.rows [(R0.mk path true 0 1)])),[],rfl,.osl,trivial,rfl,rfl,rfl,rfl⟩
  refine t' rfl (ci' rfl hh (fun hh=>?_) (fun hh=>?_))
  ·obtain ⟨c58,hh⟩:=I1 hh
   refine P' 7 rfl (E0.be hC rfl (R0.rows_map [(R0.mk path false t.Low t.High)]).symm (E0.ap hC rfl (rs:=R0.rows [(R0.mk path false t.Low t.High)]) rfl (R0.sz []) (R0.sz [(R0.mk path false t.Low t.High)]) (E4 (R0.len []) (R0.len [(R0.mk path false t.Low t.High)]) c58) (e' rfl (t' rfl (re' ?_)))))
   obtain rfl:=oi' hh
   exact ⟨_,.d (.sl (R0.rows [(R0.mk path false t.Low t.High)])),[],rfl,.osl,trivial,rfl,rfl,rfl,rfl⟩
  refine t' rfl (ci' rfl hh (fun hh=>?_) (fun hh=>?_))
  ·exact t' rfl (bk' (fw' (ih2 _ _ _ _ _ hh) rfl rfl rfl))
  refine t' rfl (ci' rfl hh (fun hh=>?_) (fun hh=>?_))
  ·exact t' rfl (bk' (fw' (ih1 _ _ _ _ _ hh) rfl rfl rfl))
  refine sk' (t' rfl (re' ?_))
  obtain rfl:=oi' hh
  exact ⟨_,.d (.sl (R0.rows [])),[],rfl,.osl,trivial,rfl,rfl,rfl,rfl⟩
 ·intro g0 g1 ih0 ih1 t path out1 i1 res hh
  refine W0.unroll (S' (p' 3 rfl (qe' rfl trivial (A0.lenA _) (e' rfl (ci' rfl hh (fun hh=>?_) (fun hh=>?_))))))
  ·obtain ⟨x3,hx3,hh⟩:=bs' hh
   obtain ⟨c62,hh⟩:=I1 hh
   obtain ⟨x4,hx4,hh⟩:=bs' hh
   obtain ⟨c63,hh⟩:=I1 hh
   obtain ⟨x6,hx6,hh⟩:=bs' hh
   obtain ⟨c64,hh⟩:=I1 hh
   refine sk' (S' (bk' (AEx.draw hC 15 rfl rfl rfl (O' 4 rfl (AQ.i hC rfl (U0 hx3) (A0.idx hx3) rfl (O' 2 rfl (AQ.q hC rfl c62 (O' 3 rfl (AQ.i hC rfl (U0 hx4) (estr.idx hx4) rfl (Q' rfl (AQ.q hC rfl c63 (Qc' (ih0 _ _ _ hx6) rfl rfl (Qn' ?_)))))))))))))
   exact E0.ap hC rfl (rs:=R0.rows (out1++x6)) (R0.app out1 x6) (R0.sz out1) (R0.sz x6) (E4 (R0.len out1) (R0.len x6) c64) (e' rfl (T' rfl (lw' (ih1 _ _ _ _ _ hh) rfl rfl rfl)))
  refine ex' (t' rfl (re' ?_))
  obtain rfl:=oi' hh
  exact ⟨_,.d (.sl (R0.rows out1)),[],rfl,.osl,trivial,rfl,rfl,rfl,rfl⟩
 ·intro g0 g2 ih0 ih2 t path out i res hh
  refine W0.unroll (S' (t' rfl (ci' rfl hh (fun hh=>?_) (fun hh=>?_))))
  ·obtain ⟨x1,hx1,hh⟩:=bs' hh
   obtain ⟨c59,hh⟩:=I1 hh
   obtain ⟨x2,hx2,hh⟩:=bs' hh
   obtain ⟨c60,hh⟩:=I1 hh
   obtain ⟨x5,hx5,hh⟩:=bs' hh
   obtain ⟨c61,hh⟩:=I1 hh
   refine sk' (S' (bk' (AEx.draw hC 11 rfl rfl rfl (O' 3 rfl (AQ.i hC rfl (U0 hx1) (A0.idx hx1) rfl (O' 2 rfl (AQ.q hC rfl c59 (Q' rfl (Qc' (M1j hx2) rfl rfl (AQ.q hC rfl c60 (Qc' (ih0 _ _ _ hx5) rfl rfl (Qn' (E0.ap hC rfl (rs:=R0.rows (out++x5)) (R0.app out x5) (R0.sz out) (R0.sz x5) (E4 (R0.len out) (R0.len x5) c61) ?_)))))))))))))
   exact e' rfl (T' rfl (lw' (ih2 _ _ _ _ _ hh) rfl rfl rfl))
  refine ex' (t' rfl (re' ?_))
  obtain rfl:=oi' hh
  exact ⟨_,.d (.sl (R0.rows out)),[],rfl,.osl,trivial,rfl,rfl,rfl,rfl⟩
theorem N1g {t path res}(hh:X8 t path=some res):K11 t path res:=(F1e).1 _ _ _ hh
def Hi (t:A0):Option (List R0×Int):=
 Tp t>>=fun x1=>
 if (x1 != 0)=true then
  some ([],x1)
 else
  X8 t []>>=fun x2=>
  some (x2,0)
theorem Tz {t res}(hh:Hi t=some res):K0 C 81 [.agg (A0.cells t)] [] (Ret [] (.tup [.d (.sl (R0.rows res.1)),.d (.int .i64 res.2)])):=by
 unfold Hi at hh
 obtain ⟨x1,hx1,hh⟩:=bs' hh
 refine K0.intro hC Tryz.func81 rfl rfl rfl (s' rfl rfl (E0.n hC rfl (e' rfl (p' 1 rfl (c' (S1l hx1) rfl rfl (e' rfl (S' (t' rfl (ci' rfl hh (fun hh=>?_) (fun hh=>?_))))))))))
 ·refine t' rfl (re' ?_)
  obtain rfl:=oi' hh
  exact ⟨_,.tup [.d (.sl (R0.rows [])),.d (.int .i64 x1)],[],rfl,(.tupL ⟨.full,.rfl,trivial⟩),trivial,rfl,rfl,rfl,rfl⟩
 obtain ⟨x2,hx2,hh⟩:=bs' hh
 cases hh
 exact sk' (p' 1 rfl (c' (N1g hx2) rfl rfl (e' rfl (re' (rt' rfl rfl rfl)))))
def Y9 (n:Int)(x1:List R0×Int)(i:Int):Option Int:=
 if (decide (i < ((x1.1).length:Int)))=true then
  idx x1.1 i>>=fun x2=>
  idx x1.1 i>>=fun x3=>
  B4 (IntKind.i64.wrap (n * (IntKind.i64.wrap ((IntKind.i64.wrap (x2.High - x3.Low))+1)))) 100000>>=fun x4=>
  Y9 x4 x1 (IntKind.i64.wrap (i+1))
 else
  some n
 partial_fixpoint
abbrev Mx (n:Int)(x1:List R0×Int)(i:Int)(res:Int):Prop:=LM C 34 0 Tryz.f83 [1,1,1,0,1,4] [(3,.d (.int .i64 n)),(4,.d (.sl (R0.rows x1.1))),(6,.d (.int .i64 i))] [] (Ret [] (.d (.int .i64 res)))
theorem F19 (x1:List R0×Int):(∀ n i res,Y9 n x1 i=some res→Mx n x1 i res):=by
 refine Y9.partial_correctness x1 _ ?_
 ·intro g0 ih0 n i res hh
  refine W0.unroll (S' (p' 2 rfl (qe' rfl trivial (R0.lenA _) (e' rfl (ci' rfl hh (fun hh=>?_) (fun hh=>?_))))))
  ·obtain ⟨x2,hx2,hh⟩:=bs' hh
   obtain ⟨x3,hx3,hh⟩:=bs' hh
   obtain ⟨x4,hx4,hh⟩:=bs' hh
   exact sk' (S' (bk' (AEx.draw hC 16 rfl rfl rfl (O' 3 rfl (AQ.i hC rfl (U0 hx2) (R0.idx hx2) rfl (O' 4 rfl (AQ.i hC rfl (U0 hx3) (R0.idx hx3) rfl (O' 5 rfl (Qc' (A5 hx4) rfl rfl (E' rfl (n' (T' rfl (lw' (ih0 _ _ _ hh) rfl rfl rfl)))))))))))))
  cases hh
  exact ex' (t' rfl (re' (rt' rfl rfl rfl)))
theorem T1b {n x1 i res}(hh:Y9 n x1 i=some res):Mx n x1 i res:=(F19 x1) _ _ _ hh
def Jh (t:A0):Option Int:=
 Hi t>>=fun x1=>
 Y9 1 x1 0
theorem Ls {t res}(hh:Jh t=some res):K0 C 83 [.agg (A0.cells t)] [] (Ret [] (.d (.int .i64 res))):=by
 unfold Jh at hh
 obtain ⟨x1,hx1,hh⟩:=bs' hh
 exact K0.intro hC Tryz.func83 rfl rfl rfl (s' rfl rfl (E0.n hC rfl (e' rfl (t' rfl (p' 1 rfl (c' (Tz hx1) rfl rfl (e' rfl (S' (t' rfl (bk' (fw' (T1b hh) rfl rfl rfl)))))))))))
def Wq (n:Int):Option Int:=
 B4 n 1000000>>=fun x1=>
 some x1
theorem U1b {n res}(hh:Wq n=some res):K0 C 167 [.d (.int .i64 n)] [] (Ret [] (.d (.int .i64 res))):=by
 unfold Wq at hh
 obtain ⟨x1,hx1,hh⟩:=bs' hh
 cases hh
 exact K0.intro hC Tryz.func167 rfl rfl rfl (t' rfl (p' 1 rfl (c' (A5 hx1) rfl rfl (e' rfl (re' (rt' rfl rfl rfl))))))
mutual
def B3 (p:I0)(l:List C0)(n:Int):Option (Int×Int):=
 G3 p l n 0 0 0
 partial_fixpoint
def G3 (p:I0)(l:List C0)(n:Int)(steps4:Int)(outputs5:Int)(i:Int):Option (Int×Int):=
 if (decide (i < ((l).length:Int)))=true then
  idx l i>>=fun x1=>
  B3 p x1.Then n>>=fun x2=>
  B3 p x1.Else n>>=fun x3=>
  if (x1.Verb == 3)=true then
   Wg p l n x1 (IntKind.i64.wrap (steps4+1)) (IntKind.i64.wrap (outputs5+1)) i x2 x3
  else
   Wg p l n x1 (IntKind.i64.wrap (steps4+1)) outputs5 i x2 x3
 else
  some (steps4,outputs5)
 partial_fixpoint
def Wg (p:I0)(l:List C0)(n:Int)(x1:C0)(steps5:Int)(outputs:Int)(i1:Int)(x2:Int×Int)(x3:Int×Int):Option (Int×Int):=
 if (x1.Verb == 5)=true then
  Y3 x2.1 x3.1>>=fun x4=>
  Y3 x2.2 x3.2>>=fun x5=>
  Wd p l n x1 (IntKind.i64.wrap (steps5+x4)) (IntKind.i64.wrap (outputs+x5)) i1 x2
 else
  Wd p l n x1 steps5 outputs i1 x2
 partial_fixpoint
def Wd (p:I0)(l:List C0)(n:Int)(x1:C0)(steps:Int)(outputs1:Int)(i2:Int)(x2:Int×Int):Option (Int×Int):=
 if (x1.Verb == 6)=true then
  Xd p l n x1 (IntKind.i64.wrap (steps+(IntKind.i64.wrap (x1.NV * (IntKind.i64.wrap (1+x2.1)))))) (IntKind.i64.wrap (outputs1+(IntKind.i64.wrap (x1.NV * x2.2)))) i2 x2
 else
  Xd p l n x1 steps outputs1 i2 x2
 partial_fixpoint
def Xd (p:I0)(l:List C0)(n:Int)(x1:C0)(steps1:Int)(outputs2:Int)(i3:Int)(x2:Int×Int):Option (Int×Int):=
 if (x1.Verb == 7)=true then
  Yd p l n x1 (IntKind.i64.wrap (steps1+(IntKind.i64.wrap ((IntKind.i64.wrap ((IntKind.i64.wrap (x1.High - x1.Low))+1)) * (IntKind.i64.wrap (1+x2.1)))))) (IntKind.i64.wrap (outputs2+(IntKind.i64.wrap ((IntKind.i64.wrap ((IntKind.i64.wrap (x1.High - x1.Low))+1)) * x2.2)))) i3
 else
  Yd p l n x1 steps1 outputs2 i3
 partial_fixpoint
def Yd (p:I0)(l:List C0)(n:Int)(x1:C0)(steps2:Int)(outputs3:Int)(i4:Int):Option (Int×Int):=
 if (x1.Verb == 1)=true then
  I9 p 6 x1.Name n>>=fun x6=>
  idx p.Decls x6>>=fun x7=>
  B3 p x7.Body x6>>=fun x8=>
  Rk p l n (IntKind.i64.wrap (steps2+x8.1)) (IntKind.i64.wrap (outputs3+x8.2)) i4
 else
  Rk p l n steps2 outputs3 i4
 partial_fixpoint
def Rk (p:I0)(l:List C0)(n:Int)(steps3:Int)(outputs4:Int)(i5:Int):Option (Int×Int):=
 Wq steps3>>=fun x9=>
 Wq outputs4>>=fun x10=>
 G3 p l n x9 x10 (IntKind.i64.wrap (i5+1))
 partial_fixpoint
end
abbrev P17 (p:I0)(l:List C0)(n:Int)(res:Int×Int):Prop:=K0 C 98 [.agg (I0.cells p),.d (.sl (C0.rows l)),.d (.int .i64 n)] [] (Ret [] (.tup [.d (.int .i64 res.1),.d (.int .i64 res.2)]))
abbrev O1g (p:I0)(l:List C0)(n:Int)(steps4:Int)(outputs5:Int)(i:Int)(res:Int×Int):Prop:=LM C 135 0 Tryz.f98 [1,1,1,0,1,4] [(1,.d (.sl (C0.rows l))),(2,.d (.int .i64 n)),(3,.ref 0 0),(8,.d (.int .i64 steps4)),(9,.d (.int .i64 outputs5)),(10,.d (.int .i64 i))] [.row (I0.cells p) 25] (Ret [] (.tup [.d (.int .i64 res.1),.d (.int .i64 res.2)]))
abbrev P1g (p:I0)(l:List C0)(n:Int)(x1:C0)(steps5:Int)(outputs:Int)(i1:Int)(x2:Int×Int)(x3:Int×Int)(res:Int×Int):Prop:=JM C 135 0 Tryz.f98 [1,1,1,0,1,4,5,1,0,4,1,1,1,1,1] [(1,.d (.sl (C0.rows l))),(2,.d (.int .i64 n)),(3,.ref 0 0),(8,.d (.int .i64 steps5)),(9,.d (.int .i64 outputs)),(10,.d (.int .i64 i1)),(11,.ref 1 0),(12,.d (.int .i64 x2.1)),(13,.d (.int .i64 x2.2)),(14,.d (.int .i64 x3.1)),(15,.d (.int .i64 x3.2))] [.row (I0.cells p) 25,.row (C0.cells x1) 53] (Ret [] (.tup [.d (.int .i64 res.1),.d (.int .i64 res.2)]))
abbrev Q1g (p:I0)(l:List C0)(n:Int)(x1:C0)(steps:Int)(outputs1:Int)(i2:Int)(x2:Int×Int)(res:Int×Int):Prop:=JM C 135 0 Tryz.f98 [1,1,1,0,1,4,5,1,0,4,1,1,1,1,1,1] [(1,.d (.sl (C0.rows l))),(2,.d (.int .i64 n)),(3,.ref 0 0),(8,.d (.int .i64 steps)),(9,.d (.int .i64 outputs1)),(10,.d (.int .i64 i2)),(11,.ref 1 0),(12,.d (.int .i64 x2.1)),(13,.d (.int .i64 x2.2))] [.row (I0.cells p) 25,.row (C0.cells x1) 53] (Ret [] (.tup [.d (.int .i64 res.1),.d (.int .i64 res.2)]))
abbrev R1g (p:I0)(l:List C0)(n:Int)(x1:C0)(steps1:Int)(outputs2:Int)(i3:Int)(x2:Int×Int)(res:Int×Int):Prop:=JM C 135 0 Tryz.f98 [1,1,1,0,1,4,5,1,0,4,1,1,1,1,1,1,1] [(1,.d (.sl (C0.rows l))),(2,.d (.int .i64 n)),(3,.ref 0 0),(8,.d (.int .i64 steps1)),(9,.d (.int .i64 outputs2)),(10,.d (.int .i64 i3)),(11,.ref 1 0),(12,.d (.int .i64 x2.1)),(13,.d (.int .i64 x2.2))] [.row (I0.cells p) 25,.row (C0.cells x1) 53] (Ret [] (.tup [.d (.int .i64 res.1),.d (.int .i64 res.2)]))
abbrev S1g (p:I0)(l:List C0)(n:Int)(x1:C0)(steps2:Int)(outputs3:Int)(i4:Int)(res:Int×Int):Prop:=JM C 135 0 Tryz.f98 [1,1,1,0,1,4,5,1,0,4,1,1,1,1,1,1,1,1] [(1,.d (.sl (C0.rows l))),(2,.d (.int .i64 n)),(3,.ref 0 0),(8,.d (.int .i64 steps2)),(9,.d (.int .i64 outputs3)),(10,.d (.int .i64 i4)),(11,.ref 1 0)] [.row (I0.cells p) 25,.row (C0.cells x1) 53] (Ret [] (.tup [.d (.int .i64 res.1),.d (.int .i64 res.2)]))
abbrev T1g (p:I0)(l:List C0)(n:Int)(steps3:Int)(outputs4:Int)(i5:Int)(res:Int×Int):Prop:=JM C 135 0 Tryz.f98 [1,1,1,0,1,4,5,1,0,4,1,1,1,1,1,1,1,1,1] [(1,.d (.sl (C0.rows l))),(2,.d (.int .i64 n)),(3,.ref 0 0),(8,.d (.int .i64 steps3)),(9,.d (.int .i64 outputs4)),(10,.d (.int .i64 i5))] [.row (I0.cells p) 25] (Ret [] (.tup [.d (.int .i64 res.1),.d (.int .i64 res.2)]))
theorem N1j (p:I0):(∀ l n res,B3 p l n=some res→P17 p l n res)∧(∀ l n steps4 outputs5 i res,G3 p l n steps4 outputs5 i=some res→O1g p l n steps4 outputs5 i res)∧(∀ l n x1 steps5 outputs i1 x2 x3 res,Wg p l n x1 steps5 outputs i1 x2 x3=some res→P1g p l n x1 steps5 outputs i1 x2 x3 res)∧(∀ l n x1 steps outputs1 i2 x2 res,Wd p l n x1 steps outputs1 i2 x2=some res→Q1g p l n x1 steps outputs1 i2 x2 res)∧(∀ l n x1 steps1 outputs2 i3 x2 res,Xd p l n x1 steps1 outputs2 i3 x2=some res→R1g p l n x1 steps1 outputs2 i3 x2 res)∧(∀ l n x1 steps2 outputs3 i4 res,Yd p l n x1 steps2 outputs3 i4=some res→S1g p l n x1 steps2 outputs3 i4 res)∧(∀ l n steps3 outputs4 i5 res,Rk p l n steps3 outputs4 i5=some res→T1g p l n steps3 outputs4 i5 res):=by
 refine B3.mutual_partial_correctness p _ _ _ _ _ _ _ ?_ ?_ ?_ ?_ ?_ ?_ ?_
 ·intro g1 ih1 l n res hh
  exact K0.intro hC Tryz.func98 rfl rfl rfl (s' rfl rfl (E0.n hC rfl (e' rfl (t' rfl (t' rfl (S' (t' rfl (bk' (fw' (ih1 _ _ _ _ _ _ hh) rfl rfl rfl)))))))))
 ·intro g0 g2 ih0 ih2 l n steps4 outputs5 i res hh
  refine W0.unroll (S' (p' 2 rfl (qe' rfl trivial (C0.lenA _) (e' rfl (ci' rfl hh (fun hh=>?_) (fun hh=>?_))))))
  ·obtain ⟨x1,hx1,hh⟩:=bs' hh
   obtain ⟨x2,hx2,hh⟩:=bs' hh
   obtain ⟨x3,hx3,hh⟩:=bs' hh
   refine sk' (S' (bk' (p' 2 rfl (i' rfl (U0 hx1) (C0.idx hx1) rfl (q' rfl (E0.nf hC rfl (E0.s hC rfl (n' (p' 4 rfl (c' (ih0 _ _ _ hx2) rfl rfl (e' rfl (p' 4 rfl (c' (ih0 _ _ _ hx3) rfl rfl ?_)))))))))))))
   refine e' rfl (t' rfl (S' (t' rfl (ci' rfl hh (fun hh=>?_) (fun hh=>?_)))))
   ·exact T' rfl (ew' (ih2 _ _ _ _ _ _ _ _ _ hh) rfl rfl rfl)
   exact sk' (ew' (ih2 _ _ _ _ _ _ _ _ _ hh) rfl rfl rfl)
  cases hh
  exact ex' (t' rfl (re' (rt' rfl rfl rfl)))
 ·intro g3 ih3 l n x1 steps5 outputs i1 x2 x3 res hh
  refine S' (t' rfl (ci' rfl hh (fun hh=>?_) (fun hh=>?_)))
  ·obtain ⟨x4,hx4,hh⟩:=bs' hh
   obtain ⟨x5,hx5,hh⟩:=bs' hh
   exact p' 3 rfl (c' (M7 hx4) rfl rfl (e' rfl (P' 3 rfl (c' (M7 hx5) rfl rfl (e' rfl (ew' (ih3 _ _ _ _ _ _ _ _ hh) rfl rfl rfl))))))
  exact sk' (ew' (ih3 _ _ _ _ _ _ _ _ hh) rfl rfl rfl)
 ·intro g4 ih4 l n x1 steps outputs1 i2 x2 res hh
  refine S' (t' rfl (ci' rfl hh (fun hh=>?_) (fun hh=>?_)))
  ·exact t' rfl (T' rfl (ew' (ih4 _ _ _ _ _ _ _ _ hh) rfl rfl rfl))
  exact sk' (ew' (ih4 _ _ _ _ _ _ _ _ hh) rfl rfl rfl)
 ·intro g5 ih5 l n x1 steps1 outputs2 i3 x2 res hh
  refine S' (t' rfl (ci' rfl hh (fun hh=>?_) (fun hh=>?_)))
  ·exact t' rfl (T' rfl (ew' (ih5 _ _ _ _ _ _ _ hh) rfl rfl rfl))
  exact sk' (ew' (ih5 _ _ _ _ _ _ _ hh) rfl rfl rfl)
 ·intro g0 g6 ih0 ih6 l n x1 steps2 outputs3 i4 res hh
  refine S' (t' rfl (ci' rfl hh (fun hh=>?_) (fun hh=>?_)))
  ·obtain ⟨x6,hx6,hh⟩:=bs' hh
   obtain ⟨x7,hx7,hh⟩:=bs' hh
   obtain ⟨x8,hx8,hh⟩:=bs' hh
   exact p' 4 rfl (c' (Cp hx6) rfl rfl (e' rfl (S' (AEx.draw hC 14 rfl rfl rfl (O' 4 rfl (AQ.i hC rfl (U0 hx7) (B0.idx hx7) rfl (O' 3 rfl (Qc' (ih0 _ _ _ hx8) rfl rfl (E' rfl (n' (t' rfl (T' rfl (ew' (ih6 _ _ _ _ _ _ hh) rfl rfl rfl)))))))))))))
  exact sk' (ew' (ih6 _ _ _ _ _ _ hh) rfl rfl rfl)
 ·intro g1 ih1 l n steps3 outputs4 i5 res hh
  obtain ⟨x9,hx9,hh⟩:=bs' hh
  obtain ⟨x10,hx10,hh⟩:=bs' hh
  exact p' 1 rfl (c' (U1b hx9) rfl rfl (e' rfl (P' 1 rfl (c' (U1b hx10) rfl rfl (e' rfl (T' rfl (lw' (ih1 _ _ _ _ _ _ hh) rfl rfl rfl)))))))
theorem Iu {p l n res}(hh:B3 p l n=some res):P17 p l n res:=(N1j p).1 _ _ _ hh
def Rh (Body:List C0):Option (Int×Int):=
 B3 (I0.mk [] []) Body 0>>=fun x1=>
 some (x1.1,x1.2)
theorem Q12 {Body res}(hh:Rh Body=some res):LM C 56 0 Tryz.f46 [1,1,0,1,4] [(1,.ref 0 0),(4,.ref 2 0),(5,.d (.int .i64 0))] [.row [.d (.sl (B0.rows [])),.d (.sl (C0.rows Body))] 25,.tok 59 17,.row [.osl 1 (B0.rows []),.d (.sl (C0.rows []))] 25] (Ret [] (.tup [.d (.int .i64 res.1),.d (.int .i64 res.2)])):=by
 unfold Rh at hh
 obtain ⟨x1,hx1,hh⟩:=bs' hh
 cases hh
 exact W0.unroll (S' (t' rfl (AEx.cond_false rfl (ex' (p' 6 rfl (E0.cl rfl (Iu hx1) ⟨(.aggL ⟨.osl,.rfl,trivial⟩),.rfl,.rfl,trivial⟩ rfl (e' rfl (re' (rt' rfl rfl rfl)))))))))
def Kl (Body:List C0):Option (Int×Int):=
 if (decide ((0+0) * 257≤140737488355328))=true then
  Rh Body
 else none
theorem G19 {Body res}(hh:Kl Body=some res):K0 C 46 [.agg [.d (.sl (B0.rows [])),.d (.sl (C0.rows Body))]] [] (Ret [] (.tup [.d (.int .i64 res.1),.d (.int .i64 res.2)])):=by
 unfold Kl at hh
 obtain ⟨c6,hh⟩:=I1 hh
 refine K0.intro hC Tryz.func46 rfl rfl rfl (s' rfl rfl (E0.n hC rfl (e' rfl (s' rfl rfl (E0.be hC rfl (B0.rows_map []).symm (o' 2 rfl (E0.ap hC rfl (rs:=B0.rows []) rfl (B0.sz []) (B0.sz []) (E4 (B0.len []) (B0.len []) c6) (q' rfl (E0.nf hC rfl (E0.s hC rfl (n' (S' (t' rfl ?_)))))))))))))
 exact bk' (fw' (Q12 hh) rfl rfl rfl)
def M6 (x1:Int)(out1:List C0)(i1:Int):Option (List C0):=
 if (decide (i1 < x1))=true then
  if (decide ((out1.length+1) * 257≤140737488355328))=true then
   M6 x1 (out1++[(C0.mk 4 (D0.mk 0 0 [] []) (D0.mk 0 0 [] []) [] [] 0 0 0 [] [] [])]) (IntKind.i64.wrap (i1+1))
  else none
 else
  some out1
 partial_fixpoint
abbrev Ms (x1:Int)(out1:List C0)(i1:Int)(res:List C0):Prop:=LM C 33 0 Tryz.f99 [1,1,1,1,1,0,1,4] [(0,.d (.int .i64 x1)),(5,.osl 0 (C0.rows out1)),(7,.d (.int .i64 i1))] [.tok 53 17] (Ret [] (.d (.sl (C0.rows res))))
theorem R12 (x1:Int):(∀ out1 i1 res,M6 x1 out1 i1=some res→Ms x1 out1 i1 res):=by
 refine M6.partial_correctness x1 _ ?_
 ·intro g0 ih0 out1 i1 res hh
  refine W0.unroll (S' (t' rfl (ci' rfl hh (fun hh=>?_) (fun hh=>?_))))
  ·obtain ⟨c16,hh⟩:=I1 hh
   refine sk' (S' (bk' (P' 2 rfl (E0.be hC rfl (C0.rows_map [(C0.mk 4 (D0.mk 0 0 [] []) (D0.mk 0 0 [] []) [] [] 0 0 0 [] [] [])]).symm ?_))))
   refine E0.ap hC rfl (rs:=C0.rows (out1++[(C0.mk 4 (D0.mk 0 0 [] []) (D0.mk 0 0 [] []) [] [] 0 0 0 [] [] [])])) (C0.app out1 [(C0.mk 4 (D0.mk 0 0 [] []) (D0.mk 0 0 [] []) [] [] 0 0 0 [] [] [])]) (C0.sz out1) (C0.sz [(C0.mk 4 (D0.mk 0 0 [] []) (D0.mk 0 0 [] []) [] [] 0 0 0 [] [] [])]) (E4 (C0.len out1) (C0.len [(C0.mk 4 (D0.mk 0 0 [] []) (D0.mk 0 0 [] []) [] [] 0 0 0 [] [] [])]) c16) ?_
   exact e' rfl (T' rfl (lw' (ih0 _ _ _ hh) rfl rfl rfl))
  refine ex' (t' rfl (re' ?_))
  obtain rfl:=oi' hh
  exact ⟨_,.d (.sl (C0.rows out1)),[],rfl,.osl,trivial,rfl,rfl,rfl,rfl⟩
theorem K14 {x1 out1 i1 res}(hh:M6 x1 out1 i1=some res):Ms x1 out1 i1 res:=(R12 x1) _ _ _ hh
end Go.Proofs.YtdkabnfphmmmnaaGreatDoor

set_option maxRecDepth 100000
set_option maxHeartbeats 4000000
set_option synthInstance.maxSize 20000
set_option linter.unusedVariables false
namespace Go.Proofs.YtdkabnfphmmmnaaGreatDoor
open Go.Am
def N6 (x1:Int)(x2:Int)(out:List C0)(i:Int):Option (List C0):=
 if (decide (i < x2))=true then
  if (decide ((out.length+1) * 257≤140737488355328))=true then
   N6 x1 x2 (out++[(C0.mk 3 (D0.mk 0 0 [] []) (D0.mk 0 0 [] []) [] [] 0 0 0 [] [] [])]) (IntKind.i64.wrap (i+1))
  else none
 else
  M6 x1 out x2
 partial_fixpoint
abbrev Ns (x1:Int)(x2:Int)(out:List C0)(i:Int)(res:List C0):Prop:=LM C 33 0 Tryz.f99 [1,1,1,1,0,1,4] [(0,.d (.int .i64 x1)),(1,.d (.int .i64 x2)),(5,.osl 0 (C0.rows out)),(6,.d (.int .i64 i))] [.tok 53 17] (Ret [] (.d (.sl (C0.rows res))))
theorem S12 (x1:Int)(x2:Int):(∀ out i res,N6 x1 x2 out i=some res→Ns x1 x2 out i res):=by
 refine N6.partial_correctness x1 x2 _ ?_
 ·intro g0 ih0 out i res hh
  refine W0.unroll (S' (t' rfl (ci' rfl hh (fun hh=>?_) (fun hh=>?_))))
  ·obtain ⟨c15,hh⟩:=I1 hh
   refine sk' (S' (bk' (P' 2 rfl (E0.be hC rfl (C0.rows_map [(C0.mk 3 (D0.mk 0 0 [] []) (D0.mk 0 0 [] []) [] [] 0 0 0 [] [] [])]).symm ?_))))
   refine E0.ap hC rfl (rs:=C0.rows (out++[(C0.mk 3 (D0.mk 0 0 [] []) (D0.mk 0 0 [] []) [] [] 0 0 0 [] [] [])])) (C0.app out [(C0.mk 3 (D0.mk 0 0 [] []) (D0.mk 0 0 [] []) [] [] 0 0 0 [] [] [])]) (C0.sz out) (C0.sz [(C0.mk 3 (D0.mk 0 0 [] []) (D0.mk 0 0 [] []) [] [] 0 0 0 [] [] [])]) (E4 (C0.len out) (C0.len [(C0.mk 3 (D0.mk 0 0 [] []) (D0.mk 0 0 [] []) [] [] 0 0 0 [] [] [])]) c15) ?_
   exact e' rfl (T' rfl (lw' (ih0 _ _ _ hh) rfl rfl rfl))
  exact ex' (S' (t' rfl (bk' (fw' (K14 hh) rfl rfl rfl))))
theorem L14 {x1 x2 out i res}(hh:N6 x1 x2 out i=some res):Ns x1 x2 out i res:=(S12 x1 x2) _ _ _ hh
def Vi (a:Int)(b:Int):Option (List C0):=
 B4 a 4097>>=fun x1=>
 B4 b 9>>=fun x2=>
 N6 x1 x2 [] 0
theorem V1b {a b res}(hh:Vi a b=some res):K0 C 99 [.d (.int .i64 a),.d (.int .i64 b)] [] (Ret [] (.d (.sl (C0.rows res)))):=by
 unfold Vi at hh
 obtain ⟨x1,hx1,hh⟩:=bs' hh
 obtain ⟨x2,hx2,hh⟩:=bs' hh
 refine K0.intro hC Tryz.func99 rfl rfl rfl (t' rfl (p' 1 rfl (c' (A5 hx1) rfl rfl (e' rfl (p' 1 rfl (c' (A5 hx2) rfl rfl (e' rfl (s' rfl rfl (E0.be hC rfl (C0.rows_map []).symm (E0.tokE 12 53 17 rfl (e' rfl (S' (t' rfl ?_)))))))))))))
 exact bk' (fw' (L14 hh) rfl rfl rfl)
def Q4 (p:I0)(a1:List B0)(i:Int):Option (Int×Int):=
 if (decide (i < (((p.Decls).length:Int).toNat:Int)))=true then
  if (decide (0≤i∧i < (((p.Decls).length:Int).toNat:Int)))=true then
   a1[i.toNat]?>>=fun x1=>
   if (x1.Kind == 6)=true then
    if (decide (0≤i∧i < (((p.Decls).length:Int).toNat:Int)))=true then
     a1[i.toNat]?>>=fun x2=>
     if (decide (a1.length=((p.Decls).length:Int).toNat))=true then
      B3 (I0.mk a1 []) x2.Body i>>=fun x3=>
      Vi x3.1 x3.2>>=fun x4=>
      if (decide (0≤i∧i < (((p.Decls).length:Int).toNat:Int)))=true then
       a1[i.toNat]?>>=fun x5=>
       Q4 p (a1.set i.toNat (B0.mk x5.Kind x5.Name x5.TypeV x5.Init x5.Value x5.Params x5.Vars x4)) (IntKind.i64.wrap (i+1))
      else none
     else none
    else none
   else
    Q4 p a1 (IntKind.i64.wrap (i+1))
  else none
 else
  if (decide (a1.length=((p.Decls).length:Int).toNat))=true then
   B3 (I0.mk a1 []) p.Body (((p.Decls).length:Int).toNat:Int)>>=fun x6=>
   some (x6.1,x6.2)
  else none
 partial_fixpoint
abbrev Xq (p:I0)(a1:List B0)(i:Int)(res:Int×Int):Prop:=LM C 56 0 Tryz.f46 [1,1,0,1,4] [(1,.ref 0 0),(4,.ref 2 0),(5,.d (.int .i64 i))] [.row (I0.cells p) 25,.row (B0.flat a1) 59,.row [.rsl 1 0 ((p.Decls).length:Int).toNat ((p.Decls).length:Int).toNat,.d (.sl (C0.rows []))] 25] (Ret [] (.tup [.d (.int .i64 res.1),.d (.int .i64 res.2)]))
theorem P10 (p:I0):(∀ a1 i res,Q4 p a1 i=some res→Xq p a1 i res):=by
 refine Q4.partial_correctness p _ ?_
 ·intro g0 ih0 a1 i res hh
  refine W0.unroll (S' (t' rfl (ci' rfl hh (fun hh=>?_) (fun hh=>?_))))
  ·obtain ⟨c37,hh⟩:=I1 hh
   obtain ⟨x1,hx1,hh⟩:=bs' hh
   refine sk' (S' (bk' (p' 3 rfl (qc' rfl c37 (q' rfl (E0.ld hC rfl (B0.flat_get hx1 rfl) (e' rfl (ci' rfl hh (fun hh=>?_) (fun hh=>?_)))))))))
   ·obtain ⟨c38,hh⟩:=I1 hh
    obtain ⟨x2,hx2,hh⟩:=bs' hh
    obtain ⟨c39,hh⟩:=I1 hh
    obtain ⟨x3,hx3,hh⟩:=bs' hh
    obtain ⟨x4,hx4,hh⟩:=bs' hh
    obtain ⟨c40,hh⟩:=I1 hh
    obtain ⟨x5,hx5,hh⟩:=bs' hh
    refine S' (AEx.draw hC 14 rfl rfl rfl (O' 4 rfl (AQ.q hC rfl c38 (Q' rfl (AQ.ld hC rfl (B0.flat_get hx2 rfl) (Q' rfl (AQ.cv 1 (rows:=B0.rows a1) rfl rfl rfl (B0.sz _) ((B0.len _).trans c39) (by exact ⟨(.aggL ⟨.rsl,.rfl,trivial⟩),.rfl,.rfl,trivial⟩) (Iu hx3) rfl rfl (E' rfl (n' (AEx.draw hC 8 rfl rfl rfl (O' 5 rfl (Qc' (V1b hx4) rfl rfl (AQ.q hC rfl c40 ?_)))))))))))))
    refine E' rfl (E0.sx hC rfl (B0.flat_lt hx5 (by decide)) (B0.flat_set (y:=(B0.mk x5.Kind x5.Name x5.TypeV x5.Init x5.Value x5.Params x5.Vars x4)) hx5 (by decide) rfl) rfl (n' (T' rfl ?_)))
    refine W0.wk ?_ (ih0 _ _ _ hh)
    exact ⟨⟨⟨.rfl,rfl⟩,⟨.rfl,rfl⟩,⟨.rfl,rfl⟩,trivial⟩,⟨⟨rfl,.refl _,rfl⟩,⟨rfl,.refl _,Y10 _ _ _⟩,⟨rfl,.refl _,rfl⟩,trivial⟩,rfl⟩
   refine sk' (T' rfl ?_)
   refine W0.wk ?_ (ih0 _ _ _ hh)
   exact ⟨⟨⟨.rfl,rfl⟩,⟨.rfl,rfl⟩,⟨.rfl,rfl⟩,trivial⟩,⟨⟨rfl,.refl _,rfl⟩,⟨rfl,.refl _,Y10 _ _ _⟩,⟨rfl,.refl _,rfl⟩,trivial⟩,rfl⟩
  obtain ⟨c41,hh⟩:=I1 hh
  obtain ⟨x6,hx6,hh⟩:=bs' hh
  cases hh
  exact ex' (p' 6 rfl (E0.cv 1 (rows:=B0.rows a1) rfl rfl rfl (B0.sz _) ((B0.len _).trans c41) (by exact ⟨(.aggL ⟨.rsl,.rfl,trivial⟩),.rfl,.rfl,trivial⟩) (Iu hx6) rfl rfl (e' rfl (re' (rt' rfl rfl rfl)))))
theorem T12 {p a1 i res}(hh:Q4 p a1 i=some res):Xq p a1 i res:=(P10 p) _ _ _ hh
def Ll (p:I0):Option (Int×Int):=
 if (decide (0 < p.Decls.length∧p.Decls.length * 257≤140737488355328))=true then
  Q4 p p.Decls 0
 else none
theorem H19 {p res}(hh:Ll p=some res):K0 C 46 [.agg (I0.cells p)] [] (Ret [] (.tup [.d (.int .i64 res.1),.d (.int .i64 res.2)])):=by
 unfold Ll at hh
 obtain ⟨c36,hh⟩:=I1 hh
 refine K0.intro hC Tryz.func46 rfl rfl rfl (s' rfl rfl (E0.n hC rfl (e' rfl (s' rfl rfl (E0.be hC rfl (B0.rows_map []).symm (o' 2 rfl (E0.an hC rfl (B0.ne c36.1) (B0.sz _) (by rw [B0.len]; exact c36.2) rfl (B0.len _) rfl (q' rfl (E0.nf hC rfl (E0.s hC rfl (n' (S' (t' rfl ?_)))))))))))))
 refine bk' ?_
 refine AEx.ofLoop ?_
 refine W0.wk ?_ (T12 hh)
 exact ⟨⟨⟨.rfl,rfl⟩,⟨.rfl,rfl⟩,⟨.rfl,rfl⟩,trivial⟩,⟨⟨rfl,.refl _,rfl⟩,⟨rfl,.refl _,Y10 _ _ _⟩,⟨rfl,.refl _,rfl⟩,trivial⟩,rfl⟩
def Ii (p:I0):Option (Int×Int):=
 if p.Decls.isEmpty=true then
  Kl p.Body>>=fun x1=>
  some x1
 else
  Ll p>>=fun x1=>
  some x1
theorem U1g {p res}(hh:Ii p=some res):K0 C 46 [.agg (I0.cells p)] [] (Ret [] (.tup [.d (.int .i64 res.1),.d (.int .i64 res.2)])):=by
 unfold Ii at hh
 split at hh
 ·rename_i he
  obtain ⟨x1,hx1,hh⟩:=bs' hh
  cases hh
  cases p
  rename_i ds _
  cases ds with
  | nil=>exact G19 hx1
  | cons _ _=>cases he
 ·obtain ⟨x1,hx1,hh⟩:=bs' hh
  cases hh
  exact H19 hx1
mutual
def C6 (p:I0)(scalars1:Int)(hatches1:Int)(secrets1:Int)(publics1:Int)(randoms:Int)(i:Int):Option Bool:=
 if (decide (i < ((p.Decls).length:Int)))=true then
  idx p.Decls i>>=fun x1=>
  T8 p i x1.TypeV>>=fun x2=>
  Jf x1>>=fun x3=>
  if (bif x3 then true else (x1.Kind == 4))=true then
   Hi x2.1>>=fun x4=>
   I5 p x1 x2 (IntKind.i64.wrap (scalars1+((x4.1).length:Int))) hatches1 secrets1 publics1 randoms i
  else
   I5 p x1 x2 scalars1 hatches1 secrets1 publics1 randoms i
 else
  Ii p>>=fun x11=>
  some (bif (bif (bif (bif (bif (bif (decide (scalars1≤64)) then (decide (hatches1≤8)) else false) then (decide (secrets1≤4096)) else false) then (decide (publics1≤4096)) else false) then (decide (randoms≤256)) else false) then (decide (x11.1≤4096)) else false) then (decide (x11.2≤8)) else false)
 partial_fixpoint
def I5 (p:I0)(x1:B0)(x2:A0×Int)(scalars:Int)(hatches2:Int)(secrets2:Int)(publics2:Int)(randoms1:Int)(i1:Int):Option Bool:=
 if (x1.Kind == 5)=true then
  Hc p x1 x2 scalars (IntKind.i64.wrap (hatches2+1)) secrets2 publics2 randoms1 i1
 else
  Hc p x1 x2 scalars hatches2 secrets2 publics2 randoms1 i1
 partial_fixpoint
def Hc (p:I0)(x1:B0)(x2:A0×Int)(scalars:Int)(hatches:Int)(secrets3:Int)(publics3:Int)(randoms2:Int)(i2:Int):Option Bool:=
 if (x1.Kind == 1)=true then
  Jh x2.1>>=fun x5=>
  B4 (IntKind.i64.wrap (secrets3 * x5)) 100000>>=fun x6=>
  Ic p x1 x2 scalars hatches x6 publics3 randoms2 i2
 else
  Ic p x1 x2 scalars hatches secrets3 publics3 randoms2 i2
 partial_fixpoint
def Ic (p:I0)(x1:B0)(x2:A0×Int)(scalars:Int)(hatches:Int)(secrets:Int)(publics4:Int)(randoms3:Int)(i3:Int):Option Bool:=
 if (x1.Kind == 2)=true then
  Jh x2.1>>=fun x7=>
  B4 (IntKind.i64.wrap (publics4 * x7)) 100000>>=fun x8=>
  Jc p x1 x2 scalars hatches secrets x8 randoms3 i3
 else
  Jc p x1 x2 scalars hatches secrets publics4 randoms3 i3
 partial_fixpoint
def Jc (p:I0)(x1:B0)(x2:A0×Int)(scalars:Int)(hatches:Int)(secrets:Int)(publics:Int)(randoms4:Int)(i4:Int):Option Bool:=
 if (x1.Kind == 3)=true then
  Jh x2.1>>=fun x9=>
  B4 (IntKind.i64.wrap (randoms4 * x9)) 100000>>=fun x10=>
  C6 p scalars hatches secrets publics x10 (IntKind.i64.wrap (i4+1))
 else
  C6 p scalars hatches secrets publics randoms4 (IntKind.i64.wrap (i4+1))
 partial_fixpoint
end
abbrev Nx (p:I0)(scalars1:Int)(hatches1:Int)(secrets1:Int)(publics1:Int)(randoms:Int)(i:Int)(res:Bool):Prop:=LM C 112 0 Tryz.f39 [1,1,1,1,1,1,0,1,4] [(1,.ref 0 0),(3,.d (.int .i64 scalars1)),(4,.d (.int .i64 hatches1)),(5,.d (.int .i64 secrets1)),(6,.d (.int .i64 publics1)),(7,.d (.int .i64 randoms)),(8,.d (.int .i64 i))] [.row (I0.cells p) 25] (Ret [] (.d (.bool res)))
abbrev G1e (p:I0)(x1:B0)(x2:A0×Int)(scalars:Int)(hatches2:Int)(secrets2:Int)(publics2:Int)(randoms1:Int)(i1:Int)(res:Bool):Prop:=JM C 112 0 Tryz.f39 [1,1,1,1,1,1,0,1,4,5,1,0,4,1,1,1] [(1,.ref 0 0),(3,.d (.int .i64 scalars)),(4,.d (.int .i64 hatches2)),(5,.d (.int .i64 secrets2)),(6,.d (.int .i64 publics2)),(7,.d (.int .i64 randoms1)),(8,.d (.int .i64 i1)),(9,.ref 1 0),(10,.ref 2 0)] [.row (I0.cells p) 25,.row (B0.cells x1) 59,.row (A0.cells x2.1) 40] (Ret [] (.d (.bool res)))
abbrev H1e (p:I0)(x1:B0)(x2:A0×Int)(scalars:Int)(hatches:Int)(secrets3:Int)(publics3:Int)(randoms2:Int)(i2:Int)(res:Bool):Prop:=JM C 112 0 Tryz.f39 [1,1,1,1,1,1,0,1,4,5,1,0,4,1,1,1,1] [(1,.ref 0 0),(3,.d (.int .i64 scalars)),(4,.d (.int .i64 hatches)),(5,.d (.int .i64 secrets3)),(6,.d (.int .i64 publics3)),(7,.d (.int .i64 randoms2)),(8,.d (.int .i64 i2)),(9,.ref 1 0),(10,.ref 2 0)] [.row (I0.cells p) 25,.row (B0.cells x1) 59,.row (A0.cells x2.1) 40] (Ret [] (.d (.bool res)))
abbrev I1e (p:I0)(x1:B0)(x2:A0×Int)(scalars:Int)(hatches:Int)(secrets:Int)(publics4:Int)(randoms3:Int)(i3:Int)(res:Bool):Prop:=JM C 112 0 Tryz.f39 [1,1,1,1,1,1,0,1,4,5,1,0,4,1,1,1,1,1] [(1,.ref 0 0),(3,.d (.int .i64 scalars)),(4,.d (.int .i64 hatches)),(5,.d (.int .i64 secrets)),(6,.d (.int .i64 publics4)),(7,.d (.int .i64 randoms3)),(8,.d (.int .i64 i3)),(9,.ref 1 0),(10,.ref 2 0)] [.row (I0.cells p) 25,.row (B0.cells x1) 59,.row (A0.cells x2.1) 40] (Ret [] (.d (.bool res)))
abbrev J1e (p:I0)(x1:B0)(x2:A0×Int)(scalars:Int)(hatches:Int)(secrets:Int)(publics:Int)(randoms4:Int)(i4:Int)(res:Bool):Prop:=JM C 112 0 Tryz.f39 [1,1,1,1,1,1,0,1,4,5,1,0,4,1,1,1,1,1,1] [(1,.ref 0 0),(3,.d (.int .i64 scalars)),(4,.d (.int .i64 hatches)),(5,.d (.int .i64 secrets)),(6,.d (.int .i64 publics)),(7,.d (.int .i64 randoms4)),(8,.d (.int .i64 i4)),(9,.ref 1 0),(10,.ref 2 0)] [.row (I0.cells p) 25,.row (B0.cells x1) 59,.row (A0.cells x2.1) 40] (Ret [] (.d (.bool res)))
theorem I19 (p:I0):(∀ scalars1 hatches1 secrets1 publics1 randoms i res,C6 p scalars1 hatches1 secrets1 publics1 randoms i=some res→Nx p scalars1 hatches1 secrets1 publics1 randoms i res)∧(∀ x1 x2 scalars hatches2 secrets2 publics2 randoms1 i1 res,I5 p x1 x2 scalars hatches2 secrets2 publics2 randoms1 i1=some res→G1e p x1 x2 scalars hatches2 secrets2 publics2 randoms1 i1 res)∧(∀ x1 x2 scalars hatches secrets3 publics3 randoms2 i2 res,Hc p x1 x2 scalars hatches secrets3 publics3 randoms2 i2=some res→H1e p x1 x2 scalars hatches secrets3 publics3 randoms2 i2 res)∧(∀ x1 x2 scalars hatches secrets publics4 randoms3 i3 res,Ic p x1 x2 scalars hatches secrets publics4 randoms3 i3=some res→I1e p x1 x2 scalars hatches secrets publics4 randoms3 i3 res)∧(∀ x1 x2 scalars hatches secrets publics randoms4 i4 res,Jc p x1 x2 scalars hatches secrets publics randoms4 i4=some res→J1e p x1 x2 scalars hatches secrets publics randoms4 i4 res):=by
 refine C6.mutual_partial_correctness p _ _ _ _ _ ?_ ?_ ?_ ?_ ?_
 ·intro g1 ih1 scalars1 hatches1 secrets1 publics1 randoms i res hh
  refine W0.unroll (S' (p' 3 rfl (qe' rfl trivial (B0.lenA _) (e' rfl (ci' rfl hh (fun hh=>?_) (fun hh=>?_))))))
  ·obtain ⟨x1,hx1,hh⟩:=bs' hh
   obtain ⟨x2,hx2,hh⟩:=bs' hh
   obtain ⟨x3,hx3,hh⟩:=bs' hh
   refine sk' (S' (bk' (p' 3 rfl (i' rfl (U0 hx1) (B0.idx hx1) rfl (q' rfl (E0.nf hC rfl (E0.s hC rfl (n' (p' 4 rfl (c' (Ec hx2) rfl rfl (o' 3 rfl (E0.nf hC rfl (E0.s hC rfl ?_)))))))))))))
   refine e' rfl (S' (sg' 7 rfl (a0' rfl (AG.c rfl rfl (fun _=>trivial) (fun _=>Oq hx3) (G' 2 rfl (a1' rfl (a1' rfl (po' rfl (an' (n' (ci' rfl hh (fun hh=>?_) (fun hh=>?_))))))))))))
   ·obtain ⟨x4,hx4,hh⟩:=bs' hh
    exact p' 1 rfl (c' (Tz hx4) rfl rfl (e' rfl (P' 2 rfl (qe' rfl trivial (R0.lenA _) (e' rfl (ew' (ih1 _ _ _ _ _ _ _ _ _ hh) rfl rfl rfl))))))
   exact sk' (ew' (ih1 _ _ _ _ _ _ _ _ _ hh) rfl rfl rfl)
  obtain ⟨x11,hx11,hh⟩:=bs' hh
  cases hh
  refine ex' (p' 1 rfl (c' (U1g hx11) rfl rfl (e' rfl (sg' 27 rfl (G' 4 rfl (a1' rfl (pa' rfl (G' 2 rfl (a1' rfl (pa' rfl (G' 2 rfl (a1' rfl (pa' rfl ?_)))))))))))))
  exact G' 2 rfl (a1' rfl (pa' rfl (G' 2 rfl (a1' rfl (pa' rfl (G' 2 rfl (a1' rfl (pa' rfl (a0' rfl (an' (n' (re' (rt' rfl rfl rfl)))))))))))))
 ·intro g2 ih2 x1 x2 scalars hatches2 secrets2 publics2 randoms1 i1 res hh
  refine S' (t' rfl (ci' rfl hh (fun hh=>?_) (fun hh=>?_)))
  ·exact T' rfl (ew' (ih2 _ _ _ _ _ _ _ _ _ hh) rfl rfl rfl)
  exact sk' (ew' (ih2 _ _ _ _ _ _ _ _ _ hh) rfl rfl rfl)
 ·intro g3 ih3 x1 x2 scalars hatches secrets3 publics3 randoms2 i2 res hh
  refine S' (t' rfl (ci' rfl hh (fun hh=>?_) (fun hh=>?_)))
  ·obtain ⟨x5,hx5,hh⟩:=bs' hh
   obtain ⟨x6,hx6,hh⟩:=bs' hh
   exact P' 2 rfl (c' (Ls hx5) rfl rfl (q' rfl (c' (A5 hx6) rfl rfl (e' rfl (ew' (ih3 _ _ _ _ _ _ _ _ _ hh) rfl rfl rfl)))))
  exact sk' (ew' (ih3 _ _ _ _ _ _ _ _ _ hh) rfl rfl rfl)
 ·intro g4 ih4 x1 x2 scalars hatches secrets publics4 randoms3 i3 res hh
  refine S' (t' rfl (ci' rfl hh (fun hh=>?_) (fun hh=>?_)))
  ·obtain ⟨x7,hx7,hh⟩:=bs' hh
   obtain ⟨x8,hx8,hh⟩:=bs' hh
   exact P' 2 rfl (c' (Ls hx7) rfl rfl (q' rfl (c' (A5 hx8) rfl rfl (e' rfl (ew' (ih4 _ _ _ _ _ _ _ _ _ hh) rfl rfl rfl)))))
  exact sk' (ew' (ih4 _ _ _ _ _ _ _ _ _ hh) rfl rfl rfl)
 ·intro g0 ih0 x1 x2 scalars hatches secrets publics randoms4 i4 res hh
  refine t' rfl (ci' rfl hh (fun hh=>?_) (fun hh=>?_))
  ·obtain ⟨x9,hx9,hh⟩:=bs' hh
   obtain ⟨x10,hx10,hh⟩:=bs' hh
   exact P' 2 rfl (c' (Ls hx9) rfl rfl (q' rfl (c' (A5 hx10) rfl rfl (e' rfl (T' rfl (lw' (ih0 _ _ _ _ _ _ _ hh) rfl rfl rfl))))))
  exact sk' (T' rfl (lw' (ih0 _ _ _ _ _ _ _ hh) rfl rfl rfl))
theorem W1b {p scalars1 hatches1 secrets1 publics1 randoms i res}(hh:C6 p scalars1 hatches1 secrets1 publics1 randoms i=some res):Nx p scalars1 hatches1 secrets1 publics1 randoms i res:=(I19 p).1 _ _ _ _ _ _ _ hh
def Un (p:I0):Option Bool:=
 C6 p 0 0 1 1 1 0
theorem O1j {p res}(hh:Un p=some res):K0 C 39 [.agg (I0.cells p)] [] (Ret [] (.d (.bool res))):=by
 unfold Un at hh
 exact K0.intro hC Tryz.func39 rfl rfl rfl (s' rfl rfl (E0.n hC rfl (e' rfl (t' rfl (t' rfl (t' rfl (t' rfl (t' rfl (S' (t' rfl (bk' (fw' (W1b hh) rfl rfl rfl))))))))))))
def Mb (p:I0)(i:Int):Option (Int×Int):=
 if (decide (i < ((p.Decls).length:Int)))=true then
  Ks p i>>=fun x3=>
  if (x3 != 0)=true then
   some (i,x3)
  else
   Mb p (IntKind.i64.wrap (i+1))
 else
  So p>>=fun x4=>
  M5 x4 p.Body true>>=fun x5=>
  if (x5 != 0)=true then
   some ((-1),x5)
  else
   Un p>>=fun x6=>
   if (!x6)=true then
    some ((-1),4)
   else
    some ((-1),0)
 partial_fixpoint
abbrev Uz (p:I0)(i:Int)(res:Int×Int):Prop:=LM C 42 0 Tryz.f14 [1,1,1,1,1,0,1,4] [(1,.ref 0 0),(6,.d (.int .i64 i))] [.row (I0.cells p) 25] (Ret [] (.tup [.d (.int .i64 res.1),.d (.int .i64 res.2)]))
theorem X1b (p:I0):(∀ i res,Mb p i=some res→Uz p i res):=by
 refine Mb.partial_correctness p _ ?_
 ·intro g0 ih0 i res hh
  refine W0.unroll (S' (p' 3 rfl (qe' rfl trivial (B0.lenA _) (e' rfl (ci' rfl hh (fun hh=>?_) (fun hh=>?_))))))
  ·obtain ⟨x3,hx3,hh⟩:=bs' hh
   refine sk' (S' (bk' (p' 2 rfl (c' (H1o hx3) rfl rfl (e' rfl (t' rfl (ci' rfl hh (fun hh=>?_) (fun hh=>?_))))))))
   ·cases hh
    exact t' rfl (re' (rt' rfl rfl rfl))
   exact sk' (T' rfl (lw' (ih0 _ _ hh) rfl rfl rfl))
  obtain ⟨x4,hx4,hh⟩:=bs' hh
  obtain ⟨x5,hx5,hh⟩:=bs' hh
  refine ex' (S' (AEx.draw hC 6 rfl rfl rfl (Q' rfl (Qc' (N17 hx4) rfl rfl (O' 2 rfl (Qc' (I14 hx5) rfl rfl (E' rfl (n' (S' (t' rfl (ci' rfl hh (fun hh=>?_) (fun hh=>?_))))))))))))
  ·cases hh
   exact t' rfl (re' (rt' rfl rfl rfl))
  obtain ⟨x6,hx6,hh⟩:=bs' hh
  refine sk' (S' (p' 1 rfl (c' (O1j hx6) rfl rfl (e' rfl (ci' rfl hh (fun hh=>?_) (fun hh=>?_))))))
  ·cases hh
   exact t' rfl (re' (rt' rfl rfl rfl))
  cases hh
  exact sk' (t' rfl (re' (rt' rfl rfl rfl)))
theorem K1e {p i res}(hh:Mb p i=some res):Uz p i res:=(X1b p) _ _ hh
def Up (p:I0):Option (Int×Int):=
 Sp p>>=fun x1=>
 if (x1 != 0)=true then
  some ((-1),x1)
 else
  Ri p>>=fun x2=>
  if (decide (x2≥0))=true then
   some (x2,8)
  else
   Mb p 0
theorem T1l {p res}(hh:Up p=some res):K0 C 14 [.agg (I0.cells p)] [] (Ret [] (.tup [.d (.int .i64 res.1),.d (.int .i64 res.2)])):=by
 unfold Up at hh
 obtain ⟨x1,hx1,hh⟩:=bs' hh
 refine K0.intro hC Tryz.func14 rfl rfl rfl (s' rfl rfl (E0.n hC rfl (e' rfl (p' 1 rfl (c' (M1l hx1) rfl rfl (e' rfl (S' (t' rfl (ci' rfl hh (fun hh=>?_) (fun hh=>?_))))))))))
 ·cases hh
  exact t' rfl (re' (rt' rfl rfl rfl))
 obtain ⟨x2,hx2,hh⟩:=bs' hh
 refine sk' (p' 1 rfl (c' (B1b hx2) rfl rfl (e' rfl (S' (t' rfl (ci' rfl hh (fun hh=>?_) (fun hh=>?_)))))))
 ·cases hh
  exact t' rfl (re' (rt' rfl rfl rfl))
 exact sk' (S' (t' rfl (bk' (fw' (K1e hh) rfl rfl rfl))))
def Dm (e:D0)(most:Int):Option Bool:=
 Z4 e most>>=fun x1=>
 some (decide (x1≥0))
theorem V1g {e most res}(hh:Dm e most=some res):K0 C 15 [.agg (D0.cells e),.d (.int .i64 most)] [] (Ret [] (.d (.bool res))):=by
 unfold Dm at hh
 obtain ⟨x1,hx1,hh⟩:=bs' hh
 cases hh
 exact K0.intro hC Tryz.func15 rfl rfl rfl (s' rfl rfl (E0.n hC rfl (e' rfl (p' 2 rfl (c' (Pf hx1) rfl rfl (e' rfl (re' (rt' rfl rfl rfl))))))))
def Wi (e:D0):Option Int:=
 V5 (V0.mk 0 0) e true>>=fun x1=>
 K4 e>>=fun x2=>
 X3 e>>=fun x3=>
 F3 e>>=fun x4=>
 Gf x1 x2 x3 x4>>=fun x5=>
 some x5
theorem Y1b {e res}(hh:Wi e=some res):K0 C 43 [.agg (D0.cells e)] [] (Ret [] (.d (.int .i64 res))):=by
 unfold Wi at hh
 obtain ⟨x1,hx1,hh⟩:=bs' hh
 obtain ⟨x2,hx2,hh⟩:=bs' hh
 obtain ⟨x3,hx3,hh⟩:=bs' hh
 obtain ⟨x4,hx4,hh⟩:=bs' hh
 obtain ⟨x5,hx5,hh⟩:=bs' hh
 cases hh
 refine K0.intro hC Tryz.func43 rfl rfl rfl (s' rfl rfl (E0.n hC rfl (e' rfl (S' (AEx.draw hC 11 rfl rfl rfl (O' 2 rfl (Qc' (Eh hx1) rfl rfl (Q' rfl (Qc' (Rf hx2) rfl rfl (Q' rfl (Qc' (Pe hx3) rfl rfl (Q' rfl (Qc' (Dc hx4) rfl rfl ?_)))))))))))))
 exact Qc' (Nq hx5) rfl rfl (E' rfl (n' (re' (rt' rfl rfl rfl))))
def Vn (p:I0)(e:D0):Option (A0×Int):=
 Up p>>=fun x1=>
 if (x1.2 != 0)=true then
  some ((A0.mk 0 0 0 0 [] [] []),x1.2)
 else
  Wi e>>=fun x2=>
  if (x2 != 0)=true then
   some ((A0.mk 0 0 0 0 [] [] []),x2)
  else
   So p>>=fun x3=>
   V7 x3 e>>=fun x4=>
   some (x4.1,x4.2)
theorem P1j {p e res}(hh:Vn p e=some res):K0 C 17 [.agg (I0.cells p),.agg (D0.cells e)] [] (Ret [] (.tup [.agg (A0.cells res.1),.d (.int .i64 res.2)])):=by
 unfold Vn at hh
 obtain ⟨x1,hx1,hh⟩:=bs' hh
 refine K0.intro hC Tryz.func17 rfl rfl rfl (s' rfl rfl (E0.n hC rfl (E0.n hC rfl (E0.nf hC rfl (e' rfl (p' 1 rfl (c' (T1l hx1) rfl rfl (e' rfl (S' (t' rfl (ci' rfl hh (fun hh=>?_) (fun hh=>?_))))))))))))
 ·cases hh
  exact p' 2 rfl (E0.s hC rfl (e' rfl (re' (rt' rfl rfl rfl))))
 obtain ⟨x2,hx2,hh⟩:=bs' hh
 refine sk' (p' 1 rfl (c' (Y1b hx2) rfl rfl (e' rfl (S' (t' rfl (ci' rfl hh (fun hh=>?_) (fun hh=>?_)))))))
 ·cases hh
  exact p' 2 rfl (E0.s hC rfl (e' rfl (re' (rt' rfl rfl rfl))))
 obtain ⟨x3,hx3,hh⟩:=bs' hh
 obtain ⟨x4,hx4,hh⟩:=bs' hh
 cases hh
 exact sk' (S' (AEx.draw hC 6 rfl rfl rfl (Q' rfl (Qc' (N17 hx3) rfl rfl (Q' rfl (Qc' (Bm hx4) rfl rfl (E' rfl (E0.s hC rfl (e' rfl (re' (rt' rfl rfl rfl)))))))))))
def Vp (p:I0)(e:D0):Option (Int×Int×Int):=
 Vn p e>>=fun x1=>
 if (x1.2 != 0)=true then
  some (0,0,x1.2)
 else
  if (x1.1.Kind != 1)=true then
   some (0,0,9)
  else
   some (x1.1.Low,x1.1.High,0)
theorem U1l {p e res}(hh:Vp p e=some res):K0 C 20 [.agg (I0.cells p),.agg (D0.cells e)] [] (Ret [] (.tup [.d (.int .i64 res.1),.d (.int .i64 res.2.1),.d (.int .i64 res.2.2)])):=by
 unfold Vp at hh
 obtain ⟨x1,hx1,hh⟩:=bs' hh
 refine K0.intro hC Tryz.func20 rfl rfl rfl (s' rfl rfl (E0.n hC rfl (E0.n hC rfl (e' rfl (p' 2 rfl (c' (P1j hx1) rfl rfl (o' 3 rfl (E0.nf hC rfl (E0.s hC rfl (e' rfl (S' (t' rfl (ci' rfl hh (fun hh=>?_) (fun hh=>?_))))))))))))))
 ·cases hh
  exact t' rfl (re' (rt' rfl rfl rfl))
 refine sk' (S' (t' rfl (ci' rfl hh (fun hh=>?_) (fun hh=>?_))))
 ·cases hh
  exact t' rfl (re' (rt' rfl rfl rfl))
 cases hh
 exact sk' (S' (AEx.draw hC 7 rfl rfl rfl (E' rfl (n' (re' (rt' rfl rfl rfl))))))
def Df (p:I0)(e:D0):Option Bool:=
 Im>>=fun x1=>
 if (!x1)=true then
  some false
 else
  C11 p>>=fun x2=>
  (if (!(!x2))=true then Dm e 100 else some default)>>=fun x3=>
  if (bif (!x2) then true else (!x3))=true then
   some true
  else
   Cc p e>>=fun x4=>
   Vp p e>>=fun x5=>
   some (bif (bif (x4.1 == x5.1) then (x4.2.1 == x5.2.1) else false) then (x4.2.2 == x5.2.2) else false)
theorem Vz {p e res}(hh:Df p e=some res):K0 C 5 [.agg (I0.cells p),.agg (D0.cells e)] [] (Ret [] (.d (.bool res))):=by
 unfold Df at hh
 obtain ⟨x1,hx1,hh⟩:=bs' hh
 refine K0.intro hC Tryz.func5 rfl rfl rfl (s' rfl rfl (E0.n hC rfl (E0.n hC rfl (e' rfl (S' (s' rfl rfl (c' (I1l hx1) rfl rfl (e' rfl (ci' rfl hh (fun hh=>?_) (fun hh=>?_))))))))))
 ·cases hh
  exact t' rfl (re' (rt' rfl rfl rfl))
 obtain ⟨x2,hx2,hh⟩:=bs' hh
 obtain ⟨x3,hx3,hh⟩:=bs' hh
 refine sk' (S' (sg' 8 rfl (a0' rfl (AG.c rfl rfl (fun _=>trivial) (fun _=>B1q hx2) (G' 3 rfl (AG.c rfl rfl (fun hg=>⟨hg,trivial⟩) (fun hw=>V1g (G1 hw hx3)) (a1' rfl (po' rfl (an' (n' (ci' rfl hh (fun hh=>?_) (fun hh=>?_))))))))))))
 ·cases hh
  exact t' rfl (re' (rt' rfl rfl rfl))
 obtain ⟨x4,hx4,hh⟩:=bs' hh
 obtain ⟨x5,hx5,hh⟩:=bs' hh
 cases hh
 refine sk' (p' 2 rfl (c' (Nv hx4) rfl rfl (e' rfl (p' 2 rfl (c' (U1l hx5) rfl rfl (e' rfl (sg' 14 rfl (G' 6 rfl (a2' rfl (pa' rfl (G' 3 rfl (a2' rfl (pa' rfl ?_)))))))))))))
 exact a0' rfl (an' (n' (re' (rt' rfl rfl rfl))))
end Go.Proofs.YtdkabnfphmmmnaaGreatDoor



