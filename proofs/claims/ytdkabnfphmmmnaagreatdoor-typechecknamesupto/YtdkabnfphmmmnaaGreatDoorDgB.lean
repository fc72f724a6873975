/- A part of the proof of TypecheckNames. -/
import Derived.Test.YtdkabnfphmmmnaaGreatDoorDgA
set_option maxRecDepth 100000
set_option maxHeartbeats 4000000
set_option synthInstance.maxSize 20000
set_option linter.unusedVariables false
namespace Go.Proofs.YtdkabnfphmmmnaaGreatDoor
open Go.Am
def Ed (p:O0)(e:B0):Option (Int×Int×Int):=
 Ve p e>>=fun x1=>
 if (x1.2 != 0)=true then
  some (0,0,x1.2)
 else
  if (x1.1.Kind != 1)=true then
   some (0,0,9)
  else
   some (x1.1.Low,x1.1.High,0)
theorem O14 {p e res}(hh:Ed p e=some res):L0 C 19 [.agg (O0.cells p),.agg (B0.cells e)] [] (Ret [] (.tup [.d (.int .i64 res.1),.d (.int .i64 res.2.1),.d (.int .i64 res.2.2)])):=by
 unfold Ed at hh
 obtain ⟨x1,hx1,hh⟩:=bs' hh
 refine L0.intro hC Tryz.func19 rfl rfl rfl (s' rfl rfl (E0.n hC rfl (E0.n hC rfl (e' rfl (p' 2 rfl (c' (H12 hx1) rfl rfl (o' 3 rfl (E0.nf hC rfl (E0.s hC rfl (e' rfl (S' (t' rfl (ci' rfl hh (fun hh=>?_) (fun hh=>?_))))))))))))))
 ·cases hh
  exact t' rfl (re' (rt' rfl rfl rfl))
 refine sk' (S' (t' rfl (ci' rfl hh (fun hh=>?_) (fun hh=>?_))))
 ·cases hh
  exact t' rfl (re' (rt' rfl rfl rfl))
 cases hh
 exact sk' (S' (AEx.draw hC 7 rfl rfl rfl (E' rfl (n' (re' (rt' rfl rfl rfl))))))
def Tf (p:O0):Option (Int×Int):=
 A4 p>>=fun x1=>
 if (x1.2 != 0)=true then
  some (0,x1.2)
 else
  Nd p>>=fun x2=>
  some (x2.steps,0)
theorem P14 {p res}(hh:Tf p=some res):L0 C 21 [.agg (O0.cells p)] [] (Ret [] (.tup [.d (.int .i64 res.1),.d (.int .i64 res.2)])):=by
 unfold Tf at hh
 obtain ⟨x1,hx1,hh⟩:=bs' hh
 refine L0.intro hC Tryz.func21 rfl rfl rfl (s' rfl rfl (E0.n hC rfl (e' rfl (S' (p' 1 rfl (c' (U9 hx1) rfl rfl (e' rfl (t' rfl (ci' rfl hh (fun hh=>?_) (fun hh=>?_))))))))))
 ·cases hh
  exact t' rfl (re' (rt' rfl rfl rfl))
 obtain ⟨x2,hx2,hh⟩:=bs' hh
 cases hh
 exact sk' (p' 1 rfl (c' (On hx2) rfl rfl (e' rfl (re' (rt' rfl rfl rfl)))))
def Vi:Option Bool:=
 Bi [120]>>=fun x1=>
 Bi [112,105,110]>>=fun x2=>
 Oj 2>>=fun x3=>
 Qk 10 [x2,x3]>>=fun x4=>
 Oj 1>>=fun x5=>
 Qk 8 [x4,x5]>>=fun x6=>
 Bi [120]>>=fun x7=>
 Oj 3>>=fun x8=>
 Qk 13 [x7,x8]>>=fun x9=>
 A4 (O0.mk [(D0.mk 1 [112,105,110] (A0.mk 1 0 9 0 [] [] []) 0 (B0.mk 0 0 [] []) [] [] []),(D0.mk 4 [120] (A0.mk 1 0 3 0 [] [] []) 0 (B0.mk 0 0 [] []) [] [] [])] [(C0.mk 0 x1 x6 [] [] 0 0 0 [] [] []),(C0.mk 3 (B0.mk 0 0 [] []) x9 [] [] 0 0 0 [] [] [])])>>=fun x10=>
 idx [(C0.mk 0 x1 x6 [] [] 0 0 0 [] [] []),(C0.mk 3 (B0.mk 0 0 [] []) x9 [] [] 0 0 0 [] [] [])] 0>>=fun x11=>
 Ed (O0.mk [(D0.mk 1 [112,105,110] (A0.mk 1 0 9 0 [] [] []) 0 (B0.mk 0 0 [] []) [] [] []),(D0.mk 4 [120] (A0.mk 1 0 3 0 [] [] []) 0 (B0.mk 0 0 [] []) [] [] [])] [(C0.mk 0 x1 x6 [] [] 0 0 0 [] [] []),(C0.mk 3 (B0.mk 0 0 [] []) x9 [] [] 0 0 0 [] [] [])]) x11.Value>>=fun x12=>
 Tf (O0.mk [(D0.mk 1 [112,105,110] (A0.mk 1 0 9 0 [] [] []) 0 (B0.mk 0 0 [] []) [] [] []),(D0.mk 4 [120] (A0.mk 1 0 3 0 [] [] []) 0 (B0.mk 0 0 [] []) [] [] [])] [(C0.mk 0 x1 x6 [] [] 0 0 0 [] [] []),(C0.mk 3 (B0.mk 0 0 [] []) x9 [] [] 0 0 0 [] [] [])])>>=fun x13=>
 Bi [112,105,110]>>=fun x14=>
 Oj 1>>=fun x15=>
 A4 (O0.mk [(D0.mk 1 [112,105,110] (A0.mk 1 0 9 0 [] [] []) 0 (B0.mk 0 0 [] []) [] [] []),(D0.mk 4 [120] (A0.mk 1 0 3 0 [] [] []) 0 (B0.mk 0 0 [] []) [] [] [])] [(C0.mk 0 x14 x15 [] [] 0 0 0 [] [] [])])>>=fun x16=>
 some (bif (bif (bif (bif (bif (bif (bif (bif (x10.1 == (-1)) then (x10.2 == 0) else false) then (x12.1 == 1) else false) then (x12.2.1 == 19) else false) then (x12.2.2 == 0) else false) then (x13.1 == 2) else false) then (x13.2 == 0) else false) then (x16.1 == (-1)) else false) then (x16.2 == 15) else false)
theorem E1c {res}(hh:Vi=some res):L0 C 11 [] [] (Ret [] (.d (.bool res))):=by
 unfold Vi at hh
 obtain ⟨x1,hx1,hh⟩:=bs' hh
 obtain ⟨x2,hx2,hh⟩:=bs' hh
 obtain ⟨x3,hx3,hh⟩:=bs' hh
 obtain ⟨x4,hx4,hh⟩:=bs' hh
 obtain ⟨x5,hx5,hh⟩:=bs' hh
 obtain ⟨x6,hx6,hh⟩:=bs' hh
 obtain ⟨x7,hx7,hh⟩:=bs' hh
 obtain ⟨x8,hx8,hh⟩:=bs' hh
 obtain ⟨x9,hx9,hh⟩:=bs' hh
 obtain ⟨x10,hx10,hh⟩:=bs' hh
 obtain ⟨x11,hx11,hh⟩:=bs' hh
 obtain ⟨x12,hx12,hh⟩:=bs' hh
 obtain ⟨x13,hx13,hh⟩:=bs' hh
 obtain ⟨x14,hx14,hh⟩:=bs' hh
 obtain ⟨x15,hx15,hh⟩:=bs' hh
 obtain ⟨x16,hx16,hh⟩:=bs' hh
 cases hh
 refine L0.intro hC Tryz.func11 rfl rfl rfl (t' rfl (p' 4 rfl (E0.be hC rfl (D0.rows_map [(D0.mk 1 [112,105,110] (A0.mk 1 0 9 0 [] [] []) 0 (B0.mk 0 0 [] []) [] [] []),(D0.mk 4 [120] (A0.mk 1 0 3 0 [] [] []) 0 (B0.mk 0 0 [] []) [] [] [])]).symm (c' (Xl hx1) rfl rfl (c' (Xl hx2) rfl rfl (c' (Fn hx3) rfl rfl ?_))))))
 refine E0.be hC rfl (B0.rows_map [x2,x3]).symm (E0.cl rfl (Jr hx4) ⟨.rfl,.full,trivial⟩ rfl (c' (Fn hx5) rfl rfl (E0.be hC rfl (B0.rows_map [x4,x5]).symm (E0.cl rfl (Jr hx6) ⟨.rfl,.full,trivial⟩ rfl (q' rfl (c' (Xl hx7) rfl rfl (c' (Fn hx8) rfl rfl (E0.be hC rfl (B0.rows_map [x7,x8]).symm ?_))))))))
 refine E0.cl rfl (Jr hx9) ⟨.rfl,.full,trivial⟩ rfl (q' rfl (E0.be hC rfl (C0.rows_map [(C0.mk 0 x1 x6 [] [] 0 0 0 [] [] []),(C0.mk 3 (B0.mk 0 0 [] []) x9 [] [] 0 0 0 [] [] [])]).symm (q' rfl (E0.nf hC rfl (E0.s hC rfl (n' (p' 1 rfl (E0.cl rfl (U9 hx10) ⟨(.aggL ⟨.full,.full,trivial⟩),trivial⟩ rfl (e' rfl (S' (AEx.draw hC 14 rfl rfl rfl (O' 3 rfl ?_))))))))))))
 refine AQ.i hC rfl (T0 hx11) (C0.idx hx11) rfl (O' 2 rfl (AQ.cl rfl (O14 hx12) ⟨(.aggL ⟨.full,.full,trivial⟩),.rfl,trivial⟩ rfl (E' rfl (n' (p' 1 rfl (E0.cl rfl (P14 hx13) ⟨(.aggL ⟨.full,.full,trivial⟩),trivial⟩ rfl (e' rfl (S' ?_))))))))
 refine AEx.drawL hC 8 [] [(7,1)] [[.row [.full (D0.rows [(D0.mk 1 [112,105,110] (A0.mk 1 0 9 0 [] [] []) 0 (B0.mk 0 0 [] []) [] [] []),(D0.mk 4 [120] (A0.mk 1 0 3 0 [] [] []) 0 (B0.mk 0 0 [] []) [] [] [])]),.full (C0.rows [(C0.mk 0 x1 x6 [] [] 0 0 0 [] [] []),(C0.mk 3 (B0.mk 0 0 [] []) x9 [] [] 0 0 0 [] [] [])])] 25,.row [.full (D0.rows []),.full (C0.rows [])] 25]] rfl rfl rfl rfl rfl rfl rfl rfl rfl rfl ?_
 refine AS.q hC rfl rfl rfl rfl (AS.q hC rfl rfl rfl rfl (AS.c (Xl hx14) rfl rfl rfl rfl (AS.c (Fn hx15) rfl rfl rfl rfl (AS.q hC rfl rfl rfl rfl (AS.a rfl (fun H=>AQ.be hC rfl (C0.rows_map [(C0.mk 0 x14 x15 [] [] 0 0 0 [] [] [])]).symm (AQ.nil rfl)) rfl rfl (AS.q hC rfl rfl rfl rfl (AS.n hC rfl rfl rfl rfl (AS.nil (E0.s hC rfl (n' (p' 1 rfl ?_)))))))))))
 refine E0.cl rfl (U9 hx16) ⟨(.aggL ⟨.full,.full,trivial⟩),trivial⟩ rfl (e' rfl (sg' 35 rfl (G' 4 rfl (a1' rfl (pa' rfl (G' 2 rfl (a1' rfl (pa' rfl (G' 2 rfl (a1' rfl (pa' rfl (G' 2 rfl (a1' rfl ?_)))))))))))))
 refine pa' rfl (G' 2 rfl (a1' rfl (pa' rfl (G' 2 rfl (a1' rfl (pa' rfl (G' 2 rfl (a1' rfl (pa' rfl (G' 2 rfl (a1' rfl (pa' rfl (a0' rfl ?_)))))))))))))
 exact an' (n' (re' (rt' rfl rfl rfl)))
mutual
def U7 (t:A0)(left:Int):Option Int:=
 Bb t (IntKind.i64.wrap ((IntKind.i64.wrap (left - 1)) - (IntKind.i64.wrap (Int.tdiv ((t.Name).length:Int) 16)))) 0
 partial_fixpoint
def Bb (t:A0)(left1:Int)(i:Int):Option Int:=
 if (bif (decide (i < ((t.Names).length:Int))) then (decide (left1≥0)) else false)=true then
  idx t.Names i>>=fun x1=>
  Bb t (IntKind.i64.wrap ((IntKind.i64.wrap (left1 - 1)) - (IntKind.i64.wrap (Int.tdiv ((x1).length:Int) 16)))) (IntKind.i64.wrap (i+1))
 else
  Cb t left1 0
 partial_fixpoint
def Cb (t:A0)(left2:Int)(i1:Int):Option Int:=
 if (bif (decide (i1 < ((t.Of).length:Int))) then (decide (left2≥0)) else false)=true then
  idx t.Of i1>>=fun x2=>
  U7 x2 left2>>=fun x3=>
  Cb t x3 (IntKind.i64.wrap (i1+1))
 else
  some left2
 partial_fixpoint
end
abbrev Eu (t:A0)(left:Int)(res:Int):Prop:=L0 C 107 [.agg (A0.cells t),.d (.int .i64 left)] [] (Ret [] (.d (.int .i64 res)))
abbrev I12 (t:A0)(left1:Int)(i:Int)(res:Int):Prop:=LM C 54 0 Tryz.f107 [1,1,0,1,4] [(1,.d (.int .i64 left1)),(2,.ref 0 0),(5,.d (.int .i64 i))] [.row (A0.cells t) 40] (Ret [] (.d (.int .i64 res)))
abbrev J12 (t:A0)(left2:Int)(i1:Int)(res:Int):Prop:=LM C 54 0 Tryz.f107 [1,1,1,0,1,4] [(1,.d (.int .i64 left2)),(2,.ref 0 0),(6,.d (.int .i64 i1))] [.row (A0.cells t) 40] (Ret [] (.d (.int .i64 res)))
theorem Q14:(∀ t left res,U7 t left=some res→Eu t left res)∧(∀ t left1 i res,Bb t left1 i=some res→I12 t left1 i res)∧(∀ t left2 i1 res,Cb t left2 i1=some res→J12 t left2 i1 res):=by
 refine U7.mutual_partial_correctness _ _ _ ?_ ?_ ?_
 ·intro g1 ih1 t left res hh
  exact L0.intro hC Tryz.func107 rfl rfl rfl (s' rfl rfl (E0.n hC rfl (e' rfl (p' 5 rfl (qc' rfl (by decide) (e' rfl (S' (t' rfl (bk' (fw' (ih1 _ _ _ _ hh) rfl rfl rfl))))))))))
 ·intro g1 g2 ih1 ih2 t left1 i res hh
  refine X0.unroll (S' (sg' 9 rfl (G' 3 rfl (AG.qe hC rfl (fun hg=>⟨trivial,trivial⟩) (estr.lenA _) (G' 3 rfl (a1' rfl (pa' rfl (an' (n' (ci' rfl hh (fun hh=>?_) (fun hh=>?_)))))))))))
  ·obtain ⟨x1,hx1,hh⟩:=bs' hh
   exact sk' (S' (bk' (P' 5 rfl (i' rfl (T0 hx1) (estr.idx hx1) rfl (o' 2 rfl (qc' rfl (by decide) (e' rfl (T' rfl (lw' (ih1 _ _ _ _ hh) rfl rfl rfl)))))))))
  exact ex' (S' (t' rfl (bk' (fw' (ih2 _ _ _ _ hh) rfl rfl rfl))))
 ·intro g0 g2 ih0 ih2 t left2 i1 res hh
  refine X0.unroll (S' (sg' 9 rfl (G' 3 rfl (AG.qe hC rfl (fun hg=>⟨trivial,trivial⟩) (A0.lenA _) (G' 3 rfl (a1' rfl (pa' rfl (an' (n' (ci' rfl hh (fun hh=>?_) (fun hh=>?_)))))))))))
  ·obtain ⟨x2,hx2,hh⟩:=bs' hh
   obtain ⟨x3,hx3,hh⟩:=bs' hh
   exact sk' (S' (bk' (P' 3 rfl (i' rfl (T0 hx2) (A0.idx hx2) rfl (o' 2 rfl (c' (ih0 _ _ _ hx3) rfl rfl (e' rfl (T' rfl (lw' (ih2 _ _ _ _ hh) rfl rfl rfl)))))))))
  cases hh
  exact ex' (t' rfl (re' (rt' rfl rfl rfl)))
theorem Y16 {t left res}(hh:U7 t left=some res):Eu t left res:=(Q14).1 _ _ _ hh
mutual
def F5 (e:B0)(left:Int):Option Int:=
 Db e (IntKind.i64.wrap ((IntKind.i64.wrap (left - 1)) - (IntKind.i64.wrap (Int.tdiv ((e.Name).length:Int) 16)))) 0
 partial_fixpoint
def Db (e:B0)(left1:Int)(i:Int):Option Int:=
 if (bif (decide (i < ((e.Kids).length:Int))) then (decide (left1≥0)) else false)=true then
  idx e.Kids i>>=fun x1=>
  F5 x1 left1>>=fun x2=>
  Db e x2 (IntKind.i64.wrap (i+1))
 else
  some left1
 partial_fixpoint
end
abbrev Fu (e:B0)(left:Int)(res:Int):Prop:=L0 C 40 [.agg (B0.cells e),.d (.int .i64 left)] [] (Ret [] (.d (.int .i64 res)))
abbrev K12 (e:B0)(left1:Int)(i:Int)(res:Int):Prop:=LM C 32 0 Tryz.f40 [1,1,0,1,4] [(1,.d (.int .i64 left1)),(2,.ref 0 0),(5,.d (.int .i64 i))] [.row (B0.cells e) 34] (Ret [] (.d (.int .i64 res)))
theorem R14:(∀ e left res,F5 e left=some res→Fu e left res)∧(∀ e left1 i res,Db e left1 i=some res→K12 e left1 i res):=by
 refine F5.mutual_partial_correctness _ _ ?_ ?_
 ·intro g1 ih1 e left res hh
  exact L0.intro hC Tryz.func40 rfl rfl rfl (s' rfl rfl (E0.n hC rfl (e' rfl (p' 5 rfl (qc' rfl (by decide) (e' rfl (S' (t' rfl (bk' (fw' (ih1 _ _ _ _ hh) rfl rfl rfl))))))))))
 ·intro g0 g1 ih0 ih1 e left1 i res hh
  refine X0.unroll (S' (sg' 9 rfl (G' 3 rfl (AG.qe hC rfl (fun hg=>⟨trivial,trivial⟩) (B0.lenA _) (G' 3 rfl (a1' rfl (pa' rfl (an' (n' (ci' rfl hh (fun hh=>?_) (fun hh=>?_)))))))))))
  ·obtain ⟨x1,hx1,hh⟩:=bs' hh
   obtain ⟨x2,hx2,hh⟩:=bs' hh
   exact sk' (S' (bk' (P' 3 rfl (i' rfl (T0 hx1) (B0.idx hx1) rfl (o' 2 rfl (c' (ih0 _ _ _ hx2) rfl rfl (e' rfl (T' rfl (lw' (ih1 _ _ _ _ hh) rfl rfl rfl)))))))))
  cases hh
  exact ex' (t' rfl (re' (rt' rfl rfl rfl)))
theorem Lg {e left res}(hh:F5 e left=some res):Fu e left res:=(R14).1 _ _ _ hh
mutual
def S4 (l:List C0)(left:Int):Option Int:=
 H7 l left 0
 partial_fixpoint
def H7 (l:List C0)(left2:Int)(i:Int):Option Int:=
 if (bif (decide (i < ((l).length:Int))) then (decide (left2≥0)) else false)=true then
  idx l i>>=fun x1=>
  F5 x1.Place (IntKind.i64.wrap ((IntKind.i64.wrap (left2 - 1)) - (IntKind.i64.wrap (Int.tdiv ((x1.Name).length:Int) 16))))>>=fun x2=>
  F5 x1.Value x2>>=fun x3=>
  V9 l x1 x3 i 0
 else
  some left2
 partial_fixpoint
def V9 (l:List C0)(x1:C0)(left1:Int)(i1:Int)(k:Int):Option Int:=
 if (bif (decide (k < ((x1.Args).length:Int))) then (decide (left1≥0)) else false)=true then
  idx x1.Args k>>=fun x4=>
  F5 x4 left1>>=fun x5=>
  V9 l x1 x5 i1 (IntKind.i64.wrap (k+1))
 else
  if (decide (((x1.Numbers).length:Int) > 100))=true then
   some (-1)
  else
   S4 x1.Then left1>>=fun x6=>
   S4 x1.Else x6>>=fun x7=>
   H7 l x7 (IntKind.i64.wrap (i1+1))
 partial_fixpoint
end
abbrev Tr (l:List C0)(left:Int)(res:Int):Prop:=L0 C 51 [.d (.sl (C0.rows l)),.d (.int .i64 left)] [] (Ret [] (.d (.int .i64 res)))
abbrev Yz (l:List C0)(left2:Int)(i:Int)(res:Int):Prop:=LM C 68 0 Tryz.f51 [1,0,1,4] [(0,.d (.sl (C0.rows l))),(1,.d (.int .i64 left2)),(5,.d (.int .i64 i))] [] (Ret [] (.d (.int .i64 res)))
abbrev Zz (l:List C0)(x1:C0)(left1:Int)(i1:Int)(k:Int)(res:Int):Prop:=LM C 68 0 Tryz.f51 [1,0,1,4,5,1,0,4,1,1,1,1,0,1,4] [(0,.d (.sl (C0.rows l))),(1,.d (.int .i64 left1)),(5,.d (.int .i64 i1)),(6,.ref 0 0),(7,.d (.int .i64 k))] [.row (C0.cells x1) 53] (Ret [] (.d (.int .i64 res)))
theorem L12:(∀ l left res,S4 l left=some res→Tr l left res)∧(∀ l left2 i res,H7 l left2 i=some res→Yz l left2 i res)∧(∀ l x1 left1 i1 k res,V9 l x1 left1 i1 k=some res→Zz l x1 left1 i1 k res):=by
 refine S4.mutual_partial_correctness _ _ _ ?_ ?_ ?_
 ·intro g1 ih1 l left res hh
  exact L0.intro hC Tryz.func51 rfl rfl rfl (t' rfl (S' (t' rfl (bk' (fw' (ih1 _ _ _ _ hh) rfl rfl rfl)))))
 ·intro g2 ih2 l left2 i res hh
  refine X0.unroll (S' (sg' 8 rfl (G' 2 rfl (AG.qe hC rfl (fun hg=>⟨trivial,trivial⟩) (C0.lenA _) (G' 3 rfl (a1' rfl (pa' rfl (an' (n' (ci' rfl hh (fun hh=>?_) (fun hh=>?_)))))))))))
  ·obtain ⟨x1,hx1,hh⟩:=bs' hh
   obtain ⟨x2,hx2,hh⟩:=bs' hh
   obtain ⟨x3,hx3,hh⟩:=bs' hh
   refine sk' (S' (bk' (p' 2 rfl (i' rfl (T0 hx1) (C0.idx hx1) rfl (q' rfl (E0.nf hC rfl (E0.s hC rfl (n' (p' 5 rfl (qc' rfl (by decide) (e' rfl (p' 3 rfl (c' (Lg hx2) rfl rfl ?_)))))))))))))
   exact e' rfl (p' 3 rfl (c' (Lg hx3) rfl rfl (e' rfl (S' (t' rfl (bk' (fw' (ih2 _ _ _ _ _ _ hh) rfl rfl rfl)))))))
  cases hh
  exact ex' (t' rfl (re' (rt' rfl rfl rfl)))
 ·intro g0 g1 g2 ih0 ih1 ih2 l x1 left1 i1 k res hh
  refine X0.unroll (S' (sg' 9 rfl (G' 3 rfl (AG.qe hC rfl (fun hg=>⟨trivial,trivial⟩) (B0.lenA _) (G' 3 rfl (a1' rfl (pa' rfl (an' (n' (ci' rfl hh (fun hh=>?_) (fun hh=>?_)))))))))))
  ·obtain ⟨x4,hx4,hh⟩:=bs' hh
   obtain ⟨x5,hx5,hh⟩:=bs' hh
   exact sk' (S' (bk' (P' 3 rfl (i' rfl (T0 hx4) (B0.idx hx4) rfl (o' 2 rfl (c' (Lg hx5) rfl rfl (e' rfl (T' rfl (lw' (ih2 _ _ _ _ _ _ hh) rfl rfl rfl)))))))))
  refine ex' (S' (p' 2 rfl (qe' rfl trivial (ei64.lenA _) (e' rfl (ci' rfl hh (fun hh=>?_) (fun hh=>?_))))))
  ·cases hh
   exact t' rfl (re' (rt' rfl rfl rfl))
  obtain ⟨x6,hx6,hh⟩:=bs' hh
  obtain ⟨x7,hx7,hh⟩:=bs' hh
  exact sk' (p' 3 rfl (c' (ih0 _ _ _ hx6) rfl rfl (e' rfl (P' 3 rfl (c' (ih0 _ _ _ hx7) rfl rfl (e' rfl (T' rfl (lw' (ih1 _ _ _ _ hh) rfl rfl rfl))))))))
theorem Sq {l left res}(hh:S4 l left=some res):Tr l left res:=(L12).1 _ _ _ hh
mutual
def L8 (l:List D0)(left:Int):Option Int:=
 W9 l left 0
 partial_fixpoint
def W9 (l:List D0)(left1:Int)(i:Int):Option Int:=
 if (bif (decide (i < ((l).length:Int))) then (decide (left1≥0)) else false)=true then
  idx l i>>=fun x1=>
  U7 x1.TypeV (IntKind.i64.wrap ((IntKind.i64.wrap (left1 - 1)) - (IntKind.i64.wrap (Int.tdiv ((x1.Name).length:Int) 16))))>>=fun x2=>
  F5 x1.Value x2>>=fun x3=>
  L8 x1.Params x3>>=fun x4=>
  L8 x1.Vars x4>>=fun x5=>
  S4 x1.Body x5>>=fun x6=>
  W9 l x6 (IntKind.i64.wrap (i+1))
 else
  some left1
 partial_fixpoint
end
abbrev Ur (l:List D0)(left:Int)(res:Int):Prop:=L0 C 52 [.d (.sl (D0.rows l)),.d (.int .i64 left)] [] (Ret [] (.d (.int .i64 res)))
abbrev A10 (l:List D0)(left1:Int)(i:Int)(res:Int):Prop:=LM C 49 0 Tryz.f52 [1,0,1,4] [(0,.d (.sl (D0.rows l))),(1,.d (.int .i64 left1)),(5,.d (.int .i64 i))] [] (Ret [] (.d (.int .i64 res)))
theorem M12:(∀ l left res,L8 l left=some res→Ur l left res)∧(∀ l left1 i res,W9 l left1 i=some res→A10 l left1 i res):=by
 refine L8.mutual_partial_correctness _ _ ?_ ?_
 ·intro g1 ih1 l left res hh
  exact L0.intro hC Tryz.func52 rfl rfl rfl (t' rfl (S' (t' rfl (bk' (fw' (ih1 _ _ _ _ hh) rfl rfl rfl)))))
 ·intro g0 g1 ih0 ih1 l left1 i res hh
  refine X0.unroll (S' (sg' 8 rfl (G' 2 rfl (AG.qe hC rfl (fun hg=>⟨trivial,trivial⟩) (D0.lenA _) (G' 3 rfl (a1' rfl (pa' rfl (an' (n' (ci' rfl hh (fun hh=>?_) (fun hh=>?_)))))))))))
  ·obtain ⟨x1,hx1,hh⟩:=bs' hh
   obtain ⟨x2,hx2,hh⟩:=bs' hh
   obtain ⟨x3,hx3,hh⟩:=bs' hh
   obtain ⟨x4,hx4,hh⟩:=bs' hh
   obtain ⟨x5,hx5,hh⟩:=bs' hh
   obtain ⟨x6,hx6,hh⟩:=bs' hh
   refine sk' (S' (bk' (p' 2 rfl (i' rfl (T0 hx1) (D0.idx hx1) rfl (q' rfl (E0.nf hC rfl (E0.s hC rfl (n' (p' 5 rfl (qc' rfl (by decide) (e' rfl (p' 3 rfl (c' (Y16 hx2) rfl rfl ?_)))))))))))))
   exact e' rfl (p' 3 rfl (c' (Lg hx3) rfl rfl (e' rfl (p' 3 rfl (c' (ih0 _ _ _ hx4) rfl rfl (e' rfl (p' 3 rfl (c' (ih0 _ _ _ hx5) rfl rfl (e' rfl (P' 3 rfl (c' (Sq hx6) rfl rfl (e' rfl (T' rfl (lw' (ih1 _ _ _ _ hh) rfl rfl rfl))))))))))))))
  cases hh
  exact ex' (t' rfl (re' (rt' rfl rfl rfl)))
theorem S14 {l left res}(hh:L8 l left=some res):Ur l left res:=(M12).1 _ _ _ hh
def Tq (p:O0)(most:Int):Option Bool:=
 L8 p.Decls most>>=fun x1=>
 S4 p.Body x1>>=fun x2=>
 some (decide (x2≥0))
theorem F1g {p most res}(hh:Tq p most=some res):L0 C 27 [.agg (O0.cells p),.d (.int .i64 most)] [] (Ret [] (.d (.bool res))):=by
 unfold Tq at hh
 obtain ⟨x1,hx1,hh⟩:=bs' hh
 obtain ⟨x2,hx2,hh⟩:=bs' hh
 cases hh
 exact L0.intro hC Tryz.func27 rfl rfl rfl (s' rfl rfl (E0.n hC rfl (e' rfl (S' (AEx.draw hC 9 rfl rfl rfl (O' 5 rfl (Qc' (S14 hx1) rfl rfl (Qc' (Sq hx2) rfl rfl (E' rfl (n' (re' (rt' rfl rfl rfl))))))))))))
def Uv (p:O0):Option Bool:=
 Tq p 300>>=fun x1=>
 some x1
theorem G1g {p res}(hh:Uv p=some res):L0 C 12 [.agg (O0.cells p)] [] (Ret [] (.d (.bool res))):=by
 unfold Uv at hh
 obtain ⟨x1,hx1,hh⟩:=bs' hh
 cases hh
 exact L0.intro hC Tryz.func12 rfl rfl rfl (s' rfl rfl (E0.n hC rfl (e' rfl (p' 1 rfl (c' (F1g hx1) rfl rfl (e' rfl (re' (rt' rfl rfl rfl))))))))
def Hh (k:Int):Option Bool:=
 some (bif (decide (k≥0)) then (decide (k≤6)) else false)
theorem Vr {k res}(hh:Hh k=some res):L0 C 124 [.d (.int .i64 k)] [] (Ret [] (.d (.bool res))):=by
 unfold Hh at hh
 cases hh
 exact L0.intro hC Tryz.func124 rfl rfl rfl (t' rfl (sg' 7 rfl (G' 4 rfl (a1' rfl (pa' rfl (a0' rfl (an' (n' (re' (rt' rfl rfl rfl))))))))))
mutual
def M8 (a:A0)(b:A0):Option Bool:=
 if (bif (bif (bif (bif (bif (bif (a.Kind != b.Kind) then true else (a.Low != b.Low)) then true else (a.High != b.High)) then true else (a.Size != b.Size)) then true else (!(a.Name == b.Name))) then true else (((a.Names).length:Int) != ((b.Names).length:Int))) then true else (((a.Of).length:Int) != ((b.Of).length:Int)))=true then
  some false
 else
  X9 a b 0
 partial_fixpoint
def X9 (a:A0)(b:A0)(i:Int):Option Bool:=
 if (decide (i < ((a.Names).length:Int)))=true then
  idx a.Names i>>=fun x1=>
  idx b.Names i>>=fun x2=>
  if (!(x1 == x2))=true then
   some false
  else
   X9 a b (IntKind.i64.wrap (i+1))
 else
  I7 a b 0
 partial_fixpoint
def I7 (a:A0)(b:A0)(i1:Int):Option Bool:=
 if (decide (i1 < ((a.Of).length:Int)))=true then
  idx a.Of i1>>=fun x3=>
  idx b.Of i1>>=fun x4=>
  M8 x3 x4>>=fun x5=>
  if (!x5)=true then
   some false
  else
   I7 a b (IntKind.i64.wrap (i1+1))
 else
  some true
 partial_fixpoint
end
abbrev Wr (a:A0)(b:A0)(res:Bool):Prop:=L0 C 18 [.agg (A0.cells a),.agg (A0.cells b)] [] (Ret [] (.d (.bool res)))
abbrev B10 (a:A0)(b:A0)(i:Int)(res:Bool):Prop:=LM C 95 0 Tryz.f18 [1,1,0,1,4] [(2,.ref 0 0),(3,.ref 1 0),(5,.d (.int .i64 i))] [.row (A0.cells a) 40,.row (A0.cells b) 40] (Ret [] (.d (.bool res)))
abbrev C10 (a:A0)(b:A0)(i1:Int)(res:Bool):Prop:=LM C 95 0 Tryz.f18 [1,1,1,0,1,4] [(2,.ref 0 0),(3,.ref 1 0),(6,.d (.int .i64 i1))] [.row (A0.cells a) 40,.row (A0.cells b) 40] (Ret [] (.d (.bool res)))
theorem N12:(∀ a b res,M8 a b=some res→Wr a b res)∧(∀ a b i res,X9 a b i=some res→B10 a b i res)∧(∀ a b i1 res,I7 a b i1=some res→C10 a b i1 res):=by
 refine M8.mutual_partial_correctness _ _ _ ?_ ?_ ?_
 ·intro g1 ih1 a b res hh
  refine L0.intro hC Tryz.func18 rfl rfl rfl (s' rfl rfl (E0.n hC rfl (E0.n hC rfl (e' rfl (S' (sg' 51 rfl (G' 7 rfl (a1' rfl (a0' rfl (a1' rfl (a2' rfl (po' rfl (G' 2 rfl ?_)))))))))))))
  refine a1' rfl (a0' rfl (a1' rfl (a2' rfl (po' rfl (G' 2 rfl (a1' rfl (a0' rfl (a1' rfl (a2' rfl (po' rfl (G' 2 rfl (a1' rfl (a0' rfl ?_)))))))))))))
  refine a1' rfl (a2' rfl (po' rfl (G' 2 rfl (a1' rfl (AG.qe hC rfl (fun hg=>⟨⟨hg,trivial⟩,trivial⟩) (estr.lenA _) (a0' rfl (a1' rfl (AG.qe hC rfl (fun hg=>⟨⟨hg,trivial⟩,trivial⟩) (estr.lenA _) (a2' rfl (po' rfl (G' 2 rfl (a1' rfl (AG.qe hC rfl (fun hg=>⟨⟨hg,trivial⟩,trivial⟩) (A0.lenA _) ?_)))))))))))))
  refine a0' rfl (a1' rfl (AG.qe hC rfl (fun hg=>⟨⟨hg,trivial⟩,trivial⟩) (A0.lenA _) (a2' rfl (po' rfl (an' (n' (ci' rfl hh (fun hh=>?_) (fun hh=>?_))))))))
  ·cases hh
   exact t' rfl (re' (rt' rfl rfl rfl))
  exact sk' (S' (t' rfl (bk' (fw' (ih1 _ _ _ _ hh) rfl rfl rfl))))
 ·intro g1 g2 ih1 ih2 a b i res hh
  refine X0.unroll (S' (p' 3 rfl (qe' rfl trivial (estr.lenA _) (e' rfl (ci' rfl hh (fun hh=>?_) (fun hh=>?_))))))
  ·obtain ⟨x1,hx1,hh⟩:=bs' hh
   obtain ⟨x2,hx2,hh⟩:=bs' hh
   refine sk' (S' (bk' (S' (AEx.draw hC 11 rfl rfl rfl (O' 3 rfl (AQ.i hC rfl (T0 hx1) (estr.idx hx1) rfl (O' 4 rfl (AQ.i hC rfl (T0 hx2) (estr.idx hx2) rfl (E' rfl (n' (ci' rfl hh (fun hh=>?_) (fun hh=>?_))))))))))))
   ·cases hh
    exact t' rfl (re' (rt' rfl rfl rfl))
   exact sk' (T' rfl (lw' (ih1 _ _ _ _ hh) rfl rfl rfl))
  exact ex' (S' (t' rfl (bk' (fw' (ih2 _ _ _ _ hh) rfl rfl rfl))))
 ·intro g0 g2 ih0 ih2 a b i1 res hh
  refine X0.unroll (S' (p' 3 rfl (qe' rfl trivial (A0.lenA _) (e' rfl (ci' rfl hh (fun hh=>?_) (fun hh=>?_))))))
  ·obtain ⟨x3,hx3,hh⟩:=bs' hh
   obtain ⟨x4,hx4,hh⟩:=bs' hh
   obtain ⟨x5,hx5,hh⟩:=bs' hh
   refine sk' (S' (bk' (S' (AEx.draw hC 12 rfl rfl rfl (O' 3 rfl (AQ.i hC rfl (T0 hx3) (A0.idx hx3) rfl (O' 4 rfl (AQ.i hC rfl (T0 hx4) (A0.idx hx4) rfl (Q' rfl (Qc' (ih0 _ _ _ hx5) rfl rfl (E' rfl (n' (ci' rfl hh (fun hh=>?_) (fun hh=>?_))))))))))))))
   ·cases hh
    exact t' rfl (re' (rt' rfl rfl rfl))
   exact sk' (T' rfl (lw' (ih2 _ _ _ _ hh) rfl rfl rfl))
  cases hh
  exact ex' (t' rfl (re' (rt' rfl rfl rfl)))
theorem T14 {a b res}(hh:M8 a b=some res):Wr a b res:=(N12).1 _ _ _ hh
def Ih (t:A0):Option Bool:=
 M8 t (A0.mk 0 0 0 0 [] [] [])>>=fun x1=>
 some x1
theorem Z16 {t res}(hh:Ih t=some res):L0 C 217 [.agg (A0.cells t)] [] (Ret [] (.d (.bool res))):=by
 unfold Ih at hh
 obtain ⟨x1,hx1,hh⟩:=bs' hh
 cases hh
 exact L0.intro hC Tryz.func217 rfl rfl rfl (s' rfl rfl (E0.n hC rfl (e' rfl (p' 2 rfl (c' (T14 hx1) rfl rfl (e' rfl (re' (rt' rfl rfl rfl))))))))
mutual
def N8 (t:A0):Option Int:=
 Y9 t 1 0
 partial_fixpoint
def Y9 (t:A0)(n:Int)(i:Int):Option Int:=
 if (decide (i < ((t.Of).length:Int)))=true then
  idx t.Of i>>=fun x1=>
  N8 x1>>=fun x2=>
  Y9 t (IntKind.i64.wrap (n+x2)) (IntKind.i64.wrap (i+1))
 else
  some n
 partial_fixpoint
end
abbrev Xr (t:A0)(res:Int):Prop:=L0 C 218 [.agg (A0.cells t)] [] (Ret [] (.d (.int .i64 res)))
abbrev D10 (t:A0)(n:Int)(i:Int)(res:Int):Prop:=LM C 21 0 Tryz.f218 [1,1,0,1,4] [(1,.ref 0 0),(3,.d (.int .i64 n)),(4,.d (.int .i64 i))] [.row (A0.cells t) 40] (Ret [] (.d (.int .i64 res)))
theorem O12:(∀ t res,N8 t=some res→Xr t res)∧(∀ t n i res,Y9 t n i=some res→D10 t n i res):=by
 refine N8.mutual_partial_correctness _ _ ?_ ?_
 ·intro g1 ih1 t res hh
  exact L0.intro hC Tryz.func218 rfl rfl rfl (s' rfl rfl (E0.n hC rfl (e' rfl (t' rfl (S' (t' rfl (bk' (fw' (ih1 _ _ _ _ hh) rfl rfl rfl))))))))
 ·intro g0 g1 ih0 ih1 t n i res hh
  refine X0.unroll (S' (p' 3 rfl (qe' rfl trivial (A0.lenA _) (e' rfl (ci' rfl hh (fun hh=>?_) (fun hh=>?_))))))
  ·obtain ⟨x1,hx1,hh⟩:=bs' hh
   obtain ⟨x2,hx2,hh⟩:=bs' hh
   exact sk' (S' (bk' (P' 4 rfl (i' rfl (T0 hx1) (A0.idx hx1) rfl (q' rfl (c' (ih0 _ _ hx2) rfl rfl (e' rfl (T' rfl (lw' (ih1 _ _ _ _ hh) rfl rfl rfl)))))))))
  cases hh
  exact ex' (t' rfl (re' (rt' rfl rfl rfl)))
theorem U14 {t res}(hh:N8 t=some res):Xr t res:=(O12).1 _ _ hh
mutual
def O8 (t:A0):Option Int:=
 J7 t 0 0
 partial_fixpoint
def J7 (t:A0)(d:Int)(i:Int):Option Int:=
 if (decide (i < ((t.Of).length:Int)))=true then
  idx t.Of i>>=fun x1=>
  O8 x1>>=fun x2=>
  if (decide (x2 > d))=true then
   J7 t x2 (IntKind.i64.wrap (i+1))
  else
   J7 t d (IntKind.i64.wrap (i+1))
 else
  some (IntKind.i64.wrap (d+1))
 partial_fixpoint
end
abbrev Yr (t:A0)(res:Int):Prop:=L0 C 219 [.agg (A0.cells t)] [] (Ret [] (.d (.int .i64 res)))
abbrev E10 (t:A0)(d:Int)(i:Int)(res:Int):Prop:=LM C 25 0 Tryz.f219 [1,1,0,1,4] [(1,.ref 0 0),(3,.d (.int .i64 d)),(4,.d (.int .i64 i))] [.row (A0.cells t) 40] (Ret [] (.d (.int .i64 res)))
theorem P12:(∀ t res,O8 t=some res→Yr t res)∧(∀ t d i res,J7 t d i=some res→E10 t d i res):=by
 refine O8.mutual_partial_correctness _ _ ?_ ?_
 ·intro g1 ih1 t res hh
  exact L0.intro hC Tryz.func219 rfl rfl rfl (s' rfl rfl (E0.n hC rfl (e' rfl (t' rfl (S' (t' rfl (bk' (fw' (ih1 _ _ _ _ hh) rfl rfl rfl))))))))
 ·intro g0 g1 ih0 ih1 t d i res hh
  refine X0.unroll (S' (p' 3 rfl (qe' rfl trivial (A0.lenA _) (e' rfl (ci' rfl hh (fun hh=>?_) (fun hh=>?_))))))
  ·obtain ⟨x1,hx1,hh⟩:=bs' hh
   obtain ⟨x2,hx2,hh⟩:=bs' hh
   refine sk' (S' (bk' (p' 3 rfl (i' rfl (T0 hx1) (A0.idx hx1) rfl (q' rfl (c' (ih0 _ _ hx2) rfl rfl (e' rfl (t' rfl (ci' rfl hh (fun hh=>?_) (fun hh=>?_))))))))))
   ·exact T' rfl (T' rfl (lw' (ih1 _ _ _ _ hh) rfl rfl rfl))
   exact sk' (T' rfl (lw' (ih1 _ _ _ _ hh) rfl rfl rfl))
  cases hh
  exact ex' (t' rfl (re' (rt' rfl rfl rfl)))
theorem V14 {t res}(hh:O8 t=some res):Yr t res:=(P12).1 _ _ hh
def O6 (s:R0)(d:Int):Option R0:=
 if (decide (d > s.depth))=true then
  some (R0.mk s.nodes d)
 else
  some s
theorem Di {s d res}(hh:O6 s d=some res):L0 C 158 [.agg (R0.cells s),.d (.int .i64 d)] [] (Ret [] (.agg (R0.cells res))):=by
 unfold O6 at hh
 refine L0.intro hC Tryz.func158 rfl rfl rfl (s' rfl rfl (E0.n hC rfl (E0.n hC rfl (n' (S' (t' rfl (ci' rfl hh (fun hh=>?_) (fun hh=>?_))))))))
 ·cases hh
  exact P' 2 rfl (E0.s hC rfl (n' (p' 1 rfl (E0.s hC rfl (n' (re' (rt' rfl rfl rfl)))))))
 cases hh
 exact sk' (p' 1 rfl (E0.s hC rfl (n' (re' (rt' rfl rfl rfl)))))
def Si (s:R0)(t:A0)(used:Bool):Option R0:=
 (if (!used)=true then Ih t else some default)>>=fun x1=>
 if (bif (!used) then x1 else false)=true then
  some s
 else
  N8 t>>=fun x2=>
  O8 t>>=fun x3=>
  O6 (R0.mk (IntKind.i64.wrap (s.nodes+x2)) s.depth) x3>>=fun x4=>
  some x4
theorem J18 {s t used res}(hh:Si s t used=some res):L0 C 190 [.agg (R0.cells s),.agg (A0.cells t),.d (.bool used)] [] (Ret [] (.agg (R0.cells res))):=by
 unfold Si at hh
 obtain ⟨x1,hx1,hh⟩:=bs' hh
 refine L0.intro hC Tryz.func190 rfl rfl rfl (s' rfl rfl (E0.n hC rfl (E0.n hC rfl (E0.n hC rfl (n' (S' (sg' 6 rfl (G' 4 rfl (AG.c rfl rfl (fun hg=>⟨hg,trivial⟩) (fun hw=>Z16 (I1 hw hx1)) (pa' rfl (an' (n' (ci' rfl hh (fun hh=>?_) (fun hh=>?_))))))))))))))
 ·cases hh
  exact p' 1 rfl (E0.s hC rfl (n' (re' (rt' rfl rfl rfl))))
 obtain ⟨x2,hx2,hh⟩:=bs' hh
 obtain ⟨x3,hx3,hh⟩:=bs' hh
 obtain ⟨x4,hx4,hh⟩:=bs' hh
 cases hh
 refine sk' (S' (AEx.draw hC 6 rfl rfl rfl (O' 3 rfl (Qc' (U14 hx2) rfl rfl (E' rfl (E0.s hC rfl (n' (S' (AEx.draw hC 4 rfl rfl rfl (O' 2 rfl (Qc' (V14 hx3) rfl rfl (Qc' (Di hx4) rfl rfl (Qn' ?_)))))))))))))
 exact E0.s hC rfl (n' (re' (rt' rfl rfl rfl)))
def Fd (k:Int):Option Bool:=
 some (bif (k == 5) then true else (k == 6))
theorem Wj {k res}(hh:Fd k=some res):L0 C 126 [.d (.int .i64 k)] [] (Ret [] (.d (.bool res))):=by
 unfold Fd at hh
 cases hh
 exact L0.intro hC Tryz.func126 rfl rfl rfl (t' rfl (sg' 7 rfl (G' 4 rfl (a1' rfl (po' rfl (a0' rfl (an' (n' (re' (rt' rfl rfl rfl))))))))))
mutual
def P8 (a:B0)(b:B0):Option Bool:=
 if (bif (bif (bif (a.Op != b.Op) then true else (a.NV != b.NV)) then true else (!(a.Name == b.Name))) then true else (((a.Kids).length:Int) != ((b.Kids).length:Int)))=true then
  some false
 else
  Z9 a b 0
 partial_fixpoint
def Z9 (a:B0)(b:B0)(i:Int):Option Bool:=
 if (decide (i < ((a.Kids).length:Int)))=true then
  idx a.Kids i>>=fun x1=>
  idx b.Kids i>>=fun x2=>
  P8 x1 x2>>=fun x3=>
  if (!x3)=true then
   some false
  else
   Z9 a b (IntKind.i64.wrap (i+1))
 else
  some true
 partial_fixpoint
end
abbrev Zr (a:B0)(b:B0)(res:Bool):Prop:=L0 C 191 [.agg (B0.cells a),.agg (B0.cells b)] [] (Ret [] (.d (.bool res)))
abbrev F10 (a:B0)(b:B0)(i:Int)(res:Bool):Prop:=LM C 53 0 Tryz.f191 [1,1,0,1,4] [(2,.ref 0 0),(3,.ref 1 0),(5,.d (.int .i64 i))] [.row (B0.cells a) 34,.row (B0.cells b) 34] (Ret [] (.d (.bool res)))
theorem Q12:(∀ a b res,P8 a b=some res→Zr a b res)∧(∀ a b i res,Z9 a b i=some res→F10 a b i res):=by
 refine P8.mutual_partial_correctness _ _ ?_ ?_
 ·intro g1 ih1 a b res hh
  refine L0.intro hC Tryz.func191 rfl rfl rfl (s' rfl rfl (E0.n hC rfl (E0.n hC rfl (e' rfl (S' (sg' 28 rfl (G' 7 rfl (a1' rfl (a0' rfl (a1' rfl (a2' rfl (po' rfl (G' 2 rfl ?_)))))))))))))
  refine a1' rfl (a0' rfl (a1' rfl (a2' rfl (po' rfl (G' 2 rfl (a1' rfl (AG.qe hC rfl (fun hg=>⟨⟨hg,trivial⟩,trivial⟩) (B0.lenA _) (a0' rfl (a1' rfl (AG.qe hC rfl (fun hg=>⟨⟨hg,trivial⟩,trivial⟩) (B0.lenA _) (a2' rfl (po' rfl (an' ?_)))))))))))))
  refine n' (ci' rfl hh (fun hh=>?_) (fun hh=>?_))
  ·cases hh
   exact t' rfl (re' (rt' rfl rfl rfl))
  exact sk' (S' (t' rfl (bk' (fw' (ih1 _ _ _ _ hh) rfl rfl rfl))))
 ·intro g0 g1 ih0 ih1 a b i res hh
  refine X0.unroll (S' (p' 3 rfl (qe' rfl trivial (B0.lenA _) (e' rfl (ci' rfl hh (fun hh=>?_) (fun hh=>?_))))))
  ·obtain ⟨x1,hx1,hh⟩:=bs' hh
   obtain ⟨x2,hx2,hh⟩:=bs' hh
   obtain ⟨x3,hx3,hh⟩:=bs' hh
   refine sk' (S' (bk' (S' (AEx.draw hC 12 rfl rfl rfl (O' 3 rfl (AQ.i hC rfl (T0 hx1) (B0.idx hx1) rfl (O' 4 rfl (AQ.i hC rfl (T0 hx2) (B0.idx hx2) rfl (Q' rfl (Qc' (ih0 _ _ _ hx3) rfl rfl (E' rfl (n' (ci' rfl hh (fun hh=>?_) (fun hh=>?_))))))))))))))
   ·cases hh
    exact t' rfl (re' (rt' rfl rfl rfl))
   exact sk' (T' rfl (lw' (ih1 _ _ _ _ hh) rfl rfl rfl))
  cases hh
  exact ex' (t' rfl (re' (rt' rfl rfl rfl)))
theorem W14 {a b res}(hh:P8 a b=some res):Zr a b res:=(Q12).1 _ _ _ hh
def Aa (e:B0):Option Bool:=
 P8 e (B0.mk 0 0 [] [])>>=fun x1=>
 some x1
theorem Mg {e res}(hh:Aa e=some res):L0 C 127 [.agg (B0.cells e)] [] (Ret [] (.d (.bool res))):=by
 unfold Aa at hh
 obtain ⟨x1,hx1,hh⟩:=bs' hh
 cases hh
 exact L0.intro hC Tryz.func127 rfl rfl rfl (s' rfl rfl (E0.n hC rfl (e' rfl (p' 2 rfl (c' (W14 hx1) rfl rfl (e' rfl (re' (rt' rfl rfl rfl))))))))
mutual
def Q8 (e:B0):Option Int:=
 Ba e 1 0
 partial_fixpoint
def Ba (e:B0)(n:Int)(i:Int):Option Int:=
 if (decide (i < ((e.Kids).length:Int)))=true then
  idx e.Kids i>>=fun x1=>
  Q8 x1>>=fun x2=>
  Ba e (IntKind.i64.wrap (n+x2)) (IntKind.i64.wrap (i+1))
 else
  some n
 partial_fixpoint
end
abbrev As (e:B0)(res:Int):Prop:=L0 C 157 [.agg (B0.cells e)] [] (Ret [] (.d (.int .i64 res)))
abbrev G10 (e:B0)(n:Int)(i:Int)(res:Int):Prop:=LM C 21 0 Tryz.f157 [1,1,0,1,4] [(1,.ref 0 0),(3,.d (.int .i64 n)),(4,.d (.int .i64 i))] [.row (B0.cells e) 34] (Ret [] (.d (.int .i64 res)))
theorem R12:(∀ e res,Q8 e=some res→As e res)∧(∀ e n i res,Ba e n i=some res→G10 e n i res):=by
 refine Q8.mutual_partial_correctness _ _ ?_ ?_
 ·intro g1 ih1 e res hh
  exact L0.intro hC Tryz.func157 rfl rfl rfl (s' rfl rfl (E0.n hC rfl (e' rfl (t' rfl (S' (t' rfl (bk' (fw' (ih1 _ _ _ _ hh) rfl rfl rfl))))))))
 ·intro g0 g1 ih0 ih1 e n i res hh
  refine X0.unroll (S' (p' 3 rfl (qe' rfl trivial (B0.lenA _) (e' rfl (ci' rfl hh (fun hh=>?_) (fun hh=>?_))))))
  ·obtain ⟨x1,hx1,hh⟩:=bs' hh
   obtain ⟨x2,hx2,hh⟩:=bs' hh
   exact sk' (S' (bk' (P' 4 rfl (i' rfl (T0 hx1) (B0.idx hx1) rfl (q' rfl (c' (ih0 _ _ hx2) rfl rfl (e' rfl (T' rfl (lw' (ih1 _ _ _ _ hh) rfl rfl rfl)))))))))
  cases hh
  exact ex' (t' rfl (re' (rt' rfl rfl rfl)))
theorem X14 {e res}(hh:Q8 e=some res):As e res:=(R12).1 _ _ hh
mutual
def R8 (e:B0):Option Int:=
 K7 e 0 0
 partial_fixpoint
def K7 (e:B0)(d:Int)(i:Int):Option Int:=
 if (decide (i < ((e.Kids).length:Int)))=true then
  idx e.Kids i>>=fun x1=>
  R8 x1>>=fun x2=>
  if (decide (x2 > d))=true then
   K7 e x2 (IntKind.i64.wrap (i+1))
  else
   K7 e d (IntKind.i64.wrap (i+1))
 else
  some (IntKind.i64.wrap (d+1))
 partial_fixpoint
end
abbrev Bs (e:B0)(res:Int):Prop:=L0 C 159 [.agg (B0.cells e)] [] (Ret [] (.d (.int .i64 res)))
abbrev H10 (e:B0)(d:Int)(i:Int)(res:Int):Prop:=LM C 25 0 Tryz.f159 [1,1,0,1,4] [(1,.ref 0 0),(3,.d (.int .i64 d)),(4,.d (.int .i64 i))] [.row (B0.cells e) 34] (Ret [] (.d (.int .i64 res)))
theorem S12:(∀ e res,R8 e=some res→Bs e res)∧(∀ e d i res,K7 e d i=some res→H10 e d i res):=by
 refine R8.mutual_partial_correctness _ _ ?_ ?_
 ·intro g1 ih1 e res hh
  exact L0.intro hC Tryz.func159 rfl rfl rfl (s' rfl rfl (E0.n hC rfl (e' rfl (t' rfl (S' (t' rfl (bk' (fw' (ih1 _ _ _ _ hh) rfl rfl rfl))))))))
 ·intro g0 g1 ih0 ih1 e d i res hh
  refine X0.unroll (S' (p' 3 rfl (qe' rfl trivial (B0.lenA _) (e' rfl (ci' rfl hh (fun hh=>?_) (fun hh=>?_))))))
  ·obtain ⟨x1,hx1,hh⟩:=bs' hh
   obtain ⟨x2,hx2,hh⟩:=bs' hh
   refine sk' (S' (bk' (p' 3 rfl (i' rfl (T0 hx1) (B0.idx hx1) rfl (q' rfl (c' (ih0 _ _ hx2) rfl rfl (e' rfl (t' rfl (ci' rfl hh (fun hh=>?_) (fun hh=>?_))))))))))
   ·exact T' rfl (T' rfl (lw' (ih1 _ _ _ _ hh) rfl rfl rfl))
   exact sk' (T' rfl (lw' (ih1 _ _ _ _ hh) rfl rfl rfl))
  cases hh
  exact ex' (t' rfl (re' (rt' rfl rfl rfl)))
theorem Y14 {e res}(hh:R8 e=some res):Bs e res:=(S12).1 _ _ hh
def M9 (s:R0)(e:B0)(used:Bool):Option R0:=
 (if (!used)=true then Aa e else some default)>>=fun x1=>
 if (bif (!used) then x1 else false)=true then
  some s
 else
  Q8 e>>=fun x2=>
  R8 e>>=fun x3=>
  O6 (R0.mk (IntKind.i64.wrap (s.nodes+x2)) s.depth) x3>>=fun x4=>
  some x4
theorem Ei {s e used res}(hh:M9 s e used=some res):L0 C 90 [.agg (R0.cells s),.agg (B0.cells e),.d (.bool used)] [] (Ret [] (.agg (R0.cells res))):=by
 unfold M9 at hh
 obtain ⟨x1,hx1,hh⟩:=bs' hh
 refine L0.intro hC Tryz.func90 rfl rfl rfl (s' rfl rfl (E0.n hC rfl (E0.n hC rfl (E0.n hC rfl (n' (S' (sg' 6 rfl (G' 4 rfl (AG.c rfl rfl (fun hg=>⟨hg,trivial⟩) (fun hw=>Mg (I1 hw hx1)) (pa' rfl (an' (n' (ci' rfl hh (fun hh=>?_) (fun hh=>?_))))))))))))))
 ·cases hh
  exact p' 1 rfl (E0.s hC rfl (n' (re' (rt' rfl rfl rfl))))
 obtain ⟨x2,hx2,hh⟩:=bs' hh
 obtain ⟨x3,hx3,hh⟩:=bs' hh
 obtain ⟨x4,hx4,hh⟩:=bs' hh
 cases hh
 refine sk' (S' (AEx.draw hC 6 rfl rfl rfl (O' 3 rfl (Qc' (X14 hx2) rfl rfl (E' rfl (E0.s hC rfl (n' (S' (AEx.draw hC 4 rfl rfl rfl (O' 2 rfl (Qc' (Y14 hx3) rfl rfl (Qc' (Di hx4) rfl rfl (Qn' ?_)))))))))))))
 exact E0.s hC rfl (n' (re' (rt' rfl rfl rfl)))
def Gd (v:Int):Option Bool:=
 some (bif (bif (v == 0) then true else (v == 1)) then true else (v == 2))
theorem Xj {v res}(hh:Gd v=some res):L0 C 128 [.d (.int .i64 v)] [] (Ret [] (.d (.bool res))):=by
 unfold Gd at hh
 cases hh
 exact L0.intro hC Tryz.func128 rfl rfl rfl (t' rfl (sg' 11 rfl (G' 4 rfl (a1' rfl (po' rfl (G' 2 rfl (a1' rfl (po' rfl (a0' rfl (an' (n' (re' (rt' rfl rfl rfl)))))))))))))
def Hd (v:Int):Option Bool:=
 some (bif (bif (bif (v == 0) then true else (v == 3)) then true else (v == 5)) then true else (v == 6))
theorem Yj {v res}(hh:Hd v=some res):L0 C 130 [.d (.int .i64 v)] [] (Ret [] (.d (.bool res))):=by
 unfold Hd at hh
 cases hh
 refine L0.intro hC Tryz.func130 rfl rfl rfl (t' rfl (sg' 15 rfl (G' 4 rfl (a1' rfl (po' rfl (G' 2 rfl (a1' rfl (po' rfl (G' 2 rfl (a1' rfl (po' rfl (a0' rfl (an' ?_)))))))))))))
 exact n' (re' (rt' rfl rfl rfl))
mutual
def V7 (s:R0)(l:List C0)(d:Int):Option R0:=
 Eb l d s 0
 partial_fixpoint
def Eb (l:List C0)(d:Int)(o01:R0)(i:Int):Option R0:=
 if (decide (i < ((l).length:Int)))=true then
  idx l i>>=fun x1=>
  O6 (R0.mk (IntKind.i64.wrap (o01.nodes+1)) o01.depth) d>>=fun x2=>
  Gd x1.Verb>>=fun x3=>
  M9 x2 x1.Place x3>>=fun x4=>
  Hd x1.Verb>>=fun x5=>
  M9 x4 x1.Value x5>>=fun x6=>
  Od l d x6 x1 i 0
 else
  some o01
 partial_fixpoint
def Od (l:List C0)(d:Int)(o0:R0)(x1:C0)(i1:Int)(k:Int):Option R0:=
 if (decide (k < ((x1.Args).length:Int)))=true then
  idx x1.Args k>>=fun x7=>
  M9 o0 x7 true>>=fun x8=>
  Od l d x8 x1 i1 (IntKind.i64.wrap (k+1))
 else
  V7 o0 x1.Then (IntKind.i64.wrap (d+1))>>=fun x9=>
  V7 x9 x1.Else (IntKind.i64.wrap (d+1))>>=fun x10=>
  Eb l d x10 (IntKind.i64.wrap (i1+1))
 partial_fixpoint
end
abbrev Gu (s:R0)(l:List C0)(d:Int)(res:R0):Prop:=L0 C 122 [.agg (R0.cells s),.d (.sl (C0.rows l)),.d (.int .i64 d)] [] (Ret [] (.agg (R0.cells res)))
abbrev T12 (l:List C0)(d:Int)(o01:R0)(i:Int)(res:R0):Prop:=LM C 68 0 Tryz.f122 [1,0,1,4] [(1,.d (.sl (C0.rows l))),(2,.d (.int .i64 d)),(3,.ref 0 0),(6,.ref 1 0),(7,.d (.int .i64 i))] [.row (R0.cells o01) 121,.row [.d (.int .i64 0),.d (.int .i64 0)] 121] (Ret [] (.agg (R0.cells res)))
abbrev U12 (l:List C0)(d:Int)(o0:R0)(x1:C0)(i1:Int)(k:Int)(res:R0):Prop:=LM C 68 0 Tryz.f122 [1,0,1,4,5,1,0,4,1,1,1,1,1,0,1,4] [(1,.d (.sl (C0.rows l))),(2,.d (.int .i64 d)),(3,.ref 0 0),(6,.ref 1 0),(7,.d (.int .i64 i1)),(8,.ref 2 0),(9,.d (.int .i64 k))] [.row (R0.cells o0) 121,.row [.d (.int .i64 0),.d (.int .i64 0)] 121,.row (C0.cells x1) 53] (Ret [] (.agg (R0.cells res)))
theorem Z14:(∀ s l d res,V7 s l d=some res→Gu s l d res)∧(∀ l d o01 i res,Eb l d o01 i=some res→T12 l d o01 i res)∧(∀ l d o0 x1 i1 k res,Od l d o0 x1 i1 k=some res→U12 l d o0 x1 i1 k res):=by
 refine V7.mutual_partial_correctness _ _ _ ?_ ?_ ?_
 ·intro g1 ih1 s l d res hh
  exact L0.intro hC Tryz.func122 rfl rfl rfl (s' rfl rfl (E0.n hC rfl (E0.n hC rfl (n' (S' (t' rfl (bk' (fw' (ih1 _ _ _ _ _ hh) rfl rfl rfl))))))))
 ·intro g2 ih2 l d o01 i res hh
  refine X0.unroll (S' (p' 2 rfl (qe' rfl trivial (C0.lenA _) (e' rfl (ci' rfl hh (fun hh=>?_) (fun hh=>?_))))))
  ·obtain ⟨x1,hx1,hh⟩:=bs' hh
   obtain ⟨x2,hx2,hh⟩:=bs' hh
   obtain ⟨x3,hx3,hh⟩:=bs' hh
   obtain ⟨x4,hx4,hh⟩:=bs' hh
   obtain ⟨x5,hx5,hh⟩:=bs' hh
   obtain ⟨x6,hx6,hh⟩:=bs' hh
   refine sk' (S' (bk' (p' 2 rfl (i' rfl (T0 hx1) (C0.idx hx1) rfl (q' rfl (E0.nf hC rfl (E0.s hC rfl (n' (p' 4 rfl (E0.s hC rfl (n' (p' 2 rfl (c' (Di hx2) rfl rfl ?_)))))))))))))
   refine E0.s hC rfl (n' (S' (AEx.draw hC 7 rfl rfl rfl (O' 5 rfl (Qc' (Xj hx3) rfl rfl (Qc' (Ei hx4) rfl rfl (Qn' (E0.s hC rfl (n' (S' (AEx.draw hC 7 rfl rfl rfl (O' 5 rfl (Qc' (Yj hx5) rfl rfl ?_)))))))))))))
   exact Qc' (Ei hx6) rfl rfl (Qn' (E0.s hC rfl (n' (S' (t' rfl (bk' (fw' (ih2 _ _ _ _ _ _ _ hh) rfl rfl rfl)))))))
  cases hh
  exact ex' (p' 1 rfl (E0.s hC rfl (n' (re' (rt' rfl rfl rfl)))))
 ·intro g0 g1 g2 ih0 ih1 ih2 l d o0 x1 i1 k res hh
  refine X0.unroll (S' (p' 3 rfl (qe' rfl trivial (B0.lenA _) (e' rfl (ci' rfl hh (fun hh=>?_) (fun hh=>?_))))))
  ·obtain ⟨x7,hx7,hh⟩:=bs' hh
   obtain ⟨x8,hx8,hh⟩:=bs' hh
   exact sk' (S' (bk' (AEx.draw hC 7 rfl rfl rfl (O' 4 rfl (AQ.i hC rfl (T0 hx7) (B0.idx hx7) rfl (Q' rfl (Qc' (Ei hx8) rfl rfl (Qn' (E0.s hC rfl (n' (T' rfl (lw' (ih2 _ _ _ _ _ _ _ hh) rfl rfl rfl))))))))))))
  obtain ⟨x9,hx9,hh⟩:=bs' hh
  obtain ⟨x10,hx10,hh⟩:=bs' hh
  exact ex' (p' 5 rfl (c' (ih0 _ _ _ _ hx9) rfl rfl (E0.s hC rfl (n' (P' 5 rfl (c' (ih0 _ _ _ _ hx10) rfl rfl (E0.s hC rfl (n' (T' rfl (lw' (ih1 _ _ _ _ _ hh) rfl rfl rfl))))))))))
theorem Cs {s l d res}(hh:V7 s l d=some res):Gu s l d res:=(Z14).1 _ _ _ _ hh
mutual
def Ca (s:R0)(l:List D0):Option R0:=
 Fb l s 0
 partial_fixpoint
def Fb (l:List D0)(o0:R0)(i:Int):Option R0:=
 if (decide (i < ((l).length:Int)))=true then
  idx l i>>=fun x1=>
  Hh x1.Kind>>=fun x2=>
  Si (R0.mk (IntKind.i64.wrap (o0.nodes+1)) o0.depth) x1.TypeV x2>>=fun x3=>
  Fd x1.Kind>>=fun x4=>
  M9 x3 x1.Value x4>>=fun x5=>
  Ca x5 x1.Params>>=fun x6=>
  Ca x6 x1.Vars>>=fun x7=>
  V7 x7 x1.Body 1>>=fun x8=>
  Fb l x8 (IntKind.i64.wrap (i+1))
 else
  some o0
 partial_fixpoint
end
abbrev Hu (s:R0)(l:List D0)(res:R0):Prop:=L0 C 123 [.agg (R0.cells s),.d (.sl (D0.rows l))] [] (Ret [] (.agg (R0.cells res)))
abbrev V12 (l:List D0)(o0:R0)(i:Int)(res:R0):Prop:=LM C 48 0 Tryz.f123 [1,0,1,4] [(1,.d (.sl (D0.rows l))),(2,.ref 0 0),(4,.ref 1 0),(5,.d (.int .i64 i))] [.row (R0.cells o0) 121,.row [.d (.int .i64 0),.d (.int .i64 0)] 121] (Ret [] (.agg (R0.cells res)))
theorem A15:(∀ s l res,Ca s l=some res→Hu s l res)∧(∀ l o0 i res,Fb l o0 i=some res→V12 l o0 i res):=by
 refine Ca.mutual_partial_correctness _ _ ?_ ?_
 ·intro g1 ih1 s l res hh
  exact L0.intro hC Tryz.func123 rfl rfl rfl (s' rfl rfl (E0.n hC rfl (E0.n hC rfl (n' (S' (t' rfl (bk' (fw' (ih1 _ _ _ _ hh) rfl rfl rfl))))))))
 ·intro g0 g1 ih0 ih1 l o0 i res hh
  refine X0.unroll (S' (p' 2 rfl (qe' rfl trivial (D0.lenA _) (e' rfl (ci' rfl hh (fun hh=>?_) (fun hh=>?_))))))
  ·obtain ⟨x1,hx1,hh⟩:=bs' hh
   obtain ⟨x2,hx2,hh⟩:=bs' hh
   obtain ⟨x3,hx3,hh⟩:=bs' hh
   obtain ⟨x4,hx4,hh⟩:=bs' hh
   obtain ⟨x5,hx5,hh⟩:=bs' hh
   obtain ⟨x6,hx6,hh⟩:=bs' hh
   obtain ⟨x7,hx7,hh⟩:=bs' hh
   obtain ⟨x8,hx8,hh⟩:=bs' hh
   refine sk' (S' (bk' (p' 2 rfl (i' rfl (T0 hx1) (D0.idx hx1) rfl (q' rfl (E0.nf hC rfl (E0.s hC rfl (n' (p' 4 rfl (E0.s hC rfl (n' (S' (AEx.draw hC 7 rfl rfl rfl ?_)))))))))))))
   refine O' 5 rfl (Qc' (Vr hx2) rfl rfl (Qc' (J18 hx3) rfl rfl (Qn' (E0.s hC rfl (n' (S' (AEx.draw hC 7 rfl rfl rfl (O' 5 rfl (Qc' (Wj hx4) rfl rfl (Qc' (Ei hx5) rfl rfl (Qn' (E0.s hC rfl (n' ?_)))))))))))))
   exact p' 3 rfl (c' (ih0 _ _ _ hx6) rfl rfl (E0.s hC rfl (n' (p' 3 rfl (c' (ih0 _ _ _ hx7) rfl rfl (E0.s hC rfl (n' (P' 3 rfl (c' (Cs hx8) rfl rfl (E0.s hC rfl (n' (T' rfl (lw' (ih1 _ _ _ _ hh) rfl rfl rfl)))))))))))))
  cases hh
  exact ex' (p' 1 rfl (E0.s hC rfl (n' (re' (rt' rfl rfl rfl)))))
theorem A17 {s l res}(hh:Ca s l=some res):Hu s l res:=(A15).1 _ _ _ hh
def Ol (p:O0):Option R0:=
 Ca (R0.mk 0 0) p.Decls>>=fun x1=>
 V7 x1 p.Body 1>>=fun x2=>
 some x2
theorem F1c {p res}(hh:Ol p=some res):L0 C 65 [.agg (O0.cells p)] [] (Ret [] (.agg (R0.cells res))):=by
 unfold Ol at hh
 obtain ⟨x1,hx1,hh⟩:=bs' hh
 obtain ⟨x2,hx2,hh⟩:=bs' hh
 cases hh
 refine L0.intro hC Tryz.func65 rfl rfl rfl (s' rfl rfl (E0.n hC rfl (E0.n hC rfl (n' (S' (AEx.draw hC 7 rfl rfl rfl (O' 3 rfl (Qc' (A17 hx1) rfl rfl (O' 2 rfl (Qc' (Cs hx2) rfl rfl (Qn' (E0.s hC rfl (n' ?_)))))))))))))
 exact re' (rt' rfl rfl rfl)
mutual
def Da (t:A0):Option Bool:=
 if (bif (decide (t.Kind < 0)) then true else (decide (t.Kind > 4)))=true then
  some false
 else
  if (bif (bif (bif (bif (t.Kind != 1) then (bif (t.Low != 0) then true else (t.High != 0)) else false) then true else (bif (t.Kind != 2) then (t.Size != 0) else false)) then true else (bif (t.Kind != 4) then (!(t.Name == [])) else false)) then true else (bif (t.Kind != 3) then (((t.Names).length:Int) != 0) else false))=true then
   some false
  else
   if (bif (bif (bif (t.Kind == 2) then (((t.Of).length:Int) != 1) else false) then true else (bif (t.Kind == 3) then (bif (decide (((t.Of).length:Int) < 1)) then true else (((t.Of).length:Int) != ((t.Names).length:Int))) else false)) then true else (bif (bif (t.Kind != 2) then (t.Kind != 3) else false) then (((t.Of).length:Int) != 0) else false))=true then
    some false
   else
    Gb t 0
 partial_fixpoint
def Gb (t:A0)(i:Int):Option Bool:=
 if (decide (i < ((t.Of).length:Int)))=true then
  idx t.Of i>>=fun x1=>
  Da x1>>=fun x2=>
  if (!x2)=true then
   some false
  else
   Gb t (IntKind.i64.wrap (i+1))
 else
  some true
 partial_fixpoint
end
abbrev Iu (t:A0)(res:Bool):Prop:=L0 C 125 [.agg (A0.cells t)] [] (Ret [] (.d (.bool res)))
abbrev W12 (t:A0)(i:Int)(res:Bool):Prop:=LM C 115 0 Tryz.f125 [1,1,1,1,0,1,4] [(1,.ref 0 0),(3,.d (.int .i64 i))] [.row (A0.cells t) 40] (Ret [] (.d (.bool res)))
theorem B15:(∀ t res,Da t=some res→Iu t res)∧(∀ t i res,Gb t i=some res→W12 t i res):=by
 refine Da.mutual_partial_correctness _ _ ?_ ?_
 ·intro g1 ih1 t res hh
  refine L0.intro hC Tryz.func125 rfl rfl rfl (s' rfl rfl (E0.n hC rfl (e' rfl (S' (sg' 8 rfl (G' 5 rfl (a1' rfl (a1' rfl (po' rfl (an' (n' (ci' rfl hh (fun hh=>?_) (fun hh=>?_)))))))))))))
  ·cases hh
   exact t' rfl (re' (rt' rfl rfl rfl))
  refine sk' (S' (sg' 44 rfl (G' 5 rfl (a1' rfl (a1' rfl (a1' rfl (a0' rfl (a1' rfl (a1' rfl (pO' rfl (pa' rfl (G' 2 rfl (a1' rfl ?_)))))))))))))
  refine a1' rfl (a1' rfl (a0' rfl (a1' rfl (a1' rfl (pA' rfl (po' rfl (G' 2 rfl (a1' rfl (a1' rfl (a1' rfl (a0' rfl (a1' rfl (a1' rfl ?_)))))))))))))
  refine pA' rfl (po' rfl (G' 2 rfl (a1' rfl (a1' rfl (a1' rfl (a0' rfl (a1' rfl (AG.qe hC rfl (fun hg=>⟨⟨hg,trivial⟩,trivial⟩) (estr.lenA _) (a1' rfl (pA' rfl (po' rfl (an' (n' (ci' rfl hh (fun hh=>?_) (fun hh=>?_)))))))))))))))
  ·cases hh
   exact t' rfl (re' (rt' rfl rfl rfl))
  refine sk' (S' (sg' 45 rfl (G' 5 rfl (a1' rfl (AG.qe hC rfl (fun hg=>⟨⟨hg,trivial⟩,trivial⟩) (A0.lenA _) (a1' rfl (pa' rfl (G' 2 rfl (a1' rfl (a1' rfl (a1' rfl (a0' rfl (a1' rfl ?_)))))))))))))
  refine AG.qe hC rfl (fun hg=>⟨⟨hg,trivial⟩,trivial⟩) (A0.lenA _) (a1' rfl (a1' rfl (a0' rfl (a1' rfl (AG.qe hC rfl (fun hg=>⟨⟨hg,trivial⟩,trivial⟩) (A0.lenA _) (a0' rfl (a1' rfl (AG.qe hC rfl (fun hg=>⟨⟨hg,trivial⟩,trivial⟩) (estr.lenA _) (a2' rfl (pO' rfl (pA' rfl (po' rfl (G' 2 rfl ?_)))))))))))))
  refine a1' rfl (a1' rfl (a1' rfl (a0' rfl (a1' rfl (a1' rfl (pA' rfl (a1' rfl (a0' rfl (a1' rfl (AG.qe hC rfl (fun hg=>⟨⟨hg,trivial⟩,trivial⟩) (A0.lenA _) (a1' rfl (pA' rfl (po' rfl ?_)))))))))))))
  refine an' (n' (ci' rfl hh (fun hh=>?_) (fun hh=>?_)))
  ·cases hh
   exact t' rfl (re' (rt' rfl rfl rfl))
  exact sk' (S' (t' rfl (bk' (fw' (ih1 _ _ _ hh) rfl rfl rfl))))
 ·intro g0 g1 ih0 ih1 t i res hh
  refine X0.unroll (S' (p' 3 rfl (qe' rfl trivial (A0.lenA _) (e' rfl (ci' rfl hh (fun hh=>?_) (fun hh=>?_))))))
  ·obtain ⟨x1,hx1,hh⟩:=bs' hh
   obtain ⟨x2,hx2,hh⟩:=bs' hh
   refine sk' (S' (bk' (p' 3 rfl (i' rfl (T0 hx1) (A0.idx hx1) rfl (q' rfl (c' (ih0 _ _ hx2) rfl rfl (e' rfl (ci' rfl hh (fun hh=>?_) (fun hh=>?_)))))))))
   ·cases hh
    exact t' rfl (re' (rt' rfl rfl rfl))
   exact sk' (T' rfl (lw' (ih1 _ _ _ hh) rfl rfl rfl))
  cases hh
  exact ex' (t' rfl (re' (rt' rfl rfl rfl)))
theorem B17 {t res}(hh:Da t=some res):Iu t res:=(B15).1 _ _ hh
end Go.Proofs.YtdkabnfphmmmnaaGreatDoor

set_option maxRecDepth 100000
set_option maxHeartbeats 4000000
set_option synthInstance.maxSize 20000
set_option linter.unusedVariables false
namespace Go.Proofs.YtdkabnfphmmmnaaGreatDoor
open Go.Am
def Un (o:Int):Option Int:=
 if (bif (bif (bif (o == 0) then true else (o == 1)) then true else (o == 2)) then true else (o == 3))=true then
  some 0
 else
  if (bif (bif (o == 4) then true else (o == 6)) then true else (o == 7))=true then
   some 1
  else
   if (bif (o == 5) then true else (bif (decide (o≥8)) then (decide (o≤22)) else false))=true then
    some 2
   else
    if (o == 23)=true then
     some 3
    else
     some (-1)
theorem N1e {o res}(hh:Un o=some res):L0 C 160 [.d (.int .i64 o)] [] (Ret [] (.d (.int .i64 res))):=by
 unfold Un at hh
 refine L0.intro hC Tryz.func160 rfl rfl rfl (t' rfl (S' (sg' 14 rfl (G' 4 rfl (a1' rfl (po' rfl (G' 2 rfl (a1' rfl (po' rfl (G' 2 rfl (a1' rfl (po' rfl (an' ?_)))))))))))))
 refine n' (ci' rfl hh (fun hh=>?_) (fun hh=>?_))
 ·cases hh
  exact t' rfl (re' (rt' rfl rfl rfl))
 refine sk' (S' (sg' 10 rfl (G' 4 rfl (a1' rfl (po' rfl (G' 2 rfl (a1' rfl (po' rfl (an' (n' (ci' rfl hh (fun hh=>?_) (fun hh=>?_))))))))))))
 ·cases hh
  exact t' rfl (re' (rt' rfl rfl rfl))
 refine sk' (S' (sg' 10 rfl (G' 4 rfl (a1' rfl (a1' rfl (a0' rfl (a1' rfl (pA' rfl (po' rfl (an' (n' (ci' rfl hh (fun hh=>?_) (fun hh=>?_)))))))))))))
 ·cases hh
  exact t' rfl (re' (rt' rfl rfl rfl))
 refine sk' (S' (t' rfl (ci' rfl hh (fun hh=>?_) (fun hh=>?_))))
 ·cases hh
  exact t' rfl (re' (rt' rfl rfl rfl))
 cases hh
 exact sk' (t' rfl (re' (rt' rfl rfl rfl)))
def Lb (e:B0):Option Bool:=
 if (e.Op == 3)=true then
  some true
 else
  (if (bif (bif (e.Op == 4) then true else (e.Op == 5)) then (decide (((e.Kids).length:Int) > 0)) else false)=true then idx e.Kids 0 else some default)>>=fun x1=>
  (if (bif (bif (e.Op == 4) then true else (e.Op == 5)) then (decide (((e.Kids).length:Int) > 0)) else false)=true then Lb x1 else some default)>>=fun x2=>
  some (bif (bif (bif (e.Op == 4) then true else (e.Op == 5)) then (decide (((e.Kids).length:Int) > 0)) else false) then x2 else false)
 partial_fixpoint
abbrev Vv (e:B0)(res:Bool):Prop:=L0 C 129 [.agg (B0.cells e)] [] (Ret [] (.d (.bool res)))
theorem C17:(∀ e res,Lb e=some res→Vv e res):=by
 refine Lb.partial_correctness _ ?_
 ·intro g0 ih0 e res hh
  refine L0.intro hC Tryz.func129 rfl rfl rfl (s' rfl rfl (E0.n hC rfl (e' rfl (S' (t' rfl (ci' rfl hh (fun hh=>?_) (fun hh=>?_)))))))
  ·cases hh
   exact t' rfl (re' (rt' rfl rfl rfl))
  obtain ⟨x1,hx1,hh⟩:=bs' hh
  obtain ⟨x2,hx2,hh⟩:=bs' hh
  cases hh
  refine sk' (sg' 22 rfl (G' 5 rfl (a1' rfl (a1' rfl (po' rfl (G' 2 rfl (a1' rfl (AG.qe hC rfl (fun hg=>⟨⟨hg,trivial⟩,trivial⟩) (B0.lenA _) (a1' rfl (pa' rfl (G' 2 rfl (a1' rfl (AG.i hC rfl rfl (fun hg=>⟨hg,trivial⟩) (fun hw=>⟨T0 (I1 hw hx1),B0.idx (I1 hw hx1),rfl⟩) ?_)))))))))))))
  exact a1' rfl (AG.c rfl rfl (fun hg=>⟨hg,trivial⟩) (fun hw=>ih0 _ _ (I1 hw hx2)) (pa' rfl (a0' rfl (an' (n' (re' (rt' rfl rfl rfl)))))))
theorem Ju {e res}(hh:Lb e=some res):Vv e res:=(C17) _ _ hh
mutual
def O4 (e:B0):Option Bool:=
 Un e.Op>>=fun x1=>
 if (bif (bif (x1 != ((e.Kids).length:Int)) then true else (bif (e.Op != 0) then (e.NV != 0) else false)) then true else (bif (bif (e.Op != 3) then (e.Op != 4) else false) then (!(e.Name == [])) else false))=true then
  some false
 else
  (if (bif (e.Op == 4) then true else (e.Op == 5))=true then Lb e else some default)>>=fun x2=>
  if (bif (bif (e.Op == 4) then true else (e.Op == 5)) then (!x2) else false)=true then
   some false
  else
   Hb e 0
 partial_fixpoint
def Hb (e:B0)(i:Int):Option Bool:=
 if (decide (i < ((e.Kids).length:Int)))=true then
  idx e.Kids i>>=fun x3=>
  O4 x3>>=fun x4=>
  if (!x4)=true then
   some false
  else
   Hb e (IntKind.i64.wrap (i+1))
 else
  some true
 partial_fixpoint
end
abbrev Ku (e:B0)(res:Bool):Prop:=L0 C 91 [.agg (B0.cells e)] [] (Ret [] (.d (.bool res)))
abbrev X12 (e:B0)(i:Int)(res:Bool):Prop:=LM C 63 0 Tryz.f91 [1,1,1,0,1,4] [(1,.ref 0 0),(3,.d (.int .i64 i))] [.row (B0.cells e) 34] (Ret [] (.d (.bool res)))
theorem C15:(∀ e res,O4 e=some res→Ku e res)∧(∀ e i res,Hb e i=some res→X12 e i res):=by
 refine O4.mutual_partial_correctness _ _ ?_ ?_
 ·intro g1 ih1 e res hh
  obtain ⟨x1,hx1,hh⟩:=bs' hh
  refine L0.intro hC Tryz.func91 rfl rfl rfl (s' rfl rfl (E0.n hC rfl (e' rfl (S' (S' (AEx.drawG hC 32 rfl rfl rfl (G' 2 rfl (AG.c rfl rfl (fun _=>trivial) (fun _=>N1e hx1) (G' 2 rfl (AG.qe hC rfl (fun hg=>⟨trivial,trivial⟩) (B0.lenA _) (G' 3 rfl (a1' rfl (a1' rfl ?_)))))))))))))
  refine a1' rfl (a0' rfl (a1' rfl (a1' rfl (pA' rfl (po' rfl (G' 2 rfl (a1' rfl (a1' rfl (a1' rfl (a0' rfl (a1' rfl (a1' rfl (pA' rfl ?_)))))))))))))
  refine a1' rfl (a0' rfl (a1' rfl (a1' rfl (pA' rfl (po' rfl (an' (n' (ci' rfl hh (fun hh=>?_) (fun hh=>?_)))))))))
  ·cases hh
   exact t' rfl (re' (rt' rfl rfl rfl))
  obtain ⟨x2,hx2,hh⟩:=bs' hh
  refine sk' (S' (sg' 13 rfl (G' 5 rfl (a1' rfl (a1' rfl (po' rfl (G' 2 rfl (AG.c rfl rfl (fun hg=>⟨hg,trivial⟩) (fun hw=>Ju (I1 hw hx2)) (a1' rfl (pa' rfl (an' (n' (ci' rfl hh (fun hh=>?_) (fun hh=>?_))))))))))))))
  ·cases hh
   exact t' rfl (re' (rt' rfl rfl rfl))
  exact sk' (S' (t' rfl (bk' (fw' (ih1 _ _ _ hh) rfl rfl rfl))))
 ·intro g0 g1 ih0 ih1 e i res hh
  refine X0.unroll (S' (p' 3 rfl (qe' rfl trivial (B0.lenA _) (e' rfl (ci' rfl hh (fun hh=>?_) (fun hh=>?_))))))
  ·obtain ⟨x3,hx3,hh⟩:=bs' hh
   obtain ⟨x4,hx4,hh⟩:=bs' hh
   refine sk' (S' (bk' (p' 3 rfl (i' rfl (T0 hx3) (B0.idx hx3) rfl (q' rfl (c' (ih0 _ _ hx4) rfl rfl (e' rfl (ci' rfl hh (fun hh=>?_) (fun hh=>?_)))))))))
   ·cases hh
    exact t' rfl (re' (rt' rfl rfl rfl))
   exact sk' (T' rfl (lw' (ih1 _ _ _ hh) rfl rfl rfl))
  cases hh
  exact ex' (t' rfl (re' (rt' rfl rfl rfl)))
theorem Ng {e res}(hh:O4 e=some res):Ku e res:=(C15).1 _ _ hh
def Zb (v:Int):Option Bool:=
 some (bif (bif (v == 1) then true else (v == 2)) then true else (v == 7))
theorem Og {v res}(hh:Zb v=some res):L0 C 106 [.d (.int .i64 v)] [] (Ret [] (.d (.bool res))):=by
 unfold Zb at hh
 cases hh
 exact L0.intro hC Tryz.func106 rfl rfl rfl (t' rfl (sg' 11 rfl (G' 4 rfl (a1' rfl (po' rfl (G' 2 rfl (a1' rfl (po' rfl (a0' rfl (an' (n' (re' (rt' rfl rfl rfl)))))))))))))
def Bq (v:Int):Option Bool:=
 some (bif (v == 4) then true else (v == 6))
theorem G1c {v res}(hh:Bq v=some res):L0 C 131 [.d (.int .i64 v)] [] (Ret [] (.d (.bool res))):=by
 unfold Bq at hh
 cases hh
 exact L0.intro hC Tryz.func131 rfl rfl rfl (t' rfl (sg' 7 rfl (G' 4 rfl (a1' rfl (po' rfl (a0' rfl (an' (n' (re' (rt' rfl rfl rfl))))))))))
def Tk (v:Int):Option Bool:=
 some (bif (bif (v == 5) then true else (v == 6)) then true else (v == 7))
theorem D17 {v res}(hh:Tk v=some res):L0 C 132 [.d (.int .i64 v)] [] (Ret [] (.d (.bool res))):=by
 unfold Tk at hh
 cases hh
 exact L0.intro hC Tryz.func132 rfl rfl rfl (t' rfl (sg' 11 rfl (G' 4 rfl (a1' rfl (po' rfl (G' 2 rfl (a1' rfl (po' rfl (a0' rfl (an' (n' (re' (rt' rfl rfl rfl)))))))))))))
mutual
def X6 (l:List C0):Option Bool:=
 Ea l 0
 partial_fixpoint
def Ea (l:List C0)(i:Int):Option Bool:=
 if (decide (i < ((l).length:Int)))=true then
  idx l i>>=fun x1=>
  if (bif (decide (x1.Verb < 0)) then true else (decide (x1.Verb > 8)))=true then
   some false
  else
   Gd x1.Verb>>=fun x2=>
   (if x2=true then Lb x1.Place else some default)>>=fun x3=>
   (if (x2&&(!(!x3)))=true then O4 x1.Place else some default)>>=fun x4=>
   (if (!(bif x2 then (bif (!x3) then true else (!x4)) else false))=true then Gd x1.Verb else some default)>>=fun x5=>
   (if ((!(bif x2 then (bif (!x3) then true else (!x4)) else false))&&(!x5))=true then Aa x1.Place else some default)>>=fun x6=>
   if (bif (bif x2 then (bif (!x3) then true else (!x4)) else false) then true else (bif (!x5) then (!x6) else false))=true then
    some false
   else
    Hd x1.Verb>>=fun x7=>
    (if x7=true then O4 x1.Value else some default)>>=fun x8=>
    (if (!(bif x7 then (!x8) else false))=true then Hd x1.Verb else some default)>>=fun x9=>
    (if ((!(bif x7 then (!x8) else false))&&(!x9))=true then Aa x1.Value else some default)>>=fun x10=>
    if (bif (bif x7 then (!x8) else false) then true else (bif (!x9) then (!x10) else false))=true then
     some false
    else
     Zb x1.Verb>>=fun x11=>
     (if (!(bif (bif (!x11) then (!(x1.Name == [])) else false) then true else (bif (x1.Verb != 1) then (((x1.Args).length:Int) != 0) else false)))=true then Bq x1.Verb else some default)>>=fun x12=>
     if (bif (bif (bif (bif (bif (!x11) then (!(x1.Name == [])) else false) then true else (bif (x1.Verb != 1) then (((x1.Args).length:Int) != 0) else false)) then true else (bif (!x12) then (x1.NV != 0) else false)) then true else (bif (x1.Verb != 7) then (bif (x1.Low != 0) then true else (x1.High != 0)) else false)) then true else (bif (x1.Verb != 8) then (((x1.Numbers).length:Int) != 0) else false))=true then
      some false
     else
      Tk x1.Verb>>=fun x13=>
      if (bif (bif (!x13) then (((x1.Then).length:Int) != 0) else false) then true else (bif (x1.Verb != 5) then (((x1.Else).length:Int) != 0) else false))=true then
       some false
      else
       Rc l x1 i 0
 else
  some true
 partial_fixpoint
def Rc (l:List C0)(x1:C0)(i1:Int)(k:Int):Option Bool:=
 if (decide (k < ((x1.Args).length:Int)))=true then
  idx x1.Args k>>=fun x14=>
  O4 x14>>=fun x15=>
  if (!x15)=true then
   some false
  else
   Rc l x1 i1 (IntKind.i64.wrap (k+1))
 else
  X6 x1.Then>>=fun x16=>
  (if (!(!x16))=true then X6 x1.Else else some default)>>=fun x17=>
  if (bif (!x16) then true else (!x17))=true then
   some false
  else
   Ea l (IntKind.i64.wrap (i1+1))
 partial_fixpoint
end
abbrev Ds (l:List C0)(res:Bool):Prop:=L0 C 67 [.d (.sl (C0.rows l))] [] (Ret [] (.d (.bool res)))
abbrev I10 (l:List C0)(i:Int)(res:Bool):Prop:=LM C 174 0 Tryz.f67 [1,0,1,4] [(0,.d (.sl (C0.rows l))),(3,.d (.int .i64 i))] [] (Ret [] (.d (.bool res)))
abbrev J10 (l:List C0)(x1:C0)(i1:Int)(k:Int)(res:Bool):Prop:=LM C 174 0 Tryz.f67 [1,0,1,4,5,1,0,4,1,1,1,1,1,1,0,1,4] [(0,.d (.sl (C0.rows l))),(3,.d (.int .i64 i1)),(4,.ref 0 0),(5,.d (.int .i64 k))] [.row (C0.cells x1) 53] (Ret [] (.d (.bool res)))
theorem Y12:(∀ l res,X6 l=some res→Ds l res)∧(∀ l i res,Ea l i=some res→I10 l i res)∧(∀ l x1 i1 k res,Rc l x1 i1 k=some res→J10 l x1 i1 k res):=by
 refine X6.mutual_partial_correctness _ _ _ ?_ ?_ ?_
 ·intro g1 ih1 l res hh
  exact L0.intro hC Tryz.func67 rfl rfl rfl (t' rfl (S' (t' rfl (bk' (fw' (ih1 _ _ _ hh) rfl rfl rfl)))))
 ·intro g2 ih2 l i res hh
  refine X0.unroll (S' (p' 2 rfl (qe' rfl trivial (C0.lenA _) (e' rfl (ci' rfl hh (fun hh=>?_) (fun hh=>?_))))))
  ·obtain ⟨x1,hx1,hh⟩:=bs' hh
   refine sk' (S' (bk' (p' 2 rfl (i' rfl (T0 hx1) (C0.idx hx1) rfl (q' rfl (E0.nf hC rfl (E0.s hC rfl (n' (S' (sg' 8 rfl (G' 5 rfl (a1' rfl (a1' rfl ?_)))))))))))))
   refine po' rfl (an' (n' (ci' rfl hh (fun hh=>?_) (fun hh=>?_))))
   ·cases hh
    exact t' rfl (re' (rt' rfl rfl rfl))
   obtain ⟨x2,hx2,hh⟩:=bs' hh
   obtain ⟨x3,hx3,hh⟩:=bs' hh
   obtain ⟨x4,hx4,hh⟩:=bs' hh
   obtain ⟨x5,hx5,hh⟩:=bs' hh
   obtain ⟨x6,hx6,hh⟩:=bs' hh
   refine sk' (S' (sg' 27 rfl (G' 2 rfl (AG.c rfl rfl (fun _=>trivial) (fun _=>Xj hx2) (G' 2 rfl (a1' rfl (AG.c rfl rfl (fun hg=>⟨hg,trivial⟩) (fun hw=>Ju (I1 hw hx3)) (a1' rfl (a1' rfl (a0' rfl (a1' rfl (AG.c rfl rfl (fun hg=>⟨hg,trivial⟩) (fun hw=>Ng (I1 hw hx4)) (a1' rfl ?_)))))))))))))
   refine pO' rfl (pa' rfl (G' 2 rfl (a1' rfl (AG.c rfl rfl (fun hg=>⟨hg,trivial⟩) (fun hw=>Xj (I1 hw hx5)) (a1' rfl (a1' rfl (a0' rfl (a1' rfl (AG.c rfl rfl (fun hg=>⟨hg,trivial⟩) (fun hw=>Mg (I1 hw hx6)) (a1' rfl (pA' rfl (po' rfl (an' ?_)))))))))))))
   refine n' (ci' rfl hh (fun hh=>?_) (fun hh=>?_))
   ·cases hh
    exact t' rfl (re' (rt' rfl rfl rfl))
   obtain ⟨x7,hx7,hh⟩:=bs' hh
   obtain ⟨x8,hx8,hh⟩:=bs' hh
   obtain ⟨x9,hx9,hh⟩:=bs' hh
   obtain ⟨x10,hx10,hh⟩:=bs' hh
   refine sk' (S' (sg' 21 rfl (G' 2 rfl (AG.c rfl rfl (fun _=>trivial) (fun _=>Yj hx7) (G' 2 rfl (a1' rfl (AG.c rfl rfl (fun hg=>⟨hg,trivial⟩) (fun hw=>Ng (I1 hw hx8)) (a1' rfl (pa' rfl (G' 2 rfl (a1' rfl (AG.c rfl rfl (fun hg=>⟨hg,trivial⟩) (fun hw=>Yj (I1 hw hx9)) (a1' rfl ?_)))))))))))))
   refine a1' rfl (a0' rfl (a1' rfl (AG.c rfl rfl (fun hg=>⟨hg,trivial⟩) (fun hw=>Mg (I1 hw hx10)) (a1' rfl (pA' rfl (po' rfl (an' (n' (ci' rfl hh (fun hh=>?_) (fun hh=>?_))))))))))
   ·cases hh
    exact t' rfl (re' (rt' rfl rfl rfl))
   obtain ⟨x11,hx11,hh⟩:=bs' hh
   obtain ⟨x12,hx12,hh⟩:=bs' hh
   refine sk' (S' (sg' 57 rfl (G' 2 rfl (AG.c rfl rfl (fun _=>trivial) (fun _=>Og hx11) (G' 3 rfl (a1' rfl (a1' rfl (pa' rfl (G' 2 rfl (a1' rfl (a1' rfl (a1' rfl (a0' rfl ?_)))))))))))))
   refine a1' rfl (AG.qe hC rfl (fun hg=>⟨⟨hg,trivial⟩,trivial⟩) (B0.lenA _) (a1' rfl (pA' rfl (po' rfl (G' 2 rfl (a1' rfl (AG.c rfl rfl (fun hg=>⟨hg,trivial⟩) (fun hw=>G1c (I1 hw hx12)) (a1' rfl (a1' rfl (a0' rfl (a1' rfl (a1' rfl (pA' rfl ?_)))))))))))))
   refine po' rfl (G' 2 rfl (a1' rfl (a1' rfl (a1' rfl (a0' rfl (a1' rfl (a1' rfl (a1' rfl (a0' rfl (a1' rfl (a1' rfl (pO' rfl (pA' rfl ?_)))))))))))))
   refine po' rfl (G' 2 rfl (a1' rfl (a1' rfl (a1' rfl (a0' rfl (a1' rfl (AG.qe hC rfl (fun hg=>⟨⟨hg,trivial⟩,trivial⟩) (ei64.lenA _) (a1' rfl (pA' rfl (po' rfl (an' (n' (ci' rfl hh (fun hh=>?_) (fun hh=>?_))))))))))))))
   ·cases hh
    exact t' rfl (re' (rt' rfl rfl rfl))
   obtain ⟨x13,hx13,hh⟩:=bs' hh
   refine sk' (S' (sg' 21 rfl (G' 2 rfl (AG.c rfl rfl (fun _=>trivial) (fun _=>D17 hx13) (G' 3 rfl (a1' rfl (AG.qe hC rfl (fun hg=>⟨⟨hg,trivial⟩,trivial⟩) (C0.lenA _) (a1' rfl (pa' rfl (G' 2 rfl (a1' rfl (a1' rfl (a1' rfl ?_)))))))))))))
   refine a0' rfl (a1' rfl (AG.qe hC rfl (fun hg=>⟨⟨hg,trivial⟩,trivial⟩) (C0.lenA _) (a1' rfl (pA' rfl (po' rfl (an' (n' (ci' rfl hh (fun hh=>?_) (fun hh=>?_)))))))))
   ·cases hh
    exact t' rfl (re' (rt' rfl rfl rfl))
   exact sk' (S' (t' rfl (bk' (fw' (ih2 _ _ _ _ _ hh) rfl rfl rfl))))
  cases hh
  exact ex' (t' rfl (re' (rt' rfl rfl rfl)))
 ·intro g0 g1 g2 ih0 ih1 ih2 l x1 i1 k res hh
  refine X0.unroll (S' (p' 3 rfl (qe' rfl trivial (B0.lenA _) (e' rfl (ci' rfl hh (fun hh=>?_) (fun hh=>?_))))))
  ·obtain ⟨x14,hx14,hh⟩:=bs' hh
   obtain ⟨x15,hx15,hh⟩:=bs' hh
   refine sk' (S' (bk' (p' 3 rfl (i' rfl (T0 hx14) (B0.idx hx14) rfl (q' rfl (c' (Ng hx15) rfl rfl (e' rfl (ci' rfl hh (fun hh=>?_) (fun hh=>?_)))))))))
   ·cases hh
    exact t' rfl (re' (rt' rfl rfl rfl))
   exact sk' (T' rfl (lw' (ih2 _ _ _ _ _ hh) rfl rfl rfl))
  obtain ⟨x16,hx16,hh⟩:=bs' hh
  obtain ⟨x17,hx17,hh⟩:=bs' hh
  refine ex' (sg' 10 rfl (G' 2 rfl (AG.c rfl rfl (fun _=>trivial) (fun _=>ih0 _ _ hx16) (G' 3 rfl (a1' rfl (AG.c rfl rfl (fun hg=>⟨hg,trivial⟩) (fun hw=>ih0 _ _ (I1 hw hx17)) (a1' rfl (po' rfl (an' (n' (ci' rfl hh (fun hh=>?_) (fun hh=>?_))))))))))))
  ·cases hh
   exact t' rfl (re' (rt' rfl rfl rfl))
  exact sk' (T' rfl (lw' (ih1 _ _ _ hh) rfl rfl rfl))
theorem Uq {l res}(hh:X6 l=some res):Ds l res:=(Y12).1 _ _ hh
mutual
def S8 (l:List D0):Option Bool:=
 Fa l 0
 partial_fixpoint
def Fa (l:List D0)(i:Int):Option Bool:=
 if (decide (i < ((l).length:Int)))=true then
  idx l i>>=fun x1=>
  Hh x1.Kind>>=fun x2=>
  (if (!(!x2))=true then Da x1.TypeV else some default)>>=fun x3=>
  if (bif (!x2) then true else (!x3))=true then
   some false
  else
   Fd x1.Kind>>=fun x4=>
   (if x4=true then O4 x1.Value else some default)>>=fun x5=>
   (if (!(bif x4 then (!x5) else false))=true then Fd x1.Kind else some default)>>=fun x6=>
   (if ((!(bif x4 then (!x5) else false))&&(!x6))=true then Aa x1.Value else some default)>>=fun x7=>
   if (bif (bif (bif x4 then (!x5) else false) then true else (bif (!x6) then (!x7) else false)) then true else (bif (x1.Kind != 4) then (x1.Init != 0) else false))=true then
    some false
   else
    if (bif (x1.Kind != 6) then (bif (bif (((x1.Params).length:Int) != 0) then true else (((x1.Vars).length:Int) != 0)) then true else (((x1.Body).length:Int) != 0)) else false)=true then
     some false
    else
     Q5 l x1 i 0
 else
  some true
 partial_fixpoint
def Q5 (l:List D0)(x1:D0)(i1:Int)(k:Int):Option Bool:=
 if (decide (k < ((x1.Params).length:Int)))=true then
  idx x1.Params k>>=fun x8=>
  (if (!(x8.Kind != 4))=true then idx x1.Params k else some default)>>=fun x9=>
  if (bif (x8.Kind != 4) then true else (x9.Init != 0))=true then
   some false
  else
   Q5 l x1 i1 (IntKind.i64.wrap (k+1))
 else
  R5 l x1 i1 0
 partial_fixpoint
def R5 (l:List D0)(x1:D0)(i2:Int)(k1:Int):Option Bool:=
 if (decide (k1 < ((x1.Vars).length:Int)))=true then
  idx x1.Vars k1>>=fun x10=>
  if (x10.Kind != 4)=true then
   some false
  else
   R5 l x1 i2 (IntKind.i64.wrap (k1+1))
 else
  S8 x1.Params>>=fun x11=>
  (if (!(!x11))=true then S8 x1.Vars else some default)>>=fun x12=>
  (if (!(bif (!x11) then true else (!x12)))=true then X6 x1.Body else some default)>>=fun x13=>
  if (bif (bif (!x11) then true else (!x12)) then true else (!x13))=true then
   some false
  else
   Fa l (IntKind.i64.wrap (i2+1))
 partial_fixpoint
end
abbrev Es (l:List D0)(res:Bool):Prop:=L0 C 66 [.d (.sl (D0.rows l))] [] (Ret [] (.d (.bool res)))
abbrev K10 (l:List D0)(i:Int)(res:Bool):Prop:=LM C 132 0 Tryz.f66 [1,0,1,4] [(0,.d (.sl (D0.rows l))),(3,.d (.int .i64 i))] [] (Ret [] (.d (.bool res)))
abbrev L10 (l:List D0)(x1:D0)(i1:Int)(k:Int)(res:Bool):Prop:=LM C 132 0 Tryz.f66 [1,0,1,4,5,1,0,4,1,1,1,1,0,1,4] [(0,.d (.sl (D0.rows l))),(3,.d (.int .i64 i1)),(4,.ref 0 0),(5,.d (.int .i64 k))] [.row (D0.cells x1) 59] (Ret [] (.d (.bool res)))
abbrev M10 (l:List D0)(x1:D0)(i2:Int)(k1:Int)(res:Bool):Prop:=LM C 132 0 Tryz.f66 [1,0,1,4,5,1,0,4,1,1,1,1,1,0,1,4] [(0,.d (.sl (D0.rows l))),(3,.d (.int .i64 i2)),(4,.ref 0 0),(6,.d (.int .i64 k1))] [.row (D0.cells x1) 59] (Ret [] (.d (.bool res)))
theorem Z12:(∀ l res,S8 l=some res→Es l res)∧(∀ l i res,Fa l i=some res→K10 l i res)∧(∀ l x1 i1 k res,Q5 l x1 i1 k=some res→L10 l x1 i1 k res)∧(∀ l x1 i2 k1 res,R5 l x1 i2 k1=some res→M10 l x1 i2 k1 res):=by
 refine S8.mutual_partial_correctness _ _ _ _ ?_ ?_ ?_ ?_
 ·intro g1 ih1 l res hh
  exact L0.intro hC Tryz.func66 rfl rfl rfl (t' rfl (S' (t' rfl (bk' (fw' (ih1 _ _ _ hh) rfl rfl rfl)))))
 ·intro g2 ih2 l i res hh
  refine X0.unroll (S' (p' 2 rfl (qe' rfl trivial (D0.lenA _) (e' rfl (ci' rfl hh (fun hh=>?_) (fun hh=>?_))))))
  ·obtain ⟨x1,hx1,hh⟩:=bs' hh
   obtain ⟨x2,hx2,hh⟩:=bs' hh
   obtain ⟨x3,hx3,hh⟩:=bs' hh
   refine sk' (S' (bk' (p' 2 rfl (i' rfl (T0 hx1) (D0.idx hx1) rfl (q' rfl (E0.nf hC rfl (E0.s hC rfl (n' (S' (sg' 10 rfl (G' 2 rfl (AG.c rfl rfl (fun _=>trivial) (fun _=>Vr hx2) (G' 3 rfl ?_)))))))))))))
   refine a1' rfl (AG.c rfl rfl (fun hg=>⟨hg,trivial⟩) (fun hw=>B17 (I1 hw hx3)) (a1' rfl (po' rfl (an' (n' (ci' rfl hh (fun hh=>?_) (fun hh=>?_)))))))
   ·cases hh
    exact t' rfl (re' (rt' rfl rfl rfl))
   obtain ⟨x4,hx4,hh⟩:=bs' hh
   obtain ⟨x5,hx5,hh⟩:=bs' hh
   obtain ⟨x6,hx6,hh⟩:=bs' hh
   obtain ⟨x7,hx7,hh⟩:=bs' hh
   refine sk' (S' (sg' 31 rfl (G' 2 rfl (AG.c rfl rfl (fun _=>trivial) (fun _=>Wj hx4) (G' 2 rfl (a1' rfl (AG.c rfl rfl (fun hg=>⟨hg,trivial⟩) (fun hw=>Ng (I1 hw hx5)) (a1' rfl (pa' rfl (G' 2 rfl (a1' rfl (AG.c rfl rfl (fun hg=>⟨hg,trivial⟩) (fun hw=>Wj (I1 hw hx6)) (a1' rfl ?_)))))))))))))
   refine a1' rfl (a0' rfl (a1' rfl (AG.c rfl rfl (fun hg=>⟨hg,trivial⟩) (fun hw=>Mg (I1 hw hx7)) (a1' rfl (pA' rfl (po' rfl (G' 2 rfl (a1' rfl (a1' rfl (a1' rfl (a0' rfl (a1' rfl (a1' rfl ?_)))))))))))))
   refine pA' rfl (po' rfl (an' (n' (ci' rfl hh (fun hh=>?_) (fun hh=>?_)))))
   ·cases hh
    exact t' rfl (re' (rt' rfl rfl rfl))
   refine sk' (S' (sg' 21 rfl (G' 5 rfl (a1' rfl (AG.qe hC rfl (fun hg=>⟨⟨hg,trivial⟩,trivial⟩) (D0.lenA _) (a1' rfl (a1' rfl (a0' rfl (a1' rfl (AG.qe hC rfl (fun hg=>⟨⟨hg,trivial⟩,trivial⟩) (D0.lenA _) (a1' rfl (pO' rfl (a1' rfl ?_)))))))))))))
   refine a0' rfl (a1' rfl (AG.qe hC rfl (fun hg=>⟨⟨hg,trivial⟩,trivial⟩) (C0.lenA _) (a1' rfl (pO' rfl (pa' rfl (an' (n' (ci' rfl hh (fun hh=>?_) (fun hh=>?_)))))))))
   ·cases hh
    exact t' rfl (re' (rt' rfl rfl rfl))
   exact sk' (S' (t' rfl (bk' (fw' (ih2 _ _ _ _ _ hh) rfl rfl rfl))))
  cases hh
  exact ex' (t' rfl (re' (rt' rfl rfl rfl)))
 ·intro g2 g3 ih2 ih3 l x1 i1 k res hh
  refine X0.unroll (S' (p' 3 rfl (qe' rfl trivial (D0.lenA _) (e' rfl (ci' rfl hh (fun hh=>?_) (fun hh=>?_))))))
  ·obtain ⟨x8,hx8,hh⟩:=bs' hh
   obtain ⟨x9,hx9,hh⟩:=bs' hh
   refine sk' (S' (bk' (sg' 16 rfl (G' 3 rfl (AG.i hC rfl rfl (fun _=>trivial) (fun hw=>⟨T0 hx8,D0.idx hx8,rfl⟩) (G' 5 rfl (a1' rfl (a0' rfl (AG.i hC rfl rfl (fun hg=>⟨hg,hg,trivial⟩) (fun hw=>⟨T0 (I1 hw hx9),D0.idx (I1 hw hx9),rfl⟩) (a1' rfl (a1' rfl (a1' rfl (po' rfl ?_)))))))))))))
   refine an' (n' (ci' rfl hh (fun hh=>?_) (fun hh=>?_)))
   ·cases hh
    exact t' rfl (re' (rt' rfl rfl rfl))
   exact sk' (T' rfl (lw' (ih2 _ _ _ _ _ hh) rfl rfl rfl))
  exact ex' (S' (t' rfl (bk' (fw' (ih3 _ _ _ _ _ hh) rfl rfl rfl))))
 ·intro g0 g1 g3 ih0 ih1 ih3 l x1 i2 k1 res hh
  refine X0.unroll (S' (p' 3 rfl (qe' rfl trivial (D0.lenA _) (e' rfl (ci' rfl hh (fun hh=>?_) (fun hh=>?_))))))
  ·obtain ⟨x10,hx10,hh⟩:=bs' hh
   refine sk' (S' (bk' (p' 3 rfl (i' rfl (T0 hx10) (D0.idx hx10) rfl (e' rfl (ci' rfl hh (fun hh=>?_) (fun hh=>?_)))))))
   ·cases hh
    exact t' rfl (re' (rt' rfl rfl rfl))
   exact sk' (T' rfl (lw' (ih3 _ _ _ _ _ hh) rfl rfl rfl))
  obtain ⟨x11,hx11,hh⟩:=bs' hh
  obtain ⟨x12,hx12,hh⟩:=bs' hh
  obtain ⟨x13,hx13,hh⟩:=bs' hh
  refine ex' (sg' 16 rfl (G' 2 rfl (AG.c rfl rfl (fun _=>trivial) (fun _=>ih0 _ _ hx11) (G' 3 rfl (a1' rfl (AG.c rfl rfl (fun hg=>⟨hg,trivial⟩) (fun hw=>ih0 _ _ (I1 hw hx12)) (a1' rfl (po' rfl (G' 2 rfl (a1' rfl (AG.c rfl rfl (fun hg=>⟨hg,trivial⟩) (fun hw=>Uq (I1 hw hx13)) (a1' rfl (po' rfl ?_)))))))))))))
  refine an' (n' (ci' rfl hh (fun hh=>?_) (fun hh=>?_)))
  ·cases hh
   exact t' rfl (re' (rt' rfl rfl rfl))
  exact sk' (T' rfl (lw' (ih1 _ _ _ hh) rfl rfl rfl))
theorem D15 {l res}(hh:S8 l=some res):Es l res:=(Z12).1 _ _ hh
def Jh (c:Int):Option Bool:=
 some (bif (decide (c≥97)) then (decide (c≤122)) else false)
theorem Vn {c res}(hh:Jh c=some res):L0 C 170 [.d (.int .u8 c)] [] (Ret [] (.d (.bool res))):=by
 unfold Jh at hh
 cases hh
 exact L0.intro hC Tryz.func170 rfl rfl rfl (t' rfl (sg' 7 rfl (G' 4 rfl (a1' rfl (pa' rfl (a0' rfl (an' (n' (re' (rt' rfl rfl rfl))))))))))
def P6 (s:Str)(i1:Int):Option Bool:=
 if (decide ((IntKind.i64.wrap ((IntKind.i64.wrap (i1+((s).length:Int)))+2))≤162))=true then
  slc [32,116,121,112,101,32,115,101,99,114,101,116,32,112,117,98,108,105,99,32,114,97,110,100,111,109,32,118,97,114,32,104,97,116,99,104,32,102,117,110,99,32,114,101,116,117,114,110,32,98,101,103,105,110,32,101,110,100,32,98,111,111,108,32,105,110,116,32,97,114,114,97,121,32,111,102,32,114,101,99,111,114,100,32,116,114,117,101,32,102,97,108,115,101,32,99,97,108,108,32,114,101,108,101,97,115,101,32,111,117,116,112,117,116,32,119,97,105,116,32,105,102,32,101,108,115,101,32,119,104,105,108,101,32,108,105,109,105,116,32,102,111,114,32,116,111,32,115,101,116,116,108,101,32,109,105,110,32,109,97,120,32] i1 (IntKind.i64.wrap ((IntKind.i64.wrap (i1+((s).length:Int)))+2))>>=fun x3=>
  if (decide (1+s.length≤maxLen))=true then
   if (decide (([32]++s).length+1≤maxLen))=true then
    if (x3 == (([32]++s)++[32]))=true then
     some true
    else
     P6 s (IntKind.i64.wrap (i1+1))
   else none
  else none
 else
  some false
 partial_fixpoint
abbrev Bp (s:Str)(i1:Int)(res:Bool):Prop:=LM C 38 0 Tryz.f171 [1,1,1,0,1,4] [(0,.d (.str s)),(4,.d (.int .i64 i1))] [] (Ret [] (.d (.bool res)))
theorem Hy (s:Str):(∀ i1 res,P6 s i1=some res→Bp s i1 res):=by
 refine P6.partial_correctness s _ ?_
 ·intro g0 ih0 i1 res hh
  refine X0.unroll (S' (t' rfl (ci' rfl hh (fun hh=>?_) (fun hh=>?_))))
  ·obtain ⟨x3,hx3,hh⟩:=bs' hh
   obtain ⟨c13,hh⟩:=J1 hh
   obtain ⟨c14,hh⟩:=J1 hh
   refine sk' (S' (bk' (p' 6 rfl (E0.lx hC rfl hx3 (q' rfl (qc' rfl c13 (qc' rfl c14 (e' rfl (ci' rfl hh (fun hh=>?_) (fun hh=>?_))))))))))
   ·cases hh
    exact t' rfl (re' (rt' rfl rfl rfl))
   exact sk' (T' rfl (lw' (ih0 _ _ hh) rfl rfl rfl))
  cases hh
  exact ex' (t' rfl (re' (rt' rfl rfl rfl)))
theorem N10 {s i1 res}(hh:P6 s i1=some res):Bp s i1 res:=(Hy s) _ _ hh
def Q6 (s:Str)(i:Int):Option Bool:=
 if (decide (i < ((s).length:Int)))=true then
  idx s i>>=fun x1=>
  Jh (x1.toNat:Int)>>=fun x2=>
  if (!x2)=true then
   some false
  else
   Q6 s (IntKind.i64.wrap (i+1))
 else
  P6 s 0
 partial_fixpoint
abbrev Cp (s:Str)(i:Int)(res:Bool):Prop:=LM C 38 0 Tryz.f171 [1,1,0,1,4] [(0,.d (.str s)),(3,.d (.int .i64 i))] [] (Ret [] (.d (.bool res)))
theorem Iy (s:Str):(∀ i res,Q6 s i=some res→Cp s i res):=by
 refine Q6.partial_correctness s _ ?_
 ·intro g0 ih0 i res hh
  refine X0.unroll (S' (t' rfl (ci' rfl hh (fun hh=>?_) (fun hh=>?_))))
  ·obtain ⟨x1,hx1,hh⟩:=bs' hh
   obtain ⟨x2,hx2,hh⟩:=bs' hh
   refine sk' (S' (bk' (p' 2 rfl (x' rfl (T0 hx1) (Jk hx1) (c' (Vn hx2) rfl rfl (e' rfl (ci' rfl hh (fun hh=>?_) (fun hh=>?_))))))))
   ·cases hh
    exact t' rfl (re' (rt' rfl rfl rfl))
   exact sk' (T' rfl (lw' (ih0 _ _ hh) rfl rfl rfl))
  exact ex' (S' (t' rfl (bk' (fw' (N10 hh) rfl rfl rfl))))
theorem O10 {s i res}(hh:Q6 s i=some res):Cp s i res:=(Iy s) _ _ hh
def Kh (s:Str):Option Bool:=
 if (((s).length:Int) == 0)=true then
  some false
 else
  Q6 s 0
theorem E17 {s res}(hh:Kh s=some res):L0 C 171 [.d (.str s)] [] (Ret [] (.d (.bool res))):=by
 unfold Kh at hh
 refine L0.intro hC Tryz.func171 rfl rfl rfl (t' rfl (S' (t' rfl (ci' rfl hh (fun hh=>?_) (fun hh=>?_)))))
 ·cases hh
  exact t' rfl (re' (rt' rfl rfl rfl))
 exact sk' (S' (t' rfl (bk' (fw' (O10 hh) rfl rfl rfl))))
def Cq (c:Int):Option Bool:=
 some (bif (decide (c≥48)) then (decide (c≤57)) else false)
theorem H1c {c res}(hh:Cq c=some res):L0 C 206 [.d (.int .u8 c)] [] (Ret [] (.d (.bool res))):=by
 unfold Cq at hh
 cases hh
 exact L0.intro hC Tryz.func206 rfl rfl rfl (t' rfl (sg' 7 rfl (G' 4 rfl (a1' rfl (pa' rfl (a0' rfl (an' (n' (re' (rt' rfl rfl rfl))))))))))
def Sc (s:Str)(atV1:Int):Option Int:=
 (if (decide (atV1 < ((s).length:Int)))=true then idx s atV1 else some default)>>=fun x1=>
 (if (decide (atV1 < ((s).length:Int)))=true then Jh (x1.toNat:Int) else some default)>>=fun x2=>
 (if ((decide (atV1 < ((s).length:Int)))&&(!x2))=true then idx s atV1 else some default)>>=fun x3=>
 (if ((decide (atV1 < ((s).length:Int)))&&(!x2))=true then Cq (x3.toNat:Int) else some default)>>=fun x4=>
 if (bif (decide (atV1 < ((s).length:Int))) then (bif x2 then true else x4) else false)=true then
  Sc s (IntKind.i64.wrap (atV1+1))
 else
  some atV1
 partial_fixpoint
abbrev Jy (s:Str)(atV1:Int)(res:Int):Prop:=LM C 24 0 Tryz.f172 [1,0,4] [(0,.d (.str s)),(1,.d (.int .i64 atV1))] [] (Ret [] (.d (.int .i64 res)))
theorem K18 (s:Str):(∀ atV1 res,Sc s atV1=some res→Jy s atV1 res):=by
 refine Sc.partial_correctness s _ ?_
 ·intro g0 ih0 atV1 res hh
  obtain ⟨x1,hx1,hh⟩:=bs' hh
  obtain ⟨x2,hx2,hh⟩:=bs' hh
  obtain ⟨x3,hx3,hh⟩:=bs' hh
  obtain ⟨x4,hx4,hh⟩:=bs' hh
  refine X0.unroll (S' (sg' 16 rfl (G' 7 rfl (AG.x hC rfl rfl (fun hg=>⟨hg,hg,trivial⟩) (fun hw=>⟨T0 (I1 hw hx1),Jk (I1 hw hx1)⟩) (AG.c rfl rfl (fun hg=>⟨hg,trivial⟩) (fun hw=>Vn (I1 hw hx2)) (a1' rfl (G' 2 rfl (AG.x hC rfl rfl (fun hg=>⟨hg,hg,trivial⟩) (fun hw=>⟨T0 (I1 hw hx3),Jk (I1 hw hx3)⟩) ?_))))))))
  refine AG.c rfl rfl (fun hg=>⟨hg,trivial⟩) (fun hw=>H1c (I1 hw hx4)) (pO' rfl (pa' rfl (an' (n' (ci' rfl hh (fun hh=>?_) (fun hh=>?_))))))
  ·exact sk' (bk' (T' rfl (lw' (ih0 _ _ hh) rfl rfl rfl)))
  cases hh
  exact ex' (t' rfl (re' (rt' rfl rfl rfl)))
theorem W1a {s atV1 res}(hh:Sc s atV1=some res):Jy s atV1 res:=(K18 s) _ _ hh
def Vq (s:Str)(atV:Int):Option Int:=
 Sc s atV
theorem H1g {s atV res}(hh:Vq s atV=some res):L0 C 172 [.d (.str s),.d (.int .i64 atV)] [] (Ret [] (.d (.int .i64 res))):=by
 unfold Vq at hh
 exact L0.intro hC Tryz.func172 rfl rfl rfl (t' rfl (S' (bk' (fw' (W1a hh) rfl rfl rfl))))
def Wn (s:Str):Option Bool:=
 (if (!(bif (decide (((s).length:Int) < 1)) then true else (decide (((s).length:Int) > 12))))=true then idx s 0 else some default)>>=fun x1=>
 (if (!(bif (decide (((s).length:Int) < 1)) then true else (decide (((s).length:Int) > 12))))=true then Jh (x1.toNat:Int) else some default)>>=fun x2=>
 (if (!(bif (bif (decide (((s).length:Int) < 1)) then true else (decide (((s).length:Int) > 12))) then true else (!x2)))=true then Kh s else some default)>>=fun x3=>
 if (bif (bif (bif (decide (((s).length:Int) < 1)) then true else (decide (((s).length:Int) > 12))) then true else (!x2)) then true else x3)=true then
  some false
 else
  Vq s 0>>=fun x4=>
  some (x4 == ((s).length:Int))
theorem X1a {s res}(hh:Wn s=some res):L0 C 102 [.d (.str s)] [] (Ret [] (.d (.bool res))):=by
 unfold Wn at hh
 obtain ⟨x1,hx1,hh⟩:=bs' hh
 obtain ⟨x2,hx2,hh⟩:=bs' hh
 obtain ⟨x3,hx3,hh⟩:=bs' hh
 refine L0.intro hC Tryz.func102 rfl rfl rfl (t' rfl (S' (sg' 18 rfl (G' 5 rfl (a1' rfl (a1' rfl (po' rfl (G' 2 rfl (AG.x hC rfl rfl (fun hg=>⟨hg,trivial⟩) (fun hw=>⟨T0 (I1 hw hx1),Jk (I1 hw hx1)⟩) (AG.c rfl rfl (fun hg=>⟨hg,trivial⟩) (fun hw=>Vn (I1 hw hx2)) (a1' rfl (po' rfl (G' 2 rfl ?_)))))))))))))
 refine AG.c rfl rfl (fun hg=>⟨hg,trivial⟩) (fun hw=>E17 (I1 hw hx3)) (po' rfl (an' (n' (ci' rfl hh (fun hh=>?_) (fun hh=>?_)))))
 ·cases hh
  exact t' rfl (re' (rt' rfl rfl rfl))
 obtain ⟨x4,hx4,hh⟩:=bs' hh
 cases hh
 exact sk' (p' 1 rfl (c' (H1g hx4) rfl rfl (e' rfl (re' (rt' rfl rfl rfl)))))
def C6 (s:Str):Option Bool:=
 Wn s>>=fun x1=>
 some x1
theorem Va {s res}(hh:C6 s=some res):L0 C 48 [.d (.str s)] [] (Ret [] (.d (.bool res))):=by
 unfold C6 at hh
 obtain ⟨x1,hx1,hh⟩:=bs' hh
 cases hh
 exact L0.intro hC Tryz.func48 rfl rfl rfl (t' rfl (p' 1 rfl (c' (X1a hx1) rfl rfl (e' rfl (re' (rt' rfl rfl rfl))))))
mutual
def T8 (t:A0):Option Bool:=
 (if (t.Kind == 4)=true then C6 t.Name else some default)>>=fun x1=>
 if (bif (t.Kind == 4) then (!x1) else false)=true then
  some false
 else
  Ga t 0
 partial_fixpoint
def Ga (t:A0)(i:Int):Option Bool:=
 if (decide (i < ((t.Names).length:Int)))=true then
  idx t.Names i>>=fun x2=>
  C6 x2>>=fun x3=>
  if (!x3)=true then
   some false
  else
   Ga t (IntKind.i64.wrap (i+1))
 else
  L7 t 0
 partial_fixpoint
def L7 (t:A0)(i1:Int):Option Bool:=
 if (decide (i1 < ((t.Of).length:Int)))=true then
  idx t.Of i1>>=fun x4=>
  T8 x4>>=fun x5=>
  if (!x5)=true then
   some false
  else
   L7 t (IntKind.i64.wrap (i1+1))
 else
  some true
 partial_fixpoint
end
abbrev Fs (t:A0)(res:Bool):Prop:=L0 C 133 [.agg (A0.cells t)] [] (Ret [] (.d (.bool res)))
abbrev P10 (t:A0)(i:Int)(res:Bool):Prop:=LM C 42 0 Tryz.f133 [1,1,0,1,4] [(1,.ref 0 0),(3,.d (.int .i64 i))] [.row (A0.cells t) 40] (Ret [] (.d (.bool res)))
abbrev Q10 (t:A0)(i1:Int)(res:Bool):Prop:=LM C 42 0 Tryz.f133 [1,1,1,0,1,4] [(1,.ref 0 0),(4,.d (.int .i64 i1))] [.row (A0.cells t) 40] (Ret [] (.d (.bool res)))
theorem A13:(∀ t res,T8 t=some res→Fs t res)∧(∀ t i res,Ga t i=some res→P10 t i res)∧(∀ t i1 res,L7 t i1=some res→Q10 t i1 res):=by
 refine T8.mutual_partial_correctness _ _ _ ?_ ?_ ?_
 ·intro g1 ih1 t res hh
  obtain ⟨x1,hx1,hh⟩:=bs' hh
  refine L0.intro hC Tryz.func133 rfl rfl rfl (s' rfl rfl (E0.n hC rfl (e' rfl (S' (sg' 9 rfl (G' 5 rfl (a1' rfl (AG.c rfl rfl (fun hg=>⟨hg,trivial⟩) (fun hw=>Va (I1 hw hx1)) (a1' rfl (pa' rfl (an' (n' (ci' rfl hh (fun hh=>?_) (fun hh=>?_))))))))))))))
  ·cases hh
   exact t' rfl (re' (rt' rfl rfl rfl))
  exact sk' (S' (t' rfl (bk' (fw' (ih1 _ _ _ hh) rfl rfl rfl))))
 ·intro g1 g2 ih1 ih2 t i res hh
  refine X0.unroll (S' (p' 3 rfl (qe' rfl trivial (estr.lenA _) (e' rfl (ci' rfl hh (fun hh=>?_) (fun hh=>?_))))))
  ·obtain ⟨x2,hx2,hh⟩:=bs' hh
   obtain ⟨x3,hx3,hh⟩:=bs' hh
   refine sk' (S' (bk' (p' 3 rfl (i' rfl (T0 hx2) (estr.idx hx2) rfl (q' rfl (c' (Va hx3) rfl rfl (e' rfl (ci' rfl hh (fun hh=>?_) (fun hh=>?_)))))))))
   ·cases hh
    exact t' rfl (re' (rt' rfl rfl rfl))
   exact sk' (T' rfl (lw' (ih1 _ _ _ hh) rfl rfl rfl))
  exact ex' (S' (t' rfl (bk' (fw' (ih2 _ _ _ hh) rfl rfl rfl))))
 ·intro g0 g2 ih0 ih2 t i1 res hh
  refine X0.unroll (S' (p' 3 rfl (qe' rfl trivial (A0.lenA _) (e' rfl (ci' rfl hh (fun hh=>?_) (fun hh=>?_))))))
  ·obtain ⟨x4,hx4,hh⟩:=bs' hh
   obtain ⟨x5,hx5,hh⟩:=bs' hh
   refine sk' (S' (bk' (p' 3 rfl (i' rfl (T0 hx4) (A0.idx hx4) rfl (q' rfl (c' (ih0 _ _ hx5) rfl rfl (e' rfl (ci' rfl hh (fun hh=>?_) (fun hh=>?_)))))))))
   ·cases hh
    exact t' rfl (re' (rt' rfl rfl rfl))
   exact sk' (T' rfl (lw' (ih2 _ _ _ hh) rfl rfl rfl))
  cases hh
  exact ex' (t' rfl (re' (rt' rfl rfl rfl)))
theorem E15 {t res}(hh:T8 t=some res):Fs t res:=(A13).1 _ _ hh
mutual
def B4 (e:B0):Option Bool:=
 (if (bif (e.Op == 3) then true else (e.Op == 4))=true then C6 e.Name else some default)>>=fun x1=>
 if (bif (bif (e.Op == 3) then true else (e.Op == 4)) then (!x1) else false)=true then
  some false
 else
  Ha e 0
 partial_fixpoint
def Ha (e:B0)(i:Int):Option Bool:=
 if (decide (i < ((e.Kids).length:Int)))=true then
  idx e.Kids i>>=fun x2=>
  B4 x2>>=fun x3=>
  if (!x3)=true then
   some false
  else
   Ha e (IntKind.i64.wrap (i+1))
 else
  some true
 partial_fixpoint
end
abbrev Gs (e:B0)(res:Bool):Prop:=L0 C 92 [.agg (B0.cells e)] [] (Ret [] (.d (.bool res)))
abbrev R10 (e:B0)(i:Int)(res:Bool):Prop:=LM C 32 0 Tryz.f92 [1,1,0,1,4] [(1,.ref 0 0),(3,.d (.int .i64 i))] [.row (B0.cells e) 34] (Ret [] (.d (.bool res)))
theorem B13:(∀ e res,B4 e=some res→Gs e res)∧(∀ e i res,Ha e i=some res→R10 e i res):=by
 refine B4.mutual_partial_correctness _ _ ?_ ?_
 ·intro g1 ih1 e res hh
  obtain ⟨x1,hx1,hh⟩:=bs' hh
  refine L0.intro hC Tryz.func92 rfl rfl rfl (s' rfl rfl (E0.n hC rfl (e' rfl (S' (sg' 14 rfl (G' 5 rfl (a1' rfl (a1' rfl (po' rfl (G' 2 rfl (a1' rfl (AG.c rfl rfl (fun hg=>⟨hg,trivial⟩) (fun hw=>Va (I1 hw hx1)) (a1' rfl ?_)))))))))))))
  refine pa' rfl (an' (n' (ci' rfl hh (fun hh=>?_) (fun hh=>?_))))
  ·cases hh
   exact t' rfl (re' (rt' rfl rfl rfl))
  exact sk' (S' (t' rfl (bk' (fw' (ih1 _ _ _ hh) rfl rfl rfl))))
 ·intro g0 g1 ih0 ih1 e i res hh
  refine X0.unroll (S' (p' 3 rfl (qe' rfl trivial (B0.lenA _) (e' rfl (ci' rfl hh (fun hh=>?_) (fun hh=>?_))))))
  ·obtain ⟨x2,hx2,hh⟩:=bs' hh
   obtain ⟨x3,hx3,hh⟩:=bs' hh
   refine sk' (S' (bk' (p' 3 rfl (i' rfl (T0 hx2) (B0.idx hx2) rfl (q' rfl (c' (ih0 _ _ hx3) rfl rfl (e' rfl (ci' rfl hh (fun hh=>?_) (fun hh=>?_)))))))))
   ·cases hh
    exact t' rfl (re' (rt' rfl rfl rfl))
   exact sk' (T' rfl (lw' (ih1 _ _ _ hh) rfl rfl rfl))
  cases hh
  exact ex' (t' rfl (re' (rt' rfl rfl rfl)))
theorem Uf {e res}(hh:B4 e=some res):Gs e res:=(B13).1 _ _ hh
mutual
def Y5 (l:List C0):Option Bool:=
 X8 l 0
 partial_fixpoint
def X8 (l:List C0)(i:Int):Option Bool:=
 if (decide (i < ((l).length:Int)))=true then
  idx l i>>=fun x1=>
  Zb x1.Verb>>=fun x2=>
  (if x2=true then C6 x1.Name else some default)>>=fun x3=>
  (if (!(bif x2 then (!x3) else false))=true then B4 x1.Place else some default)>>=fun x4=>
  (if (!(bif (bif x2 then (!x3) else false) then true else (!x4)))=true then B4 x1.Value else some default)>>=fun x5=>
  (if (!(bif (bif (bif x2 then (!x3) else false) then true else (!x4)) then true else (!x5)))=true then Y5 x1.Then else some default)>>=fun x6=>
  (if (!(bif (bif (bif (bif x2 then (!x3) else false) then true else (!x4)) then true else (!x5)) then true else (!x6)))=true then Y5 x1.Else else some default)>>=fun x7=>
  if (bif (bif (bif (bif (bif x2 then (!x3) else false) then true else (!x4)) then true else (!x5)) then true else (!x6)) then true else (!x7))=true then
   some false
  else
   Ub l x1 i 0
 else
  some true
 partial_fixpoint
def Ub (l:List C0)(x1:C0)(i1:Int)(k:Int):Option Bool:=
 if (decide (k < ((x1.Args).length:Int)))=true then
  idx x1.Args k>>=fun x8=>
  B4 x8>>=fun x9=>
  if (!x9)=true then
   some false
  else
   Ub l x1 i1 (IntKind.i64.wrap (k+1))
 else
  X8 l (IntKind.i64.wrap (i1+1))
 partial_fixpoint
end
abbrev Wq (l:List C0)(res:Bool):Prop:=L0 C 69 [.d (.sl (C0.rows l))] [] (Ret [] (.d (.bool res)))
abbrev Ky (l:List C0)(i:Int)(res:Bool):Prop:=LM C 63 0 Tryz.f69 [1,0,1,4] [(0,.d (.sl (C0.rows l))),(3,.d (.int .i64 i))] [] (Ret [] (.d (.bool res)))
abbrev Ly (l:List C0)(x1:C0)(i1:Int)(k:Int)(res:Bool):Prop:=LM C 63 0 Tryz.f69 [1,0,1,4,5,1,0,4,1,1,1,4] [(0,.d (.sl (C0.rows l))),(3,.d (.int .i64 i1)),(4,.ref 0 0),(5,.d (.int .i64 k))] [.row (C0.cells x1) 53] (Ret [] (.d (.bool res)))
theorem S10:(∀ l res,Y5 l=some res→Wq l res)∧(∀ l i res,X8 l i=some res→Ky l i res)∧(∀ l x1 i1 k res,Ub l x1 i1 k=some res→Ly l x1 i1 k res):=by
 refine Y5.mutual_partial_correctness _ _ _ ?_ ?_ ?_
 ·intro g1 ih1 l res hh
  exact L0.intro hC Tryz.func69 rfl rfl rfl (t' rfl (S' (t' rfl (bk' (fw' (ih1 _ _ _ hh) rfl rfl rfl)))))
 ·intro g0 g2 ih0 ih2 l i res hh
  refine X0.unroll (S' (p' 2 rfl (qe' rfl trivial (C0.lenA _) (e' rfl (ci' rfl hh (fun hh=>?_) (fun hh=>?_))))))
  ·obtain ⟨x1,hx1,hh⟩:=bs' hh
   obtain ⟨x2,hx2,hh⟩:=bs' hh
   obtain ⟨x3,hx3,hh⟩:=bs' hh
   obtain ⟨x4,hx4,hh⟩:=bs' hh
   obtain ⟨x5,hx5,hh⟩:=bs' hh
   obtain ⟨x6,hx6,hh⟩:=bs' hh
   obtain ⟨x7,hx7,hh⟩:=bs' hh
   refine sk' (S' (bk' (p' 2 rfl (i' rfl (T0 hx1) (C0.idx hx1) rfl (q' rfl (E0.nf hC rfl (E0.s hC rfl (n' (S' (sg' 33 rfl (G' 2 rfl (AG.c rfl rfl (fun _=>trivial) (fun _=>Og hx2) (G' 2 rfl ?_)))))))))))))
   refine a1' rfl (AG.c rfl rfl (fun hg=>⟨hg,trivial⟩) (fun hw=>Va (I1 hw hx3)) (a1' rfl (pa' rfl (G' 2 rfl (a1' rfl (AG.c rfl rfl (fun hg=>⟨hg,trivial⟩) (fun hw=>Uf (I1 hw hx4)) (a1' rfl (po' rfl (G' 2 rfl (a1' rfl (AG.c rfl rfl (fun hg=>⟨hg,trivial⟩) (fun hw=>Uf (I1 hw hx5)) (a1' rfl (po' rfl ?_)))))))))))))
   refine G' 2 rfl (a1' rfl (AG.c rfl rfl (fun hg=>⟨hg,trivial⟩) (fun hw=>ih0 _ _ (I1 hw hx6)) (a1' rfl (po' rfl (G' 2 rfl (a1' rfl (AG.c rfl rfl (fun hg=>⟨hg,trivial⟩) (fun hw=>ih0 _ _ (I1 hw hx7)) (a1' rfl (po' rfl (an' (n' (ci' rfl hh (fun hh=>?_) (fun hh=>?_)))))))))))))
   ·cases hh
    exact t' rfl (re' (rt' rfl rfl rfl))
   exact sk' (t' rfl (bk' (fw' (ih2 _ _ _ _ _ hh) rfl rfl rfl)))
  cases hh
  exact ex' (t' rfl (re' (rt' rfl rfl rfl)))
 ·intro g1 g2 ih1 ih2 l x1 i1 k res hh
  refine X0.unroll (S' (p' 3 rfl (qe' rfl trivial (B0.lenA _) (e' rfl (ci' rfl hh (fun hh=>?_) (fun hh=>?_))))))
  ·obtain ⟨x8,hx8,hh⟩:=bs' hh
   obtain ⟨x9,hx9,hh⟩:=bs' hh
   refine sk' (S' (bk' (p' 3 rfl (i' rfl (T0 hx8) (B0.idx hx8) rfl (q' rfl (c' (Uf hx9) rfl rfl (e' rfl (ci' rfl hh (fun hh=>?_) (fun hh=>?_)))))))))
   ·cases hh
    exact t' rfl (re' (rt' rfl rfl rfl))
   exact sk' (T' rfl (lw' (ih2 _ _ _ _ _ hh) rfl rfl rfl))
  exact ex' (T' rfl (lw' (ih1 _ _ _ hh) rfl rfl rfl))
theorem Dp {l res}(hh:Y5 l=some res):Wq l res:=(S10).1 _ _ hh
mutual
def M7 (l:List D0):Option Bool:=
 Y8 l 0
 partial_fixpoint
def Y8 (l:List D0)(i:Int):Option Bool:=
 if (decide (i < ((l).length:Int)))=true then
  idx l i>>=fun x1=>
  C6 x1.Name>>=fun x2=>
  (if (!(!x2))=true then T8 x1.TypeV else some default)>>=fun x3=>
  (if (!(bif (!x2) then true else (!x3)))=true then B4 x1.Value else some default)>>=fun x4=>
  (if (!(bif (bif (!x2) then true else (!x3)) then true else (!x4)))=true then M7 x1.Params else some default)>>=fun x5=>
  (if (!(bif (bif (bif (!x2) then true else (!x3)) then true else (!x4)) then true else (!x5)))=true then M7 x1.Vars else some default)>>=fun x6=>
  (if (!(bif (bif (bif (bif (!x2) then true else (!x3)) then true else (!x4)) then true else (!x5)) then true else (!x6)))=true then Y5 x1.Body else some default)>>=fun x7=>
  if (bif (bif (bif (bif (bif (!x2) then true else (!x3)) then true else (!x4)) then true else (!x5)) then true else (!x6)) then true else (!x7))=true then
   some false
  else
   Y8 l (IntKind.i64.wrap (i+1))
 else
  some true
 partial_fixpoint
end
abbrev Xq (l:List D0)(res:Bool):Prop:=L0 C 68 [.d (.sl (D0.rows l))] [] (Ret [] (.d (.bool res)))
abbrev My (l:List D0)(i:Int)(res:Bool):Prop:=LM C 49 0 Tryz.f68 [1,0,1,4] [(0,.d (.sl (D0.rows l))),(3,.d (.int .i64 i))] [] (Ret [] (.d (.bool res)))
theorem T10:(∀ l res,M7 l=some res→Xq l res)∧(∀ l i res,Y8 l i=some res→My l i res):=by
 refine M7.mutual_partial_correctness _ _ ?_ ?_
 ·intro g1 ih1 l res hh
  exact L0.intro hC Tryz.func68 rfl rfl rfl (t' rfl (S' (t' rfl (bk' (fw' (ih1 _ _ _ hh) rfl rfl rfl)))))
 ·intro g0 g1 ih0 ih1 l i res hh
  refine X0.unroll (S' (p' 2 rfl (qe' rfl trivial (D0.lenA _) (e' rfl (ci' rfl hh (fun hh=>?_) (fun hh=>?_))))))
  ·obtain ⟨x1,hx1,hh⟩:=bs' hh
   obtain ⟨x2,hx2,hh⟩:=bs' hh
   obtain ⟨x3,hx3,hh⟩:=bs' hh
   obtain ⟨x4,hx4,hh⟩:=bs' hh
   obtain ⟨x5,hx5,hh⟩:=bs' hh
   obtain ⟨x6,hx6,hh⟩:=bs' hh
   obtain ⟨x7,hx7,hh⟩:=bs' hh
   refine sk' (S' (bk' (p' 2 rfl (i' rfl (T0 hx1) (D0.idx hx1) rfl (q' rfl (E0.nf hC rfl (E0.s hC rfl (n' (sg' 34 rfl (G' 2 rfl (AG.c rfl rfl (fun _=>trivial) (fun _=>Va hx2) (G' 3 rfl (a1' rfl ?_)))))))))))))
   refine AG.c rfl rfl (fun hg=>⟨hg,trivial⟩) (fun hw=>E15 (I1 hw hx3)) (a1' rfl (po' rfl (G' 2 rfl (a1' rfl (AG.c rfl rfl (fun hg=>⟨hg,trivial⟩) (fun hw=>Uf (I1 hw hx4)) (a1' rfl (po' rfl (G' 2 rfl (a1' rfl (AG.c rfl rfl (fun hg=>⟨hg,trivial⟩) (fun hw=>ih0 _ _ (I1 hw hx5)) (a1' rfl (po' rfl (G' 2 rfl ?_)))))))))))))
   refine a1' rfl (AG.c rfl rfl (fun hg=>⟨hg,trivial⟩) (fun hw=>ih0 _ _ (I1 hw hx6)) (a1' rfl (po' rfl (G' 2 rfl (a1' rfl (AG.c rfl rfl (fun hg=>⟨hg,trivial⟩) (fun hw=>Dp (I1 hw hx7)) (a1' rfl (po' rfl (an' (n' (ci' rfl hh (fun hh=>?_) (fun hh=>?_))))))))))))
   ·cases hh
    exact t' rfl (re' (rt' rfl rfl rfl))
   exact sk' (T' rfl (lw' (ih1 _ _ _ hh) rfl rfl rfl))
  cases hh
  exact ex' (t' rfl (re' (rt' rfl rfl rfl)))
theorem C13 {l res}(hh:M7 l=some res):Xq l res:=(T10).1 _ _ hh
def Tc (n:Int):Option Bool:=
 some (bif (decide (n≥(-1048576))) then (decide (n≤1048576)) else false)
theorem Vf {n res}(hh:Tc n=some res):L0 C 134 [.d (.int .i64 n)] [] (Ret [] (.d (.bool res))):=by
 unfold Tc at hh
 cases hh
 exact L0.intro hC Tryz.func134 rfl rfl rfl (t' rfl (sg' 7 rfl (G' 4 rfl (a1' rfl (pa' rfl (a0' rfl (an' (n' (re' (rt' rfl rfl rfl))))))))))
mutual
def R6 (t:A0):Option Bool:=
 (if (t.Kind == 1)=true then Tc t.Low else some default)>>=fun x1=>
 (if ((t.Kind == 1)&&(!(!x1)))=true then Tc t.High else some default)>>=fun x2=>
 if (bif (bif (bif (t.Kind == 1) then (bif (bif (!x1) then true else (!x2)) then true else (decide (t.Low > t.High))) else false) then true else (bif (t.Kind == 2) then (bif (decide (t.Size < 1)) then true else (decide (t.Size > 32))) else false)) then true else (decide (((t.Of).length:Int) > 32)))=true then
  some false
 else
  W7 t 0
 partial_fixpoint
def W7 (t:A0)(i:Int):Option Bool:=
 if (decide (i < ((t.Of).length:Int)))=true then
  idx t.Of i>>=fun x3=>
  R6 x3>>=fun x4=>
  if (!x4)=true then
   some false
  else
   W7 t (IntKind.i64.wrap (i+1))
 else
  some true
 partial_fixpoint
end
abbrev Ep (t:A0)(res:Bool):Prop:=L0 C 135 [.agg (A0.cells t)] [] (Ret [] (.d (.bool res)))
abbrev Vw (t:A0)(i:Int)(res:Bool):Prop:=LM C 61 0 Tryz.f135 [1,1,0,1,4] [(1,.ref 0 0),(3,.d (.int .i64 i))] [.row (A0.cells t) 40] (Ret [] (.d (.bool res)))
theorem Ny:(∀ t res,R6 t=some res→Ep t res)∧(∀ t i res,W7 t i=some res→Vw t i res):=by
 refine R6.mutual_partial_correctness _ _ ?_ ?_
 ·intro g1 ih1 t res hh
  obtain ⟨x1,hx1,hh⟩:=bs' hh
  obtain ⟨x2,hx2,hh⟩:=bs' hh
  refine L0.intro hC Tryz.func135 rfl rfl rfl (s' rfl rfl (E0.n hC rfl (e' rfl (S' (sg' 43 rfl (G' 5 rfl (a1' rfl (AG.c rfl rfl (fun hg=>⟨hg,trivial⟩) (fun hw=>Vf (I1 hw hx1)) (a1' rfl (a1' rfl (a0' rfl (a1' rfl (AG.c rfl rfl (fun hg=>⟨hg,trivial⟩) (fun hw=>Vf (I1 hw hx2)) ?_)))))))))))))
  refine a1' rfl (pO' rfl (a1' rfl (a0' rfl (a1' rfl (a0' rfl (a1' rfl (a2' rfl (pO' rfl (pa' rfl (G' 2 rfl (a1' rfl (a1' rfl (a1' rfl ?_)))))))))))))
  refine a0' rfl (a1' rfl (a1' rfl (a1' rfl (a0' rfl (a1' rfl (a1' rfl (pO' rfl (pA' rfl (po' rfl (G' 2 rfl (a1' rfl (AG.qe hC rfl (fun hg=>⟨⟨hg,trivial⟩,trivial⟩) (A0.lenA _) (a1' rfl ?_)))))))))))))
  refine po' rfl (an' (n' (ci' rfl hh (fun hh=>?_) (fun hh=>?_))))
  ·cases hh
   exact t' rfl (re' (rt' rfl rfl rfl))
  exact sk' (S' (t' rfl (bk' (fw' (ih1 _ _ _ hh) rfl rfl rfl))))
 ·intro g0 g1 ih0 ih1 t i res hh
  refine X0.unroll (S' (p' 3 rfl (qe' rfl trivial (A0.lenA _) (e' rfl (ci' rfl hh (fun hh=>?_) (fun hh=>?_))))))
  ·obtain ⟨x3,hx3,hh⟩:=bs' hh
   obtain ⟨x4,hx4,hh⟩:=bs' hh
   refine sk' (S' (bk' (p' 3 rfl (i' rfl (T0 hx3) (A0.idx hx3) rfl (q' rfl (c' (ih0 _ _ hx4) rfl rfl (e' rfl (ci' rfl hh (fun hh=>?_) (fun hh=>?_)))))))))
   ·cases hh
    exact t' rfl (re' (rt' rfl rfl rfl))
   exact sk' (T' rfl (lw' (ih1 _ _ _ hh) rfl rfl rfl))
  cases hh
  exact ex' (t' rfl (re' (rt' rfl rfl rfl)))
theorem U10 {t res}(hh:R6 t=some res):Ep t res:=(Ny).1 _ _ hh
mutual
def I3 (e:B0):Option Bool:=
 if (bif (e.Op == 0) then (bif (decide (e.NV < 0)) then true else (decide (e.NV > 1048576))) else false)=true then
  some false
 else
  X7 e 0
 partial_fixpoint
def X7 (e:B0)(i:Int):Option Bool:=
 if (decide (i < ((e.Kids).length:Int)))=true then
  idx e.Kids i>>=fun x1=>
  I3 x1>>=fun x2=>
  if (!x2)=true then
   some false
  else
   X7 e (IntKind.i64.wrap (i+1))
 else
  some true
 partial_fixpoint
end
abbrev Fp (e:B0)(res:Bool):Prop:=L0 C 93 [.agg (B0.cells e)] [] (Ret [] (.d (.bool res)))
abbrev Ww (e:B0)(i:Int)(res:Bool):Prop:=LM C 31 0 Tryz.f93 [1,1,0,1,4] [(1,.ref 0 0),(3,.d (.int .i64 i))] [.row (B0.cells e) 34] (Ret [] (.d (.bool res)))
theorem Oy:(∀ e res,I3 e=some res→Fp e res)∧(∀ e i res,X7 e i=some res→Ww e i res):=by
 refine I3.mutual_partial_correctness _ _ ?_ ?_
 ·intro g1 ih1 e res hh
  refine L0.intro hC Tryz.func93 rfl rfl rfl (s' rfl rfl (E0.n hC rfl (e' rfl (S' (sg' 13 rfl (G' 5 rfl (a1' rfl (a1' rfl (a1' rfl (a0' rfl (a1' rfl (a1' rfl (pO' rfl ?_)))))))))))))
  refine pa' rfl (an' (n' (ci' rfl hh (fun hh=>?_) (fun hh=>?_))))
  ·cases hh
   exact t' rfl (re' (rt' rfl rfl rfl))
  exact sk' (S' (t' rfl (bk' (fw' (ih1 _ _ _ hh) rfl rfl rfl))))
 ·intro g0 g1 ih0 ih1 e i res hh
  refine X0.unroll (S' (p' 3 rfl (qe' rfl trivial (B0.lenA _) (e' rfl (ci' rfl hh (fun hh=>?_) (fun hh=>?_))))))
  ·obtain ⟨x1,hx1,hh⟩:=bs' hh
   obtain ⟨x2,hx2,hh⟩:=bs' hh
   refine sk' (S' (bk' (p' 3 rfl (i' rfl (T0 hx1) (B0.idx hx1) rfl (q' rfl (c' (ih0 _ _ hx2) rfl rfl (e' rfl (ci' rfl hh (fun hh=>?_) (fun hh=>?_)))))))))
   ·cases hh
    exact t' rfl (re' (rt' rfl rfl rfl))
   exact sk' (T' rfl (lw' (ih1 _ _ _ hh) rfl rfl rfl))
  cases hh
  exact ex' (t' rfl (re' (rt' rfl rfl rfl)))
theorem Yd {e res}(hh:I3 e=some res):Fp e res:=(Oy).1 _ _ hh
def T4 (s:C0)(k:Int):Option Bool:=
 if (decide (k < ((s.Numbers).length:Int)))=true then
  idx s.Numbers k>>=fun x3=>
  (if (!(decide (x3 < 0)))=true then idx s.Numbers k else some default)>>=fun x4=>
  (if ((!(bif (decide (x3 < 0)) then true else (decide (x4 > 1048576))))&&(decide (k > 0)))=true then idx s.Numbers k else some default)>>=fun x5=>
  (if ((!(bif (decide (x3 < 0)) then true else (decide (x4 > 1048576))))&&(decide (k > 0)))=true then idx s.Numbers (IntKind.i64.wrap (k - 1)) else some default)>>=fun x6=>
  if (bif (bif (decide (x3 < 0)) then true else (decide (x4 > 1048576))) then true else (bif (decide (k > 0)) then (decide (x5≤x6)) else false))=true then
   some false
  else
   T4 s (IntKind.i64.wrap (k+1))
 else
  some true
 partial_fixpoint
abbrev Pl (s:C0)(k:Int)(res:Bool):Prop:=LM C 105 0 Tryz.f136 [1,1,1,1,0,1,2,1,1,4] [(1,.ref 0 0),(3,.d (.int .i64 k))] [.row (C0.cells s) 53] (Ret [] (.d (.bool res)))
theorem Lu (s:C0):(∀ k res,T4 s k=some res→Pl s k res):=by
 refine T4.partial_correctness s _ ?_
 ·intro g0 ih0 k res hh
  refine X0.unroll (S' (p' 3 rfl (qe' rfl trivial (ei64.lenA _) (e' rfl (ci' rfl hh (fun hh=>?_) (fun hh=>?_))))))
  ·obtain ⟨x3,hx3,hh⟩:=bs' hh
   obtain ⟨x4,hx4,hh⟩:=bs' hh
   obtain ⟨x5,hx5,hh⟩:=bs' hh
   obtain ⟨x6,hx6,hh⟩:=bs' hh
   refine sk' (S' (bk' (S' (AEx.drawG hC 32 rfl rfl rfl (G' 3 rfl (AG.i hC rfl rfl (fun _=>trivial) (fun hw=>⟨T0 hx3,ei64.idx hx3,rfl⟩) (G' 4 rfl (a1' rfl (a0' rfl (AG.i hC rfl rfl (fun hg=>⟨hg,hg,trivial⟩) (fun hw=>⟨T0 (I1 hw hx4),ei64.idx (I1 hw hx4),rfl⟩) (a1' rfl (a1' rfl (po' rfl ?_)))))))))))))
   refine G' 2 rfl (a1' rfl (a1' rfl (a0' rfl (a1' rfl (a0' rfl (AG.i hC rfl rfl (fun hg=>⟨hg,hg,trivial⟩) (fun hw=>⟨T0 (I1 hw hx5),ei64.idx (I1 hw hx5),rfl⟩) (a1' rfl (a0' rfl (a1' rfl (a0' rfl (a1' rfl (AG.i hC rfl rfl (fun hg=>⟨hg,hg,trivial⟩) (fun hw=>⟨T0 (I1 hw hx6),ei64.idx (I1 hw hx6),rfl⟩) (a1' rfl ?_)))))))))))))
   refine a2' rfl (pA' rfl (po' rfl (an' (n' (ci' rfl hh (fun hh=>?_) (fun hh=>?_))))))
   ·cases hh
    exact t' rfl (re' (rt' rfl rfl rfl))
   exact sk' (T' rfl (lw' (ih0 _ _ hh) rfl rfl rfl))
  cases hh
  exact ex' (t' rfl (re' (rt' rfl rfl rfl)))
theorem Fv {s k res}(hh:T4 s k=some res):Pl s k res:=(Lu s) _ _ hh
end Go.Proofs.YtdkabnfphmmmnaaGreatDoor

set_option maxRecDepth 100000
set_option maxHeartbeats 4000000
set_option synthInstance.maxSize 20000
set_option linter.unusedVariables false
namespace Go.Proofs.YtdkabnfphmmmnaaGreatDoor
open Go.Am
def Pd (s:C0):Option Bool:=
 if (s.Verb == 4)=true then
  some (bif (decide (s.NV≥0)) then (decide (s.NV≤1048576)) else false)
 else
  if (s.Verb == 6)=true then
   some (bif (decide (s.NV≥0)) then (decide (s.NV≤4096)) else false)
  else
   if (s.Verb == 7)=true then
    Tc s.Low>>=fun x1=>
    (if x1=true then Tc s.High else some default)>>=fun x2=>
    some (bif (bif (bif x1 then x2 else false) then (decide (s.Low≤s.High)) else false) then (decide ((IntKind.i64.wrap ((IntKind.i64.wrap (s.High - s.Low))+1))≤4096)) else false)
   else
    if (s.Verb == 8)=true then
     if (bif (decide (((s.Numbers).length:Int) < 1)) then true else (decide (((s.Numbers).length:Int) > 32)))=true then
      some false
     else
      T4 s 0
    else
     some true
theorem V10 {s res}(hh:Pd s=some res):L0 C 136 [.agg (C0.cells s)] [] (Ret [] (.d (.bool res))):=by
 unfold Pd at hh
 refine L0.intro hC Tryz.func136 rfl rfl rfl (s' rfl rfl (E0.n hC rfl (e' rfl (S' (t' rfl (ci' rfl hh (fun hh=>?_) (fun hh=>?_)))))))
 ·cases hh
  exact sg' 9 rfl (G' 5 rfl (a1' rfl (a1' rfl (pa' rfl (a0' rfl (an' (n' (re' (rt' rfl rfl rfl)))))))))
 refine sk' (S' (t' rfl (ci' rfl hh (fun hh=>?_) (fun hh=>?_))))
 ·cases hh
  exact sg' 9 rfl (G' 5 rfl (a1' rfl (a1' rfl (pa' rfl (a0' rfl (an' (n' (re' (rt' rfl rfl rfl)))))))))
 refine sk' (S' (t' rfl (ci' rfl hh (fun hh=>?_) (fun hh=>?_))))
 ·obtain ⟨x1,hx1,hh⟩:=bs' hh
  obtain ⟨x2,hx2,hh⟩:=bs' hh
  cases hh
  refine sg' 25 rfl (G' 2 rfl (AG.c rfl rfl (fun _=>trivial) (fun _=>Vf hx1) (G' 2 rfl (a1' rfl (AG.c rfl rfl (fun hg=>⟨hg,trivial⟩) (fun hw=>Vf (I1 hw hx2)) (pa' rfl (G' 2 rfl (a1' rfl (a0' rfl (a1' rfl (a2' rfl (pa' rfl (G' 2 rfl ?_)))))))))))))
  exact a1' rfl (a0' rfl (a1' rfl (a2' rfl (a1' rfl (a1' rfl (pa' rfl (a0' rfl (an' (n' (re' (rt' rfl rfl rfl)))))))))))
 refine sk' (S' (t' rfl (ci' rfl hh (fun hh=>?_) (fun hh=>?_))))
 ·refine S' (sg' 10 rfl (G' 2 rfl (AG.qe hC rfl (fun hg=>⟨trivial,trivial⟩) (ei64.lenA _) (G' 3 rfl (a1' rfl (AG.qe hC rfl (fun hg=>⟨⟨hg,trivial⟩,trivial⟩) (ei64.lenA _) (a1' rfl (po' rfl (an' (n' (ci' rfl hh (fun hh=>?_) (fun hh=>?_))))))))))))
  ·cases hh
   exact t' rfl (re' (rt' rfl rfl rfl))
  exact sk' (t' rfl (bk' (fw' (Fv hh) rfl rfl rfl)))
 cases hh
 exact sk' (t' rfl (re' (rt' rfl rfl rfl)))
mutual
def U4 (l:List C0):Option Bool:=
 B7 l 0
 partial_fixpoint
def B7 (l:List C0)(i:Int):Option Bool:=
 if (decide (i < ((l).length:Int)))=true then
  idx l i>>=fun x1=>
  Pd x1>>=fun x2=>
  (if (!(!x2))=true then I3 x1.Place else some default)>>=fun x3=>
  (if (!(bif (!x2) then true else (!x3)))=true then I3 x1.Value else some default)>>=fun x4=>
  (if (!(bif (bif (!x2) then true else (!x3)) then true else (!x4)))=true then U4 x1.Then else some default)>>=fun x5=>
  (if (!(bif (bif (bif (!x2) then true else (!x3)) then true else (!x4)) then true else (!x5)))=true then U4 x1.Else else some default)>>=fun x6=>
  if (bif (bif (bif (bif (!x2) then true else (!x3)) then true else (!x4)) then true else (!x5)) then true else (!x6))=true then
   some false
  else
   Ia l x1 i 0
 else
  some true
 partial_fixpoint
def Ia (l:List C0)(x1:C0)(i1:Int)(k:Int):Option Bool:=
 if (decide (k < ((x1.Args).length:Int)))=true then
  idx x1.Args k>>=fun x7=>
  I3 x7>>=fun x8=>
  if (!x8)=true then
   some false
  else
   Ia l x1 i1 (IntKind.i64.wrap (k+1))
 else
  B7 l (IntKind.i64.wrap (i1+1))
 partial_fixpoint
end
abbrev Xn (l:List C0)(res:Bool):Prop:=L0 C 71 [.d (.sl (C0.rows l))] [] (Ret [] (.d (.bool res)))
abbrev Gv (l:List C0)(i:Int)(res:Bool):Prop:=LM C 57 0 Tryz.f71 [1,0,1,4] [(0,.d (.sl (C0.rows l))),(3,.d (.int .i64 i))] [] (Ret [] (.d (.bool res)))
abbrev Hv (l:List C0)(x1:C0)(i1:Int)(k:Int)(res:Bool):Prop:=LM C 57 0 Tryz.f71 [1,0,1,4,5,1,0,4,1,1,1,4] [(0,.d (.sl (C0.rows l))),(3,.d (.int .i64 i1)),(4,.ref 0 0),(5,.d (.int .i64 k))] [.row (C0.cells x1) 53] (Ret [] (.d (.bool res)))
theorem Xw:(∀ l res,U4 l=some res→Xn l res)∧(∀ l i res,B7 l i=some res→Gv l i res)∧(∀ l x1 i1 k res,Ia l x1 i1 k=some res→Hv l x1 i1 k res):=by
 refine U4.mutual_partial_correctness _ _ _ ?_ ?_ ?_
 ·intro g1 ih1 l res hh
  exact L0.intro hC Tryz.func71 rfl rfl rfl (t' rfl (S' (t' rfl (bk' (fw' (ih1 _ _ _ hh) rfl rfl rfl)))))
 ·intro g0 g2 ih0 ih2 l i res hh
  refine X0.unroll (S' (p' 2 rfl (qe' rfl trivial (C0.lenA _) (e' rfl (ci' rfl hh (fun hh=>?_) (fun hh=>?_))))))
  ·obtain ⟨x1,hx1,hh⟩:=bs' hh
   obtain ⟨x2,hx2,hh⟩:=bs' hh
   obtain ⟨x3,hx3,hh⟩:=bs' hh
   obtain ⟨x4,hx4,hh⟩:=bs' hh
   obtain ⟨x5,hx5,hh⟩:=bs' hh
   obtain ⟨x6,hx6,hh⟩:=bs' hh
   refine sk' (S' (bk' (p' 2 rfl (i' rfl (T0 hx1) (C0.idx hx1) rfl (q' rfl (E0.nf hC rfl (E0.s hC rfl (n' (S' (sg' 27 rfl (a0' rfl (AG.c rfl rfl (fun _=>trivial) (fun _=>V10 hx2) (G' 3 rfl ?_)))))))))))))
   refine a1' rfl (AG.c rfl rfl (fun hg=>⟨hg,trivial⟩) (fun hw=>Yd (I1 hw hx3)) (a1' rfl (po' rfl (G' 2 rfl (a1' rfl (AG.c rfl rfl (fun hg=>⟨hg,trivial⟩) (fun hw=>Yd (I1 hw hx4)) (a1' rfl (po' rfl (G' 2 rfl (a1' rfl (AG.c rfl rfl (fun hg=>⟨hg,trivial⟩) (fun hw=>ih0 _ _ (I1 hw hx5)) (a1' rfl (po' rfl ?_)))))))))))))
   refine G' 2 rfl (a1' rfl (AG.c rfl rfl (fun hg=>⟨hg,trivial⟩) (fun hw=>ih0 _ _ (I1 hw hx6)) (a1' rfl (po' rfl (an' (n' (ci' rfl hh (fun hh=>?_) (fun hh=>?_))))))))
   ·cases hh
    exact t' rfl (re' (rt' rfl rfl rfl))
   exact sk' (t' rfl (bk' (fw' (ih2 _ _ _ _ _ hh) rfl rfl rfl)))
  cases hh
  exact ex' (t' rfl (re' (rt' rfl rfl rfl)))
 ·intro g1 g2 ih1 ih2 l x1 i1 k res hh
  refine X0.unroll (S' (p' 3 rfl (qe' rfl trivial (B0.lenA _) (e' rfl (ci' rfl hh (fun hh=>?_) (fun hh=>?_))))))
  ·obtain ⟨x7,hx7,hh⟩:=bs' hh
   obtain ⟨x8,hx8,hh⟩:=bs' hh
   refine sk' (S' (bk' (p' 3 rfl (i' rfl (T0 hx7) (B0.idx hx7) rfl (q' rfl (c' (Yd hx8) rfl rfl (e' rfl (ci' rfl hh (fun hh=>?_) (fun hh=>?_)))))))))
   ·cases hh
    exact t' rfl (re' (rt' rfl rfl rfl))
   exact sk' (T' rfl (lw' (ih2 _ _ _ _ _ hh) rfl rfl rfl))
  exact ex' (T' rfl (lw' (ih1 _ _ _ hh) rfl rfl rfl))
theorem Sm {l res}(hh:U4 l=some res):Xn l res:=(Xw).1 _ _ hh
mutual
def S5 (l:List D0):Option Bool:=
 C7 l 0
 partial_fixpoint
def C7 (l:List D0)(i:Int):Option Bool:=
 if (decide (i < ((l).length:Int)))=true then
  idx l i>>=fun x1=>
  Tc x1.Init>>=fun x2=>
  if (bif (!x2) then true else (bif (x1.TypeV.Kind == 0) then (bif (decide (x1.Init < 0)) then true else (decide (x1.Init > 1))) else false))=true then
   some false
  else
   R6 x1.TypeV>>=fun x3=>
   (if (!(!x3))=true then I3 x1.Value else some default)>>=fun x4=>
   (if (!(bif (!x3) then true else (!x4)))=true then S5 x1.Params else some default)>>=fun x5=>
   (if (!(bif (bif (!x3) then true else (!x4)) then true else (!x5)))=true then S5 x1.Vars else some default)>>=fun x6=>
   (if (!(bif (bif (bif (!x3) then true else (!x4)) then true else (!x5)) then true else (!x6)))=true then U4 x1.Body else some default)>>=fun x7=>
   if (bif (bif (bif (bif (!x3) then true else (!x4)) then true else (!x5)) then true else (!x6)) then true else (!x7))=true then
    some false
   else
    C7 l (IntKind.i64.wrap (i+1))
 else
  some true
 partial_fixpoint
end
abbrev Yn (l:List D0)(res:Bool):Prop:=L0 C 70 [.d (.sl (D0.rows l))] [] (Ret [] (.d (.bool res)))
abbrev Iv (l:List D0)(i:Int)(res:Bool):Prop:=LM C 63 0 Tryz.f70 [1,0,1,4] [(0,.d (.sl (D0.rows l))),(3,.d (.int .i64 i))] [] (Ret [] (.d (.bool res)))
theorem Yw:(∀ l res,S5 l=some res→Yn l res)∧(∀ l i res,C7 l i=some res→Iv l i res):=by
 refine S5.mutual_partial_correctness _ _ ?_ ?_
 ·intro g1 ih1 l res hh
  exact L0.intro hC Tryz.func70 rfl rfl rfl (t' rfl (S' (t' rfl (bk' (fw' (ih1 _ _ _ hh) rfl rfl rfl)))))
 ·intro g0 g1 ih0 ih1 l i res hh
  refine X0.unroll (S' (p' 2 rfl (qe' rfl trivial (D0.lenA _) (e' rfl (ci' rfl hh (fun hh=>?_) (fun hh=>?_))))))
  ·obtain ⟨x1,hx1,hh⟩:=bs' hh
   obtain ⟨x2,hx2,hh⟩:=bs' hh
   refine sk' (S' (bk' (p' 2 rfl (i' rfl (T0 hx1) (D0.idx hx1) rfl (q' rfl (E0.nf hC rfl (E0.s hC rfl (n' (S' (sg' 20 rfl (G' 2 rfl (AG.c rfl rfl (fun _=>trivial) (fun _=>Vf hx2) (G' 3 rfl ?_)))))))))))))
   refine a1' rfl (a1' rfl (a1' rfl (a1' rfl (a0' rfl (a1' rfl (a1' rfl (a1' rfl (a0' rfl (a1' rfl (a1' rfl (pO' rfl (pA' rfl (po' rfl ?_)))))))))))))
   refine an' (n' (ci' rfl hh (fun hh=>?_) (fun hh=>?_)))
   ·cases hh
    exact t' rfl (re' (rt' rfl rfl rfl))
   obtain ⟨x3,hx3,hh⟩:=bs' hh
   obtain ⟨x4,hx4,hh⟩:=bs' hh
   obtain ⟨x5,hx5,hh⟩:=bs' hh
   obtain ⟨x6,hx6,hh⟩:=bs' hh
   obtain ⟨x7,hx7,hh⟩:=bs' hh
   refine sk' (sg' 28 rfl (G' 2 rfl (AG.c rfl rfl (fun _=>trivial) (fun _=>U10 hx3) (G' 3 rfl (a1' rfl (AG.c rfl rfl (fun hg=>⟨hg,trivial⟩) (fun hw=>Yd (I1 hw hx4)) (a1' rfl (po' rfl (G' 2 rfl (a1' rfl (AG.c rfl rfl (fun hg=>⟨hg,trivial⟩) (fun hw=>ih0 _ _ (I1 hw hx5)) (a1' rfl (po' rfl ?_)))))))))))))
   refine G' 2 rfl (a1' rfl (AG.c rfl rfl (fun hg=>⟨hg,trivial⟩) (fun hw=>ih0 _ _ (I1 hw hx6)) (a1' rfl (po' rfl (G' 2 rfl (a1' rfl (AG.c rfl rfl (fun hg=>⟨hg,trivial⟩) (fun hw=>Sm (I1 hw hx7)) (a1' rfl (po' rfl (an' (n' (ci' rfl hh (fun hh=>?_) (fun hh=>?_)))))))))))))
   ·cases hh
    exact t' rfl (re' (rt' rfl rfl rfl))
   exact sk' (T' rfl (lw' (ih1 _ _ _ hh) rfl rfl rfl))
  cases hh
  exact ex' (t' rfl (re' (rt' rfl rfl rfl)))
theorem Py {l res}(hh:S5 l=some res):Yn l res:=(Yw).1 _ _ hh
def Ti (s:R0)(form:Bool)(names:Bool)(numbers:Bool):Option Int:=
 if (bif (decide (s.nodes > 1024)) then true else (decide (s.depth > 12)))=true then
  some 4
 else
  if (!form)=true then
   some 1
  else
   if (!names)=true then
    some 7
   else
    if (!numbers)=true then
     some 3
    else
     some 0
theorem L18 {s form names numbers res}(hh:Ti s form names numbers=some res):L0 C 64 [.agg (R0.cells s),.d (.bool form),.d (.bool names),.d (.bool numbers)] [] (Ret [] (.d (.int .i64 res))):=by
 unfold Ti at hh
 refine L0.intro hC Tryz.func64 rfl rfl rfl (s' rfl rfl (E0.n hC rfl (e' rfl (S' (sg' 8 rfl (G' 5 rfl (a1' rfl (a1' rfl (po' rfl (an' (n' (ci' rfl hh (fun hh=>?_) (fun hh=>?_)))))))))))))
 ·cases hh
  exact t' rfl (re' (rt' rfl rfl rfl))
 refine sk' (S' (t' rfl (ci' rfl hh (fun hh=>?_) (fun hh=>?_))))
 ·cases hh
  exact t' rfl (re' (rt' rfl rfl rfl))
 refine sk' (S' (t' rfl (ci' rfl hh (fun hh=>?_) (fun hh=>?_))))
 ·cases hh
  exact t' rfl (re' (rt' rfl rfl rfl))
 refine sk' (S' (t' rfl (ci' rfl hh (fun hh=>?_) (fun hh=>?_))))
 ·cases hh
  exact t' rfl (re' (rt' rfl rfl rfl))
 cases hh
 exact sk' (t' rfl (re' (rt' rfl rfl rfl)))
def Ql (p:O0):Option Int:=
 Ol p>>=fun x1=>
 S8 p.Decls>>=fun x2=>
 (if x2=true then X6 p.Body else some default)>>=fun x3=>
 M7 p.Decls>>=fun x4=>
 (if x4=true then Y5 p.Body else some default)>>=fun x5=>
 S5 p.Decls>>=fun x6=>
 (if x6=true then U4 p.Body else some default)>>=fun x7=>
 Ti x1 (bif x2 then x3 else false) (bif x4 then x5 else false) (bif x6 then x7 else false)>>=fun x8=>
 some x8
theorem I1c {p res}(hh:Ql p=some res):L0 C 34 [.agg (O0.cells p)] [] (Ret [] (.d (.int .i64 res))):=by
 unfold Ql at hh
 obtain ⟨x1,hx1,hh⟩:=bs' hh
 obtain ⟨x2,hx2,hh⟩:=bs' hh
 obtain ⟨x3,hx3,hh⟩:=bs' hh
 obtain ⟨x4,hx4,hh⟩:=bs' hh
 obtain ⟨x5,hx5,hh⟩:=bs' hh
 obtain ⟨x6,hx6,hh⟩:=bs' hh
 obtain ⟨x7,hx7,hh⟩:=bs' hh
 obtain ⟨x8,hx8,hh⟩:=bs' hh
 cases hh
 refine L0.intro hC Tryz.func34 rfl rfl rfl (s' rfl rfl (E0.n hC rfl (e' rfl (S' (AEx.drawG hC 28 rfl rfl rfl (a0' rfl (AG.c rfl rfl (fun _=>trivial) (fun _=>F1c hx1) (G' 2 rfl (AG.c rfl rfl (fun _=>trivial) (fun _=>D15 hx2) (G' 2 rfl (a1' rfl (AG.c rfl rfl (fun hg=>⟨hg,trivial⟩) (fun hw=>Uq (I1 hw hx3)) (pa' rfl ?_)))))))))))))
 refine G' 2 rfl (AG.c rfl rfl (fun _=>trivial) (fun _=>C13 hx4) (G' 2 rfl (a1' rfl (AG.c rfl rfl (fun hg=>⟨hg,trivial⟩) (fun hw=>Dp (I1 hw hx5)) (pa' rfl (G' 2 rfl (AG.c rfl rfl (fun _=>trivial) (fun _=>Py hx6) (G' 2 rfl (a1' rfl (AG.c rfl rfl (fun hg=>⟨hg,trivial⟩) (fun hw=>Sm (I1 hw hx7)) (pa' rfl ?_)))))))))))
 exact AG.c rfl rfl (fun _=>trivial) (fun _=>L18 hx8) (a0' rfl (an' (n' (re' (rt' rfl rfl rfl)))))
mutual
def Ac (t:A0):Option (List Str):=
 if (t.Kind == 4)=true then
  if (decide ((0+1) * 17≤140737488355328))=true then
   Qd t [t.Name]
  else none
 else
  Qd t []
 partial_fixpoint
def Qd (t:A0)(out:List Str):Option (List Str):=
 Ib t out 0
 partial_fixpoint
def Ib (t:A0)(out1:List Str)(i:Int):Option (List Str):=
 if (decide (i < ((t.Of).length:Int)))=true then
  idx t.Of i>>=fun x1=>
  Ac x1>>=fun x2=>
  if (decide ((out1.length+x2.length) * 17≤140737488355328))=true then
   Ib t (out1++x2) (IntKind.i64.wrap (i+1))
  else none
 else
  some out1
 partial_fixpoint
end
abbrev Mu (t:A0)(res:List Str):Prop:=L0 C 168 [.agg (A0.cells t)] [] (Ret [] (.d (.sl (estr.rows res))))
abbrev D13 (t:A0)(out:List Str)(res:List Str):Prop:=JM C 30 0 Tryz.f168 [1,1,1] [(1,.ref 0 0),(3,.osl 1 (estr.rows out))] [.row (A0.cells t) 40,.tok 9 1] (Ret [] (.d (.sl (estr.rows res))))
abbrev E13 (t:A0)(out1:List Str)(i:Int)(res:List Str):Prop:=LM C 30 0 Tryz.f168 [1,1,1,0,1,4] [(1,.ref 0 0),(3,.osl 1 (estr.rows out1)),(4,.d (.int .i64 i))] [.row (A0.cells t) 40,.tok 9 1] (Ret [] (.d (.sl (estr.rows res))))
theorem F15:(∀ t res,Ac t=some res→Mu t res)∧(∀ t out res,Qd t out=some res→D13 t out res)∧(∀ t out1 i res,Ib t out1 i=some res→E13 t out1 i res):=by
 refine Ac.mutual_partial_correctness _ _ _ ?_ ?_ ?_
 ·intro g1 ih1 t res hh
  refine L0.intro hC Tryz.func168 rfl rfl rfl (s' rfl rfl (E0.n hC rfl (e' rfl (s' rfl rfl (E0.be hC rfl (estr.rows_map []).symm (E0.tokE 5 9 1 rfl (e' rfl (S' (t' rfl (ci' rfl hh (fun hh=>?_) (fun hh=>?_)))))))))))
  ·obtain ⟨c15,hh⟩:=J1 hh
   exact P' 3 rfl (E0.be hC rfl (estr.rows_map [t.Name]).symm (E0.ap hC rfl (rs:=estr.rows [t.Name]) rfl (estr.sz []) (estr.sz [t.Name]) (E3 (estr.len []) (estr.len [t.Name]) c15) (e' rfl (ew' (ih1 _ _ _ hh) rfl rfl rfl))))
  exact sk' (ew' (ih1 _ _ _ hh) rfl rfl rfl)
 ·intro g2 ih2 t out res hh
  exact S' (t' rfl (bk' (fw' (ih2 _ _ _ _ hh) rfl rfl rfl)))
 ·intro g0 g2 ih0 ih2 t out1 i res hh
  refine X0.unroll (S' (p' 3 rfl (qe' rfl trivial (A0.lenA _) (e' rfl (ci' rfl hh (fun hh=>?_) (fun hh=>?_))))))
  ·obtain ⟨x1,hx1,hh⟩:=bs' hh
   obtain ⟨x2,hx2,hh⟩:=bs' hh
   obtain ⟨c16,hh⟩:=J1 hh
   exact sk' (S' (bk' (P' 4 rfl (i' rfl (T0 hx1) (A0.idx hx1) rfl (q' rfl (c' (ih0 _ _ hx2) rfl rfl (E0.ap hC rfl (rs:=estr.rows (out1++x2)) (estr.app out1 x2) (estr.sz out1) (estr.sz x2) (E3 (estr.len out1) (estr.len x2) c16) (e' rfl (T' rfl (lw' (ih2 _ _ _ _ hh) rfl rfl rfl))))))))))
  refine ex' (t' rfl (re' ?_))
  obtain rfl:=oi' hh
  exact ⟨_,.d (.sl (estr.rows out1)),[],rfl,.osl,trivial,rfl,rfl,rfl,rfl⟩
theorem F17 {t res}(hh:Ac t=some res):Mu t res:=(F15).1 _ _ hh
mutual
def M6 (e:B0):Option (List Str):=
 if (e.Op == 3)=true then
  if (decide ((0+1) * 17≤140737488355328))=true then
   Sd e [e.Name]
  else none
 else
  Sd e []
 partial_fixpoint
def Sd (e:B0)(out:List Str):Option (List Str):=
 Jb e out 0
 partial_fixpoint
def Jb (e:B0)(out1:List Str)(i:Int):Option (List Str):=
 if (decide (i < ((e.Kids).length:Int)))=true then
  idx e.Kids i>>=fun x1=>
  M6 x1>>=fun x2=>
  if (decide ((out1.length+x2.length) * 17≤140737488355328))=true then
   Jb e (out1++x2) (IntKind.i64.wrap (i+1))
  else none
 else
  some out1
 partial_fixpoint
end
abbrev Nu (e:B0)(res:List Str):Prop:=L0 C 169 [.agg (B0.cells e)] [] (Ret [] (.d (.sl (estr.rows res))))
abbrev F13 (e:B0)(out:List Str)(res:List Str):Prop:=JM C 30 0 Tryz.f169 [1,1,1] [(1,.ref 0 0),(3,.osl 1 (estr.rows out))] [.row (B0.cells e) 34,.tok 9 1] (Ret [] (.d (.sl (estr.rows res))))
abbrev G13 (e:B0)(out1:List Str)(i:Int)(res:List Str):Prop:=LM C 30 0 Tryz.f169 [1,1,1,0,1,4] [(1,.ref 0 0),(3,.osl 1 (estr.rows out1)),(4,.d (.int .i64 i))] [.row (B0.cells e) 34,.tok 9 1] (Ret [] (.d (.sl (estr.rows res))))
theorem G15:(∀ e res,M6 e=some res→Nu e res)∧(∀ e out res,Sd e out=some res→F13 e out res)∧(∀ e out1 i res,Jb e out1 i=some res→G13 e out1 i res):=by
 refine M6.mutual_partial_correctness _ _ _ ?_ ?_ ?_
 ·intro g1 ih1 e res hh
  refine L0.intro hC Tryz.func169 rfl rfl rfl (s' rfl rfl (E0.n hC rfl (e' rfl (s' rfl rfl (E0.be hC rfl (estr.rows_map []).symm (E0.tokE 5 9 1 rfl (e' rfl (S' (t' rfl (ci' rfl hh (fun hh=>?_) (fun hh=>?_)))))))))))
  ·obtain ⟨c15,hh⟩:=J1 hh
   exact P' 3 rfl (E0.be hC rfl (estr.rows_map [e.Name]).symm (E0.ap hC rfl (rs:=estr.rows [e.Name]) rfl (estr.sz []) (estr.sz [e.Name]) (E3 (estr.len []) (estr.len [e.Name]) c15) (e' rfl (ew' (ih1 _ _ _ hh) rfl rfl rfl))))
  exact sk' (ew' (ih1 _ _ _ hh) rfl rfl rfl)
 ·intro g2 ih2 e out res hh
  exact S' (t' rfl (bk' (fw' (ih2 _ _ _ _ hh) rfl rfl rfl)))
 ·intro g0 g2 ih0 ih2 e out1 i res hh
  refine X0.unroll (S' (p' 3 rfl (qe' rfl trivial (B0.lenA _) (e' rfl (ci' rfl hh (fun hh=>?_) (fun hh=>?_))))))
  ·obtain ⟨x1,hx1,hh⟩:=bs' hh
   obtain ⟨x2,hx2,hh⟩:=bs' hh
   obtain ⟨c16,hh⟩:=J1 hh
   exact sk' (S' (bk' (P' 4 rfl (i' rfl (T0 hx1) (B0.idx hx1) rfl (q' rfl (c' (ih0 _ _ hx2) rfl rfl (E0.ap hC rfl (rs:=estr.rows (out1++x2)) (estr.app out1 x2) (estr.sz out1) (estr.sz x2) (E3 (estr.len out1) (estr.len x2) c16) (e' rfl (T' rfl (lw' (ih2 _ _ _ _ hh) rfl rfl rfl))))))))))
  refine ex' (t' rfl (re' ?_))
  obtain rfl:=oi' hh
  exact ⟨_,.d (.sl (estr.rows out1)),[],rfl,.osl,trivial,rfl,rfl,rfl,rfl⟩
theorem Pg {e res}(hh:M6 e=some res):Nu e res:=(G15).1 _ _ hh
mutual
def H5 (l:List C0):Option (List Str):=
 Ja l [] 0
 partial_fixpoint
def Ja (l:List C0)(out2:List Str)(i:Int):Option (List Str):=
 if (decide (i < ((l).length:Int)))=true then
  idx l i>>=fun x1=>
  Zb x1.Verb>>=fun x2=>
  if x2=true then
   if (decide ((out2.length+1) * 17≤140737488355328))=true then
    Uc l x1 (out2++[x1.Name]) i
   else none
  else
   Uc l x1 out2 i
 else
  some out2
 partial_fixpoint
def Uc (l:List C0)(x1:C0)(out:List Str)(i1:Int):Option (List Str):=
 M6 x1.Place>>=fun x3=>
 if (decide ((out.length+x3.length) * 17≤140737488355328))=true then
  M6 x1.Value>>=fun x4=>
  if (decide (((out++x3).length+x4.length) * 17≤140737488355328))=true then
   Ka l x1 ((out++x3)++x4) i1 0
  else none
 else none
 partial_fixpoint
def Ka (l:List C0)(x1:C0)(out1:List Str)(i2:Int)(k:Int):Option (List Str):=
 if (decide (k < ((x1.Args).length:Int)))=true then
  idx x1.Args k>>=fun x5=>
  M6 x5>>=fun x6=>
  if (decide ((out1.length+x6.length) * 17≤140737488355328))=true then
   Ka l x1 (out1++x6) i2 (IntKind.i64.wrap (k+1))
  else none
 else
  H5 x1.Then>>=fun x7=>
  if (decide ((out1.length+x7.length) * 17≤140737488355328))=true then
   H5 x1.Else>>=fun x8=>
   if (decide (((out1++x7).length+x8.length) * 17≤140737488355328))=true then
    Ja l ((out1++x7)++x8) (IntKind.i64.wrap (i2+1))
   else none
  else none
 partial_fixpoint
end
abbrev Is (l:List C0)(res:List Str):Prop:=L0 C 101 [.d (.sl (C0.rows l))] [] (Ret [] (.d (.sl (estr.rows res))))
abbrev W10 (l:List C0)(out2:List Str)(i:Int)(res:List Str):Prop:=LM C 62 0 Tryz.f101 [1,1,0,1,4] [(0,.d (.sl (C0.rows l))),(3,.osl 0 (estr.rows out2)),(4,.d (.int .i64 i))] [.tok 9 1] (Ret [] (.d (.sl (estr.rows res))))
abbrev X10 (l:List C0)(x1:C0)(out:List Str)(i1:Int)(res:List Str):Prop:=JM C 62 0 Tryz.f101 [1,1,0,1,4,5,1,0,4,1,1] [(0,.d (.sl (C0.rows l))),(3,.osl 0 (estr.rows out)),(4,.d (.int .i64 i1)),(5,.ref 1 0)] [.tok 9 1,.row (C0.cells x1) 53] (Ret [] (.d (.sl (estr.rows res))))
abbrev Y10 (l:List C0)(x1:C0)(out1:List Str)(i2:Int)(k:Int)(res:List Str):Prop:=LM C 62 0 Tryz.f101 [1,1,0,1,4,5,1,0,4,1,1,1,1,0,1,4] [(0,.d (.sl (C0.rows l))),(3,.osl 0 (estr.rows out1)),(4,.d (.int .i64 i2)),(5,.ref 1 0),(6,.d (.int .i64 k))] [.tok 9 1,.row (C0.cells x1) 53] (Ret [] (.d (.sl (estr.rows res))))
theorem H13:(∀ l res,H5 l=some res→Is l res)∧(∀ l out2 i res,Ja l out2 i=some res→W10 l out2 i res)∧(∀ l x1 out i1 res,Uc l x1 out i1=some res→X10 l x1 out i1 res)∧(∀ l x1 out1 i2 k res,Ka l x1 out1 i2 k=some res→Y10 l x1 out1 i2 k res):=by
 refine H5.mutual_partial_correctness _ _ _ _ ?_ ?_ ?_ ?_
 ·intro g1 ih1 l res hh
  exact L0.intro hC Tryz.func101 rfl rfl rfl (t' rfl (s' rfl rfl (E0.be hC rfl (estr.rows_map []).symm (E0.tokE 7 9 1 rfl (e' rfl (S' (t' rfl (bk' (fw' (ih1 _ _ _ _ hh) rfl rfl rfl)))))))))
 ·intro g2 ih2 l out2 i res hh
  refine X0.unroll (S' (p' 2 rfl (qe' rfl trivial (C0.lenA _) (e' rfl (ci' rfl hh (fun hh=>?_) (fun hh=>?_))))))
  ·obtain ⟨x1,hx1,hh⟩:=bs' hh
   obtain ⟨x2,hx2,hh⟩:=bs' hh
   refine sk' (S' (bk' (p' 2 rfl (i' rfl (T0 hx1) (C0.idx hx1) rfl (q' rfl (E0.nf hC rfl (E0.s hC rfl (n' (S' (p' 2 rfl (c' (Og hx2) rfl rfl (n' (ci' rfl hh (fun hh=>?_) (fun hh=>?_))))))))))))))
   ·obtain ⟨c48,hh⟩:=J1 hh
    exact P' 3 rfl (E0.be hC rfl (estr.rows_map [x1.Name]).symm (E0.ap hC rfl (rs:=estr.rows (out2++[x1.Name])) (estr.app out2 [x1.Name]) (estr.sz out2) (estr.sz [x1.Name]) (E3 (estr.len out2) (estr.len [x1.Name]) c48) (e' rfl (ew' (ih2 _ _ _ _ _ hh) rfl rfl rfl))))
   exact sk' (ew' (ih2 _ _ _ _ _ hh) rfl rfl rfl)
  refine ex' (t' rfl (re' ?_))
  obtain rfl:=oi' hh
  exact ⟨_,.d (.sl (estr.rows out2)),[],rfl,.osl,trivial,rfl,rfl,rfl,rfl⟩
 ·intro g3 ih3 l x1 out i1 res hh
  obtain ⟨x3,hx3,hh⟩:=bs' hh
  obtain ⟨c49,hh⟩:=J1 hh
  obtain ⟨x4,hx4,hh⟩:=bs' hh
  obtain ⟨c50,hh⟩:=J1 hh
  refine p' 3 rfl (c' (Pg hx3) rfl rfl (E0.ap hC rfl (rs:=estr.rows (out++x3)) (estr.app out x3) (estr.sz out) (estr.sz x3) (E3 (estr.len out) (estr.len x3) c49) (e' rfl (p' 3 rfl (c' (Pg hx4) rfl rfl (E0.ap hC rfl (rs:=estr.rows ((out++x3)++x4)) (estr.app (out++x3) x4) (estr.sz (out++x3)) (estr.sz x4) (E3 (estr.len (out++x3)) (estr.len x4) c50) (e' rfl (S' ?_))))))))
  exact t' rfl (bk' (fw' (ih3 _ _ _ _ _ _ hh) rfl rfl rfl))
 ·intro g0 g1 g3 ih0 ih1 ih3 l x1 out1 i2 k res hh
  refine X0.unroll (S' (p' 3 rfl (qe' rfl trivial (B0.lenA _) (e' rfl (ci' rfl hh (fun hh=>?_) (fun hh=>?_))))))
  ·obtain ⟨x5,hx5,hh⟩:=bs' hh
   obtain ⟨x6,hx6,hh⟩:=bs' hh
   obtain ⟨c51,hh⟩:=J1 hh
   exact sk' (S' (bk' (P' 4 rfl (i' rfl (T0 hx5) (B0.idx hx5) rfl (q' rfl (c' (Pg hx6) rfl rfl (E0.ap hC rfl (rs:=estr.rows (out1++x6)) (estr.app out1 x6) (estr.sz out1) (estr.sz x6) (E3 (estr.len out1) (estr.len x6) c51) (e' rfl (T' rfl (lw' (ih3 _ _ _ _ _ _ hh) rfl rfl rfl))))))))))
  obtain ⟨x7,hx7,hh⟩:=bs' hh
  obtain ⟨c52,hh⟩:=J1 hh
  obtain ⟨x8,hx8,hh⟩:=bs' hh
  obtain ⟨c53,hh⟩:=J1 hh
  exact ex' (p' 3 rfl (c' (ih0 _ _ hx7) rfl rfl (E0.ap hC rfl (rs:=estr.rows (out1++x7)) (estr.app out1 x7) (estr.sz out1) (estr.sz x7) (E3 (estr.len out1) (estr.len x7) c52) (e' rfl (P' 3 rfl (c' (ih0 _ _ hx8) rfl rfl (E0.ap hC rfl (rs:=estr.rows ((out1++x7)++x8)) (estr.app (out1++x7) x8) (estr.sz (out1++x7)) (estr.sz x8) (E3 (estr.len (out1++x7)) (estr.len x8) c53) (e' rfl (T' rfl (lw' (ih1 _ _ _ _ hh) rfl rfl rfl))))))))))
theorem Yq {l res}(hh:H5 l=some res):Is l res:=(H13).1 _ _ hh
mutual
def U8 (l:List D0):Option (List Str):=
 La l [] 0
 partial_fixpoint
def La (l:List D0)(out:List Str)(i:Int):Option (List Str):=
 if (decide (i < ((l).length:Int)))=true then
  idx l i>>=fun x1=>
  if (decide ((out.length+1) * 17≤140737488355328))=true then
   Ac x1.TypeV>>=fun x2=>
   if (decide (((out++[x1.Name]).length+x2.length) * 17≤140737488355328))=true then
    M6 x1.Value>>=fun x3=>
    if (decide ((((out++[x1.Name])++x2).length+x3.length) * 17≤140737488355328))=true then
     U8 x1.Params>>=fun x4=>
     if (decide (((((out++[x1.Name])++x2)++x3).length+x4.length) * 17≤140737488355328))=true then
      U8 x1.Vars>>=fun x5=>
      if (decide ((((((out++[x1.Name])++x2)++x3)++x4).length+x5.length) * 17≤140737488355328))=true then
       H5 x1.Body>>=fun x6=>
       if (decide (((((((out++[x1.Name])++x2)++x3)++x4)++x5).length+x6.length) * 17≤140737488355328))=true then
        La l ((((((out++[x1.Name])++x2)++x3)++x4)++x5)++x6) (IntKind.i64.wrap (i+1))
       else none
      else none
     else none
    else none
   else none
  else none
 else
  some out
 partial_fixpoint
end
abbrev Js (l:List D0)(res:List Str):Prop:=L0 C 100 [.d (.sl (D0.rows l))] [] (Ret [.tok 9 1] (.osl 0 (estr.rows res)))
abbrev Z10 (l:List D0)(out:List Str)(i:Int)(res:List Str):Prop:=LM C 48 0 Tryz.f100 [1,1,0,1,4] [(0,.d (.sl (D0.rows l))),(3,.osl 0 (estr.rows out)),(4,.d (.int .i64 i))] [.tok 9 1] (Ret [.tok 9 1] (.osl 0 (estr.rows res)))
theorem I13:(∀ l res,U8 l=some res→Js l res)∧(∀ l out i res,La l out i=some res→Z10 l out i res):=by
 refine U8.mutual_partial_correctness _ _ ?_ ?_
 ·intro g1 ih1 l res hh
  exact L0.intro hC Tryz.func100 rfl rfl rfl (t' rfl (s' rfl rfl (E0.be hC rfl (estr.rows_map []).symm (E0.tokE 6 9 1 rfl (e' rfl (S' (t' rfl (bk' (fw' (ih1 _ _ _ _ hh) rfl rfl rfl)))))))))
 ·intro g0 g1 ih0 ih1 l out i res hh
  refine X0.unroll (S' (p' 2 rfl (qe' rfl trivial (D0.lenA _) (e' rfl (ci' rfl hh (fun hh=>?_) (fun hh=>?_))))))
  ·obtain ⟨x1,hx1,hh⟩:=bs' hh
   obtain ⟨c40,hh⟩:=J1 hh
   obtain ⟨x2,hx2,hh⟩:=bs' hh
   obtain ⟨c41,hh⟩:=J1 hh
   obtain ⟨x3,hx3,hh⟩:=bs' hh
   obtain ⟨c42,hh⟩:=J1 hh
   obtain ⟨x4,hx4,hh⟩:=bs' hh
   obtain ⟨c43,hh⟩:=J1 hh
   obtain ⟨x5,hx5,hh⟩:=bs' hh
   obtain ⟨c44,hh⟩:=J1 hh
   obtain ⟨x6,hx6,hh⟩:=bs' hh
   obtain ⟨c45,hh⟩:=J1 hh
   refine sk' (S' (bk' (p' 2 rfl (i' rfl (T0 hx1) (D0.idx hx1) rfl (q' rfl (E0.nf hC rfl (E0.s hC rfl (n' (p' 3 rfl (E0.be hC rfl (estr.rows_map [x1.Name]).symm (E0.ap hC rfl (rs:=estr.rows (out++[x1.Name])) (estr.app out [x1.Name]) (estr.sz out) (estr.sz [x1.Name]) (E3 (estr.len out) (estr.len [x1.Name]) c40) (e' rfl (p' 3 rfl ?_)))))))))))))
   refine c' (F17 hx2) rfl rfl (E0.ap hC rfl (rs:=estr.rows ((out++[x1.Name])++x2)) (estr.app (out++[x1.Name]) x2) (estr.sz (out++[x1.Name])) (estr.sz x2) (E3 (estr.len (out++[x1.Name])) (estr.len x2) c41) (e' rfl (p' 3 rfl (c' (Pg hx3) rfl rfl ?_))))
   refine E0.ap hC rfl (rs:=estr.rows (((out++[x1.Name])++x2)++x3)) (estr.app ((out++[x1.Name])++x2) x3) (estr.sz ((out++[x1.Name])++x2)) (estr.sz x3) (E3 (estr.len ((out++[x1.Name])++x2)) (estr.len x3) c42) (e' rfl (p' 3 rfl (g' [] (ih0 _ _ hx4) rfl rfl rfl rfl rfl rfl ?_)))
   refine E0.ap hC rfl (rs:=estr.rows ((((out++[x1.Name])++x2)++x3)++x4)) (estr.app (((out++[x1.Name])++x2)++x3) x4) (estr.sz (((out++[x1.Name])++x2)++x3)) (estr.sz x4) (E3 (estr.len (((out++[x1.Name])++x2)++x3)) (estr.len x4) c43) (e' rfl (p' 3 rfl (g' [] (ih0 _ _ hx5) rfl rfl rfl rfl rfl rfl ?_)))
   refine E0.ap hC rfl (rs:=estr.rows (((((out++[x1.Name])++x2)++x3)++x4)++x5)) (estr.app ((((out++[x1.Name])++x2)++x3)++x4) x5) (estr.sz ((((out++[x1.Name])++x2)++x3)++x4)) (estr.sz x5) (E3 (estr.len ((((out++[x1.Name])++x2)++x3)++x4)) (estr.len x5) c44) (e' rfl (P' 3 rfl (c' (Yq hx6) rfl rfl ?_)))
   exact E0.ap hC rfl (rs:=estr.rows ((((((out++[x1.Name])++x2)++x3)++x4)++x5)++x6)) (estr.app (((((out++[x1.Name])++x2)++x3)++x4)++x5) x6) (estr.sz (((((out++[x1.Name])++x2)++x3)++x4)++x5)) (estr.sz x6) (E3 (estr.len (((((out++[x1.Name])++x2)++x3)++x4)++x5)) (estr.len x6) c45) (e' rfl (T' rfl (lw' (ih1 _ _ _ _ hh) rfl rfl rfl)))
  cases hh
  exact ex' (t' rfl (re' (rt' rfl rfl rfl)))
theorem H15 {l res}(hh:U8 l=some res):Js l res:=(I13).1 _ _ hh
mutual
def Y7 (left:List Str)(out:List Str):Option (List Str×Int):=
 if (decide (((left).length:Int) > 0))=true then
  idx left 0>>=fun x4=>
  Bc left out x4 0
 else
  some (out,0)
 partial_fixpoint
def Bc (left1:List Str)(out1:List Str)(least:Str)(i:Int):Option (List Str×Int):=
 if (decide (i < ((left1).length:Int)))=true then
  idx left1 i>>=fun x5=>
  if (Op.bytesLess x5 least)=true then
   idx left1 i>>=fun x6=>
   Bc left1 out1 x6 (IntKind.i64.wrap (i+1))
  else
   Bc left1 out1 least (IntKind.i64.wrap (i+1))
 else
  if (decide ((out1.length+1) * 17≤140737488355328))=true then
   Ma left1 (out1++[least]) least [] 0
  else none
 partial_fixpoint
def Ma (left2:List Str)(out2:List Str)(least:Str)(rest:List Str)(i1:Int):Option (List Str×Int):=
 if (decide (i1 < ((left2).length:Int)))=true then
  idx left2 i1>>=fun x7=>
  if (!(x7 == least))=true then
   idx left2 i1>>=fun x8=>
   if (decide ((rest.length+1) * 17≤140737488355328))=true then
    Ma left2 out2 least (rest++[x8]) (IntKind.i64.wrap (i1+1))
   else none
  else
   Ma left2 out2 least rest (IntKind.i64.wrap (i1+1))
 else
  Y7 rest out2
 partial_fixpoint
end
abbrev Ou (left:List Str)(out:List Str)(res:List Str×Int):Prop:=LM C 72 0 Tryz.f47 [1,1,1,1,1,0,4] [(5,.d (.sl (estr.rows left))),(6,.osl 2 (estr.rows out))] [.dead,.dead,.tok 9 1] (Ret [] (.tup [.d (.sl (estr.rows res.1)),.d (.int .i64 res.2)]))
abbrev M18 (left1:List Str)(out1:List Str)(least:Str)(i:Int)(res:List Str×Int):Prop:=LM C 72 0 Tryz.f47 [1,1,1,1,1,0,4,5,1,4,1,0,1,4] [(5,.d (.sl (estr.rows left1))),(6,.osl 2 (estr.rows out1)),(7,.d (.str least)),(8,.d (.int .i64 i))] [.dead,.dead,.tok 9 1] (Ret [] (.tup [.d (.sl (estr.rows res.1)),.d (.int .i64 res.2)]))
abbrev N18 (left2:List Str)(out2:List Str)(least:Str)(rest:List Str)(i1:Int)(res:List Str×Int):Prop:=LM C 72 0 Tryz.f47 [1,1,1,1,1,0,4,5,1,4,1,1,1,1,0,1,4] [(5,.d (.sl (estr.rows left2))),(6,.osl 2 (estr.rows out2)),(7,.d (.str least)),(9,.osl 3 (estr.rows rest)),(10,.d (.int .i64 i1))] [.dead,.dead,.tok 9 1,.tok 9 1] (Ret [] (.tup [.d (.sl (estr.rows res.1)),.d (.int .i64 res.2)]))
theorem I15:(∀ left out res,Y7 left out=some res→Ou left out res)∧(∀ left1 out1 least i res,Bc left1 out1 least i=some res→M18 left1 out1 least i res)∧(∀ left2 out2 least rest i1 res,Ma left2 out2 least rest i1=some res→N18 left2 out2 least rest i1 res):=by
 refine Y7.mutual_partial_correctness _ _ _ ?_ ?_ ?_
 ·intro g1 ih1 left out res hh
  refine X0.unroll (S' (p' 1 rfl (qe' rfl trivial (estr.lenA _) (e' rfl (ci' rfl hh (fun hh=>?_) (fun hh=>?_))))))
  ·obtain ⟨x4,hx4,hh⟩:=bs' hh
   refine sk' (bk' (p' 1 rfl (i' rfl (T0 hx4) (estr.idx hx4) rfl (e' rfl (S' (t' rfl (bk' ?_)))))))
   refine AEx.ofLoop ?_
   refine X0.wk ?_ (ih1 _ _ _ _ _ hh)
   exact ⟨⟨⟨.rfl,rfl⟩,⟨.rfl,rfl⟩,⟨.rfl,rfl⟩,⟨.rfl,rfl⟩,trivial⟩,⟨trivial,trivial,rfl,trivial⟩,rfl⟩
  refine ex' (t' rfl (re' ?_))
  obtain rfl:=oi' hh
  exact ⟨_,.tup [.d (.sl (estr.rows out)),.d (.int .i64 0)],[],rfl,(.tupL ⟨.osl,.rfl,trivial⟩),trivial,rfl,rfl,rfl,rfl⟩
 ·intro g1 g2 ih1 ih2 left1 out1 least i res hh
  refine X0.unroll (S' (p' 2 rfl (qe' rfl trivial (estr.lenA _) (e' rfl (ci' rfl hh (fun hh=>?_) (fun hh=>?_))))))
  ·obtain ⟨x5,hx5,hh⟩:=bs' hh
   refine sk' (S' (bk' (p' 2 rfl (i' rfl (T0 hx5) (estr.idx hx5) rfl (e' rfl (ci' rfl hh (fun hh=>?_) (fun hh=>?_)))))))
   ·obtain ⟨x6,hx6,hh⟩:=bs' hh
    refine P' 2 rfl (i' rfl (T0 hx6) (estr.idx hx6) rfl (e' rfl (T' rfl ?_)))
    refine X0.wk ?_ (ih1 _ _ _ _ _ hh)
    exact ⟨⟨⟨.rfl,rfl⟩,⟨.rfl,rfl⟩,⟨.rfl,rfl⟩,⟨.rfl,rfl⟩,trivial⟩,⟨trivial,trivial,rfl,trivial⟩,rfl⟩
   refine sk' (T' rfl ?_)
   refine X0.wk ?_ (ih1 _ _ _ _ _ hh)
   exact ⟨⟨⟨.rfl,rfl⟩,⟨.rfl,rfl⟩,⟨.rfl,rfl⟩,⟨.rfl,rfl⟩,trivial⟩,⟨trivial,trivial,rfl,trivial⟩,rfl⟩
  obtain ⟨c32,hh⟩:=J1 hh
  refine ex' (p' 2 rfl (E0.be hC rfl (estr.rows_map [least]).symm (E0.ap hC rfl (rs:=estr.rows (out1++[least])) (estr.app out1 [least]) (estr.sz out1) (estr.sz [least]) (E3 (estr.len out1) (estr.len [least]) c32) (e' rfl (s' rfl rfl (E0.be hC rfl (estr.rows_map []).symm (E0.tokE 50 9 1 rfl (e' rfl (S' (t' rfl (bk' ?_)))))))))))
  refine AEx.ofLoop ?_
  refine X0.wk ?_ (ih2 _ _ _ _ _ _ hh)
  exact ⟨⟨⟨.rfl,rfl⟩,⟨.rfl,rfl⟩,⟨.rfl,rfl⟩,⟨.rfl,rfl⟩,⟨.rfl,rfl⟩,trivial⟩,⟨trivial,trivial,rfl,rfl,trivial⟩,rfl⟩
 ·intro g0 g2 ih0 ih2 left2 out2 least rest i1 res hh
  refine X0.unroll (S' (p' 2 rfl (qe' rfl trivial (estr.lenA _) (e' rfl (ci' rfl hh (fun hh=>?_) (fun hh=>?_))))))
  ·obtain ⟨x7,hx7,hh⟩:=bs' hh
   refine sk' (S' (bk' (p' 2 rfl (i' rfl (T0 hx7) (estr.idx hx7) rfl (e' rfl (ci' rfl hh (fun hh=>?_) (fun hh=>?_)))))))
   ·obtain ⟨x8,hx8,hh⟩:=bs' hh
    obtain ⟨c33,hh⟩:=J1 hh
    refine P' 3 rfl (i' rfl (T0 hx8) (estr.idx hx8) rfl (q' rfl (E0.be hC rfl (estr.rows_map [x8]).symm (E0.ap hC rfl (rs:=estr.rows (rest++[x8])) (estr.app rest [x8]) (estr.sz rest) (estr.sz [x8]) (E3 (estr.len rest) (estr.len [x8]) c33) (e' rfl (T' rfl ?_))))))
    refine X0.wk ?_ (ih2 _ _ _ _ _ _ hh)
    exact ⟨⟨⟨.rfl,rfl⟩,⟨.rfl,rfl⟩,⟨.rfl,rfl⟩,⟨.rfl,rfl⟩,⟨.rfl,rfl⟩,trivial⟩,⟨trivial,trivial,rfl,rfl,trivial⟩,rfl⟩
   refine sk' (T' rfl ?_)
   refine X0.wk ?_ (ih2 _ _ _ _ _ _ hh)
   exact ⟨⟨⟨.rfl,rfl⟩,⟨.rfl,rfl⟩,⟨.rfl,rfl⟩,⟨.rfl,rfl⟩,⟨.rfl,rfl⟩,trivial⟩,⟨trivial,trivial,rfl,rfl,trivial⟩,rfl⟩
  refine ex' (T' rfl ?_)
  refine X0.wk ?_ (ih0 _ _ _ hh)
  exact ⟨⟨⟨.osl,rfl⟩,⟨.rfl,rfl⟩,trivial⟩,⟨trivial,trivial,rfl,trivial⟩,rfl⟩
theorem G17 {left out res}(hh:Y7 left out=some res):Ou left out res:=(I15).1 _ _ _ hh
def Rl (p:O0):Option (List Str×Int):=
 Ql p>>=fun x1=>
 if (x1 != 0)=true then
  some ([],x1)
 else
  U8 p.Decls>>=fun x2=>
  H5 p.Body>>=fun x3=>
  if (decide ((x2.length+x3.length) * 17≤140737488355328))=true then
   Y7 (x2++x3) []
  else none
theorem J1c {p res}(hh:Rl p=some res):L0 C 47 [.agg (O0.cells p)] [] (Ret [] (.tup [.d (.sl (estr.rows res.1)),.d (.int .i64 res.2)])):=by
 unfold Rl at hh
 obtain ⟨x1,hx1,hh⟩:=bs' hh
 refine L0.intro hC Tryz.func47 rfl rfl rfl (s' rfl rfl (E0.n hC rfl (e' rfl (p' 1 rfl (c' (I1c hx1) rfl rfl (e' rfl (S' (t' rfl (ci' rfl hh (fun hh=>?_) (fun hh=>?_))))))))))
 ·refine t' rfl (re' ?_)
  obtain rfl:=oi' hh
  exact ⟨_,.tup [.d (.sl (estr.rows [])),.d (.int .i64 x1)],[],rfl,(.tupL ⟨.full,.rfl,trivial⟩),trivial,rfl,rfl,rfl,rfl⟩
 obtain ⟨x2,hx2,hh⟩:=bs' hh
 obtain ⟨x3,hx3,hh⟩:=bs' hh
 obtain ⟨c31,hh⟩:=J1 hh
 refine sk' (S' (AEx.drawL hC 5 [2] [] [[.row (O0.cells p) 25],[.row (O0.cells p) 25,.tok 9 1]] rfl rfl rfl rfl rfl rfl rfl rfl rfl rfl (AS.q hC rfl rfl rfl rfl (AS.q hC rfl rfl rfl rfl (AS.g [] (H15 hx2) rfl rfl rfl rfl rfl rfl rfl rfl rfl rfl rfl rfl (AS.q hC rfl rfl rfl rfl (AS.q hC rfl rfl rfl rfl (AS.nil (c' (Yq hx3) rfl rfl ?_)))))))))
 refine E0.ap hC rfl (rs:=estr.rows (x2++x3)) (estr.app x2 x3) (estr.sz x2) (estr.sz x3) (E3 (estr.len x2) (estr.len x3) c31) (e' rfl (s' rfl rfl (E0.be hC rfl (estr.rows_map []).symm (E0.tokE 23 9 1 rfl (e' rfl (S' (bk' ?_)))))))
 refine AEx.ofLoop ?_
 refine X0.wk ?_ (G17 hh)
 exact ⟨⟨⟨.osl,rfl⟩,⟨.rfl,rfl⟩,trivial⟩,⟨trivial,trivial,rfl,trivial⟩,rfl⟩
def Wf (name:Str)(fromV:Str)(to:Str):Option Str:=
 if (name == fromV)=true then
  some to
 else
  some name
theorem Bm {name fromV to res}(hh:Wf name fromV to=some res):L0 C 103 [.d (.str name),.d (.str fromV),.d (.str to)] [] (Ret [] (.d (.str res))):=by
 unfold Wf at hh
 refine L0.intro hC Tryz.func103 rfl rfl rfl (t' rfl (S' (t' rfl (ci' rfl hh (fun hh=>?_) (fun hh=>?_)))))
 ·cases hh
  exact t' rfl (re' (rt' rfl rfl rfl))
 cases hh
 exact sk' (t' rfl (re' (rt' rfl rfl rfl)))
mutual
def P9 (t:A0)(fromV:Str)(to:Str):Option A0:=
 if (t.Kind == 4)=true then
  Wf t.Name fromV to>>=fun x1=>
  Vb t fromV to x1
 else
  Vb t fromV to t.Name
 partial_fixpoint
def Vb (t:A0)(fromV:Str)(to:Str)(o2_Name:Str):Option A0:=
 Z8 t fromV to o2_Name [] 0
 partial_fixpoint
def Z8 (t:A0)(fromV:Str)(to:Str)(o2_Name:Str)(o2_Names:List Str)(i:Int):Option A0:=
 if (decide (i < ((t.Names).length:Int)))=true then
  idx t.Names i>>=fun x2=>
  if (decide ((o2_Names.length+1) * 17≤140737488355328))=true then
   Z8 t fromV to o2_Name (o2_Names++[x2]) (IntKind.i64.wrap (i+1))
  else none
 else
  A9 t fromV to o2_Name o2_Names [] 0
 partial_fixpoint
def A9 (t:A0)(fromV:Str)(to:Str)(o2_Name:Str)(o2_Names:List Str)(o2_Of:List A0)(i1:Int):Option A0:=
 if (decide (i1 < ((t.Of).length:Int)))=true then
  idx t.Of i1>>=fun x3=>
  P9 x3 fromV to>>=fun x4=>
  if (decide ((o2_Of.length+1) * 97≤140737488355328))=true then
   A9 t fromV to o2_Name o2_Names (o2_Of++[x4]) (IntKind.i64.wrap (i1+1))
  else none
 else
  some (A0.mk t.Kind t.Low t.High t.Size o2_Name o2_Names o2_Of)
 partial_fixpoint
end
abbrev Zq (t:A0)(fromV:Str)(to:Str)(res:A0):Prop:=L0 C 104 [.agg (A0.cells t),.d (.str fromV),.d (.str to)] [] (Ret [] (.agg (A0.cells res)))
abbrev Qy (t:A0)(fromV:Str)(to:Str)(o2_Name:Str)(res:A0):Prop:=JM C 68 0 Tryz.f104 [1,1,1] [(1,.d (.str fromV)),(2,.d (.str to)),(3,.ref 0 0),(6,.ref 1 0),(7,.ref 2 0)] [.row (A0.cells t) 40,.row [.d (.int .i64 0),.d (.int .i64 0),.d (.int .i64 0),.d (.int .i64 0),.d (.str []),.full (estr.rows []),.full (A0.rows [])] 40,.row [.d (.int .i64 t.Kind),.d (.int .i64 t.Low),.d (.int .i64 t.High),.d (.int .i64 t.Size),.d (.str o2_Name),.osl 3 (estr.rows []),.osl 4 (A0.rows [])] 40,.tok 9 1,.tok 40 7] (Ret [] (.agg (A0.cells res)))
abbrev Ry (t:A0)(fromV:Str)(to:Str)(o2_Name:Str)(o2_Names:List Str)(i:Int)(res:A0):Prop:=LM C 68 0 Tryz.f104 [1,1,1,0,1,4] [(1,.d (.str fromV)),(2,.d (.str to)),(3,.ref 0 0),(6,.ref 1 0),(7,.ref 2 0),(8,.d (.int .i64 i))] [.row (A0.cells t) 40,.row [.d (.int .i64 0),.d (.int .i64 0),.d (.int .i64 0),.d (.int .i64 0),.d (.str []),.full (estr.rows []),.full (A0.rows [])] 40,.row [.d (.int .i64 t.Kind),.d (.int .i64 t.Low),.d (.int .i64 t.High),.d (.int .i64 t.Size),.d (.str o2_Name),.osl 3 (estr.rows o2_Names),.osl 4 (A0.rows [])] 40,.tok 9 1,.tok 40 7] (Ret [] (.agg (A0.cells res)))
abbrev Sy (t:A0)(fromV:Str)(to:Str)(o2_Name:Str)(o2_Names:List Str)(o2_Of:List A0)(i1:Int)(res:A0):Prop:=LM C 68 0 Tryz.f104 [1,1,1,1,0,1,4] [(1,.d (.str fromV)),(2,.d (.str to)),(3,.ref 0 0),(6,.ref 1 0),(7,.ref 2 0),(9,.d (.int .i64 i1))] [.row (A0.cells t) 40,.row [.d (.int .i64 0),.d (.int .i64 0),.d (.int .i64 0),.d (.int .i64 0),.d (.str []),.full (estr.rows []),.full (A0.rows [])] 40,.row [.d (.int .i64 t.Kind),.d (.int .i64 t.Low),.d (.int .i64 t.High),.d (.int .i64 t.Size),.d (.str o2_Name),.osl 3 (estr.rows o2_Names),.osl 4 (A0.rows o2_Of)] 40,.tok 9 1,.tok 40 7] (Ret [] (.agg (A0.cells res)))
theorem A11 (fromV:Str)(to:Str):(∀ t res,P9 t fromV to=some res→Zq t fromV to res)∧(∀ t o2_Name res,Vb t fromV to o2_Name=some res→Qy t fromV to o2_Name res)∧(∀ t o2_Name o2_Names i res,Z8 t fromV to o2_Name o2_Names i=some res→Ry t fromV to o2_Name o2_Names i res)∧(∀ t o2_Name o2_Names o2_Of i1 res,A9 t fromV to o2_Name o2_Names o2_Of i1=some res→Sy t fromV to o2_Name o2_Names o2_Of i1 res):=by
 refine P9.mutual_partial_correctness fromV to _ _ _ _ ?_ ?_ ?_ ?_
 ·intro g1 ih1 t res hh
  refine L0.intro hC Tryz.func104 rfl rfl rfl (s' rfl rfl (E0.n hC rfl (E0.nf hC rfl (n' (p' 10 rfl (E0.bz hC rfl (E0.nf hC rfl (E0.s hC rfl (E0.tokC 2 5 9 1 rfl rfl rfl rfl rfl (E0.tokC 2 6 40 7 rfl rfl rfl rfl rfl (n' (S' (t' rfl (ci' rfl hh (fun hh=>?_) (fun hh=>?_)))))))))))))))
  ·obtain ⟨x1,hx1,hh⟩:=bs' hh
   exact P' 4 rfl (c' (Bm hx1) rfl rfl (q' rfl (E0.s hC rfl (n' (ew' (ih1 _ _ _ hh) rfl rfl rfl)))))
  exact sk' (ew' (ih1 _ _ _ hh) rfl rfl rfl)
 ·intro g2 ih2 t o2_Name res hh
  exact S' (t' rfl (bk' (fw' (ih2 _ _ _ _ _ hh) rfl rfl rfl)))
 ·intro g2 g3 ih2 ih3 t o2_Name o2_Names i res hh
  refine X0.unroll (S' (p' 3 rfl (qe' rfl trivial (estr.lenA _) (e' rfl (ci' rfl hh (fun hh=>?_) (fun hh=>?_))))))
  ·obtain ⟨x2,hx2,hh⟩:=bs' hh
   obtain ⟨c17,hh⟩:=J1 hh
   exact sk' (S' (bk' (AEx.draw hC 8 rfl rfl rfl (O' 5 rfl (AQ.i hC rfl (T0 hx2) (estr.idx hx2) rfl (Q' rfl (AQ.be hC rfl (estr.rows_map [x2]).symm (Qn' (E0.ap hC rfl (rs:=estr.rows (o2_Names++[x2])) (estr.app o2_Names [x2]) (estr.sz o2_Names) (estr.sz [x2]) (E3 (estr.len o2_Names) (estr.len [x2]) c17) (q' rfl (E0.s hC rfl (n' (T' rfl (lw' (ih2 _ _ _ _ _ hh) rfl rfl rfl))))))))))))))
  exact ex' (S' (t' rfl (bk' (fw' (ih3 _ _ _ _ _ _ hh) rfl rfl rfl))))
 ·intro g0 g3 ih0 ih3 t o2_Name o2_Names o2_Of i1 res hh
  refine X0.unroll (S' (p' 3 rfl (qe' rfl trivial (A0.lenA _) (e' rfl (ci' rfl hh (fun hh=>?_) (fun hh=>?_))))))
  ·obtain ⟨x3,hx3,hh⟩:=bs' hh
   obtain ⟨x4,hx4,hh⟩:=bs' hh
   obtain ⟨c18,hh⟩:=J1 hh
   refine sk' (S' (bk' (AEx.draw hC 11 rfl rfl rfl (O' 5 rfl (AQ.i hC rfl (T0 hx3) (A0.idx hx3) rfl (O' 3 rfl (Qc' (ih0 _ _ hx4) rfl rfl (AQ.be hC rfl (A0.rows_map [x4]).symm (Qn' (E0.ap hC rfl (rs:=A0.rows (o2_Of++[x4])) (A0.app o2_Of [x4]) (A0.sz o2_Of) (A0.sz [x4]) (E3 (A0.len o2_Of) (A0.len [x4]) c18) (q' rfl (E0.s hC rfl (n' ?_)))))))))))))
   exact T' rfl (lw' (ih3 _ _ _ _ _ _ hh) rfl rfl rfl)
  refine ex' (p' 1 rfl (E0.s hC rfl (n' (re' ?_))))
  obtain rfl:=oi' hh
  exact ⟨_,.agg [.d (.int .i64 t.Kind),.d (.int .i64 t.Low),.d (.int .i64 t.High),.d (.int .i64 t.Size),.d (.str o2_Name),.d (.sl (estr.rows o2_Names)),.d (.sl (A0.rows o2_Of))],[],rfl,(.aggL ⟨.rfl,.rfl,.rfl,.rfl,.rfl,.osl,.osl,trivial⟩),trivial,rfl,rfl,rfl,rfl⟩
theorem J13 {t fromV to res}(hh:P9 t fromV to=some res):Zq t fromV to res:=(A11 fromV to).1 _ _ hh
mutual
def X4 (e:B0)(fromV:Str)(to:Str):Option B0:=
 if (e.Op == 3)=true then
  Wf e.Name fromV to>>=fun x1=>
  Wb e fromV to x1
 else
  Wb e fromV to e.Name
 partial_fixpoint
def Wb (e:B0)(fromV:Str)(to:Str)(o2_Name:Str):Option B0:=
 B9 e fromV to o2_Name [] 0
 partial_fixpoint
def B9 (e:B0)(fromV:Str)(to:Str)(o2_Name:Str)(o2_Kids:List B0)(i:Int):Option B0:=
 if (decide (i < ((e.Kids).length:Int)))=true then
  idx e.Kids i>>=fun x2=>
  X4 x2 fromV to>>=fun x3=>
  if (decide ((o2_Kids.length+1) * 57≤140737488355328))=true then
   B9 e fromV to o2_Name (o2_Kids++[x3]) (IntKind.i64.wrap (i+1))
  else none
 else
  some (B0.mk e.Op e.NV o2_Name o2_Kids)
 partial_fixpoint
end
abbrev Ar (e:B0)(fromV:Str)(to:Str)(res:B0):Prop:=L0 C 105 [.agg (B0.cells e),.d (.str fromV),.d (.str to)] [] (Ret [] (.agg (B0.cells res)))
abbrev Ty (e:B0)(fromV:Str)(to:Str)(o2_Name:Str)(res:B0):Prop:=JM C 46 0 Tryz.f105 [1,1,1] [(1,.d (.str fromV)),(2,.d (.str to)),(3,.ref 0 0),(6,.ref 1 0),(7,.ref 2 0)] [.row (B0.cells e) 34,.row [.d (.int .i64 0),.d (.int .i64 0),.d (.str []),.full (B0.rows [])] 34,.row [.d (.int .i64 e.Op),.d (.int .i64 e.NV),.d (.str o2_Name),.osl 3 (B0.rows [])] 34,.tok 34 4] (Ret [] (.agg (B0.cells res)))
abbrev Uy (e:B0)(fromV:Str)(to:Str)(o2_Name:Str)(o2_Kids:List B0)(i:Int)(res:B0):Prop:=LM C 46 0 Tryz.f105 [1,1,1,0,1,4] [(1,.d (.str fromV)),(2,.d (.str to)),(3,.ref 0 0),(6,.ref 1 0),(7,.ref 2 0),(8,.d (.int .i64 i))] [.row (B0.cells e) 34,.row [.d (.int .i64 0),.d (.int .i64 0),.d (.str []),.full (B0.rows [])] 34,.row [.d (.int .i64 e.Op),.d (.int .i64 e.NV),.d (.str o2_Name),.osl 3 (B0.rows o2_Kids)] 34,.tok 34 4] (Ret [] (.agg (B0.cells res)))
theorem B11 (fromV:Str)(to:Str):(∀ e res,X4 e fromV to=some res→Ar e fromV to res)∧(∀ e o2_Name res,Wb e fromV to o2_Name=some res→Ty e fromV to o2_Name res)∧(∀ e o2_Name o2_Kids i res,B9 e fromV to o2_Name o2_Kids i=some res→Uy e fromV to o2_Name o2_Kids i res):=by
 refine X4.mutual_partial_correctness fromV to _ _ _ ?_ ?_ ?_
 ·intro g1 ih1 e res hh
  refine L0.intro hC Tryz.func105 rfl rfl rfl (s' rfl rfl (E0.n hC rfl (E0.nf hC rfl (n' (p' 6 rfl (E0.bz hC rfl (E0.nf hC rfl (E0.s hC rfl (E0.tokC 2 3 34 4 rfl rfl rfl rfl rfl (n' (S' (t' rfl (ci' rfl hh (fun hh=>?_) (fun hh=>?_))))))))))))))
  ·obtain ⟨x1,hx1,hh⟩:=bs' hh
   exact P' 4 rfl (c' (Bm hx1) rfl rfl (q' rfl (E0.s hC rfl (n' (ew' (ih1 _ _ _ hh) rfl rfl rfl)))))
  exact sk' (ew' (ih1 _ _ _ hh) rfl rfl rfl)
 ·intro g2 ih2 e o2_Name res hh
  exact S' (t' rfl (bk' (fw' (ih2 _ _ _ _ _ hh) rfl rfl rfl)))
 ·intro g0 g2 ih0 ih2 e o2_Name o2_Kids i res hh
  refine X0.unroll (S' (p' 3 rfl (qe' rfl trivial (B0.lenA _) (e' rfl (ci' rfl hh (fun hh=>?_) (fun hh=>?_))))))
  ·obtain ⟨x2,hx2,hh⟩:=bs' hh
   obtain ⟨x3,hx3,hh⟩:=bs' hh
   obtain ⟨c7,hh⟩:=J1 hh
   refine sk' (S' (bk' (AEx.draw hC 11 rfl rfl rfl (O' 5 rfl (AQ.i hC rfl (T0 hx2) (B0.idx hx2) rfl (O' 3 rfl (Qc' (ih0 _ _ hx3) rfl rfl (AQ.be hC rfl (B0.rows_map [x3]).symm (Qn' (E0.ap hC rfl (rs:=B0.rows (o2_Kids++[x3])) (B0.app o2_Kids [x3]) (B0.sz o2_Kids) (B0.sz [x3]) (E3 (B0.len o2_Kids) (B0.len [x3]) c7) (q' rfl (E0.s hC rfl (n' ?_)))))))))))))
   exact T' rfl (lw' (ih2 _ _ _ _ _ hh) rfl rfl rfl)
  refine ex' (p' 1 rfl (E0.s hC rfl (n' (re' ?_))))
  obtain rfl:=oi' hh
  exact ⟨_,.agg [.d (.int .i64 e.Op),.d (.int .i64 e.NV),.d (.str o2_Name),.d (.sl (B0.rows o2_Kids))],[],rfl,(.aggL ⟨.rfl,.rfl,.rfl,.osl,trivial⟩),trivial,rfl,rfl,rfl,rfl⟩
theorem Af {e fromV to res}(hh:X4 e fromV to=some res):Ar e fromV to res:=(B11 fromV to).1 _ _ hh
mutual
def H4 (l:List C0)(fromV:Str)(to:Str):Option (List C0):=
 Z7 l fromV to [] 0
 partial_fixpoint
def Z7 (l:List C0)(fromV:Str)(to:Str)(out:List C0)(i:Int):Option (List C0):=
 if (decide (i < ((l).length:Int)))=true then
  idx l i>>=fun x1=>
  X4 x1.Place fromV to>>=fun x2=>
  X4 x1.Value fromV to>>=fun x3=>
  H4 x1.Then fromV to>>=fun x4=>
  H4 x1.Else fromV to>>=fun x5=>
  Zb x1.Verb>>=fun x6=>
  if x6=true then
   Wf x1.Name fromV to>>=fun x7=>
   Wa l fromV to x1 x2 x3 x7 x4 x5 out i
  else
   Wa l fromV to x1 x2 x3 x1.Name x4 x5 out i
 else
  some out
 partial_fixpoint
def Wa (l:List C0)(fromV:Str)(to:Str)(x1:C0)(x2:B0)(x3:B0)(o2_Name:Str)(x4:List C0)(x5:List C0)(out1:List C0)(i1:Int):Option (List C0):=
 A8 l fromV to x1 x2 x3 o2_Name [] x4 x5 out1 i1 0
 partial_fixpoint
def A8 (l:List C0)(fromV:Str)(to:Str)(x1:C0)(x2:B0)(x3:B0)(o2_Name:Str)(o2_Args:List B0)(x4:List C0)(x5:List C0)(out2:List C0)(i2:Int)(k:Int):Option (List C0):=
 if (decide (k < ((x1.Args).length:Int)))=true then
  idx x1.Args k>>=fun x8=>
  X4 x8 fromV to>>=fun x9=>
  if (decide ((o2_Args.length+1) * 57≤140737488355328))=true then
   A8 l fromV to x1 x2 x3 o2_Name (o2_Args++[x9]) x4 x5 out2 i2 (IntKind.i64.wrap (k+1))
  else none
 else
  B8 l fromV to x1 x2 x3 o2_Name o2_Args [] x4 x5 out2 i2 0
 partial_fixpoint
def B8 (l:List C0)(fromV:Str)(to:Str)(x1:C0)(x2:B0)(x3:B0)(o2_Name:Str)(o2_Args:List B0)(o2_Numbers:List Int)(x4:List C0)(x5:List C0)(out3:List C0)(i3:Int)(k1:Int):Option (List C0):=
 if (decide (k1 < ((x1.Numbers).length:Int)))=true then
  idx x1.Numbers k1>>=fun x10=>
  if (decide ((o2_Numbers.length+1) * 9≤140737488355328))=true then
   B8 l fromV to x1 x2 x3 o2_Name o2_Args (o2_Numbers++[x10]) x4 x5 out3 i3 (IntKind.i64.wrap (k1+1))
  else none
 else
  if (decide ((out3.length+1) * 257≤140737488355328))=true then
   Z7 l fromV to (out3++[(C0.mk x1.Verb x2 x3 o2_Name o2_Args x1.NV x1.Low x1.High o2_Numbers x4 x5)]) (IntKind.i64.wrap (i3+1))
  else none
 partial_fixpoint
end
abbrev Hp (l:List C0)(fromV:Str)(to:Str)(res:List C0):Prop:=L0 C 50 [.d (.sl (C0.rows l)),.d (.str fromV),.d (.str to)] [] (Ret [] (.d (.sl (C0.rows res))))
abbrev Zw (l:List C0)(fromV:Str)(to:Str)(out:List C0)(i:Int)(res:List C0):Prop:=LM C 106 0 Tryz.f50 [1,1,0,1,4] [(0,.d (.sl (C0.rows l))),(1,.d (.str fromV)),(2,.d (.str to)),(7,.osl 0 (C0.rows out)),(8,.d (.int .i64 i))] [.tok 53 17] (Ret [] (.d (.sl (C0.rows res))))
abbrev Ax (l:List C0)(fromV:Str)(to:Str)(x1:C0)(x2:B0)(x3:B0)(o2_Name:Str)(x4:List C0)(x5:List C0)(out1:List C0)(i1:Int)(res:List C0):Prop:=JM C 106 0 Tryz.f50 [1,1,0,1,4,5,1,0,4,1,1,1] [(0,.d (.sl (C0.rows l))),(1,.d (.str fromV)),(2,.d (.str to)),(7,.osl 0 (C0.rows out1)),(8,.d (.int .i64 i1)),(9,.ref 1 0),(10,.ref 2 0)] [.tok 53 17,.row (C0.cells x1) 53,.row [.d (.int .i64 x1.Verb),.d (.int .i64 x2.Op),.d (.int .i64 x2.NV),.d (.str x2.Name),.d (.sl (B0.rows x2.Kids)),.d (.int .i64 x3.Op),.d (.int .i64 x3.NV),.d (.str x3.Name),.d (.sl (B0.rows x3.Kids)),.d (.str o2_Name),.osl 3 (B0.rows []),.d (.int .i64 x1.NV),.d (.int .i64 x1.Low),.d (.int .i64 x1.High),.osl 4 (ei64.rows []),.d (.sl (C0.rows x4)),.d (.sl (C0.rows x5))] 53,.tok 34 4,.tok 3 1] (Ret [] (.d (.sl (C0.rows res))))
abbrev Bx (l:List C0)(fromV:Str)(to:Str)(x1:C0)(x2:B0)(x3:B0)(o2_Name:Str)(o2_Args:List B0)(x4:List C0)(x5:List C0)(out2:List C0)(i2:Int)(k:Int)(res:List C0):Prop:=LM C 106 0 Tryz.f50 [1,1,0,1,4,5,1,0,4,1,1,1,0,1,4] [(0,.d (.sl (C0.rows l))),(1,.d (.str fromV)),(2,.d (.str to)),(7,.osl 0 (C0.rows out2)),(8,.d (.int .i64 i2)),(9,.ref 1 0),(10,.ref 2 0),(11,.d (.int .i64 k))] [.tok 53 17,.row (C0.cells x1) 53,.row [.d (.int .i64 x1.Verb),.d (.int .i64 x2.Op),.d (.int .i64 x2.NV),.d (.str x2.Name),.d (.sl (B0.rows x2.Kids)),.d (.int .i64 x3.Op),.d (.int .i64 x3.NV),.d (.str x3.Name),.d (.sl (B0.rows x3.Kids)),.d (.str o2_Name),.osl 3 (B0.rows o2_Args),.d (.int .i64 x1.NV),.d (.int .i64 x1.Low),.d (.int .i64 x1.High),.osl 4 (ei64.rows []),.d (.sl (C0.rows x4)),.d (.sl (C0.rows x5))] 53,.tok 34 4,.tok 3 1] (Ret [] (.d (.sl (C0.rows res))))
abbrev Dx (l:List C0)(fromV:Str)(to:Str)(x1:C0)(x2:B0)(x3:B0)(o2_Name:Str)(o2_Args:List B0)(o2_Numbers:List Int)(x4:List C0)(x5:List C0)(out3:List C0)(i3:Int)(k1:Int)(res:List C0):Prop:=LM C 106 0 Tryz.f50 [1,1,0,1,4,5,1,0,4,1,1,1,1,0,1,4] [(0,.d (.sl (C0.rows l))),(1,.d (.str fromV)),(2,.d (.str to)),(7,.osl 0 (C0.rows out3)),(8,.d (.int .i64 i3)),(9,.ref 1 0),(10,.ref 2 0),(12,.d (.int .i64 k1))] [.tok 53 17,.row (C0.cells x1) 53,.row [.d (.int .i64 x1.Verb),.d (.int .i64 x2.Op),.d (.int .i64 x2.NV),.d (.str x2.Name),.d (.sl (B0.rows x2.Kids)),.d (.int .i64 x3.Op),.d (.int .i64 x3.NV),.d (.str x3.Name),.d (.sl (B0.rows x3.Kids)),.d (.str o2_Name),.osl 3 (B0.rows o2_Args),.d (.int .i64 x1.NV),.d (.int .i64 x1.Low),.d (.int .i64 x1.High),.osl 4 (ei64.rows o2_Numbers),.d (.sl (C0.rows x4)),.d (.sl (C0.rows x5))] 53,.tok 34 4,.tok 3 1] (Ret [] (.d (.sl (C0.rows res))))
theorem Vy (fromV:Str)(to:Str):(∀ l res,H4 l fromV to=some res→Hp l fromV to res)∧(∀ l out i res,Z7 l fromV to out i=some res→Zw l fromV to out i res)∧(∀ l x1 x2 x3 o2_Name x4 x5 out1 i1 res,Wa l fromV to x1 x2 x3 o2_Name x4 x5 out1 i1=some res→Ax l fromV to x1 x2 x3 o2_Name x4 x5 out1 i1 res)∧(∀ l x1 x2 x3 o2_Name o2_Args x4 x5 out2 i2 k res,A8 l fromV to x1 x2 x3 o2_Name o2_Args x4 x5 out2 i2 k=some res→Bx l fromV to x1 x2 x3 o2_Name o2_Args x4 x5 out2 i2 k res)∧(∀ l x1 x2 x3 o2_Name o2_Args o2_Numbers x4 x5 out3 i3 k1 res,B8 l fromV to x1 x2 x3 o2_Name o2_Args o2_Numbers x4 x5 out3 i3 k1=some res→Dx l fromV to x1 x2 x3 o2_Name o2_Args o2_Numbers x4 x5 out3 i3 k1 res):=by
 refine H4.mutual_partial_correctness fromV to _ _ _ _ _ ?_ ?_ ?_ ?_ ?_
 ·intro g1 ih1 l res hh
  exact L0.intro hC Tryz.func50 rfl rfl rfl (t' rfl (s' rfl rfl (E0.be hC rfl (C0.rows_map []).symm (E0.tokE 13 53 17 rfl (e' rfl (S' (t' rfl (bk' (fw' (ih1 _ _ _ _ hh) rfl rfl rfl)))))))))
 ·intro g0 g2 ih0 ih2 l out i res hh
  refine X0.unroll (S' (p' 2 rfl (qe' rfl trivial (C0.lenA _) (e' rfl (ci' rfl hh (fun hh=>?_) (fun hh=>?_))))))
  ·obtain ⟨x1,hx1,hh⟩:=bs' hh
   obtain ⟨x2,hx2,hh⟩:=bs' hh
   obtain ⟨x3,hx3,hh⟩:=bs' hh
   obtain ⟨x4,hx4,hh⟩:=bs' hh
   obtain ⟨x5,hx5,hh⟩:=bs' hh
   obtain ⟨x6,hx6,hh⟩:=bs' hh
   refine sk' (S' (bk' (p' 2 rfl (i' rfl (T0 hx1) (C0.idx hx1) rfl (q' rfl (E0.nf hC rfl (E0.s hC rfl (n' (S' ?_)))))))))
   refine AEx.drawL hC 32 [] [(31,2)] [[.tok 53 17,.row (C0.cells x1) 53,.row [.d (.int .i64 0),.d (.int .i64 0),.d (.int .i64 0),.d (.str []),.full (B0.rows []),.d (.int .i64 0),.d (.int .i64 0),.d (.str []),.full (B0.rows []),.d (.str []),.full (B0.rows []),.d (.int .i64 0),.d (.int .i64 0),.d (.int .i64 0),.full (ei64.rows []),.full (C0.rows []),.full (C0.rows [])] 53]] rfl rfl rfl rfl rfl rfl rfl rfl rfl rfl ?_
   iterate 6 refine AS.q hC rfl rfl rfl rfl ?_
   refine AS.c (Af hx2) rfl rfl rfl rfl (AS.q hC rfl rfl rfl rfl (AS.q hC rfl rfl rfl rfl (AS.q hC rfl rfl rfl rfl (AS.q hC rfl rfl rfl rfl (AS.c (Af hx3) rfl rfl rfl rfl (AS.q hC rfl rfl rfl rfl (AS.q hC rfl rfl rfl rfl (AS.q hC rfl rfl rfl rfl (AS.q hC rfl rfl rfl rfl (AS.q hC rfl rfl rfl rfl (AS.q hC rfl rfl rfl rfl (AS.q hC rfl rfl rfl rfl (AS.q hC rfl rfl rfl rfl ?_)))))))))))))
   refine AS.q hC rfl rfl rfl rfl (AS.q hC rfl rfl rfl rfl (AS.q hC rfl rfl rfl rfl (AS.q hC rfl rfl rfl rfl (AS.c (ih0 _ _ hx4) rfl rfl rfl rfl (AS.q hC rfl rfl rfl rfl (AS.q hC rfl rfl rfl rfl (AS.q hC rfl rfl rfl rfl (AS.q hC rfl rfl rfl rfl (AS.c (ih0 _ _ hx5) rfl rfl rfl rfl (AS.a rfl (fun H=>AQ.bz hC rfl (AQ.nil rfl)) rfl rfl (AS.n hC rfl rfl rfl rfl (AS.nil (E0.s hC rfl ?_)))))))))))))
   refine E0.tokC 2 10 34 4 rfl rfl rfl rfl rfl (E0.tokC 2 14 3 1 rfl rfl rfl rfl rfl (n' (S' (p' 2 rfl (c' (Og hx6) rfl rfl (n' (ci' rfl hh (fun hh=>?_) (fun hh=>?_))))))))
   ·obtain ⟨x7,hx7,hh⟩:=bs' hh
    exact P' 4 rfl (c' (Bm hx7) rfl rfl (q' rfl (E0.s hC rfl (n' (ew' (ih2 _ _ _ _ _ _ _ _ _ _ hh) rfl rfl rfl)))))
   exact sk' (ew' (ih2 _ _ _ _ _ _ _ _ _ _ hh) rfl rfl rfl)
  refine ex' (t' rfl (re' ?_))
  obtain rfl:=oi' hh
  exact ⟨_,.d (.sl (C0.rows out)),[],rfl,.osl,trivial,rfl,rfl,rfl,rfl⟩
 ·intro g3 ih3 l x1 x2 x3 o2_Name x4 x5 out1 i1 res hh
  exact S' (t' rfl (bk' (fw' (ih3 _ _ _ _ _ _ _ _ _ _ _ _ hh) rfl rfl rfl)))
 ·intro g3 g4 ih3 ih4 l x1 x2 x3 o2_Name o2_Args x4 x5 out2 i2 k res hh
  refine X0.unroll (S' (p' 3 rfl (qe' rfl trivial (B0.lenA _) (e' rfl (ci' rfl hh (fun hh=>?_) (fun hh=>?_))))))
  ·obtain ⟨x8,hx8,hh⟩:=bs' hh
   obtain ⟨x9,hx9,hh⟩:=bs' hh
   obtain ⟨c30,hh⟩:=J1 hh
   refine sk' (S' (bk' (AEx.draw hC 11 rfl rfl rfl (O' 5 rfl (AQ.i hC rfl (T0 hx8) (B0.idx hx8) rfl (O' 3 rfl (Qc' (Af hx9) rfl rfl (AQ.be hC rfl (B0.rows_map [x9]).symm (Qn' (E0.ap hC rfl (rs:=B0.rows (o2_Args++[x9])) (B0.app o2_Args [x9]) (B0.sz o2_Args) (B0.sz [x9]) (E3 (B0.len o2_Args) (B0.len [x9]) c30) (q' rfl (E0.s hC rfl (n' ?_)))))))))))))
   exact T' rfl (lw' (ih3 _ _ _ _ _ _ _ _ _ _ _ _ hh) rfl rfl rfl)
  exact ex' (S' (t' rfl (bk' (fw' (ih4 _ _ _ _ _ _ _ _ _ _ _ _ _ hh) rfl rfl rfl))))
 ·intro g1 g4 ih1 ih4 l x1 x2 x3 o2_Name o2_Args o2_Numbers x4 x5 out3 i3 k1 res hh
  refine X0.unroll (S' (p' 3 rfl (qe' rfl trivial (ei64.lenA _) (e' rfl (ci' rfl hh (fun hh=>?_) (fun hh=>?_))))))
  ·obtain ⟨x10,hx10,hh⟩:=bs' hh
   obtain ⟨c31,hh⟩:=J1 hh
   exact sk' (S' (bk' (AEx.draw hC 8 rfl rfl rfl (O' 5 rfl (AQ.i hC rfl (T0 hx10) (ei64.idx hx10) rfl (Q' rfl (AQ.be hC rfl (ei64.rows_map [x10]).symm (Qn' (E0.ap hC rfl (rs:=ei64.rows (o2_Numbers++[x10])) (ei64.app o2_Numbers [x10]) (ei64.sz o2_Numbers) (ei64.sz [x10]) (E3 (ei64.len o2_Numbers) (ei64.len [x10]) c31) (q' rfl (E0.s hC rfl (n' (T' rfl (lw' (ih4 _ _ _ _ _ _ _ _ _ _ _ _ _ hh) rfl rfl rfl))))))))))))))
  obtain ⟨c32,hh⟩:=J1 hh
  refine ex' (P' 2 rfl (E0.be hC rfl (C0.rows_map [(C0.mk x1.Verb x2 x3 o2_Name o2_Args x1.NV x1.Low x1.High o2_Numbers x4 x5)]).symm ?_))
  refine E0.ap hC rfl (rs:=C0.rows (out3++[(C0.mk x1.Verb x2 x3 o2_Name o2_Args x1.NV x1.Low x1.High o2_Numbers x4 x5)])) (C0.app out3 [(C0.mk x1.Verb x2 x3 o2_Name o2_Args x1.NV x1.Low x1.High o2_Numbers x4 x5)]) (C0.sz out3) (C0.sz [(C0.mk x1.Verb x2 x3 o2_Name o2_Args x1.NV x1.Low x1.High o2_Numbers x4 x5)]) (E3 (C0.len out3) (C0.len [(C0.mk x1.Verb x2 x3 o2_Name o2_Args x1.NV x1.Low x1.High o2_Numbers x4 x5)]) c32) ?_
  exact e' rfl (T' rfl (lw' (ih1 _ _ _ _ hh) rfl rfl rfl))
theorem Zn {l fromV to res}(hh:H4 l fromV to=some res):Hp l fromV to res:=(Vy fromV to).1 _ _ hh
end Go.Proofs.YtdkabnfphmmmnaaGreatDoor

set_option maxRecDepth 100000
set_option maxHeartbeats 4000000
set_option synthInstance.maxSize 20000
set_option linter.unusedVariables false
namespace Go.Proofs.YtdkabnfphmmmnaaGreatDoor
open Go.Am
mutual
def S6 (l:List D0)(fromV:Str)(to:Str):Option (List D0):=
 C8 l fromV to [] 0
 partial_fixpoint
def C8 (l:List D0)(fromV:Str)(to:Str)(out:List D0)(i:Int):Option (List D0):=
 if (decide (i < ((l).length:Int)))=true then
  idx l i>>=fun x1=>
  Wf x1.Name fromV to>>=fun x2=>
  P9 x1.TypeV fromV to>>=fun x3=>
  X4 x1.Value fromV to>>=fun x4=>
  S6 x1.Params fromV to>>=fun x5=>
  S6 x1.Vars fromV to>>=fun x6=>
  H4 x1.Body fromV to>>=fun x7=>
  if (decide ((out.length+1) * 257≤140737488355328))=true then
   C8 l fromV to (out++[(D0.mk x1.Kind x2 x3 x1.Init x4 x5 x6 x7)]) (IntKind.i64.wrap (i+1))
  else none
 else
  some out
 partial_fixpoint
end
abbrev Ip (l:List D0)(fromV:Str)(to:Str)(res:List D0):Prop:=L0 C 49 [.d (.sl (D0.rows l)),.d (.str fromV),.d (.str to)] [] (Ret [] (.d (.sl (D0.rows res))))
abbrev Gx (l:List D0)(fromV:Str)(to:Str)(out:List D0)(i:Int)(res:List D0):Prop:=LM C 60 0 Tryz.f49 [1,1,0,1,4] [(0,.d (.sl (D0.rows l))),(1,.d (.str fromV)),(2,.d (.str to)),(7,.osl 0 (D0.rows out)),(8,.d (.int .i64 i))] [.tok 59 17] (Ret [] (.d (.sl (D0.rows res))))
theorem Wy (fromV:Str)(to:Str):(∀ l res,S6 l fromV to=some res→Ip l fromV to res)∧(∀ l out i res,C8 l fromV to out i=some res→Gx l fromV to out i res):=by
 refine S6.mutual_partial_correctness fromV to _ _ ?_ ?_
 ·intro g1 ih1 l res hh
  exact L0.intro hC Tryz.func49 rfl rfl rfl (t' rfl (s' rfl rfl (E0.be hC rfl (D0.rows_map []).symm (E0.tokE 10 59 17 rfl (e' rfl (S' (t' rfl (bk' (fw' (ih1 _ _ _ _ hh) rfl rfl rfl)))))))))
 ·intro g0 g1 ih0 ih1 l out i res hh
  refine X0.unroll (S' (p' 2 rfl (qe' rfl trivial (D0.lenA _) (e' rfl (ci' rfl hh (fun hh=>?_) (fun hh=>?_))))))
  ·obtain ⟨x1,hx1,hh⟩:=bs' hh
   obtain ⟨x2,hx2,hh⟩:=bs' hh
   obtain ⟨x3,hx3,hh⟩:=bs' hh
   obtain ⟨x4,hx4,hh⟩:=bs' hh
   obtain ⟨x5,hx5,hh⟩:=bs' hh
   obtain ⟨x6,hx6,hh⟩:=bs' hh
   obtain ⟨x7,hx7,hh⟩:=bs' hh
   obtain ⟨c7,hh⟩:=J1 hh
   refine sk' (S' (bk' (p' 2 rfl (i' rfl (T0 hx1) (D0.idx hx1) rfl (q' rfl (E0.nf hC rfl (E0.s hC rfl (n' (AEx.draw hC 37 rfl rfl rfl (O' 7 rfl (Qc' (Bm hx2) rfl rfl (O' 4 rfl (Qc' (J13 hx3) rfl rfl ?_)))))))))))))
   refine O' 6 rfl (Qc' (Af hx4) rfl rfl (O' 4 rfl (Qc' (ih0 _ _ hx5) rfl rfl (O' 4 rfl (Qc' (ih0 _ _ hx6) rfl rfl (O' 4 rfl (Qc' (Zn hx7) rfl rfl (Q' rfl (AQ.be hC rfl (D0.rows_map [(D0.mk x1.Kind x2 x3 x1.Init x4 x5 x6 x7)]).symm (Qn' ?_))))))))))
   exact E0.ap hC rfl (rs:=D0.rows (out++[(D0.mk x1.Kind x2 x3 x1.Init x4 x5 x6 x7)])) (D0.app out [(D0.mk x1.Kind x2 x3 x1.Init x4 x5 x6 x7)]) (D0.sz out) (D0.sz [(D0.mk x1.Kind x2 x3 x1.Init x4 x5 x6 x7)]) (E3 (D0.len out) (D0.len [(D0.mk x1.Kind x2 x3 x1.Init x4 x5 x6 x7)]) c7) (e' rfl (T' rfl (lw' (ih1 _ _ _ _ hh) rfl rfl rfl)))
  refine ex' (t' rfl (re' ?_))
  obtain rfl:=oi' hh
  exact ⟨_,.d (.sl (D0.rows out)),[],rfl,.osl,trivial,rfl,rfl,rfl,rfl⟩
theorem C11 {l fromV to res}(hh:S6 l fromV to=some res):Ip l fromV to res:=(Wy fromV to).1 _ _ hh
def I5 (p:O0)(fromV:Str)(to:Str)(x1:List Str×Int)(i:Int):Option (O0×Int):=
 if (decide (i < ((x1.1).length:Int)))=true then
  idx x1.1 i>>=fun x4=>
  if (bif (x4 == to) then (!(fromV == to)) else false)=true then
   some ((O0.mk [] []),8)
  else
   I5 p fromV to x1 (IntKind.i64.wrap (i+1))
 else
  S6 p.Decls fromV to>>=fun x5=>
  H4 p.Body fromV to>>=fun x6=>
  some ((O0.mk x5 x6),0)
 partial_fixpoint
abbrev Ks (p:O0)(fromV:Str)(to:Str)(x1:List Str×Int)(i:Int)(res:O0×Int):Prop:=LM C 58 0 Tryz.f23 [1,1,1,1,0,1,4] [(1,.d (.str fromV)),(2,.d (.str to)),(3,.ref 0 0),(6,.ref 1 0),(8,.d (.sl (estr.rows x1.1))),(10,.d (.int .i64 i))] [.row (O0.cells p) 25,.row [.full (D0.rows []),.full (C0.rows [])] 25] (Ret [] (.tup [.agg (O0.cells res.1),.d (.int .i64 res.2)]))
theorem K13 (p:O0)(fromV:Str)(to:Str)(x1:List Str×Int):(∀ i res,I5 p fromV to x1 i=some res→Ks p fromV to x1 i res):=by
 refine I5.partial_correctness p fromV to x1 _ ?_
 ·intro g0 ih0 i res hh
  refine X0.unroll (S' (p' 2 rfl (qe' rfl trivial (estr.lenA _) (e' rfl (ci' rfl hh (fun hh=>?_) (fun hh=>?_))))))
  ·obtain ⟨x4,hx4,hh⟩:=bs' hh
   refine sk' (S' (bk' (sg' 11 rfl (G' 2 rfl (AG.i hC rfl rfl (fun _=>trivial) (fun hw=>⟨T0 hx4,estr.idx hx4,rfl⟩) (G' 6 rfl (a2' rfl (pa' rfl (an' (n' (ci' rfl hh (fun hh=>?_) (fun hh=>?_))))))))))))
   ·cases hh
    exact p' 1 rfl (E0.s hC rfl (e' rfl (re' (rt' rfl rfl rfl))))
   exact sk' (T' rfl (lw' (ih0 _ _ hh) rfl rfl rfl))
  obtain ⟨x5,hx5,hh⟩:=bs' hh
  obtain ⟨x6,hx6,hh⟩:=bs' hh
  cases hh
  exact ex' (S' (AEx.draw hC 11 rfl rfl rfl (O' 4 rfl (Qc' (C11 hx5) rfl rfl (O' 4 rfl (Qc' (Zn hx6) rfl rfl (E' rfl (E0.s hC rfl (e' rfl (re' (rt' rfl rfl rfl)))))))))))
theorem J15 {p fromV to x1 i res}(hh:I5 p fromV to x1 i=some res):Ks p fromV to x1 i res:=(K13 p fromV to x1) _ _ hh
def Zj (p:O0)(fromV:Str)(to:Str):Option (O0×Int):=
 Rl p>>=fun x1=>
 if (x1.2 != 0)=true then
  some ((O0.mk [] []),x1.2)
 else
  C6 fromV>>=fun x2=>
  (if (!(!x2))=true then C6 to else some default)>>=fun x3=>
  if (bif (!x2) then true else (!x3))=true then
   some ((O0.mk [] []),7)
  else
   I5 p fromV to x1 0
theorem Y1a {p fromV to res}(hh:Zj p fromV to=some res):L0 C 23 [.agg (O0.cells p),.d (.str fromV),.d (.str to)] [] (Ret [] (.tup [.agg (O0.cells res.1),.d (.int .i64 res.2)])):=by
 unfold Zj at hh
 obtain ⟨x1,hx1,hh⟩:=bs' hh
 refine L0.intro hC Tryz.func23 rfl rfl rfl (s' rfl rfl (E0.n hC rfl (E0.nf hC rfl (e' rfl (p' 1 rfl (c' (J1c hx1) rfl rfl (e' rfl (S' (t' rfl (ci' rfl hh (fun hh=>?_) (fun hh=>?_)))))))))))
 ·cases hh
  exact p' 2 rfl (E0.s hC rfl (e' rfl (re' (rt' rfl rfl rfl))))
 obtain ⟨x2,hx2,hh⟩:=bs' hh
 obtain ⟨x3,hx3,hh⟩:=bs' hh
 refine sk' (S' (sg' 8 rfl (a0' rfl (AG.c rfl rfl (fun _=>trivial) (fun _=>Va hx2) (G' 3 rfl (AG.c rfl rfl (fun hg=>⟨hg,trivial⟩) (fun hw=>Va (I1 hw hx3)) (a1' rfl (po' rfl (an' (n' (ci' rfl hh (fun hh=>?_) (fun hh=>?_))))))))))))
 ·cases hh
  exact p' 1 rfl (E0.s hC rfl (e' rfl (re' (rt' rfl rfl rfl))))
 exact sk' (S' (t' rfl (bk' (fw' (J15 hh) rfl rfl rfl))))
def Zd (p:O0)(fromV:Str)(to:Str):Option Bool:=
 Vi>>=fun x1=>
 if (!x1)=true then
  some false
 else
  Uv p>>=fun x2=>
  if (bif (bif (!x2) then true else (decide (((fromV).length:Int) > 40))) then true else (decide (((to).length:Int) > 40)))=true then
   some true
  else
   Zj p fromV to>>=fun x3=>
   if (x3.2 != 0)=true then
    some true
   else
    A4 p>>=fun x4=>
    A4 x3.1>>=fun x5=>
    some (bif (x4.1 == x5.1) then (x4.2 == x5.2) else false)
theorem Jv {p fromV to res}(hh:Zd p fromV to=some res):L0 C 7 [.agg (O0.cells p),.d (.str fromV),.d (.str to)] [] (Ret [] (.d (.bool res))):=by
 unfold Zd at hh
 obtain ⟨x1,hx1,hh⟩:=bs' hh
 refine L0.intro hC Tryz.func7 rfl rfl rfl (s' rfl rfl (E0.n hC rfl (e' rfl (S' (s' rfl rfl (c' (E1c hx1) rfl rfl (e' rfl (ci' rfl hh (fun hh=>?_) (fun hh=>?_)))))))))
 ·cases hh
  exact t' rfl (re' (rt' rfl rfl rfl))
 obtain ⟨x2,hx2,hh⟩:=bs' hh
 refine sk' (S' (sg' 13 rfl (a0' rfl (AG.c rfl rfl (fun _=>trivial) (fun _=>G1g hx2) (G' 3 rfl (a1' rfl (a1' rfl (po' rfl (G' 2 rfl (a1' rfl (a1' rfl (po' rfl (an' ?_)))))))))))))
 refine n' (ci' rfl hh (fun hh=>?_) (fun hh=>?_))
 ·cases hh
  exact t' rfl (re' (rt' rfl rfl rfl))
 obtain ⟨x3,hx3,hh⟩:=bs' hh
 refine sk' (p' 3 rfl (c' (Y1a hx3) rfl rfl (o' 3 rfl (E0.nf hC rfl (E0.s hC rfl (e' rfl (S' (t' rfl (ci' rfl hh (fun hh=>?_) (fun hh=>?_))))))))))
 ·cases hh
  exact t' rfl (re' (rt' rfl rfl rfl))
 obtain ⟨x4,hx4,hh⟩:=bs' hh
 obtain ⟨x5,hx5,hh⟩:=bs' hh
 cases hh
 refine sk' (p' 1 rfl (c' (U9 hx4) rfl rfl (e' rfl (p' 1 rfl (c' (U9 hx5) rfl rfl (e' rfl (sg' 9 rfl (G' 6 rfl (a2' rfl (pa' rfl (a0' rfl (an' (n' ?_)))))))))))))
 exact re' (rt' rfl rfl rfl)
end Go.Proofs.YtdkabnfphmmmnaaGreatDoor



