/- A part of the proof of ParserRoundTrips. -/
import Derived.Test.YtmnhfbekncjnfaaGreatDoorDgA
import Derived.Test.YtmnhfbekncjnfaaGreatDoorAmB
set_option maxRecDepth 100000
set_option maxHeartbeats 4000000
set_option synthInstance.maxSize 20000
set_option linter.unusedVariables false
namespace Go.Proofs.YtmnhfbekncjnfaaGreatDoor
open Go.Am
mutual
def K7 (e:A0):Option Bool:=
 (if (bif (e.Op == 3) then true else (e.Op == 4))=true then Gc e.Name else some default)>>=fun x1=>
 if (bif (bif (e.Op == 3) then true else (e.Op == 4)) then (!x1) else false)=true then
  some false
 else
  O8 e 0
 partial_fixpoint
def O8 (e:A0)(i:Int):Option Bool:=
 if (decide (i < ((e.Kids).length:Int)))=true then
  idx e.Kids i>>=fun x2=>
  K7 x2>>=fun x3=>
  if (!x3)=true then
   some false
  else
   O8 e (IntKind.i64.wrap (i+1))
 else
  some true
 partial_fixpoint
end
abbrev Gn (e:A0)(res:Bool):Prop:=N0 C 70 [.agg (A0.cells e)] [] (Ret [] (.d (.bool res)))
abbrev Xt (e:A0)(i:Int)(res:Bool):Prop:=LM C 32 0 Tryz.f70 [1,1,0,1,4] [(1,.ref 0 0),(3,.d (.int .i64 i))] [.row (A0.cells e) 26] (Ret [] (.d (.bool res)))
theorem Iv:(∀ e res,K7 e=some res→Gn e res)∧(∀ e i res,O8 e i=some res→Xt e i res):=by
 refine K7.mutual_partial_correctness _ _ ?_ ?_
 ·intro g1 ih1 e res hh
  obtain ⟨x1,hx1,hh⟩:=bs' hh
  refine N0.intro hC Tryz.func70 rfl rfl rfl (s' rfl rfl (E0.n hC rfl (e' rfl (S' (sg' 14 rfl (G' 5 rfl (a1' rfl (a1' rfl (po' rfl (G' 2 rfl (a1' rfl (AG.c rfl rfl (fun hg=>⟨hg,trivial⟩) (fun hw=>Sj (C4 hw hx1)) (a1' rfl ?_)))))))))))))
  refine pa' rfl (an' (n' (ci' rfl hh (fun hh=>?_) (fun hh=>?_))))
  ·cases hh
   exact t' rfl (re' (rt' rfl rfl rfl))
  exact sk' (S' (t' rfl (bk' (fw' (ih1 _ _ _ hh) rfl rfl rfl))))
 ·intro g0 g1 ih0 ih1 e i res hh
  refine T0.unroll (S' (p' 3 rfl (qe' rfl trivial (A0.lenA _) (e' rfl (ci' rfl hh (fun hh=>?_) (fun hh=>?_))))))
  ·obtain ⟨x2,hx2,hh⟩:=bs' hh
   obtain ⟨x3,hx3,hh⟩:=bs' hh
   refine sk' (S' (bk' (p' 3 rfl (i' rfl (I1 hx2) (A0.idx hx2) rfl (q' rfl (c' (ih0 _ _ hx3) rfl rfl (e' rfl (ci' rfl hh (fun hh=>?_) (fun hh=>?_)))))))))
   ·cases hh
    exact t' rfl (re' (rt' rfl rfl rfl))
   exact sk' (T' rfl (lw' (ih1 _ _ _ hh) rfl rfl rfl))
  cases hh
  exact ex' (t' rfl (re' (rt' rfl rfl rfl)))
theorem Ax {e res}(hh:K7 e=some res):Gn e res:=(Iv).1 _ _ hh
mutual
def J5 (e:A0):Option Bool:=
 if (bif (e.Op == 0) then (bif (decide (e.NV < 0)) then true else (decide (e.NV > 1048576))) else false)=true then
  some false
 else
  X6 e 0
 partial_fixpoint
def X6 (e:A0)(i:Int):Option Bool:=
 if (decide (i < ((e.Kids).length:Int)))=true then
  idx e.Kids i>>=fun x1=>
  J5 x1>>=fun x2=>
  if (!x2)=true then
   some false
  else
   X6 e (IntKind.i64.wrap (i+1))
 else
  some true
 partial_fixpoint
end
abbrev Dk (e:A0)(res:Bool):Prop:=N0 C 71 [.agg (A0.cells e)] [] (Ret [] (.d (.bool res)))
abbrev Wq (e:A0)(i:Int)(res:Bool):Prop:=LM C 31 0 Tryz.f71 [1,1,0,1,4] [(1,.ref 0 0),(3,.d (.int .i64 i))] [.row (A0.cells e) 26] (Ret [] (.d (.bool res)))
theorem Ls:(∀ e res,J5 e=some res→Dk e res)∧(∀ e i res,X6 e i=some res→Wq e i res):=by
 refine J5.mutual_partial_correctness _ _ ?_ ?_
 ·intro g1 ih1 e res hh
  refine N0.intro hC Tryz.func71 rfl rfl rfl (s' rfl rfl (E0.n hC rfl (e' rfl (S' (sg' 13 rfl (G' 5 rfl (a1' rfl (a1' rfl (a1' rfl (a0' rfl (a1' rfl (a1' rfl (pO' rfl ?_)))))))))))))
  refine pa' rfl (an' (n' (ci' rfl hh (fun hh=>?_) (fun hh=>?_))))
  ·cases hh
   exact t' rfl (re' (rt' rfl rfl rfl))
  exact sk' (S' (t' rfl (bk' (fw' (ih1 _ _ _ hh) rfl rfl rfl))))
 ·intro g0 g1 ih0 ih1 e i res hh
  refine T0.unroll (S' (p' 3 rfl (qe' rfl trivial (A0.lenA _) (e' rfl (ci' rfl hh (fun hh=>?_) (fun hh=>?_))))))
  ·obtain ⟨x1,hx1,hh⟩:=bs' hh
   obtain ⟨x2,hx2,hh⟩:=bs' hh
   refine sk' (S' (bk' (p' 3 rfl (i' rfl (I1 hx1) (A0.idx hx1) rfl (q' rfl (c' (ih0 _ _ hx2) rfl rfl (e' rfl (ci' rfl hh (fun hh=>?_) (fun hh=>?_)))))))))
   ·cases hh
    exact t' rfl (re' (rt' rfl rfl rfl))
   exact sk' (T' rfl (lw' (ih1 _ _ _ hh) rfl rfl rfl))
  cases hh
  exact ex' (t' rfl (re' (rt' rfl rfl rfl)))
theorem Yt {e res}(hh:J5 e=some res):Dk e res:=(Ls).1 _ _ hh
def Bd (s:J1)(form:Bool)(names:Bool)(numbers:Bool):Option Int:=
 if (bif (decide (s.nodes > 1024)) then true else (decide (s.depth > 12)))=true then
  some 4
 else
  if (!form)=true then
   some 1
  else
   if (!names)=true then
    some 7
   else
    if (!numbers)=true then
     some 3
    else
     some 0
theorem Vo {s form names numbers res}(hh:Bd s form names numbers=some res):N0 C 67 [.agg (J1.cells s),.d (.bool form),.d (.bool names),.d (.bool numbers)] [] (Ret [] (.d (.int .i64 res))):=by
 unfold Bd at hh
 refine N0.intro hC Tryz.func67 rfl rfl rfl (s' rfl rfl (E0.n hC rfl (e' rfl (S' (sg' 8 rfl (G' 5 rfl (a1' rfl (a1' rfl (po' rfl (an' (n' (ci' rfl hh (fun hh=>?_) (fun hh=>?_)))))))))))))
 ·cases hh
  exact t' rfl (re' (rt' rfl rfl rfl))
 refine sk' (S' (t' rfl (ci' rfl hh (fun hh=>?_) (fun hh=>?_))))
 ·cases hh
  exact t' rfl (re' (rt' rfl rfl rfl))
 refine sk' (S' (t' rfl (ci' rfl hh (fun hh=>?_) (fun hh=>?_))))
 ·cases hh
  exact t' rfl (re' (rt' rfl rfl rfl))
 refine sk' (S' (t' rfl (ci' rfl hh (fun hh=>?_) (fun hh=>?_))))
 ·cases hh
  exact t' rfl (re' (rt' rfl rfl rfl))
 cases hh
 exact sk' (t' rfl (re' (rt' rfl rfl rfl)))
def Wa (e:A0):Option Int:=
 Gg (J1.mk 0 0) e true>>=fun x1=>
 N8 e>>=fun x2=>
 K7 e>>=fun x3=>
 J5 e>>=fun x4=>
 Bd x1 x2 x3 x4>>=fun x5=>
 some x5
theorem Bx {e res}(hh:Wa e=some res):N0 C 34 [.agg (A0.cells e)] [] (Ret [] (.d (.int .i64 res))):=by
 unfold Wa at hh
 obtain ⟨x1,hx1,hh⟩:=bs' hh
 obtain ⟨x2,hx2,hh⟩:=bs' hh
 obtain ⟨x3,hx3,hh⟩:=bs' hh
 obtain ⟨x4,hx4,hh⟩:=bs' hh
 obtain ⟨x5,hx5,hh⟩:=bs' hh
 cases hh
 refine N0.intro hC Tryz.func34 rfl rfl rfl (s' rfl rfl (E0.n hC rfl (e' rfl (S' (AEx.draw hC 11 rfl rfl rfl (O' 2 rfl (Qc' (O10 hx1) rfl rfl (Q' rfl (Qc' (Hz hx2) rfl rfl (Q' rfl (Qc' (Ax hx3) rfl rfl (Q' rfl (Qc' (Yt hx4) rfl rfl ?_)))))))))))))
 exact Qc' (Vo hx5) rfl rfl (E' rfl (n' (re' (rt' rfl rfl rfl))))
def Lq (text:Str):Option (A0×Int×Int):=
 Jq text>>=fun x1=>
 if (x1.2.2 != 0)=true then
  some ((A0.mk 0 0 [] []),x1.2.1,x1.2.2)
 else
  V1 x1.1 0>>=fun x2=>
  if (bif (!x2.2.2) then true else (decide (x2.2.1 < ((x1.1).length:Int))))=true then
   Oj text x1.1 x2.2.1>>=fun x3=>
   some ((A0.mk 0 0 [] []),x3,6)
  else
   Wa x2.1>>=fun x4=>
   if (x4 != 0)=true then
    some ((A0.mk 0 0 [] []),0,x4)
   else
    some (x2.1,0,0)
def E2 (parserParser:B0):Option (Pn (Int×B0)):=
 L0 [45] parserParser>>=fun x1=>
 if x1.1=true then
  P3 x1.2>>=fun x2=>match x2 with
  | .pn nn=>
  some (.pn nn)
  | .ok x2=>
  some (.ok ((IntKind.i64.wrap (0 - x2.1)),x2.2))
 else
  P3 x1.2>>=fun x3=>match x3 with
  | .pn nn=>
  some (.pn nn)
  | .ok x3=>
  some (.ok (x3.1,x3.2))
theorem V4 {parserParser res}(hh:E2 parserParser=some res):J2 C 72 [.ref 0 0] [.row (B0.cells parserParser) 99] (V6 res (fun rr=>[.row (B0.cells rr.2) 99]) (fun rr=>.d (.int .i64 rr.1))) (F6 res N4 [.dead]):=by
 unfold E2 at hh
 obtain ⟨x1,hx1,hh⟩:=bs' hh
 refine J2.intro hC Tryz.func72 rfl rfl rfl (t' rfl (S' (p' 1 rfl (g' [0] (P0 hx1) rfl rfl rfl rfl rfl rfl (n' (ci' rfl hh (fun hh=>?_) (fun hh=>?_)))))))
 ·refine p' 1 rfl ?_
  rcases bp' hh with ⟨nn,hx2,⟨⟩⟩ | ⟨x2,hx2,hh⟩
  ·exact gn' [0] (D5 hx2) rfl rfl rfl rfl rfl (fun hi=>peW ⟨trivial,trivial⟩ rfl hi)
  cases hh
  exact g' [0] ((D5 hx2).ok) rfl rfl rfl rfl rfl rfl (e' rfl (re' (rt' rfl rfl rfl)))
 refine sk' (p' 1 rfl ?_)
 rcases bp' hh with ⟨nn,hx3,⟨⟩⟩ | ⟨x3,hx3,hh⟩
 ·exact gn' [0] (D5 hx3) rfl rfl rfl rfl rfl (fun hi=>peW ⟨trivial,trivial⟩ rfl hi)
 cases hh
 exact g' [0] ((D5 hx3).ok) rfl rfl rfl rfl rfl rfl (e' rfl (re' (rt' rfl rfl rfl)))
mutual
def E3 (parserParser:B0):Option (Pn (C0×B0)):=
 L0 [98,111,111,108] parserParser>>=fun x1=>
 if x1.1=true then
  some (.ok ((C0.mk 0 0 0 0 [] [] []),x1.2))
 else
  L0 [105,110,116] x1.2>>=fun x2=>
  if x2.1=true then
   R0 [91] x2.2>>=fun x3=>match x3 with
   | .pn nn=>
   some (.pn nn)
   | .ok x3=>
   E2 x3>>=fun x4=>match x4 with
   | .pn nn=>
   some (.pn nn)
   | .ok x4=>
   R0 [46,46] x4.2>>=fun x5=>match x5 with
   | .pn nn=>
   some (.pn nn)
   | .ok x5=>
   E2 x5>>=fun x6=>match x6 with
   | .pn nn=>
   some (.pn nn)
   | .ok x6=>
   R0 [93] x6.2>>=fun x7=>match x7 with
   | .pn nn=>
   some (.pn nn)
   | .ok x7=>
   some (.ok ((C0.mk 1 x4.1 x6.1 0 [] [] []),x7))
  else
   L0 [97,114,114,97,121] x2.2>>=fun x8=>
   if x8.1=true then
    E2 x8.2>>=fun x9=>match x9 with
    | .pn nn=>
    some (.pn nn)
    | .ok x9=>
    R0 [111,102] x9.2>>=fun x10=>match x10 with
    | .pn nn=>
    some (.pn nn)
    | .ok x10=>
    E3 x10>>=fun x16=>match x16 with
    | .pn nn=>
    some (.pn nn)
    | .ok x16=>
    some (.ok ((C0.mk 2 0 0 x9.1 [] [] [x16.1]),x16.2))
   else
    L0 [114,101,99,111,114,100] x8.2>>=fun x11=>
    if x11.1=true then
     R0 [123] x11.2>>=fun x12=>match x12 with
     | .pn nn=>
     some (.pn nn)
     | .ok x12=>
     Y6 x12 [] []
    else
     U2 x11.2>>=fun x13=>match x13 with
     | .pn nn=>
     some (.pn nn)
     | .ok x13=>
     some (.ok ((C0.mk 4 0 0 0 x13.1 [] []),x13.2))
 partial_fixpoint
def Y6 (o0:B0)(o2_Names:List Str)(o2_Of:List C0):Option (Pn (C0×B0)):=
 U2 o0>>=fun x14=>match x14 with
 | .pn nn=>
 some (.pn nn)
 | .ok x14=>
 R0 [58] x14.2>>=fun x15=>match x15 with
 | .pn nn=>
 some (.pn nn)
 | .ok x15=>
 E3 x15>>=fun x17=>match x17 with
 | .pn nn=>
 some (.pn nn)
 | .ok x17=>
 if (decide ((o2_Names.length+1) * 17≤140737488355328))=true then
  if (decide ((o2_Of.length+1) * 97≤140737488355328))=true then
   L0 [44] x17.2>>=fun x18=>
   if (!x18.1)=true then
    R0 [125] x18.2>>=fun x19=>match x19 with
    | .pn nn=>
    some (.pn nn)
    | .ok x19=>
    some (.ok ((C0.mk 3 0 0 0 [] (o2_Names++[x14.1]) (o2_Of++[x17.1])),x19))
   else
    Y6 x18.2 (o2_Names++[x14.1]) (o2_Of++[x17.1])
  else none
 else none
 partial_fixpoint
end
abbrev Ek (parserParser:B0)(res:Pn (C0×B0)):Prop:=J2 C 36 [.ref 0 0] [.row (B0.cells parserParser) 99] (V6 res (fun rr=>[.row (B0.cells rr.2) 99]) (fun rr=>.agg (C0.cells rr.1))) (F6 res N4 [.dead])
abbrev Xq (o0:B0)(o2_Names:List Str)(o2_Of:List C0)(res:Pn (C0×B0)):Prop:=LMp C 74 1 Tryz.f36 [1,0,4,1,3,1,3,1,3,1,2,1,1,0,4] [(0,.ref 0 0),(2,.ref 1 0),(6,.ref 2 0)] [.row (B0.cells o0) 99,.row [.d (.int .i64 0),.d (.int .i64 0),.d (.int .i64 0),.d (.int .i64 0),.d (.str []),.full (estr.rows []),.full (C0.rows [])] 36,.row [.d (.int .i64 3),.d (.int .i64 0),.d (.int .i64 0),.d (.int .i64 0),.d (.str []),.osl 3 (estr.rows o2_Names),.osl 4 (C0.rows o2_Of)] 36,.tok 9 1,.tok 36 7] (V6 res (fun rr=>[.row (B0.cells rr.2) 99]) (fun rr=>.agg (C0.cells rr.1))) (F6 res N4 [.dead])
theorem Ms:(∀ parserParser res,E3 parserParser=some res→Ek parserParser res)∧(∀ o0 o2_Names o2_Of res,Y6 o0 o2_Names o2_Of=some res→Xq o0 o2_Names o2_Of res):=by
 refine E3.mutual_partial_correctness _ _ ?_ ?_
 ·intro g0 g1 ih0 ih1 parserParser res hh
  obtain ⟨x1,hx1,hh⟩:=bs' hh
  refine J2.intro hC Tryz.func36 rfl rfl rfl (s' rfl rfl (E0.nf hC rfl (n' (S' (bk' (p' 1 rfl (g' [0] (P0 hx1) rfl rfl rfl rfl rfl rfl (e' rfl (ci' rfl hh (fun hh=>?_) (fun hh=>?_))))))))))
  ·refine s' rfl rfl (E0.bz hC rfl (E0.s hC rfl (n' (re' ?_))))
   obtain rfl:=oi' hh
   exact ⟨_,.agg [.d (.int .i64 0),.d (.int .i64 0),.d (.int .i64 0),.d (.int .i64 0),.d (.str []),.d (.sl (estr.rows [])),.d (.sl (C0.rows []))],[.row (B0.cells x1.2) 99],rfl,(.aggL ⟨.rfl,.rfl,.rfl,.rfl,.rfl,.full,.full,trivial⟩),⟨⟨rfl,.refl _,rfl⟩,trivial⟩,rfl,rfl,rpq rfl rfl⟩
  obtain ⟨x2,hx2,hh⟩:=bs' hh
  refine p' 1 rfl (g' [0] (P0 hx2) rfl rfl rfl rfl rfl rfl (e' rfl (ci' rfl hh (fun hh=>?_) (fun hh=>?_))))
  ·refine p' 1 rfl ?_
   rcases bp' hh with ⟨nn,hx3,⟨⟩⟩ | ⟨x3,hx3,hh⟩
   ·exact gn' [0] (U0 hx3) rfl rfl rfl rfl rfl (fun hi=>peW ⟨trivial,trivial⟩ rfl hi)
   refine g' [0] ((U0 hx3).ok) rfl rfl rfl rfl rfl rfl (n' (p' 1 rfl ?_))
   rcases bp' hh with ⟨nn,hx4,⟨⟩⟩ | ⟨x4,hx4,hh⟩
   ·exact gn' [0] (V4 hx4) rfl rfl rfl rfl rfl (fun hi=>peW ⟨trivial,trivial⟩ rfl hi)
   refine g' [0] ((V4 hx4).ok) rfl rfl rfl rfl rfl rfl (e' rfl (p' 1 rfl ?_))
   rcases bp' hh with ⟨nn,hx5,⟨⟩⟩ | ⟨x5,hx5,hh⟩
   ·exact gn' [0] (U0 hx5) rfl rfl rfl rfl rfl (fun hi=>peW ⟨trivial,trivial⟩ rfl hi)
   refine g' [0] ((U0 hx5).ok) rfl rfl rfl rfl rfl rfl (n' (p' 1 rfl ?_))
   rcases bp' hh with ⟨nn,hx6,⟨⟩⟩ | ⟨x6,hx6,hh⟩
   ·exact gn' [0] (V4 hx6) rfl rfl rfl rfl rfl (fun hi=>peW ⟨trivial,trivial⟩ rfl hi)
   refine g' [0] ((V4 hx6).ok) rfl rfl rfl rfl rfl rfl (e' rfl (p' 1 rfl ?_))
   rcases bp' hh with ⟨nn,hx7,⟨⟩⟩ | ⟨x7,hx7,hh⟩
   ·exact gn' [0] (U0 hx7) rfl rfl rfl rfl rfl (fun hi=>peW ⟨trivial,trivial⟩ rfl hi)
   refine g' [0] ((U0 hx7).ok) rfl rfl rfl rfl rfl rfl (n' (p' 2 rfl (E0.bz hC rfl (E0.s hC rfl (n' (re' ?_))))))
   obtain rfl:=oi' hh
   exact ⟨_,.agg [.d (.int .i64 1),.d (.int .i64 x4.1),.d (.int .i64 x6.1),.d (.int .i64 0),.d (.str []),.d (.sl (estr.rows [])),.d (.sl (C0.rows []))],[.row (B0.cells x7) 99],rfl,(.aggL ⟨.rfl,.rfl,.rfl,.rfl,.rfl,.full,.full,trivial⟩),⟨⟨rfl,.refl _,rfl⟩,trivial⟩,rfl,rfl,rpq rfl rfl⟩
  obtain ⟨x8,hx8,hh⟩:=bs' hh
  refine p' 1 rfl (g' [0] (P0 hx8) rfl rfl rfl rfl rfl rfl (e' rfl (ci' rfl hh (fun hh=>?_) (fun hh=>?_))))
  ·refine p' 1 rfl ?_
   rcases bp' hh with ⟨nn,hx9,⟨⟩⟩ | ⟨x9,hx9,hh⟩
   ·exact gn' [0] (V4 hx9) rfl rfl rfl rfl rfl (fun hi=>peW ⟨trivial,trivial⟩ rfl hi)
   refine g' [0] ((V4 hx9).ok) rfl rfl rfl rfl rfl rfl (e' rfl (p' 1 rfl ?_))
   rcases bp' hh with ⟨nn,hx10,⟨⟩⟩ | ⟨x10,hx10,hh⟩
   ·exact gn' [0] (U0 hx10) rfl rfl rfl rfl rfl (fun hi=>peW ⟨trivial,trivial⟩ rfl hi)
   refine g' [0] ((U0 hx10).ok) rfl rfl rfl rfl rfl rfl (n' (p' 2 rfl ?_))
   rcases bp' hh with ⟨nn,hx16,⟨⟩⟩ | ⟨x16,hx16,hh⟩
   ·exact gn' [0] (ih0 _ _ hx16) rfl rfl rfl rfl rfl (fun hi=>peW ⟨trivial,trivial⟩ rfl hi)
   refine g' [0] ((ih0 _ _ hx16).ok) rfl rfl rfl rfl rfl rfl (E0.be hC rfl (C0.rows_map [x16.1]).symm (E0.bz hC rfl (E0.s hC rfl (n' (re' ?_)))))
   obtain rfl:=oi' hh
   exact ⟨_,.agg [.d (.int .i64 2),.d (.int .i64 0),.d (.int .i64 0),.d (.int .i64 x9.1),.d (.str []),.d (.sl (estr.rows [])),.d (.sl (C0.rows [x16.1]))],[.row (B0.cells x16.2) 99],rfl,(.aggL ⟨.rfl,.rfl,.rfl,.rfl,.rfl,.full,.full,trivial⟩),⟨⟨rfl,.refl _,rfl⟩,trivial⟩,rfl,rfl,rpq rfl rfl⟩
  obtain ⟨x11,hx11,hh⟩:=bs' hh
  refine p' 1 rfl (g' [0] (P0 hx11) rfl rfl rfl rfl rfl rfl (e' rfl (ci' rfl hh (fun hh=>?_) (fun hh=>?_))))
  ·refine s' rfl rfl (E0.bz hC rfl (E0.nf hC rfl (E0.s hC rfl (E0.tokC 2 5 9 1 rfl rfl rfl rfl rfl (E0.tokC 2 6 36 7 rfl rfl rfl rfl rfl (n' (p' 1 rfl ?_)))))))
   rcases bp' hh with ⟨nn,hx12,⟨⟩⟩ | ⟨x12,hx12,hh⟩
   ·exact gn' [0] (U0 hx12) rfl rfl rfl rfl rfl (fun hi=>peW ⟨trivial,trivial⟩ rfl hi)
   exact g' [0] ((U0 hx12).ok) rfl rfl rfl rfl rfl rfl (n' (S' (bk' (fw' (ih1 _ _ _ _ hh) rfl rfl rfl))))
  refine sk' (p' 1 rfl ?_)
  rcases bp' hh with ⟨nn,hx13,⟨⟩⟩ | ⟨x13,hx13,hh⟩
  ·exact gn' [0] (U1 hx13) rfl rfl rfl rfl rfl (fun hi=>peW ⟨trivial,trivial⟩ rfl hi)
  refine g' [0] ((U1 hx13).ok) rfl rfl rfl rfl rfl rfl (E0.bz hC rfl (E0.s hC rfl (n' (re' ?_))))
  obtain rfl:=oi' hh
  exact ⟨_,.agg [.d (.int .i64 4),.d (.int .i64 0),.d (.int .i64 0),.d (.int .i64 0),.d (.str x13.1),.d (.sl (estr.rows [])),.d (.sl (C0.rows []))],[.row (B0.cells x13.2) 99],rfl,(.aggL ⟨.rfl,.rfl,.rfl,.rfl,.rfl,.full,.full,trivial⟩),⟨⟨rfl,.refl _,rfl⟩,trivial⟩,rfl,rfl,rpq rfl rfl⟩
 ·intro g0 g1 ih0 ih1 o0 o2_Names o2_Of res hh
  refine T0.unroll (bk' (p' 1 rfl ?_))
  rcases bp' hh with ⟨nn,hx14,⟨⟩⟩ | ⟨x14,hx14,hh⟩
  ·exact gn' [0] (U1 hx14) rfl rfl rfl rfl rfl (fun hi=>peW ⟨trivial,trivial⟩ rfl hi)
  refine g' [0] ((U1 hx14).ok) rfl rfl rfl rfl rfl rfl (e' rfl (p' 1 rfl ?_))
  rcases bp' hh with ⟨nn,hx15,⟨⟩⟩ | ⟨x15,hx15,hh⟩
  ·exact gn' [0] (U0 hx15) rfl rfl rfl rfl rfl (fun hi=>peW ⟨trivial,trivial⟩ rfl hi)
  refine g' [0] ((U0 hx15).ok) rfl rfl rfl rfl rfl rfl (n' (p' 1 rfl ?_))
  rcases bp' hh with ⟨nn,hx17,⟨⟩⟩ | ⟨x17,hx17,hh⟩
  ·exact gn' [0] (ih0 _ _ hx17) rfl rfl rfl rfl rfl (fun hi=>peW ⟨trivial,trivial⟩ rfl hi)
  obtain ⟨c11,hh⟩:=R1 hh
  obtain ⟨c12,hh⟩:=R1 hh
  obtain ⟨x18,hx18,hh⟩:=bs' hh
  refine g' [0] ((ih0 _ _ hx17).ok) rfl rfl rfl rfl rfl rfl (E0.nf hC rfl (E0.s hC rfl (n' (S' ?_))))
  refine AEx.drawL hC 11 [4,9] [] [[.row (B0.cells x17.2) 99,.row [.d (.int .i64 0),.d (.int .i64 0),.d (.int .i64 0),.d (.int .i64 0),.d (.str []),.full (estr.rows []),.full (C0.rows [])] 36,.row [.d (.int .i64 3),.d (.int .i64 0),.d (.int .i64 0),.d (.int .i64 0),.d (.str []),.osl 3 (estr.rows o2_Names),.osl 4 (C0.rows o2_Of)] 36,.tok 9 1,.tok 36 7,.row (C0.cells x17.1) 36],[.row (B0.cells x17.2) 99,.row [.d (.int .i64 0),.d (.int .i64 0),.d (.int .i64 0),.d (.int .i64 0),.d (.str []),.full (estr.rows []),.full (C0.rows [])] 36,.row [.d (.int .i64 3),.d (.int .i64 0),.d (.int .i64 0),.d (.int .i64 0),.d (.str []),.osl 3 (estr.rows o2_Names),.osl 4 (C0.rows o2_Of)] 36,.dead,.tok 36 7,.row (C0.cells x17.1) 36,.tok 9 1],[.row (B0.cells x17.2) 99,.row [.d (.int .i64 0),.d (.int .i64 0),.d (.int .i64 0),.d (.int .i64 0),.d (.str []),.full (estr.rows []),.full (C0.rows [])] 36,.row [.d (.int .i64 3),.d (.int .i64 0),.d (.int .i64 0),.d (.int .i64 0),.d (.str []),.osl 3 (estr.rows o2_Names),.osl 4 (C0.rows o2_Of)] 36,.dead,.dead,.row (C0.cells x17.1) 36,.tok 9 1,.tok 36 7]] rfl rfl rfl rfl rfl rfl rfl rfl rfl rfl ?_
  refine AS.q hC rfl rfl rfl rfl (AS.q hC rfl rfl rfl rfl (AS.q hC rfl rfl rfl rfl (AS.a rfl (fun H=>AQ.be hC rfl (estr.rows_map [x14.1]).symm (AQ.nil rfl)) rfl rfl (AS.am hC rfl rfl rfl rfl rfl (rs:=estr.rows (o2_Names++[x14.1])) (estr.app o2_Names [x14.1]) (estr.sz o2_Names) (estr.sz [x14.1]) (I13 (estr.len o2_Names) (estr.len [x14.1]) c11) rfl rfl (AS.q hC rfl rfl rfl rfl (AS.q hC rfl rfl rfl rfl ?_))))))
  refine AS.q hC rfl rfl rfl rfl (AS.a rfl (fun H=>AQ.be hC rfl (C0.rows_map [x17.1]).symm (AQ.nil rfl)) rfl rfl (AS.am hC rfl rfl rfl rfl rfl (rs:=C0.rows (o2_Of++[x17.1])) (C0.app o2_Of [x17.1]) (C0.sz o2_Of) (C0.sz [x17.1]) (I13 (C0.len o2_Of) (C0.len [x17.1]) c12) rfl rfl (AS.q hC rfl rfl rfl rfl (AS.nil (E0.s hC rfl (q' rfl (E0.s hC rfl (n' (p' 1 rfl ?_)))))))))
  refine g' [0] (P0 hx18) rfl rfl rfl rfl rfl rfl (e' rfl (ci' rfl hh (fun hh=>?_) (fun hh=>?_)))
  ·refine ex' (p' 1 rfl ?_)
   rcases bp' hh with ⟨nn,hx19,⟨⟩⟩ | ⟨x19,hx19,hh⟩
   ·exact gn' [0] (U0 hx19) rfl rfl rfl rfl rfl (fun hi=>peW ⟨trivial,trivial⟩ rfl hi)
   refine g' [0] ((U0 hx19).ok) rfl rfl rfl rfl rfl rfl (n' (p' 1 rfl (E0.s hC rfl (n' (re' ?_)))))
   obtain rfl:=oi' hh
   exact ⟨_,.agg [.d (.int .i64 3),.d (.int .i64 0),.d (.int .i64 0),.d (.int .i64 0),.d (.str []),.d (.sl (estr.rows (o2_Names++[x14.1]))),.d (.sl (C0.rows (o2_Of++[x17.1])))],[.row (B0.cells x19) 99],rfl,(.aggL ⟨.rfl,.rfl,.rfl,.rfl,.rfl,.osl,.osl,trivial⟩),⟨⟨rfl,.refl _,rfl⟩,trivial⟩,rfl,rfl,rpq rfl rfl⟩
  refine sk' ?_
  refine T0.rj (L:=[(0,.ref 0 0),(2,.ref 1 0),(6,.ref 2 0)]) (H2:=[.row (B0.cells x18.2) 99,.row [.d (.int .i64 0),.d (.int .i64 0),.d (.int .i64 0),.d (.int .i64 0),.d (.str []),.full (estr.rows []),.full (C0.rows [])] 36,.row [.d (.int .i64 3),.d (.int .i64 0),.d (.int .i64 0),.d (.int .i64 0),.d (.str []),.osl 3 (estr.rows (o2_Names++[x14.1])),.osl 4 (C0.rows (o2_Of++[x17.1]))] 36,.tok 9 1,.tok 36 7]) [0,1,2,6,7] ?_ rfl rfl rfl rfl
  exact lw' (ih1 _ _ _ _ hh) rfl rfl rfl
theorem Tj {parserParser res}(hh:E3 parserParser=some res):Ek parserParser res:=(Ms).1 _ _ hh
def Ra (parserParser:B0)(apiType:C0):Option (Pn (B0×C0)):=
 E3 parserParser>>=fun x1=>match x1 with
 | .pn nn=>
 some (.pn nn)
 | .ok x1=>
 some (.ok (x1.2,x1.1))
theorem Wi {parserParser apiType res}(hh:Ra parserParser apiType=some res):J2 C 35 [.ref 0 0,.ref 1 0] [.row (B0.cells parserParser) 99,.row [.d (.int .i64 apiType.Kind),.d (.int .i64 apiType.Low),.d (.int .i64 apiType.High),.d (.int .i64 apiType.Size),.d (.str apiType.Name),.full (estr.rows apiType.Names),.full (C0.rows apiType.Of)] 36] (V6 res (fun rr=>[.row (B0.cells rr.1) 99,.row (C0.cells rr.2) 36]) (fun rr=>.tup [])) (F6 res N4 [.dead,.row [.d (.int .i64 apiType.Kind),.d (.int .i64 apiType.Low),.d (.int .i64 apiType.High),.d (.int .i64 apiType.Size),.d (.str apiType.Name),.full (estr.rows apiType.Names),.full (C0.rows apiType.Of)] 36]):=by
 unfold Ra at hh
 refine J2.intro hC Tryz.func35 rfl rfl rfl (P' 1 rfl ?_)
 rcases bp' hh with ⟨nn,hx1,⟨⟩⟩ | ⟨x1,hx1,hh⟩
 ·exact gn' [0] (Tj hx1) rfl rfl rfl rfl rfl (fun hi=>peW ⟨trivial,⟨rfl,.refl _,rfl⟩,trivial⟩ rfl hi)
 cases hh
 exact g' [0] ((Tj hx1).ok) rfl rfl rfl rfl rfl rfl (E0.s hC rfl (n' (rn' rfl rfl rfl)))
def Je (text:Str)(apiType:C0):Option (Int×Int×C0):=
 Ye text>>=fun x1=>
 if (x1.2.2 != 0)=true then
  some (x1.2.1,x1.2.2,apiType)
 else
  Ra (B0.mk x1.1 0 ((text).length:Int)) apiType>>=fun x2=>match x2 with
  | .pn nn=>
  some (nn,6,apiType)
  | .ok x2=>
  if (decide (x2.1.next < ((x2.1.tokens).length:Int)))=true then
   Q3 x2.1>>=fun x3=>match x3 with
   | .pn nn=>
   some (nn,6,x2.2)
   | .ok x3=>
   some (0,0,x2.2)
  else
   some (0,0,x2.2)
theorem Iz {text apiType res}(hh:Je text apiType=some res):N0 C 28 [.d (.str text),.clo 35 [.ref 0 0]] [.row [.d (.int .i64 apiType.Kind),.d (.int .i64 apiType.Low),.d (.int .i64 apiType.High),.d (.int .i64 apiType.Size),.d (.str apiType.Name),.full (estr.rows apiType.Names),.full (C0.rows apiType.Of)] 36] (Ret [.row (C0.cells res.2.2) 36] (.tup [.d (.int .i64 res.1),.d (.int .i64 res.2.1)])):=by
 unfold Je at hh
 obtain ⟨x1,hx1,hh⟩:=bs' hh
 refine N0.introD hC Tryz.func28 rfl rfl rfl (s' rfl rfl (E0.n hC rfl (E0.n hC rfl (n' (p' 1 rfl (c' (Tw hx1) rfl rfl (o' 5 rfl (E0.s hC rfl (E0.s hC rfl (n' (S' (t' rfl (ci' rfl hh (fun hh=>?_) (fun hh=>?_))))))))))))))
 ·refine S' ?_
  refine AEx.drawL hC 3 [2] [] [[.row [.d (.int .i64 apiType.Kind),.d (.int .i64 apiType.Low),.d (.int .i64 apiType.High),.d (.int .i64 apiType.Size),.d (.str apiType.Name),.full (estr.rows apiType.Names),.full (C0.rows apiType.Of)] 36,.row [.d (.int .i64 x1.2.1)] 3,.row [.d (.int .i64 x1.2.2)] 27],[.row [.d (.int .i64 apiType.Kind),.d (.int .i64 apiType.Low),.d (.int .i64 apiType.High),.d (.int .i64 apiType.Size),.d (.str apiType.Name),.full (estr.rows apiType.Names),.full (C0.rows apiType.Of)] 36,.row [.d (.int .i64 x1.2.1)] 3,.row [.d (.int .i64 x1.2.2)] 27]] rfl rfl rfl rfl rfl rfl rfl rfl rfl rfl ?_
  refine AS.q hC rfl rfl rfl rfl (AS.q hC rfl rfl rfl rfl (AS.s hC rfl rfl rfl rfl rfl rfl rfl (AS.nil (E0.s hC rfl (n' (re' ?_))))))
  obtain rfl:=oi' hh
  exact ⟨_,_,[.row (C0.cells apiType) 36],rfl,.rfl,⟨⟨rfl,⟨.rfl,.rfl,.rfl,.rfl,.rfl,.full,.full,trivial⟩,rfl⟩,trivial⟩,rfl,rfl,rfl,rfl⟩
 refine sk' (AEx.dfr hC B12 Y14 rfl rfl rfl rfl rfl rfl fun _=>(p' 4 rfl (E0.n hC rfl (e' rfl (p' 2 rfl ?_)))))
 rcases bp' hh with ⟨nn,hx2,hh⟩ | ⟨x2,hx2,hh⟩
 ·obtain rfl:=oi' hh
  exact gn' [3,0] (Wi hx2) rfl rfl rfl rfl rfl (fun hi=>dfk hi rfl rfl rfl (⟨_,_,[.row (C0.cells apiType) 36],rfl,.rfl,⟨⟨rfl,⟨.rfl,.rfl,.rfl,.rfl,.rfl,.full,.full,trivial⟩,rfl⟩,trivial⟩,rfl,rfl,rfl,rfl⟩))
 refine g' [3,0] ((Wi hx2).ok) rfl rfl rfl rfl rfl rfl (n' (S' (S' (AEx.draw hC 10 rfl rfl rfl (O' 8 rfl (AQ.qe hC rfl trivial (F0.lenA _) (E' rfl (n' (ci' rfl hh (fun hh=>?_) (fun hh=>?_))))))))))
 ·refine P' 1 rfl ?_
  rcases bp' hh with ⟨nn,hx3,hh⟩ | ⟨x3,hx3,hh⟩
  ·cases hh
   exact gn' [3] (Y3 hx3) rfl rfl rfl rfl rfl (fun hi=>dfk hi rfl rfl rfl (rt' rfl rfl rfl))
  cases hh
  exact g' [3] ((Y3 hx3).ok) rfl rfl rfl rfl rfl rfl (n' (s' rfl rfl (E0.s hC rfl (E0.s hC rfl (n' (re' (rt' rfl rfl rfl)))))))
 cases hh
 exact sk' (s' rfl rfl (E0.s hC rfl (E0.s hC rfl (n' (re' (rt' rfl rfl rfl))))))
mutual
def K5 (t:C0)(depth:Int)(syntaxReport:I0):Option I0:=
 M6 depth (I0.mk (IntKind.i64.wrap (syntaxReport.nodes+1)) syntaxReport.depth syntaxReport.badForm syntaxReport.badName syntaxReport.badNumber)>>=fun x1=>
 Z1 (bif (decide (t.Kind≥0)) then (decide (t.Kind≤4)) else false) x1>>=fun x2=>
 Z1 (bif (t.Kind == 1) then true else (bif (t.Low == 0) then (t.High == 0) else false)) x2>>=fun x3=>
 Z1 (bif (t.Kind == 2) then true else (t.Size == 0)) x3>>=fun x4=>
 Z1 (bif (t.Kind == 4) then true else (t.Name == [])) x4>>=fun x5=>
 Z1 (bif (t.Kind == 3) then true else (((t.Names).length:Int) == 0)) x5>>=fun x6=>
 if (t.Kind == 2)=true then
  Z1 (((t.Of).length:Int) == 1) x6>>=fun x7=>
  B8 t.Size 1 32>>=fun x8=>
  H3 x8 x7>>=fun x9=>
  Z6 t depth x9
 else
  if (t.Kind == 3)=true then
   Z1 (bif (decide (((t.Of).length:Int)≥1)) then (((t.Of).length:Int) == ((t.Names).length:Int)) else false) x6>>=fun x14=>
   H3 (decide (((t.Of).length:Int)≤32)) x14>>=fun x15=>
   Z6 t depth x15
  else
   Z1 (((t.Of).length:Int) == 0) x6>>=fun x16=>
   Z6 t depth x16
 partial_fixpoint
def Z6 (t:C0)(depth:Int)(o0:I0):Option I0:=
 if (t.Kind == 1)=true then
  B8 t.Low (-1048576) 1048576>>=fun x10=>
  (if x10=true then B8 t.High t.Low 1048576 else some default)>>=fun x11=>
  H3 (bif x10 then x11 else false) o0>>=fun x12=>
  A7 t depth x12
 else
  A7 t depth o0
 partial_fixpoint
def A7 (t:C0)(depth:Int)(o01:I0):Option I0:=
 if (t.Kind == 4)=true then
  K4 t.Name o01>>=fun x13=>
  C9 t depth x13
 else
  C9 t depth o01
 partial_fixpoint
def C9 (t:C0)(depth:Int)(o02:I0):Option I0:=
 L4 t depth o02 0
 partial_fixpoint
def L4 (t:C0)(depth:Int)(o03:I0)(v147:Int):Option I0:=
 if (decide (v147 < ((t.Names).length:Int)))=true then
  idx t.Names v147>>=fun x17=>
  K4 x17 o03>>=fun x18=>
  L4 t depth x18 (IntKind.i64.wrap (v147+1))
 else
  E5 t depth o03 0
 partial_fixpoint
def E5 (t:C0)(depth:Int)(o04:I0)(v158:Int):Option I0:=
 if (decide (v158 < ((t.Of).length:Int)))=true then
  idx t.Of v158>>=fun x19=>
  K5 x19 (IntKind.i64.wrap (depth+1)) o04>>=fun x20=>
  E5 t depth x20 (IntKind.i64.wrap (v158+1))
 else
  some o04
 partial_fixpoint
end
abbrev Fk (t:C0)(depth:Int)(syntaxReport:I0)(res:I0):Prop:=N0 C 74 [.ref 0 0,.agg (C0.cells t),.d (.int .i64 depth)] [.row (I0.cells syntaxReport) 103] (Ret [.row (I0.cells res) 103] (.tup []))
abbrev Yq (t:C0)(depth:Int)(o0:I0)(res:I0):Prop:=JM C 168 1 Tryz.f74 [1,1,1,1,1,1,1,1,1,1] [(0,.ref 0 0),(2,.d (.int .i64 depth)),(4,.ref 1 0),(6,.d (.bool (t.Kind == 1))),(9,.d (.bool (t.Kind == 4)))] [.row (I0.cells o0) 103,.row (C0.cells t) 36] (Ret [.row (I0.cells res) 103] (.tup []))
abbrev Zq (t:C0)(depth:Int)(o01:I0)(res:I0):Prop:=JM C 168 1 Tryz.f74 [1,1,1,1,1,1,1,1,1,1,1] [(0,.ref 0 0),(2,.d (.int .i64 depth)),(4,.ref 1 0),(9,.d (.bool (t.Kind == 4)))] [.row (I0.cells o01) 103,.row (C0.cells t) 36] (Ret [.row (I0.cells res) 103] (.tup []))
abbrev Ar (t:C0)(depth:Int)(o02:I0)(res:I0):Prop:=JM C 168 1 Tryz.f74 [1,1,1,1,1,1,1,1,1,1,1,1] [(0,.ref 0 0),(2,.d (.int .i64 depth)),(4,.ref 1 0)] [.row (I0.cells o02) 103,.row (C0.cells t) 36] (Ret [.row (I0.cells res) 103] (.tup []))
abbrev Br (t:C0)(depth:Int)(o03:I0)(v147:Int)(res:I0):Prop:=LM C 168 1 Tryz.f74 [1,1,1,1,1,1,1,1,1,1,1,1,0,1,4] [(0,.ref 0 0),(2,.d (.int .i64 depth)),(4,.ref 1 0),(145,.d (.sl (estr.rows t.Names))),(146,.d (.int .i64 ((t.Names).length:Int))),(147,.d (.int .i64 v147))] [.row (I0.cells o03) 103,.row (C0.cells t) 36] (Ret [.row (I0.cells res) 103] (.tup []))
abbrev Cr (t:C0)(depth:Int)(o04:I0)(v158:Int)(res:I0):Prop:=LM C 168 1 Tryz.f74 [1,1,1,1,1,1,1,1,1,1,1,1,1,1,4] [(0,.ref 0 0),(2,.d (.int .i64 depth)),(156,.d (.sl (C0.rows t.Of))),(157,.d (.int .i64 ((t.Of).length:Int))),(158,.d (.int .i64 v158))] [.row (I0.cells o04) 103] (Ret [.row (I0.cells res) 103] (.tup []))
theorem Ns:(∀ t depth syntaxReport res,K5 t depth syntaxReport=some res→Fk t depth syntaxReport res)∧(∀ t depth o0 res,Z6 t depth o0=some res→Yq t depth o0 res)∧(∀ t depth o01 res,A7 t depth o01=some res→Zq t depth o01 res)∧(∀ t depth o02 res,C9 t depth o02=some res→Ar t depth o02 res)∧(∀ t depth o03 v147 res,L4 t depth o03 v147=some res→Br t depth o03 v147 res)∧(∀ t depth o04 v158 res,E5 t depth o04 v158=some res→Cr t depth o04 v158 res):=by
 refine K5.mutual_partial_correctness _ _ _ _ _ _ ?_ ?_ ?_ ?_ ?_ ?_
 ·intro g1 ih1 t depth syntaxReport res hh
  obtain ⟨x1,hx1,hh⟩:=bs' hh
  obtain ⟨x2,hx2,hh⟩:=bs' hh
  obtain ⟨x3,hx3,hh⟩:=bs' hh
  obtain ⟨x4,hx4,hh⟩:=bs' hh
  obtain ⟨x5,hx5,hh⟩:=bs' hh
  obtain ⟨x6,hx6,hh⟩:=bs' hh
  refine N0.intro hC Tryz.func74 rfl rfl rfl (s' rfl rfl (E0.n hC rfl (n' (p' 7 rfl (E0.s hC rfl (n' (p' 2 rfl (g' [0] (Ui hx1) rfl rfl rfl rfl rfl rfl (n' (sg' 9 rfl (G' 6 rfl (a1' rfl (a1' rfl ?_)))))))))))))
  refine pa' rfl (an' (g' [0] (P2 hx2) rfl rfl rfl rfl rfl rfl (n' (S' (AEx.draw hC 16 rfl rfl rfl (E' rfl (n' (sg' 12 rfl (G' 4 rfl (a1' rfl (a1' rfl (a1' rfl (a0' rfl ?_)))))))))))))
  refine a1' rfl (a1' rfl (pA' rfl (po' rfl (an' (g' [0] (P2 hx3) rfl rfl rfl rfl rfl rfl (n' (sg' 7 rfl (G' 4 rfl (a1' rfl (a1' rfl (po' rfl (an' (g' [0] (P2 hx4) rfl rfl rfl rfl rfl rfl ?_)))))))))))))
  refine n' (sg' 7 rfl (G' 4 rfl (a1' rfl (a1' rfl (po' rfl (an' (g' [0] (P2 hx5) rfl rfl rfl rfl rfl rfl (n' (sg' 8 rfl (G' 4 rfl (a1' rfl (AG.qe hC rfl (fun hg=>⟨⟨hg,trivial⟩,trivial⟩) (estr.lenA _) (a1' rfl ?_)))))))))))))
  refine po' rfl (an' (g' [0] (P2 hx6) rfl rfl rfl rfl rfl rfl (n' (S' (bk' (t' rfl (ci' rfl hh (fun hh=>?_) (fun hh=>?_))))))))
  ·obtain ⟨x7,hx7,hh⟩:=bs' hh
   obtain ⟨x8,hx8,hh⟩:=bs' hh
   obtain ⟨x9,hx9,hh⟩:=bs' hh
   exact p' 3 rfl (qe' rfl trivial (C0.lenA _) (q' rfl (g' [0] (P2 hx7) rfl rfl rfl rfl rfl rfl (n' (P' 3 rfl (c' (Pf hx8) rfl rfl (g' [0] (S9 hx9) rfl rfl rfl rfl rfl rfl (n' (ew' (ih1 _ _ _ _ hh) rfl rfl rfl)))))))))
  refine t' rfl (ci' rfl hh (fun hh=>?_) (fun hh=>?_))
  ·obtain ⟨x14,hx14,hh⟩:=bs' hh
   obtain ⟨x15,hx15,hh⟩:=bs' hh
   refine sg' 14 rfl (G' 3 rfl (AG.qe hC rfl (fun hg=>⟨trivial,trivial⟩) (C0.lenA _) (G' 3 rfl (a1' rfl (AG.qe hC rfl (fun hg=>⟨⟨hg,trivial⟩,trivial⟩) (C0.lenA _) (a0' rfl (a1' rfl (AG.qe hC rfl (fun hg=>⟨⟨hg,trivial⟩,trivial⟩) (estr.lenA _) (a2' rfl (pa' rfl (an' (g' [0] (P2 hx14) rfl rfl rfl rfl rfl rfl (n' ?_)))))))))))))
   exact P' 3 rfl (qe' rfl trivial (C0.lenA _) (q' rfl (g' [0] (S9 hx15) rfl rfl rfl rfl rfl rfl (n' (ew' (ih1 _ _ _ _ hh) rfl rfl rfl)))))
  obtain ⟨x16,hx16,hh⟩:=bs' hh
  exact P' 3 rfl (qe' rfl trivial (C0.lenA _) (q' rfl (g' [0] (P2 hx16) rfl rfl rfl rfl rfl rfl (n' (ew' (ih1 _ _ _ _ hh) rfl rfl rfl)))))
 ·intro g2 ih2 t depth o0 res hh
  refine S' (t' rfl (ci' rfl hh (fun hh=>?_) (fun hh=>?_)))
  ·obtain ⟨x10,hx10,hh⟩:=bs' hh
   obtain ⟨x11,hx11,hh⟩:=bs' hh
   obtain ⟨x12,hx12,hh⟩:=bs' hh
   exact AEx.regionG 11 rfl (G' 3 rfl (AG.c rfl rfl (fun _=>trivial) (fun _=>Pf hx10) (G' 2 rfl (a1' rfl (a0' rfl (a1' rfl (AG.c rfl rfl (fun hg=>⟨hg,hg,trivial⟩) (fun hw=>Pf (C4 hw hx11)) (pa' rfl (an' (g' [0] (S9 hx12) rfl rfl rfl rfl rfl rfl (n' (ew' (ih2 _ _ _ _ hh) rfl rfl rfl))))))))))))
  exact sk' (ew' (ih2 _ _ _ _ hh) rfl rfl rfl)
 ·intro g3 ih3 t depth o01 res hh
  refine S' (t' rfl (ci' rfl hh (fun hh=>?_) (fun hh=>?_)))
  ·obtain ⟨x13,hx13,hh⟩:=bs' hh
   exact P' 3 rfl (g' [0] (Ie hx13) rfl rfl rfl rfl rfl rfl (n' (ew' (ih3 _ _ _ _ hh) rfl rfl rfl)))
  exact sk' (ew' (ih3 _ _ _ _ hh) rfl rfl rfl)
 ·intro g4 ih4 t depth o02 res hh
  exact S' (p' 2 rfl (qe' rfl trivial (estr.lenA _) (e' rfl (bk' (fw' (ih4 _ _ _ _ _ hh) rfl rfl rfl)))))
 ·intro g4 g5 ih4 ih5 t depth o03 v147 res hh
  refine T0.unroll (t' rfl (S' (ci' rfl hh (fun hh=>?_) (fun hh=>?_))))
  ·obtain ⟨x17,hx17,hh⟩:=bs' hh
   obtain ⟨x18,hx18,hh⟩:=bs' hh
   exact sk' (S' (bk' (s' rfl rfl (i' rfl (I1 hx17) (estr.idx hx17) rfl (e' rfl (P' 2 rfl (g' [0] (Ie hx18) rfl rfl rfl rfl rfl rfl (n' (T' rfl (lw' (ih4 _ _ _ _ _ hh) rfl rfl rfl))))))))))
  exact ex' (p' 2 rfl (qe' rfl trivial (C0.lenA _) (e' rfl (bk' (fw' (ih5 _ _ _ _ _ hh) rfl rfl rfl)))))
 ·intro g0 g5 ih0 ih5 t depth o04 v158 res hh
  refine T0.unroll (t' rfl (S' (ci' rfl hh (fun hh=>?_) (fun hh=>?_))))
  ·obtain ⟨x19,hx19,hh⟩:=bs' hh
   obtain ⟨x20,hx20,hh⟩:=bs' hh
   exact sk' (S' (bk' (s' rfl rfl (i' rfl (I1 hx19) (C0.idx hx19) rfl (q' rfl (E0.nf hC rfl (E0.s hC rfl (n' (P' 4 rfl (g' [0] (ih0 _ _ _ _ hx20) rfl rfl rfl rfl rfl rfl (n' (T' rfl (lw' (ih5 _ _ _ _ _ hh) rfl rfl rfl)))))))))))))
  cases hh
  exact ex' (rn' rfl rfl rfl)
theorem Zt {t depth syntaxReport res}(hh:K5 t depth syntaxReport=some res):Fk t depth syntaxReport res:=(Ns).1 _ _ _ _ hh
def Hc (t:C0):Option Int:=
 K5 t 1 (I0.mk 0 0 false false false)>>=fun x1=>
 B5 x1>>=fun x2=>
 some x2
theorem Jv {t res}(hh:Hc t=some res):N0 C 37 [.agg (C0.cells t)] [] (Ret [] (.d (.int .i64 res))):=by
 unfold Hc at hh
 obtain ⟨x1,hx1,hh⟩:=bs' hh
 obtain ⟨x2,hx2,hh⟩:=bs' hh
 cases hh
 exact N0.intro hC Tryz.func37 rfl rfl rfl (s' rfl rfl (E0.n hC rfl (e' rfl (p' 1 rfl (E0.n hC rfl (e' rfl (p' 2 rfl (g' [1] (Zt hx1) rfl rfl rfl rfl rfl rfl (n' (p' 1 rfl (g' [1] (Vi hx2) rfl rfl rfl rfl rfl rfl (e' rfl (re' (rt' rfl rfl rfl))))))))))))))
def G8 (text:Str):Option (C0×Int×Int):=
 Je text (C0.mk 0 0 0 0 [] [] [])>>=fun x1=>
 if (x1.2.1 != 0)=true then
  some ((C0.mk 0 0 0 0 [] [] []),x1.1,x1.2.1)
 else
  Hc x1.2.2>>=fun x2=>
  if (x2 != 0)=true then
   some ((C0.mk 0 0 0 0 [] [] []),0,x2)
  else
   some (x1.2.2,0,0)
theorem Kv {text res}(hh:G8 text=some res):N0 C 14 [.d (.str text)] [] (Ret [] (.tup [.agg (C0.cells res.1),.d (.int .i64 res.2.1),.d (.int .i64 res.2.2)])):=by
 unfold G8 at hh
 obtain ⟨x1,hx1,hh⟩:=bs' hh
 refine N0.intro hC Tryz.func14 rfl rfl rfl (s' rfl rfl (E0.nf hC rfl (e' rfl (s' rfl rfl (E0.nf hC rfl (n' (p' 2 rfl (g' [1] (Iz hx1) rfl rfl rfl rfl rfl rfl (e' rfl (S' (t' rfl (ci' rfl hh (fun hh=>?_) (fun hh=>?_)))))))))))))
 ·cases hh
  exact p' 3 rfl (E0.s hC rfl (e' rfl (re' (rt' rfl rfl rfl))))
 obtain ⟨x2,hx2,hh⟩:=bs' hh
 refine sk' (S' (p' 1 rfl (c' (Jv hx2) rfl rfl (e' rfl (t' rfl (ci' rfl hh (fun hh=>?_) (fun hh=>?_)))))))
 ·cases hh
  exact p' 2 rfl (E0.s hC rfl (e' rfl (re' (rt' rfl rfl rfl))))
 cases hh
 exact sk' (p' 1 rfl (E0.s hC rfl (e' rfl (re' (rt' rfl rfl rfl)))))
def G4 (l:List F0)(atV:Int):Option (Int×Int×Bool):=
 C1 l atV [45]>>=fun x1=>
 if x1=true then
  Gh l (IntKind.i64.wrap (atV+1))>>=fun x2=>
  some ((IntKind.i64.wrap (0 - x2.1)),x2.2.1,x2.2.2)
 else
  Gh l atV>>=fun x3=>
  some (x3.1,x3.2.1,x3.2.2)
def Vk (l:List F0)(atV:Int):Option (C0×Int×Bool):=
 C1 l atV [91]>>=fun x1=>
 if (!x1)=true then
  some ((C0.mk 0 0 0 0 [] [] []),atV,false)
 else
  G4 l (IntKind.i64.wrap (atV+1))>>=fun x2=>
  (if (!(!x2.2.2))=true then C1 l x2.2.1 [46,46] else some default)>>=fun x3=>
  if (bif (!x2.2.2) then true else (!x3))=true then
   some ((C0.mk 0 0 0 0 [] [] []),x2.2.1,false)
  else
   G4 l (IntKind.i64.wrap (x2.2.1+1))>>=fun x4=>
   (if (!(!x4.2.2))=true then C1 l x4.2.1 [93] else some default)>>=fun x5=>
   if (bif (!x4.2.2) then true else (!x5))=true then
    some ((C0.mk 0 0 0 0 [] [] []),x4.2.1,false)
   else
    some ((C0.mk 1 x2.1 x4.1 0 [] [] []),(IntKind.i64.wrap (x4.2.1+1)),true)
mutual
def L7 (l:List F0)(atV:Int):Option (C0×Int×Bool):=
 C1 l atV [98,111,111,108]>>=fun x1=>
 if x1=true then
  some ((C0.mk 0 0 0 0 [] [] []),(IntKind.i64.wrap (atV+1)),true)
 else
  C1 l atV [105,110,116]>>=fun x2=>
  if x2=true then
   Vk l (IntKind.i64.wrap (atV+1))>>=fun x3=>
   some (x3.1,x3.2.1,x3.2.2)
  else
   C1 l atV [97,114,114,97,121]>>=fun x4=>
   if x4=true then
    G4 l (IntKind.i64.wrap (atV+1))>>=fun x5=>
    (if (!(!x5.2.2))=true then C1 l x5.2.1 [111,102] else some default)>>=fun x6=>
    if (bif (!x5.2.2) then true else (!x6))=true then
     some ((C0.mk 0 0 0 0 [] [] []),x5.2.1,false)
    else
     L7 l (IntKind.i64.wrap (x5.2.1+1))>>=fun x10=>
     some ((C0.mk 2 0 0 x5.1 [] [] [x10.1]),x10.2.1,x10.2.2)
   else
    C1 l atV [114,101,99,111,114,100]>>=fun x7=>
    if x7=true then
     Wo l (IntKind.i64.wrap (atV+1))>>=fun x8=>
     some (x8.1,x8.2.1,x8.2.2)
    else
     Ma l atV>>=fun x9=>
     some ((C0.mk 4 0 0 0 x9.1 [] []),x9.2.1,x9.2.2)
 partial_fixpoint
def Wo (l:List F0)(atV:Int):Option (C0×Int×Bool):=
 C1 l atV [123]>>=fun x1=>
 if (!x1)=true then
  some ((C0.mk 3 0 0 0 [] [] []),atV,false)
 else
  M7 l [] [] atV
 partial_fixpoint
def M7 (l:List F0)(o1_Names:List Str)(o1_Of:List C0)(atV1:Int):Option (C0×Int×Bool):=
 Nl l (IntKind.i64.wrap (atV1+1))>>=fun x2=>
 if (!x2.2.2)=true then
  some ((C0.mk 3 0 0 0 [] o1_Names o1_Of),x2.2.1,false)
 else
  if (decide ((o1_Names.length+1) * 17≤140737488355328))=true then
   if (decide ((o1_Of.length+1) * 97≤140737488355328))=true then
    C1 l x2.2.1 [125]>>=fun x3=>
    if x3=true then
     some ((C0.mk 3 0 0 0 [] (o1_Names++[x2.1.Name]) (o1_Of++[x2.1.TypeV])),(IntKind.i64.wrap (x2.2.1+1)),true)
    else
     C1 l x2.2.1 [44]>>=fun x4=>
     if (!x4)=true then
      some ((C0.mk 3 0 0 0 [] (o1_Names++[x2.1.Name]) (o1_Of++[x2.1.TypeV])),x2.2.1,false)
     else
      M7 l (o1_Names++[x2.1.Name]) (o1_Of++[x2.1.TypeV]) x2.2.1
   else none
  else none
 partial_fixpoint
def Nl (l:List F0)(atV:Int):Option (Z0×Int×Bool):=
 Ma l atV>>=fun x1=>
 (if (!(!x1.2.2))=true then C1 l x1.2.1 [58] else some default)>>=fun x2=>
 if (bif (!x1.2.2) then true else (!x2))=true then
  some ((Z0.mk 0 [] (C0.mk 0 0 0 0 [] [] []) 0 (A0.mk 0 0 [] []) [] [] []),x1.2.1,false)
 else
  L7 l (IntKind.i64.wrap (x1.2.1+1))>>=fun x3=>
  some ((Z0.mk 4 x1.1 x3.1 0 (A0.mk 0 0 [] []) [] [] []),x3.2.1,x3.2.2)
 partial_fixpoint
end
end Go.Proofs.YtmnhfbekncjnfaaGreatDoor

set_option maxRecDepth 100000
set_option maxHeartbeats 4000000
set_option synthInstance.maxSize 20000
set_option linter.unusedVariables false
namespace Go.Proofs.YtmnhfbekncjnfaaGreatDoor
open Go.Am
mutual
def R5 (a:C0)(b:C0):Option Bool:=
 if (bif (bif (bif (bif (bif (bif (a.Kind != b.Kind) then true else (a.Low != b.Low)) then true else (a.High != b.High)) then true else (a.Size != b.Size)) then true else (!(a.Name == b.Name))) then true else (((a.Names).length:Int) != ((b.Names).length:Int))) then true else (((a.Of).length:Int) != ((b.Of).length:Int)))=true then
  some false
 else
  P8 a b 0
 partial_fixpoint
def P8 (a:C0)(b:C0)(i:Int):Option Bool:=
 if (decide (i < ((a.Names).length:Int)))=true then
  idx a.Names i>>=fun x1=>
  idx b.Names i>>=fun x2=>
  if (!(x1 == x2))=true then
   some false
  else
   P8 a b (IntKind.i64.wrap (i+1))
 else
  O6 a b 0
 partial_fixpoint
def O6 (a:C0)(b:C0)(i1:Int):Option Bool:=
 if (decide (i1 < ((a.Of).length:Int)))=true then
  idx a.Of i1>>=fun x3=>
  idx b.Of i1>>=fun x4=>
  R5 x3 x4>>=fun x5=>
  if (!x5)=true then
   some false
  else
   O6 a b (IntKind.i64.wrap (i1+1))
 else
  some true
 partial_fixpoint
end
abbrev Hn (a:C0)(b:C0)(res:Bool):Prop:=N0 C 16 [.agg (C0.cells a),.agg (C0.cells b)] [] (Ret [] (.d (.bool res)))
abbrev Au (a:C0)(b:C0)(i:Int)(res:Bool):Prop:=LM C 95 0 Tryz.f16 [1,1,0,1,4] [(2,.ref 0 0),(3,.ref 1 0),(5,.d (.int .i64 i))] [.row (C0.cells a) 36,.row (C0.cells b) 36] (Ret [] (.d (.bool res)))
abbrev Bu (a:C0)(b:C0)(i1:Int)(res:Bool):Prop:=LM C 95 0 Tryz.f16 [1,1,1,0,1,4] [(2,.ref 0 0),(3,.ref 1 0),(6,.d (.int .i64 i1))] [.row (C0.cells a) 36,.row (C0.cells b) 36] (Ret [] (.d (.bool res)))
theorem Lv:(∀ a b res,R5 a b=some res→Hn a b res)∧(∀ a b i res,P8 a b i=some res→Au a b i res)∧(∀ a b i1 res,O6 a b i1=some res→Bu a b i1 res):=by
 refine R5.mutual_partial_correctness _ _ _ ?_ ?_ ?_
 ·intro g1 ih1 a b res hh
  refine N0.intro hC Tryz.func16 rfl rfl rfl (s' rfl rfl (E0.n hC rfl (E0.n hC rfl (e' rfl (S' (sg' 51 rfl (G' 7 rfl (a1' rfl (a0' rfl (a1' rfl (a2' rfl (po' rfl (G' 2 rfl ?_)))))))))))))
  refine a1' rfl (a0' rfl (a1' rfl (a2' rfl (po' rfl (G' 2 rfl (a1' rfl (a0' rfl (a1' rfl (a2' rfl (po' rfl (G' 2 rfl (a1' rfl (a0' rfl ?_)))))))))))))
  refine a1' rfl (a2' rfl (po' rfl (G' 2 rfl (a1' rfl (AG.qe hC rfl (fun hg=>⟨⟨hg,trivial⟩,trivial⟩) (estr.lenA _) (a0' rfl (a1' rfl (AG.qe hC rfl (fun hg=>⟨⟨hg,trivial⟩,trivial⟩) (estr.lenA _) (a2' rfl (po' rfl (G' 2 rfl (a1' rfl (AG.qe hC rfl (fun hg=>⟨⟨hg,trivial⟩,trivial⟩) (C0.lenA _) ?_)))))))))))))
  refine a0' rfl (a1' rfl (AG.qe hC rfl (fun hg=>⟨⟨hg,trivial⟩,trivial⟩) (C0.lenA _) (a2' rfl (po' rfl (an' (n' (ci' rfl hh (fun hh=>?_) (fun hh=>?_))))))))
  ·cases hh
   exact t' rfl (re' (rt' rfl rfl rfl))
  exact sk' (S' (t' rfl (bk' (fw' (ih1 _ _ _ _ hh) rfl rfl rfl))))
 ·intro g1 g2 ih1 ih2 a b i res hh
  refine T0.unroll (S' (p' 3 rfl (qe' rfl trivial (estr.lenA _) (e' rfl (ci' rfl hh (fun hh=>?_) (fun hh=>?_))))))
  ·obtain ⟨x1,hx1,hh⟩:=bs' hh
   obtain ⟨x2,hx2,hh⟩:=bs' hh
   refine sk' (S' (bk' (S' (AEx.draw hC 11 rfl rfl rfl (O' 3 rfl (AQ.i hC rfl (I1 hx1) (estr.idx hx1) rfl (O' 4 rfl (AQ.i hC rfl (I1 hx2) (estr.idx hx2) rfl (E' rfl (n' (ci' rfl hh (fun hh=>?_) (fun hh=>?_))))))))))))
   ·cases hh
    exact t' rfl (re' (rt' rfl rfl rfl))
   exact sk' (T' rfl (lw' (ih1 _ _ _ _ hh) rfl rfl rfl))
  exact ex' (S' (t' rfl (bk' (fw' (ih2 _ _ _ _ hh) rfl rfl rfl))))
 ·intro g0 g2 ih0 ih2 a b i1 res hh
  refine T0.unroll (S' (p' 3 rfl (qe' rfl trivial (C0.lenA _) (e' rfl (ci' rfl hh (fun hh=>?_) (fun hh=>?_))))))
  ·obtain ⟨x3,hx3,hh⟩:=bs' hh
   obtain ⟨x4,hx4,hh⟩:=bs' hh
   obtain ⟨x5,hx5,hh⟩:=bs' hh
   refine sk' (S' (bk' (S' (AEx.draw hC 12 rfl rfl rfl (O' 3 rfl (AQ.i hC rfl (I1 hx3) (C0.idx hx3) rfl (O' 4 rfl (AQ.i hC rfl (I1 hx4) (C0.idx hx4) rfl (Q' rfl (Qc' (ih0 _ _ _ hx5) rfl rfl (E' rfl (n' (ci' rfl hh (fun hh=>?_) (fun hh=>?_))))))))))))))
   ·cases hh
    exact t' rfl (re' (rt' rfl rfl rfl))
   exact sk' (T' rfl (lw' (ih2 _ _ _ _ hh) rfl rfl rfl))
  cases hh
  exact ex' (t' rfl (re' (rt' rfl rfl rfl)))
theorem Km {a b res}(hh:R5 a b=some res):Hn a b res:=(Lv).1 _ _ _ hh
def Xk (t:C0):Option Bool:=
 R5 t (C0.mk 0 0 0 0 [] [] [])>>=fun x1=>
 some x1
theorem Jz {t res}(hh:Xk t=some res):N0 C 135 [.agg (C0.cells t)] [] (Ret [] (.d (.bool res))):=by
 unfold Xk at hh
 obtain ⟨x1,hx1,hh⟩:=bs' hh
 cases hh
 exact N0.intro hC Tryz.func135 rfl rfl rfl (s' rfl rfl (E0.n hC rfl (e' rfl (p' 2 rfl (c' (Km hx1) rfl rfl (e' rfl (re' (rt' rfl rfl rfl))))))))
mutual
def N7 (t:C0):Option Int:=
 Q8 t 1 0
 partial_fixpoint
def Q8 (t:C0)(n:Int)(i:Int):Option Int:=
 if (decide (i < ((t.Of).length:Int)))=true then
  idx t.Of i>>=fun x1=>
  N7 x1>>=fun x2=>
  Q8 t (IntKind.i64.wrap (n+x2)) (IntKind.i64.wrap (i+1))
 else
  some n
 partial_fixpoint
end
abbrev Jn (t:C0)(res:Int):Prop:=N0 C 136 [.agg (C0.cells t)] [] (Ret [] (.d (.int .i64 res)))
abbrev Cu (t:C0)(n:Int)(i:Int)(res:Int):Prop:=LM C 21 0 Tryz.f136 [1,1,0,1,4] [(1,.ref 0 0),(3,.d (.int .i64 n)),(4,.d (.int .i64 i))] [.row (C0.cells t) 36] (Ret [] (.d (.int .i64 res)))
theorem Mv:(∀ t res,N7 t=some res→Jn t res)∧(∀ t n i res,Q8 t n i=some res→Cu t n i res):=by
 refine N7.mutual_partial_correctness _ _ ?_ ?_
 ·intro g1 ih1 t res hh
  exact N0.intro hC Tryz.func136 rfl rfl rfl (s' rfl rfl (E0.n hC rfl (e' rfl (t' rfl (S' (t' rfl (bk' (fw' (ih1 _ _ _ _ hh) rfl rfl rfl))))))))
 ·intro g0 g1 ih0 ih1 t n i res hh
  refine T0.unroll (S' (p' 3 rfl (qe' rfl trivial (C0.lenA _) (e' rfl (ci' rfl hh (fun hh=>?_) (fun hh=>?_))))))
  ·obtain ⟨x1,hx1,hh⟩:=bs' hh
   obtain ⟨x2,hx2,hh⟩:=bs' hh
   exact sk' (S' (bk' (P' 4 rfl (i' rfl (I1 hx1) (C0.idx hx1) rfl (q' rfl (c' (ih0 _ _ hx2) rfl rfl (e' rfl (T' rfl (lw' (ih1 _ _ _ _ hh) rfl rfl rfl)))))))))
  cases hh
  exact ex' (t' rfl (re' (rt' rfl rfl rfl)))
theorem Dx {t res}(hh:N7 t=some res):Jn t res:=(Mv).1 _ _ hh
mutual
def O7 (t:C0):Option Int:=
 P6 t 0 0
 partial_fixpoint
def P6 (t:C0)(d:Int)(i:Int):Option Int:=
 if (decide (i < ((t.Of).length:Int)))=true then
  idx t.Of i>>=fun x1=>
  O7 x1>>=fun x2=>
  if (decide (x2 > d))=true then
   P6 t x2 (IntKind.i64.wrap (i+1))
  else
   P6 t d (IntKind.i64.wrap (i+1))
 else
  some (IntKind.i64.wrap (d+1))
 partial_fixpoint
end
abbrev Kn (t:C0)(res:Int):Prop:=N0 C 137 [.agg (C0.cells t)] [] (Ret [] (.d (.int .i64 res)))
abbrev Du (t:C0)(d:Int)(i:Int)(res:Int):Prop:=LM C 25 0 Tryz.f137 [1,1,0,1,4] [(1,.ref 0 0),(3,.d (.int .i64 d)),(4,.d (.int .i64 i))] [.row (C0.cells t) 36] (Ret [] (.d (.int .i64 res)))
theorem Nv:(∀ t res,O7 t=some res→Kn t res)∧(∀ t d i res,P6 t d i=some res→Du t d i res):=by
 refine O7.mutual_partial_correctness _ _ ?_ ?_
 ·intro g1 ih1 t res hh
  exact N0.intro hC Tryz.func137 rfl rfl rfl (s' rfl rfl (E0.n hC rfl (e' rfl (t' rfl (S' (t' rfl (bk' (fw' (ih1 _ _ _ _ hh) rfl rfl rfl))))))))
 ·intro g0 g1 ih0 ih1 t d i res hh
  refine T0.unroll (S' (p' 3 rfl (qe' rfl trivial (C0.lenA _) (e' rfl (ci' rfl hh (fun hh=>?_) (fun hh=>?_))))))
  ·obtain ⟨x1,hx1,hh⟩:=bs' hh
   obtain ⟨x2,hx2,hh⟩:=bs' hh
   refine sk' (S' (bk' (p' 3 rfl (i' rfl (I1 hx1) (C0.idx hx1) rfl (q' rfl (c' (ih0 _ _ hx2) rfl rfl (e' rfl (t' rfl (ci' rfl hh (fun hh=>?_) (fun hh=>?_))))))))))
   ·exact T' rfl (T' rfl (lw' (ih1 _ _ _ _ hh) rfl rfl rfl))
   exact sk' (T' rfl (lw' (ih1 _ _ _ _ hh) rfl rfl rfl))
  cases hh
  exact ex' (t' rfl (re' (rt' rfl rfl rfl)))
theorem Gx {t res}(hh:O7 t=some res):Kn t res:=(Nv).1 _ _ hh
def Hg (s:J1)(t:C0)(used:Bool):Option J1:=
 (if (!used)=true then Xk t else some default)>>=fun x1=>
 if (bif (!used) then x1 else false)=true then
  some s
 else
  N7 t>>=fun x2=>
  O7 t>>=fun x3=>
  F7 (J1.mk (IntKind.i64.wrap (s.nodes+x2)) s.depth) x3>>=fun x4=>
  some x4
theorem Q10 {s t used res}(hh:Hg s t used=some res):N0 C 79 [.agg (J1.cells s),.agg (C0.cells t),.d (.bool used)] [] (Ret [] (.agg (J1.cells res))):=by
 unfold Hg at hh
 obtain ⟨x1,hx1,hh⟩:=bs' hh
 refine N0.intro hC Tryz.func79 rfl rfl rfl (s' rfl rfl (E0.n hC rfl (E0.n hC rfl (E0.n hC rfl (n' (S' (sg' 6 rfl (G' 4 rfl (AG.c rfl rfl (fun hg=>⟨hg,trivial⟩) (fun hw=>Jz (C4 hw hx1)) (pa' rfl (an' (n' (ci' rfl hh (fun hh=>?_) (fun hh=>?_))))))))))))))
 ·cases hh
  exact p' 1 rfl (E0.s hC rfl (n' (re' (rt' rfl rfl rfl))))
 obtain ⟨x2,hx2,hh⟩:=bs' hh
 obtain ⟨x3,hx3,hh⟩:=bs' hh
 obtain ⟨x4,hx4,hh⟩:=bs' hh
 cases hh
 refine sk' (S' (AEx.draw hC 6 rfl rfl rfl (O' 3 rfl (Qc' (Dx hx2) rfl rfl (E' rfl (E0.s hC rfl (n' (S' (AEx.draw hC 4 rfl rfl rfl (O' 2 rfl (Qc' (Gx hx3) rfl rfl (Qc' (Pj hx4) rfl rfl (Qn' ?_)))))))))))))
 exact E0.s hC rfl (n' (re' (rt' rfl rfl rfl)))
mutual
def R8 (t:C0):Option Bool:=
 if (bif (decide (t.Kind < 0)) then true else (decide (t.Kind > 4)))=true then
  some false
 else
  if (bif (bif (bif (bif (t.Kind != 1) then (bif (t.Low != 0) then true else (t.High != 0)) else false) then true else (bif (t.Kind != 2) then (t.Size != 0) else false)) then true else (bif (t.Kind != 4) then (!(t.Name == [])) else false)) then true else (bif (t.Kind != 3) then (((t.Names).length:Int) != 0) else false))=true then
   some false
  else
   if (bif (bif (bif (t.Kind == 2) then (((t.Of).length:Int) != 1) else false) then true else (bif (t.Kind == 3) then (bif (decide (((t.Of).length:Int) < 1)) then true else (((t.Of).length:Int) != ((t.Names).length:Int))) else false)) then true else (bif (bif (t.Kind != 2) then (t.Kind != 3) else false) then (((t.Of).length:Int) != 0) else false))=true then
    some false
   else
    K9 t 0
 partial_fixpoint
def K9 (t:C0)(i:Int):Option Bool:=
 if (decide (i < ((t.Of).length:Int)))=true then
  idx t.Of i>>=fun x1=>
  R8 x1>>=fun x2=>
  if (!x2)=true then
   some false
  else
   K9 t (IntKind.i64.wrap (i+1))
 else
  some true
 partial_fixpoint
end
abbrev Xo (t:C0)(res:Bool):Prop:=N0 C 80 [.agg (C0.cells t)] [] (Ret [] (.d (.bool res)))
abbrev Ov (t:C0)(i:Int)(res:Bool):Prop:=LM C 115 0 Tryz.f80 [1,1,1,1,0,1,4] [(1,.ref 0 0),(3,.d (.int .i64 i))] [.row (C0.cells t) 36] (Ret [] (.d (.bool res)))
theorem Hx:(∀ t res,R8 t=some res→Xo t res)∧(∀ t i res,K9 t i=some res→Ov t i res):=by
 refine R8.mutual_partial_correctness _ _ ?_ ?_
 ·intro g1 ih1 t res hh
  refine N0.intro hC Tryz.func80 rfl rfl rfl (s' rfl rfl (E0.n hC rfl (e' rfl (S' (sg' 8 rfl (G' 5 rfl (a1' rfl (a1' rfl (po' rfl (an' (n' (ci' rfl hh (fun hh=>?_) (fun hh=>?_)))))))))))))
  ·cases hh
   exact t' rfl (re' (rt' rfl rfl rfl))
  refine sk' (S' (sg' 44 rfl (G' 5 rfl (a1' rfl (a1' rfl (a1' rfl (a0' rfl (a1' rfl (a1' rfl (pO' rfl (pa' rfl (G' 2 rfl (a1' rfl ?_)))))))))))))
  refine a1' rfl (a1' rfl (a0' rfl (a1' rfl (a1' rfl (pA' rfl (po' rfl (G' 2 rfl (a1' rfl (a1' rfl (a1' rfl (a0' rfl (a1' rfl (a1' rfl ?_)))))))))))))
  refine pA' rfl (po' rfl (G' 2 rfl (a1' rfl (a1' rfl (a1' rfl (a0' rfl (a1' rfl (AG.qe hC rfl (fun hg=>⟨⟨hg,trivial⟩,trivial⟩) (estr.lenA _) (a1' rfl (pA' rfl (po' rfl (an' (n' (ci' rfl hh (fun hh=>?_) (fun hh=>?_)))))))))))))))
  ·cases hh
   exact t' rfl (re' (rt' rfl rfl rfl))
  refine sk' (S' (sg' 45 rfl (G' 5 rfl (a1' rfl (AG.qe hC rfl (fun hg=>⟨⟨hg,trivial⟩,trivial⟩) (C0.lenA _) (a1' rfl (pa' rfl (G' 2 rfl (a1' rfl (a1' rfl (a1' rfl (a0' rfl (a1' rfl ?_)))))))))))))
  refine AG.qe hC rfl (fun hg=>⟨⟨hg,trivial⟩,trivial⟩) (C0.lenA _) (a1' rfl (a1' rfl (a0' rfl (a1' rfl (AG.qe hC rfl (fun hg=>⟨⟨hg,trivial⟩,trivial⟩) (C0.lenA _) (a0' rfl (a1' rfl (AG.qe hC rfl (fun hg=>⟨⟨hg,trivial⟩,trivial⟩) (estr.lenA _) (a2' rfl (pO' rfl (pA' rfl (po' rfl (G' 2 rfl ?_)))))))))))))
  refine a1' rfl (a1' rfl (a1' rfl (a0' rfl (a1' rfl (a1' rfl (pA' rfl (a1' rfl (a0' rfl (a1' rfl (AG.qe hC rfl (fun hg=>⟨⟨hg,trivial⟩,trivial⟩) (C0.lenA _) (a1' rfl (pA' rfl (po' rfl ?_)))))))))))))
  refine an' (n' (ci' rfl hh (fun hh=>?_) (fun hh=>?_)))
  ·cases hh
   exact t' rfl (re' (rt' rfl rfl rfl))
  exact sk' (S' (t' rfl (bk' (fw' (ih1 _ _ _ hh) rfl rfl rfl))))
 ·intro g0 g1 ih0 ih1 t i res hh
  refine T0.unroll (S' (p' 3 rfl (qe' rfl trivial (C0.lenA _) (e' rfl (ci' rfl hh (fun hh=>?_) (fun hh=>?_))))))
  ·obtain ⟨x1,hx1,hh⟩:=bs' hh
   obtain ⟨x2,hx2,hh⟩:=bs' hh
   refine sk' (S' (bk' (p' 3 rfl (i' rfl (I1 hx1) (C0.idx hx1) rfl (q' rfl (c' (ih0 _ _ hx2) rfl rfl (e' rfl (ci' rfl hh (fun hh=>?_) (fun hh=>?_)))))))))
   ·cases hh
    exact t' rfl (re' (rt' rfl rfl rfl))
   exact sk' (T' rfl (lw' (ih1 _ _ _ hh) rfl rfl rfl))
  cases hh
  exact ex' (t' rfl (re' (rt' rfl rfl rfl)))
theorem Kz {t res}(hh:R8 t=some res):Xo t res:=(Hx).1 _ _ hh
mutual
def P7 (t:C0):Option Bool:=
 (if (t.Kind == 4)=true then Gc t.Name else some default)>>=fun x1=>
 if (bif (t.Kind == 4) then (!x1) else false)=true then
  some false
 else
  S8 t 0
 partial_fixpoint
def S8 (t:C0)(i:Int):Option Bool:=
 if (decide (i < ((t.Names).length:Int)))=true then
  idx t.Names i>>=fun x2=>
  Gc x2>>=fun x3=>
  if (!x3)=true then
   some false
  else
   S8 t (IntKind.i64.wrap (i+1))
 else
  Q6 t 0
 partial_fixpoint
def Q6 (t:C0)(i1:Int):Option Bool:=
 if (decide (i1 < ((t.Of).length:Int)))=true then
  idx t.Of i1>>=fun x4=>
  P7 x4>>=fun x5=>
  if (!x5)=true then
   some false
  else
   Q6 t (IntKind.i64.wrap (i1+1))
 else
  some true
 partial_fixpoint
end
abbrev Ln (t:C0)(res:Bool):Prop:=N0 C 81 [.agg (C0.cells t)] [] (Ret [] (.d (.bool res)))
abbrev Eu (t:C0)(i:Int)(res:Bool):Prop:=LM C 42 0 Tryz.f81 [1,1,0,1,4] [(1,.ref 0 0),(3,.d (.int .i64 i))] [.row (C0.cells t) 36] (Ret [] (.d (.bool res)))
abbrev Fu (t:C0)(i1:Int)(res:Bool):Prop:=LM C 42 0 Tryz.f81 [1,1,1,0,1,4] [(1,.ref 0 0),(4,.d (.int .i64 i1))] [.row (C0.cells t) 36] (Ret [] (.d (.bool res)))
theorem Pv:(∀ t res,P7 t=some res→Ln t res)∧(∀ t i res,S8 t i=some res→Eu t i res)∧(∀ t i1 res,Q6 t i1=some res→Fu t i1 res):=by
 refine P7.mutual_partial_correctness _ _ _ ?_ ?_ ?_
 ·intro g1 ih1 t res hh
  obtain ⟨x1,hx1,hh⟩:=bs' hh
  refine N0.intro hC Tryz.func81 rfl rfl rfl (s' rfl rfl (E0.n hC rfl (e' rfl (S' (sg' 9 rfl (G' 5 rfl (a1' rfl (AG.c rfl rfl (fun hg=>⟨hg,trivial⟩) (fun hw=>Sj (C4 hw hx1)) (a1' rfl (pa' rfl (an' (n' (ci' rfl hh (fun hh=>?_) (fun hh=>?_))))))))))))))
  ·cases hh
   exact t' rfl (re' (rt' rfl rfl rfl))
  exact sk' (S' (t' rfl (bk' (fw' (ih1 _ _ _ hh) rfl rfl rfl))))
 ·intro g1 g2 ih1 ih2 t i res hh
  refine T0.unroll (S' (p' 3 rfl (qe' rfl trivial (estr.lenA _) (e' rfl (ci' rfl hh (fun hh=>?_) (fun hh=>?_))))))
  ·obtain ⟨x2,hx2,hh⟩:=bs' hh
   obtain ⟨x3,hx3,hh⟩:=bs' hh
   refine sk' (S' (bk' (p' 3 rfl (i' rfl (I1 hx2) (estr.idx hx2) rfl (q' rfl (c' (Sj hx3) rfl rfl (e' rfl (ci' rfl hh (fun hh=>?_) (fun hh=>?_)))))))))
   ·cases hh
    exact t' rfl (re' (rt' rfl rfl rfl))
   exact sk' (T' rfl (lw' (ih1 _ _ _ hh) rfl rfl rfl))
  exact ex' (S' (t' rfl (bk' (fw' (ih2 _ _ _ hh) rfl rfl rfl))))
 ·intro g0 g2 ih0 ih2 t i1 res hh
  refine T0.unroll (S' (p' 3 rfl (qe' rfl trivial (C0.lenA _) (e' rfl (ci' rfl hh (fun hh=>?_) (fun hh=>?_))))))
  ·obtain ⟨x4,hx4,hh⟩:=bs' hh
   obtain ⟨x5,hx5,hh⟩:=bs' hh
   refine sk' (S' (bk' (p' 3 rfl (i' rfl (I1 hx4) (C0.idx hx4) rfl (q' rfl (c' (ih0 _ _ hx5) rfl rfl (e' rfl (ci' rfl hh (fun hh=>?_) (fun hh=>?_)))))))))
   ·cases hh
    exact t' rfl (re' (rt' rfl rfl rfl))
   exact sk' (T' rfl (lw' (ih2 _ _ _ hh) rfl rfl rfl))
  cases hh
  exact ex' (t' rfl (re' (rt' rfl rfl rfl)))
theorem Ix {t res}(hh:P7 t=some res):Ln t res:=(Pv).1 _ _ hh
def Hh (n:Int):Option Bool:=
 some (bif (decide (n≥(-1048576))) then (decide (n≤1048576)) else false)
theorem Mq {n res}(hh:Hh n=some res):N0 C 138 [.d (.int .i64 n)] [] (Ret [] (.d (.bool res))):=by
 unfold Hh at hh
 cases hh
 exact N0.intro hC Tryz.func138 rfl rfl rfl (t' rfl (sg' 7 rfl (G' 4 rfl (a1' rfl (pa' rfl (a0' rfl (an' (n' (re' (rt' rfl rfl rfl))))))))))
mutual
def L5 (t:C0):Option Bool:=
 (if (t.Kind == 1)=true then Hh t.Low else some default)>>=fun x1=>
 (if ((t.Kind == 1)&&(!(!x1)))=true then Hh t.High else some default)>>=fun x2=>
 if (bif (bif (bif (t.Kind == 1) then (bif (bif (!x1) then true else (!x2)) then true else (decide (t.Low > t.High))) else false) then true else (bif (t.Kind == 2) then (bif (decide (t.Size < 1)) then true else (decide (t.Size > 32))) else false)) then true else (decide (((t.Of).length:Int) > 32)))=true then
  some false
 else
  B7 t 0
 partial_fixpoint
def B7 (t:C0)(i:Int):Option Bool:=
 if (decide (i < ((t.Of).length:Int)))=true then
  idx t.Of i>>=fun x3=>
  L5 x3>>=fun x4=>
  if (!x4)=true then
   some false
  else
   B7 t (IntKind.i64.wrap (i+1))
 else
  some true
 partial_fixpoint
end
abbrev Gk (t:C0)(res:Bool):Prop:=N0 C 82 [.agg (C0.cells t)] [] (Ret [] (.d (.bool res)))
abbrev Dr (t:C0)(i:Int)(res:Bool):Prop:=LM C 61 0 Tryz.f82 [1,1,0,1,4] [(1,.ref 0 0),(3,.d (.int .i64 i))] [.row (C0.cells t) 36] (Ret [] (.d (.bool res)))
theorem Ps:(∀ t res,L5 t=some res→Gk t res)∧(∀ t i res,B7 t i=some res→Dr t i res):=by
 refine L5.mutual_partial_correctness _ _ ?_ ?_
 ·intro g1 ih1 t res hh
  obtain ⟨x1,hx1,hh⟩:=bs' hh
  obtain ⟨x2,hx2,hh⟩:=bs' hh
  refine N0.intro hC Tryz.func82 rfl rfl rfl (s' rfl rfl (E0.n hC rfl (e' rfl (S' (sg' 43 rfl (G' 5 rfl (a1' rfl (AG.c rfl rfl (fun hg=>⟨hg,trivial⟩) (fun hw=>Mq (C4 hw hx1)) (a1' rfl (a1' rfl (a0' rfl (a1' rfl (AG.c rfl rfl (fun hg=>⟨hg,trivial⟩) (fun hw=>Mq (C4 hw hx2)) ?_)))))))))))))
  refine a1' rfl (pO' rfl (a1' rfl (a0' rfl (a1' rfl (a0' rfl (a1' rfl (a2' rfl (pO' rfl (pa' rfl (G' 2 rfl (a1' rfl (a1' rfl (a1' rfl ?_)))))))))))))
  refine a0' rfl (a1' rfl (a1' rfl (a1' rfl (a0' rfl (a1' rfl (a1' rfl (pO' rfl (pA' rfl (po' rfl (G' 2 rfl (a1' rfl (AG.qe hC rfl (fun hg=>⟨⟨hg,trivial⟩,trivial⟩) (C0.lenA _) (a1' rfl ?_)))))))))))))
  refine po' rfl (an' (n' (ci' rfl hh (fun hh=>?_) (fun hh=>?_))))
  ·cases hh
   exact t' rfl (re' (rt' rfl rfl rfl))
  exact sk' (S' (t' rfl (bk' (fw' (ih1 _ _ _ hh) rfl rfl rfl))))
 ·intro g0 g1 ih0 ih1 t i res hh
  refine T0.unroll (S' (p' 3 rfl (qe' rfl trivial (C0.lenA _) (e' rfl (ci' rfl hh (fun hh=>?_) (fun hh=>?_))))))
  ·obtain ⟨x3,hx3,hh⟩:=bs' hh
   obtain ⟨x4,hx4,hh⟩:=bs' hh
   refine sk' (S' (bk' (p' 3 rfl (i' rfl (I1 hx3) (C0.idx hx3) rfl (q' rfl (c' (ih0 _ _ hx4) rfl rfl (e' rfl (ci' rfl hh (fun hh=>?_) (fun hh=>?_)))))))))
   ·cases hh
    exact t' rfl (re' (rt' rfl rfl rfl))
   exact sk' (T' rfl (lw' (ih1 _ _ _ hh) rfl rfl rfl))
  cases hh
  exact ex' (t' rfl (re' (rt' rfl rfl rfl)))
theorem Gu {t res}(hh:L5 t=some res):Gk t res:=(Ps).1 _ _ hh
def Xa (t:C0):Option Int:=
 Hg (J1.mk 0 0) t true>>=fun x1=>
 R8 t>>=fun x2=>
 P7 t>>=fun x3=>
 L5 t>>=fun x4=>
 Bd x1 x2 x3 x4>>=fun x5=>
 some x5
theorem Jx {t res}(hh:Xa t=some res):N0 C 39 [.agg (C0.cells t)] [] (Ret [] (.d (.int .i64 res))):=by
 unfold Xa at hh
 obtain ⟨x1,hx1,hh⟩:=bs' hh
 obtain ⟨x2,hx2,hh⟩:=bs' hh
 obtain ⟨x3,hx3,hh⟩:=bs' hh
 obtain ⟨x4,hx4,hh⟩:=bs' hh
 obtain ⟨x5,hx5,hh⟩:=bs' hh
 cases hh
 refine N0.intro hC Tryz.func39 rfl rfl rfl (s' rfl rfl (E0.n hC rfl (e' rfl (S' (AEx.draw hC 11 rfl rfl rfl (O' 2 rfl (Qc' (Q10 hx1) rfl rfl (Q' rfl (Qc' (Kz hx2) rfl rfl (Q' rfl (Qc' (Ix hx3) rfl rfl (Q' rfl (Qc' (Gu hx4) rfl rfl ?_)))))))))))))
 exact Qc' (Vo hx5) rfl rfl (E' rfl (n' (re' (rt' rfl rfl rfl))))
def Nq (text:Str):Option (C0×Int×Int):=
 Jq text>>=fun x1=>
 if (x1.2.2 != 0)=true then
  some ((C0.mk 0 0 0 0 [] [] []),x1.2.1,x1.2.2)
 else
  L7 x1.1 0>>=fun x2=>
  if (bif (!x2.2.2) then true else (decide (x2.2.1 < ((x1.1).length:Int))))=true then
   Oj text x1.1 x2.2.1>>=fun x3=>
   some ((C0.mk 0 0 0 0 [] [] []),x3,6)
  else
   Xa x2.1>>=fun x4=>
   if (x4 != 0)=true then
    some ((C0.mk 0 0 0 0 [] [] []),0,x4)
   else
    some (x2.1,0,0)
mutual
def T8 (e:A0)(left:Int):Option Int:=
 L9 e (IntKind.i64.wrap ((IntKind.i64.wrap (left - 1)) - (IntKind.i64.wrap (Int.tdiv ((e.Name).length:Int) 16)))) 0
 partial_fixpoint
def L9 (e:A0)(left1:Int)(i:Int):Option Int:=
 if (bif (decide (i < ((e.Kids).length:Int))) then (decide (left1≥0)) else false)=true then
  idx e.Kids i>>=fun x1=>
  T8 x1 left1>>=fun x2=>
  L9 e x2 (IntKind.i64.wrap (i+1))
 else
  some left1
 partial_fixpoint
end
abbrev Yo (e:A0)(left:Int)(res:Int):Prop:=N0 C 40 [.agg (A0.cells e),.d (.int .i64 left)] [] (Ret [] (.d (.int .i64 res)))
abbrev Qv (e:A0)(left1:Int)(i:Int)(res:Int):Prop:=LM C 32 0 Tryz.f40 [1,1,0,1,4] [(1,.d (.int .i64 left1)),(2,.ref 0 0),(5,.d (.int .i64 i))] [.row (A0.cells e) 26] (Ret [] (.d (.int .i64 res)))
theorem Kx:(∀ e left res,T8 e left=some res→Yo e left res)∧(∀ e left1 i res,L9 e left1 i=some res→Qv e left1 i res):=by
 refine T8.mutual_partial_correctness _ _ ?_ ?_
 ·intro g1 ih1 e left res hh
  exact N0.intro hC Tryz.func40 rfl rfl rfl (s' rfl rfl (E0.n hC rfl (e' rfl (p' 5 rfl (qc' rfl (by decide) (e' rfl (S' (t' rfl (bk' (fw' (ih1 _ _ _ _ hh) rfl rfl rfl))))))))))
 ·intro g0 g1 ih0 ih1 e left1 i res hh
  refine T0.unroll (S' (sg' 9 rfl (G' 3 rfl (AG.qe hC rfl (fun hg=>⟨trivial,trivial⟩) (A0.lenA _) (G' 3 rfl (a1' rfl (pa' rfl (an' (n' (ci' rfl hh (fun hh=>?_) (fun hh=>?_)))))))))))
  ·obtain ⟨x1,hx1,hh⟩:=bs' hh
   obtain ⟨x2,hx2,hh⟩:=bs' hh
   exact sk' (S' (bk' (P' 3 rfl (i' rfl (I1 hx1) (A0.idx hx1) rfl (o' 2 rfl (c' (ih0 _ _ _ hx2) rfl rfl (e' rfl (T' rfl (lw' (ih1 _ _ _ _ hh) rfl rfl rfl)))))))))
  cases hh
  exact ex' (t' rfl (re' (rt' rfl rfl rfl)))
theorem Lz {e left res}(hh:T8 e left=some res):Yo e left res:=(Kx).1 _ _ _ hh
def Ig (e:A0)(most:Int):Option Bool:=
 T8 e most>>=fun x1=>
 some (decide (x1≥0))
theorem R10 {e most res}(hh:Ig e most=some res):N0 C 17 [.agg (A0.cells e),.d (.int .i64 most)] [] (Ret [] (.d (.bool res))):=by
 unfold Ig at hh
 obtain ⟨x1,hx1,hh⟩:=bs' hh
 cases hh
 exact N0.intro hC Tryz.func17 rfl rfl rfl (s' rfl rfl (E0.n hC rfl (e' rfl (p' 2 rfl (c' (Lz hx1) rfl rfl (e' rfl (re' (rt' rfl rfl rfl))))))))
def W4 (n:Int):Option Str:=
 if (decide (n < 0))=true then
  W4 (IntKind.i64.wrap (0 - n))>>=fun x1=>
  if (decide (1+x1.length≤maxLen))=true then
   some ([45]++x1)
  else none
 else
  if (decide (n < 10))=true then
   some (Ng [(IntKind.u8.wrap (IntKind.i64.wrap (48+(Int.tmod n 10))))])
  else
   W4 (IntKind.i64.wrap (Int.tdiv n 10))>>=fun x2=>
   if (decide (x2.length+(Ng [(IntKind.u8.wrap (IntKind.i64.wrap (48+(Int.tmod n 10))))]).length≤maxLen))=true then
    some (x2++(Ng [(IntKind.u8.wrap (IntKind.i64.wrap (48+(Int.tmod n 10))))]))
   else none
 partial_fixpoint
abbrev Qs (n:Int)(res:Str):Prop:=N0 C 83 [.d (.int .i64 n)] [] (Ret [] (.d (.str res)))
theorem S10:(∀ n res,W4 n=some res→Qs n res):=by
 refine W4.partial_correctness _ ?_
 ·intro g0 ih0 n res hh
  refine N0.intro hC Tryz.func83 rfl rfl rfl (t' rfl (S' (t' rfl (ci' rfl hh (fun hh=>?_) (fun hh=>?_)))))
  ·obtain ⟨x1,hx1,hh⟩:=bs' hh
   obtain ⟨c5,hh⟩:=R1 hh
   cases hh
   exact p' 2 rfl (c' (ih0 _ _ hx1) rfl rfl (qc' rfl c5 (e' rfl (re' (rt' rfl rfl rfl)))))
  refine sk' (p' 1 rfl (qc' rfl (by decide) (o' 2 rfl (E0.be hC rfl (eu8.rows_map [(IntKind.u8.wrap (IntKind.i64.wrap (48+(Int.tmod n 10))))]).symm (E0.cs hC rfl (xs:=[(IntKind.u8.wrap (IntKind.i64.wrap (48+(Int.tmod n 10))))]) rfl (e' rfl (S' (t' rfl (ci' rfl hh (fun hh=>?_) (fun hh=>?_))))))))))
  ·cases hh
   exact t' rfl (re' (rt' rfl rfl rfl))
  obtain ⟨x2,hx2,hh⟩:=bs' hh
  obtain ⟨c6,hh⟩:=R1 hh
  cases hh
  exact sk' (p' 1 rfl (qc' rfl (by decide) (c' (ih0 _ _ hx2) rfl rfl (q' rfl (qc' rfl c6 (e' rfl (re' (rt' rfl rfl rfl))))))))
theorem Wg {n res}(hh:W4 n=some res):Qs n res:=(S10) _ _ hh
def Pg (o:Int):Option Int:=
 if (o == 23)=true then
  some 0
 else
  if (o == 20)=true then
   some 1
  else
   if (o == 19)=true then
    some 2
   else
    if (bif (decide (o≥13)) then (decide (o≤18)) else false)=true then
     some 3
    else
     if (bif (o == 8) then true else (o == 9))=true then
      some 4
     else
      if (bif (bif (o == 10) then true else (o == 11)) then true else (o == 12))=true then
       some 5
      else
       if (bif (o == 6) then true else (o == 7))=true then
        some 6
       else
        some 7
theorem Rs {o res}(hh:Pg o=some res):N0 C 85 [.d (.int .i64 o)] [] (Ret [] (.d (.int .i64 res))):=by
 unfold Pg at hh
 refine N0.intro hC Tryz.func85 rfl rfl rfl (t' rfl (S' (t' rfl (ci' rfl hh (fun hh=>?_) (fun hh=>?_)))))
 ·cases hh
  exact t' rfl (re' (rt' rfl rfl rfl))
 refine sk' (S' (t' rfl (ci' rfl hh (fun hh=>?_) (fun hh=>?_))))
 ·cases hh
  exact t' rfl (re' (rt' rfl rfl rfl))
 refine sk' (S' (t' rfl (ci' rfl hh (fun hh=>?_) (fun hh=>?_))))
 ·cases hh
  exact t' rfl (re' (rt' rfl rfl rfl))
 refine sk' (S' (sg' 6 rfl (G' 4 rfl (a1' rfl (pa' rfl (an' (n' (ci' rfl hh (fun hh=>?_) (fun hh=>?_)))))))))
 ·cases hh
  exact t' rfl (re' (rt' rfl rfl rfl))
 refine sk' (S' (sg' 6 rfl (G' 4 rfl (a1' rfl (po' rfl (an' (n' (ci' rfl hh (fun hh=>?_) (fun hh=>?_)))))))))
 ·cases hh
  exact t' rfl (re' (rt' rfl rfl rfl))
 refine sk' (S' (sg' 10 rfl (G' 4 rfl (a1' rfl (po' rfl (G' 2 rfl (a1' rfl (po' rfl (an' (n' (ci' rfl hh (fun hh=>?_) (fun hh=>?_))))))))))))
 ·cases hh
  exact t' rfl (re' (rt' rfl rfl rfl))
 refine sk' (S' (sg' 6 rfl (G' 4 rfl (a1' rfl (po' rfl (an' (n' (ci' rfl hh (fun hh=>?_) (fun hh=>?_)))))))))
 ·cases hh
  exact t' rfl (re' (rt' rfl rfl rfl))
 cases hh
 exact sk' (t' rfl (re' (rt' rfl rfl rfl)))
def Yn (o:Int):Option Str:=
 idx [[43],[45],[42],[47],[37],[61,61],[33,61],[60],[60,61],[62],[62,61],[38,38],[124,124]] (IntKind.i64.wrap (o - 8))>>=fun x1=>
 some x1
theorem U15 {o res}(hh:Yn o=some res):N0 C 86 [.d (.int .i64 o)] [] (Ret [] (.d (.str res))):=by
 unfold Yn at hh
 obtain ⟨x1,hx1,hh⟩:=bs' hh
 cases hh
 exact N0.intro hC Tryz.func86 rfl rfl rfl (t' rfl (s' rfl rfl (E0.be hC rfl (estr.rows_map [[43],[45],[42],[47],[37],[61,61],[33,61],[60],[60,61],[62],[62,61],[38,38],[124,124]]).symm (e' rfl (p' 3 rfl (i' rfl (I1 hx1) (estr.idx hx1) rfl (e' rfl (re' (rt' rfl rfl rfl)))))))))
mutual
def T1 (e:A0):Option Str:=
 if (e.Op == 0)=true then
  W4 e.NV>>=fun x1=>
  some x1
 else
  if (e.Op == 1)=true then
   some [116,114,117,101]
  else
   if (e.Op == 2)=true then
    some [102,97,108,115,101]
   else
    if (e.Op == 3)=true then
     some e.Name
    else
     if (e.Op == 4)=true then
      idx e.Kids 0>>=fun x2=>
      T1 x2>>=fun x11=>
      if (decide (x11.length+1≤maxLen))=true then
       if (decide ((x11++[46]).length+e.Name.length≤maxLen))=true then
        some ((x11++[46])++e.Name)
       else none
      else none
     else
      if (e.Op == 5)=true then
       idx e.Kids 0>>=fun x3=>
       T1 x3>>=fun x12=>
       if (decide (x12.length+1≤maxLen))=true then
        idx e.Kids 1>>=fun x13=>
        T1 x13>>=fun x14=>
        if (decide ((x12++[91]).length+x14.length≤maxLen))=true then
         if (decide (((x12++[91])++x14).length+1≤maxLen))=true then
          some (((x12++[91])++x14)++[93])
         else none
        else none
       else none
      else
       if (e.Op == 6)=true then
        idx e.Kids 0>>=fun x4=>
        Af x4 6>>=fun x21=>
        if (decide (1+x21.length≤maxLen))=true then
         some ([45]++x21)
        else none
       else
        if (e.Op == 7)=true then
         idx e.Kids 0>>=fun x5=>
         Af x5 6>>=fun x22=>
         if (decide (1+x22.length≤maxLen))=true then
          some ([33]++x22)
         else none
        else
         if (e.Op == 21)=true then
          idx e.Kids 0>>=fun x6=>
          T1 x6>>=fun x15=>
          if (decide (4+x15.length≤maxLen))=true then
           if (decide (([109,105,110,40]++x15).length+2≤maxLen))=true then
            idx e.Kids 1>>=fun x16=>
            T1 x16>>=fun x17=>
            if (decide ((([109,105,110,40]++x15)++[44,32]).length+x17.length≤maxLen))=true then
             if (decide (((([109,105,110,40]++x15)++[44,32])++x17).length+1≤maxLen))=true then
              some (((([109,105,110,40]++x15)++[44,32])++x17)++[41])
             else none
            else none
           else none
          else none
         else
          if (e.Op == 22)=true then
           idx e.Kids 0>>=fun x7=>
           T1 x7>>=fun x18=>
           if (decide (4+x18.length≤maxLen))=true then
            if (decide (([109,97,120,40]++x18).length+2≤maxLen))=true then
             idx e.Kids 1>>=fun x19=>
             T1 x19>>=fun x20=>
             if (decide ((([109,97,120,40]++x18)++[44,32]).length+x20.length≤maxLen))=true then
              if (decide (((([109,97,120,40]++x18)++[44,32])++x20).length+1≤maxLen))=true then
               some (((([109,97,120,40]++x18)++[44,32])++x20)++[41])
              else none
             else none
            else none
           else none
          else
           if (e.Op == 23)=true then
            idx e.Kids 0>>=fun x8=>
            Af x8 1>>=fun x23=>
            if (decide (x23.length+3≤maxLen))=true then
             idx e.Kids 1>>=fun x24=>
             T1 x24>>=fun x25=>
             if (decide ((x23++[32,63,32]).length+x25.length≤maxLen))=true then
              if (decide (((x23++[32,63,32])++x25).length+3≤maxLen))=true then
               idx e.Kids 2>>=fun x26=>
               T1 x26>>=fun x27=>
               if (decide ((((x23++[32,63,32])++x25)++[32,58,32]).length+x27.length≤maxLen))=true then
                some ((((x23++[32,63,32])++x25)++[32,58,32])++x27)
               else none
              else none
             else none
            else none
           else
            Pg e.Op>>=fun x9=>
            if (x9 == 3)=true then
             Cb e x9 4
            else
             Cb e x9 x9
 partial_fixpoint
def Cb (e:A0)(x9:Int)(left:Int):Option Str:=
 idx e.Kids 0>>=fun x10=>
 Af x10 left>>=fun x28=>
 if (decide (x28.length+1≤maxLen))=true then
  Yn e.Op>>=fun x29=>
  if (decide ((x28++[32]).length+x29.length≤maxLen))=true then
   if (decide (((x28++[32])++x29).length+1≤maxLen))=true then
    idx e.Kids 1>>=fun x30=>
    Af x30 (IntKind.i64.wrap (x9+1))>>=fun x31=>
    if (decide ((((x28++[32])++x29)++[32]).length+x31.length≤maxLen))=true then
     some ((((x28++[32])++x29)++[32])++x31)
    else none
   else none
  else none
 else none
 partial_fixpoint
def Af (e:A0)(required:Int):Option Str:=
 Pg e.Op>>=fun x1=>
 if (decide (x1 < required))=true then
  T1 e>>=fun x2=>
  if (decide (1+x2.length≤maxLen))=true then
   if (decide (([40]++x2).length+1≤maxLen))=true then
    some (([40]++x2)++[41])
   else none
  else none
 else
  T1 e>>=fun x3=>
  some x3
 partial_fixpoint
end
abbrev Zo (e:A0)(res:Str):Prop:=N0 C 42 [.agg (A0.cells e)] [] (Ret [] (.d (.str res)))
abbrev Rv (e:A0)(x9:Int)(left:Int)(res:Str):Prop:=JM C 140 0 Tryz.f42 [1,1,1,1,1,1,1,1,1,1,1,1,1,1,1,1] [(1,.ref 0 0),(3,.d (.int .i64 e.Op)),(4,.d (.int .i64 x9)),(5,.d (.int .i64 left))] [.row (A0.cells e) 26] (Ret [] (.d (.str res)))
abbrev J19 (e:A0)(required:Int)(res:Str):Prop:=N0 C 84 [.agg (A0.cells e),.d (.int .i64 required)] [] (Ret [] (.d (.str res)))
theorem Lx:(∀ e res,T1 e=some res→Zo e res)∧(∀ e x9 left res,Cb e x9 left=some res→Rv e x9 left res)∧(∀ e required res,Af e required=some res→J19 e required res):=by
 refine T1.mutual_partial_correctness _ _ _ ?_ ?_ ?_
 ·intro g0 g1 g2 ih0 ih1 ih2 e res hh
  refine N0.intro hC Tryz.func42 rfl rfl rfl (s' rfl rfl (E0.n hC rfl (e' rfl (t' rfl (S' (t' rfl (ci' rfl hh (fun hh=>?_) (fun hh=>?_))))))))
  ·obtain ⟨x1,hx1,hh⟩:=bs' hh
   cases hh
   exact p' 2 rfl (c' (Wg hx1) rfl rfl (e' rfl (re' (rt' rfl rfl rfl))))
  refine sk' (S' (t' rfl (ci' rfl hh (fun hh=>?_) (fun hh=>?_))))
  ·cases hh
   exact t' rfl (re' (rt' rfl rfl rfl))
  refine sk' (S' (t' rfl (ci' rfl hh (fun hh=>?_) (fun hh=>?_))))
  ·cases hh
   exact t' rfl (re' (rt' rfl rfl rfl))
  refine sk' (S' (t' rfl (ci' rfl hh (fun hh=>?_) (fun hh=>?_))))
  ·cases hh
   exact t' rfl (re' (rt' rfl rfl rfl))
  refine sk' (S' (t' rfl (ci' rfl hh (fun hh=>?_) (fun hh=>?_))))
  ·obtain ⟨x2,hx2,hh⟩:=bs' hh
   obtain ⟨x11,hx11,hh⟩:=bs' hh
   obtain ⟨c37,hh⟩:=R1 hh
   obtain ⟨c38,hh⟩:=R1 hh
   cases hh
   exact S' (AEx.draw hC 10 rfl rfl rfl (O' 2 rfl (AQ.i hC rfl (I1 hx2) (A0.idx hx2) rfl (Q' rfl (Qc' (ih0 _ _ hx11) rfl rfl (AQ.q hC rfl c37 (O' 2 rfl (AQ.q hC rfl c38 (E' rfl (n' (re' (rt' rfl rfl rfl))))))))))))
  refine sk' (S' (t' rfl (ci' rfl hh (fun hh=>?_) (fun hh=>?_))))
  ·obtain ⟨x3,hx3,hh⟩:=bs' hh
   obtain ⟨x12,hx12,hh⟩:=bs' hh
   obtain ⟨c39,hh⟩:=R1 hh
   obtain ⟨x13,hx13,hh⟩:=bs' hh
   obtain ⟨x14,hx14,hh⟩:=bs' hh
   obtain ⟨c40,hh⟩:=R1 hh
   obtain ⟨c41,hh⟩:=R1 hh
   cases hh
   refine S' (AEx.draw hC 14 rfl rfl rfl (O' 2 rfl (AQ.i hC rfl (I1 hx3) (A0.idx hx3) rfl (Q' rfl (Qc' (ih0 _ _ hx12) rfl rfl (AQ.q hC rfl c39 (O' 2 rfl (AQ.i hC rfl (I1 hx13) (A0.idx hx13) rfl (Q' rfl (Qc' (ih0 _ _ hx14) rfl rfl (AQ.q hC rfl c40 (AQ.q hC rfl c41 (E' rfl ?_)))))))))))))
   exact n' (re' (rt' rfl rfl rfl))
  refine sk' (S' (t' rfl (ci' rfl hh (fun hh=>?_) (fun hh=>?_))))
  ·obtain ⟨x4,hx4,hh⟩:=bs' hh
   obtain ⟨x21,hx21,hh⟩:=bs' hh
   obtain ⟨c42,hh⟩:=R1 hh
   cases hh
   exact p' 2 rfl (i' rfl (I1 hx4) (A0.idx hx4) rfl (q' rfl (c' (ih2 _ _ _ hx21) rfl rfl (qc' rfl c42 (e' rfl (re' (rt' rfl rfl rfl)))))))
  refine sk' (S' (t' rfl (ci' rfl hh (fun hh=>?_) (fun hh=>?_))))
  ·obtain ⟨x5,hx5,hh⟩:=bs' hh
   obtain ⟨x22,hx22,hh⟩:=bs' hh
   obtain ⟨c43,hh⟩:=R1 hh
   cases hh
   exact p' 2 rfl (i' rfl (I1 hx5) (A0.idx hx5) rfl (q' rfl (c' (ih2 _ _ _ hx22) rfl rfl (qc' rfl c43 (e' rfl (re' (rt' rfl rfl rfl)))))))
  refine sk' (S' (t' rfl (ci' rfl hh (fun hh=>?_) (fun hh=>?_))))
  ·obtain ⟨x6,hx6,hh⟩:=bs' hh
   obtain ⟨x15,hx15,hh⟩:=bs' hh
   obtain ⟨c44,hh⟩:=R1 hh
   obtain ⟨c45,hh⟩:=R1 hh
   obtain ⟨x16,hx16,hh⟩:=bs' hh
   obtain ⟨x17,hx17,hh⟩:=bs' hh
   obtain ⟨c46,hh⟩:=R1 hh
   obtain ⟨c47,hh⟩:=R1 hh
   cases hh
   refine S' (AEx.draw hC 15 rfl rfl rfl (O' 2 rfl (AQ.i hC rfl (I1 hx6) (A0.idx hx6) rfl (Q' rfl (Qc' (ih0 _ _ hx15) rfl rfl (AQ.q hC rfl c44 (AQ.q hC rfl c45 (O' 2 rfl (AQ.i hC rfl (I1 hx16) (A0.idx hx16) rfl (Q' rfl (Qc' (ih0 _ _ hx17) rfl rfl (AQ.q hC rfl c46 (AQ.q hC rfl c47 ?_)))))))))))))
   exact E' rfl (n' (re' (rt' rfl rfl rfl)))
  refine sk' (S' (t' rfl (ci' rfl hh (fun hh=>?_) (fun hh=>?_))))
  ·obtain ⟨x7,hx7,hh⟩:=bs' hh
   obtain ⟨x18,hx18,hh⟩:=bs' hh
   obtain ⟨c48,hh⟩:=R1 hh
   obtain ⟨c49,hh⟩:=R1 hh
   obtain ⟨x19,hx19,hh⟩:=bs' hh
   obtain ⟨x20,hx20,hh⟩:=bs' hh
   obtain ⟨c50,hh⟩:=R1 hh
   obtain ⟨c51,hh⟩:=R1 hh
   cases hh
   refine S' (AEx.draw hC 15 rfl rfl rfl (O' 2 rfl (AQ.i hC rfl (I1 hx7) (A0.idx hx7) rfl (Q' rfl (Qc' (ih0 _ _ hx18) rfl rfl (AQ.q hC rfl c48 (AQ.q hC rfl c49 (O' 2 rfl (AQ.i hC rfl (I1 hx19) (A0.idx hx19) rfl (Q' rfl (Qc' (ih0 _ _ hx20) rfl rfl (AQ.q hC rfl c50 (AQ.q hC rfl c51 ?_)))))))))))))
   exact E' rfl (n' (re' (rt' rfl rfl rfl)))
  refine sk' (S' (t' rfl (ci' rfl hh (fun hh=>?_) (fun hh=>?_))))
  ·obtain ⟨x8,hx8,hh⟩:=bs' hh
   obtain ⟨x23,hx23,hh⟩:=bs' hh
   obtain ⟨c52,hh⟩:=R1 hh
   obtain ⟨x24,hx24,hh⟩:=bs' hh
   obtain ⟨x25,hx25,hh⟩:=bs' hh
   obtain ⟨c53,hh⟩:=R1 hh
   obtain ⟨c54,hh⟩:=R1 hh
   obtain ⟨x26,hx26,hh⟩:=bs' hh
   obtain ⟨x27,hx27,hh⟩:=bs' hh
   obtain ⟨c55,hh⟩:=R1 hh
   cases hh
   refine S' (AEx.draw hC 20 rfl rfl rfl (O' 2 rfl (AQ.i hC rfl (I1 hx8) (A0.idx hx8) rfl (Q' rfl (Qc' (ih2 _ _ _ hx23) rfl rfl (AQ.q hC rfl c52 (O' 2 rfl (AQ.i hC rfl (I1 hx24) (A0.idx hx24) rfl (Q' rfl (Qc' (ih0 _ _ hx25) rfl rfl (AQ.q hC rfl c53 (AQ.q hC rfl c54 (O' 2 rfl ?_)))))))))))))
   exact AQ.i hC rfl (I1 hx26) (A0.idx hx26) rfl (Q' rfl (Qc' (ih0 _ _ hx27) rfl rfl (AQ.q hC rfl c55 (E' rfl (n' (re' (rt' rfl rfl rfl)))))))
  obtain ⟨x9,hx9,hh⟩:=bs' hh
  refine sk' (p' 1 rfl (c' (Rs hx9) rfl rfl (e' rfl (t' rfl (S' (t' rfl (ci' rfl hh (fun hh=>?_) (fun hh=>?_))))))))
  ·exact T' rfl (ew' (ih1 _ _ _ _ hh) rfl rfl rfl)
  exact sk' (ew' (ih1 _ _ _ _ hh) rfl rfl rfl)
 ·intro g2 ih2 e x9 left res hh
  obtain ⟨x10,hx10,hh⟩:=bs' hh
  obtain ⟨x28,hx28,hh⟩:=bs' hh
  obtain ⟨c56,hh⟩:=R1 hh
  obtain ⟨x29,hx29,hh⟩:=bs' hh
  obtain ⟨c57,hh⟩:=R1 hh
  obtain ⟨c58,hh⟩:=R1 hh
  obtain ⟨x30,hx30,hh⟩:=bs' hh
  obtain ⟨x31,hx31,hh⟩:=bs' hh
  obtain ⟨c59,hh⟩:=R1 hh
  cases hh
  refine S' (AEx.draw hC 20 rfl rfl rfl (O' 2 rfl (AQ.i hC rfl (I1 hx10) (A0.idx hx10) rfl (O' 2 rfl (Qc' (ih2 _ _ _ hx28) rfl rfl (AQ.q hC rfl c56 (Q' rfl (Qc' (U15 hx29) rfl rfl (AQ.q hC rfl c57 (AQ.q hC rfl c58 (O' 2 rfl (AQ.i hC rfl (I1 hx30) (A0.idx hx30) rfl (O' 3 rfl ?_)))))))))))))
  exact Qc' (ih2 _ _ _ hx31) rfl rfl (AQ.q hC rfl c59 (E' rfl (n' (re' (rt' rfl rfl rfl)))))
 ·intro g0 ih0 e required res hh
  obtain ⟨x1,hx1,hh⟩:=bs' hh
  refine N0.intro hC Tryz.func84 rfl rfl rfl (s' rfl rfl (E0.n hC rfl (e' rfl (S' (p' 2 rfl (c' (Rs hx1) rfl rfl (e' rfl (ci' rfl hh (fun hh=>?_) (fun hh=>?_)))))))))
  ·obtain ⟨x2,hx2,hh⟩:=bs' hh
   obtain ⟨c5,hh⟩:=R1 hh
   obtain ⟨c6,hh⟩:=R1 hh
   cases hh
   exact p' 1 rfl (c' (ih0 _ _ hx2) rfl rfl (qc' rfl c5 (qc' rfl c6 (e' rfl (re' (rt' rfl rfl rfl))))))
  obtain ⟨x3,hx3,hh⟩:=bs' hh
  cases hh
  exact sk' (p' 1 rfl (c' (ih0 _ _ hx3) rfl rfl (e' rfl (re' (rt' rfl rfl rfl)))))
theorem Mz {e res}(hh:T1 e=some res):Zo e res:=(Lx).1 _ _ hh
def Qg (s:Str):Option (Str×Int):=
 if (decide (((s).length:Int) > 8192))=true then
  some ([],5)
 else
  some (s,0)
theorem Ss {s res}(hh:Qg s=some res):N0 C 41 [.d (.str s)] [] (Ret [] (.tup [.d (.str res.1),.d (.int .i64 res.2)])):=by
 unfold Qg at hh
 refine N0.intro hC Tryz.func41 rfl rfl rfl (t' rfl (S' (t' rfl (ci' rfl hh (fun hh=>?_) (fun hh=>?_)))))
 ·cases hh
  exact t' rfl (re' (rt' rfl rfl rfl))
 cases hh
 exact sk' (t' rfl (re' (rt' rfl rfl rfl)))
def Hd (x:A0):Option (Str×Int):=
 Wa x>>=fun x1=>
 if (x1 != 0)=true then
  some ([],x1)
 else
  T1 x>>=fun x2=>
  Qg x2>>=fun x3=>
  some (x3.1,x3.2)
theorem Mx {x res}(hh:Hd x=some res):N0 C 18 [.agg (A0.cells x)] [] (Ret [] (.tup [.d (.str res.1),.d (.int .i64 res.2)])):=by
 unfold Hd at hh
 obtain ⟨x1,hx1,hh⟩:=bs' hh
 refine N0.intro hC Tryz.func18 rfl rfl rfl (s' rfl rfl (E0.n hC rfl (e' rfl (p' 1 rfl (c' (Bx hx1) rfl rfl (e' rfl (S' (t' rfl (ci' rfl hh (fun hh=>?_) (fun hh=>?_))))))))))
 ·cases hh
  exact t' rfl (re' (rt' rfl rfl rfl))
 obtain ⟨x2,hx2,hh⟩:=bs' hh
 obtain ⟨x3,hx3,hh⟩:=bs' hh
 cases hh
 exact sk' (p' 1 rfl (c' (Mz hx2) rfl rfl (c' (Ss hx3) rfl rfl (e' rfl (re' (rt' rfl rfl rfl))))))
mutual
def C7 (t:C0)(left:Int):Option Int:=
 M9 t (IntKind.i64.wrap ((IntKind.i64.wrap (left - 1)) - (IntKind.i64.wrap (Int.tdiv ((t.Name).length:Int) 16)))) 0
 partial_fixpoint
def M9 (t:C0)(left1:Int)(i:Int):Option Int:=
 if (bif (decide (i < ((t.Names).length:Int))) then (decide (left1≥0)) else false)=true then
  idx t.Names i>>=fun x1=>
  M9 t (IntKind.i64.wrap ((IntKind.i64.wrap (left1 - 1)) - (IntKind.i64.wrap (Int.tdiv ((x1).length:Int) 16)))) (IntKind.i64.wrap (i+1))
 else
  N9 t left1 0
 partial_fixpoint
def N9 (t:C0)(left2:Int)(i1:Int):Option Int:=
 if (bif (decide (i1 < ((t.Of).length:Int))) then (decide (left2≥0)) else false)=true then
  idx t.Of i1>>=fun x2=>
  C7 x2 left2>>=fun x3=>
  N9 t x3 (IntKind.i64.wrap (i1+1))
 else
  some left2
 partial_fixpoint
end
abbrev Bp (t:C0)(left:Int)(res:Int):Prop:=N0 C 43 [.agg (C0.cells t),.d (.int .i64 left)] [] (Ret [] (.d (.int .i64 res)))
abbrev Sv (t:C0)(left1:Int)(i:Int)(res:Int):Prop:=LM C 54 0 Tryz.f43 [1,1,0,1,4] [(1,.d (.int .i64 left1)),(2,.ref 0 0),(5,.d (.int .i64 i))] [.row (C0.cells t) 36] (Ret [] (.d (.int .i64 res)))
abbrev Tv (t:C0)(left2:Int)(i1:Int)(res:Int):Prop:=LM C 54 0 Tryz.f43 [1,1,1,0,1,4] [(1,.d (.int .i64 left2)),(2,.ref 0 0),(6,.d (.int .i64 i1))] [.row (C0.cells t) 36] (Ret [] (.d (.int .i64 res)))
theorem Nx:(∀ t left res,C7 t left=some res→Bp t left res)∧(∀ t left1 i res,M9 t left1 i=some res→Sv t left1 i res)∧(∀ t left2 i1 res,N9 t left2 i1=some res→Tv t left2 i1 res):=by
 refine C7.mutual_partial_correctness _ _ _ ?_ ?_ ?_
 ·intro g1 ih1 t left res hh
  exact N0.intro hC Tryz.func43 rfl rfl rfl (s' rfl rfl (E0.n hC rfl (e' rfl (p' 5 rfl (qc' rfl (by decide) (e' rfl (S' (t' rfl (bk' (fw' (ih1 _ _ _ _ hh) rfl rfl rfl))))))))))
 ·intro g1 g2 ih1 ih2 t left1 i res hh
  refine T0.unroll (S' (sg' 9 rfl (G' 3 rfl (AG.qe hC rfl (fun hg=>⟨trivial,trivial⟩) (estr.lenA _) (G' 3 rfl (a1' rfl (pa' rfl (an' (n' (ci' rfl hh (fun hh=>?_) (fun hh=>?_)))))))))))
  ·obtain ⟨x1,hx1,hh⟩:=bs' hh
   exact sk' (S' (bk' (P' 5 rfl (i' rfl (I1 hx1) (estr.idx hx1) rfl (o' 2 rfl (qc' rfl (by decide) (e' rfl (T' rfl (lw' (ih1 _ _ _ _ hh) rfl rfl rfl)))))))))
  exact ex' (S' (t' rfl (bk' (fw' (ih2 _ _ _ _ hh) rfl rfl rfl))))
 ·intro g0 g2 ih0 ih2 t left2 i1 res hh
  refine T0.unroll (S' (sg' 9 rfl (G' 3 rfl (AG.qe hC rfl (fun hg=>⟨trivial,trivial⟩) (C0.lenA _) (G' 3 rfl (a1' rfl (pa' rfl (an' (n' (ci' rfl hh (fun hh=>?_) (fun hh=>?_)))))))))))
  ·obtain ⟨x2,hx2,hh⟩:=bs' hh
   obtain ⟨x3,hx3,hh⟩:=bs' hh
   exact sk' (S' (bk' (P' 3 rfl (i' rfl (I1 hx2) (C0.idx hx2) rfl (o' 2 rfl (c' (ih0 _ _ _ hx3) rfl rfl (e' rfl (T' rfl (lw' (ih2 _ _ _ _ hh) rfl rfl rfl)))))))))
  cases hh
  exact ex' (t' rfl (re' (rt' rfl rfl rfl)))
theorem Nz {t left res}(hh:C7 t left=some res):Bp t left res:=(Nx).1 _ _ _ hh
def Jg (t:C0)(most:Int):Option Bool:=
 C7 t most>>=fun x1=>
 some (decide (x1≥0))
theorem T10 {t most res}(hh:Jg t most=some res):N0 C 19 [.agg (C0.cells t),.d (.int .i64 most)] [] (Ret [] (.d (.bool res))):=by
 unfold Jg at hh
 obtain ⟨x1,hx1,hh⟩:=bs' hh
 cases hh
 exact N0.intro hC Tryz.func19 rfl rfl rfl (s' rfl rfl (E0.n hC rfl (e' rfl (p' 2 rfl (c' (Nz hx1) rfl rfl (e' rfl (re' (rt' rfl rfl rfl))))))))
mutual
def T3 (t:C0):Option Str:=
 if (t.Kind == 1)=true then
  W4 t.Low>>=fun x1=>
  if (decide (4+x1.length≤maxLen))=true then
   if (decide (([105,110,116,91]++x1).length+2≤maxLen))=true then
    W4 t.High>>=fun x2=>
    if (decide ((([105,110,116,91]++x1)++[46,46]).length+x2.length≤maxLen))=true then
     if (decide (((([105,110,116,91]++x1)++[46,46])++x2).length+1≤maxLen))=true then
      some (((([105,110,116,91]++x1)++[46,46])++x2)++[93])
     else none
    else none
   else none
  else none
 else
  if (t.Kind == 2)=true then
   W4 t.Size>>=fun x3=>
   if (decide (6+x3.length≤maxLen))=true then
    if (decide (([97,114,114,97,121,32]++x3).length+4≤maxLen))=true then
     idx t.Of 0>>=fun x4=>
     T3 x4>>=fun x7=>
     if (decide ((([97,114,114,97,121,32]++x3)++[32,111,102,32]).length+x7.length≤maxLen))=true then
      some ((([97,114,114,97,121,32]++x3)++[32,111,102,32])++x7)
     else none
    else none
   else none
  else
   if (t.Kind == 4)=true then
    some t.Name
   else
    if (t.Kind == 3)=true then
     O9 t [114,101,99,111,114,100,32,123] 0
    else
     some [98,111,111,108]
 partial_fixpoint
def O9 (t:C0)(s:Str)(i:Int):Option Str:=
 if (decide (i < ((t.Of).length:Int)))=true then
  if (decide (i > 0))=true then
   if (decide (s.length+2≤maxLen))=true then
    Db t (s++[44,32]) i
   else none
  else
   Db t s i
 else
  if (decide (s.length+1≤maxLen))=true then
   some (s++[125])
  else none
 partial_fixpoint
def Db (t:C0)(s1:Str)(i1:Int):Option Str:=
 idx t.Names i1>>=fun x5=>
 if (decide (s1.length+x5.length≤maxLen))=true then
  if (decide ((s1++x5).length+2≤maxLen))=true then
   idx t.Of i1>>=fun x6=>
   T3 x6>>=fun x8=>
   if (decide (((s1++x5)++[58,32]).length+x8.length≤maxLen))=true then
    O9 t (((s1++x5)++[58,32])++x8) (IntKind.i64.wrap (i1+1))
   else none
  else none
 else none
 partial_fixpoint
end
abbrev Cp (t:C0)(res:Str):Prop:=N0 C 44 [.agg (C0.cells t)] [] (Ret [] (.d (.str res)))
abbrev Uv (t:C0)(s:Str)(i:Int)(res:Str):Prop:=LM C 68 0 Tryz.f44 [1,1,1,1,0,1,2,1,0,1,4] [(1,.ref 0 0),(3,.d (.str s)),(4,.d (.int .i64 i))] [.row (C0.cells t) 36] (Ret [] (.d (.str res)))
abbrev Vv (t:C0)(s1:Str)(i1:Int)(res:Str):Prop:=JM C 68 0 Tryz.f44 [1,1,1,1,0,1,2,1,0,1,4,5,1,0,4,1] [(1,.ref 0 0),(3,.d (.str s1)),(4,.d (.int .i64 i1))] [.row (C0.cells t) 36] (Ret [] (.d (.str res)))
theorem Ox:(∀ t res,T3 t=some res→Cp t res)∧(∀ t s i res,O9 t s i=some res→Uv t s i res)∧(∀ t s1 i1 res,Db t s1 i1=some res→Vv t s1 i1 res):=by
 refine T3.mutual_partial_correctness _ _ _ ?_ ?_ ?_
 ·intro g0 g1 ih0 ih1 t res hh
  refine N0.intro hC Tryz.func44 rfl rfl rfl (s' rfl rfl (E0.n hC rfl (e' rfl (S' (t' rfl (ci' rfl hh (fun hh=>?_) (fun hh=>?_)))))))
  ·obtain ⟨x1,hx1,hh⟩:=bs' hh
   obtain ⟨c74,hh⟩:=R1 hh
   obtain ⟨c75,hh⟩:=R1 hh
   obtain ⟨x2,hx2,hh⟩:=bs' hh
   obtain ⟨c76,hh⟩:=R1 hh
   obtain ⟨c77,hh⟩:=R1 hh
   cases hh
   exact S' (AEx.draw hC 11 rfl rfl rfl (O' 2 rfl (Qc' (Wg hx1) rfl rfl (AQ.q hC rfl c74 (AQ.q hC rfl c75 (O' 2 rfl (Qc' (Wg hx2) rfl rfl (AQ.q hC rfl c76 (AQ.q hC rfl c77 (E' rfl (n' (re' (rt' rfl rfl rfl)))))))))))))
  refine sk' (S' (t' rfl (ci' rfl hh (fun hh=>?_) (fun hh=>?_))))
  ·obtain ⟨x3,hx3,hh⟩:=bs' hh
   obtain ⟨c78,hh⟩:=R1 hh
   obtain ⟨c79,hh⟩:=R1 hh
   obtain ⟨x4,hx4,hh⟩:=bs' hh
   obtain ⟨x7,hx7,hh⟩:=bs' hh
   obtain ⟨c80,hh⟩:=R1 hh
   cases hh
   exact S' (AEx.draw hC 12 rfl rfl rfl (O' 2 rfl (Qc' (Wg hx3) rfl rfl (AQ.q hC rfl c78 (AQ.q hC rfl c79 (O' 2 rfl (AQ.i hC rfl (I1 hx4) (C0.idx hx4) rfl (Q' rfl (Qc' (ih0 _ _ hx7) rfl rfl (AQ.q hC rfl c80 (E' rfl (n' (re' (rt' rfl rfl rfl))))))))))))))
  refine sk' (S' (t' rfl (ci' rfl hh (fun hh=>?_) (fun hh=>?_))))
  ·cases hh
   exact t' rfl (re' (rt' rfl rfl rfl))
  refine sk' (S' (t' rfl (ci' rfl hh (fun hh=>?_) (fun hh=>?_))))
  ·exact t' rfl (S' (t' rfl (bk' (fw' (ih1 _ _ _ _ hh) rfl rfl rfl))))
  cases hh
  exact sk' (t' rfl (re' (rt' rfl rfl rfl)))
 ·intro g2 ih2 t s i res hh
  refine T0.unroll (S' (p' 3 rfl (qe' rfl trivial (C0.lenA _) (e' rfl (ci' rfl hh (fun hh=>?_) (fun hh=>?_))))))
  ·refine sk' (S' (bk' (S' (t' rfl (ci' rfl hh (fun hh=>?_) (fun hh=>?_))))))
   ·obtain ⟨c81,hh⟩:=R1 hh
    exact P' 1 rfl (qc' rfl c81 (e' rfl (ew' (ih2 _ _ _ _ hh) rfl rfl rfl)))
   exact sk' (ew' (ih2 _ _ _ _ hh) rfl rfl rfl)
  obtain ⟨c82,hh⟩:=R1 hh
  cases hh
  exact ex' (p' 1 rfl (qc' rfl c82 (e' rfl (re' (rt' rfl rfl rfl)))))
 ·intro g0 g1 ih0 ih1 t s1 i1 res hh
  obtain ⟨x5,hx5,hh⟩:=bs' hh
  obtain ⟨c83,hh⟩:=R1 hh
  obtain ⟨c84,hh⟩:=R1 hh
  obtain ⟨x6,hx6,hh⟩:=bs' hh
  obtain ⟨x8,hx8,hh⟩:=bs' hh
  obtain ⟨c85,hh⟩:=R1 hh
  exact AEx.draw hC 16 rfl rfl rfl (O' 4 rfl (AQ.i hC rfl (I1 hx5) (estr.idx hx5) rfl (Q' rfl (AQ.q hC rfl c83 (AQ.q hC rfl c84 (O' 3 rfl (AQ.i hC rfl (I1 hx6) (C0.idx hx6) rfl (Q' rfl (Qc' (ih0 _ _ hx8) rfl rfl (AQ.q hC rfl c85 (E' rfl (n' (T' rfl (lw' (ih1 _ _ _ _ hh) rfl rfl rfl))))))))))))))
theorem Oz {t res}(hh:T3 t=some res):Cp t res:=(Ox).1 _ _ hh
end Go.Proofs.YtmnhfbekncjnfaaGreatDoor

set_option maxRecDepth 100000
set_option maxHeartbeats 4000000
set_option synthInstance.maxSize 20000
set_option linter.unusedVariables false
namespace Go.Proofs.YtmnhfbekncjnfaaGreatDoor
open Go.Am
def Id (t:C0):Option (Str×Int):=
 Xa t>>=fun x1=>
 if (x1 != 0)=true then
  some ([],x1)
 else
  T3 t>>=fun x2=>
  Qg x2>>=fun x3=>
  some (x3.1,x3.2)
theorem Px {t res}(hh:Id t=some res):N0 C 20 [.agg (C0.cells t)] [] (Ret [] (.tup [.d (.str res.1),.d (.int .i64 res.2)])):=by
 unfold Id at hh
 obtain ⟨x1,hx1,hh⟩:=bs' hh
 refine N0.intro hC Tryz.func20 rfl rfl rfl (s' rfl rfl (E0.n hC rfl (e' rfl (p' 1 rfl (c' (Jx hx1) rfl rfl (e' rfl (S' (t' rfl (ci' rfl hh (fun hh=>?_) (fun hh=>?_))))))))))
 ·cases hh
  exact t' rfl (re' (rt' rfl rfl rfl))
 obtain ⟨x2,hx2,hh⟩:=bs' hh
 obtain ⟨x3,hx3,hh⟩:=bs' hh
 cases hh
 exact sk' (p' 1 rfl (c' (Oz hx2) rfl rfl (c' (Ss hx3) rfl rfl (e' rfl (re' (rt' rfl rfl rfl))))))
def O4 (t:C0):Option Bool:=
 Jg t 400>>=fun x6=>
 if x6=true then
  Id t>>=fun x7=>
  G8 x7.1>>=fun x8=>
  (if ((x7.2 == 0)&&(!(x8.2.2 != 0)))=true then R5 t x8.1 else some default)>>=fun x9=>
  if (bif (x7.2 == 0) then (bif (x8.2.2 != 0) then true else (!x9)) else false)=true then
   some false
  else
   some true
 else
  some true
theorem Ke {t res}(hh:O4 t=some res):JM C 67 0 Tryz.f5 [1,1,1] [(3,.ref 1 0)] [.dead,.row (C0.cells t) 36] (Ret [] (.d (.bool res))):=by
 unfold O4 at hh
 obtain ⟨x6,hx6,hh⟩:=bs' hh
 refine S' (p' 1 rfl (c' (T10 hx6) rfl rfl (n' (ci' rfl hh (fun hh=>?_) (fun hh=>?_)))))
 ·obtain ⟨x7,hx7,hh⟩:=bs' hh
  obtain ⟨x8,hx8,hh⟩:=bs' hh
  obtain ⟨x9,hx9,hh⟩:=bs' hh
  refine p' 1 rfl (c' (Px hx7) rfl rfl (e' rfl (p' 1 rfl (c' (Kv hx8) rfl rfl (o' 4 rfl (E0.nf hC rfl (E0.s hC rfl (e' rfl (sg' 12 rfl (G' 4 rfl (a1' rfl (a1' rfl (G' 2 rfl ?_)))))))))))))
  refine AG.c rfl rfl (fun hg=>⟨hg,hg,trivial⟩) (fun hw=>Km (C4 hw hx9)) (a1' rfl (pO' rfl (pa' rfl (an' (n' (ci' rfl hh (fun hh=>?_) (fun hh=>?_)))))))
  ·cases hh
   exact t' rfl (re' (rt' rfl rfl rfl))
  cases hh
  exact sk' (t' rfl (re' (rt' rfl rfl rfl)))
 cases hh
 exact sk' (t' rfl (re' (rt' rfl rfl rfl)))
def Na (a:A0)(t:C0):Option Bool:=
 Ud>>=fun x1=>
 if (!x1)=true then
  some false
 else
  Ig a 400>>=fun x2=>
  if x2=true then
   Hd a>>=fun x3=>
   O3 x3.1>>=fun x4=>
   (if ((x3.2 == 0)&&(!(x4.2.2 != 0)))=true then M3 a x4.1 else some default)>>=fun x5=>
   if (bif (x3.2 == 0) then (bif (x4.2.2 != 0) then true else (!x5)) else false)=true then
    some false
   else
    O4 t
  else
   O4 t
theorem Zn {a t res}(hh:Na a t=some res):N0 C 5 [.agg (A0.cells a),.agg (C0.cells t)] [] (Ret [] (.d (.bool res))):=by
 unfold Na at hh
 obtain ⟨x1,hx1,hh⟩:=bs' hh
 refine N0.intro hC Tryz.func5 rfl rfl rfl (s' rfl rfl (E0.n hC rfl (E0.n hC rfl (e' rfl (S' (s' rfl rfl (c' (R13 hx1) rfl rfl (e' rfl (ci' rfl hh (fun hh=>?_) (fun hh=>?_))))))))))
 ·cases hh
  exact t' rfl (re' (rt' rfl rfl rfl))
 obtain ⟨x2,hx2,hh⟩:=bs' hh
 refine sk' (S' (p' 1 rfl (c' (R10 hx2) rfl rfl (n' (ci' rfl hh (fun hh=>?_) (fun hh=>?_))))))
 ·obtain ⟨x3,hx3,hh⟩:=bs' hh
  obtain ⟨x4,hx4,hh⟩:=bs' hh
  obtain ⟨x5,hx5,hh⟩:=bs' hh
  refine p' 1 rfl (c' (Mx hx3) rfl rfl (e' rfl (p' 1 rfl (c' (Sg hx4) rfl rfl (o' 4 rfl (E0.nf hC rfl (E0.s hC rfl (e' rfl (sg' 12 rfl (G' 4 rfl (a1' rfl (a1' rfl (G' 2 rfl ?_)))))))))))))
  refine AG.c rfl rfl (fun hg=>⟨hg,hg,trivial⟩) (fun hw=>Eh (C4 hw hx5)) (a1' rfl (pO' rfl (pa' rfl (an' (n' (ci' rfl hh (fun hh=>?_) (fun hh=>?_)))))))
  ·cases hh
   exact t' rfl (re' (rt' rfl rfl rfl))
  refine sk' ?_
  refine AEx.wk ?_ (Ke hh)
  exact ⟨⟨⟨.rfl,rfl⟩,trivial⟩,⟨trivial,⟨rfl,.refl _,rfl⟩,trivial⟩,rfl⟩
 refine sk' ?_
 refine AEx.wk ?_ (Ke hh)
 exact ⟨⟨⟨.rfl,rfl⟩,trivial⟩,⟨trivial,⟨rfl,.refl _,rfl⟩,trivial⟩,rfl⟩
def Bf (o0:B0)(x1:A0×B0)(x4:Str×B0)(o2_Args:List A0):Option (Pn (K0×B0)):=
 L0 [44] o0>>=fun x13=>
 if x13.1=true then
  S0 x13.2>>=fun x14=>match x14 with
  | .pn nn=>
  some (.pn nn)
  | .ok x14=>
  if (decide ((o2_Args.length+1) * 57≤140737488355328))=true then
   Bf x14.2 x1 x4 (o2_Args++[x14.1])
  else none
 else
  R0 [41] x13.2>>=fun x8=>match x8 with
  | .pn nn=>
  some (.pn nn)
  | .ok x8=>
  R0 [59] x8>>=fun x9=>match x9 with
  | .pn nn=>
  some (.pn nn)
  | .ok x9=>
  some (.ok ((K0.mk 1 x1.1 (A0.mk 0 0 [] []) x4.1 o2_Args 0 0 0 [] [] []),x9))
 partial_fixpoint
def Lm (x7:A0×B0)(x1:A0×B0)(x4:Str×B0):Option (Pn (K0×B0)):=
 Bf x7.2 x1 x4 [x7.1]
def Dp (parserParser:B0):Option (Pn (K0×B0)):=
 O5 parserParser>>=fun x1=>match x1 with
 | .pn nn=>
 some (.pn nn)
 | .ok x1=>
 R0 [61] x1.2>>=fun x2=>match x2 with
 | .pn nn=>
 some (.pn nn)
 | .ok x2=>
 L0 [99,97,108,108] x2>>=fun x3=>
 if x3.1=true then
  U2 x3.2>>=fun x4=>match x4 with
  | .pn nn=>
  some (.pn nn)
  | .ok x4=>
  R0 [40] x4.2>>=fun x5=>match x5 with
  | .pn nn=>
  some (.pn nn)
  | .ok x5=>
  H6 [41] x5>>=fun x6=>
  if (!x6)=true then
   S0 x5>>=fun x7=>match x7 with
   | .pn nn=>
   some (.pn nn)
   | .ok x7=>
   if (decide ((0+1) * 57≤140737488355328))=true then
    Lm x7 x1 x4
   else none
  else
   R0 [41] x5>>=fun x8=>match x8 with
   | .pn nn=>
   some (.pn nn)
   | .ok x8=>
   R0 [59] x8>>=fun x9=>match x9 with
   | .pn nn=>
   some (.pn nn)
   | .ok x9=>
   some (.ok ((K0.mk 1 x1.1 (A0.mk 0 0 [] []) x4.1 [] 0 0 0 [] [] []),x9))
 else
  L0 [114,101,108,101,97,115,101] x3.2>>=fun x10=>
  if x10.1=true then
   U2 x10.2>>=fun x11=>match x11 with
   | .pn nn=>
   some (.pn nn)
   | .ok x11=>
   R0 [59] x11.2>>=fun x9=>match x9 with
   | .pn nn=>
   some (.pn nn)
   | .ok x9=>
   some (.ok ((K0.mk 2 x1.1 (A0.mk 0 0 [] []) x11.1 [] 0 0 0 [] [] []),x9))
  else
   S0 x10.2>>=fun x12=>match x12 with
   | .pn nn=>
   some (.pn nn)
   | .ok x12=>
   R0 [59] x12.2>>=fun x9=>match x9 with
   | .pn nn=>
   some (.pn nn)
   | .ok x9=>
   some (.ok ((K0.mk 0 x1.1 x12.1 [] [] 0 0 0 [] [] []),x9))
def Kg (o0:B0)(o2_Numbers:List Int):Option (Pn (K0×Bool×B0)):=
 L0 [44] o0>>=fun x23=>
 if x23.1=true then
  E2 x23.2>>=fun x24=>match x24 with
  | .pn nn=>
  some (.pn nn)
  | .ok x24=>
  if (decide ((o2_Numbers.length+1) * 9≤140737488355328))=true then
   Kg x24.2 (o2_Numbers++[x24.1])
  else none
 else
  R0 [59] x23.2>>=fun x25=>match x25 with
  | .pn nn=>
  some (.pn nn)
  | .ok x25=>
  some (.ok ((K0.mk 8 (A0.mk 0 0 [] []) (A0.mk 0 0 [] []) [] [] 0 0 0 o2_Numbers [] []),true,x25))
 partial_fixpoint
end Go.Proofs.YtmnhfbekncjnfaaGreatDoor

set_option maxRecDepth 100000
set_option maxHeartbeats 4000000
set_option synthInstance.maxSize 20000
set_option linter.unusedVariables false
namespace Go.Proofs.YtmnhfbekncjnfaaGreatDoor
open Go.Am
mutual
def Ep (parserParser:B0):Option (Pn (List K0×B0)):=
 Sa parserParser []
 partial_fixpoint
def Sa (o0:B0)(out:List K0):Option (Pn (List K0×B0)):=
 Bq o0>>=fun x1=>match x1 with
 | .pn nn=>
 some (.pn nn)
 | .ok x1=>
 if (!x1.2.1)=true then
  some (.ok (out,x1.2.2))
 else
  if (decide ((out.length+1) * 257≤140737488355328))=true then
   Sa x1.2.2 (out++[x1.1])
  else none
 partial_fixpoint
def Bq (parserParser:B0):Option (Pn (K0×Bool×B0)):=
 I4 parserParser>>=fun x1=>
 if x1=true then
  Dp parserParser>>=fun x2=>match x2 with
  | .pn nn=>
  some (.pn nn)
  | .ok x2=>
  some (.ok (x2.1,true,x2.2))
 else
  L0 [111,117,116,112,117,116] parserParser>>=fun x3=>
  if x3.1=true then
   S0 x3.2>>=fun x4=>match x4 with
   | .pn nn=>
   some (.pn nn)
   | .ok x4=>
   R0 [59] x4.2>>=fun x5=>match x5 with
   | .pn nn=>
   some (.pn nn)
   | .ok x5=>
   some (.ok ((K0.mk 3 (A0.mk 0 0 [] []) x4.1 [] [] 0 0 0 [] [] []),true,x5))
  else
   L0 [119,97,105,116] x3.2>>=fun x6=>
   if x6.1=true then
    E2 x6.2>>=fun x7=>match x7 with
    | .pn nn=>
    some (.pn nn)
    | .ok x7=>
    R0 [59] x7.2>>=fun x8=>match x8 with
    | .pn nn=>
    some (.pn nn)
    | .ok x8=>
    some (.ok ((K0.mk 4 (A0.mk 0 0 [] []) (A0.mk 0 0 [] []) [] [] x7.1 0 0 [] [] []),true,x8))
   else
    L0 [115,101,116,116,108,101] x6.2>>=fun x9=>
    if x9.1=true then
     E2 x9.2>>=fun x10=>match x10 with
     | .pn nn=>
     some (.pn nn)
     | .ok x10=>
     Kg x10.2 [x10.1]
    else
     L0 [105,102] x9.2>>=fun x11=>
     if x11.1=true then
      S0 x11.2>>=fun x12=>match x12 with
      | .pn nn=>
      some (.pn nn)
      | .ok x12=>
      Aa x12.2>>=fun x26=>match x26 with
      | .pn nn=>
      some (.pn nn)
      | .ok x26=>
      L0 [101,108,115,101] x26.2>>=fun x27=>
      if x27.1=true then
       Aa x27.2>>=fun x28=>match x28 with
       | .pn nn=>
       some (.pn nn)
       | .ok x28=>
       some (.ok ((K0.mk 5 (A0.mk 0 0 [] []) x12.1 [] [] 0 0 0 [] x26.1 x28.1),true,x28.2))
      else
       some (.ok ((K0.mk 5 (A0.mk 0 0 [] []) x12.1 [] [] 0 0 0 [] x26.1 []),true,x27.2))
     else
      L0 [119,104,105,108,101] x11.2>>=fun x13=>
      if x13.1=true then
       S0 x13.2>>=fun x14=>match x14 with
       | .pn nn=>
       some (.pn nn)
       | .ok x14=>
       R0 [108,105,109,105,116] x14.2>>=fun x15=>match x15 with
       | .pn nn=>
       some (.pn nn)
       | .ok x15=>
       E2 x15>>=fun x16=>match x16 with
       | .pn nn=>
       some (.pn nn)
       | .ok x16=>
       Aa x16.2>>=fun x29=>match x29 with
       | .pn nn=>
       some (.pn nn)
       | .ok x29=>
       some (.ok ((K0.mk 6 (A0.mk 0 0 [] []) x14.1 [] [] x16.1 0 0 [] x29.1 []),true,x29.2))
      else
       L0 [102,111,114] x13.2>>=fun x17=>
       if x17.1=true then
        U2 x17.2>>=fun x18=>match x18 with
        | .pn nn=>
        some (.pn nn)
        | .ok x18=>
        R0 [61] x18.2>>=fun x19=>match x19 with
        | .pn nn=>
        some (.pn nn)
        | .ok x19=>
        E2 x19>>=fun x20=>match x20 with
        | .pn nn=>
        some (.pn nn)
        | .ok x20=>
        R0 [116,111] x20.2>>=fun x21=>match x21 with
        | .pn nn=>
        some (.pn nn)
        | .ok x21=>
        E2 x21>>=fun x22=>match x22 with
        | .pn nn=>
        some (.pn nn)
        | .ok x22=>
        Aa x22.2>>=fun x30=>match x30 with
        | .pn nn=>
        some (.pn nn)
        | .ok x30=>
        some (.ok ((K0.mk 7 (A0.mk 0 0 [] []) (A0.mk 0 0 [] []) x18.1 [] 0 x20.1 x22.1 [] x30.1 []),true,x30.2))
       else
        some (.ok ((K0.mk 0 (A0.mk 0 0 [] []) (A0.mk 0 0 [] []) [] [] 0 0 0 [] [] []),false,x17.2))
 partial_fixpoint
def Aa (parserParser:B0):Option (Pn (List K0×B0)):=
 R0 [123] parserParser>>=fun x1=>match x1 with
 | .pn nn=>
 some (.pn nn)
 | .ok x1=>
 Ep x1>>=fun x2=>match x2 with
 | .pn nn=>
 some (.pn nn)
 | .ok x2=>
 R0 [125] x2.2>>=fun x3=>match x3 with
 | .pn nn=>
 some (.pn nn)
 | .ok x3=>
 some (.ok (x2.1,x3))
 partial_fixpoint
end
def R17 (l:List F0)(atV:Int):Option Bool:=
 Ma l atV>>=fun x1=>
 (if (!x1.2.2)=true then C1 l atV [111,117,116,112,117,116] else some default)>>=fun x2=>
 (if (!(bif x1.2.2 then true else x2))=true then C1 l atV [119,97,105,116] else some default)>>=fun x3=>
 (if (!(bif (bif x1.2.2 then true else x2) then true else x3))=true then C1 l atV [105,102] else some default)>>=fun x4=>
 (if (!(bif (bif (bif x1.2.2 then true else x2) then true else x3) then true else x4))=true then C1 l atV [119,104,105,108,101] else some default)>>=fun x5=>
 (if (!(bif (bif (bif (bif x1.2.2 then true else x2) then true else x3) then true else x4) then true else x5))=true then C1 l atV [102,111,114] else some default)>>=fun x6=>
 (if (!(bif (bif (bif (bif (bif x1.2.2 then true else x2) then true else x3) then true else x4) then true else x5) then true else x6))=true then C1 l atV [115,101,116,116,108,101] else some default)>>=fun x7=>
 some (bif (bif (bif (bif (bif (bif x1.2.2 then true else x2) then true else x3) then true else x4) then true else x5) then true else x6) then true else x7)
def Jd (l:List F0)(o1_Verb:Int)(o1_Place:A0)(o1_Value:A0)(o1_Name:Str)(o1_Args:List A0)(o1_NV:Int)(o1_Low:Int)(o1_High:Int)(o1_Numbers:List Int)(o1_Then:List K0)(o1_Else:List K0)(atV1:Int)(ok:Bool):Option (K0×Int×Bool):=
 (if (!(!ok))=true then C1 l atV1 [59] else some default)>>=fun x9=>
 if (bif (!ok) then true else (!x9))=true then
  some ((K0.mk o1_Verb o1_Place o1_Value o1_Name o1_Args o1_NV o1_Low o1_High o1_Numbers o1_Then o1_Else),atV1,false)
 else
  some ((K0.mk o1_Verb o1_Place o1_Value o1_Name o1_Args o1_NV o1_Low o1_High o1_Numbers o1_Then o1_Else),(IntKind.i64.wrap (atV1+1)),true)
def Mn (l:List F0)(atV1:Int)(out:List Int):Option (List Int×Int×Bool):=
 G4 l atV1>>=fun x1=>
 if (!x1.2.2)=true then
  some (out,x1.2.1,false)
 else
  if (decide ((out.length+1) * 9≤140737488355328))=true then
   C1 l x1.2.1 [44]>>=fun x2=>
   if (!x2)=true then
    some ((out++[x1.1]),x1.2.1,true)
   else
    Mn l (IntKind.i64.wrap (x1.2.1+1)) (out++[x1.1])
  else none
 partial_fixpoint
def T13 (l:List F0)(atV:Int):Option (List Int×Int×Bool):=
 Mn l atV []
def Mm (l:List F0)(atV1:Int)(out:List A0):Option (List A0×Int×Bool):=
 V1 l (IntKind.i64.wrap (atV1+1))>>=fun x3=>
 if (!x3.2.2)=true then
  some (out,x3.2.1,false)
 else
  if (decide ((out.length+1) * 57≤140737488355328))=true then
   C1 l x3.2.1 [41]>>=fun x4=>
   if x4=true then
    some ((out++[x3.1]),(IntKind.i64.wrap (x3.2.1+1)),true)
   else
    C1 l x3.2.1 [44]>>=fun x5=>
    if (!x5)=true then
     some ((out++[x3.1]),x3.2.1,false)
    else
     Mm l x3.2.1 (out++[x3.1])
  else none
 partial_fixpoint
def N12 (l:List F0)(atV:Int):Option (List A0×Int×Bool):=
 C1 l atV [40]>>=fun x1=>
 if (!x1)=true then
  some ([],atV,false)
 else
  C1 l (IntKind.i64.wrap (atV+1)) [41]>>=fun x2=>
  if x2=true then
   some ([],(IntKind.i64.wrap (atV+2)),true)
  else
   Mm l atV []
def U10 (l:List F0)(atV:Int):Option (K0×Int×Bool):=
 Z8 l atV>>=fun x1=>
 (if (!(!x1.2.2))=true then C1 l x1.2.1 [61] else some default)>>=fun x2=>
 if (bif (!x1.2.2) then true else (!x2))=true then
  some ((K0.mk 0 (A0.mk 0 0 [] []) (A0.mk 0 0 [] []) [] [] 0 0 0 [] [] []),x1.2.1,false)
 else
  C1 l (IntKind.i64.wrap (x1.2.1+1)) [114,101,108,101,97,115,101]>>=fun x3=>
  if x3=true then
   Ma l (IntKind.i64.wrap ((IntKind.i64.wrap (x1.2.1+1))+1))>>=fun x4=>
   some ((K0.mk 2 x1.1 (A0.mk 0 0 [] []) x4.1 [] 0 0 0 [] [] []),x4.2.1,x4.2.2)
  else
   C1 l (IntKind.i64.wrap (x1.2.1+1)) [99,97,108,108]>>=fun x5=>
   if x5=true then
    Ma l (IntKind.i64.wrap ((IntKind.i64.wrap (x1.2.1+1))+1))>>=fun x6=>
    if (!x6.2.2)=true then
     some ((K0.mk 1 x1.1 (A0.mk 0 0 [] []) x6.1 [] 0 0 0 [] [] []),x6.2.1,false)
    else
     N12 l x6.2.1>>=fun x7=>
     some ((K0.mk 1 x1.1 (A0.mk 0 0 [] []) x6.1 x7.1 0 0 0 [] [] []),x7.2.1,x7.2.2)
   else
    V1 l (IntKind.i64.wrap (x1.2.1+1))>>=fun x8=>
    some ((K0.mk 0 x1.1 x8.1 [] [] 0 0 0 [] [] []),x8.2.1,x8.2.2)
mutual
def V10 (l:List F0)(atV:Int):Option (List K0×Int×Bool):=
 Tg l atV []
 partial_fixpoint
def Tg (l:List F0)(atV1:Int)(out:List K0):Option (List K0×Int×Bool):=
 R17 l atV1>>=fun x1=>
 if x1=true then
  O12 l atV1>>=fun x2=>
  if (!x2.2.2)=true then
   some (out,x2.2.1,false)
  else
   if (decide ((out.length+1) * 257≤140737488355328))=true then
    Tg l x2.2.1 (out++[x2.1])
   else none
 else
  some (out,atV1,true)
 partial_fixpoint
def O12 (l:List F0)(atV:Int):Option (K0×Int×Bool):=
 C1 l atV [105,102]>>=fun x1=>
 if x1=true then
  Pz l (IntKind.i64.wrap (atV+1))>>=fun x2=>
  some (x2.1,x2.2.1,x2.2.2)
 else
  C1 l atV [119,104,105,108,101]>>=fun x3=>
  if x3=true then
   K19 l (IntKind.i64.wrap (atV+1))>>=fun x4=>
   some (x4.1,x4.2.1,x4.2.2)
  else
   C1 l atV [102,111,114]>>=fun x5=>
   if x5=true then
    V15 l (IntKind.i64.wrap (atV+1))>>=fun x6=>
    some (x6.1,x6.2.1,x6.2.2)
   else
    C1 l atV [111,117,116,112,117,116]>>=fun x7=>
    if x7=true then
     V1 l (IntKind.i64.wrap (atV+1))>>=fun x8=>
     Jd l 3 (A0.mk 0 0 [] []) x8.1 [] [] 0 0 0 [] [] [] x8.2.1 x8.2.2
    else
     C1 l atV [119,97,105,116]>>=fun x10=>
     if x10=true then
      G4 l (IntKind.i64.wrap (atV+1))>>=fun x11=>
      Jd l 4 (A0.mk 0 0 [] []) (A0.mk 0 0 [] []) [] [] x11.1 0 0 [] [] [] x11.2.1 x11.2.2
     else
      C1 l atV [115,101,116,116,108,101]>>=fun x12=>
      if x12=true then
       T13 l (IntKind.i64.wrap (atV+1))>>=fun x13=>
       Jd l 8 (A0.mk 0 0 [] []) (A0.mk 0 0 [] []) [] [] 0 0 0 x13.1 [] [] x13.2.1 x13.2.2
      else
       U10 l atV>>=fun x14=>
       Jd l x14.1.Verb x14.1.Place x14.1.Value x14.1.Name x14.1.Args x14.1.NV x14.1.Low x14.1.High x14.1.Numbers x14.1.Then x14.1.Else x14.2.1 x14.2.2
 partial_fixpoint
def V15 (l:List F0)(atV:Int):Option (K0×Int×Bool):=
 Ma l atV>>=fun x1=>
 (if (!(!x1.2.2))=true then C1 l x1.2.1 [61] else some default)>>=fun x2=>
 if (bif (!x1.2.2) then true else (!x2))=true then
  some ((K0.mk 7 (A0.mk 0 0 [] []) (A0.mk 0 0 [] []) [] [] 0 0 0 [] [] []),x1.2.1,false)
 else
  G4 l (IntKind.i64.wrap (x1.2.1+1))>>=fun x3=>
  (if (!(!x3.2.2))=true then C1 l x3.2.1 [116,111] else some default)>>=fun x4=>
  if (bif (!x3.2.2) then true else (!x4))=true then
   some ((K0.mk 7 (A0.mk 0 0 [] []) (A0.mk 0 0 [] []) x1.1 [] 0 x3.1 0 [] [] []),x3.2.1,false)
  else
   G4 l (IntKind.i64.wrap (x3.2.1+1))>>=fun x5=>
   if (!x5.2.2)=true then
    some ((K0.mk 7 (A0.mk 0 0 [] []) (A0.mk 0 0 [] []) x1.1 [] 0 x3.1 x5.1 [] [] []),x5.2.1,false)
   else
    Di l x5.2.1>>=fun x6=>
    some ((K0.mk 7 (A0.mk 0 0 [] []) (A0.mk 0 0 [] []) x1.1 [] 0 x3.1 x5.1 [] x6.1 []),x6.2.1,x6.2.2)
 partial_fixpoint
def Di (l:List F0)(atV:Int):Option (List K0×Int×Bool):=
 C1 l atV [123]>>=fun x1=>
 if (!x1)=true then
  some ([],atV,false)
 else
  V10 l (IntKind.i64.wrap (atV+1))>>=fun x2=>
  (if (!(!x2.2.2))=true then C1 l x2.2.1 [125] else some default)>>=fun x3=>
  if (bif (!x2.2.2) then true else (!x3))=true then
   some (x2.1,x2.2.1,false)
  else
   some (x2.1,(IntKind.i64.wrap (x2.2.1+1)),true)
 partial_fixpoint
def K19 (l:List F0)(atV:Int):Option (K0×Int×Bool):=
 V1 l atV>>=fun x1=>
 (if (!(!x1.2.2))=true then C1 l x1.2.1 [108,105,109,105,116] else some default)>>=fun x2=>
 if (bif (!x1.2.2) then true else (!x2))=true then
  some ((K0.mk 6 (A0.mk 0 0 [] []) (A0.mk 0 0 [] []) [] [] 0 0 0 [] [] []),x1.2.1,false)
 else
  G4 l (IntKind.i64.wrap (x1.2.1+1))>>=fun x3=>
  if (!x3.2.2)=true then
   some ((K0.mk 6 (A0.mk 0 0 [] []) x1.1 [] [] x3.1 0 0 [] [] []),x3.2.1,false)
  else
   Di l x3.2.1>>=fun x4=>
   some ((K0.mk 6 (A0.mk 0 0 [] []) x1.1 [] [] x3.1 0 0 [] x4.1 []),x4.2.1,x4.2.2)
 partial_fixpoint
def Pz (l:List F0)(atV:Int):Option (K0×Int×Bool):=
 V1 l atV>>=fun x1=>
 if (!x1.2.2)=true then
  some ((K0.mk 5 (A0.mk 0 0 [] []) (A0.mk 0 0 [] []) [] [] 0 0 0 [] [] []),x1.2.1,false)
 else
  Di l x1.2.1>>=fun x2=>
  if (!x2.2.2)=true then
   some ((K0.mk 5 (A0.mk 0 0 [] []) x1.1 [] [] 0 0 0 [] x2.1 []),x2.2.1,false)
  else
   C1 l x2.2.1 [101,108,115,101]>>=fun x3=>
   if x3=true then
    Di l (IntKind.i64.wrap (x2.2.1+1))>>=fun x4=>
    some ((K0.mk 5 (A0.mk 0 0 [] []) x1.1 [] [] 0 0 0 [] x2.1 x4.1),x4.2.1,x4.2.2)
   else
    some ((K0.mk 5 (A0.mk 0 0 [] []) x1.1 [] [] 0 0 0 [] x2.1 []),x2.2.1,x2.2.2)
 partial_fixpoint
end
end Go.Proofs.YtmnhfbekncjnfaaGreatDoor

set_option maxRecDepth 100000
set_option maxHeartbeats 4000000
set_option synthInstance.maxSize 20000
set_option linter.unusedVariables false
namespace Go.Proofs.YtmnhfbekncjnfaaGreatDoor
open Go.Am
def Ic (fu:Nat)(c:Int):Option Bool:=
 some (bif (decide (c≥97)) then (decide (c≤122)) else false)
theorem Xh (fu:Nat)(c:Int):Le (Ic fu c) (K8 c):=by
 unfold Ic K8
 repeat (first | exact Le.rfl | exact O0 _ | refine Le.bind ?_ (fun _=>?_) | refine Le.ite ?_ ?_ | (rename_i x; cases x))
def Ya (fu:Nat)(c:Int):Option Bool:=
 some (bif (decide (c≥48)) then (decide (c≤57)) else false)
theorem Rf (fu:Nat)(c:Int):Le (Ya fu c) (T6 c):=by
 unfold Ya T6
 repeat (first | exact Le.rfl | exact O0 _ | refine Le.bind ?_ (fun _=>?_) | refine Le.ite ?_ ?_ | (rename_i x; cases x))
def Me:Nat→Str→Int→Option Int
 | 0,_,_=>none
 | fu+1,s,i1=>
  (if (decide (i1 < ((s).length:Int)))=true then idx s i1 else some default)>>=fun x1=>
  (if (decide (i1 < ((s).length:Int)))=true then Ic fu (x1.toNat:Int) else some default)>>=fun x2=>
  (if ((decide (i1 < ((s).length:Int)))&&(!x2))=true then idx s i1 else some default)>>=fun x3=>
  (if ((decide (i1 < ((s).length:Int)))&&(!x2))=true then Ya fu (x3.toNat:Int) else some default)>>=fun x4=>
  if (bif (decide (i1 < ((s).length:Int))) then (bif x2 then true else x4) else false)=true then
   Me fu s (IntKind.i64.wrap (i1+1))
  else
   some i1
theorem W10 (fu:Nat):(∀ (s:Str) (i1:Int),Le (Me fu s i1) (G6 s i1)):=by
 induction fu with
 | zero=>exact fun _ _=>Le.none
 | succ fu ih=>
  have ih0:=ih
  refine fun s i1=>?_
  ·rw [Me,G6]
   repeat (first | exact Le.rfl | exact ih0 _ _ | exact Xh fu _ | exact Rf fu _ | exact O0 _ | refine Le.bind ?_ (fun _=>?_) | refine Le.ite ?_ ?_ | (rename_i x; cases x))
theorem P12 (fu:Nat)(s:Str)(i1:Int):Le (Me fu s i1) (G6 s i1):=(W10 fu) s i1
def Ol (fu:Nat)(s:Str)(i:Int):Option Int:=
 Me fu s i
theorem S17 (fu:Nat)(s:Str)(i:Int):Le (Ol fu s i) (Bh s i):=by
 unfold Ol Bh
 repeat (first | exact Le.rfl | exact P12 fu _ _ | exact O0 _ | refine Le.bind ?_ (fun _=>?_) | refine Le.ite ?_ ?_ | (rename_i x; cases x))
def Sf (fu:Nat)(word:Str):Option Bool:=
 (if (!(word == []))=true then Mf word [32] else some default)>>=fun x1=>
 if (!(bif (!(word == [])) then (!x1) else false)||(decide (1+word.length≤maxLen)))=true then
  if (!(bif (!(word == [])) then (!x1) else false)||(decide (([32]++word).length+1≤maxLen)))=true then
   (if (bif (!(word == [])) then (!x1) else false)=true then Mf [32,116,121,112,101,32,115,101,99,114,101,116,32,112,117,98,108,105,99,32,114,97,110,100,111,109,32,118,97,114,32,104,97,116,99,104,32,102,117,110,99,32,114,101,116,117,114,110,32,98,101,103,105,110,32,101,110,100,32,98,111,111,108,32,105,110,116,32,97,114,114,97,121,32,111,102,32,114,101,99,111,114,100,32,116,114,117,101,32,102,97,108,115,101,32,99,97,108,108,32,114,101,108,101,97,115,101,32,111,117,116,112,117,116,32,119,97,105,116,32,105,102,32,101,108,115,101,32,119,104,105,108,101,32,108,105,109,105,116,32,102,111,114,32,116,111,32,115,101,116,116,108,101,32,109,105,110,32,109,97,120,32] (([32]++word)++[32]) else some default)>>=fun x2=>
   some (bif (bif (!(word == [])) then (!x1) else false) then x2 else false)
  else none
 else none
theorem Nn (fu:Nat)(word:Str):Le (Sf fu word) (W6 word):=by
 unfold Sf W6
 repeat (first | exact Le.rfl | exact O0 _ | refine Le.bind ?_ (fun _=>?_) | refine Le.ite ?_ ?_ | (rename_i x; cases x))
def Eb:Nat→Str→Int→Int→Option Int
 | 0,_,_,_=>none
 | fu+1,s,n,v7=>
  if (decide (v7 < ((s).length:Int)))=true then
   idx s v7>>=fun x1=>
   Ya fu (x1.toNat:Int)>>=fun x2=>
   if (!x2)=true then
    some 6
   else
    idx s v7>>=fun x3=>
    Eb fu s (min (IntKind.i64.wrap ((IntKind.i64.wrap (10 * n))+(IntKind.i64.wrap (IntKind.u8.wrap ((x3.toNat:Int) - 48))))) 1048577) (IntKind.i64.wrap (v7+1))
  else
   idx s 0>>=fun x4=>
   if (bif ((x4.toNat:Int) == 48) then (decide (((s).length:Int) > 1)) else false)=true then
    some 6
   else
    if (decide (n > 1048576))=true then
     some 3
    else
     some 0
theorem Wv (fu:Nat):(∀ (s:Str) (n:Int) (v7:Int),Le (Eb fu s n v7) (U3 s n v7)):=by
 induction fu with
 | zero=>exact fun _ _ _=>Le.none
 | succ fu ih=>
  have ih0:=ih
  refine fun s n v7=>?_
  ·rw [Eb,U3]
   repeat (first | exact Le.rfl | exact ih0 _ _ _ | exact Rf fu _ | exact O0 _ | refine Le.bind ?_ (fun _=>?_) | refine Le.ite ?_ ?_ | (rename_i x; cases x))
theorem Qx (fu:Nat)(s:Str)(n:Int)(v7:Int):Le (Eb fu s n v7) (U3 s n v7):=(Wv fu) s n v7
def Yk (fu:Nat)(s:Str):Option Int:=
 Eb fu s 0 0
theorem Q12 (fu:Nat)(s:Str):Le (Yk fu s) (Fe s):=by
 unfold Yk Fe
 repeat (first | exact Le.rfl | exact Qx fu _ _ _ | exact O0 _ | refine Le.bind ?_ (fun _=>?_) | refine Le.ite ?_ ?_ | (rename_i x; cases x))
def Xg (fu:Nat)(s:Str):Option Str:=
 idx s 0>>=fun x3=>
 Ll [59,58,44,46,61,43,45,42,47,37,60,62,33,63,40,41,91,93,123,125] (x3.toNat:Int)>>=fun x4=>
 if (decide (x4≥0))=true then
  slc s 0 1>>=fun x5=>
  some x5
 else
  some []
theorem Fp (fu:Nat)(s:Str):Le (Xg fu s) (Q9 s):=by
 unfold Xg Q9
 repeat (first | exact Le.rfl | exact O0 _ | refine Le.bind ?_ (fun _=>?_) | refine Le.ite ?_ ?_ | (rename_i x; cases x))
def S5 (fu:Nat)(s:Str)(v8:Bool):Option Str:=
 if v8=true then
  slc s 0 2>>=fun x2=>
  some x2
 else
  Xg fu s
theorem X10 (fu:Nat)(s:Str)(v8:Bool):Le (S5 fu s v8) (S4 s v8):=by
 unfold S5 S4
 repeat (first | exact Le.rfl | exact Fp fu _ | exact O0 _ | refine Le.bind ?_ (fun _=>?_) | refine Le.ite ?_ ?_ | (rename_i x; cases x))
def Hp (fu:Nat)(s:Str):Option Str:=
 if (decide (((s).length:Int)≥2))=true then
  slc s 0 2>>=fun x1=>
  if (x1 == [46,46])=true then
   S5 fu s (x1 == [46,46])
  else
   if (x1 == [61,61])=true then
    S5 fu s (x1 == [61,61])
   else
    if (x1 == [33,61])=true then
     S5 fu s (x1 == [33,61])
    else
     if (x1 == [60,61])=true then
      S5 fu s (x1 == [60,61])
     else
      if (x1 == [62,61])=true then
       S5 fu s (x1 == [62,61])
      else
       if (x1 == [38,38])=true then
        S5 fu s (x1 == [38,38])
       else
        S5 fu s (x1 == [124,124])
 else
  Xg fu s
theorem W15 (fu:Nat)(s:Str):Le (Hp fu s) (Mb s):=by
 unfold Hp Mb
 repeat (first | exact Le.rfl | exact X10 fu _ _ | exact Fp fu _ | exact O0 _ | refine Le.bind ?_ (fun _=>?_) | refine Le.ite ?_ ?_ | (rename_i x; cases x))
def Ip (fu:Nat)(s:Str)(i:Int):Option (F0×Int):=
 idx s i>>=fun x1=>
 Ic fu (x1.toNat:Int)>>=fun x2=>
 if x2=true then
  Ol fu s i>>=fun x3=>
  slc s i x3>>=fun x4=>
  Sf fu x4>>=fun x5=>
  if x5=true then
   some ((F0.mk 2 x4 i),0)
  else
   if (decide (((x4).length:Int) > 12))=true then
    some ((F0.mk 0 x4 i),7)
   else
    some ((F0.mk 0 x4 i),0)
 else
  Ya fu (x1.toNat:Int)>>=fun x6=>
  if x6=true then
   Ol fu s i>>=fun x7=>
   slc s i x7>>=fun x8=>
   Yk fu x8>>=fun x9=>
   some ((F0.mk 1 x8 i),x9)
  else
   slc s i ((s).length:Int)>>=fun x10=>
   Hp fu x10>>=fun x11=>
   if (x11 == [])=true then
    some ((F0.mk 3 x11 i),6)
   else
    some ((F0.mk 3 x11 i),0)
theorem Wm (fu:Nat)(s:Str)(i:Int):Le (Ip fu s i) (Dd s i):=by
 unfold Ip Dd
 repeat (first | exact Le.rfl | exact Xh fu _ | exact S17 fu _ _ | exact Nn fu _ | exact Rf fu _ | exact Q12 fu _ | exact W15 fu _ | exact O0 _ | refine Le.bind ?_ (fun _=>?_) | refine Le.ite ?_ ?_ | (rename_i x; cases x))
mutual
def Ga:Nat→Str→(List F0)→Int→Option (List F0×Int×Int)
 | 0,_,_,_=>none
 | fu+1,s,out,i=>
  if (decide (i < ((s).length:Int)))=true then
   idx s i>>=fun x1=>
   if ((x1.toNat:Int) == 32)=true then
    Oe fu s out i x1 ((x1.toNat:Int) == 32)
   else
    if ((x1.toNat:Int) == 9)=true then
     Oe fu s out i x1 ((x1.toNat:Int) == 9)
    else
     Oe fu s out i x1 ((x1.toNat:Int) == 10)
  else
   some (out,0,0)
def Oe:Nat→Str→(List F0)→Int→UInt8→Bool→Option (List F0×Int×Int)
 | 0,_,_,_,_,_=>none
 | fu+1,s,out1,i1,x1,v19=>
  if v19=true then
   Ga fu s out1 (IntKind.i64.wrap (i1+1))
  else
   if ((x1.toNat:Int) == 35)=true then
    Th fu s out1 i1
   else
    Ip fu s i1>>=fun x2=>
    if (x2.2 != 0)=true then
     some ([],i1,x2.2)
    else
     if (decide ((out1.length+1) * 33≤140737488355328))=true then
      Ga fu s (out1++[x2.1]) (IntKind.i64.wrap (i1+((x2.1.Text).length:Int)))
     else none
def Th:Nat→Str→(List F0)→Int→Option (List F0×Int×Int)
 | 0,_,_,_=>none
 | fu+1,s,out2,i2=>
  (if (decide (i2 < ((s).length:Int)))=true then idx s i2 else some default)>>=fun x3=>
  if (bif (decide (i2 < ((s).length:Int))) then ((x3.toNat:Int) != 10) else false)=true then
   Th fu s out2 (IntKind.i64.wrap (i2+1))
  else
   Ga fu s out2 i2
end
theorem Y10 (fu:Nat):(∀ (s:Str) (out:List F0) (i:Int),Le (Ga fu s out i) (B3 s out i))∧(∀ (s:Str) (out1:List F0) (i1:Int) (x1:UInt8) (v19:Bool),Le (Oe fu s out1 i1 x1 v19) (Pa s out1 i1 x1 v19))∧(∀ (s:Str) (out2:List F0) (i2:Int),Le (Th fu s out2 i2) (V7 s out2 i2)):=by
 induction fu with
 | zero=>exact ⟨fun _ _ _=>Le.none,fun _ _ _ _ _=>Le.none,fun _ _ _=>Le.none⟩
 | succ fu ih=>
  obtain ⟨ih0,ih1,ih2⟩:=ih
  refine ⟨fun s out i=>?_,fun s out1 i1 x1 v19=>?_,fun s out2 i2=>?_⟩
  ·rw [Ga,B3]
   repeat (first | exact Le.rfl | exact ih0 _ _ _ | exact ih1 _ _ _ _ _ | exact ih2 _ _ _ | exact Wm fu _ _ | exact O0 _ | refine Le.bind ?_ (fun _=>?_) | refine Le.ite ?_ ?_ | (rename_i x; cases x))
  ·rw [Oe,Pa]
   repeat (first | exact Le.rfl | exact ih0 _ _ _ | exact ih1 _ _ _ _ _ | exact ih2 _ _ _ | exact Wm fu _ _ | exact O0 _ | refine Le.bind ?_ (fun _=>?_) | refine Le.ite ?_ ?_ | (rename_i x; cases x))
  ·rw [Th,V7]
   repeat (first | exact Le.rfl | exact ih0 _ _ _ | exact ih1 _ _ _ _ _ | exact ih2 _ _ _ | exact Wm fu _ _ | exact O0 _ | refine Le.bind ?_ (fun _=>?_) | refine Le.ite ?_ ?_ | (rename_i x; cases x))
theorem R12 (fu:Nat)(s:Str)(out:List F0)(i:Int):Le (Ga fu s out i) (B3 s out i):=(Y10 fu).1 s out i
def Er (fu:Nat)(s:Str):Option (List F0×Int×Int):=
 if (decide (((s).length:Int) > 8192))=true then
  some ([],0,5)
 else
  Ga fu s [] 0
theorem T17 (fu:Nat)(s:Str):Le (Er fu s) (Ye s):=by
 unfold Er Ye
 repeat (first | exact Le.rfl | exact R12 fu _ _ _ | exact O0 _ | refine Le.bind ?_ (fun _=>?_) | refine Le.ite ?_ ?_ | (rename_i x; cases x))
def Ih (fu:Nat)(text:Str)(parserParser:B0):Option Bool:=
 if (decide (parserParser.next≥((parserParser.tokens).length:Int)))=true then
  some false
 else
  idx parserParser.tokens parserParser.next>>=fun x1=>
  some (bif (x1.Text == text) then (bif (x1.Kind == 2) then true else (x1.Kind == 3)) else false)
theorem Xv (fu:Nat)(text:Str)(parserParser:B0):Le (Ih fu text parserParser) (H6 text parserParser):=by
 unfold Ih H6
 repeat (first | exact Le.rfl | exact O0 _ | refine Le.bind ?_ (fun _=>?_) | refine Le.ite ?_ ?_ | (rename_i x; cases x))
def Y0 (fu:Nat)(text:Str)(parserParser:B0):Option (Bool×B0):=
 Ih fu text parserParser>>=fun x1=>
 if (!x1)=true then
  some (false,parserParser)
 else
  some (true,(B0.mk parserParser.tokens (IntKind.i64.wrap (parserParser.next+1)) parserParser.endV))
theorem W0 (fu:Nat)(text:Str)(parserParser:B0):Le (Y0 fu text parserParser) (L0 text parserParser):=by
 unfold Y0 L0
 repeat (first | exact Le.rfl | exact Xv fu _ _ | exact O0 _ | refine Le.bind ?_ (fun _=>?_) | refine Le.ite ?_ ?_ | (rename_i x; cases x))
def Vd (fu:Nat)(parserParser:B0):Option Bool:=
 (if (decide (parserParser.next < ((parserParser.tokens).length:Int)))=true then idx parserParser.tokens parserParser.next else some default)>>=fun x1=>
 some (bif (decide (parserParser.next < ((parserParser.tokens).length:Int))) then (x1.Kind == 0) else false)
theorem D1 (fu:Nat)(parserParser:B0):Le (Vd fu parserParser) (I4 parserParser):=by
 unfold Vd I4
 repeat (first | exact Le.rfl | exact O0 _ | refine Le.bind ?_ (fun _=>?_) | refine Le.ite ?_ ?_ | (rename_i x; cases x))
def D9 (fu:Nat)(parserParser:B0):Option (Pn Unit):=
 if (decide (parserParser.next < ((parserParser.tokens).length:Int)))=true then
  idx parserParser.tokens parserParser.next>>=fun x1=>
  some (.pn x1.At)
 else
  some (.pn parserParser.endV)
theorem Pe (fu:Nat)(parserParser:B0):Le (D9 fu parserParser) (Q3 parserParser):=by
 unfold D9 Q3
 repeat (first | exact Le.rfl | exact O0 _ | refine Le.bind ?_ (fun _=>?_) | refine Le.ite ?_ ?_ | (rename_i x; cases x))
def T9 (fu:Nat)(parserParser:B0):Option (Pn (Str×B0)):=
 idx parserParser.tokens (IntKind.i64.wrap ((IntKind.i64.wrap (parserParser.next+1)) - 1))>>=fun x3=>
 some (.ok (x3.Text,(B0.mk parserParser.tokens (IntKind.i64.wrap (parserParser.next+1)) parserParser.endV)))
theorem Jp (fu:Nat)(parserParser:B0):Le (T9 fu parserParser) (T4 parserParser):=by
 unfold T9 T4
 repeat (first | exact Le.rfl | exact O0 _ | refine Le.bind ?_ (fun _=>?_) | refine Le.ite ?_ ?_ | (rename_i x; cases x))
def Nb (fu:Nat)(k:Int)(parserParser:B0):Option (Pn (Str×B0)):=
 (if (!(decide (parserParser.next≥((parserParser.tokens).length:Int))))=true then idx parserParser.tokens parserParser.next else some default)>>=fun x1=>
 if (bif (decide (parserParser.next≥((parserParser.tokens).length:Int))) then true else (x1.Kind != k))=true then
  D9 fu parserParser>>=fun x2=>match x2 with
  | .pn nn=>
  some (.pn nn)
  | .ok x2=>
  T9 fu parserParser
 else
  T9 fu parserParser
theorem Xi (fu:Nat)(k:Int)(parserParser:B0):Le (Nb fu k parserParser) (A5 k parserParser):=by
 unfold Nb A5
 repeat (first | exact Le.rfl | exact Pe fu _ | exact Jp fu _ | exact O0 _ | refine Le.bind ?_ (fun _=>?_) | refine Le.ite ?_ ?_ | (rename_i x; cases x))
def Pb (fu:Nat)(parserParser:B0):Option (Pn (Str×B0)):=
 Nb fu 0 parserParser>>=fun x1=>match x1 with
 | .pn nn=>
 some (.pn nn)
 | .ok x1=>
 some (.ok (x1.1,x1.2))
theorem L1 (fu:Nat)(parserParser:B0):Le (Pb fu parserParser) (U2 parserParser):=by
 unfold Pb U2
 repeat (first | exact Le.rfl | exact Xi fu _ _ | exact O0 _ | refine Le.bind ?_ (fun _=>?_) | refine Le.ite ?_ ?_ | (rename_i x; cases x))
def M4 (fu:Nat)(text:Str)(parserParser:B0):Option (Pn B0):=
 Y0 fu text parserParser>>=fun x1=>
 if (!x1.1)=true then
  D9 fu x1.2>>=fun x2=>match x2 with
  | .pn nn=>
  some (.pn nn)
  | .ok x2=>
  some (.ok x1.2)
 else
  some (.ok x1.2)
theorem N1 (fu:Nat)(text:Str)(parserParser:B0):Le (M4 fu text parserParser) (R0 text parserParser):=by
 unfold M4 R0
 repeat (first | exact Le.rfl | exact W0 fu _ _ | exact Pe fu _ | exact O0 _ | refine Le.bind ?_ (fun _=>?_) | refine Le.ite ?_ ?_ | (rename_i x; cases x))
def Wd (fu:Nat)(parserParser:B0):Option (Pn (Int×B0)):=
 Nb fu 1 parserParser>>=fun x1=>match x1 with
 | .pn nn=>
 some (.pn nn)
 | .ok x1=>
 Zr x1.1>>=fun x2=>
 some (.ok (x2,x1.2))
theorem E1 (fu:Nat)(parserParser:B0):Le (Wd fu parserParser) (P3 parserParser):=by
 unfold Wd P3
 repeat (first | exact Le.rfl | exact Xi fu _ _ | exact O0 _ | refine Le.bind ?_ (fun _=>?_) | refine Le.ite ?_ ?_ | (rename_i x; cases x))
def Qb (fu:Nat)(parserParser:B0):Option (Int×Bool×B0):=
 Y0 fu [42] parserParser>>=fun x1=>
 if x1.1=true then
  some (10,true,x1.2)
 else
  Y0 fu [47] x1.2>>=fun x2=>
  if x2.1=true then
   some (11,true,x2.2)
  else
   Y0 fu [37] x2.2>>=fun x3=>
   some (12,x3.1,x3.2)
theorem X0 (fu:Nat)(parserParser:B0):Le (Qb fu parserParser) (D4 parserParser):=by
 unfold Qb D4
 repeat (first | exact Le.rfl | exact W0 fu _ _ | exact O0 _ | refine Le.bind ?_ (fun _=>?_) | refine Le.ite ?_ ?_ | (rename_i x; cases x))
def Qe (fu:Nat)(parserParser:B0):Option (Int×Bool×B0):=
 Y0 fu [43] parserParser>>=fun x1=>
 if x1.1=true then
  some (8,true,x1.2)
 else
  Y0 fu [45] x1.2>>=fun x2=>
  some (9,x2.1,x2.2)
theorem F1 (fu:Nat)(parserParser:B0):Le (Qe fu parserParser) (M5 parserParser):=by
 unfold Qe M5
 repeat (first | exact Le.rfl | exact W0 fu _ _ | exact O0 _ | refine Le.bind ?_ (fun _=>?_) | refine Le.ite ?_ ?_ | (rename_i x; cases x))
def Re (fu:Nat)(parserParser:B0):Option (Int×Bool×B0):=
 Y0 fu [38,38] parserParser>>=fun x1=>
 some (19,x1.1,x1.2)
theorem G1 (fu:Nat)(parserParser:B0):Le (Re fu parserParser) (N5 parserParser):=by
 unfold Re N5
 repeat (first | exact Le.rfl | exact W0 fu _ _ | exact O0 _ | refine Le.bind ?_ (fun _=>?_) | refine Le.ite ?_ ?_ | (rename_i x; cases x))
def Tf (fu:Nat)(parserParser:B0):Option (Int×Bool×B0):=
 Y0 fu [124,124] parserParser>>=fun x1=>
 some (20,x1.1,x1.2)
theorem O1 (fu:Nat)(parserParser:B0):Le (Tf fu parserParser) (I6 parserParser):=by
 unfold Tf I6
 repeat (first | exact Le.rfl | exact W0 fu _ _ | exact O0 _ | refine Le.bind ?_ (fun _=>?_) | refine Le.ite ?_ ?_ | (rename_i x; cases x))
mutual
def I2:Nat→B0→Option (Pn (A0×B0))
 | 0,_=>none
 | fu+1,parserParser=>
  Jh fu parserParser>>=fun x1=>match x1 with
  | .pn nn=>
  some (.pn nn)
  | .ok x1=>
  Y0 fu [63] x1.2>>=fun x2=>
  if (!x2.1)=true then
   some (.ok (x1.1,x2.2))
  else
   I2 fu x2.2>>=fun x3=>match x3 with
   | .pn nn=>
   some (.pn nn)
   | .ok x3=>
   M4 fu [58] x3.2>>=fun x4=>match x4 with
   | .pn nn=>
   some (.pn nn)
   | .ok x4=>
   I2 fu x4>>=fun x5=>match x5 with
   | .pn nn=>
   some (.pn nn)
   | .ok x5=>
   some (.ok ((A0.mk 23 0 [] [x1.1,x3.1,x5.1]),x5.2))
def Jh:Nat→B0→Option (Pn (A0×B0))
 | 0,_=>none
 | fu+1,parserParser=>
  Se fu parserParser>>=fun x1=>match x1 with
  | .pn nn=>
  some (.pn nn)
  | .ok x1=>
  some (.ok (x1.1,x1.2))
def Se:Nat→B0→Option (Pn (A0×B0))
 | 0,_=>none
 | fu+1,parserParser=>
  Vc fu parserParser>>=fun x1=>match x1 with
  | .pn nn=>
  some (.pn nn)
  | .ok x1=>
  E9 fu x1.2 x1.1
def Vc:Nat→B0→Option (Pn (A0×B0))
 | 0,_=>none
 | fu+1,parserParser=>
  Jc fu parserParser>>=fun x1=>match x1 with
  | .pn nn=>
  some (.pn nn)
  | .ok x1=>
  some (.ok (x1.1,x1.2))
def Jc:Nat→B0→Option (Pn (A0×B0))
 | 0,_=>none
 | fu+1,parserParser=>
  C8 fu parserParser>>=fun x1=>match x1 with
  | .pn nn=>
  some (.pn nn)
  | .ok x1=>
  S7 fu x1.2 x1.1
def C8:Nat→B0→Option (Pn (A0×B0))
 | 0,_=>none
 | fu+1,parserParser=>
  Wc fu parserParser>>=fun x1=>match x1 with
  | .pn nn=>
  some (.pn nn)
  | .ok x1=>
  Y0 fu [61,61] x1.2>>=fun x2=>
  if x2.1=true then
   S2 fu x2.2 x1 13
  else
   Y0 fu [33,61] x2.2>>=fun x4=>
   if x4.1=true then
    S2 fu x4.2 x1 14
   else
    Y0 fu [60] x4.2>>=fun x5=>
    if x5.1=true then
     S2 fu x5.2 x1 15
    else
     Y0 fu [60,61] x5.2>>=fun x6=>
     if x6.1=true then
      S2 fu x6.2 x1 16
     else
      Y0 fu [62] x6.2>>=fun x7=>
      if x7.1=true then
       S2 fu x7.2 x1 17
      else
       Y0 fu [62,61] x7.2>>=fun x8=>
       if x8.1=true then
        S2 fu x8.2 x1 18
       else
        some (.ok (x1.1,x8.2))
def Wc:Nat→B0→Option (Pn (A0×B0))
 | 0,_=>none
 | fu+1,parserParser=>
  Kc fu parserParser>>=fun x1=>match x1 with
  | .pn nn=>
  some (.pn nn)
  | .ok x1=>
  some (.ok (x1.1,x1.2))
def Kc:Nat→B0→Option (Pn (A0×B0))
 | 0,_=>none
 | fu+1,parserParser=>
  U9 fu parserParser>>=fun x1=>match x1 with
  | .pn nn=>
  some (.pn nn)
  | .ok x1=>
  R7 fu x1.2 x1.1
def U9:Nat→B0→Option (Pn (A0×B0))
 | 0,_=>none
 | fu+1,parserParser=>
  Lc fu parserParser>>=fun x1=>match x1 with
  | .pn nn=>
  some (.pn nn)
  | .ok x1=>
  some (.ok (x1.1,x1.2))
def Lc:Nat→B0→Option (Pn (A0×B0))
 | 0,_=>none
 | fu+1,parserParser=>
  C6 fu parserParser>>=fun x1=>match x1 with
  | .pn nn=>
  some (.pn nn)
  | .ok x1=>
  Q7 fu x1.2 x1.1
def C6:Nat→B0→Option (Pn (A0×B0))
 | 0,_=>none
 | fu+1,parserParser=>
  Y0 fu [45] parserParser>>=fun x1=>
  if x1.1=true then
   C6 fu x1.2>>=fun x4=>match x4 with
   | .pn nn=>
   some (.pn nn)
   | .ok x4=>
   some (.ok ((A0.mk 6 0 [] [x4.1]),x4.2))
  else
   Y0 fu [33] x1.2>>=fun x2=>
   if x2.1=true then
    C6 fu x2.2>>=fun x5=>match x5 with
    | .pn nn=>
    some (.pn nn)
    | .ok x5=>
    some (.ok ((A0.mk 7 0 [] [x5.1]),x5.2))
   else
    Yc fu x2.2>>=fun x3=>match x3 with
    | .pn nn=>
    some (.pn nn)
    | .ok x3=>
    some (.ok (x3.1,x3.2))
def Yc:Nat→B0→Option (Pn (A0×B0))
 | 0,_=>none
 | fu+1,parserParser=>
  Vd fu parserParser>>=fun x1=>
  if x1=true then
   Te fu parserParser>>=fun x2=>match x2 with
   | .pn nn=>
   some (.pn nn)
   | .ok x2=>
   some (.ok (x2.1,x2.2))
  else
   Y0 fu [116,114,117,101] parserParser>>=fun x3=>
   if x3.1=true then
    some (.ok ((A0.mk 1 0 [] []),x3.2))
   else
    Y0 fu [102,97,108,115,101] x3.2>>=fun x4=>
    if x4.1=true then
     some (.ok ((A0.mk 2 0 [] []),x4.2))
    else
     Y0 fu [109,105,110] x4.2>>=fun x5=>
     if x5.1=true then
      Rb fu 21 x5.2>>=fun x11=>match x11 with
      | .pn nn=>
      some (.pn nn)
      | .ok x11=>
      some (.ok (x11.1,x11.2))
     else
      Y0 fu [109,97,120] x5.2>>=fun x6=>
      if x6.1=true then
       Rb fu 22 x6.2>>=fun x12=>match x12 with
       | .pn nn=>
       some (.pn nn)
       | .ok x12=>
       some (.ok (x12.1,x12.2))
      else
       Y0 fu [40] x6.2>>=fun x7=>
       if x7.1=true then
        I2 fu x7.2>>=fun x9=>match x9 with
        | .pn nn=>
        some (.pn nn)
        | .ok x9=>
        M4 fu [41] x9.2>>=fun x10=>match x10 with
        | .pn nn=>
        some (.pn nn)
        | .ok x10=>
        some (.ok (x9.1,x10))
       else
        Wd fu x7.2>>=fun x8=>match x8 with
        | .pn nn=>
        some (.pn nn)
        | .ok x8=>
        some (.ok ((A0.mk 0 x8.1 [] []),x8.2))
def Te:Nat→B0→Option (Pn (A0×B0))
 | 0,_=>none
 | fu+1,parserParser=>
  Pb fu parserParser>>=fun x1=>match x1 with
  | .pn nn=>
  some (.pn nn)
  | .ok x1=>
  R6 fu x1.2 3 x1.1 []
def R6:Nat→B0→Int→Str→(List A0)→Option (Pn (A0×B0))
 | 0,_,_,_,_=>none
 | fu+1,o0,o2_Op,o2_Name,o2_Kids=>
  Y0 fu [46] o0>>=fun x2=>
  if x2.1=true then
   Pb fu x2.2>>=fun x3=>match x3 with
   | .pn nn=>
   some (.pn nn)
   | .ok x3=>
   R6 fu x3.2 4 x3.1 [(A0.mk o2_Op 0 o2_Name o2_Kids)]
  else
   Y0 fu [91] x2.2>>=fun x4=>
   if x4.1=true then
    I2 fu x4.2>>=fun x5=>match x5 with
    | .pn nn=>
    some (.pn nn)
    | .ok x5=>
    M4 fu [93] x5.2>>=fun x6=>match x6 with
    | .pn nn=>
    some (.pn nn)
    | .ok x6=>
    R6 fu x6 5 [] [(A0.mk o2_Op 0 o2_Name o2_Kids),x5.1]
   else
    some (.ok ((A0.mk o2_Op 0 o2_Name o2_Kids),x4.2))
def Rb:Nat→Int→B0→Option (Pn (A0×B0))
 | 0,_,_=>none
 | fu+1,op,parserParser=>
  M4 fu [40] parserParser>>=fun x1=>match x1 with
  | .pn nn=>
  some (.pn nn)
  | .ok x1=>
  I2 fu x1>>=fun x2=>match x2 with
  | .pn nn=>
  some (.pn nn)
  | .ok x2=>
  M4 fu [44] x2.2>>=fun x3=>match x3 with
  | .pn nn=>
  some (.pn nn)
  | .ok x3=>
  I2 fu x3>>=fun x4=>match x4 with
  | .pn nn=>
  some (.pn nn)
  | .ok x4=>
  M4 fu [41] x4.2>>=fun x5=>match x5 with
  | .pn nn=>
  some (.pn nn)
  | .ok x5=>
  some (.ok ((A0.mk op 0 [] [x2.1,x4.1]),x5))
def Q7:Nat→B0→A0→Option (Pn (A0×B0))
 | 0,_,_=>none
 | fu+1,o0,o3=>
  Qb fu o0>>=fun x2=>
  if (!x2.2.1)=true then
   some (.ok (o3,x2.2.2))
  else
   C6 fu x2.2.2>>=fun x3=>match x3 with
   | .pn nn=>
   some (.pn nn)
   | .ok x3=>
   Q7 fu x3.2 (A0.mk x2.1 0 [] [o3,x3.1])
def R7:Nat→B0→A0→Option (Pn (A0×B0))
 | 0,_,_=>none
 | fu+1,o0,o3=>
  Qe fu o0>>=fun x2=>
  if (!x2.2.1)=true then
   some (.ok (o3,x2.2.2))
  else
   U9 fu x2.2.2>>=fun x3=>match x3 with
   | .pn nn=>
   some (.pn nn)
   | .ok x3=>
   R7 fu x3.2 (A0.mk x2.1 0 [] [o3,x3.1])
def S2:Nat→B0→(A0×B0)→Int→Option (Pn (A0×B0))
 | 0,_,_,_=>none
 | fu+1,o0,x1,op=>
  Wc fu o0>>=fun x3=>match x3 with
  | .pn nn=>
  some (.pn nn)
  | .ok x3=>
  some (.ok ((A0.mk op 0 [] [x1.1,x3.1]),x3.2))
def S7:Nat→B0→A0→Option (Pn (A0×B0))
 | 0,_,_=>none
 | fu+1,o0,o3=>
  Re fu o0>>=fun x2=>
  if (!x2.2.1)=true then
   some (.ok (o3,x2.2.2))
  else
   C8 fu x2.2.2>>=fun x3=>match x3 with
   | .pn nn=>
   some (.pn nn)
   | .ok x3=>
   S7 fu x3.2 (A0.mk x2.1 0 [] [o3,x3.1])
def E9:Nat→B0→A0→Option (Pn (A0×B0))
 | 0,_,_=>none
 | fu+1,o0,o3=>
  Tf fu o0>>=fun x2=>
  if (!x2.2.1)=true then
   some (.ok (o3,x2.2.2))
  else
   Vc fu x2.2.2>>=fun x3=>match x3 with
   | .pn nn=>
   some (.pn nn)
   | .ok x3=>
   E9 fu x3.2 (A0.mk x2.1 0 [] [o3,x3.1])
end
theorem Zk (fu:Nat):(∀ (parserParser:B0),Le (I2 fu parserParser) (S0 parserParser))∧(∀ (parserParser:B0),Le (Jh fu parserParser) (J6 parserParser))∧(∀ (parserParser:B0),Le (Se fu parserParser) (Z9 parserParser))∧(∀ (parserParser:B0),Le (Vc fu parserParser) (R4 parserParser))∧(∀ (parserParser:B0),Le (Jc fu parserParser) (W7 parserParser))∧(∀ (parserParser:B0),Le (C8 fu parserParser) (X2 parserParser))∧(∀ (parserParser:B0),Le (Wc fu parserParser) (Z3 parserParser))∧(∀ (parserParser:B0),Le (Kc fu parserParser) (X7 parserParser))∧(∀ (parserParser:B0),Le (U9 fu parserParser) (L3 parserParser))∧(∀ (parserParser:B0),Le (Lc fu parserParser) (Y7 parserParser))∧(∀ (parserParser:B0),Le (C6 fu parserParser) (V2 parserParser))∧(∀ (parserParser:B0),Le (Yc fu parserParser) (Z5 parserParser))∧(∀ (parserParser:B0),Le (Te fu parserParser) (O5 parserParser))∧(∀ (o0:B0) (o2_Op:Int) (o2_Name:Str) (o2_Kids:List A0),Le (R6 fu o0 o2_Op o2_Name o2_Kids) (F3 o0 o2_Op o2_Name o2_Kids))∧(∀ (op:Int) (parserParser:B0),Le (Rb fu op parserParser) (K6 op parserParser))∧(∀ (o0:B0) (o3:A0),Le (Q7 fu o0 o3) (O2 o0 o3))∧(∀ (o0:B0) (o3:A0),Le (R7 fu o0 o3) (N2 o0 o3))∧(∀ (o0:B0) (x1:A0×B0) (op:Int),Le (S2 fu o0 x1 op) (A1 o0 x1 op))∧(∀ (o0:B0) (o3:A0),Le (S7 fu o0 o3) (L2 o0 o3))∧(∀ (o0:B0) (o3:A0),Le (E9 fu o0 o3) (W2 o0 o3)):=by
 induction fu with
 | zero=>exact ⟨fun _=>Le.none,fun _=>Le.none,fun _=>Le.none,fun _=>Le.none,fun _=>Le.none,fun _=>Le.none,fun _=>Le.none,fun _=>Le.none,fun _=>Le.none,fun _=>Le.none,fun _=>Le.none,fun _=>Le.none,fun _=>Le.none,fun _ _ _ _=>Le.none,fun _ _=>Le.none,fun _ _=>Le.none,fun _ _=>Le.none,fun _ _ _=>Le.none,fun _ _=>Le.none,fun _ _=>Le.none⟩
 | succ fu ih=>
  obtain ⟨ih0,ih1,ih2,ih3,ih4,ih5,ih6,ih7,ih8,ih9,ih10,ih11,ih12,ih13,ih14,ih15,ih16,ih17,ih18,ih19⟩:=ih
  refine ⟨fun parserParser=>?_,fun parserParser=>?_,fun parserParser=>?_,fun parserParser=>?_,fun parserParser=>?_,fun parserParser=>?_,fun parserParser=>?_,fun parserParser=>?_,fun parserParser=>?_,fun parserParser=>?_,fun parserParser=>?_,fun parserParser=>?_,fun parserParser=>?_,fun o0 o2_Op o2_Name o2_Kids=>?_,fun op parserParser=>?_,fun o0 o3=>?_,fun o0 o3=>?_,fun o0 x1 op=>?_,fun o0 o3=>?_,fun o0 o3=>?_⟩
  ·rw [I2,S0]
   repeat (first | exact Le.rfl | exact ih0 _ | exact ih1 _ | exact ih2 _ | exact ih3 _ | exact ih4 _ | exact ih5 _ | exact ih6 _ | exact ih7 _ | exact ih8 _ | exact ih9 _ | exact ih10 _ | exact ih11 _ | exact ih12 _ | exact ih13 _ _ _ _ | exact ih14 _ _ | exact ih15 _ _ | exact ih16 _ _ | exact ih17 _ _ _ | exact ih18 _ _ | exact ih19 _ _ | exact W0 fu _ _ | exact N1 fu _ _ | exact D1 fu _ | exact E1 fu _ | exact L1 fu _ | exact X0 fu _ | exact F1 fu _ | exact G1 fu _ | exact O1 fu _ | exact O0 _ | refine Le.bind ?_ (fun _=>?_) | refine Le.ite ?_ ?_ | (rename_i x; cases x))
  ·rw [Jh,J6]
   repeat (first | exact Le.rfl | exact ih0 _ | exact ih1 _ | exact ih2 _ | exact ih3 _ | exact ih4 _ | exact ih5 _ | exact ih6 _ | exact ih7 _ | exact ih8 _ | exact ih9 _ | exact ih10 _ | exact ih11 _ | exact ih12 _ | exact ih13 _ _ _ _ | exact ih14 _ _ | exact ih15 _ _ | exact ih16 _ _ | exact ih17 _ _ _ | exact ih18 _ _ | exact ih19 _ _ | exact W0 fu _ _ | exact N1 fu _ _ | exact D1 fu _ | exact E1 fu _ | exact L1 fu _ | exact X0 fu _ | exact F1 fu _ | exact G1 fu _ | exact O1 fu _ | exact O0 _ | refine Le.bind ?_ (fun _=>?_) | refine Le.ite ?_ ?_ | (rename_i x; cases x))
  ·rw [Se,Z9]
   repeat (first | exact Le.rfl | exact ih0 _ | exact ih1 _ | exact ih2 _ | exact ih3 _ | exact ih4 _ | exact ih5 _ | exact ih6 _ | exact ih7 _ | exact ih8 _ | exact ih9 _ | exact ih10 _ | exact ih11 _ | exact ih12 _ | exact ih13 _ _ _ _ | exact ih14 _ _ | exact ih15 _ _ | exact ih16 _ _ | exact ih17 _ _ _ | exact ih18 _ _ | exact ih19 _ _ | exact W0 fu _ _ | exact N1 fu _ _ | exact D1 fu _ | exact E1 fu _ | exact L1 fu _ | exact X0 fu _ | exact F1 fu _ | exact G1 fu _ | exact O1 fu _ | exact O0 _ | refine Le.bind ?_ (fun _=>?_) | refine Le.ite ?_ ?_ | (rename_i x; cases x))
  ·rw [Vc,R4]
   repeat (first | exact Le.rfl | exact ih0 _ | exact ih1 _ | exact ih2 _ | exact ih3 _ | exact ih4 _ | exact ih5 _ | exact ih6 _ | exact ih7 _ | exact ih8 _ | exact ih9 _ | exact ih10 _ | exact ih11 _ | exact ih12 _ | exact ih13 _ _ _ _ | exact ih14 _ _ | exact ih15 _ _ | exact ih16 _ _ | exact ih17 _ _ _ | exact ih18 _ _ | exact ih19 _ _ | exact W0 fu _ _ | exact N1 fu _ _ | exact D1 fu _ | exact E1 fu _ | exact L1 fu _ | exact X0 fu _ | exact F1 fu _ | exact G1 fu _ | exact O1 fu _ | exact O0 _ | refine Le.bind ?_ (fun _=>?_) | refine Le.ite ?_ ?_ | (rename_i x; cases x))
  ·rw [Jc,W7]
   repeat (first | exact Le.rfl | exact ih0 _ | exact ih1 _ | exact ih2 _ | exact ih3 _ | exact ih4 _ | exact ih5 _ | exact ih6 _ | exact ih7 _ | exact ih8 _ | exact ih9 _ | exact ih10 _ | exact ih11 _ | exact ih12 _ | exact ih13 _ _ _ _ | exact ih14 _ _ | exact ih15 _ _ | exact ih16 _ _ | exact ih17 _ _ _ | exact ih18 _ _ | exact ih19 _ _ | exact W0 fu _ _ | exact N1 fu _ _ | exact D1 fu _ | exact E1 fu _ | exact L1 fu _ | exact X0 fu _ | exact F1 fu _ | exact G1 fu _ | exact O1 fu _ | exact O0 _ | refine Le.bind ?_ (fun _=>?_) | refine Le.ite ?_ ?_ | (rename_i x; cases x))
  ·rw [C8,X2]
   repeat (first | exact Le.rfl | exact ih0 _ | exact ih1 _ | exact ih2 _ | exact ih3 _ | exact ih4 _ | exact ih5 _ | exact ih6 _ | exact ih7 _ | exact ih8 _ | exact ih9 _ | exact ih10 _ | exact ih11 _ | exact ih12 _ | exact ih13 _ _ _ _ | exact ih14 _ _ | exact ih15 _ _ | exact ih16 _ _ | exact ih17 _ _ _ | exact ih18 _ _ | exact ih19 _ _ | exact W0 fu _ _ | exact N1 fu _ _ | exact D1 fu _ | exact E1 fu _ | exact L1 fu _ | exact X0 fu _ | exact F1 fu _ | exact G1 fu _ | exact O1 fu _ | exact O0 _ | refine Le.bind ?_ (fun _=>?_) | refine Le.ite ?_ ?_ | (rename_i x; cases x))
  ·rw [Wc,Z3]
   repeat (first | exact Le.rfl | exact ih0 _ | exact ih1 _ | exact ih2 _ | exact ih3 _ | exact ih4 _ | exact ih5 _ | exact ih6 _ | exact ih7 _ | exact ih8 _ | exact ih9 _ | exact ih10 _ | exact ih11 _ | exact ih12 _ | exact ih13 _ _ _ _ | exact ih14 _ _ | exact ih15 _ _ | exact ih16 _ _ | exact ih17 _ _ _ | exact ih18 _ _ | exact ih19 _ _ | exact W0 fu _ _ | exact N1 fu _ _ | exact D1 fu _ | exact E1 fu _ | exact L1 fu _ | exact X0 fu _ | exact F1 fu _ | exact G1 fu _ | exact O1 fu _ | exact O0 _ | refine Le.bind ?_ (fun _=>?_) | refine Le.ite ?_ ?_ | (rename_i x; cases x))
  ·rw [Kc,X7]
   repeat (first | exact Le.rfl | exact ih0 _ | exact ih1 _ | exact ih2 _ | exact ih3 _ | exact ih4 _ | exact ih5 _ | exact ih6 _ | exact ih7 _ | exact ih8 _ | exact ih9 _ | exact ih10 _ | exact ih11 _ | exact ih12 _ | exact ih13 _ _ _ _ | exact ih14 _ _ | exact ih15 _ _ | exact ih16 _ _ | exact ih17 _ _ _ | exact ih18 _ _ | exact ih19 _ _ | exact W0 fu _ _ | exact N1 fu _ _ | exact D1 fu _ | exact E1 fu _ | exact L1 fu _ | exact X0 fu _ | exact F1 fu _ | exact G1 fu _ | exact O1 fu _ | exact O0 _ | refine Le.bind ?_ (fun _=>?_) | refine Le.ite ?_ ?_ | (rename_i x; cases x))
  ·rw [U9,L3]
   repeat (first | exact Le.rfl | exact ih0 _ | exact ih1 _ | exact ih2 _ | exact ih3 _ | exact ih4 _ | exact ih5 _ | exact ih6 _ | exact ih7 _ | exact ih8 _ | exact ih9 _ | exact ih10 _ | exact ih11 _ | exact ih12 _ | exact ih13 _ _ _ _ | exact ih14 _ _ | exact ih15 _ _ | exact ih16 _ _ | exact ih17 _ _ _ | exact ih18 _ _ | exact ih19 _ _ | exact W0 fu _ _ | exact N1 fu _ _ | exact D1 fu _ | exact E1 fu _ | exact L1 fu _ | exact X0 fu _ | exact F1 fu _ | exact G1 fu _ | exact O1 fu _ | exact O0 _ | refine Le.bind ?_ (fun _=>?_) | refine Le.ite ?_ ?_ | (rename_i x; cases x))
  ·rw [Lc,Y7]
   repeat (first | exact Le.rfl | exact ih0 _ | exact ih1 _ | exact ih2 _ | exact ih3 _ | exact ih4 _ | exact ih5 _ | exact ih6 _ | exact ih7 _ | exact ih8 _ | exact ih9 _ | exact ih10 _ | exact ih11 _ | exact ih12 _ | exact ih13 _ _ _ _ | exact ih14 _ _ | exact ih15 _ _ | exact ih16 _ _ | exact ih17 _ _ _ | exact ih18 _ _ | exact ih19 _ _ | exact W0 fu _ _ | exact N1 fu _ _ | exact D1 fu _ | exact E1 fu _ | exact L1 fu _ | exact X0 fu _ | exact F1 fu _ | exact G1 fu _ | exact O1 fu _ | exact O0 _ | refine Le.bind ?_ (fun _=>?_) | refine Le.ite ?_ ?_ | (rename_i x; cases x))
  ·rw [C6,V2]
   repeat (first | exact Le.rfl | exact ih0 _ | exact ih1 _ | exact ih2 _ | exact ih3 _ | exact ih4 _ | exact ih5 _ | exact ih6 _ | exact ih7 _ | exact ih8 _ | exact ih9 _ | exact ih10 _ | exact ih11 _ | exact ih12 _ | exact ih13 _ _ _ _ | exact ih14 _ _ | exact ih15 _ _ | exact ih16 _ _ | exact ih17 _ _ _ | exact ih18 _ _ | exact ih19 _ _ | exact W0 fu _ _ | exact N1 fu _ _ | exact D1 fu _ | exact E1 fu _ | exact L1 fu _ | exact X0 fu _ | exact F1 fu _ | exact G1 fu _ | exact O1 fu _ | exact O0 _ | refine Le.bind ?_ (fun _=>?_) | refine Le.ite ?_ ?_ | (rename_i x; cases x))
  ·rw [Yc,Z5]
   repeat (first | exact Le.rfl | exact ih0 _ | exact ih1 _ | exact ih2 _ | exact ih3 _ | exact ih4 _ | exact ih5 _ | exact ih6 _ | exact ih7 _ | exact ih8 _ | exact ih9 _ | exact ih10 _ | exact ih11 _ | exact ih12 _ | exact ih13 _ _ _ _ | exact ih14 _ _ | exact ih15 _ _ | exact ih16 _ _ | exact ih17 _ _ _ | exact ih18 _ _ | exact ih19 _ _ | exact W0 fu _ _ | exact N1 fu _ _ | exact D1 fu _ | exact E1 fu _ | exact L1 fu _ | exact X0 fu _ | exact F1 fu _ | exact G1 fu _ | exact O1 fu _ | exact O0 _ | refine Le.bind ?_ (fun _=>?_) | refine Le.ite ?_ ?_ | (rename_i x; cases x))
  ·rw [Te,O5]
   repeat (first | exact Le.rfl | exact ih0 _ | exact ih1 _ | exact ih2 _ | exact ih3 _ | exact ih4 _ | exact ih5 _ | exact ih6 _ | exact ih7 _ | exact ih8 _ | exact ih9 _ | exact ih10 _ | exact ih11 _ | exact ih12 _ | exact ih13 _ _ _ _ | exact ih14 _ _ | exact ih15 _ _ | exact ih16 _ _ | exact ih17 _ _ _ | exact ih18 _ _ | exact ih19 _ _ | exact W0 fu _ _ | exact N1 fu _ _ | exact D1 fu _ | exact E1 fu _ | exact L1 fu _ | exact X0 fu _ | exact F1 fu _ | exact G1 fu _ | exact O1 fu _ | exact O0 _ | refine Le.bind ?_ (fun _=>?_) | refine Le.ite ?_ ?_ | (rename_i x; cases x))
  ·rw [R6,F3]
   repeat (first | exact Le.rfl | exact ih0 _ | exact ih1 _ | exact ih2 _ | exact ih3 _ | exact ih4 _ | exact ih5 _ | exact ih6 _ | exact ih7 _ | exact ih8 _ | exact ih9 _ | exact ih10 _ | exact ih11 _ | exact ih12 _ | exact ih13 _ _ _ _ | exact ih14 _ _ | exact ih15 _ _ | exact ih16 _ _ | exact ih17 _ _ _ | exact ih18 _ _ | exact ih19 _ _ | exact W0 fu _ _ | exact N1 fu _ _ | exact D1 fu _ | exact E1 fu _ | exact L1 fu _ | exact X0 fu _ | exact F1 fu _ | exact G1 fu _ | exact O1 fu _ | exact O0 _ | refine Le.bind ?_ (fun _=>?_) | refine Le.ite ?_ ?_ | (rename_i x; cases x))
  ·rw [Rb,K6]
   repeat (first | exact Le.rfl | exact ih0 _ | exact ih1 _ | exact ih2 _ | exact ih3 _ | exact ih4 _ | exact ih5 _ | exact ih6 _ | exact ih7 _ | exact ih8 _ | exact ih9 _ | exact ih10 _ | exact ih11 _ | exact ih12 _ | exact ih13 _ _ _ _ | exact ih14 _ _ | exact ih15 _ _ | exact ih16 _ _ | exact ih17 _ _ _ | exact ih18 _ _ | exact ih19 _ _ | exact W0 fu _ _ | exact N1 fu _ _ | exact D1 fu _ | exact E1 fu _ | exact L1 fu _ | exact X0 fu _ | exact F1 fu _ | exact G1 fu _ | exact O1 fu _ | exact O0 _ | refine Le.bind ?_ (fun _=>?_) | refine Le.ite ?_ ?_ | (rename_i x; cases x))
  ·rw [Q7,O2]
   repeat (first | exact Le.rfl | exact ih0 _ | exact ih1 _ | exact ih2 _ | exact ih3 _ | exact ih4 _ | exact ih5 _ | exact ih6 _ | exact ih7 _ | exact ih8 _ | exact ih9 _ | exact ih10 _ | exact ih11 _ | exact ih12 _ | exact ih13 _ _ _ _ | exact ih14 _ _ | exact ih15 _ _ | exact ih16 _ _ | exact ih17 _ _ _ | exact ih18 _ _ | exact ih19 _ _ | exact W0 fu _ _ | exact N1 fu _ _ | exact D1 fu _ | exact E1 fu _ | exact L1 fu _ | exact X0 fu _ | exact F1 fu _ | exact G1 fu _ | exact O1 fu _ | exact O0 _ | refine Le.bind ?_ (fun _=>?_) | refine Le.ite ?_ ?_ | (rename_i x; cases x))
  ·rw [R7,N2]
   repeat (first | exact Le.rfl | exact ih0 _ | exact ih1 _ | exact ih2 _ | exact ih3 _ | exact ih4 _ | exact ih5 _ | exact ih6 _ | exact ih7 _ | exact ih8 _ | exact ih9 _ | exact ih10 _ | exact ih11 _ | exact ih12 _ | exact ih13 _ _ _ _ | exact ih14 _ _ | exact ih15 _ _ | exact ih16 _ _ | exact ih17 _ _ _ | exact ih18 _ _ | exact ih19 _ _ | exact W0 fu _ _ | exact N1 fu _ _ | exact D1 fu _ | exact E1 fu _ | exact L1 fu _ | exact X0 fu _ | exact F1 fu _ | exact G1 fu _ | exact O1 fu _ | exact O0 _ | refine Le.bind ?_ (fun _=>?_) | refine Le.ite ?_ ?_ | (rename_i x; cases x))
  ·rw [S2,A1]
   repeat (first | exact Le.rfl | exact ih0 _ | exact ih1 _ | exact ih2 _ | exact ih3 _ | exact ih4 _ | exact ih5 _ | exact ih6 _ | exact ih7 _ | exact ih8 _ | exact ih9 _ | exact ih10 _ | exact ih11 _ | exact ih12 _ | exact ih13 _ _ _ _ | exact ih14 _ _ | exact ih15 _ _ | exact ih16 _ _ | exact ih17 _ _ _ | exact ih18 _ _ | exact ih19 _ _ | exact W0 fu _ _ | exact N1 fu _ _ | exact D1 fu _ | exact E1 fu _ | exact L1 fu _ | exact X0 fu _ | exact F1 fu _ | exact G1 fu _ | exact O1 fu _ | exact O0 _ | refine Le.bind ?_ (fun _=>?_) | refine Le.ite ?_ ?_ | (rename_i x; cases x))
  ·rw [S7,L2]
   repeat (first | exact Le.rfl | exact ih0 _ | exact ih1 _ | exact ih2 _ | exact ih3 _ | exact ih4 _ | exact ih5 _ | exact ih6 _ | exact ih7 _ | exact ih8 _ | exact ih9 _ | exact ih10 _ | exact ih11 _ | exact ih12 _ | exact ih13 _ _ _ _ | exact ih14 _ _ | exact ih15 _ _ | exact ih16 _ _ | exact ih17 _ _ _ | exact ih18 _ _ | exact ih19 _ _ | exact W0 fu _ _ | exact N1 fu _ _ | exact D1 fu _ | exact E1 fu _ | exact L1 fu _ | exact X0 fu _ | exact F1 fu _ | exact G1 fu _ | exact O1 fu _ | exact O0 _ | refine Le.bind ?_ (fun _=>?_) | refine Le.ite ?_ ?_ | (rename_i x; cases x))
  ·rw [E9,W2]
   repeat (first | exact Le.rfl | exact ih0 _ | exact ih1 _ | exact ih2 _ | exact ih3 _ | exact ih4 _ | exact ih5 _ | exact ih6 _ | exact ih7 _ | exact ih8 _ | exact ih9 _ | exact ih10 _ | exact ih11 _ | exact ih12 _ | exact ih13 _ _ _ _ | exact ih14 _ _ | exact ih15 _ _ | exact ih16 _ _ | exact ih17 _ _ _ | exact ih18 _ _ | exact ih19 _ _ | exact W0 fu _ _ | exact N1 fu _ _ | exact D1 fu _ | exact E1 fu _ | exact L1 fu _ | exact X0 fu _ | exact F1 fu _ | exact G1 fu _ | exact O1 fu _ | exact O0 _ | refine Le.bind ?_ (fun _=>?_) | refine Le.ite ?_ ?_ | (rename_i x; cases x))
theorem Nm (fu:Nat)(parserParser:B0):Le (I2 fu parserParser) (S0 parserParser):=(Zk fu).1 parserParser
def Uf (fu:Nat)(parserParser:B0)(apiExpr:A0):Option (Pn (B0×A0)):=
 I2 fu parserParser>>=fun x1=>match x1 with
 | .pn nn=>
 some (.pn nn)
 | .ok x1=>
 some (.ok (x1.2,x1.1))
theorem Ts (fu:Nat)(parserParser:B0)(apiExpr:A0):Le (Uf fu parserParser apiExpr) (L6 parserParser apiExpr):=by
 unfold Uf L6
 repeat (first | exact Le.rfl | exact Nm fu _ | exact O0 _ | refine Le.bind ?_ (fun _=>?_) | refine Le.ite ?_ ?_ | (rename_i x; cases x))
def Xm (fu:Nat)(text:Str)(apiExpr:A0):Option (Int×Int×A0):=
 Er fu text>>=fun x1=>
 if (x1.2.2 != 0)=true then
  some (x1.2.1,x1.2.2,apiExpr)
 else
  Uf fu (B0.mk x1.1 0 ((text).length:Int)) apiExpr>>=fun x2=>match x2 with
  | .pn nn=>
  some (nn,6,apiExpr)
  | .ok x2=>
  if (decide (x2.1.next < ((x2.1.tokens).length:Int)))=true then
   D9 fu x2.1>>=fun x3=>match x3 with
   | .pn nn=>
   some (nn,6,x2.2)
   | .ok x3=>
   some (0,0,x2.2)
  else
   some (0,0,x2.2)
theorem U13 (fu:Nat)(text:Str)(apiExpr:A0):Le (Xm fu text apiExpr) (Td text apiExpr):=by
 unfold Xm Td
 repeat (first | exact Le.rfl | exact T17 fu _ | exact Ts fu _ _ | exact Pe fu _ | exact O0 _ | refine Le.bind ?_ (fun _=>?_) | refine Le.ite ?_ ?_ | (rename_i x; cases x))
def Vf (fu:Nat)(d:Int)(syntaxReport:I0):Option I0:=
 some (I0.mk syntaxReport.nodes (max syntaxReport.depth d) syntaxReport.badForm syntaxReport.badName syntaxReport.badNumber)
theorem U8 (fu:Nat)(d:Int)(syntaxReport:I0):Le (Vf fu d syntaxReport) (M6 d syntaxReport):=by
 unfold Vf M6
 repeat (first | exact Le.rfl | exact O0 _ | refine Le.bind ?_ (fun _=>?_) | refine Le.ite ?_ ?_ | (rename_i x; cases x))
def Fb (fu:Nat)(op:Int)(v9:Bool):Option Int:=
 if v9=true then
  some 1
 else
  if (op == 5)=true then
   some 2
  else
   if (op == 23)=true then
    some 3
   else
    if (bif (decide (op≥8)) then (decide (op≤22)) else false)=true then
     some 2
    else
     some (-1)
theorem Rx (fu:Nat)(op:Int)(v9:Bool):Le (Fb fu op v9) (G7 op v9):=by
 unfold Fb G7
 repeat (first | exact Le.rfl | exact O0 _ | refine Le.bind ?_ (fun _=>?_) | refine Le.ite ?_ ?_ | (rename_i x; cases x))
def P9 (fu:Nat)(op:Int)(v4:Bool):Option Int:=
 if v4=true then
  some 0
 else
  if (op == 4)=true then
   Fb fu op (op == 4)
  else
   if (op == 6)=true then
    Fb fu op (op == 6)
   else
    Fb fu op (op == 7)
theorem Sx (fu:Nat)(op:Int)(v4:Bool):Le (P9 fu op v4) (P5 op v4):=by
 unfold P9 P5
 repeat (first | exact Le.rfl | exact Rx fu _ _ | exact O0 _ | refine Le.bind ?_ (fun _=>?_) | refine Le.ite ?_ ?_ | (rename_i x; cases x))
def Al (fu:Nat)(op:Int):Option Int:=
 if (op == 0)=true then
  P9 fu op (op == 0)
 else
  if (op == 1)=true then
   P9 fu op (op == 1)
  else
   if (op == 2)=true then
    P9 fu op (op == 2)
   else
    P9 fu op (op == 3)
theorem Kd (fu:Nat)(op:Int):Le (Al fu op) (Cc op):=by
 unfold Al Cc
 repeat (first | exact Le.rfl | exact Sx fu _ _ | exact O0 _ | refine Le.bind ?_ (fun _=>?_) | refine Le.ite ?_ ?_ | (rename_i x; cases x))
def D7 (fu:Nat)(ok:Bool)(syntaxReport:I0):Option I0:=
 some (I0.mk syntaxReport.nodes syntaxReport.depth (bif syntaxReport.badForm then true else (!ok)) syntaxReport.badName syntaxReport.badNumber)
theorem V8 (fu:Nat)(ok:Bool)(syntaxReport:I0):Le (D7 fu ok syntaxReport) (Z1 ok syntaxReport):=by
 unfold D7 Z1
 repeat (first | exact Le.rfl | exact O0 _ | refine Le.bind ?_ (fun _=>?_) | refine Le.ite ?_ ?_ | (rename_i x; cases x))
def Gb:Nat→A0→Option Bool
 | 0,_=>none
 | fu+1,o0=>
  if (bif (o0.Op == 4) then true else (o0.Op == 5))=true then
   if (((o0.Kids).length:Int) == 0)=true then
    some false
   else
    idx o0.Kids 0>>=fun x1=>
    Gb fu x1
  else
   some (o0.Op == 3)
theorem Yv (fu:Nat):(∀ (o0:A0),Le (Gb fu o0) (Q5 o0)):=by
 induction fu with
 | zero=>exact fun _=>Le.none
 | succ fu ih=>
  have ih0:=ih
  refine fun o0=>?_
  ·rw [Gb,Q5]
   repeat (first | exact Le.rfl | exact ih0 _ | exact O0 _ | refine Le.bind ?_ (fun _=>?_) | refine Le.ite ?_ ?_ | (rename_i x; cases x))
theorem Tx (fu:Nat)(o0:A0):Le (Gb fu o0) (Q5 o0):=(Yv fu) o0
def Bl (fu:Nat)(e:A0):Option Bool:=
 Gb fu e
theorem Ld (fu:Nat)(e:A0):Le (Bl fu e) (Dc e):=by
 unfold Bl Dc
 repeat (first | exact Le.rfl | exact Tx fu _ | exact O0 _ | refine Le.bind ?_ (fun _=>?_) | refine Le.ite ?_ ?_ | (rename_i x; cases x))
def Hb:Nat→Str→Int→Option Bool
 | 0,_,_=>none
 | fu+1,s,v6=>
  if (decide (v6 < ((s).length:Int)))=true then
   idx s v6>>=fun x1=>
   Ic fu (x1.toNat:Int)>>=fun x2=>
   (if ((!x2)&&(!(v6 == 0)))=true then idx s v6 else some default)>>=fun x3=>
   (if ((!x2)&&(!(v6 == 0)))=true then Ya fu (x3.toNat:Int) else some default)>>=fun x4=>
   if (bif (!x2) then (bif (v6 == 0) then true else (!x4)) else false)=true then
    some false
   else
    Hb fu s (IntKind.i64.wrap (v6+1))
  else
   some (!(s == []))
theorem Zv (fu:Nat):(∀ (s:Str) (v6:Int),Le (Hb fu s v6) (J4 s v6)):=by
 induction fu with
 | zero=>exact fun _ _=>Le.none
 | succ fu ih=>
  have ih0:=ih
  refine fun s v6=>?_
  ·rw [Hb,J4]
   repeat (first | exact Le.rfl | exact ih0 _ _ | exact Xh fu _ | exact Rf fu _ | exact O0 _ | refine Le.bind ?_ (fun _=>?_) | refine Le.ite ?_ ?_ | (rename_i x; cases x))
theorem Ux (fu:Nat)(s:Str)(v6:Int):Le (Hb fu s v6) (J4 s v6):=(Zv fu) s v6
def Cl (fu:Nat)(s:Str):Option Bool:=
 Hb fu s 0
theorem S12 (fu:Nat)(s:Str):Le (Cl fu s) (Ge s):=by
 unfold Cl Ge
 repeat (first | exact Le.rfl | exact Ux fu _ _ | exact O0 _ | refine Le.bind ?_ (fun _=>?_) | refine Le.ite ?_ ?_ | (rename_i x; cases x))
def Dl (fu:Nat)(s:Str):Option Bool:=
 (if (decide (((s).length:Int)≤12))=true then Cl fu s else some default)>>=fun x1=>
 (if (bif (decide (((s).length:Int)≤12)) then x1 else false)=true then Sf fu s else some default)>>=fun x2=>
 some (bif (bif (decide (((s).length:Int)≤12)) then x1 else false) then (!x2) else false)
theorem T12 (fu:Nat)(s:Str):Le (Dl fu s) (He s):=by
 unfold Dl He
 repeat (first | exact Le.rfl | exact S12 fu _ | exact Nn fu _ | exact O0 _ | refine Le.bind ?_ (fun _=>?_) | refine Le.ite ?_ ?_ | (rename_i x; cases x))
def Uj (fu:Nat)(s:Str):Option Bool:=
 Dl fu s>>=fun x1=>
 some x1
theorem Z10 (fu:Nat)(s:Str):Le (Uj fu s) (Ab s):=by
 unfold Uj Ab
 repeat (first | exact Le.rfl | exact T12 fu _ | exact O0 _ | refine Le.bind ?_ (fun _=>?_) | refine Le.ite ?_ ?_ | (rename_i x; cases x))
def Wf (fu:Nat)(s:Str)(syntaxReport:I0):Option I0:=
 (if (!syntaxReport.badName)=true then Uj fu s else some default)>>=fun x1=>
 some (I0.mk syntaxReport.nodes syntaxReport.depth syntaxReport.badForm (bif syntaxReport.badName then true else (!x1)) syntaxReport.badNumber)
theorem W8 (fu:Nat)(s:Str)(syntaxReport:I0):Le (Wf fu s syntaxReport) (K4 s syntaxReport):=by
 unfold Wf K4
 repeat (first | exact Le.rfl | exact Z10 fu _ | exact O0 _ | refine Le.bind ?_ (fun _=>?_) | refine Le.ite ?_ ?_ | (rename_i x; cases x))
def Vj (fu:Nat)(n:Int)(low:Int)(high:Int):Option Bool:=
 some (bif (decide (n≥low)) then (decide (n≤high)) else false)
theorem Mc (fu:Nat)(n:Int)(low:Int)(high:Int):Le (Vj fu n low high) (B8 n low high):=by
 unfold Vj B8
 repeat (first | exact Le.rfl | exact O0 _ | refine Le.bind ?_ (fun _=>?_) | refine Le.ite ?_ ?_ | (rename_i x; cases x))
def Xd (fu:Nat)(ok:Bool)(syntaxReport:I0):Option I0:=
 some (I0.mk syntaxReport.nodes syntaxReport.depth syntaxReport.badForm syntaxReport.badName (bif syntaxReport.badNumber then true else (!ok)))
theorem E7 (fu:Nat)(ok:Bool)(syntaxReport:I0):Le (Xd fu ok syntaxReport) (H3 ok syntaxReport):=by
 unfold Xd H3
 repeat (first | exact Le.rfl | exact O0 _ | refine Le.bind ?_ (fun _=>?_) | refine Le.ite ?_ ?_ | (rename_i x; cases x))
mutual
def F9:Nat→A0→Int→I0→Option I0
 | 0,_,_,_=>none
 | fu+1,e,depth,syntaxReport=>
  Vf fu depth (I0.mk (IntKind.i64.wrap (syntaxReport.nodes+1)) syntaxReport.depth syntaxReport.badForm syntaxReport.badName syntaxReport.badNumber)>>=fun x1=>
  Al fu e.Op>>=fun x2=>
  D7 fu (x2 == ((e.Kids).length:Int)) x1>>=fun x3=>
  D7 fu (bif (e.NV == 0) then true else (e.Op == 0)) x3>>=fun x4=>
  D7 fu (bif (e.Name == []) then true else (bif (e.Op == 3) then true else (e.Op == 4))) x4>>=fun x5=>
  if (bif (e.Op == 4) then true else (e.Op == 5))=true then
   Bl fu e>>=fun x6=>
   D7 fu x6 x5>>=fun x7=>
   V9 fu e depth x7
  else
   V9 fu e depth x5
def V9:Nat→A0→Int→I0→Option I0
 | 0,_,_,_=>none
 | fu+1,e,depth,o0=>
  if (bif (e.Op == 3) then true else (e.Op == 4))=true then
   Wf fu e.Name o0>>=fun x8=>
   W9 fu e depth x8
  else
   W9 fu e depth o0
def W9:Nat→A0→Int→I0→Option I0
 | 0,_,_,_=>none
 | fu+1,e,depth,o01=>
  if (e.Op == 0)=true then
   Vj fu e.NV 0 1048576>>=fun x9=>
   Xd fu x9 o01>>=fun x10=>
   X9 fu e depth x10
  else
   X9 fu e depth o01
def X9:Nat→A0→Int→I0→Option I0
 | 0,_,_,_=>none
 | fu+1,e,depth,o02=>
  Y9 fu e depth o02 0
def Y9:Nat→A0→Int→I0→Int→Option I0
 | 0,_,_,_,_=>none
 | fu+1,e,depth,o03,v82=>
  if (decide (v82 < ((e.Kids).length:Int)))=true then
   idx e.Kids v82>>=fun x11=>
   F9 fu x11 (IntKind.i64.wrap (depth+1)) o03>>=fun x12=>
   Y9 fu e depth x12 (IntKind.i64.wrap (v82+1))
  else
   some o03
end
theorem Gr (fu:Nat):(∀ (e:A0) (depth:Int) (syntaxReport:I0),Le (F9 fu e depth syntaxReport) (J3 e depth syntaxReport))∧(∀ (e:A0) (depth:Int) (o0:I0),Le (V9 fu e depth o0) (U4 e depth o0))∧(∀ (e:A0) (depth:Int) (o01:I0),Le (W9 fu e depth o01) (A6 e depth o01))∧(∀ (e:A0) (depth:Int) (o02:I0),Le (X9 fu e depth o02) (B6 e depth o02))∧(∀ (e:A0) (depth:Int) (o03:I0) (v82:Int),Le (Y9 fu e depth o03 v82) (Z2 e depth o03 v82)):=by
 induction fu with
 | zero=>exact ⟨fun _ _ _=>Le.none,fun _ _ _=>Le.none,fun _ _ _=>Le.none,fun _ _ _=>Le.none,fun _ _ _ _=>Le.none⟩
 | succ fu ih=>
  obtain ⟨ih0,ih1,ih2,ih3,ih4⟩:=ih
  refine ⟨fun e depth syntaxReport=>?_,fun e depth o0=>?_,fun e depth o01=>?_,fun e depth o02=>?_,fun e depth o03 v82=>?_⟩
  ·rw [F9,J3]
   repeat (first | exact Le.rfl | exact ih0 _ _ _ | exact ih1 _ _ _ | exact ih2 _ _ _ | exact ih3 _ _ _ | exact ih4 _ _ _ _ | exact U8 fu _ _ | exact Kd fu _ | exact V8 fu _ _ | exact Ld fu _ | exact W8 fu _ _ | exact Mc fu _ _ _ | exact E7 fu _ _ | exact O0 _ | refine Le.bind ?_ (fun _=>?_) | refine Le.ite ?_ ?_ | (rename_i x; cases x))
  ·rw [V9,U4]
   repeat (first | exact Le.rfl | exact ih0 _ _ _ | exact ih1 _ _ _ | exact ih2 _ _ _ | exact ih3 _ _ _ | exact ih4 _ _ _ _ | exact U8 fu _ _ | exact Kd fu _ | exact V8 fu _ _ | exact Ld fu _ | exact W8 fu _ _ | exact Mc fu _ _ _ | exact E7 fu _ _ | exact O0 _ | refine Le.bind ?_ (fun _=>?_) | refine Le.ite ?_ ?_ | (rename_i x; cases x))
  ·rw [W9,A6]
   repeat (first | exact Le.rfl | exact ih0 _ _ _ | exact ih1 _ _ _ | exact ih2 _ _ _ | exact ih3 _ _ _ | exact ih4 _ _ _ _ | exact U8 fu _ _ | exact Kd fu _ | exact V8 fu _ _ | exact Ld fu _ | exact W8 fu _ _ | exact Mc fu _ _ _ | exact E7 fu _ _ | exact O0 _ | refine Le.bind ?_ (fun _=>?_) | refine Le.ite ?_ ?_ | (rename_i x; cases x))
  ·rw [X9,B6]
   repeat (first | exact Le.rfl | exact ih0 _ _ _ | exact ih1 _ _ _ | exact ih2 _ _ _ | exact ih3 _ _ _ | exact ih4 _ _ _ _ | exact U8 fu _ _ | exact Kd fu _ | exact V8 fu _ _ | exact Ld fu _ | exact W8 fu _ _ | exact Mc fu _ _ _ | exact E7 fu _ _ | exact O0 _ | refine Le.bind ?_ (fun _=>?_) | refine Le.ite ?_ ?_ | (rename_i x; cases x))
  ·rw [Y9,Z2]
   repeat (first | exact Le.rfl | exact ih0 _ _ _ | exact ih1 _ _ _ | exact ih2 _ _ _ | exact ih3 _ _ _ | exact ih4 _ _ _ _ | exact U8 fu _ _ | exact Kd fu _ | exact V8 fu _ _ | exact Ld fu _ | exact W8 fu _ _ | exact Mc fu _ _ _ | exact E7 fu _ _ | exact O0 _ | refine Le.bind ?_ (fun _=>?_) | refine Le.ite ?_ ?_ | (rename_i x; cases x))
theorem Us (fu:Nat)(e:A0)(depth:Int)(syntaxReport:I0):Le (F9 fu e depth syntaxReport) (J3 e depth syntaxReport):=(Gr fu).1 e depth syntaxReport
def Xf (fu:Nat)(syntaxReport:I0):Option Int:=
 if (bif (decide (syntaxReport.nodes > 1024)) then true else (decide (syntaxReport.depth > 12)))=true then
  some 4
 else
  if syntaxReport.badForm=true then
   some 1
  else
   if syntaxReport.badName=true then
    some 7
   else
    if syntaxReport.badNumber=true then
     some 3
    else
     some 0
theorem Vs (fu:Nat)(syntaxReport:I0):Le (Xf fu syntaxReport) (B5 syntaxReport):=by
 unfold Xf B5
 repeat (first | exact Le.rfl | exact O0 _ | refine Le.bind ?_ (fun _=>?_) | refine Le.ite ?_ ?_ | (rename_i x; cases x))
def Kh (fu:Nat)(e:A0):Option Int:=
 F9 fu e 1 (I0.mk 0 0 false false false)>>=fun x1=>
 Xf fu x1>>=fun x2=>
 some x2
theorem Aw (fu:Nat)(e:A0):Le (Kh fu e) (F8 e):=by
 unfold Kh F8
 repeat (first | exact Le.rfl | exact Us fu _ _ _ | exact Vs fu _ | exact O0 _ | refine Le.bind ?_ (fun _=>?_) | refine Le.ite ?_ ?_ | (rename_i x; cases x))
def Md (fu:Nat)(text:Str):Option (A0×Int×Int):=
 Xm fu text (A0.mk 0 0 [] [])>>=fun x1=>
 if (x1.2.1 != 0)=true then
  some ((A0.mk 0 0 [] []),x1.1,x1.2.1)
 else
  Kh fu x1.2.2>>=fun x2=>
  if (x2 != 0)=true then
   some ((A0.mk 0 0 [] []),0,x2)
  else
   some (x1.2.2,0,0)
theorem Bw (fu:Nat)(text:Str):Le (Md fu text) (O3 text):=by
 unfold Md O3
 repeat (first | exact Le.rfl | exact U13 fu _ _ | exact Aw fu _ | exact O0 _ | refine Le.bind ?_ (fun _=>?_) | refine Le.ite ?_ ?_ | (rename_i x; cases x))
def Lh (fu:Nat)(s:Str):Option A0:=
 some (A0.mk 3 0 s [])
theorem X15 (fu:Nat)(s:Str):Le (Lh fu s) (Qf s):=by
 unfold Lh Qf
 repeat (first | exact Le.rfl | exact O0 _ | refine Le.bind ?_ (fun _=>?_) | refine Le.ite ?_ ?_ | (rename_i x; cases x))
mutual
def Ib:Nat→A0→A0→Option Bool
 | 0,_,_=>none
 | fu+1,a,b=>
  if (bif (bif (bif (a.Op != b.Op) then true else (a.NV != b.NV)) then true else (!(a.Name == b.Name))) then true else (((a.Kids).length:Int) != ((b.Kids).length:Int)))=true then
   some false
  else
   Sb fu a b 0
def Sb:Nat→A0→A0→Int→Option Bool
 | 0,_,_,_=>none
 | fu+1,a,b,i=>
  if (decide (i < ((a.Kids).length:Int)))=true then
   idx a.Kids i>>=fun x1=>
   idx b.Kids i>>=fun x2=>
   Ib fu x1 x2>>=fun x3=>
   if (!x3)=true then
    some false
   else
    Sb fu a b (IntKind.i64.wrap (i+1))
  else
   some true
end
theorem Cw (fu:Nat):(∀ (a:A0) (b:A0),Le (Ib fu a b) (M3 a b))∧(∀ (a:A0) (b:A0) (i:Int),Le (Sb fu a b i) (C5 a b i)):=by
 induction fu with
 | zero=>exact ⟨fun _ _=>Le.none,fun _ _ _=>Le.none⟩
 | succ fu ih=>
  obtain ⟨ih0,ih1⟩:=ih
  refine ⟨fun a b=>?_,fun a b i=>?_⟩
  ·rw [Ib,M3]
   repeat (first | exact Le.rfl | exact ih0 _ _ | exact ih1 _ _ _ | exact O0 _ | refine Le.bind ?_ (fun _=>?_) | refine Le.ite ?_ ?_ | (rename_i x; cases x))
  ·rw [Sb,C5]
   repeat (first | exact Le.rfl | exact ih0 _ _ | exact ih1 _ _ _ | exact O0 _ | refine Le.bind ?_ (fun _=>?_) | refine Le.ite ?_ ?_ | (rename_i x; cases x))
theorem Vx (fu:Nat)(a:A0)(b:A0):Le (Ib fu a b) (M3 a b):=(Cw fu).1 a b
def Su (fu:Nat):Option Bool:=
 Md fu [97,32,45,32,98,32,45,32,99,91,49,93,46,100]>>=fun x1=>
 Lh fu [99]>>=fun x2=>
 Lh fu [97]>>=fun x3=>
 Lh fu [98]>>=fun x4=>
 Md fu [97,32,61,61,32,98,32,61,61,32,99]>>=fun x5=>
 (if (x1.2.2 == 0)=true then Ib fu x1.1 (A0.mk 9 0 [] [(A0.mk 9 0 [] [x3,x4]),(A0.mk 4 0 [100] [(A0.mk 5 0 [] [x2,(A0.mk 0 1 [] [])])])]) else some default)>>=fun x6=>
 some (bif (bif (bif (x1.2.2 == 0) then x6 else false) then (x5.2.2 == 6) else false) then (x5.2.1 == 7) else false)
theorem V13 (fu:Nat):Le (Su fu ) (Ud ):=by
 unfold Su Ud
 repeat (first | exact Le.rfl | exact Bw fu _ | exact X15 fu _ | exact Vx fu _ _ | exact O0 _ | refine Le.bind ?_ (fun _=>?_) | refine Le.ite ?_ ?_ | (rename_i x; cases x))
end Go.Proofs.YtmnhfbekncjnfaaGreatDoor

