/- A part of the proof of ParserFirst. -/
import Derived.Test.YtmnhfbekncjnfaaGreatDoorDgA
set_option maxRecDepth 100000
set_option maxHeartbeats 4000000
set_option synthInstance.maxSize 20000
set_option linter.unusedVariables false
namespace Go.Proofs.YtmnhfbekncjnfaaGreatDoor
open Go.Am
mutual
def A8 (e:A0):Option Bool:=
 (if (bif (e.Op == 3) then true else (e.Op == 4))=true then Wf e.Name else some default)>>=fun x1=>
 if (bif (bif (e.Op == 3) then true else (e.Op == 4)) then (!x1) else false)=true then
  some false
 else
  Hd e 0
 partial_fixpoint
def Hd (e:A0)(i:Int):Option Bool:=
 if (decide (i < ((e.Kids).length:Int)))=true then
  idx e.Kids i>>=fun x2=>
  A8 x2>>=fun x3=>
  if (!x3)=true then
   some false
  else
   Hd e (IntKind.i64.wrap (i+1))
 else
  some true
 partial_fixpoint
end
mutual
def P6 (e:A0):Option Bool:=
 if (bif (e.Op == 0) then (bif (decide (e.NV < 0)) then true else (decide (e.NV > 1048576))) else false)=true then
  some false
 else
  Lb e 0
 partial_fixpoint
def Lb (e:A0)(i:Int):Option Bool:=
 if (decide (i < ((e.Kids).length:Int)))=true then
  idx e.Kids i>>=fun x1=>
  P6 x1>>=fun x2=>
  if (!x2)=true then
   some false
  else
   Lb e (IntKind.i64.wrap (i+1))
 else
  some true
 partial_fixpoint
end
def Ws (s:T0)(form:Bool)(names:Bool)(numbers:Bool):Option Int:=
 if (bif (decide (s.nodes > 1024)) then true else (decide (s.depth > 12)))=true then
  some 4
 else
  if (!form)=true then
   some 1
  else
   if (!names)=true then
    some 7
   else
    if (!numbers)=true then
     some 3
    else
     some 0
def T2 (parserParser:B0):Option (Pn (Int×B0)):=
 O0 [45] parserParser>>=fun x1=>
 if x1.1=true then
  C5 x1.2>>=fun x2=>match x2 with
  | .pn nn=>
  some (.pn nn)
  | .ok x2=>
  some (.ok ((IntKind.i64.wrap (0 - x2.1)),x2.2))
 else
  C5 x1.2>>=fun x3=>match x3 with
  | .pn nn=>
  some (.pn nn)
  | .ok x3=>
  some (.ok (x3.1,x3.2))
theorem Y0 {parserParser res}(hh:T2 parserParser=some res):C2 C 72 [.ref 0 0] [.row (B0.cells parserParser) 99] (R4 res (fun rr=>[.row (B0.cells rr.2) 99]) (fun rr=>.d (.int .i64 rr.1))) (M4 res I3 [.dead]):=by
 unfold T2 at hh
 obtain ⟨x1,hx1,hh⟩:=bs' hh
 refine C2.intro hC Tryz.func72 rfl rfl rfl (t' rfl (S' (p' 1 rfl (g' [0] (P0 hx1) rfl rfl rfl rfl rfl rfl (n' (ci' rfl hh (fun hh=>?_) (fun hh=>?_)))))))
 ·refine p' 1 rfl ?_
  rcases bp' hh with ⟨nn,hx2,⟨⟩⟩ | ⟨x2,hx2,hh⟩
  ·exact gn' [0] (E7 hx2) rfl rfl rfl rfl rfl (fun hi=>peW ⟨trivial,trivial⟩ rfl hi)
  cases hh
  exact g' [0] ((E7 hx2).ok) rfl rfl rfl rfl rfl rfl (e' rfl (re' (rt' rfl rfl rfl)))
 refine sk' (p' 1 rfl ?_)
 rcases bp' hh with ⟨nn,hx3,⟨⟩⟩ | ⟨x3,hx3,hh⟩
 ·exact gn' [0] (E7 hx3) rfl rfl rfl rfl rfl (fun hi=>peW ⟨trivial,trivial⟩ rfl hi)
 cases hh
 exact g' [0] ((E7 hx3).ok) rfl rfl rfl rfl rfl rfl (e' rfl (re' (rt' rfl rfl rfl)))
mutual
def A5 (parserParser:B0):Option (Pn (F0×B0)):=
 O0 [98,111,111,108] parserParser>>=fun x1=>
 if x1.1=true then
  some (.ok ((F0.mk 0 0 0 0 [] [] []),x1.2))
 else
  O0 [105,110,116] x1.2>>=fun x2=>
  if x2.1=true then
   R0 [91] x2.2>>=fun x3=>match x3 with
   | .pn nn=>
   some (.pn nn)
   | .ok x3=>
   T2 x3>>=fun x4=>match x4 with
   | .pn nn=>
   some (.pn nn)
   | .ok x4=>
   R0 [46,46] x4.2>>=fun x5=>match x5 with
   | .pn nn=>
   some (.pn nn)
   | .ok x5=>
   T2 x5>>=fun x6=>match x6 with
   | .pn nn=>
   some (.pn nn)
   | .ok x6=>
   R0 [93] x6.2>>=fun x7=>match x7 with
   | .pn nn=>
   some (.pn nn)
   | .ok x7=>
   some (.ok ((F0.mk 1 x4.1 x6.1 0 [] [] []),x7))
  else
   O0 [97,114,114,97,121] x2.2>>=fun x8=>
   if x8.1=true then
    T2 x8.2>>=fun x9=>match x9 with
    | .pn nn=>
    some (.pn nn)
    | .ok x9=>
    R0 [111,102] x9.2>>=fun x10=>match x10 with
    | .pn nn=>
    some (.pn nn)
    | .ok x10=>
    A5 x10>>=fun x16=>match x16 with
    | .pn nn=>
    some (.pn nn)
    | .ok x16=>
    some (.ok ((F0.mk 2 0 0 x9.1 [] [] [x16.1]),x16.2))
   else
    O0 [114,101,99,111,114,100] x8.2>>=fun x11=>
    if x11.1=true then
     R0 [123] x11.2>>=fun x12=>match x12 with
     | .pn nn=>
     some (.pn nn)
     | .ok x12=>
     E9 x12 [] []
    else
     V2 x11.2>>=fun x13=>match x13 with
     | .pn nn=>
     some (.pn nn)
     | .ok x13=>
     some (.ok ((F0.mk 4 0 0 0 x13.1 [] []),x13.2))
 partial_fixpoint
def E9 (o0:B0)(o2_Names:List Str)(o2_Of:List F0):Option (Pn (F0×B0)):=
 V2 o0>>=fun x14=>match x14 with
 | .pn nn=>
 some (.pn nn)
 | .ok x14=>
 R0 [58] x14.2>>=fun x15=>match x15 with
 | .pn nn=>
 some (.pn nn)
 | .ok x15=>
 A5 x15>>=fun x17=>match x17 with
 | .pn nn=>
 some (.pn nn)
 | .ok x17=>
 if (decide ((o2_Names.length+1) * 17≤140737488355328))=true then
  if (decide ((o2_Of.length+1) * 97≤140737488355328))=true then
   O0 [44] x17.2>>=fun x18=>
   if (!x18.1)=true then
    R0 [125] x18.2>>=fun x19=>match x19 with
    | .pn nn=>
    some (.pn nn)
    | .ok x19=>
    some (.ok ((F0.mk 3 0 0 0 [] (o2_Names++[x14.1]) (o2_Of++[x17.1])),x19))
   else
    E9 x18.2 (o2_Names++[x14.1]) (o2_Of++[x17.1])
  else none
 else none
 partial_fixpoint
end
abbrev Pp (parserParser:B0)(res:Pn (F0×B0)):Prop:=C2 C 36 [.ref 0 0] [.row (B0.cells parserParser) 99] (R4 res (fun rr=>[.row (B0.cells rr.2) 99]) (fun rr=>.agg (F0.cells rr.1))) (M4 res I3 [.dead])
abbrev Mw (o0:B0)(o2_Names:List Str)(o2_Of:List F0)(res:Pn (F0×B0)):Prop:=LMp C 74 1 Tryz.f36 [1,0,4,1,3,1,3,1,3,1,2,1,1,0,4] [(0,.ref 0 0),(2,.ref 1 0),(6,.ref 2 0)] [.row (B0.cells o0) 99,.row [.d (.int .i64 0),.d (.int .i64 0),.d (.int .i64 0),.d (.int .i64 0),.d (.str []),.full (estr.rows []),.full (F0.rows [])] 36,.row [.d (.int .i64 3),.d (.int .i64 0),.d (.int .i64 0),.d (.int .i64 0),.d (.str []),.osl 3 (estr.rows o2_Names),.osl 4 (F0.rows o2_Of)] 36,.tok 9 1,.tok 36 7] (R4 res (fun rr=>[.row (B0.cells rr.2) 99]) (fun rr=>.agg (F0.cells rr.1))) (M4 res I3 [.dead])
theorem Ey:(∀ parserParser res,A5 parserParser=some res→Pp parserParser res)∧(∀ o0 o2_Names o2_Of res,E9 o0 o2_Names o2_Of=some res→Mw o0 o2_Names o2_Of res):=by
 refine A5.mutual_partial_correctness _ _ ?_ ?_
 ·intro g0 g1 ih0 ih1 parserParser res hh
  obtain ⟨x1,hx1,hh⟩:=bs' hh
  refine C2.intro hC Tryz.func36 rfl rfl rfl (s' rfl rfl (I0.nf hC rfl (n' (S' (bk' (p' 1 rfl (g' [0] (P0 hx1) rfl rfl rfl rfl rfl rfl (e' rfl (ci' rfl hh (fun hh=>?_) (fun hh=>?_))))))))))
  ·refine s' rfl rfl (I0.bz hC rfl (I0.s hC rfl (n' (re' ?_))))
   obtain rfl:=oi' hh
   exact ⟨_,.agg [.d (.int .i64 0),.d (.int .i64 0),.d (.int .i64 0),.d (.int .i64 0),.d (.str []),.d (.sl (estr.rows [])),.d (.sl (F0.rows []))],[.row (B0.cells x1.2) 99],rfl,(.aggL ⟨.rfl,.rfl,.rfl,.rfl,.rfl,.full,.full,trivial⟩),⟨⟨rfl,.refl _,rfl⟩,trivial⟩,rfl,rfl,rpq rfl rfl⟩
  obtain ⟨x2,hx2,hh⟩:=bs' hh
  refine p' 1 rfl (g' [0] (P0 hx2) rfl rfl rfl rfl rfl rfl (e' rfl (ci' rfl hh (fun hh=>?_) (fun hh=>?_))))
  ·refine p' 1 rfl ?_
   rcases bp' hh with ⟨nn,hx3,⟨⟩⟩ | ⟨x3,hx3,hh⟩
   ·exact gn' [0] (L0 hx3) rfl rfl rfl rfl rfl (fun hi=>peW ⟨trivial,trivial⟩ rfl hi)
   refine g' [0] ((L0 hx3).ok) rfl rfl rfl rfl rfl rfl (n' (p' 1 rfl ?_))
   rcases bp' hh with ⟨nn,hx4,⟨⟩⟩ | ⟨x4,hx4,hh⟩
   ·exact gn' [0] (Y0 hx4) rfl rfl rfl rfl rfl (fun hi=>peW ⟨trivial,trivial⟩ rfl hi)
   refine g' [0] ((Y0 hx4).ok) rfl rfl rfl rfl rfl rfl (e' rfl (p' 1 rfl ?_))
   rcases bp' hh with ⟨nn,hx5,⟨⟩⟩ | ⟨x5,hx5,hh⟩
   ·exact gn' [0] (L0 hx5) rfl rfl rfl rfl rfl (fun hi=>peW ⟨trivial,trivial⟩ rfl hi)
   refine g' [0] ((L0 hx5).ok) rfl rfl rfl rfl rfl rfl (n' (p' 1 rfl ?_))
   rcases bp' hh with ⟨nn,hx6,⟨⟩⟩ | ⟨x6,hx6,hh⟩
   ·exact gn' [0] (Y0 hx6) rfl rfl rfl rfl rfl (fun hi=>peW ⟨trivial,trivial⟩ rfl hi)
   refine g' [0] ((Y0 hx6).ok) rfl rfl rfl rfl rfl rfl (e' rfl (p' 1 rfl ?_))
   rcases bp' hh with ⟨nn,hx7,⟨⟩⟩ | ⟨x7,hx7,hh⟩
   ·exact gn' [0] (L0 hx7) rfl rfl rfl rfl rfl (fun hi=>peW ⟨trivial,trivial⟩ rfl hi)
   refine g' [0] ((L0 hx7).ok) rfl rfl rfl rfl rfl rfl (n' (p' 2 rfl (I0.bz hC rfl (I0.s hC rfl (n' (re' ?_))))))
   obtain rfl:=oi' hh
   exact ⟨_,.agg [.d (.int .i64 1),.d (.int .i64 x4.1),.d (.int .i64 x6.1),.d (.int .i64 0),.d (.str []),.d (.sl (estr.rows [])),.d (.sl (F0.rows []))],[.row (B0.cells x7) 99],rfl,(.aggL ⟨.rfl,.rfl,.rfl,.rfl,.rfl,.full,.full,trivial⟩),⟨⟨rfl,.refl _,rfl⟩,trivial⟩,rfl,rfl,rpq rfl rfl⟩
  obtain ⟨x8,hx8,hh⟩:=bs' hh
  refine p' 1 rfl (g' [0] (P0 hx8) rfl rfl rfl rfl rfl rfl (e' rfl (ci' rfl hh (fun hh=>?_) (fun hh=>?_))))
  ·refine p' 1 rfl ?_
   rcases bp' hh with ⟨nn,hx9,⟨⟩⟩ | ⟨x9,hx9,hh⟩
   ·exact gn' [0] (Y0 hx9) rfl rfl rfl rfl rfl (fun hi=>peW ⟨trivial,trivial⟩ rfl hi)
   refine g' [0] ((Y0 hx9).ok) rfl rfl rfl rfl rfl rfl (e' rfl (p' 1 rfl ?_))
   rcases bp' hh with ⟨nn,hx10,⟨⟩⟩ | ⟨x10,hx10,hh⟩
   ·exact gn' [0] (L0 hx10) rfl rfl rfl rfl rfl (fun hi=>peW ⟨trivial,trivial⟩ rfl hi)
   refine g' [0] ((L0 hx10).ok) rfl rfl rfl rfl rfl rfl (n' (p' 2 rfl ?_))
   rcases bp' hh with ⟨nn,hx16,⟨⟩⟩ | ⟨x16,hx16,hh⟩
   ·exact gn' [0] (ih0 _ _ hx16) rfl rfl rfl rfl rfl (fun hi=>peW ⟨trivial,trivial⟩ rfl hi)
   refine g' [0] ((ih0 _ _ hx16).ok) rfl rfl rfl rfl rfl rfl (I0.be hC rfl (F0.rows_map [x16.1]).symm (I0.bz hC rfl (I0.s hC rfl (n' (re' ?_)))))
   obtain rfl:=oi' hh
   exact ⟨_,.agg [.d (.int .i64 2),.d (.int .i64 0),.d (.int .i64 0),.d (.int .i64 x9.1),.d (.str []),.d (.sl (estr.rows [])),.d (.sl (F0.rows [x16.1]))],[.row (B0.cells x16.2) 99],rfl,(.aggL ⟨.rfl,.rfl,.rfl,.rfl,.rfl,.full,.full,trivial⟩),⟨⟨rfl,.refl _,rfl⟩,trivial⟩,rfl,rfl,rpq rfl rfl⟩
  obtain ⟨x11,hx11,hh⟩:=bs' hh
  refine p' 1 rfl (g' [0] (P0 hx11) rfl rfl rfl rfl rfl rfl (e' rfl (ci' rfl hh (fun hh=>?_) (fun hh=>?_))))
  ·refine s' rfl rfl (I0.bz hC rfl (I0.nf hC rfl (I0.s hC rfl (I0.tokC 2 5 9 1 rfl rfl rfl rfl rfl (I0.tokC 2 6 36 7 rfl rfl rfl rfl rfl (n' (p' 1 rfl ?_)))))))
   rcases bp' hh with ⟨nn,hx12,⟨⟩⟩ | ⟨x12,hx12,hh⟩
   ·exact gn' [0] (L0 hx12) rfl rfl rfl rfl rfl (fun hi=>peW ⟨trivial,trivial⟩ rfl hi)
   exact g' [0] ((L0 hx12).ok) rfl rfl rfl rfl rfl rfl (n' (S' (bk' (fw' (ih1 _ _ _ _ hh) rfl rfl rfl))))
  refine sk' (p' 1 rfl ?_)
  rcases bp' hh with ⟨nn,hx13,⟨⟩⟩ | ⟨x13,hx13,hh⟩
  ·exact gn' [0] (B1 hx13) rfl rfl rfl rfl rfl (fun hi=>peW ⟨trivial,trivial⟩ rfl hi)
  refine g' [0] ((B1 hx13).ok) rfl rfl rfl rfl rfl rfl (I0.bz hC rfl (I0.s hC rfl (n' (re' ?_))))
  obtain rfl:=oi' hh
  exact ⟨_,.agg [.d (.int .i64 4),.d (.int .i64 0),.d (.int .i64 0),.d (.int .i64 0),.d (.str x13.1),.d (.sl (estr.rows [])),.d (.sl (F0.rows []))],[.row (B0.cells x13.2) 99],rfl,(.aggL ⟨.rfl,.rfl,.rfl,.rfl,.rfl,.full,.full,trivial⟩),⟨⟨rfl,.refl _,rfl⟩,trivial⟩,rfl,rfl,rpq rfl rfl⟩
 ·intro g0 g1 ih0 ih1 o0 o2_Names o2_Of res hh
  refine C1.unroll (bk' (p' 1 rfl ?_))
  rcases bp' hh with ⟨nn,hx14,⟨⟩⟩ | ⟨x14,hx14,hh⟩
  ·exact gn' [0] (B1 hx14) rfl rfl rfl rfl rfl (fun hi=>peW ⟨trivial,trivial⟩ rfl hi)
  refine g' [0] ((B1 hx14).ok) rfl rfl rfl rfl rfl rfl (e' rfl (p' 1 rfl ?_))
  rcases bp' hh with ⟨nn,hx15,⟨⟩⟩ | ⟨x15,hx15,hh⟩
  ·exact gn' [0] (L0 hx15) rfl rfl rfl rfl rfl (fun hi=>peW ⟨trivial,trivial⟩ rfl hi)
  refine g' [0] ((L0 hx15).ok) rfl rfl rfl rfl rfl rfl (n' (p' 1 rfl ?_))
  rcases bp' hh with ⟨nn,hx17,⟨⟩⟩ | ⟨x17,hx17,hh⟩
  ·exact gn' [0] (ih0 _ _ hx17) rfl rfl rfl rfl rfl (fun hi=>peW ⟨trivial,trivial⟩ rfl hi)
  obtain ⟨c11,hh⟩:=J6 hh
  obtain ⟨c12,hh⟩:=J6 hh
  obtain ⟨x18,hx18,hh⟩:=bs' hh
  refine g' [0] ((ih0 _ _ hx17).ok) rfl rfl rfl rfl rfl rfl (I0.nf hC rfl (I0.s hC rfl (n' (S' ?_))))
  refine AEx.drawL hC 11 [4,9] [] [[.row (B0.cells x17.2) 99,.row [.d (.int .i64 0),.d (.int .i64 0),.d (.int .i64 0),.d (.int .i64 0),.d (.str []),.full (estr.rows []),.full (F0.rows [])] 36,.row [.d (.int .i64 3),.d (.int .i64 0),.d (.int .i64 0),.d (.int .i64 0),.d (.str []),.osl 3 (estr.rows o2_Names),.osl 4 (F0.rows o2_Of)] 36,.tok 9 1,.tok 36 7,.row (F0.cells x17.1) 36],[.row (B0.cells x17.2) 99,.row [.d (.int .i64 0),.d (.int .i64 0),.d (.int .i64 0),.d (.int .i64 0),.d (.str []),.full (estr.rows []),.full (F0.rows [])] 36,.row [.d (.int .i64 3),.d (.int .i64 0),.d (.int .i64 0),.d (.int .i64 0),.d (.str []),.osl 3 (estr.rows o2_Names),.osl 4 (F0.rows o2_Of)] 36,.dead,.tok 36 7,.row (F0.cells x17.1) 36,.tok 9 1],[.row (B0.cells x17.2) 99,.row [.d (.int .i64 0),.d (.int .i64 0),.d (.int .i64 0),.d (.int .i64 0),.d (.str []),.full (estr.rows []),.full (F0.rows [])] 36,.row [.d (.int .i64 3),.d (.int .i64 0),.d (.int .i64 0),.d (.int .i64 0),.d (.str []),.osl 3 (estr.rows o2_Names),.osl 4 (F0.rows o2_Of)] 36,.dead,.dead,.row (F0.cells x17.1) 36,.tok 9 1,.tok 36 7]] rfl rfl rfl rfl rfl rfl rfl rfl rfl rfl ?_
  refine AS.q hC rfl rfl rfl rfl (AS.q hC rfl rfl rfl rfl (AS.q hC rfl rfl rfl rfl (AS.a rfl (fun H=>AQ.be hC rfl (estr.rows_map [x14.1]).symm (AQ.nil rfl)) rfl rfl (AS.am hC rfl rfl rfl rfl rfl (rs:=estr.rows (o2_Names++[x14.1])) (estr.app o2_Names [x14.1]) (estr.sz o2_Names) (estr.sz [x14.1]) (Q1 (estr.len o2_Names) (estr.len [x14.1]) c11) rfl rfl (AS.q hC rfl rfl rfl rfl (AS.q hC rfl rfl rfl rfl ?_))))))
  refine AS.q hC rfl rfl rfl rfl (AS.a rfl (fun H=>AQ.be hC rfl (F0.rows_map [x17.1]).symm (AQ.nil rfl)) rfl rfl (AS.am hC rfl rfl rfl rfl rfl (rs:=F0.rows (o2_Of++[x17.1])) (F0.app o2_Of [x17.1]) (F0.sz o2_Of) (F0.sz [x17.1]) (Q1 (F0.len o2_Of) (F0.len [x17.1]) c12) rfl rfl (AS.q hC rfl rfl rfl rfl (AS.nil (I0.s hC rfl (q' rfl (I0.s hC rfl (n' (p' 1 rfl ?_)))))))))
  refine g' [0] (P0 hx18) rfl rfl rfl rfl rfl rfl (e' rfl (ci' rfl hh (fun hh=>?_) (fun hh=>?_)))
  ·refine ex' (p' 1 rfl ?_)
   rcases bp' hh with ⟨nn,hx19,⟨⟩⟩ | ⟨x19,hx19,hh⟩
   ·exact gn' [0] (L0 hx19) rfl rfl rfl rfl rfl (fun hi=>peW ⟨trivial,trivial⟩ rfl hi)
   refine g' [0] ((L0 hx19).ok) rfl rfl rfl rfl rfl rfl (n' (p' 1 rfl (I0.s hC rfl (n' (re' ?_)))))
   obtain rfl:=oi' hh
   exact ⟨_,.agg [.d (.int .i64 3),.d (.int .i64 0),.d (.int .i64 0),.d (.int .i64 0),.d (.str []),.d (.sl (estr.rows (o2_Names++[x14.1]))),.d (.sl (F0.rows (o2_Of++[x17.1])))],[.row (B0.cells x19) 99],rfl,(.aggL ⟨.rfl,.rfl,.rfl,.rfl,.rfl,.osl,.osl,trivial⟩),⟨⟨rfl,.refl _,rfl⟩,trivial⟩,rfl,rfl,rpq rfl rfl⟩
  refine sk' ?_
  refine C1.rj (L:=[(0,.ref 0 0),(2,.ref 1 0),(6,.ref 2 0)]) (H2:=[.row (B0.cells x18.2) 99,.row [.d (.int .i64 0),.d (.int .i64 0),.d (.int .i64 0),.d (.int .i64 0),.d (.str []),.full (estr.rows []),.full (F0.rows [])] 36,.row [.d (.int .i64 3),.d (.int .i64 0),.d (.int .i64 0),.d (.int .i64 0),.d (.str []),.osl 3 (estr.rows (o2_Names++[x14.1])),.osl 4 (F0.rows (o2_Of++[x17.1]))] 36,.tok 9 1,.tok 36 7]) [0,1,2,6,7] ?_ rfl rfl rfl rfl
  exact lw' (ih1 _ _ _ _ hh) rfl rfl rfl
theorem F9 {parserParser res}(hh:A5 parserParser=some res):Pp parserParser res:=(Ey).1 _ _ hh
mutual
def Q6 (t:F0)(depth:Int)(syntaxReport:J0):Option J0:=
 A6 depth (J0.mk (IntKind.i64.wrap (syntaxReport.nodes+1)) syntaxReport.depth syntaxReport.badForm syntaxReport.badName syntaxReport.badNumber)>>=fun x1=>
 W0 (bif (decide (t.Kind≥0)) then (decide (t.Kind≤4)) else false) x1>>=fun x2=>
 W0 (bif (t.Kind == 1) then true else (bif (t.Low == 0) then (t.High == 0) else false)) x2>>=fun x3=>
 W0 (bif (t.Kind == 2) then true else (t.Size == 0)) x3>>=fun x4=>
 W0 (bif (t.Kind == 4) then true else (t.Name == [])) x4>>=fun x5=>
 W0 (bif (t.Kind == 3) then true else (((t.Names).length:Int) == 0)) x5>>=fun x6=>
 if (t.Kind == 2)=true then
  W0 (((t.Of).length:Int) == 1) x6>>=fun x7=>
  V3 t.Size 1 32>>=fun x8=>
  E2 x8 x7>>=fun x9=>
  G9 t depth x9
 else
  if (t.Kind == 3)=true then
   W0 (bif (decide (((t.Of).length:Int)≥1)) then (((t.Of).length:Int) == ((t.Names).length:Int)) else false) x6>>=fun x14=>
   E2 (decide (((t.Of).length:Int)≤32)) x14>>=fun x15=>
   G9 t depth x15
  else
   W0 (((t.Of).length:Int) == 0) x6>>=fun x16=>
   G9 t depth x16
 partial_fixpoint
def G9 (t:F0)(depth:Int)(o0:J0):Option J0:=
 if (t.Kind == 1)=true then
  V3 t.Low (-1048576) 1048576>>=fun x10=>
  (if x10=true then V3 t.High t.Low 1048576 else some default)>>=fun x11=>
  E2 (bif x10 then x11 else false) o0>>=fun x12=>
  H9 t depth x12
 else
  H9 t depth o0
 partial_fixpoint
def H9 (t:F0)(depth:Int)(o01:J0):Option J0:=
 if (t.Kind == 4)=true then
  A4 t.Name o01>>=fun x13=>
  Mb t depth x13
 else
  Mb t depth o01
 partial_fixpoint
def Mb (t:F0)(depth:Int)(o02:J0):Option J0:=
 D6 t depth o02 0
 partial_fixpoint
def D6 (t:F0)(depth:Int)(o03:J0)(v147:Int):Option J0:=
 if (decide (v147 < ((t.Names).length:Int)))=true then
  idx t.Names v147>>=fun x17=>
  A4 x17 o03>>=fun x18=>
  D6 t depth x18 (IntKind.i64.wrap (v147+1))
 else
  G7 t depth o03 0
 partial_fixpoint
def G7 (t:F0)(depth:Int)(o04:J0)(v158:Int):Option J0:=
 if (decide (v158 < ((t.Of).length:Int)))=true then
  idx t.Of v158>>=fun x19=>
  Q6 x19 (IntKind.i64.wrap (depth+1)) o04>>=fun x20=>
  G7 t depth x20 (IntKind.i64.wrap (v158+1))
 else
  some o04
 partial_fixpoint
end
abbrev Qp (t:F0)(depth:Int)(syntaxReport:J0)(res:J0):Prop:=X0 C 74 [.ref 0 0,.agg (F0.cells t),.d (.int .i64 depth)] [.row (J0.cells syntaxReport) 103] (Ret [.row (J0.cells res) 103] (.tup []))
abbrev Nw (t:F0)(depth:Int)(o0:J0)(res:J0):Prop:=JM C 168 1 Tryz.f74 [1,1,1,1,1,1,1,1,1,1] [(0,.ref 0 0),(2,.d (.int .i64 depth)),(4,.ref 1 0),(6,.d (.bool (t.Kind == 1))),(9,.d (.bool (t.Kind == 4)))] [.row (J0.cells o0) 103,.row (F0.cells t) 36] (Ret [.row (J0.cells res) 103] (.tup []))
abbrev Ow (t:F0)(depth:Int)(o01:J0)(res:J0):Prop:=JM C 168 1 Tryz.f74 [1,1,1,1,1,1,1,1,1,1,1] [(0,.ref 0 0),(2,.d (.int .i64 depth)),(4,.ref 1 0),(9,.d (.bool (t.Kind == 4)))] [.row (J0.cells o01) 103,.row (F0.cells t) 36] (Ret [.row (J0.cells res) 103] (.tup []))
abbrev Pw (t:F0)(depth:Int)(o02:J0)(res:J0):Prop:=JM C 168 1 Tryz.f74 [1,1,1,1,1,1,1,1,1,1,1,1] [(0,.ref 0 0),(2,.d (.int .i64 depth)),(4,.ref 1 0)] [.row (J0.cells o02) 103,.row (F0.cells t) 36] (Ret [.row (J0.cells res) 103] (.tup []))
abbrev Rw (t:F0)(depth:Int)(o03:J0)(v147:Int)(res:J0):Prop:=LM C 168 1 Tryz.f74 [1,1,1,1,1,1,1,1,1,1,1,1,0,1,4] [(0,.ref 0 0),(2,.d (.int .i64 depth)),(4,.ref 1 0),(145,.d (.sl (estr.rows t.Names))),(146,.d (.int .i64 ((t.Names).length:Int))),(147,.d (.int .i64 v147))] [.row (J0.cells o03) 103,.row (F0.cells t) 36] (Ret [.row (J0.cells res) 103] (.tup []))
abbrev Sw (t:F0)(depth:Int)(o04:J0)(v158:Int)(res:J0):Prop:=LM C 168 1 Tryz.f74 [1,1,1,1,1,1,1,1,1,1,1,1,1,1,4] [(0,.ref 0 0),(2,.d (.int .i64 depth)),(156,.d (.sl (F0.rows t.Of))),(157,.d (.int .i64 ((t.Of).length:Int))),(158,.d (.int .i64 v158))] [.row (J0.cells o04) 103] (Ret [.row (J0.cells res) 103] (.tup []))
theorem Fy:(∀ t depth syntaxReport res,Q6 t depth syntaxReport=some res→Qp t depth syntaxReport res)∧(∀ t depth o0 res,G9 t depth o0=some res→Nw t depth o0 res)∧(∀ t depth o01 res,H9 t depth o01=some res→Ow t depth o01 res)∧(∀ t depth o02 res,Mb t depth o02=some res→Pw t depth o02 res)∧(∀ t depth o03 v147 res,D6 t depth o03 v147=some res→Rw t depth o03 v147 res)∧(∀ t depth o04 v158 res,G7 t depth o04 v158=some res→Sw t depth o04 v158 res):=by
 refine Q6.mutual_partial_correctness _ _ _ _ _ _ ?_ ?_ ?_ ?_ ?_ ?_
 ·intro g1 ih1 t depth syntaxReport res hh
  obtain ⟨x1,hx1,hh⟩:=bs' hh
  obtain ⟨x2,hx2,hh⟩:=bs' hh
  obtain ⟨x3,hx3,hh⟩:=bs' hh
  obtain ⟨x4,hx4,hh⟩:=bs' hh
  obtain ⟨x5,hx5,hh⟩:=bs' hh
  obtain ⟨x6,hx6,hh⟩:=bs' hh
  refine X0.intro hC Tryz.func74 rfl rfl rfl (s' rfl rfl (I0.n hC rfl (n' (p' 7 rfl (I0.s hC rfl (n' (p' 2 rfl (g' [0] (Ii hx1) rfl rfl rfl rfl rfl rfl (n' (sg' 9 rfl (G' 6 rfl (a1' rfl (a1' rfl ?_)))))))))))))
  refine pa' rfl (an' (g' [0] (E1 hx2) rfl rfl rfl rfl rfl rfl (n' (S' (AEx.draw hC 16 rfl rfl rfl (E' rfl (n' (sg' 12 rfl (G' 4 rfl (a1' rfl (a1' rfl (a1' rfl (a0' rfl ?_)))))))))))))
  refine a1' rfl (a1' rfl (pA' rfl (po' rfl (an' (g' [0] (E1 hx3) rfl rfl rfl rfl rfl rfl (n' (sg' 7 rfl (G' 4 rfl (a1' rfl (a1' rfl (po' rfl (an' (g' [0] (E1 hx4) rfl rfl rfl rfl rfl rfl ?_)))))))))))))
  refine n' (sg' 7 rfl (G' 4 rfl (a1' rfl (a1' rfl (po' rfl (an' (g' [0] (E1 hx5) rfl rfl rfl rfl rfl rfl (n' (sg' 8 rfl (G' 4 rfl (a1' rfl (AG.qe hC rfl (fun hg=>⟨⟨hg,trivial⟩,trivial⟩) (estr.lenA _) (a1' rfl ?_)))))))))))))
  refine po' rfl (an' (g' [0] (E1 hx6) rfl rfl rfl rfl rfl rfl (n' (S' (bk' (t' rfl (ci' rfl hh (fun hh=>?_) (fun hh=>?_))))))))
  ·obtain ⟨x7,hx7,hh⟩:=bs' hh
   obtain ⟨x8,hx8,hh⟩:=bs' hh
   obtain ⟨x9,hx9,hh⟩:=bs' hh
   exact p' 3 rfl (qe' rfl trivial (F0.lenA _) (q' rfl (g' [0] (E1 hx7) rfl rfl rfl rfl rfl rfl (n' (P' 3 rfl (c' (V4 hx8) rfl rfl (g' [0] (T3 hx9) rfl rfl rfl rfl rfl rfl (n' (ew' (ih1 _ _ _ _ hh) rfl rfl rfl)))))))))
  refine t' rfl (ci' rfl hh (fun hh=>?_) (fun hh=>?_))
  ·obtain ⟨x14,hx14,hh⟩:=bs' hh
   obtain ⟨x15,hx15,hh⟩:=bs' hh
   refine sg' 14 rfl (G' 3 rfl (AG.qe hC rfl (fun hg=>⟨trivial,trivial⟩) (F0.lenA _) (G' 3 rfl (a1' rfl (AG.qe hC rfl (fun hg=>⟨⟨hg,trivial⟩,trivial⟩) (F0.lenA _) (a0' rfl (a1' rfl (AG.qe hC rfl (fun hg=>⟨⟨hg,trivial⟩,trivial⟩) (estr.lenA _) (a2' rfl (pa' rfl (an' (g' [0] (E1 hx14) rfl rfl rfl rfl rfl rfl (n' ?_)))))))))))))
   exact P' 3 rfl (qe' rfl trivial (F0.lenA _) (q' rfl (g' [0] (T3 hx15) rfl rfl rfl rfl rfl rfl (n' (ew' (ih1 _ _ _ _ hh) rfl rfl rfl)))))
  obtain ⟨x16,hx16,hh⟩:=bs' hh
  exact P' 3 rfl (qe' rfl trivial (F0.lenA _) (q' rfl (g' [0] (E1 hx16) rfl rfl rfl rfl rfl rfl (n' (ew' (ih1 _ _ _ _ hh) rfl rfl rfl)))))
 ·intro g2 ih2 t depth o0 res hh
  refine S' (t' rfl (ci' rfl hh (fun hh=>?_) (fun hh=>?_)))
  ·obtain ⟨x10,hx10,hh⟩:=bs' hh
   obtain ⟨x11,hx11,hh⟩:=bs' hh
   obtain ⟨x12,hx12,hh⟩:=bs' hh
   exact AEx.regionG 11 rfl (G' 3 rfl (AG.c rfl rfl (fun _=>trivial) (fun _=>V4 hx10) (G' 2 rfl (a1' rfl (a0' rfl (a1' rfl (AG.c rfl rfl (fun hg=>⟨hg,hg,trivial⟩) (fun hw=>V4 (U5 hw hx11)) (pa' rfl (an' (g' [0] (T3 hx12) rfl rfl rfl rfl rfl rfl (n' (ew' (ih2 _ _ _ _ hh) rfl rfl rfl))))))))))))
  exact sk' (ew' (ih2 _ _ _ _ hh) rfl rfl rfl)
 ·intro g3 ih3 t depth o01 res hh
  refine S' (t' rfl (ci' rfl hh (fun hh=>?_) (fun hh=>?_)))
  ·obtain ⟨x13,hx13,hh⟩:=bs' hh
   exact P' 3 rfl (g' [0] (Pa hx13) rfl rfl rfl rfl rfl rfl (n' (ew' (ih3 _ _ _ _ hh) rfl rfl rfl)))
  exact sk' (ew' (ih3 _ _ _ _ hh) rfl rfl rfl)
 ·intro g4 ih4 t depth o02 res hh
  exact S' (p' 2 rfl (qe' rfl trivial (estr.lenA _) (e' rfl (bk' (fw' (ih4 _ _ _ _ _ hh) rfl rfl rfl)))))
 ·intro g4 g5 ih4 ih5 t depth o03 v147 res hh
  refine C1.unroll (t' rfl (S' (ci' rfl hh (fun hh=>?_) (fun hh=>?_))))
  ·obtain ⟨x17,hx17,hh⟩:=bs' hh
   obtain ⟨x18,hx18,hh⟩:=bs' hh
   exact sk' (S' (bk' (s' rfl rfl (i' rfl (J2 hx17) (estr.idx hx17) rfl (e' rfl (P' 2 rfl (g' [0] (Pa hx18) rfl rfl rfl rfl rfl rfl (n' (T' rfl (lw' (ih4 _ _ _ _ _ hh) rfl rfl rfl))))))))))
  exact ex' (p' 2 rfl (qe' rfl trivial (F0.lenA _) (e' rfl (bk' (fw' (ih5 _ _ _ _ _ hh) rfl rfl rfl)))))
 ·intro g0 g5 ih0 ih5 t depth o04 v158 res hh
  refine C1.unroll (t' rfl (S' (ci' rfl hh (fun hh=>?_) (fun hh=>?_))))
  ·obtain ⟨x19,hx19,hh⟩:=bs' hh
   obtain ⟨x20,hx20,hh⟩:=bs' hh
   exact sk' (S' (bk' (s' rfl rfl (i' rfl (J2 hx19) (F0.idx hx19) rfl (q' rfl (I0.nf hC rfl (I0.s hC rfl (n' (P' 4 rfl (g' [0] (ih0 _ _ _ _ hx20) rfl rfl rfl rfl rfl rfl (n' (T' rfl (lw' (ih5 _ _ _ _ _ hh) rfl rfl rfl)))))))))))))
  cases hh
  exact ex' (rn' rfl rfl rfl)
theorem Gz {t depth syntaxReport res}(hh:Q6 t depth syntaxReport=some res):Qp t depth syntaxReport res:=(Fy).1 _ _ _ _ hh
def N5 (l:List K0)(atV:Int):Option (Int×Int×Bool):=
 U0 l atV [45]>>=fun x1=>
 if x1=true then
  Vf l (IntKind.i64.wrap (atV+1))>>=fun x2=>
  some ((IntKind.i64.wrap (0 - x2.1)),x2.2.1,x2.2.2)
 else
  Vf l atV>>=fun x3=>
  some (x3.1,x3.2.1,x3.2.2)
def Mi (l:List K0)(atV:Int):Option (F0×Int×Bool):=
 U0 l atV [91]>>=fun x1=>
 if (!x1)=true then
  some ((F0.mk 0 0 0 0 [] [] []),atV,false)
 else
  N5 l (IntKind.i64.wrap (atV+1))>>=fun x2=>
  (if (!(!x2.2.2))=true then U0 l x2.2.1 [46,46] else some default)>>=fun x3=>
  if (bif (!x2.2.2) then true else (!x3))=true then
   some ((F0.mk 0 0 0 0 [] [] []),x2.2.1,false)
  else
   N5 l (IntKind.i64.wrap (x2.2.1+1))>>=fun x4=>
   (if (!(!x4.2.2))=true then U0 l x4.2.1 [93] else some default)>>=fun x5=>
   if (bif (!x4.2.2) then true else (!x5))=true then
    some ((F0.mk 0 0 0 0 [] [] []),x4.2.1,false)
   else
    some ((F0.mk 1 x2.1 x4.1 0 [] [] []),(IntKind.i64.wrap (x4.2.1+1)),true)
mutual
def Ta (l:List K0)(atV:Int):Option (F0×Int×Bool):=
 U0 l atV [98,111,111,108]>>=fun x1=>
 if x1=true then
  some ((F0.mk 0 0 0 0 [] [] []),(IntKind.i64.wrap (atV+1)),true)
 else
  U0 l atV [105,110,116]>>=fun x2=>
  if x2=true then
   Mi l (IntKind.i64.wrap (atV+1))>>=fun x3=>
   some (x3.1,x3.2.1,x3.2.2)
  else
   U0 l atV [97,114,114,97,121]>>=fun x4=>
   if x4=true then
    N5 l (IntKind.i64.wrap (atV+1))>>=fun x5=>
    (if (!(!x5.2.2))=true then U0 l x5.2.1 [111,102] else some default)>>=fun x6=>
    if (bif (!x5.2.2) then true else (!x6))=true then
     some ((F0.mk 0 0 0 0 [] [] []),x5.2.1,false)
    else
     Ta l (IntKind.i64.wrap (x5.2.1+1))>>=fun x10=>
     some ((F0.mk 2 0 0 x5.1 [] [] [x10.1]),x10.2.1,x10.2.2)
   else
    U0 l atV [114,101,99,111,114,100]>>=fun x7=>
    if x7=true then
     Ol l (IntKind.i64.wrap (atV+1))>>=fun x8=>
     some (x8.1,x8.2.1,x8.2.2)
    else
     Z7 l atV>>=fun x9=>
     some ((F0.mk 4 0 0 0 x9.1 [] []),x9.2.1,x9.2.2)
 partial_fixpoint
def Ol (l:List K0)(atV:Int):Option (F0×Int×Bool):=
 U0 l atV [123]>>=fun x1=>
 if (!x1)=true then
  some ((F0.mk 3 0 0 0 [] [] []),atV,false)
 else
  O9 l [] [] atV
 partial_fixpoint
def O9 (l:List K0)(o1_Names:List Str)(o1_Of:List F0)(atV1:Int):Option (F0×Int×Bool):=
 J5 l (IntKind.i64.wrap (atV1+1))>>=fun x2=>
 if (!x2.2.2)=true then
  some ((F0.mk 3 0 0 0 [] o1_Names o1_Of),x2.2.1,false)
 else
  if (decide ((o1_Names.length+1) * 17≤140737488355328))=true then
   if (decide ((o1_Of.length+1) * 97≤140737488355328))=true then
    U0 l x2.2.1 [125]>>=fun x3=>
    if x3=true then
     some ((F0.mk 3 0 0 0 [] (o1_Names++[x2.1.Name]) (o1_Of++[x2.1.TypeV])),(IntKind.i64.wrap (x2.2.1+1)),true)
    else
     U0 l x2.2.1 [44]>>=fun x4=>
     if (!x4)=true then
      some ((F0.mk 3 0 0 0 [] (o1_Names++[x2.1.Name]) (o1_Of++[x2.1.TypeV])),x2.2.1,false)
     else
      O9 l (o1_Names++[x2.1.Name]) (o1_Of++[x2.1.TypeV]) x2.2.1
   else none
  else none
 partial_fixpoint
def J5 (l:List K0)(atV:Int):Option (D0×Int×Bool):=
 Z7 l atV>>=fun x1=>
 (if (!(!x1.2.2))=true then U0 l x1.2.1 [58] else some default)>>=fun x2=>
 if (bif (!x1.2.2) then true else (!x2))=true then
  some ((D0.mk 0 [] (F0.mk 0 0 0 0 [] [] []) 0 (A0.mk 0 0 [] []) [] [] []),x1.2.1,false)
 else
  Ta l (IntKind.i64.wrap (x1.2.1+1))>>=fun x3=>
  some ((D0.mk 4 x1.1 x3.1 0 (A0.mk 0 0 [] []) [] [] []),x3.2.1,x3.2.2)
 partial_fixpoint
end
mutual
def Zg (a:F0)(b:F0):Option Bool:=
 if (bif (bif (bif (bif (bif (bif (a.Kind != b.Kind) then true else (a.Low != b.Low)) then true else (a.High != b.High)) then true else (a.Size != b.Size)) then true else (!(a.Name == b.Name))) then true else (((a.Names).length:Int) != ((b.Names).length:Int))) then true else (((a.Of).length:Int) != ((b.Of).length:Int)))=true then
  some false
 else
  Id a b 0
 partial_fixpoint
def Id (a:F0)(b:F0)(i:Int):Option Bool:=
 if (decide (i < ((a.Names).length:Int)))=true then
  idx a.Names i>>=fun x1=>
  idx b.Names i>>=fun x2=>
  if (!(x1 == x2))=true then
   some false
  else
   Id a b (IntKind.i64.wrap (i+1))
 else
  Ua a b 0
 partial_fixpoint
def Ua (a:F0)(b:F0)(i1:Int):Option Bool:=
 if (decide (i1 < ((a.Of).length:Int)))=true then
  idx a.Of i1>>=fun x3=>
  idx b.Of i1>>=fun x4=>
  Zg x3 x4>>=fun x5=>
  if (!x5)=true then
   some false
  else
   Ua a b (IntKind.i64.wrap (i1+1))
 else
  some true
 partial_fixpoint
end
def Cq (t:F0):Option Bool:=
 Zg t (F0.mk 0 0 0 0 [] [] [])>>=fun x1=>
 some x1
mutual
def Ah (t:F0):Option Int:=
 Jd t 1 0
 partial_fixpoint
def Jd (t:F0)(n:Int)(i:Int):Option Int:=
 if (decide (i < ((t.Of).length:Int)))=true then
  idx t.Of i>>=fun x1=>
  Ah x1>>=fun x2=>
  Jd t (IntKind.i64.wrap (n+x2)) (IntKind.i64.wrap (i+1))
 else
  some n
 partial_fixpoint
end
mutual
def Bh (t:F0):Option Int:=
 Va t 0 0
 partial_fixpoint
def Va (t:F0)(d:Int)(i:Int):Option Int:=
 if (decide (i < ((t.Of).length:Int)))=true then
  idx t.Of i>>=fun x1=>
  Bh x1>>=fun x2=>
  if (decide (x2 > d))=true then
   Va t x2 (IntKind.i64.wrap (i+1))
  else
   Va t d (IntKind.i64.wrap (i+1))
 else
  some (IntKind.i64.wrap (d+1))
 partial_fixpoint
end
end Go.Proofs.YtmnhfbekncjnfaaGreatDoor

set_option maxRecDepth 100000
set_option maxHeartbeats 4000000
set_option synthInstance.maxSize 20000
set_option linter.unusedVariables false
namespace Go.Proofs.YtmnhfbekncjnfaaGreatDoor
open Go.Am
def Xs (s:T0)(t:F0)(used:Bool):Option T0:=
 (if (!used)=true then Cq t else some default)>>=fun x1=>
 if (bif (!used) then x1 else false)=true then
  some s
 else
  Ah t>>=fun x2=>
  Bh t>>=fun x3=>
  Wb (T0.mk (IntKind.i64.wrap (s.nodes+x2)) s.depth) x3>>=fun x4=>
  some x4
mutual
def Ni (t:F0):Option Bool:=
 if (bif (decide (t.Kind < 0)) then true else (decide (t.Kind > 4)))=true then
  some false
 else
  if (bif (bif (bif (bif (t.Kind != 1) then (bif (t.Low != 0) then true else (t.High != 0)) else false) then true else (bif (t.Kind != 2) then (t.Size != 0) else false)) then true else (bif (t.Kind != 4) then (!(t.Name == [])) else false)) then true else (bif (t.Kind != 3) then (((t.Names).length:Int) != 0) else false))=true then
   some false
  else
   if (bif (bif (bif (t.Kind == 2) then (((t.Of).length:Int) != 1) else false) then true else (bif (t.Kind == 3) then (bif (decide (((t.Of).length:Int) < 1)) then true else (((t.Of).length:Int) != ((t.Names).length:Int))) else false)) then true else (bif (bif (t.Kind != 2) then (t.Kind != 3) else false) then (((t.Of).length:Int) != 0) else false))=true then
    some false
   else
    De t 0
 partial_fixpoint
def De (t:F0)(i:Int):Option Bool:=
 if (decide (i < ((t.Of).length:Int)))=true then
  idx t.Of i>>=fun x1=>
  Ni x1>>=fun x2=>
  if (!x2)=true then
   some false
  else
   De t (IntKind.i64.wrap (i+1))
 else
  some true
 partial_fixpoint
end
mutual
def Ch (t:F0):Option Bool:=
 (if (t.Kind == 4)=true then Wf t.Name else some default)>>=fun x1=>
 if (bif (t.Kind == 4) then (!x1) else false)=true then
  some false
 else
  Kd t 0
 partial_fixpoint
def Kd (t:F0)(i:Int):Option Bool:=
 if (decide (i < ((t.Names).length:Int)))=true then
  idx t.Names i>>=fun x2=>
  Wf x2>>=fun x3=>
  if (!x3)=true then
   some false
  else
   Kd t (IntKind.i64.wrap (i+1))
 else
  Wa t 0
 partial_fixpoint
def Wa (t:F0)(i1:Int):Option Bool:=
 if (decide (i1 < ((t.Of).length:Int)))=true then
  idx t.Of i1>>=fun x4=>
  Ch x4>>=fun x5=>
  if (!x5)=true then
   some false
  else
   Wa t (IntKind.i64.wrap (i1+1))
 else
  some true
 partial_fixpoint
end
def Oi (n:Int):Option Bool:=
 some (bif (decide (n≥(-1048576))) then (decide (n≤1048576)) else false)
mutual
def Ee (t:F0):Option Bool:=
 (if (t.Kind == 1)=true then Oi t.Low else some default)>>=fun x1=>
 (if ((t.Kind == 1)&&(!(!x1)))=true then Oi t.High else some default)>>=fun x2=>
 if (bif (bif (bif (t.Kind == 1) then (bif (bif (!x1) then true else (!x2)) then true else (decide (t.Low > t.High))) else false) then true else (bif (t.Kind == 2) then (bif (decide (t.Size < 1)) then true else (decide (t.Size > 32))) else false)) then true else (decide (((t.Of).length:Int) > 32)))=true then
  some false
 else
  Nb t 0
 partial_fixpoint
def Nb (t:F0)(i:Int):Option Bool:=
 if (decide (i < ((t.Of).length:Int)))=true then
  idx t.Of i>>=fun x3=>
  Ee x3>>=fun x4=>
  if (!x4)=true then
   some false
  else
   Nb t (IntKind.i64.wrap (i+1))
 else
  some true
 partial_fixpoint
end
def W2 (kind:Int)(parserParser:B0):Option (Pn (D0×B0)):=
 V2 parserParser>>=fun x1=>match x1 with
 | .pn nn=>
 some (.pn nn)
 | .ok x1=>
 R0 [58] x1.2>>=fun x2=>match x2 with
 | .pn nn=>
 some (.pn nn)
 | .ok x2=>
 A5 x2>>=fun x3=>match x3 with
 | .pn nn=>
 some (.pn nn)
 | .ok x3=>
 some (.ok ((D0.mk kind x1.1 x3.1 0 (A0.mk 0 0 [] []) [] [] []),x3.2))
theorem V0 {kind parserParser res}(hh:W2 kind parserParser=some res):C2 C 139 [.ref 0 0,.d (.int .i64 kind)] [.row (B0.cells parserParser) 99] (R4 res (fun rr=>[.row (B0.cells rr.2) 99]) (fun rr=>.agg (D0.cells rr.1))) (M4 res I3 [.dead]):=by
 unfold W2 at hh
 refine C2.intro hC Tryz.func139 rfl rfl rfl (s' rfl rfl (I0.nf hC rfl (n' (p' 1 rfl ?_))))
 rcases bp' hh with ⟨nn,hx1,⟨⟩⟩ | ⟨x1,hx1,hh⟩
 ·exact gn' [0] (B1 hx1) rfl rfl rfl rfl rfl (fun hi=>peW ⟨trivial,trivial⟩ rfl hi)
 refine g' [0] ((B1 hx1).ok) rfl rfl rfl rfl rfl rfl (e' rfl (p' 1 rfl ?_))
 rcases bp' hh with ⟨nn,hx2,⟨⟩⟩ | ⟨x2,hx2,hh⟩
 ·exact gn' [0] (L0 hx2) rfl rfl rfl rfl rfl (fun hi=>peW ⟨trivial,trivial⟩ rfl hi)
 refine g' [0] ((L0 hx2).ok) rfl rfl rfl rfl rfl rfl (n' (p' 3 rfl ?_))
 rcases bp' hh with ⟨nn,hx3,⟨⟩⟩ | ⟨x3,hx3,hh⟩
 ·exact gn' [0] (F9 hx3) rfl rfl rfl rfl rfl (fun hi=>peW ⟨trivial,trivial⟩ rfl hi)
 cases hh
 exact g' [0] ((F9 hx3).ok) rfl rfl rfl rfl rfl rfl (q' rfl (I0.s hC rfl (n' (re' (rt' rfl rfl rfl)))))
def M7 (parserParser:B0):Option (Pn (D0×B0)):=
 W2 4 parserParser>>=fun x1=>match x1 with
 | .pn nn=>
 some (.pn nn)
 | .ok x1=>
 O0 [61] x1.2>>=fun x2=>
 if x2.1=true then
  O0 [116,114,117,101] x2.2>>=fun x3=>
  if x3.1=true then
   R0 [59] x3.2>>=fun x4=>match x4 with
   | .pn nn=>
   some (.pn nn)
   | .ok x4=>
   some (.ok ((D0.mk x1.1.Kind x1.1.Name x1.1.TypeV 1 x1.1.Value x1.1.Params x1.1.Vars x1.1.Body),x4))
  else
   O0 [102,97,108,115,101] x3.2>>=fun x5=>
   if x5.1=true then
    R0 [59] x5.2>>=fun x4=>match x4 with
    | .pn nn=>
    some (.pn nn)
    | .ok x4=>
    some (.ok (x1.1,x4))
   else
    T2 x5.2>>=fun x6=>match x6 with
    | .pn nn=>
    some (.pn nn)
    | .ok x6=>
    R0 [59] x6.2>>=fun x4=>match x4 with
    | .pn nn=>
    some (.pn nn)
    | .ok x4=>
    some (.ok ((D0.mk x1.1.Kind x1.1.Name x1.1.TypeV x6.1 x1.1.Value x1.1.Params x1.1.Vars x1.1.Body),x4))
 else
  R0 [59] x2.2>>=fun x4=>match x4 with
  | .pn nn=>
  some (.pn nn)
  | .ok x4=>
  some (.ok (x1.1,x4))
theorem A2 {parserParser res}(hh:M7 parserParser=some res):C2 C 140 [.ref 0 0] [.row (B0.cells parserParser) 99] (R4 res (fun rr=>[.row (B0.cells rr.2) 99]) (fun rr=>.agg (D0.cells rr.1))) (M4 res I3 [.dead]):=by
 unfold M7 at hh
 refine C2.intro hC Tryz.func140 rfl rfl rfl (s' rfl rfl (I0.nf hC rfl (n' (p' 1 rfl ?_))))
 rcases bp' hh with ⟨nn,hx1,⟨⟩⟩ | ⟨x1,hx1,hh⟩
 ·exact gn' [0] (V0 hx1) rfl rfl rfl rfl rfl (fun hi=>peW ⟨trivial,trivial⟩ rfl hi)
 obtain ⟨x2,hx2,hh⟩:=bs' hh
 refine g' [0] ((V0 hx1).ok) rfl rfl rfl rfl rfl rfl (I0.nf hC rfl (I0.s hC rfl (n' (S' (p' 1 rfl (g' [0] (P0 hx2) rfl rfl rfl rfl rfl rfl (n' (ci' rfl hh (fun hh=>?_) (fun hh=>?_)))))))))
 ·obtain ⟨x3,hx3,hh⟩:=bs' hh
  refine bk' (p' 1 rfl (g' [0] (P0 hx3) rfl rfl rfl rfl rfl rfl (e' rfl (ci' rfl hh (fun hh=>?_) (fun hh=>?_)))))
  ·refine P' 1 rfl (I0.s hC rfl (n' (p' 1 rfl ?_)))
   rcases bp' hh with ⟨nn,hx4,⟨⟩⟩ | ⟨x4,hx4,hh⟩
   ·exact gn' [0] (L0 hx4) rfl rfl rfl rfl rfl (fun hi=>peW ⟨trivial,trivial⟩ rfl hi)
   cases hh
   exact g' [0] ((L0 hx4).ok) rfl rfl rfl rfl rfl rfl (n' (p' 1 rfl (I0.s hC rfl (n' (re' (rt' rfl rfl rfl))))))
  obtain ⟨x5,hx5,hh⟩:=bs' hh
  refine p' 1 rfl (g' [0] (P0 hx5) rfl rfl rfl rfl rfl rfl (e' rfl (ci' rfl hh (fun hh=>?_) (fun hh=>?_))))
  ·refine sk' (p' 1 rfl ?_)
   rcases bp' hh with ⟨nn,hx4,⟨⟩⟩ | ⟨x4,hx4,hh⟩
   ·exact gn' [0] (L0 hx4) rfl rfl rfl rfl rfl (fun hi=>peW ⟨trivial,trivial⟩ rfl hi)
   cases hh
   exact g' [0] ((L0 hx4).ok) rfl rfl rfl rfl rfl rfl (n' (p' 1 rfl (I0.s hC rfl (n' (re' (rt' rfl rfl rfl))))))
  refine P' 1 rfl ?_
  rcases bp' hh with ⟨nn,hx6,⟨⟩⟩ | ⟨x6,hx6,hh⟩
  ·exact gn' [0] (Y0 hx6) rfl rfl rfl rfl rfl (fun hi=>peW ⟨trivial,trivial⟩ rfl hi)
  refine g' [0] ((Y0 hx6).ok) rfl rfl rfl rfl rfl rfl (q' rfl (I0.s hC rfl (n' (p' 1 rfl ?_))))
  rcases bp' hh with ⟨nn,hx4,⟨⟩⟩ | ⟨x4,hx4,hh⟩
  ·exact gn' [0] (L0 hx4) rfl rfl rfl rfl rfl (fun hi=>peW ⟨trivial,trivial⟩ rfl hi)
  cases hh
  exact g' [0] ((L0 hx4).ok) rfl rfl rfl rfl rfl rfl (n' (p' 1 rfl (I0.s hC rfl (n' (re' (rt' rfl rfl rfl))))))
 refine sk' (p' 1 rfl ?_)
 rcases bp' hh with ⟨nn,hx4,⟨⟩⟩ | ⟨x4,hx4,hh⟩
 ·exact gn' [0] (L0 hx4) rfl rfl rfl rfl rfl (fun hi=>peW ⟨trivial,trivial⟩ rfl hi)
 cases hh
 exact g' [0] ((L0 hx4).ok) rfl rfl rfl rfl rfl rfl (n' (p' 1 rfl (I0.s hC rfl (n' (re' (rt' rfl rfl rfl))))))
def N4 (o0:B0)(x1:A0×B0)(x4:Str×B0)(o2_Args:List A0):Option (Pn (E0×B0)):=
 O0 [44] o0>>=fun x13=>
 if x13.1=true then
  D1 x13.2>>=fun x14=>match x14 with
  | .pn nn=>
  some (.pn nn)
  | .ok x14=>
  if (decide ((o2_Args.length+1) * 57≤140737488355328))=true then
   N4 x14.2 x1 x4 (o2_Args++[x14.1])
  else none
 else
  R0 [41] x13.2>>=fun x8=>match x8 with
  | .pn nn=>
  some (.pn nn)
  | .ok x8=>
  R0 [59] x8>>=fun x9=>match x9 with
  | .pn nn=>
  some (.pn nn)
  | .ok x9=>
  some (.ok ((E0.mk 1 x1.1 (A0.mk 0 0 [] []) x4.1 o2_Args 0 0 0 [] [] []),x9))
 partial_fixpoint
abbrev Vh (o0:B0)(x1:A0×B0)(x4:Str×B0)(o2_Args:List A0)(res:Pn (E0×B0)):Prop:=LMp C 52 1 Tryz.f173 [1,1,1,0,4,1,2,1,1,0,1,2,1,4] [(0,.ref 0 0),(2,.ref 1 0),(3,.ref 2 0)] [.row (B0.cells o0) 99,.row [.d (.int .i64 0),.d (.int .i64 0),.d (.int .i64 0),.d (.str []),.full (A0.rows []),.d (.int .i64 0),.d (.int .i64 0),.d (.str []),.full (A0.rows []),.d (.str []),.full (A0.rows []),.d (.int .i64 0),.d (.int .i64 0),.d (.int .i64 0),.full (ei64.rows []),.full (E0.rows []),.full (E0.rows [])] 144,.row [.d (.int .i64 1),.d (.int .i64 x1.1.Op),.d (.int .i64 x1.1.NV),.d (.str x1.1.Name),.d (.sl (A0.rows x1.1.Kids)),.d (.int .i64 0),.d (.int .i64 0),.d (.str []),.full (A0.rows []),.d (.str x4.1),.osl 3 (A0.rows o2_Args),.d (.int .i64 0),.d (.int .i64 0),.d (.int .i64 0),.full (ei64.rows []),.full (E0.rows []),.full (E0.rows [])] 144,.tok 26 4] (R4 res (fun rr=>[.row (B0.cells rr.2) 99]) (fun rr=>.agg (E0.cells rr.1))) (M4 res I3 [.dead])
theorem Bo (x1:A0×B0)(x4:Str×B0):(∀ o0 o2_Args res,N4 o0 x1 x4 o2_Args=some res→Vh o0 x1 x4 o2_Args res):=by
 refine N4.partial_correctness x1 x4 _ ?_
 ·intro g0 ih0 o0 o2_Args res hh
  obtain ⟨x13,hx13,hh⟩:=bs' hh
  refine C1.unroll (S' (p' 1 rfl (g' [0] (P0 hx13) rfl rfl rfl rfl rfl rfl (n' (ci' rfl hh (fun hh=>?_) (fun hh=>?_))))))
  ·refine sk' (bk' ?_)
   rcases bp' hh with ⟨nn,hx14,⟨⟩⟩ | ⟨x14,hx14,hh⟩
   ·refine AEx.drawE hC ?_
    refine C0.step rfl (j0:=0) (js:=[2]) (by kernel_rfl) ⟨⟨_,rfl,?_⟩,⟨_,rfl,?_⟩,trivial⟩
    ·refine e' rfl ?_
     refine C0.step rfl (j0:=1) (js:=[2]) (by kernel_rfl) ⟨⟨_,rfl,?_⟩,⟨_,rfl,?_⟩,trivial⟩
     ·refine e' rfl ?_
      refine C0.step rfl (j0:=2) (js:=[]) (by kernel_rfl) ⟨⟨_,rfl,?_⟩,trivial⟩
      refine e' rfl ?_
      refine C0.step rfl (j0:=3) (js:=[]) (by kernel_rfl) ⟨⟨_,rfl,?_⟩,trivial⟩
      exact gn' [0] (S0 hx14) rfl rfl rfl rfl rfl (fun hi=>peW ⟨trivial,trivial⟩ rfl hi)
     ·refine e' rfl ?_
      refine C0.step rfl (j0:=1) (js:=[3]) (by kernel_rfl) ⟨⟨_,rfl,?_⟩,⟨_,rfl,?_⟩,trivial⟩
      ·refine e' rfl ?_
       refine C0.step rfl (j0:=3) (js:=[]) (by kernel_rfl) ⟨⟨_,rfl,?_⟩,trivial⟩
       exact gn' [0] (S0 hx14) rfl rfl rfl rfl rfl (fun hi=>peW ⟨trivial,trivial⟩ rfl hi)
      ·exact gn' [0] (S0 hx14) rfl rfl rfl rfl rfl (fun hi=>peW ⟨trivial,trivial⟩ rfl hi)
    ·refine e' rfl ?_
     refine C0.step rfl (j0:=0) (js:=[3]) (by kernel_rfl) ⟨⟨_,rfl,?_⟩,⟨_,rfl,?_⟩,trivial⟩
     ·refine e' rfl ?_
      refine C0.step rfl (j0:=1) (js:=[3]) (by kernel_rfl) ⟨⟨_,rfl,?_⟩,⟨_,rfl,?_⟩,trivial⟩
      ·refine e' rfl ?_
       refine C0.step rfl (j0:=3) (js:=[]) (by kernel_rfl) ⟨⟨_,rfl,?_⟩,trivial⟩
       exact gn' [0] (S0 hx14) rfl rfl rfl rfl rfl (fun hi=>peW ⟨trivial,trivial⟩ rfl hi)
      ·exact gn' [0] (S0 hx14) rfl rfl rfl rfl rfl (fun hi=>peW ⟨trivial,trivial⟩ rfl hi)
     ·exact gn' [0] (S0 hx14) rfl rfl rfl rfl rfl (fun hi=>peW ⟨trivial,trivial⟩ rfl hi)
   obtain ⟨c11,hh⟩:=J6 hh
   refine AEx.drawE hC ?_
   refine C0.step rfl (j0:=0) (js:=[2]) (by kernel_rfl) ⟨⟨_,rfl,?_⟩,⟨_,rfl,?_⟩,trivial⟩
   ·refine e' rfl ?_
    refine C0.step rfl (j0:=1) (js:=[2]) (by kernel_rfl) ⟨⟨_,rfl,?_⟩,⟨_,rfl,?_⟩,trivial⟩
    ·refine e' rfl ?_
     refine C0.step rfl (j0:=2) (js:=[]) (by kernel_rfl) ⟨⟨_,rfl,?_⟩,trivial⟩
     refine e' rfl ?_
     refine C0.step rfl (j0:=3) (js:=[]) (by kernel_rfl) ⟨⟨_,rfl,?_⟩,trivial⟩
     refine g' [0] ((S0 hx14).ok) rfl rfl rfl rfl rfl rfl (n' ?_)
     refine C0.step rfl (j0:=4) (js:=[]) (by kernel_rfl) ⟨⟨_,rfl,?_⟩,trivial⟩
     refine I0.be hC rfl (A0.rows_map [x14.1]).symm (n' ?_)
     refine C0.step rfl (j0:=5) (js:=[]) (by kernel_rfl) ⟨⟨_,rfl,?_⟩,trivial⟩
     refine I0.ap hC rfl (rs:=A0.rows (o2_Args++[x14.1])) (A0.app o2_Args [x14.1]) (A0.sz o2_Args) (A0.sz [x14.1]) (Q1 (A0.len o2_Args) (A0.len [x14.1]) c11) (n' ?_)
     refine C0.step rfl (j0:=6) (js:=[]) (by kernel_rfl) ⟨⟨_,rfl,?_⟩,trivial⟩
     refine e' rfl ?_
     refine C0.step rfl (j0:=7) (js:=[]) (by kernel_rfl) ⟨⟨_,rfl,?_⟩,trivial⟩
     exact I0.s hC rfl (n' (C0.nil (by kernel_rfl) (lw' (ih0 _ _ _ hh) rfl rfl rfl)))
    ·refine e' rfl ?_
     refine C0.step rfl (j0:=1) (js:=[3]) (by kernel_rfl) ⟨⟨_,rfl,?_⟩,⟨_,rfl,?_⟩,trivial⟩
     ·refine e' rfl ?_
      refine C0.step rfl (j0:=3) (js:=[]) (by kernel_rfl) ⟨⟨_,rfl,?_⟩,trivial⟩
      refine g' [0] ((S0 hx14).ok) rfl rfl rfl rfl rfl rfl (n' ?_)
      refine C0.step rfl (j0:=4) (js:=[]) (by kernel_rfl) ⟨⟨_,rfl,?_⟩,trivial⟩
      refine I0.be hC rfl (A0.rows_map [x14.1]).symm (n' ?_)
      refine C0.step rfl (j0:=5) (js:=[]) (by kernel_rfl) ⟨⟨_,rfl,?_⟩,trivial⟩
      refine I0.ap hC rfl (rs:=A0.rows (o2_Args++[x14.1])) (A0.app o2_Args [x14.1]) (A0.sz o2_Args) (A0.sz [x14.1]) (Q1 (A0.len o2_Args) (A0.len [x14.1]) c11) (n' ?_)
      refine C0.step rfl (j0:=6) (js:=[]) (by kernel_rfl) ⟨⟨_,rfl,?_⟩,trivial⟩
      refine e' rfl ?_
      refine C0.step rfl (j0:=7) (js:=[]) (by kernel_rfl) ⟨⟨_,rfl,?_⟩,trivial⟩
      exact I0.s hC rfl (n' (C0.nil (by kernel_rfl) (lw' (ih0 _ _ _ hh) rfl rfl rfl)))
     ·refine g' [0] ((S0 hx14).ok) rfl rfl rfl rfl rfl rfl (n' ?_)
      refine C0.step rfl (j0:=1) (js:=[4]) (by kernel_rfl) ⟨⟨_,rfl,?_⟩,⟨_,rfl,?_⟩,trivial⟩
      ·refine e' rfl ?_
       refine C0.step rfl (j0:=4) (js:=[]) (by kernel_rfl) ⟨⟨_,rfl,?_⟩,trivial⟩
       refine I0.be hC rfl (A0.rows_map [x14.1]).symm (n' ?_)
       refine C0.step rfl (j0:=5) (js:=[]) (by kernel_rfl) ⟨⟨_,rfl,?_⟩,trivial⟩
       refine I0.ap hC rfl (rs:=A0.rows (o2_Args++[x14.1])) (A0.app o2_Args [x14.1]) (A0.sz o2_Args) (A0.sz [x14.1]) (Q1 (A0.len o2_Args) (A0.len [x14.1]) c11) (n' ?_)
       refine C0.step rfl (j0:=6) (js:=[]) (by kernel_rfl) ⟨⟨_,rfl,?_⟩,trivial⟩
       refine e' rfl ?_
       refine C0.step rfl (j0:=7) (js:=[]) (by kernel_rfl) ⟨⟨_,rfl,?_⟩,trivial⟩
       exact I0.s hC rfl (n' (C0.nil (by kernel_rfl) (lw' (ih0 _ _ _ hh) rfl rfl rfl)))
      ·refine I0.be hC rfl (A0.rows_map [x14.1]).symm (n' ?_)
       refine C0.step rfl (j0:=1) (js:=[]) (by kernel_rfl) ⟨⟨_,rfl,?_⟩,trivial⟩
       refine e' rfl ?_
       refine C0.step rfl (j0:=5) (js:=[]) (by kernel_rfl) ⟨⟨_,rfl,?_⟩,trivial⟩
       refine I0.ap hC rfl (rs:=A0.rows (o2_Args++[x14.1])) (A0.app o2_Args [x14.1]) (A0.sz o2_Args) (A0.sz [x14.1]) (Q1 (A0.len o2_Args) (A0.len [x14.1]) c11) (n' ?_)
       refine C0.step rfl (j0:=6) (js:=[]) (by kernel_rfl) ⟨⟨_,rfl,?_⟩,trivial⟩
       refine e' rfl ?_
       refine C0.step rfl (j0:=7) (js:=[]) (by kernel_rfl) ⟨⟨_,rfl,?_⟩,trivial⟩
       exact I0.s hC rfl (n' (C0.nil (by kernel_rfl) (lw' (ih0 _ _ _ hh) rfl rfl rfl)))
   ·refine e' rfl ?_
    refine C0.step rfl (j0:=0) (js:=[3]) (by kernel_rfl) ⟨⟨_,rfl,?_⟩,⟨_,rfl,?_⟩,trivial⟩
    ·refine e' rfl ?_
     refine C0.step rfl (j0:=1) (js:=[3]) (by kernel_rfl) ⟨⟨_,rfl,?_⟩,⟨_,rfl,?_⟩,trivial⟩
     ·refine e' rfl ?_
      refine C0.step rfl (j0:=3) (js:=[]) (by kernel_rfl) ⟨⟨_,rfl,?_⟩,trivial⟩
      refine g' [0] ((S0 hx14).ok) rfl rfl rfl rfl rfl rfl (n' ?_)
      refine C0.step rfl (j0:=4) (js:=[]) (by kernel_rfl) ⟨⟨_,rfl,?_⟩,trivial⟩
      refine I0.be hC rfl (A0.rows_map [x14.1]).symm (n' ?_)
      refine C0.step rfl (j0:=5) (js:=[]) (by kernel_rfl) ⟨⟨_,rfl,?_⟩,trivial⟩
      refine I0.ap hC rfl (rs:=A0.rows (o2_Args++[x14.1])) (A0.app o2_Args [x14.1]) (A0.sz o2_Args) (A0.sz [x14.1]) (Q1 (A0.len o2_Args) (A0.len [x14.1]) c11) (n' ?_)
      refine C0.step rfl (j0:=6) (js:=[]) (by kernel_rfl) ⟨⟨_,rfl,?_⟩,trivial⟩
      refine e' rfl ?_
      refine C0.step rfl (j0:=7) (js:=[]) (by kernel_rfl) ⟨⟨_,rfl,?_⟩,trivial⟩
      exact I0.s hC rfl (n' (C0.nil (by kernel_rfl) (lw' (ih0 _ _ _ hh) rfl rfl rfl)))
     ·refine g' [0] ((S0 hx14).ok) rfl rfl rfl rfl rfl rfl (n' ?_)
      refine C0.step rfl (j0:=1) (js:=[4]) (by kernel_rfl) ⟨⟨_,rfl,?_⟩,⟨_,rfl,?_⟩,trivial⟩
      ·refine e' rfl ?_
       refine C0.step rfl (j0:=4) (js:=[]) (by kernel_rfl) ⟨⟨_,rfl,?_⟩,trivial⟩
       refine I0.be hC rfl (A0.rows_map [x14.1]).symm (n' ?_)
       refine C0.step rfl (j0:=5) (js:=[]) (by kernel_rfl) ⟨⟨_,rfl,?_⟩,trivial⟩
       refine I0.ap hC rfl (rs:=A0.rows (o2_Args++[x14.1])) (A0.app o2_Args [x14.1]) (A0.sz o2_Args) (A0.sz [x14.1]) (Q1 (A0.len o2_Args) (A0.len [x14.1]) c11) (n' ?_)
       refine C0.step rfl (j0:=6) (js:=[]) (by kernel_rfl) ⟨⟨_,rfl,?_⟩,trivial⟩
       refine e' rfl ?_
       refine C0.step rfl (j0:=7) (js:=[]) (by kernel_rfl) ⟨⟨_,rfl,?_⟩,trivial⟩
       exact I0.s hC rfl (n' (C0.nil (by kernel_rfl) (lw' (ih0 _ _ _ hh) rfl rfl rfl)))
      ·refine I0.be hC rfl (A0.rows_map [x14.1]).symm (n' ?_)
       refine C0.step rfl (j0:=1) (js:=[]) (by kernel_rfl) ⟨⟨_,rfl,?_⟩,trivial⟩
       refine e' rfl ?_
       refine C0.step rfl (j0:=5) (js:=[]) (by kernel_rfl) ⟨⟨_,rfl,?_⟩,trivial⟩
       refine I0.ap hC rfl (rs:=A0.rows (o2_Args++[x14.1])) (A0.app o2_Args [x14.1]) (A0.sz o2_Args) (A0.sz [x14.1]) (Q1 (A0.len o2_Args) (A0.len [x14.1]) c11) (n' ?_)
       refine C0.step rfl (j0:=6) (js:=[]) (by kernel_rfl) ⟨⟨_,rfl,?_⟩,trivial⟩
       refine e' rfl ?_
       refine C0.step rfl (j0:=7) (js:=[]) (by kernel_rfl) ⟨⟨_,rfl,?_⟩,trivial⟩
       exact I0.s hC rfl (n' (C0.nil (by kernel_rfl) (lw' (ih0 _ _ _ hh) rfl rfl rfl)))
    ·refine g' [0] ((S0 hx14).ok) rfl rfl rfl rfl rfl rfl (n' ?_)
     refine C0.step rfl (j0:=0) (js:=[4]) (by kernel_rfl) ⟨⟨_,rfl,?_⟩,⟨_,rfl,?_⟩,trivial⟩
     ·refine e' rfl ?_
      refine C0.step rfl (j0:=1) (js:=[4]) (by kernel_rfl) ⟨⟨_,rfl,?_⟩,⟨_,rfl,?_⟩,trivial⟩
      ·refine e' rfl ?_
       refine C0.step rfl (j0:=4) (js:=[]) (by kernel_rfl) ⟨⟨_,rfl,?_⟩,trivial⟩
       refine I0.be hC rfl (A0.rows_map [x14.1]).symm (n' ?_)
       refine C0.step rfl (j0:=5) (js:=[]) (by kernel_rfl) ⟨⟨_,rfl,?_⟩,trivial⟩
       refine I0.ap hC rfl (rs:=A0.rows (o2_Args++[x14.1])) (A0.app o2_Args [x14.1]) (A0.sz o2_Args) (A0.sz [x14.1]) (Q1 (A0.len o2_Args) (A0.len [x14.1]) c11) (n' ?_)
       refine C0.step rfl (j0:=6) (js:=[]) (by kernel_rfl) ⟨⟨_,rfl,?_⟩,trivial⟩
       refine e' rfl ?_
       refine C0.step rfl (j0:=7) (js:=[]) (by kernel_rfl) ⟨⟨_,rfl,?_⟩,trivial⟩
       exact I0.s hC rfl (n' (C0.nil (by kernel_rfl) (lw' (ih0 _ _ _ hh) rfl rfl rfl)))
      ·refine I0.be hC rfl (A0.rows_map [x14.1]).symm (n' ?_)
       refine C0.step rfl (j0:=1) (js:=[]) (by kernel_rfl) ⟨⟨_,rfl,?_⟩,trivial⟩
       refine e' rfl ?_
       refine C0.step rfl (j0:=5) (js:=[]) (by kernel_rfl) ⟨⟨_,rfl,?_⟩,trivial⟩
       refine I0.ap hC rfl (rs:=A0.rows (o2_Args++[x14.1])) (A0.app o2_Args [x14.1]) (A0.sz o2_Args) (A0.sz [x14.1]) (Q1 (A0.len o2_Args) (A0.len [x14.1]) c11) (n' ?_)
       refine C0.step rfl (j0:=6) (js:=[]) (by kernel_rfl) ⟨⟨_,rfl,?_⟩,trivial⟩
       refine e' rfl ?_
       refine C0.step rfl (j0:=7) (js:=[]) (by kernel_rfl) ⟨⟨_,rfl,?_⟩,trivial⟩
       exact I0.s hC rfl (n' (C0.nil (by kernel_rfl) (lw' (ih0 _ _ _ hh) rfl rfl rfl)))
     ·refine I0.be hC rfl (A0.rows_map [x14.1]).symm (n' ?_)
      refine C0.step rfl (j0:=0) (js:=[]) (by kernel_rfl) ⟨⟨_,rfl,?_⟩,trivial⟩
      refine e' rfl ?_
      refine C0.step rfl (j0:=1) (js:=[]) (by kernel_rfl) ⟨⟨_,rfl,?_⟩,trivial⟩
      refine e' rfl ?_
      refine C0.step rfl (j0:=5) (js:=[]) (by kernel_rfl) ⟨⟨_,rfl,?_⟩,trivial⟩
      refine I0.ap hC rfl (rs:=A0.rows (o2_Args++[x14.1])) (A0.app o2_Args [x14.1]) (A0.sz o2_Args) (A0.sz [x14.1]) (Q1 (A0.len o2_Args) (A0.len [x14.1]) c11) (n' ?_)
      refine C0.step rfl (j0:=6) (js:=[]) (by kernel_rfl) ⟨⟨_,rfl,?_⟩,trivial⟩
      refine e' rfl ?_
      refine C0.step rfl (j0:=7) (js:=[]) (by kernel_rfl) ⟨⟨_,rfl,?_⟩,trivial⟩
      exact I0.s hC rfl (n' (C0.nil (by kernel_rfl) (lw' (ih0 _ _ _ hh) rfl rfl rfl)))
  refine ex' (P' 1 rfl ?_)
  rcases bp' hh with ⟨nn,hx8,⟨⟩⟩ | ⟨x8,hx8,hh⟩
  ·exact gn' [0] (L0 hx8) rfl rfl rfl rfl rfl (fun hi=>peW ⟨trivial,trivial⟩ rfl hi)
  refine g' [0] ((L0 hx8).ok) rfl rfl rfl rfl rfl rfl (n' (p' 1 rfl ?_))
  rcases bp' hh with ⟨nn,hx9,⟨⟩⟩ | ⟨x9,hx9,hh⟩
  ·exact gn' [0] (L0 hx9) rfl rfl rfl rfl rfl (fun hi=>peW ⟨trivial,trivial⟩ rfl hi)
  refine g' [0] ((L0 hx9).ok) rfl rfl rfl rfl rfl rfl (n' (p' 1 rfl (I0.s hC rfl (n' (re' ?_)))))
  obtain rfl:=oi' hh
  exact ⟨_,.agg [.d (.int .i64 1),.d (.int .i64 x1.1.Op),.d (.int .i64 x1.1.NV),.d (.str x1.1.Name),.d (.sl (A0.rows x1.1.Kids)),.d (.int .i64 0),.d (.int .i64 0),.d (.str []),.d (.sl (A0.rows [])),.d (.str x4.1),.d (.sl (A0.rows o2_Args)),.d (.int .i64 0),.d (.int .i64 0),.d (.int .i64 0),.d (.sl (ei64.rows [])),.d (.sl (E0.rows [])),.d (.sl (E0.rows []))],[.row (B0.cells x9) 99],rfl,(.aggL ⟨.rfl,.rfl,.rfl,.rfl,.rfl,.rfl,.rfl,.rfl,.full,.rfl,.osl,.rfl,.rfl,.rfl,.full,.full,.full,trivial⟩),⟨⟨rfl,.refl _,rfl⟩,trivial⟩,rfl,rfl,rpq rfl rfl⟩
theorem Ro {o0 x1 x4 o2_Args res}(hh:N4 o0 x1 x4 o2_Args=some res):Vh o0 x1 x4 o2_Args res:=(Bo x1 x4) _ _ _ hh
def P9 (x7:A0×B0)(x1:A0×B0)(x4:Str×B0):Option (Pn (E0×B0)):=
 N4 x7.2 x1 x4 [x7.1]
theorem S2 {x7 x1 x4 res}(hh:P9 x7 x1 x4=some res):JMp C 52 1 Tryz.f173 [1,1,1,0,4,1,2,1,1,0,1,2,1] [(0,.ref 0 0),(2,.ref 1 0),(3,.ref 2 0)] [.row (B0.cells x7.2) 99,.row [.d (.int .i64 0),.d (.int .i64 0),.d (.int .i64 0),.d (.str []),.full (A0.rows []),.d (.int .i64 0),.d (.int .i64 0),.d (.str []),.full (A0.rows []),.d (.str []),.full (A0.rows []),.d (.int .i64 0),.d (.int .i64 0),.d (.int .i64 0),.full (ei64.rows []),.full (E0.rows []),.full (E0.rows [])] 144,.row [.d (.int .i64 1),.d (.int .i64 x1.1.Op),.d (.int .i64 x1.1.NV),.d (.str x1.1.Name),.d (.sl (A0.rows x1.1.Kids)),.d (.int .i64 0),.d (.int .i64 0),.d (.str []),.full (A0.rows []),.d (.str x4.1),.osl 3 (A0.rows [x7.1]),.d (.int .i64 0),.d (.int .i64 0),.d (.int .i64 0),.full (ei64.rows []),.full (E0.rows []),.full (E0.rows [])] 144,.tok 26 4] (R4 res (fun rr=>[.row (B0.cells rr.2) 99]) (fun rr=>.agg (E0.cells rr.1))) (M4 res I3 [.dead]):=by
 unfold P9 at hh
 exact bk' (fw' (Ro hh) rfl rfl rfl)
def R8 (parserParser:B0):Option (Pn (E0×B0)):=
 K6 parserParser>>=fun x1=>match x1 with
 | .pn nn=>
 some (.pn nn)
 | .ok x1=>
 R0 [61] x1.2>>=fun x2=>match x2 with
 | .pn nn=>
 some (.pn nn)
 | .ok x2=>
 O0 [99,97,108,108] x2>>=fun x3=>
 if x3.1=true then
  V2 x3.2>>=fun x4=>match x4 with
  | .pn nn=>
  some (.pn nn)
  | .ok x4=>
  R0 [40] x4.2>>=fun x5=>match x5 with
  | .pn nn=>
  some (.pn nn)
  | .ok x5=>
  M8 [41] x5>>=fun x6=>
  if (!x6)=true then
   D1 x5>>=fun x7=>match x7 with
   | .pn nn=>
   some (.pn nn)
   | .ok x7=>
   if (decide ((0+1) * 57≤140737488355328))=true then
    P9 x7 x1 x4
   else none
  else
   R0 [41] x5>>=fun x8=>match x8 with
   | .pn nn=>
   some (.pn nn)
   | .ok x8=>
   R0 [59] x8>>=fun x9=>match x9 with
   | .pn nn=>
   some (.pn nn)
   | .ok x9=>
   some (.ok ((E0.mk 1 x1.1 (A0.mk 0 0 [] []) x4.1 [] 0 0 0 [] [] []),x9))
 else
  O0 [114,101,108,101,97,115,101] x3.2>>=fun x10=>
  if x10.1=true then
   V2 x10.2>>=fun x11=>match x11 with
   | .pn nn=>
   some (.pn nn)
   | .ok x11=>
   R0 [59] x11.2>>=fun x9=>match x9 with
   | .pn nn=>
   some (.pn nn)
   | .ok x9=>
   some (.ok ((E0.mk 2 x1.1 (A0.mk 0 0 [] []) x11.1 [] 0 0 0 [] [] []),x9))
  else
   D1 x10.2>>=fun x12=>match x12 with
   | .pn nn=>
   some (.pn nn)
   | .ok x12=>
   R0 [59] x12.2>>=fun x9=>match x9 with
   | .pn nn=>
   some (.pn nn)
   | .ok x9=>
   some (.ok ((E0.mk 0 x1.1 x12.1 [] [] 0 0 0 [] [] []),x9))
theorem Jj {parserParser res}(hh:R8 parserParser=some res):C2 C 173 [.ref 0 0] [.row (B0.cells parserParser) 99] (R4 res (fun rr=>[.row (B0.cells rr.2) 99]) (fun rr=>.agg (E0.cells rr.1))) (M4 res I3 [.dead]):=by
 unfold R8 at hh
 refine C2.intro hC Tryz.func173 rfl rfl rfl (s' rfl rfl (I0.nf hC rfl (n' (p' 1 rfl ?_))))
 rcases bp' hh with ⟨nn,hx1,⟨⟩⟩ | ⟨x1,hx1,hh⟩
 ·exact gn' [0] (Um hx1) rfl rfl rfl rfl rfl (fun hi=>peW ⟨trivial,trivial⟩ rfl hi)
 refine g' [0] ((Um hx1).ok) rfl rfl rfl rfl rfl rfl (I0.bz hC rfl (I0.nf hC rfl (I0.s hC rfl (n' (p' 1 rfl ?_)))))
 rcases bp' hh with ⟨nn,hx2,⟨⟩⟩ | ⟨x2,hx2,hh⟩
 ·exact gn' [0] (L0 hx2) rfl rfl rfl rfl rfl (fun hi=>peW ⟨trivial,trivial⟩ rfl hi)
 obtain ⟨x3,hx3,hh⟩:=bs' hh
 refine g' [0] ((L0 hx2).ok) rfl rfl rfl rfl rfl rfl (n' (S' (bk' (p' 1 rfl (g' [0] (P0 hx3) rfl rfl rfl rfl rfl rfl (e' rfl (ci' rfl hh (fun hh=>?_) (fun hh=>?_))))))))
 ·refine p' 1 rfl ?_
  rcases bp' hh with ⟨nn,hx4,⟨⟩⟩ | ⟨x4,hx4,hh⟩
  ·exact gn' [0] (B1 hx4) rfl rfl rfl rfl rfl (fun hi=>peW ⟨trivial,trivial⟩ rfl hi)
  refine g' [0] ((B1 hx4).ok) rfl rfl rfl rfl rfl rfl (q' rfl (I0.s hC rfl (q' rfl (I0.s hC rfl (n' (p' 1 rfl ?_))))))
  rcases bp' hh with ⟨nn,hx5,⟨⟩⟩ | ⟨x5,hx5,hh⟩
  ·exact gn' [0] (L0 hx5) rfl rfl rfl rfl rfl (fun hi=>peW ⟨trivial,trivial⟩ rfl hi)
  obtain ⟨x6,hx6,hh⟩:=bs' hh
  refine g' [0] ((L0 hx5).ok) rfl rfl rfl rfl rfl rfl (n' (S' (p' 1 rfl (g' [0] (Kp hx6) rfl rfl rfl rfl rfl rfl (e' rfl (ci' rfl hh (fun hh=>?_) (fun hh=>?_)))))))
  ·refine S' ?_
   rcases bp' hh with ⟨nn,hx7,⟨⟩⟩ | ⟨x7,hx7,hh⟩
   ·refine AEx.drawE hC ?_
    refine C0.step rfl (j0:=0) (js:=[2]) (by kernel_rfl) ⟨⟨_,rfl,?_⟩,⟨_,rfl,?_⟩,trivial⟩
    ·refine e' rfl ?_
     refine C0.step rfl (j0:=1) (js:=[2]) (by kernel_rfl) ⟨⟨_,rfl,?_⟩,⟨_,rfl,?_⟩,trivial⟩
     ·refine e' rfl ?_
      refine C0.step rfl (j0:=2) (js:=[]) (by kernel_rfl) ⟨⟨_,rfl,?_⟩,trivial⟩
      refine e' rfl ?_
      refine C0.step rfl (j0:=3) (js:=[]) (by kernel_rfl) ⟨⟨_,rfl,?_⟩,trivial⟩
      exact gn' [0] (S0 hx7) rfl rfl rfl rfl rfl (fun hi=>peW ⟨trivial,trivial⟩ rfl hi)
     ·refine e' rfl ?_
      refine C0.step rfl (j0:=1) (js:=[3]) (by kernel_rfl) ⟨⟨_,rfl,?_⟩,⟨_,rfl,?_⟩,trivial⟩
      ·refine e' rfl ?_
       refine C0.step rfl (j0:=3) (js:=[]) (by kernel_rfl) ⟨⟨_,rfl,?_⟩,trivial⟩
       exact gn' [0] (S0 hx7) rfl rfl rfl rfl rfl (fun hi=>peW ⟨trivial,trivial⟩ rfl hi)
      ·exact gn' [0] (S0 hx7) rfl rfl rfl rfl rfl (fun hi=>peW ⟨trivial,trivial⟩ rfl hi)
    ·refine e' rfl ?_
     refine C0.step rfl (j0:=0) (js:=[3]) (by kernel_rfl) ⟨⟨_,rfl,?_⟩,⟨_,rfl,?_⟩,trivial⟩
     ·refine e' rfl ?_
      refine C0.step rfl (j0:=1) (js:=[3]) (by kernel_rfl) ⟨⟨_,rfl,?_⟩,⟨_,rfl,?_⟩,trivial⟩
      ·refine e' rfl ?_
       refine C0.step rfl (j0:=3) (js:=[]) (by kernel_rfl) ⟨⟨_,rfl,?_⟩,trivial⟩
       exact gn' [0] (S0 hx7) rfl rfl rfl rfl rfl (fun hi=>peW ⟨trivial,trivial⟩ rfl hi)
      ·exact gn' [0] (S0 hx7) rfl rfl rfl rfl rfl (fun hi=>peW ⟨trivial,trivial⟩ rfl hi)
     ·exact gn' [0] (S0 hx7) rfl rfl rfl rfl rfl (fun hi=>peW ⟨trivial,trivial⟩ rfl hi)
   obtain ⟨c10,hh⟩:=J6 hh
   refine AEx.drawE hC ?_
   refine C0.step rfl (j0:=0) (js:=[2]) (by kernel_rfl) ⟨⟨_,rfl,?_⟩,⟨_,rfl,?_⟩,trivial⟩
   ·refine e' rfl ?_
    refine C0.step rfl (j0:=1) (js:=[2]) (by kernel_rfl) ⟨⟨_,rfl,?_⟩,⟨_,rfl,?_⟩,trivial⟩
    ·refine e' rfl ?_
     refine C0.step rfl (j0:=2) (js:=[]) (by kernel_rfl) ⟨⟨_,rfl,?_⟩,trivial⟩
     refine e' rfl ?_
     refine C0.step rfl (j0:=3) (js:=[]) (by kernel_rfl) ⟨⟨_,rfl,?_⟩,trivial⟩
     refine g' [0] ((S0 hx7).ok) rfl rfl rfl rfl rfl rfl (n' ?_)
     refine C0.step rfl (j0:=4) (js:=[]) (by kernel_rfl) ⟨⟨_,rfl,?_⟩,trivial⟩
     refine I0.be hC rfl (A0.rows_map [x7.1]).symm (n' ?_)
     refine C0.step rfl (j0:=5) (js:=[]) (by kernel_rfl) ⟨⟨_,rfl,?_⟩,trivial⟩
     refine I0.ap hC rfl (rs:=A0.rows [x7.1]) rfl (A0.sz []) (A0.sz [x7.1]) (Q1 (A0.len []) (A0.len [x7.1]) c10) (n' ?_)
     refine C0.step rfl (j0:=6) (js:=[]) (by kernel_rfl) ⟨⟨_,rfl,?_⟩,trivial⟩
     refine e' rfl ?_
     refine C0.step rfl (j0:=7) (js:=[]) (by kernel_rfl) ⟨⟨_,rfl,?_⟩,trivial⟩
     exact I0.s hC rfl (n' (C0.nil (by kernel_rfl) (ew' (S2 hh) rfl rfl rfl)))
    ·refine e' rfl ?_
     refine C0.step rfl (j0:=1) (js:=[3]) (by kernel_rfl) ⟨⟨_,rfl,?_⟩,⟨_,rfl,?_⟩,trivial⟩
     ·refine e' rfl ?_
      refine C0.step rfl (j0:=3) (js:=[]) (by kernel_rfl) ⟨⟨_,rfl,?_⟩,trivial⟩
      refine g' [0] ((S0 hx7).ok) rfl rfl rfl rfl rfl rfl (n' ?_)
      refine C0.step rfl (j0:=4) (js:=[]) (by kernel_rfl) ⟨⟨_,rfl,?_⟩,trivial⟩
      refine I0.be hC rfl (A0.rows_map [x7.1]).symm (n' ?_)
      refine C0.step rfl (j0:=5) (js:=[]) (by kernel_rfl) ⟨⟨_,rfl,?_⟩,trivial⟩
      refine I0.ap hC rfl (rs:=A0.rows [x7.1]) rfl (A0.sz []) (A0.sz [x7.1]) (Q1 (A0.len []) (A0.len [x7.1]) c10) (n' ?_)
      refine C0.step rfl (j0:=6) (js:=[]) (by kernel_rfl) ⟨⟨_,rfl,?_⟩,trivial⟩
      refine e' rfl ?_
      refine C0.step rfl (j0:=7) (js:=[]) (by kernel_rfl) ⟨⟨_,rfl,?_⟩,trivial⟩
      exact I0.s hC rfl (n' (C0.nil (by kernel_rfl) (ew' (S2 hh) rfl rfl rfl)))
     ·refine g' [0] ((S0 hx7).ok) rfl rfl rfl rfl rfl rfl (n' ?_)
      refine C0.step rfl (j0:=1) (js:=[4]) (by kernel_rfl) ⟨⟨_,rfl,?_⟩,⟨_,rfl,?_⟩,trivial⟩
      ·refine e' rfl ?_
       refine C0.step rfl (j0:=4) (js:=[]) (by kernel_rfl) ⟨⟨_,rfl,?_⟩,trivial⟩
       refine I0.be hC rfl (A0.rows_map [x7.1]).symm (n' ?_)
       refine C0.step rfl (j0:=5) (js:=[]) (by kernel_rfl) ⟨⟨_,rfl,?_⟩,trivial⟩
       refine I0.ap hC rfl (rs:=A0.rows [x7.1]) rfl (A0.sz []) (A0.sz [x7.1]) (Q1 (A0.len []) (A0.len [x7.1]) c10) (n' ?_)
       refine C0.step rfl (j0:=6) (js:=[]) (by kernel_rfl) ⟨⟨_,rfl,?_⟩,trivial⟩
       refine e' rfl ?_
       refine C0.step rfl (j0:=7) (js:=[]) (by kernel_rfl) ⟨⟨_,rfl,?_⟩,trivial⟩
       exact I0.s hC rfl (n' (C0.nil (by kernel_rfl) (ew' (S2 hh) rfl rfl rfl)))
      ·refine I0.be hC rfl (A0.rows_map [x7.1]).symm (n' ?_)
       refine C0.step rfl (j0:=1) (js:=[]) (by kernel_rfl) ⟨⟨_,rfl,?_⟩,trivial⟩
       refine e' rfl ?_
       refine C0.step rfl (j0:=5) (js:=[]) (by kernel_rfl) ⟨⟨_,rfl,?_⟩,trivial⟩
       refine I0.ap hC rfl (rs:=A0.rows [x7.1]) rfl (A0.sz []) (A0.sz [x7.1]) (Q1 (A0.len []) (A0.len [x7.1]) c10) (n' ?_)
       refine C0.step rfl (j0:=6) (js:=[]) (by kernel_rfl) ⟨⟨_,rfl,?_⟩,trivial⟩
       refine e' rfl ?_
       refine C0.step rfl (j0:=7) (js:=[]) (by kernel_rfl) ⟨⟨_,rfl,?_⟩,trivial⟩
       exact I0.s hC rfl (n' (C0.nil (by kernel_rfl) (ew' (S2 hh) rfl rfl rfl)))
   ·refine e' rfl ?_
    refine C0.step rfl (j0:=0) (js:=[3]) (by kernel_rfl) ⟨⟨_,rfl,?_⟩,⟨_,rfl,?_⟩,trivial⟩
    ·refine e' rfl ?_
     refine C0.step rfl (j0:=1) (js:=[3]) (by kernel_rfl) ⟨⟨_,rfl,?_⟩,⟨_,rfl,?_⟩,trivial⟩
     ·refine e' rfl ?_
      refine C0.step rfl (j0:=3) (js:=[]) (by kernel_rfl) ⟨⟨_,rfl,?_⟩,trivial⟩
      refine g' [0] ((S0 hx7).ok) rfl rfl rfl rfl rfl rfl (n' ?_)
      refine C0.step rfl (j0:=4) (js:=[]) (by kernel_rfl) ⟨⟨_,rfl,?_⟩,trivial⟩
      refine I0.be hC rfl (A0.rows_map [x7.1]).symm (n' ?_)
      refine C0.step rfl (j0:=5) (js:=[]) (by kernel_rfl) ⟨⟨_,rfl,?_⟩,trivial⟩
      refine I0.ap hC rfl (rs:=A0.rows [x7.1]) rfl (A0.sz []) (A0.sz [x7.1]) (Q1 (A0.len []) (A0.len [x7.1]) c10) (n' ?_)
      refine C0.step rfl (j0:=6) (js:=[]) (by kernel_rfl) ⟨⟨_,rfl,?_⟩,trivial⟩
      refine e' rfl ?_
      refine C0.step rfl (j0:=7) (js:=[]) (by kernel_rfl) ⟨⟨_,rfl,?_⟩,trivial⟩
      exact I0.s hC rfl (n' (C0.nil (by kernel_rfl) (ew' (S2 hh) rfl rfl rfl)))
     ·refine g' [0] ((S0 hx7).ok) rfl rfl rfl rfl rfl rfl (n' ?_)
      refine C0.step rfl (j0:=1) (js:=[4]) (by kernel_rfl) ⟨⟨_,rfl,?_⟩,⟨_,rfl,?_⟩,trivial⟩
      ·refine e' rfl ?_
       refine C0.step rfl (j0:=4) (js:=[]) (by kernel_rfl) ⟨⟨_,rfl,?_⟩,trivial⟩
       refine I0.be hC rfl (A0.rows_map [x7.1]).symm (n' ?_)
       refine C0.step rfl (j0:=5) (js:=[]) (by kernel_rfl) ⟨⟨_,rfl,?_⟩,trivial⟩
       refine I0.ap hC rfl (rs:=A0.rows [x7.1]) rfl (A0.sz []) (A0.sz [x7.1]) (Q1 (A0.len []) (A0.len [x7.1]) c10) (n' ?_)
       refine C0.step rfl (j0:=6) (js:=[]) (by kernel_rfl) ⟨⟨_,rfl,?_⟩,trivial⟩
       refine e' rfl ?_
       refine C0.step rfl (j0:=7) (js:=[]) (by kernel_rfl) ⟨⟨_,rfl,?_⟩,trivial⟩
       exact I0.s hC rfl (n' (C0.nil (by kernel_rfl) (ew' (S2 hh) rfl rfl rfl)))
      ·refine I0.be hC rfl (A0.rows_map [x7.1]).symm (n' ?_)
       refine C0.step rfl (j0:=1) (js:=[]) (by kernel_rfl) ⟨⟨_,rfl,?_⟩,trivial⟩
       refine e' rfl ?_
       refine C0.step rfl (j0:=5) (js:=[]) (by kernel_rfl) ⟨⟨_,rfl,?_⟩,trivial⟩
       refine I0.ap hC rfl (rs:=A0.rows [x7.1]) rfl (A0.sz []) (A0.sz [x7.1]) (Q1 (A0.len []) (A0.len [x7.1]) c10) (n' ?_)
       refine C0.step rfl (j0:=6) (js:=[]) (by kernel_rfl) ⟨⟨_,rfl,?_⟩,trivial⟩
       refine e' rfl ?_
       refine C0.step rfl (j0:=7) (js:=[]) (by kernel_rfl) ⟨⟨_,rfl,?_⟩,trivial⟩
       exact I0.s hC rfl (n' (C0.nil (by kernel_rfl) (ew' (S2 hh) rfl rfl rfl)))
    ·refine g' [0] ((S0 hx7).ok) rfl rfl rfl rfl rfl rfl (n' ?_)
     refine C0.step rfl (j0:=0) (js:=[4]) (by kernel_rfl) ⟨⟨_,rfl,?_⟩,⟨_,rfl,?_⟩,trivial⟩
     ·refine e' rfl ?_
      refine C0.step rfl (j0:=1) (js:=[4]) (by kernel_rfl) ⟨⟨_,rfl,?_⟩,⟨_,rfl,?_⟩,trivial⟩
      ·refine e' rfl ?_
       refine C0.step rfl (j0:=4) (js:=[]) (by kernel_rfl) ⟨⟨_,rfl,?_⟩,trivial⟩
       refine I0.be hC rfl (A0.rows_map [x7.1]).symm (n' ?_)
       refine C0.step rfl (j0:=5) (js:=[]) (by kernel_rfl) ⟨⟨_,rfl,?_⟩,trivial⟩
       refine I0.ap hC rfl (rs:=A0.rows [x7.1]) rfl (A0.sz []) (A0.sz [x7.1]) (Q1 (A0.len []) (A0.len [x7.1]) c10) (n' ?_)
       refine C0.step rfl (j0:=6) (js:=[]) (by kernel_rfl) ⟨⟨_,rfl,?_⟩,trivial⟩
       refine e' rfl ?_
       refine C0.step rfl (j0:=7) (js:=[]) (by kernel_rfl) ⟨⟨_,rfl,?_⟩,trivial⟩
       exact I0.s hC rfl (n' (C0.nil (by kernel_rfl) (ew' (S2 hh) rfl rfl rfl)))
      ·refine I0.be hC rfl (A0.rows_map [x7.1]).symm (n' ?_)
       refine C0.step rfl (j0:=1) (js:=[]) (by kernel_rfl) ⟨⟨_,rfl,?_⟩,trivial⟩
       refine e' rfl ?_
       refine C0.step rfl (j0:=5) (js:=[]) (by kernel_rfl) ⟨⟨_,rfl,?_⟩,trivial⟩
       refine I0.ap hC rfl (rs:=A0.rows [x7.1]) rfl (A0.sz []) (A0.sz [x7.1]) (Q1 (A0.len []) (A0.len [x7.1]) c10) (n' ?_)
       refine C0.step rfl (j0:=6) (js:=[]) (by kernel_rfl) ⟨⟨_,rfl,?_⟩,trivial⟩
       refine e' rfl ?_
       refine C0.step rfl (j0:=7) (js:=[]) (by kernel_rfl) ⟨⟨_,rfl,?_⟩,trivial⟩
       exact I0.s hC rfl (n' (C0.nil (by kernel_rfl) (ew' (S2 hh) rfl rfl rfl)))
     ·refine I0.be hC rfl (A0.rows_map [x7.1]).symm (n' ?_)
      refine C0.step rfl (j0:=0) (js:=[]) (by kernel_rfl) ⟨⟨_,rfl,?_⟩,trivial⟩
      refine e' rfl ?_
      refine C0.step rfl (j0:=1) (js:=[]) (by kernel_rfl) ⟨⟨_,rfl,?_⟩,trivial⟩
      refine e' rfl ?_
      refine C0.step rfl (j0:=5) (js:=[]) (by kernel_rfl) ⟨⟨_,rfl,?_⟩,trivial⟩
      refine I0.ap hC rfl (rs:=A0.rows [x7.1]) rfl (A0.sz []) (A0.sz [x7.1]) (Q1 (A0.len []) (A0.len [x7.1]) c10) (n' ?_)
      refine C0.step rfl (j0:=6) (js:=[]) (by kernel_rfl) ⟨⟨_,rfl,?_⟩,trivial⟩
      refine e' rfl ?_
      refine C0.step rfl (j0:=7) (js:=[]) (by kernel_rfl) ⟨⟨_,rfl,?_⟩,trivial⟩
      exact I0.s hC rfl (n' (C0.nil (by kernel_rfl) (ew' (S2 hh) rfl rfl rfl)))
  refine sk' (P' 1 rfl ?_)
  rcases bp' hh with ⟨nn,hx8,⟨⟩⟩ | ⟨x8,hx8,hh⟩
  ·exact gn' [0] (L0 hx8) rfl rfl rfl rfl rfl (fun hi=>peW ⟨trivial,trivial⟩ rfl hi)
  refine g' [0] ((L0 hx8).ok) rfl rfl rfl rfl rfl rfl (n' (p' 1 rfl ?_))
  rcases bp' hh with ⟨nn,hx9,⟨⟩⟩ | ⟨x9,hx9,hh⟩
  ·exact gn' [0] (L0 hx9) rfl rfl rfl rfl rfl (fun hi=>peW ⟨trivial,trivial⟩ rfl hi)
  refine g' [0] ((L0 hx9).ok) rfl rfl rfl rfl rfl rfl (n' (p' 1 rfl (I0.s hC rfl (n' (re' ?_)))))
  obtain rfl:=oi' hh
  exact ⟨_,.agg [.d (.int .i64 1),.d (.int .i64 x1.1.Op),.d (.int .i64 x1.1.NV),.d (.str x1.1.Name),.d (.sl (A0.rows x1.1.Kids)),.d (.int .i64 0),.d (.int .i64 0),.d (.str []),.d (.sl (A0.rows [])),.d (.str x4.1),.d (.sl (A0.rows [])),.d (.int .i64 0),.d (.int .i64 0),.d (.int .i64 0),.d (.sl (ei64.rows [])),.d (.sl (E0.rows [])),.d (.sl (E0.rows []))],[.row (B0.cells x9) 99],rfl,(.aggL ⟨.rfl,.rfl,.rfl,.rfl,.rfl,.rfl,.rfl,.rfl,.full,.rfl,.full,.rfl,.rfl,.rfl,.full,.full,.full,trivial⟩),⟨⟨rfl,.refl _,rfl⟩,trivial⟩,rfl,rfl,rpq rfl rfl⟩
 obtain ⟨x10,hx10,hh⟩:=bs' hh
 refine p' 1 rfl (g' [0] (P0 hx10) rfl rfl rfl rfl rfl rfl (e' rfl (ci' rfl hh (fun hh=>?_) (fun hh=>?_))))
 ·refine P' 1 rfl ?_
  rcases bp' hh with ⟨nn,hx11,⟨⟩⟩ | ⟨x11,hx11,hh⟩
  ·exact gn' [0] (B1 hx11) rfl rfl rfl rfl rfl (fun hi=>peW ⟨trivial,trivial⟩ rfl hi)
  refine g' [0] ((B1 hx11).ok) rfl rfl rfl rfl rfl rfl (q' rfl (I0.s hC rfl (q' rfl (I0.s hC rfl (n' (p' 1 rfl ?_))))))
  rcases bp' hh with ⟨nn,hx9,⟨⟩⟩ | ⟨x9,hx9,hh⟩
  ·exact gn' [0] (L0 hx9) rfl rfl rfl rfl rfl (fun hi=>peW ⟨trivial,trivial⟩ rfl hi)
  refine g' [0] ((L0 hx9).ok) rfl rfl rfl rfl rfl rfl (n' (p' 1 rfl (I0.s hC rfl (n' (re' ?_)))))
  obtain rfl:=oi' hh
  exact ⟨_,.agg [.d (.int .i64 2),.d (.int .i64 x1.1.Op),.d (.int .i64 x1.1.NV),.d (.str x1.1.Name),.d (.sl (A0.rows x1.1.Kids)),.d (.int .i64 0),.d (.int .i64 0),.d (.str []),.d (.sl (A0.rows [])),.d (.str x11.1),.d (.sl (A0.rows [])),.d (.int .i64 0),.d (.int .i64 0),.d (.int .i64 0),.d (.sl (ei64.rows [])),.d (.sl (E0.rows [])),.d (.sl (E0.rows []))],[.row (B0.cells x9) 99],rfl,(.aggL ⟨.rfl,.rfl,.rfl,.rfl,.rfl,.rfl,.rfl,.rfl,.full,.rfl,.full,.rfl,.rfl,.rfl,.full,.full,.full,trivial⟩),⟨⟨rfl,.refl _,rfl⟩,trivial⟩,rfl,rfl,rpq rfl rfl⟩
 refine P' 1 rfl ?_
 rcases bp' hh with ⟨nn,hx12,⟨⟩⟩ | ⟨x12,hx12,hh⟩
 ·exact gn' [0] (S0 hx12) rfl rfl rfl rfl rfl (fun hi=>peW ⟨trivial,trivial⟩ rfl hi)
 refine g' [0] ((S0 hx12).ok) rfl rfl rfl rfl rfl rfl (q' rfl (I0.s hC rfl (n' (p' 1 rfl ?_))))
 rcases bp' hh with ⟨nn,hx9,⟨⟩⟩ | ⟨x9,hx9,hh⟩
 ·exact gn' [0] (L0 hx9) rfl rfl rfl rfl rfl (fun hi=>peW ⟨trivial,trivial⟩ rfl hi)
 refine g' [0] ((L0 hx9).ok) rfl rfl rfl rfl rfl rfl (n' (p' 1 rfl (I0.s hC rfl (n' (re' ?_)))))
 obtain rfl:=oi' hh
 exact ⟨_,.agg [.d (.int .i64 0),.d (.int .i64 x1.1.Op),.d (.int .i64 x1.1.NV),.d (.str x1.1.Name),.d (.sl (A0.rows x1.1.Kids)),.d (.int .i64 x12.1.Op),.d (.int .i64 x12.1.NV),.d (.str x12.1.Name),.d (.sl (A0.rows x12.1.Kids)),.d (.str []),.d (.sl (A0.rows [])),.d (.int .i64 0),.d (.int .i64 0),.d (.int .i64 0),.d (.sl (ei64.rows [])),.d (.sl (E0.rows [])),.d (.sl (E0.rows []))],[.row (B0.cells x9) 99],rfl,(.aggL ⟨.rfl,.rfl,.rfl,.rfl,.rfl,.rfl,.rfl,.rfl,.rfl,.rfl,.full,.rfl,.rfl,.rfl,.full,.full,.full,trivial⟩),⟨⟨rfl,.refl _,rfl⟩,trivial⟩,rfl,rfl,rpq rfl rfl⟩
end Go.Proofs.YtmnhfbekncjnfaaGreatDoor

set_option maxRecDepth 100000
set_option maxHeartbeats 4000000
set_option synthInstance.maxSize 20000
set_option linter.unusedVariables false
namespace Go.Proofs.YtmnhfbekncjnfaaGreatDoor
open Go.Am
def W4 (o0:B0)(o2_Numbers:List Int):Option (Pn (E0×Bool×B0)):=
 O0 [44] o0>>=fun x23=>
 if x23.1=true then
  T2 x23.2>>=fun x24=>match x24 with
  | .pn nn=>
  some (.pn nn)
  | .ok x24=>
  if (decide ((o2_Numbers.length+1) * 9≤140737488355328))=true then
   W4 x24.2 (o2_Numbers++[x24.1])
  else none
 else
  R0 [59] x23.2>>=fun x25=>match x25 with
  | .pn nn=>
  some (.pn nn)
  | .ok x25=>
  some (.ok ((E0.mk 8 (A0.mk 0 0 [] []) (A0.mk 0 0 [] []) [] [] 0 0 0 o2_Numbers [] []),true,x25))
 partial_fixpoint
abbrev Pi (o0:B0)(o2_Numbers:List Int)(res:Pn (E0×Bool×B0)):Prop:=LMp C 93 1 Tryz.f142 [1,1,0,4,1,3,1,3,1,3,1,2,1,0,4] [(0,.ref 0 0),(2,.ref 1 0),(4,.ref 2 0)] [.row (B0.cells o0) 99,.row [.d (.int .i64 0),.d (.int .i64 0),.d (.int .i64 0),.d (.str []),.full (A0.rows []),.d (.int .i64 0),.d (.int .i64 0),.d (.str []),.full (A0.rows []),.d (.str []),.full (A0.rows []),.d (.int .i64 0),.d (.int .i64 0),.d (.int .i64 0),.full (ei64.rows []),.full (E0.rows []),.full (E0.rows [])] 144,.row [.d (.int .i64 8),.d (.int .i64 0),.d (.int .i64 0),.d (.str []),.d (.sl (A0.rows [])),.d (.int .i64 0),.d (.int .i64 0),.d (.str []),.d (.sl (A0.rows [])),.d (.str []),.d (.sl (A0.rows [])),.d (.int .i64 0),.d (.int .i64 0),.d (.int .i64 0),.osl 3 (ei64.rows o2_Numbers),.d (.sl (E0.rows [])),.d (.sl (E0.rows []))] 144,.tok 3 1] (R4 res (fun rr=>[.row (B0.cells rr.2.2) 99]) (fun rr=>.tup [.agg (E0.cells rr.1),.d (.bool rr.2.1)])) (M4 res I3 [.dead])
theorem So:(∀ o0 o2_Numbers res,W4 o0 o2_Numbers=some res→Pi o0 o2_Numbers res):=by
 refine W4.partial_correctness _ ?_
 ·intro g0 ih0 o0 o2_Numbers res hh
  obtain ⟨x23,hx23,hh⟩:=bs' hh
  refine C1.unroll (S' (p' 1 rfl (g' [0] (P0 hx23) rfl rfl rfl rfl rfl rfl (n' (ci' rfl hh (fun hh=>?_) (fun hh=>?_))))))
  ·refine sk' (bk' ?_)
   rcases bp' hh with ⟨nn,hx24,⟨⟩⟩ | ⟨x24,hx24,hh⟩
   ·refine AEx.drawE hC ?_
    refine C0.step rfl (j0:=0) (js:=[2]) (by kernel_rfl) ⟨⟨_,rfl,?_⟩,⟨_,rfl,?_⟩,trivial⟩
    ·refine e' rfl ?_
     refine C0.step rfl (j0:=1) (js:=[2]) (by kernel_rfl) ⟨⟨_,rfl,?_⟩,⟨_,rfl,?_⟩,trivial⟩
     ·refine e' rfl ?_
      refine C0.step rfl (j0:=2) (js:=[]) (by kernel_rfl) ⟨⟨_,rfl,?_⟩,trivial⟩
      refine e' rfl ?_
      refine C0.step rfl (j0:=3) (js:=[]) (by kernel_rfl) ⟨⟨_,rfl,?_⟩,trivial⟩
      exact gn' [0] (Y0 hx24) rfl rfl rfl rfl rfl (fun hi=>peW ⟨trivial,trivial⟩ rfl hi)
     ·refine e' rfl ?_
      refine C0.step rfl (j0:=1) (js:=[3]) (by kernel_rfl) ⟨⟨_,rfl,?_⟩,⟨_,rfl,?_⟩,trivial⟩
      ·refine e' rfl ?_
       refine C0.step rfl (j0:=3) (js:=[]) (by kernel_rfl) ⟨⟨_,rfl,?_⟩,trivial⟩
       exact gn' [0] (Y0 hx24) rfl rfl rfl rfl rfl (fun hi=>peW ⟨trivial,trivial⟩ rfl hi)
      ·exact gn' [0] (Y0 hx24) rfl rfl rfl rfl rfl (fun hi=>peW ⟨trivial,trivial⟩ rfl hi)
    ·refine e' rfl ?_
     refine C0.step rfl (j0:=0) (js:=[3]) (by kernel_rfl) ⟨⟨_,rfl,?_⟩,⟨_,rfl,?_⟩,trivial⟩
     ·refine e' rfl ?_
      refine C0.step rfl (j0:=1) (js:=[3]) (by kernel_rfl) ⟨⟨_,rfl,?_⟩,⟨_,rfl,?_⟩,trivial⟩
      ·refine e' rfl ?_
       refine C0.step rfl (j0:=3) (js:=[]) (by kernel_rfl) ⟨⟨_,rfl,?_⟩,trivial⟩
       exact gn' [0] (Y0 hx24) rfl rfl rfl rfl rfl (fun hi=>peW ⟨trivial,trivial⟩ rfl hi)
      ·exact gn' [0] (Y0 hx24) rfl rfl rfl rfl rfl (fun hi=>peW ⟨trivial,trivial⟩ rfl hi)
     ·exact gn' [0] (Y0 hx24) rfl rfl rfl rfl rfl (fun hi=>peW ⟨trivial,trivial⟩ rfl hi)
   obtain ⟨c6,hh⟩:=J6 hh
   refine AEx.drawE hC ?_
   refine C0.step rfl (j0:=0) (js:=[2]) (by kernel_rfl) ⟨⟨_,rfl,?_⟩,⟨_,rfl,?_⟩,trivial⟩
   ·refine e' rfl ?_
    refine C0.step rfl (j0:=1) (js:=[2]) (by kernel_rfl) ⟨⟨_,rfl,?_⟩,⟨_,rfl,?_⟩,trivial⟩
    ·refine e' rfl ?_
     refine C0.step rfl (j0:=2) (js:=[]) (by kernel_rfl) ⟨⟨_,rfl,?_⟩,trivial⟩
     refine e' rfl ?_
     refine C0.step rfl (j0:=3) (js:=[]) (by kernel_rfl) ⟨⟨_,rfl,?_⟩,trivial⟩
     refine g' [0] ((Y0 hx24).ok) rfl rfl rfl rfl rfl rfl (n' ?_)
     refine C0.step rfl (j0:=4) (js:=[]) (by kernel_rfl) ⟨⟨_,rfl,?_⟩,trivial⟩
     refine I0.be hC rfl (ei64.rows_map [x24.1]).symm (n' ?_)
     refine C0.step rfl (j0:=5) (js:=[]) (by kernel_rfl) ⟨⟨_,rfl,?_⟩,trivial⟩
     refine I0.ap hC rfl (rs:=ei64.rows (o2_Numbers++[x24.1])) (ei64.app o2_Numbers [x24.1]) (ei64.sz o2_Numbers) (ei64.sz [x24.1]) (Q1 (ei64.len o2_Numbers) (ei64.len [x24.1]) c6) (n' ?_)
     refine C0.step rfl (j0:=6) (js:=[]) (by kernel_rfl) ⟨⟨_,rfl,?_⟩,trivial⟩
     refine e' rfl ?_
     refine C0.step rfl (j0:=7) (js:=[]) (by kernel_rfl) ⟨⟨_,rfl,?_⟩,trivial⟩
     exact I0.s hC rfl (n' (C0.nil (by kernel_rfl) (lw' (ih0 _ _ _ hh) rfl rfl rfl)))
    ·refine e' rfl ?_
     refine C0.step rfl (j0:=1) (js:=[3]) (by kernel_rfl) ⟨⟨_,rfl,?_⟩,⟨_,rfl,?_⟩,trivial⟩
     ·refine e' rfl ?_
      refine C0.step rfl (j0:=3) (js:=[]) (by kernel_rfl) ⟨⟨_,rfl,?_⟩,trivial⟩
      refine g' [0] ((Y0 hx24).ok) rfl rfl rfl rfl rfl rfl (n' ?_)
      refine C0.step rfl (j0:=4) (js:=[]) (by kernel_rfl) ⟨⟨_,rfl,?_⟩,trivial⟩
      refine I0.be hC rfl (ei64.rows_map [x24.1]).symm (n' ?_)
      refine C0.step rfl (j0:=5) (js:=[]) (by kernel_rfl) ⟨⟨_,rfl,?_⟩,trivial⟩
      refine I0.ap hC rfl (rs:=ei64.rows (o2_Numbers++[x24.1])) (ei64.app o2_Numbers [x24.1]) (ei64.sz o2_Numbers) (ei64.sz [x24.1]) (Q1 (ei64.len o2_Numbers) (ei64.len [x24.1]) c6) (n' ?_)
      refine C0.step rfl (j0:=6) (js:=[]) (by kernel_rfl) ⟨⟨_,rfl,?_⟩,trivial⟩
      refine e' rfl ?_
      refine C0.step rfl (j0:=7) (js:=[]) (by kernel_rfl) ⟨⟨_,rfl,?_⟩,trivial⟩
      exact I0.s hC rfl (n' (C0.nil (by kernel_rfl) (lw' (ih0 _ _ _ hh) rfl rfl rfl)))
     ·refine g' [0] ((Y0 hx24).ok) rfl rfl rfl rfl rfl rfl (n' ?_)
      refine C0.step rfl (j0:=1) (js:=[4]) (by kernel_rfl) ⟨⟨_,rfl,?_⟩,⟨_,rfl,?_⟩,trivial⟩
      ·refine e' rfl ?_
       refine C0.step rfl (j0:=4) (js:=[]) (by kernel_rfl) ⟨⟨_,rfl,?_⟩,trivial⟩
       refine I0.be hC rfl (ei64.rows_map [x24.1]).symm (n' ?_)
       refine C0.step rfl (j0:=5) (js:=[]) (by kernel_rfl) ⟨⟨_,rfl,?_⟩,trivial⟩
       refine I0.ap hC rfl (rs:=ei64.rows (o2_Numbers++[x24.1])) (ei64.app o2_Numbers [x24.1]) (ei64.sz o2_Numbers) (ei64.sz [x24.1]) (Q1 (ei64.len o2_Numbers) (ei64.len [x24.1]) c6) (n' ?_)
       refine C0.step rfl (j0:=6) (js:=[]) (by kernel_rfl) ⟨⟨_,rfl,?_⟩,trivial⟩
       refine e' rfl ?_
       refine C0.step rfl (j0:=7) (js:=[]) (by kernel_rfl) ⟨⟨_,rfl,?_⟩,trivial⟩
       exact I0.s hC rfl (n' (C0.nil (by kernel_rfl) (lw' (ih0 _ _ _ hh) rfl rfl rfl)))
      ·refine I0.be hC rfl (ei64.rows_map [x24.1]).symm (n' ?_)
       refine C0.step rfl (j0:=1) (js:=[]) (by kernel_rfl) ⟨⟨_,rfl,?_⟩,trivial⟩
       refine e' rfl ?_
       refine C0.step rfl (j0:=5) (js:=[]) (by kernel_rfl) ⟨⟨_,rfl,?_⟩,trivial⟩
       refine I0.ap hC rfl (rs:=ei64.rows (o2_Numbers++[x24.1])) (ei64.app o2_Numbers [x24.1]) (ei64.sz o2_Numbers) (ei64.sz [x24.1]) (Q1 (ei64.len o2_Numbers) (ei64.len [x24.1]) c6) (n' ?_)
       refine C0.step rfl (j0:=6) (js:=[]) (by kernel_rfl) ⟨⟨_,rfl,?_⟩,trivial⟩
       refine e' rfl ?_
       refine C0.step rfl (j0:=7) (js:=[]) (by kernel_rfl) ⟨⟨_,rfl,?_⟩,trivial⟩
       exact I0.s hC rfl (n' (C0.nil (by kernel_rfl) (lw' (ih0 _ _ _ hh) rfl rfl rfl)))
   ·refine e' rfl ?_
    refine C0.step rfl (j0:=0) (js:=[3]) (by kernel_rfl) ⟨⟨_,rfl,?_⟩,⟨_,rfl,?_⟩,trivial⟩
    ·refine e' rfl ?_
     refine C0.step rfl (j0:=1) (js:=[3]) (by kernel_rfl) ⟨⟨_,rfl,?_⟩,⟨_,rfl,?_⟩,trivial⟩
     ·refine e' rfl ?_
      refine C0.step rfl (j0:=3) (js:=[]) (by kernel_rfl) ⟨⟨_,rfl,?_⟩,trivial⟩
      refine g' [0] ((Y0 hx24).ok) rfl rfl rfl rfl rfl rfl (n' ?_)
      refine C0.step rfl (j0:=4) (js:=[]) (by kernel_rfl) ⟨⟨_,rfl,?_⟩,trivial⟩
      refine I0.be hC rfl (ei64.rows_map [x24.1]).symm (n' ?_)
      refine C0.step rfl (j0:=5) (js:=[]) (by kernel_rfl) ⟨⟨_,rfl,?_⟩,trivial⟩
      refine I0.ap hC rfl (rs:=ei64.rows (o2_Numbers++[x24.1])) (ei64.app o2_Numbers [x24.1]) (ei64.sz o2_Numbers) (ei64.sz [x24.1]) (Q1 (ei64.len o2_Numbers) (ei64.len [x24.1]) c6) (n' ?_)
      refine C0.step rfl (j0:=6) (js:=[]) (by kernel_rfl) ⟨⟨_,rfl,?_⟩,trivial⟩
      refine e' rfl ?_
      refine C0.step rfl (j0:=7) (js:=[]) (by kernel_rfl) ⟨⟨_,rfl,?_⟩,trivial⟩
      exact I0.s hC rfl (n' (C0.nil (by kernel_rfl) (lw' (ih0 _ _ _ hh) rfl rfl rfl)))
     ·refine g' [0] ((Y0 hx24).ok) rfl rfl rfl rfl rfl rfl (n' ?_)
      refine C0.step rfl (j0:=1) (js:=[4]) (by kernel_rfl) ⟨⟨_,rfl,?_⟩,⟨_,rfl,?_⟩,trivial⟩
      ·refine e' rfl ?_
       refine C0.step rfl (j0:=4) (js:=[]) (by kernel_rfl) ⟨⟨_,rfl,?_⟩,trivial⟩
       refine I0.be hC rfl (ei64.rows_map [x24.1]).symm (n' ?_)
       refine C0.step rfl (j0:=5) (js:=[]) (by kernel_rfl) ⟨⟨_,rfl,?_⟩,trivial⟩
       refine I0.ap hC rfl (rs:=ei64.rows (o2_Numbers++[x24.1])) (ei64.app o2_Numbers [x24.1]) (ei64.sz o2_Numbers) (ei64.sz [x24.1]) (Q1 (ei64.len o2_Numbers) (ei64.len [x24.1]) c6) (n' ?_)
       refine C0.step rfl (j0:=6) (js:=[]) (by kernel_rfl) ⟨⟨_,rfl,?_⟩,trivial⟩
       refine e' rfl ?_
       refine C0.step rfl (j0:=7) (js:=[]) (by kernel_rfl) ⟨⟨_,rfl,?_⟩,trivial⟩
       exact I0.s hC rfl (n' (C0.nil (by kernel_rfl) (lw' (ih0 _ _ _ hh) rfl rfl rfl)))
      ·refine I0.be hC rfl (ei64.rows_map [x24.1]).symm (n' ?_)
       refine C0.step rfl (j0:=1) (js:=[]) (by kernel_rfl) ⟨⟨_,rfl,?_⟩,trivial⟩
       refine e' rfl ?_
       refine C0.step rfl (j0:=5) (js:=[]) (by kernel_rfl) ⟨⟨_,rfl,?_⟩,trivial⟩
       refine I0.ap hC rfl (rs:=ei64.rows (o2_Numbers++[x24.1])) (ei64.app o2_Numbers [x24.1]) (ei64.sz o2_Numbers) (ei64.sz [x24.1]) (Q1 (ei64.len o2_Numbers) (ei64.len [x24.1]) c6) (n' ?_)
       refine C0.step rfl (j0:=6) (js:=[]) (by kernel_rfl) ⟨⟨_,rfl,?_⟩,trivial⟩
       refine e' rfl ?_
       refine C0.step rfl (j0:=7) (js:=[]) (by kernel_rfl) ⟨⟨_,rfl,?_⟩,trivial⟩
       exact I0.s hC rfl (n' (C0.nil (by kernel_rfl) (lw' (ih0 _ _ _ hh) rfl rfl rfl)))
    ·refine g' [0] ((Y0 hx24).ok) rfl rfl rfl rfl rfl rfl (n' ?_)
     refine C0.step rfl (j0:=0) (js:=[4]) (by kernel_rfl) ⟨⟨_,rfl,?_⟩,⟨_,rfl,?_⟩,trivial⟩
     ·refine e' rfl ?_
      refine C0.step rfl (j0:=1) (js:=[4]) (by kernel_rfl) ⟨⟨_,rfl,?_⟩,⟨_,rfl,?_⟩,trivial⟩
      ·refine e' rfl ?_
       refine C0.step rfl (j0:=4) (js:=[]) (by kernel_rfl) ⟨⟨_,rfl,?_⟩,trivial⟩
       refine I0.be hC rfl (ei64.rows_map [x24.1]).symm (n' ?_)
       refine C0.step rfl (j0:=5) (js:=[]) (by kernel_rfl) ⟨⟨_,rfl,?_⟩,trivial⟩
       refine I0.ap hC rfl (rs:=ei64.rows (o2_Numbers++[x24.1])) (ei64.app o2_Numbers [x24.1]) (ei64.sz o2_Numbers) (ei64.sz [x24.1]) (Q1 (ei64.len o2_Numbers) (ei64.len [x24.1]) c6) (n' ?_)
       refine C0.step rfl (j0:=6) (js:=[]) (by kernel_rfl) ⟨⟨_,rfl,?_⟩,trivial⟩
       refine e' rfl ?_
       refine C0.step rfl (j0:=7) (js:=[]) (by kernel_rfl) ⟨⟨_,rfl,?_⟩,trivial⟩
       exact I0.s hC rfl (n' (C0.nil (by kernel_rfl) (lw' (ih0 _ _ _ hh) rfl rfl rfl)))
      ·refine I0.be hC rfl (ei64.rows_map [x24.1]).symm (n' ?_)
       refine C0.step rfl (j0:=1) (js:=[]) (by kernel_rfl) ⟨⟨_,rfl,?_⟩,trivial⟩
       refine e' rfl ?_
       refine C0.step rfl (j0:=5) (js:=[]) (by kernel_rfl) ⟨⟨_,rfl,?_⟩,trivial⟩
       refine I0.ap hC rfl (rs:=ei64.rows (o2_Numbers++[x24.1])) (ei64.app o2_Numbers [x24.1]) (ei64.sz o2_Numbers) (ei64.sz [x24.1]) (Q1 (ei64.len o2_Numbers) (ei64.len [x24.1]) c6) (n' ?_)
       refine C0.step rfl (j0:=6) (js:=[]) (by kernel_rfl) ⟨⟨_,rfl,?_⟩,trivial⟩
       refine e' rfl ?_
       refine C0.step rfl (j0:=7) (js:=[]) (by kernel_rfl) ⟨⟨_,rfl,?_⟩,trivial⟩
       exact I0.s hC rfl (n' (C0.nil (by kernel_rfl) (lw' (ih0 _ _ _ hh) rfl rfl rfl)))
     ·refine I0.be hC rfl (ei64.rows_map [x24.1]).symm (n' ?_)
      refine C0.step rfl (j0:=0) (js:=[]) (by kernel_rfl) ⟨⟨_,rfl,?_⟩,trivial⟩
      refine e' rfl ?_
      refine C0.step rfl (j0:=1) (js:=[]) (by kernel_rfl) ⟨⟨_,rfl,?_⟩,trivial⟩
      refine e' rfl ?_
      refine C0.step rfl (j0:=5) (js:=[]) (by kernel_rfl) ⟨⟨_,rfl,?_⟩,trivial⟩
      refine I0.ap hC rfl (rs:=ei64.rows (o2_Numbers++[x24.1])) (ei64.app o2_Numbers [x24.1]) (ei64.sz o2_Numbers) (ei64.sz [x24.1]) (Q1 (ei64.len o2_Numbers) (ei64.len [x24.1]) c6) (n' ?_)
      refine C0.step rfl (j0:=6) (js:=[]) (by kernel_rfl) ⟨⟨_,rfl,?_⟩,trivial⟩
      refine e' rfl ?_
      refine C0.step rfl (j0:=7) (js:=[]) (by kernel_rfl) ⟨⟨_,rfl,?_⟩,trivial⟩
      exact I0.s hC rfl (n' (C0.nil (by kernel_rfl) (lw' (ih0 _ _ _ hh) rfl rfl rfl)))
  refine ex' (P' 1 rfl ?_)
  rcases bp' hh with ⟨nn,hx25,⟨⟩⟩ | ⟨x25,hx25,hh⟩
  ·exact gn' [0] (L0 hx25) rfl rfl rfl rfl rfl (fun hi=>peW ⟨trivial,trivial⟩ rfl hi)
  refine g' [0] ((L0 hx25).ok) rfl rfl rfl rfl rfl rfl (n' (p' 1 rfl (I0.s hC rfl (e' rfl (re' ?_)))))
  obtain rfl:=oi' hh
  exact ⟨_,.tup [.agg [.d (.int .i64 8),.d (.int .i64 0),.d (.int .i64 0),.d (.str []),.d (.sl (A0.rows [])),.d (.int .i64 0),.d (.int .i64 0),.d (.str []),.d (.sl (A0.rows [])),.d (.str []),.d (.sl (A0.rows [])),.d (.int .i64 0),.d (.int .i64 0),.d (.int .i64 0),.d (.sl (ei64.rows o2_Numbers)),.d (.sl (E0.rows [])),.d (.sl (E0.rows []))],.d (.bool true)],[.row (B0.cells x25) 99],rfl,(.tupL ⟨(.aggL ⟨.rfl,.rfl,.rfl,.rfl,.rfl,.rfl,.rfl,.rfl,.rfl,.rfl,.rfl,.rfl,.rfl,.rfl,.osl,.rfl,.rfl,trivial⟩),.rfl,trivial⟩),⟨⟨rfl,.refl _,rfl⟩,trivial⟩,rfl,rfl,rpq rfl rfl⟩
theorem Ep {o0 o2_Numbers res}(hh:W4 o0 o2_Numbers=some res):Pi o0 o2_Numbers res:=(So) _ _ _ hh
mutual
def Y3 (parserParser:B0):Option (Pn (List E0×B0)):=
 T5 parserParser []
 partial_fixpoint
def T5 (o0:B0)(out:List E0):Option (Pn (List E0×B0)):=
 F7 o0>>=fun x1=>match x1 with
 | .pn nn=>
 some (.pn nn)
 | .ok x1=>
 if (!x1.2.1)=true then
  some (.ok (out,x1.2.2))
 else
  if (decide ((out.length+1) * 257≤140737488355328))=true then
   T5 x1.2.2 (out++[x1.1])
  else none
 partial_fixpoint
def F7 (parserParser:B0):Option (Pn (E0×Bool×B0)):=
 B5 parserParser>>=fun x1=>
 if x1=true then
  R8 parserParser>>=fun x2=>match x2 with
  | .pn nn=>
  some (.pn nn)
  | .ok x2=>
  some (.ok (x2.1,true,x2.2))
 else
  O0 [111,117,116,112,117,116] parserParser>>=fun x3=>
  if x3.1=true then
   D1 x3.2>>=fun x4=>match x4 with
   | .pn nn=>
   some (.pn nn)
   | .ok x4=>
   R0 [59] x4.2>>=fun x5=>match x5 with
   | .pn nn=>
   some (.pn nn)
   | .ok x5=>
   some (.ok ((E0.mk 3 (A0.mk 0 0 [] []) x4.1 [] [] 0 0 0 [] [] []),true,x5))
  else
   O0 [119,97,105,116] x3.2>>=fun x6=>
   if x6.1=true then
    T2 x6.2>>=fun x7=>match x7 with
    | .pn nn=>
    some (.pn nn)
    | .ok x7=>
    R0 [59] x7.2>>=fun x8=>match x8 with
    | .pn nn=>
    some (.pn nn)
    | .ok x8=>
    some (.ok ((E0.mk 4 (A0.mk 0 0 [] []) (A0.mk 0 0 [] []) [] [] x7.1 0 0 [] [] []),true,x8))
   else
    O0 [115,101,116,116,108,101] x6.2>>=fun x9=>
    if x9.1=true then
     T2 x9.2>>=fun x10=>match x10 with
     | .pn nn=>
     some (.pn nn)
     | .ok x10=>
     W4 x10.2 [x10.1]
    else
     O0 [105,102] x9.2>>=fun x11=>
     if x11.1=true then
      D1 x11.2>>=fun x12=>match x12 with
      | .pn nn=>
      some (.pn nn)
      | .ok x12=>
      L6 x12.2>>=fun x26=>match x26 with
      | .pn nn=>
      some (.pn nn)
      | .ok x26=>
      O0 [101,108,115,101] x26.2>>=fun x27=>
      if x27.1=true then
       L6 x27.2>>=fun x28=>match x28 with
       | .pn nn=>
       some (.pn nn)
       | .ok x28=>
       some (.ok ((E0.mk 5 (A0.mk 0 0 [] []) x12.1 [] [] 0 0 0 [] x26.1 x28.1),true,x28.2))
      else
       some (.ok ((E0.mk 5 (A0.mk 0 0 [] []) x12.1 [] [] 0 0 0 [] x26.1 []),true,x27.2))
     else
      O0 [119,104,105,108,101] x11.2>>=fun x13=>
      if x13.1=true then
       D1 x13.2>>=fun x14=>match x14 with
       | .pn nn=>
       some (.pn nn)
       | .ok x14=>
       R0 [108,105,109,105,116] x14.2>>=fun x15=>match x15 with
       | .pn nn=>
       some (.pn nn)
       | .ok x15=>
       T2 x15>>=fun x16=>match x16 with
       | .pn nn=>
       some (.pn nn)
       | .ok x16=>
       L6 x16.2>>=fun x29=>match x29 with
       | .pn nn=>
       some (.pn nn)
       | .ok x29=>
       some (.ok ((E0.mk 6 (A0.mk 0 0 [] []) x14.1 [] [] x16.1 0 0 [] x29.1 []),true,x29.2))
      else
       O0 [102,111,114] x13.2>>=fun x17=>
       if x17.1=true then
        V2 x17.2>>=fun x18=>match x18 with
        | .pn nn=>
        some (.pn nn)
        | .ok x18=>
        R0 [61] x18.2>>=fun x19=>match x19 with
        | .pn nn=>
        some (.pn nn)
        | .ok x19=>
        T2 x19>>=fun x20=>match x20 with
        | .pn nn=>
        some (.pn nn)
        | .ok x20=>
        R0 [116,111] x20.2>>=fun x21=>match x21 with
        | .pn nn=>
        some (.pn nn)
        | .ok x21=>
        T2 x21>>=fun x22=>match x22 with
        | .pn nn=>
        some (.pn nn)
        | .ok x22=>
        L6 x22.2>>=fun x30=>match x30 with
        | .pn nn=>
        some (.pn nn)
        | .ok x30=>
        some (.ok ((E0.mk 7 (A0.mk 0 0 [] []) (A0.mk 0 0 [] []) x18.1 [] 0 x20.1 x22.1 [] x30.1 []),true,x30.2))
       else
        some (.ok ((E0.mk 0 (A0.mk 0 0 [] []) (A0.mk 0 0 [] []) [] [] 0 0 0 [] [] []),false,x17.2))
 partial_fixpoint
def L6 (parserParser:B0):Option (Pn (List E0×B0)):=
 R0 [123] parserParser>>=fun x1=>match x1 with
 | .pn nn=>
 some (.pn nn)
 | .ok x1=>
 Y3 x1>>=fun x2=>match x2 with
 | .pn nn=>
 some (.pn nn)
 | .ok x2=>
 R0 [125] x2.2>>=fun x3=>match x3 with
 | .pn nn=>
 some (.pn nn)
 | .ok x3=>
 some (.ok (x2.1,x3))
 partial_fixpoint
end
abbrev Ik (parserParser:B0)(res:Pn (List E0×B0)):Prop:=C2 C 88 [.ref 0 0] [.row (B0.cells parserParser) 99] (R4 res (fun rr=>[.row (B0.cells rr.2) 99]) (fun rr=>.d (.sl (E0.rows rr.1)))) (M4 res I3 [.dead])
abbrev Fp (o0:B0)(out:List E0)(res:Pn (List E0×B0)):Prop:=LMp C 18 1 Tryz.f88 [1,1,4] [(0,.ref 0 0),(3,.osl 1 (E0.rows out))] [.row (B0.cells o0) 99,.tok 144 17] (R4 res (fun rr=>[.row (B0.cells rr.2) 99]) (fun rr=>.d (.sl (E0.rows rr.1)))) (M4 res I3 [.dead])
abbrev Tt (parserParser:B0)(res:Pn (E0×Bool×B0)):Prop:=C2 C 142 [.ref 0 0] [.row (B0.cells parserParser) 99] (R4 res (fun rr=>[.row (B0.cells rr.2.2) 99]) (fun rr=>.tup [.agg (E0.cells rr.1),.d (.bool rr.2.1)])) (M4 res I3 [.dead])
abbrev Gy (parserParser:B0)(res:Pn (List E0×B0)):Prop:=C2 C 174 [.ref 0 0] [.row (B0.cells parserParser) 99] (R4 res (fun rr=>[.row (B0.cells rr.2) 99]) (fun rr=>.d (.sl (E0.rows rr.1)))) (M4 res I3 [.dead])
theorem Dq:(∀ parserParser res,Y3 parserParser=some res→Ik parserParser res)∧(∀ o0 out res,T5 o0 out=some res→Fp o0 out res)∧(∀ parserParser res,F7 parserParser=some res→Tt parserParser res)∧(∀ parserParser res,L6 parserParser=some res→Gy parserParser res):=by
 refine Y3.mutual_partial_correctness _ _ _ _ ?_ ?_ ?_ ?_
 ·intro g1 ih1 parserParser res hh
  exact C2.intro hC Tryz.func88 rfl rfl rfl (t' rfl (p' 1 rfl (I0.tokE 3 144 17 rfl (n' (bk' (fw' (ih1 _ _ _ hh) rfl rfl rfl))))))
 ·intro g1 g2 ih1 ih2 o0 out res hh
  refine C1.unroll (bk' (p' 1 rfl ?_))
  rcases bp' hh with ⟨nn,hx1,⟨⟩⟩ | ⟨x1,hx1,hh⟩
  ·exact gn' [0] (ih2 _ _ hx1) rfl rfl rfl rfl rfl (fun hi=>peW ⟨trivial,trivial⟩ rfl hi)
  refine g' [0] ((ih2 _ _ hx1).ok) rfl rfl rfl rfl rfl rfl (o' 3 rfl (I0.nf hC rfl (I0.s hC rfl (e' rfl (S' (t' rfl (ci' rfl hh (fun hh=>?_) (fun hh=>?_))))))))
  ·refine t' rfl (re' ?_)
   obtain rfl:=oi' hh
   exact ⟨_,.d (.sl (E0.rows out)),[.row (B0.cells x1.2.2) 99],rfl,.osl,⟨⟨rfl,.refl _,rfl⟩,trivial⟩,rfl,rfl,rpq rfl rfl⟩
  obtain ⟨c6,hh⟩:=J6 hh
  exact sk' (P' 2 rfl (I0.be hC rfl (E0.rows_map [x1.1]).symm (I0.ap hC rfl (rs:=E0.rows (out++[x1.1])) (E0.app out [x1.1]) (E0.sz out) (E0.sz [x1.1]) (Q1 (E0.len out) (E0.len [x1.1]) c6) (e' rfl (lw' (ih1 _ _ _ hh) rfl rfl rfl)))))
 ·intro g3 ih3 parserParser res hh
  obtain ⟨x1,hx1,hh⟩:=bs' hh
  refine C2.intro hC Tryz.func142 rfl rfl rfl (s' rfl rfl (I0.nf hC rfl (e' rfl (s' rfl rfl (I0.nf hC rfl (n' (S' (bk' (p' 1 rfl (g' [0] (Ng hx1) rfl rfl rfl rfl rfl rfl (e' rfl (ci' rfl hh (fun hh=>?_) (fun hh=>?_)))))))))))))
  ·refine p' 1 rfl ?_
   rcases bp' hh with ⟨nn,hx2,⟨⟩⟩ | ⟨x2,hx2,hh⟩
   ·exact gn' [0] (Jj hx2) rfl rfl rfl rfl rfl (fun hi=>peW ⟨trivial,trivial⟩ rfl hi)
   cases hh
   exact g' [0] ((Jj hx2).ok) rfl rfl rfl rfl rfl rfl (I0.s hC rfl (e' rfl (re' (rt' rfl rfl rfl))))
  obtain ⟨x3,hx3,hh⟩:=bs' hh
  refine p' 1 rfl (g' [0] (P0 hx3) rfl rfl rfl rfl rfl rfl (e' rfl (ci' rfl hh (fun hh=>?_) (fun hh=>?_))))
  ·refine p' 1 rfl ?_
   rcases bp' hh with ⟨nn,hx4,⟨⟩⟩ | ⟨x4,hx4,hh⟩
   ·exact gn' [0] (S0 hx4) rfl rfl rfl rfl rfl (fun hi=>peW ⟨trivial,trivial⟩ rfl hi)
   refine g' [0] ((S0 hx4).ok) rfl rfl rfl rfl rfl rfl (q' rfl (I0.s hC rfl (n' (P' 1 rfl ?_))))
   rcases bp' hh with ⟨nn,hx5,⟨⟩⟩ | ⟨x5,hx5,hh⟩
   ·exact gn' [0] (L0 hx5) rfl rfl rfl rfl rfl (fun hi=>peW ⟨trivial,trivial⟩ rfl hi)
   cases hh
   exact g' [0] ((L0 hx5).ok) rfl rfl rfl rfl rfl rfl (n' (p' 1 rfl (I0.s hC rfl (e' rfl (re' (rt' rfl rfl rfl))))))
  obtain ⟨x6,hx6,hh⟩:=bs' hh
  refine p' 1 rfl (g' [0] (P0 hx6) rfl rfl rfl rfl rfl rfl (e' rfl (ci' rfl hh (fun hh=>?_) (fun hh=>?_))))
  ·refine p' 1 rfl ?_
   rcases bp' hh with ⟨nn,hx7,⟨⟩⟩ | ⟨x7,hx7,hh⟩
   ·exact gn' [0] (Y0 hx7) rfl rfl rfl rfl rfl (fun hi=>peW ⟨trivial,trivial⟩ rfl hi)
   refine g' [0] ((Y0 hx7).ok) rfl rfl rfl rfl rfl rfl (q' rfl (I0.s hC rfl (n' (P' 1 rfl ?_))))
   rcases bp' hh with ⟨nn,hx8,⟨⟩⟩ | ⟨x8,hx8,hh⟩
   ·exact gn' [0] (L0 hx8) rfl rfl rfl rfl rfl (fun hi=>peW ⟨trivial,trivial⟩ rfl hi)
   cases hh
   exact g' [0] ((L0 hx8).ok) rfl rfl rfl rfl rfl rfl (n' (p' 1 rfl (I0.s hC rfl (e' rfl (re' (rt' rfl rfl rfl))))))
  obtain ⟨x9,hx9,hh⟩:=bs' hh
  refine p' 1 rfl (g' [0] (P0 hx9) rfl rfl rfl rfl rfl rfl (e' rfl (ci' rfl hh (fun hh=>?_) (fun hh=>?_))))
  ·refine p' 1 rfl ?_
   rcases bp' hh with ⟨nn,hx10,⟨⟩⟩ | ⟨x10,hx10,hh⟩
   ·exact gn' [0] (Y0 hx10) rfl rfl rfl rfl rfl (fun hi=>peW ⟨trivial,trivial⟩ rfl hi)
   exact g' [0] ((Y0 hx10).ok) rfl rfl rfl rfl rfl rfl (I0.be hC rfl (ei64.rows_map [x10.1]).symm (I0.tokE 32 3 1 rfl (q' rfl (I0.s hC rfl (n' (S' (bk' (fw' (Ep hh) rfl rfl rfl))))))))
  obtain ⟨x11,hx11,hh⟩:=bs' hh
  refine p' 1 rfl (g' [0] (P0 hx11) rfl rfl rfl rfl rfl rfl (e' rfl (ci' rfl hh (fun hh=>?_) (fun hh=>?_))))
  ·refine p' 1 rfl ?_
   rcases bp' hh with ⟨nn,hx12,⟨⟩⟩ | ⟨x12,hx12,hh⟩
   ·exact gn' [0] (S0 hx12) rfl rfl rfl rfl rfl (fun hi=>peW ⟨trivial,trivial⟩ rfl hi)
   refine g' [0] ((S0 hx12).ok) rfl rfl rfl rfl rfl rfl (q' rfl (I0.s hC rfl (n' (p' 1 rfl ?_))))
   rcases bp' hh with ⟨nn,hx26,⟨⟩⟩ | ⟨x26,hx26,hh⟩
   ·exact gn' [0] (ih3 _ _ hx26) rfl rfl rfl rfl rfl (fun hi=>peW ⟨trivial,trivial⟩ rfl hi)
   obtain ⟨x27,hx27,hh⟩:=bs' hh
   refine g' [0] ((ih3 _ _ hx26).ok) rfl rfl rfl rfl rfl rfl (q' rfl (I0.s hC rfl (n' (p' 1 rfl (g' [0] (P0 hx27) rfl rfl rfl rfl rfl rfl (n' (ci' rfl hh (fun hh=>?_) (fun hh=>?_))))))))
   ·refine P' 1 rfl ?_
    rcases bp' hh with ⟨nn,hx28,⟨⟩⟩ | ⟨x28,hx28,hh⟩
    ·exact gn' [0] (ih3 _ _ hx28) rfl rfl rfl rfl rfl (fun hi=>peW ⟨trivial,trivial⟩ rfl hi)
    cases hh
    exact g' [0] ((ih3 _ _ hx28).ok) rfl rfl rfl rfl rfl rfl (q' rfl (I0.s hC rfl (n' (p' 1 rfl (I0.s hC rfl (e' rfl (re' (rt' rfl rfl rfl))))))))
   cases hh
   exact sk' (p' 1 rfl (I0.s hC rfl (e' rfl (re' (rt' rfl rfl rfl)))))
  obtain ⟨x13,hx13,hh⟩:=bs' hh
  refine p' 1 rfl (g' [0] (P0 hx13) rfl rfl rfl rfl rfl rfl (e' rfl (ci' rfl hh (fun hh=>?_) (fun hh=>?_))))
  ·refine p' 1 rfl ?_
   rcases bp' hh with ⟨nn,hx14,⟨⟩⟩ | ⟨x14,hx14,hh⟩
   ·exact gn' [0] (S0 hx14) rfl rfl rfl rfl rfl (fun hi=>peW ⟨trivial,trivial⟩ rfl hi)
   refine g' [0] ((S0 hx14).ok) rfl rfl rfl rfl rfl rfl (q' rfl (I0.s hC rfl (n' (p' 1 rfl ?_))))
   rcases bp' hh with ⟨nn,hx15,⟨⟩⟩ | ⟨x15,hx15,hh⟩
   ·exact gn' [0] (L0 hx15) rfl rfl rfl rfl rfl (fun hi=>peW ⟨trivial,trivial⟩ rfl hi)
   refine g' [0] ((L0 hx15).ok) rfl rfl rfl rfl rfl rfl (n' (p' 1 rfl ?_))
   rcases bp' hh with ⟨nn,hx16,⟨⟩⟩ | ⟨x16,hx16,hh⟩
   ·exact gn' [0] (Y0 hx16) rfl rfl rfl rfl rfl (fun hi=>peW ⟨trivial,trivial⟩ rfl hi)
   refine g' [0] ((Y0 hx16).ok) rfl rfl rfl rfl rfl rfl (q' rfl (I0.s hC rfl (n' (P' 1 rfl ?_))))
   rcases bp' hh with ⟨nn,hx29,⟨⟩⟩ | ⟨x29,hx29,hh⟩
   ·exact gn' [0] (ih3 _ _ hx29) rfl rfl rfl rfl rfl (fun hi=>peW ⟨trivial,trivial⟩ rfl hi)
   cases hh
   exact g' [0] ((ih3 _ _ hx29).ok) rfl rfl rfl rfl rfl rfl (q' rfl (I0.s hC rfl (n' (p' 1 rfl (I0.s hC rfl (e' rfl (re' (rt' rfl rfl rfl))))))))
  obtain ⟨x17,hx17,hh⟩:=bs' hh
  refine p' 1 rfl (g' [0] (P0 hx17) rfl rfl rfl rfl rfl rfl (e' rfl (ci' rfl hh (fun hh=>?_) (fun hh=>?_))))
  ·refine p' 1 rfl ?_
   rcases bp' hh with ⟨nn,hx18,⟨⟩⟩ | ⟨x18,hx18,hh⟩
   ·exact gn' [0] (B1 hx18) rfl rfl rfl rfl rfl (fun hi=>peW ⟨trivial,trivial⟩ rfl hi)
   refine g' [0] ((B1 hx18).ok) rfl rfl rfl rfl rfl rfl (q' rfl (I0.s hC rfl (n' (p' 1 rfl ?_))))
   rcases bp' hh with ⟨nn,hx19,⟨⟩⟩ | ⟨x19,hx19,hh⟩
   ·exact gn' [0] (L0 hx19) rfl rfl rfl rfl rfl (fun hi=>peW ⟨trivial,trivial⟩ rfl hi)
   refine g' [0] ((L0 hx19).ok) rfl rfl rfl rfl rfl rfl (n' (p' 1 rfl ?_))
   rcases bp' hh with ⟨nn,hx20,⟨⟩⟩ | ⟨x20,hx20,hh⟩
   ·exact gn' [0] (Y0 hx20) rfl rfl rfl rfl rfl (fun hi=>peW ⟨trivial,trivial⟩ rfl hi)
   refine g' [0] ((Y0 hx20).ok) rfl rfl rfl rfl rfl rfl (q' rfl (I0.s hC rfl (n' (p' 1 rfl ?_))))
   rcases bp' hh with ⟨nn,hx21,⟨⟩⟩ | ⟨x21,hx21,hh⟩
   ·exact gn' [0] (L0 hx21) rfl rfl rfl rfl rfl (fun hi=>peW ⟨trivial,trivial⟩ rfl hi)
   refine g' [0] ((L0 hx21).ok) rfl rfl rfl rfl rfl rfl (n' (p' 1 rfl ?_))
   rcases bp' hh with ⟨nn,hx22,⟨⟩⟩ | ⟨x22,hx22,hh⟩
   ·exact gn' [0] (Y0 hx22) rfl rfl rfl rfl rfl (fun hi=>peW ⟨trivial,trivial⟩ rfl hi)
   refine g' [0] ((Y0 hx22).ok) rfl rfl rfl rfl rfl rfl (q' rfl (I0.s hC rfl (n' (P' 1 rfl ?_))))
   rcases bp' hh with ⟨nn,hx30,⟨⟩⟩ | ⟨x30,hx30,hh⟩
   ·exact gn' [0] (ih3 _ _ hx30) rfl rfl rfl rfl rfl (fun hi=>peW ⟨trivial,trivial⟩ rfl hi)
   cases hh
   exact g' [0] ((ih3 _ _ hx30).ok) rfl rfl rfl rfl rfl rfl (q' rfl (I0.s hC rfl (n' (p' 1 rfl (I0.s hC rfl (e' rfl (re' (rt' rfl rfl rfl))))))))
  refine p' 1 rfl (I0.s hC rfl (e' rfl (re' ?_)))
  obtain rfl:=oi' hh
  exact ⟨_,.tup [.agg [.d (.int .i64 0),.d (.int .i64 0),.d (.int .i64 0),.d (.str []),.d (.sl (A0.rows [])),.d (.int .i64 0),.d (.int .i64 0),.d (.str []),.d (.sl (A0.rows [])),.d (.str []),.d (.sl (A0.rows [])),.d (.int .i64 0),.d (.int .i64 0),.d (.int .i64 0),.d (.sl (ei64.rows [])),.d (.sl (E0.rows [])),.d (.sl (E0.rows []))],.d (.bool false)],[.row (B0.cells x17.2) 99],rfl,(.tupL ⟨(.aggL ⟨.rfl,.rfl,.rfl,.rfl,.full,.rfl,.rfl,.rfl,.full,.rfl,.full,.rfl,.rfl,.rfl,.full,.full,.full,trivial⟩),.rfl,trivial⟩),⟨⟨rfl,.refl _,rfl⟩,trivial⟩,rfl,rfl,rpq rfl rfl⟩
 ·intro g0 ih0 parserParser res hh
  refine C2.intro hC Tryz.func174 rfl rfl rfl (t' rfl (p' 1 rfl ?_))
  rcases bp' hh with ⟨nn,hx1,⟨⟩⟩ | ⟨x1,hx1,hh⟩
  ·exact gn' [0] (L0 hx1) rfl rfl rfl rfl rfl (fun hi=>peW ⟨trivial,trivial⟩ rfl hi)
  refine g' [0] ((L0 hx1).ok) rfl rfl rfl rfl rfl rfl (n' (p' 1 rfl ?_))
  rcases bp' hh with ⟨nn,hx2,⟨⟩⟩ | ⟨x2,hx2,hh⟩
  ·exact gn' [0] (ih0 _ _ hx2) rfl rfl rfl rfl rfl (fun hi=>peW ⟨trivial,trivial⟩ rfl hi)
  refine g' [0] ((ih0 _ _ hx2).ok) rfl rfl rfl rfl rfl rfl (e' rfl (p' 1 rfl ?_))
  rcases bp' hh with ⟨nn,hx3,⟨⟩⟩ | ⟨x3,hx3,hh⟩
  ·exact gn' [0] (L0 hx3) rfl rfl rfl rfl rfl (fun hi=>peW ⟨trivial,trivial⟩ rfl hi)
  cases hh
  exact g' [0] ((L0 hx3).ok) rfl rfl rfl rfl rfl rfl (n' (t' rfl (re' (rt' rfl rfl rfl))))
theorem Q9 {parserParser res}(hh:Y3 parserParser=some res):Ik parserParser res:=(Dq).1 _ _ hh
def D5 (o02:B0)(x1:Str×B0)(x7:F0×B0)(o2_Params2:List D0)(o2_Vars:List D0):Option (Pn (D0×B0)):=
 O0 [118,97,114] o02>>=fun x9=>
 if x9.1=true then
  M7 x9.2>>=fun x10=>match x10 with
  | .pn nn=>
  some (.pn nn)
  | .ok x10=>
  if (decide ((o2_Vars.length+1) * 257≤140737488355328))=true then
   D5 x10.2 x1 x7 o2_Params2 (o2_Vars++[x10.1])
  else none
 else
  Y3 x9.2>>=fun x11=>match x11 with
  | .pn nn=>
  some (.pn nn)
  | .ok x11=>
  R0 [114,101,116,117,114,110] x11.2>>=fun x12=>match x12 with
  | .pn nn=>
  some (.pn nn)
  | .ok x12=>
  D1 x12>>=fun x13=>match x13 with
  | .pn nn=>
  some (.pn nn)
  | .ok x13=>
  R0 [59] x13.2>>=fun x14=>match x14 with
  | .pn nn=>
  some (.pn nn)
  | .ok x14=>
  R0 [125] x14>>=fun x15=>match x15 with
  | .pn nn=>
  some (.pn nn)
  | .ok x15=>
  some (.ok ((D0.mk 6 x1.1 x7.1 0 x13.1 o2_Params2 o2_Vars x11.1),x15))
 partial_fixpoint
abbrev Kj (o02:B0)(x1:Str×B0)(x7:F0×B0)(o2_Params2:List D0)(o2_Vars:List D0)(res:Pn (D0×B0)):Prop:=LMp C 58 1 Tryz.f141 [1,1,1,1,1,1,1,1,0,4] [(0,.ref 0 0),(2,.ref 1 0),(3,.ref 2 0)] [.row (B0.cells o02) 99,.row [.d (.int .i64 0),.d (.str []),.d (.int .i64 0),.d (.int .i64 0),.d (.int .i64 0),.d (.int .i64 0),.d (.str []),.full (estr.rows []),.full (F0.rows []),.d (.int .i64 0),.d (.int .i64 0),.d (.int .i64 0),.d (.str []),.full (A0.rows []),.full (D0.rows []),.full (D0.rows []),.full (E0.rows [])] 128,.row [.d (.int .i64 6),.d (.str x1.1),.d (.int .i64 x7.1.Kind),.d (.int .i64 x7.1.Low),.d (.int .i64 x7.1.High),.d (.int .i64 x7.1.Size),.d (.str x7.1.Name),.d (.sl (estr.rows x7.1.Names)),.d (.sl (F0.rows x7.1.Of)),.d (.int .i64 0),.d (.int .i64 0),.d (.int .i64 0),.d (.str []),.full (A0.rows []),.osl 3 (D0.rows o2_Params2),.osl 4 (D0.rows o2_Vars),.full (E0.rows [])] 128,.tok 128 17,.tok 128 17] (R4 res (fun rr=>[.row (B0.cells rr.2) 99]) (fun rr=>.agg (D0.cells rr.1))) (M4 res I3 [.dead])
theorem Hp (x1:Str×B0)(x7:F0×B0)(o2_Params2:List D0):(∀ o02 o2_Vars res,D5 o02 x1 x7 o2_Params2 o2_Vars=some res→Kj o02 x1 x7 o2_Params2 o2_Vars res):=by
 refine D5.partial_correctness x1 x7 o2_Params2 _ ?_
 ·intro g0 ih0 o02 o2_Vars res hh
  obtain ⟨x9,hx9,hh⟩:=bs' hh
  refine C1.unroll (S' (p' 1 rfl (g' [0] (P0 hx9) rfl rfl rfl rfl rfl rfl (n' (ci' rfl hh (fun hh=>?_) (fun hh=>?_))))))
  ·refine sk' (bk' ?_)
   rcases bp' hh with ⟨nn,hx10,⟨⟩⟩ | ⟨x10,hx10,hh⟩
   ·refine AEx.drawE hC ?_
    refine C0.step rfl (j0:=0) (js:=[2]) (by kernel_rfl) ⟨⟨_,rfl,?_⟩,⟨_,rfl,?_⟩,trivial⟩
    ·refine e' rfl ?_
     refine C0.step rfl (j0:=1) (js:=[2]) (by kernel_rfl) ⟨⟨_,rfl,?_⟩,⟨_,rfl,?_⟩,trivial⟩
     ·refine e' rfl ?_
      refine C0.step rfl (j0:=2) (js:=[]) (by kernel_rfl) ⟨⟨_,rfl,?_⟩,trivial⟩
      refine e' rfl ?_
      refine C0.step rfl (j0:=3) (js:=[]) (by kernel_rfl) ⟨⟨_,rfl,?_⟩,trivial⟩
      exact gn' [0] (A2 hx10) rfl rfl rfl rfl rfl (fun hi=>peW ⟨trivial,trivial⟩ rfl hi)
     ·refine e' rfl ?_
      refine C0.step rfl (j0:=1) (js:=[3]) (by kernel_rfl) ⟨⟨_,rfl,?_⟩,⟨_,rfl,?_⟩,trivial⟩
      ·refine e' rfl ?_
       refine C0.step rfl (j0:=3) (js:=[]) (by kernel_rfl) ⟨⟨_,rfl,?_⟩,trivial⟩
       exact gn' [0] (A2 hx10) rfl rfl rfl rfl rfl (fun hi=>peW ⟨trivial,trivial⟩ rfl hi)
      ·exact gn' [0] (A2 hx10) rfl rfl rfl rfl rfl (fun hi=>peW ⟨trivial,trivial⟩ rfl hi)
    ·refine e' rfl ?_
     refine C0.step rfl (j0:=0) (js:=[3]) (by kernel_rfl) ⟨⟨_,rfl,?_⟩,⟨_,rfl,?_⟩,trivial⟩
     ·refine e' rfl ?_
      refine C0.step rfl (j0:=1) (js:=[3]) (by kernel_rfl) ⟨⟨_,rfl,?_⟩,⟨_,rfl,?_⟩,trivial⟩
      ·refine e' rfl ?_
       refine C0.step rfl (j0:=3) (js:=[]) (by kernel_rfl) ⟨⟨_,rfl,?_⟩,trivial⟩
       exact gn' [0] (A2 hx10) rfl rfl rfl rfl rfl (fun hi=>peW ⟨trivial,trivial⟩ rfl hi)
      ·exact gn' [0] (A2 hx10) rfl rfl rfl rfl rfl (fun hi=>peW ⟨trivial,trivial⟩ rfl hi)
     ·exact gn' [0] (A2 hx10) rfl rfl rfl rfl rfl (fun hi=>peW ⟨trivial,trivial⟩ rfl hi)
   obtain ⟨c35,hh⟩:=J6 hh
   refine AEx.drawE hC ?_
   refine C0.step rfl (j0:=0) (js:=[2]) (by kernel_rfl) ⟨⟨_,rfl,?_⟩,⟨_,rfl,?_⟩,trivial⟩
   ·refine e' rfl ?_
    refine C0.step rfl (j0:=1) (js:=[2]) (by kernel_rfl) ⟨⟨_,rfl,?_⟩,⟨_,rfl,?_⟩,trivial⟩
    ·refine e' rfl ?_
     refine C0.step rfl (j0:=2) (js:=[]) (by kernel_rfl) ⟨⟨_,rfl,?_⟩,trivial⟩
     refine e' rfl ?_
     refine C0.step rfl (j0:=3) (js:=[]) (by kernel_rfl) ⟨⟨_,rfl,?_⟩,trivial⟩
     refine g' [0] ((A2 hx10).ok) rfl rfl rfl rfl rfl rfl (n' ?_)
     refine C0.step rfl (j0:=4) (js:=[]) (by kernel_rfl) ⟨⟨_,rfl,?_⟩,trivial⟩
     refine I0.be hC rfl (D0.rows_map [x10.1]).symm (n' ?_)
     refine C0.step rfl (j0:=5) (js:=[]) (by kernel_rfl) ⟨⟨_,rfl,?_⟩,trivial⟩
     refine I0.ap hC rfl (rs:=D0.rows (o2_Vars++[x10.1])) (D0.app o2_Vars [x10.1]) (D0.sz o2_Vars) (D0.sz [x10.1]) (Q1 (D0.len o2_Vars) (D0.len [x10.1]) c35) (n' ?_)
     refine C0.step rfl (j0:=6) (js:=[]) (by kernel_rfl) ⟨⟨_,rfl,?_⟩,trivial⟩
     refine e' rfl ?_
     refine C0.step rfl (j0:=7) (js:=[]) (by kernel_rfl) ⟨⟨_,rfl,?_⟩,trivial⟩
     exact I0.s hC rfl (n' (C0.nil (by kernel_rfl) (lw' (ih0 _ _ _ hh) rfl rfl rfl)))
    ·refine e' rfl ?_
     refine C0.step rfl (j0:=1) (js:=[3]) (by kernel_rfl) ⟨⟨_,rfl,?_⟩,⟨_,rfl,?_⟩,trivial⟩
     ·refine e' rfl ?_
      refine C0.step rfl (j0:=3) (js:=[]) (by kernel_rfl) ⟨⟨_,rfl,?_⟩,trivial⟩
      refine g' [0] ((A2 hx10).ok) rfl rfl rfl rfl rfl rfl (n' ?_)
      refine C0.step rfl (j0:=4) (js:=[]) (by kernel_rfl) ⟨⟨_,rfl,?_⟩,trivial⟩
      refine I0.be hC rfl (D0.rows_map [x10.1]).symm (n' ?_)
      refine C0.step rfl (j0:=5) (js:=[]) (by kernel_rfl) ⟨⟨_,rfl,?_⟩,trivial⟩
      refine I0.ap hC rfl (rs:=D0.rows (o2_Vars++[x10.1])) (D0.app o2_Vars [x10.1]) (D0.sz o2_Vars) (D0.sz [x10.1]) (Q1 (D0.len o2_Vars) (D0.len [x10.1]) c35) (n' ?_)
      refine C0.step rfl (j0:=6) (js:=[]) (by kernel_rfl) ⟨⟨_,rfl,?_⟩,trivial⟩
      refine e' rfl ?_
      refine C0.step rfl (j0:=7) (js:=[]) (by kernel_rfl) ⟨⟨_,rfl,?_⟩,trivial⟩
      exact I0.s hC rfl (n' (C0.nil (by kernel_rfl) (lw' (ih0 _ _ _ hh) rfl rfl rfl)))
     ·refine g' [0] ((A2 hx10).ok) rfl rfl rfl rfl rfl rfl (n' ?_)
      refine C0.step rfl (j0:=1) (js:=[4]) (by kernel_rfl) ⟨⟨_,rfl,?_⟩,⟨_,rfl,?_⟩,trivial⟩
      ·refine e' rfl ?_
       refine C0.step rfl (j0:=4) (js:=[]) (by kernel_rfl) ⟨⟨_,rfl,?_⟩,trivial⟩
       refine I0.be hC rfl (D0.rows_map [x10.1]).symm (n' ?_)
       refine C0.step rfl (j0:=5) (js:=[]) (by kernel_rfl) ⟨⟨_,rfl,?_⟩,trivial⟩
       refine I0.ap hC rfl (rs:=D0.rows (o2_Vars++[x10.1])) (D0.app o2_Vars [x10.1]) (D0.sz o2_Vars) (D0.sz [x10.1]) (Q1 (D0.len o2_Vars) (D0.len [x10.1]) c35) (n' ?_)
       refine C0.step rfl (j0:=6) (js:=[]) (by kernel_rfl) ⟨⟨_,rfl,?_⟩,trivial⟩
       refine e' rfl ?_
       refine C0.step rfl (j0:=7) (js:=[]) (by kernel_rfl) ⟨⟨_,rfl,?_⟩,trivial⟩
       exact I0.s hC rfl (n' (C0.nil (by kernel_rfl) (lw' (ih0 _ _ _ hh) rfl rfl rfl)))
      ·refine I0.be hC rfl (D0.rows_map [x10.1]).symm (n' ?_)
       refine C0.step rfl (j0:=1) (js:=[]) (by kernel_rfl) ⟨⟨_,rfl,?_⟩,trivial⟩
       refine e' rfl ?_
       refine C0.step rfl (j0:=5) (js:=[]) (by kernel_rfl) ⟨⟨_,rfl,?_⟩,trivial⟩
       refine I0.ap hC rfl (rs:=D0.rows (o2_Vars++[x10.1])) (D0.app o2_Vars [x10.1]) (D0.sz o2_Vars) (D0.sz [x10.1]) (Q1 (D0.len o2_Vars) (D0.len [x10.1]) c35) (n' ?_)
       refine C0.step rfl (j0:=6) (js:=[]) (by kernel_rfl) ⟨⟨_,rfl,?_⟩,trivial⟩
       refine e' rfl ?_
       refine C0.step rfl (j0:=7) (js:=[]) (by kernel_rfl) ⟨⟨_,rfl,?_⟩,trivial⟩
       exact I0.s hC rfl (n' (C0.nil (by kernel_rfl) (lw' (ih0 _ _ _ hh) rfl rfl rfl)))
   ·refine e' rfl ?_
    refine C0.step rfl (j0:=0) (js:=[3]) (by kernel_rfl) ⟨⟨_,rfl,?_⟩,⟨_,rfl,?_⟩,trivial⟩
    ·refine e' rfl ?_
     refine C0.step rfl (j0:=1) (js:=[3]) (by kernel_rfl) ⟨⟨_,rfl,?_⟩,⟨_,rfl,?_⟩,trivial⟩
     ·refine e' rfl ?_
      refine C0.step rfl (j0:=3) (js:=[]) (by kernel_rfl) ⟨⟨_,rfl,?_⟩,trivial⟩
      refine g' [0] ((A2 hx10).ok) rfl rfl rfl rfl rfl rfl (n' ?_)
      refine C0.step rfl (j0:=4) (js:=[]) (by kernel_rfl) ⟨⟨_,rfl,?_⟩,trivial⟩
      refine I0.be hC rfl (D0.rows_map [x10.1]).symm (n' ?_)
      refine C0.step rfl (j0:=5) (js:=[]) (by kernel_rfl) ⟨⟨_,rfl,?_⟩,trivial⟩
      refine I0.ap hC rfl (rs:=D0.rows (o2_Vars++[x10.1])) (D0.app o2_Vars [x10.1]) (D0.sz o2_Vars) (D0.sz [x10.1]) (Q1 (D0.len o2_Vars) (D0.len [x10.1]) c35) (n' ?_)
      refine C0.step rfl (j0:=6) (js:=[]) (by kernel_rfl) ⟨⟨_,rfl,?_⟩,trivial⟩
      refine e' rfl ?_
      refine C0.step rfl (j0:=7) (js:=[]) (by kernel_rfl) ⟨⟨_,rfl,?_⟩,trivial⟩
      exact I0.s hC rfl (n' (C0.nil (by kernel_rfl) (lw' (ih0 _ _ _ hh) rfl rfl rfl)))
     ·refine g' [0] ((A2 hx10).ok) rfl rfl rfl rfl rfl rfl (n' ?_)
      refine C0.step rfl (j0:=1) (js:=[4]) (by kernel_rfl) ⟨⟨_,rfl,?_⟩,⟨_,rfl,?_⟩,trivial⟩
      ·refine e' rfl ?_
       refine C0.step rfl (j0:=4) (js:=[]) (by kernel_rfl) ⟨⟨_,rfl,?_⟩,trivial⟩
       refine I0.be hC rfl (D0.rows_map [x10.1]).symm (n' ?_)
       refine C0.step rfl (j0:=5) (js:=[]) (by kernel_rfl) ⟨⟨_,rfl,?_⟩,trivial⟩
       refine I0.ap hC rfl (rs:=D0.rows (o2_Vars++[x10.1])) (D0.app o2_Vars [x10.1]) (D0.sz o2_Vars) (D0.sz [x10.1]) (Q1 (D0.len o2_Vars) (D0.len [x10.1]) c35) (n' ?_)
       refine C0.step rfl (j0:=6) (js:=[]) (by kernel_rfl) ⟨⟨_,rfl,?_⟩,trivial⟩
       refine e' rfl ?_
       refine C0.step rfl (j0:=7) (js:=[]) (by kernel_rfl) ⟨⟨_,rfl,?_⟩,trivial⟩
       exact I0.s hC rfl (n' (C0.nil (by kernel_rfl) (lw' (ih0 _ _ _ hh) rfl rfl rfl)))
      ·refine I0.be hC rfl (D0.rows_map [x10.1]).symm (n' ?_)
       refine C0.step rfl (j0:=1) (js:=[]) (by kernel_rfl) ⟨⟨_,rfl,?_⟩,trivial⟩
       refine e' rfl ?_
       refine C0.step rfl (j0:=5) (js:=[]) (by kernel_rfl) ⟨⟨_,rfl,?_⟩,trivial⟩
       refine I0.ap hC rfl (rs:=D0.rows (o2_Vars++[x10.1])) (D0.app o2_Vars [x10.1]) (D0.sz o2_Vars) (D0.sz [x10.1]) (Q1 (D0.len o2_Vars) (D0.len [x10.1]) c35) (n' ?_)
       refine C0.step rfl (j0:=6) (js:=[]) (by kernel_rfl) ⟨⟨_,rfl,?_⟩,trivial⟩
       refine e' rfl ?_
       refine C0.step rfl (j0:=7) (js:=[]) (by kernel_rfl) ⟨⟨_,rfl,?_⟩,trivial⟩
       exact I0.s hC rfl (n' (C0.nil (by kernel_rfl) (lw' (ih0 _ _ _ hh) rfl rfl rfl)))
    ·refine g' [0] ((A2 hx10).ok) rfl rfl rfl rfl rfl rfl (n' ?_)
     refine C0.step rfl (j0:=0) (js:=[4]) (by kernel_rfl) ⟨⟨_,rfl,?_⟩,⟨_,rfl,?_⟩,trivial⟩
     ·refine e' rfl ?_
      refine C0.step rfl (j0:=1) (js:=[4]) (by kernel_rfl) ⟨⟨_,rfl,?_⟩,⟨_,rfl,?_⟩,trivial⟩
      ·refine e' rfl ?_
       refine C0.step rfl (j0:=4) (js:=[]) (by kernel_rfl) ⟨⟨_,rfl,?_⟩,trivial⟩
       refine I0.be hC rfl (D0.rows_map [x10.1]).symm (n' ?_)
       refine C0.step rfl (j0:=5) (js:=[]) (by kernel_rfl) ⟨⟨_,rfl,?_⟩,trivial⟩
       refine I0.ap hC rfl (rs:=D0.rows (o2_Vars++[x10.1])) (D0.app o2_Vars [x10.1]) (D0.sz o2_Vars) (D0.sz [x10.1]) (Q1 (D0.len o2_Vars) (D0.len [x10.1]) c35) (n' ?_)
       refine C0.step rfl (j0:=6) (js:=[]) (by kernel_rfl) ⟨⟨_,rfl,?_⟩,trivial⟩
       refine e' rfl ?_
       refine C0.step rfl (j0:=7) (js:=[]) (by kernel_rfl) ⟨⟨_,rfl,?_⟩,trivial⟩
       exact I0.s hC rfl (n' (C0.nil (by kernel_rfl) (lw' (ih0 _ _ _ hh) rfl rfl rfl)))
      ·refine I0.be hC rfl (D0.rows_map [x10.1]).symm (n' ?_)
       refine C0.step rfl (j0:=1) (js:=[]) (by kernel_rfl) ⟨⟨_,rfl,?_⟩,trivial⟩
       refine e' rfl ?_
       refine C0.step rfl (j0:=5) (js:=[]) (by kernel_rfl) ⟨⟨_,rfl,?_⟩,trivial⟩
       refine I0.ap hC rfl (rs:=D0.rows (o2_Vars++[x10.1])) (D0.app o2_Vars [x10.1]) (D0.sz o2_Vars) (D0.sz [x10.1]) (Q1 (D0.len o2_Vars) (D0.len [x10.1]) c35) (n' ?_)
       refine C0.step rfl (j0:=6) (js:=[]) (by kernel_rfl) ⟨⟨_,rfl,?_⟩,trivial⟩
       refine e' rfl ?_
       refine C0.step rfl (j0:=7) (js:=[]) (by kernel_rfl) ⟨⟨_,rfl,?_⟩,trivial⟩
       exact I0.s hC rfl (n' (C0.nil (by kernel_rfl) (lw' (ih0 _ _ _ hh) rfl rfl rfl)))
     ·refine I0.be hC rfl (D0.rows_map [x10.1]).symm (n' ?_)
      refine C0.step rfl (j0:=0) (js:=[]) (by kernel_rfl) ⟨⟨_,rfl,?_⟩,trivial⟩
      refine e' rfl ?_
      refine C0.step rfl (j0:=1) (js:=[]) (by kernel_rfl) ⟨⟨_,rfl,?_⟩,trivial⟩
      refine e' rfl ?_
      refine C0.step rfl (j0:=5) (js:=[]) (by kernel_rfl) ⟨⟨_,rfl,?_⟩,trivial⟩
      refine I0.ap hC rfl (rs:=D0.rows (o2_Vars++[x10.1])) (D0.app o2_Vars [x10.1]) (D0.sz o2_Vars) (D0.sz [x10.1]) (Q1 (D0.len o2_Vars) (D0.len [x10.1]) c35) (n' ?_)
      refine C0.step rfl (j0:=6) (js:=[]) (by kernel_rfl) ⟨⟨_,rfl,?_⟩,trivial⟩
      refine e' rfl ?_
      refine C0.step rfl (j0:=7) (js:=[]) (by kernel_rfl) ⟨⟨_,rfl,?_⟩,trivial⟩
      exact I0.s hC rfl (n' (C0.nil (by kernel_rfl) (lw' (ih0 _ _ _ hh) rfl rfl rfl)))
  refine ex' (p' 1 rfl ?_)
  rcases bp' hh with ⟨nn,hx11,⟨⟩⟩ | ⟨x11,hx11,hh⟩
  ·exact gn' [0] (Q9 hx11) rfl rfl rfl rfl rfl (fun hi=>peW ⟨trivial,trivial⟩ rfl hi)
  refine g' [0] ((Q9 hx11).ok) rfl rfl rfl rfl rfl rfl (q' rfl (I0.s hC rfl (n' (p' 1 rfl ?_))))
  rcases bp' hh with ⟨nn,hx12,⟨⟩⟩ | ⟨x12,hx12,hh⟩
  ·exact gn' [0] (L0 hx12) rfl rfl rfl rfl rfl (fun hi=>peW ⟨trivial,trivial⟩ rfl hi)
  refine g' [0] ((L0 hx12).ok) rfl rfl rfl rfl rfl rfl (n' (p' 1 rfl ?_))
  rcases bp' hh with ⟨nn,hx13,⟨⟩⟩ | ⟨x13,hx13,hh⟩
  ·exact gn' [0] (S0 hx13) rfl rfl rfl rfl rfl (fun hi=>peW ⟨trivial,trivial⟩ rfl hi)
  refine g' [0] ((S0 hx13).ok) rfl rfl rfl rfl rfl rfl (q' rfl (I0.s hC rfl (n' (p' 1 rfl ?_))))
  rcases bp' hh with ⟨nn,hx14,⟨⟩⟩ | ⟨x14,hx14,hh⟩
  ·exact gn' [0] (L0 hx14) rfl rfl rfl rfl rfl (fun hi=>peW ⟨trivial,trivial⟩ rfl hi)
  refine g' [0] ((L0 hx14).ok) rfl rfl rfl rfl rfl rfl (n' (p' 1 rfl ?_))
  rcases bp' hh with ⟨nn,hx15,⟨⟩⟩ | ⟨x15,hx15,hh⟩
  ·exact gn' [0] (L0 hx15) rfl rfl rfl rfl rfl (fun hi=>peW ⟨trivial,trivial⟩ rfl hi)
  refine g' [0] ((L0 hx15).ok) rfl rfl rfl rfl rfl rfl (n' (p' 1 rfl (I0.s hC rfl (n' (re' ?_)))))
  obtain rfl:=oi' hh
  exact ⟨_,.agg [.d (.int .i64 6),.d (.str x1.1),.d (.int .i64 x7.1.Kind),.d (.int .i64 x7.1.Low),.d (.int .i64 x7.1.High),.d (.int .i64 x7.1.Size),.d (.str x7.1.Name),.d (.sl (estr.rows x7.1.Names)),.d (.sl (F0.rows x7.1.Of)),.d (.int .i64 0),.d (.int .i64 x13.1.Op),.d (.int .i64 x13.1.NV),.d (.str x13.1.Name),.d (.sl (A0.rows x13.1.Kids)),.d (.sl (D0.rows o2_Params2)),.d (.sl (D0.rows o2_Vars)),.d (.sl (E0.rows x11.1))],[.row (B0.cells x15) 99],rfl,(.aggL ⟨.rfl,.rfl,.rfl,.rfl,.rfl,.rfl,.rfl,.rfl,.rfl,.rfl,.rfl,.rfl,.rfl,.rfl,.osl,.osl,.rfl,trivial⟩),⟨⟨rfl,.refl _,rfl⟩,trivial⟩,rfl,rfl,rpq rfl rfl⟩
theorem Eq {o02 x1 x7 o2_Params2 o2_Vars res}(hh:D5 o02 x1 x7 o2_Params2 o2_Vars=some res):Kj o02 x1 x7 o2_Params2 o2_Vars res:=(Hp x1 x7 o2_Params2) _ _ _ hh
def E5 (o01:B0)(x1:Str×B0)(o2_Params1:List D0):Option (Pn (D0×B0)):=
 R0 [41] o01>>=fun x5=>match x5 with
 | .pn nn=>
 some (.pn nn)
 | .ok x5=>
 R0 [58] x5>>=fun x6=>match x6 with
 | .pn nn=>
 some (.pn nn)
 | .ok x6=>
 A5 x6>>=fun x7=>match x7 with
 | .pn nn=>
 some (.pn nn)
 | .ok x7=>
 R0 [123] x7.2>>=fun x8=>match x8 with
 | .pn nn=>
 some (.pn nn)
 | .ok x8=>
 D5 x8 x1 x7 o2_Params1 []
theorem Qi {o01 x1 o2_Params1 res}(hh:E5 o01 x1 o2_Params1=some res):JMp C 58 1 Tryz.f141 [1,1,1,1] [(0,.ref 0 0),(2,.ref 1 0),(3,.ref 2 0)] [.row (B0.cells o01) 99,.row [.d (.int .i64 0),.d (.str []),.d (.int .i64 0),.d (.int .i64 0),.d (.int .i64 0),.d (.int .i64 0),.d (.str []),.full (estr.rows []),.full (F0.rows []),.d (.int .i64 0),.d (.int .i64 0),.d (.int .i64 0),.d (.str []),.full (A0.rows []),.full (D0.rows []),.full (D0.rows []),.full (E0.rows [])] 128,.row [.d (.int .i64 6),.d (.str x1.1),.d (.int .i64 0),.d (.int .i64 0),.d (.int .i64 0),.d (.int .i64 0),.d (.str []),.full (estr.rows []),.full (F0.rows []),.d (.int .i64 0),.d (.int .i64 0),.d (.int .i64 0),.d (.str []),.full (A0.rows []),.osl 3 (D0.rows o2_Params1),.osl 4 (D0.rows []),.full (E0.rows [])] 128,.tok 128 17,.tok 128 17] (R4 res (fun rr=>[.row (B0.cells rr.2) 99]) (fun rr=>.agg (D0.cells rr.1))) (M4 res I3 [.dead]):=by
 unfold E5 at hh
 refine p' 1 rfl ?_
 rcases bp' hh with ⟨nn,hx5,⟨⟩⟩ | ⟨x5,hx5,hh⟩
 ·exact gn' [0] (L0 hx5) rfl rfl rfl rfl rfl (fun hi=>peW ⟨trivial,trivial⟩ rfl hi)
 refine g' [0] ((L0 hx5).ok) rfl rfl rfl rfl rfl rfl (n' (p' 1 rfl ?_))
 rcases bp' hh with ⟨nn,hx6,⟨⟩⟩ | ⟨x6,hx6,hh⟩
 ·exact gn' [0] (L0 hx6) rfl rfl rfl rfl rfl (fun hi=>peW ⟨trivial,trivial⟩ rfl hi)
 refine g' [0] ((L0 hx6).ok) rfl rfl rfl rfl rfl rfl (n' (p' 1 rfl ?_))
 rcases bp' hh with ⟨nn,hx7,⟨⟩⟩ | ⟨x7,hx7,hh⟩
 ·exact gn' [0] (F9 hx7) rfl rfl rfl rfl rfl (fun hi=>peW ⟨trivial,trivial⟩ rfl hi)
 refine g' [0] ((F9 hx7).ok) rfl rfl rfl rfl rfl rfl (q' rfl (I0.s hC rfl (n' (p' 1 rfl ?_))))
 rcases bp' hh with ⟨nn,hx8,⟨⟩⟩ | ⟨x8,hx8,hh⟩
 ·exact gn' [0] (L0 hx8) rfl rfl rfl rfl rfl (fun hi=>peW ⟨trivial,trivial⟩ rfl hi)
 exact g' [0] ((L0 hx8).ok) rfl rfl rfl rfl rfl rfl (n' (S' (bk' (fw' (Eq hh) rfl rfl rfl))))
def F5 (o0:B0)(x1:Str×B0)(o2_Params:List D0):Option (Pn (D0×B0)):=
 O0 [44] o0>>=fun x16=>
 if x16.1=true then
  W2 4 x16.2>>=fun x17=>match x17 with
  | .pn nn=>
  some (.pn nn)
  | .ok x17=>
  if (decide ((o2_Params.length+1) * 257≤140737488355328))=true then
   F5 x17.2 x1 (o2_Params++[x17.1])
  else none
 else
  E5 x16.2 x1 o2_Params
 partial_fixpoint
abbrev Lj (o0:B0)(x1:Str×B0)(o2_Params:List D0)(res:Pn (D0×B0)):Prop:=LMp C 58 1 Tryz.f141 [1,1,1,0,1,2,1,4] [(0,.ref 0 0),(2,.ref 1 0),(3,.ref 2 0)] [.row (B0.cells o0) 99,.row [.d (.int .i64 0),.d (.str []),.d (.int .i64 0),.d (.int .i64 0),.d (.int .i64 0),.d (.int .i64 0),.d (.str []),.full (estr.rows []),.full (F0.rows []),.d (.int .i64 0),.d (.int .i64 0),.d (.int .i64 0),.d (.str []),.full (A0.rows []),.full (D0.rows []),.full (D0.rows []),.full (E0.rows [])] 128,.row [.d (.int .i64 6),.d (.str x1.1),.d (.int .i64 0),.d (.int .i64 0),.d (.int .i64 0),.d (.int .i64 0),.d (.str []),.full (estr.rows []),.full (F0.rows []),.d (.int .i64 0),.d (.int .i64 0),.d (.int .i64 0),.d (.str []),.full (A0.rows []),.osl 3 (D0.rows o2_Params),.osl 4 (D0.rows []),.full (E0.rows [])] 128,.tok 128 17,.tok 128 17] (R4 res (fun rr=>[.row (B0.cells rr.2) 99]) (fun rr=>.agg (D0.cells rr.1))) (M4 res I3 [.dead])
theorem Ip (x1:Str×B0):(∀ o0 o2_Params res,F5 o0 x1 o2_Params=some res→Lj o0 x1 o2_Params res):=by
 refine F5.partial_correctness x1 _ ?_
 ·intro g0 ih0 o0 o2_Params res hh
  obtain ⟨x16,hx16,hh⟩:=bs' hh
  refine C1.unroll (S' (p' 1 rfl (g' [0] (P0 hx16) rfl rfl rfl rfl rfl rfl (n' (ci' rfl hh (fun hh=>?_) (fun hh=>?_))))))
  ·refine sk' (bk' ?_)
   rcases bp' hh with ⟨nn,hx17,⟨⟩⟩ | ⟨x17,hx17,hh⟩
   ·refine AEx.drawE hC ?_
    refine C0.step rfl (j0:=0) (js:=[2]) (by kernel_rfl) ⟨⟨_,rfl,?_⟩,⟨_,rfl,?_⟩,trivial⟩
    ·refine e' rfl ?_
     refine C0.step rfl (j0:=1) (js:=[2]) (by kernel_rfl) ⟨⟨_,rfl,?_⟩,⟨_,rfl,?_⟩,trivial⟩
     ·refine e' rfl ?_
      refine C0.step rfl (j0:=2) (js:=[]) (by kernel_rfl) ⟨⟨_,rfl,?_⟩,trivial⟩
      refine e' rfl ?_
      refine C0.step rfl (j0:=3) (js:=[]) (by kernel_rfl) ⟨⟨_,rfl,?_⟩,trivial⟩
      exact gn' [0] (V0 hx17) rfl rfl rfl rfl rfl (fun hi=>peW ⟨trivial,trivial⟩ rfl hi)
     ·refine e' rfl ?_
      refine C0.step rfl (j0:=1) (js:=[3]) (by kernel_rfl) ⟨⟨_,rfl,?_⟩,⟨_,rfl,?_⟩,trivial⟩
      ·refine e' rfl ?_
       refine C0.step rfl (j0:=3) (js:=[]) (by kernel_rfl) ⟨⟨_,rfl,?_⟩,trivial⟩
       exact gn' [0] (V0 hx17) rfl rfl rfl rfl rfl (fun hi=>peW ⟨trivial,trivial⟩ rfl hi)
      ·exact gn' [0] (V0 hx17) rfl rfl rfl rfl rfl (fun hi=>peW ⟨trivial,trivial⟩ rfl hi)
    ·refine e' rfl ?_
     refine C0.step rfl (j0:=0) (js:=[3]) (by kernel_rfl) ⟨⟨_,rfl,?_⟩,⟨_,rfl,?_⟩,trivial⟩
     ·refine e' rfl ?_
      refine C0.step rfl (j0:=1) (js:=[3]) (by kernel_rfl) ⟨⟨_,rfl,?_⟩,⟨_,rfl,?_⟩,trivial⟩
      ·refine e' rfl ?_
       refine C0.step rfl (j0:=3) (js:=[]) (by kernel_rfl) ⟨⟨_,rfl,?_⟩,trivial⟩
       exact gn' [0] (V0 hx17) rfl rfl rfl rfl rfl (fun hi=>peW ⟨trivial,trivial⟩ rfl hi)
      ·exact gn' [0] (V0 hx17) rfl rfl rfl rfl rfl (fun hi=>peW ⟨trivial,trivial⟩ rfl hi)
     ·exact gn' [0] (V0 hx17) rfl rfl rfl rfl rfl (fun hi=>peW ⟨trivial,trivial⟩ rfl hi)
   obtain ⟨c34,hh⟩:=J6 hh
   refine AEx.drawE hC ?_
   refine C0.step rfl (j0:=0) (js:=[2]) (by kernel_rfl) ⟨⟨_,rfl,?_⟩,⟨_,rfl,?_⟩,trivial⟩
   ·refine e' rfl ?_
    refine C0.step rfl (j0:=1) (js:=[2]) (by kernel_rfl) ⟨⟨_,rfl,?_⟩,⟨_,rfl,?_⟩,trivial⟩
    ·refine e' rfl ?_
     refine C0.step rfl (j0:=2) (js:=[]) (by kernel_rfl) ⟨⟨_,rfl,?_⟩,trivial⟩
     refine e' rfl ?_
     refine C0.step rfl (j0:=3) (js:=[]) (by kernel_rfl) ⟨⟨_,rfl,?_⟩,trivial⟩
     refine g' [0] ((V0 hx17).ok) rfl rfl rfl rfl rfl rfl (n' ?_)
     refine C0.step rfl (j0:=4) (js:=[]) (by kernel_rfl) ⟨⟨_,rfl,?_⟩,trivial⟩
     refine I0.be hC rfl (D0.rows_map [x17.1]).symm (n' ?_)
     refine C0.step rfl (j0:=5) (js:=[]) (by kernel_rfl) ⟨⟨_,rfl,?_⟩,trivial⟩
     refine I0.ap hC rfl (rs:=D0.rows (o2_Params++[x17.1])) (D0.app o2_Params [x17.1]) (D0.sz o2_Params) (D0.sz [x17.1]) (Q1 (D0.len o2_Params) (D0.len [x17.1]) c34) (n' ?_)
     refine C0.step rfl (j0:=6) (js:=[]) (by kernel_rfl) ⟨⟨_,rfl,?_⟩,trivial⟩
     refine e' rfl ?_
     refine C0.step rfl (j0:=7) (js:=[]) (by kernel_rfl) ⟨⟨_,rfl,?_⟩,trivial⟩
     exact I0.s hC rfl (n' (C0.nil (by kernel_rfl) (lw' (ih0 _ _ _ hh) rfl rfl rfl)))
    ·refine e' rfl ?_
     refine C0.step rfl (j0:=1) (js:=[3]) (by kernel_rfl) ⟨⟨_,rfl,?_⟩,⟨_,rfl,?_⟩,trivial⟩
     ·refine e' rfl ?_
      refine C0.step rfl (j0:=3) (js:=[]) (by kernel_rfl) ⟨⟨_,rfl,?_⟩,trivial⟩
      refine g' [0] ((V0 hx17).ok) rfl rfl rfl rfl rfl rfl (n' ?_)
      refine C0.step rfl (j0:=4) (js:=[]) (by kernel_rfl) ⟨⟨_,rfl,?_⟩,trivial⟩
      refine I0.be hC rfl (D0.rows_map [x17.1]).symm (n' ?_)
      refine C0.step rfl (j0:=5) (js:=[]) (by kernel_rfl) ⟨⟨_,rfl,?_⟩,trivial⟩
      refine I0.ap hC rfl (rs:=D0.rows (o2_Params++[x17.1])) (D0.app o2_Params [x17.1]) (D0.sz o2_Params) (D0.sz [x17.1]) (Q1 (D0.len o2_Params) (D0.len [x17.1]) c34) (n' ?_)
      refine C0.step rfl (j0:=6) (js:=[]) (by kernel_rfl) ⟨⟨_,rfl,?_⟩,trivial⟩
      refine e' rfl ?_
      refine C0.step rfl (j0:=7) (js:=[]) (by kernel_rfl) ⟨⟨_,rfl,?_⟩,trivial⟩
      exact I0.s hC rfl (n' (C0.nil (by kernel_rfl) (lw' (ih0 _ _ _ hh) rfl rfl rfl)))
     ·refine g' [0] ((V0 hx17).ok) rfl rfl rfl rfl rfl rfl (n' ?_)
      refine C0.step rfl (j0:=1) (js:=[4]) (by kernel_rfl) ⟨⟨_,rfl,?_⟩,⟨_,rfl,?_⟩,trivial⟩
      ·refine e' rfl ?_
       refine C0.step rfl (j0:=4) (js:=[]) (by kernel_rfl) ⟨⟨_,rfl,?_⟩,trivial⟩
       refine I0.be hC rfl (D0.rows_map [x17.1]).symm (n' ?_)
       refine C0.step rfl (j0:=5) (js:=[]) (by kernel_rfl) ⟨⟨_,rfl,?_⟩,trivial⟩
       refine I0.ap hC rfl (rs:=D0.rows (o2_Params++[x17.1])) (D0.app o2_Params [x17.1]) (D0.sz o2_Params) (D0.sz [x17.1]) (Q1 (D0.len o2_Params) (D0.len [x17.1]) c34) (n' ?_)
       refine C0.step rfl (j0:=6) (js:=[]) (by kernel_rfl) ⟨⟨_,rfl,?_⟩,trivial⟩
       refine e' rfl ?_
       refine C0.step rfl (j0:=7) (js:=[]) (by kernel_rfl) ⟨⟨_,rfl,?_⟩,trivial⟩
       exact I0.s hC rfl (n' (C0.nil (by kernel_rfl) (lw' (ih0 _ _ _ hh) rfl rfl rfl)))
      ·refine I0.be hC rfl (D0.rows_map [x17.1]).symm (n' ?_)
       refine C0.step rfl (j0:=1) (js:=[]) (by kernel_rfl) ⟨⟨_,rfl,?_⟩,trivial⟩
       refine e' rfl ?_
       refine C0.step rfl (j0:=5) (js:=[]) (by kernel_rfl) ⟨⟨_,rfl,?_⟩,trivial⟩
       refine I0.ap hC rfl (rs:=D0.rows (o2_Params++[x17.1])) (D0.app o2_Params [x17.1]) (D0.sz o2_Params) (D0.sz [x17.1]) (Q1 (D0.len o2_Params) (D0.len [x17.1]) c34) (n' ?_)
       refine C0.step rfl (j0:=6) (js:=[]) (by kernel_rfl) ⟨⟨_,rfl,?_⟩,trivial⟩
       refine e' rfl ?_
       refine C0.step rfl (j0:=7) (js:=[]) (by kernel_rfl) ⟨⟨_,rfl,?_⟩,trivial⟩
       exact I0.s hC rfl (n' (C0.nil (by kernel_rfl) (lw' (ih0 _ _ _ hh) rfl rfl rfl)))
   ·refine e' rfl ?_
    refine C0.step rfl (j0:=0) (js:=[3]) (by kernel_rfl) ⟨⟨_,rfl,?_⟩,⟨_,rfl,?_⟩,trivial⟩
    ·refine e' rfl ?_
     refine C0.step rfl (j0:=1) (js:=[3]) (by kernel_rfl) ⟨⟨_,rfl,?_⟩,⟨_,rfl,?_⟩,trivial⟩
     ·refine e' rfl ?_
      refine C0.step rfl (j0:=3) (js:=[]) (by kernel_rfl) ⟨⟨_,rfl,?_⟩,trivial⟩
      refine g' [0] ((V0 hx17).ok) rfl rfl rfl rfl rfl rfl (n' ?_)
      refine C0.step rfl (j0:=4) (js:=[]) (by kernel_rfl) ⟨⟨_,rfl,?_⟩,trivial⟩
      refine I0.be hC rfl (D0.rows_map [x17.1]).symm (n' ?_)
      refine C0.step rfl (j0:=5) (js:=[]) (by kernel_rfl) ⟨⟨_,rfl,?_⟩,trivial⟩
      refine I0.ap hC rfl (rs:=D0.rows (o2_Params++[x17.1])) (D0.app o2_Params [x17.1]) (D0.sz o2_Params) (D0.sz [x17.1]) (Q1 (D0.len o2_Params) (D0.len [x17.1]) c34) (n' ?_)
      refine C0.step rfl (j0:=6) (js:=[]) (by kernel_rfl) ⟨⟨_,rfl,?_⟩,trivial⟩
      refine e' rfl ?_
      refine C0.step rfl (j0:=7) (js:=[]) (by kernel_rfl) ⟨⟨_,rfl,?_⟩,trivial⟩
      exact I0.s hC rfl (n' (C0.nil (by kernel_rfl) (lw' (ih0 _ _ _ hh) rfl rfl rfl)))
     ·refine g' [0] ((V0 hx17).ok) rfl rfl rfl rfl rfl rfl (n' ?_)
      refine C0.step rfl (j0:=1) (js:=[4]) (by kernel_rfl) ⟨⟨_,rfl,?_⟩,⟨_,rfl,?_⟩,trivial⟩
      ·refine e' rfl ?_
       refine C0.step rfl (j0:=4) (js:=[]) (by kernel_rfl) ⟨⟨_,rfl,?_⟩,trivial⟩
       refine I0.be hC rfl (D0.rows_map [x17.1]).symm (n' ?_)
       refine C0.step rfl (j0:=5) (js:=[]) (by kernel_rfl) ⟨⟨_,rfl,?_⟩,trivial⟩
       refine I0.ap hC rfl (rs:=D0.rows (o2_Params++[x17.1])) (D0.app o2_Params [x17.1]) (D0.sz o2_Params) (D0.sz [x17.1]) (Q1 (D0.len o2_Params) (D0.len [x17.1]) c34) (n' ?_)
       refine C0.step rfl (j0:=6) (js:=[]) (by kernel_rfl) ⟨⟨_,rfl,?_⟩,trivial⟩
       refine e' rfl ?_
       refine C0.step rfl (j0:=7) (js:=[]) (by kernel_rfl) ⟨⟨_,rfl,?_⟩,trivial⟩
       exact I0.s hC rfl (n' (C0.nil (by kernel_rfl) (lw' (ih0 _ _ _ hh) rfl rfl rfl)))
      ·refine I0.be hC rfl (D0.rows_map [x17.1]).symm (n' ?_)
       refine C0.step rfl (j0:=1) (js:=[]) (by kernel_rfl) ⟨⟨_,rfl,?_⟩,trivial⟩
       refine e' rfl ?_
       refine C0.step rfl (j0:=5) (js:=[]) (by kernel_rfl) ⟨⟨_,rfl,?_⟩,trivial⟩
       refine I0.ap hC rfl (rs:=D0.rows (o2_Params++[x17.1])) (D0.app o2_Params [x17.1]) (D0.sz o2_Params) (D0.sz [x17.1]) (Q1 (D0.len o2_Params) (D0.len [x17.1]) c34) (n' ?_)
       refine C0.step rfl (j0:=6) (js:=[]) (by kernel_rfl) ⟨⟨_,rfl,?_⟩,trivial⟩
       refine e' rfl ?_
       refine C0.step rfl (j0:=7) (js:=[]) (by kernel_rfl) ⟨⟨_,rfl,?_⟩,trivial⟩
       exact I0.s hC rfl (n' (C0.nil (by kernel_rfl) (lw' (ih0 _ _ _ hh) rfl rfl rfl)))
    ·refine g' [0] ((V0 hx17).ok) rfl rfl rfl rfl rfl rfl (n' ?_)
     refine C0.step rfl (j0:=0) (js:=[4]) (by kernel_rfl) ⟨⟨_,rfl,?_⟩,⟨_,rfl,?_⟩,trivial⟩
     ·refine e' rfl ?_
      refine C0.step rfl (j0:=1) (js:=[4]) (by kernel_rfl) ⟨⟨_,rfl,?_⟩,⟨_,rfl,?_⟩,trivial⟩
      ·refine e' rfl ?_
       refine C0.step rfl (j0:=4) (js:=[]) (by kernel_rfl) ⟨⟨_,rfl,?_⟩,trivial⟩
       refine I0.be hC rfl (D0.rows_map [x17.1]).symm (n' ?_)
       refine C0.step rfl (j0:=5) (js:=[]) (by kernel_rfl) ⟨⟨_,rfl,?_⟩,trivial⟩
       refine I0.ap hC rfl (rs:=D0.rows (o2_Params++[x17.1])) (D0.app o2_Params [x17.1]) (D0.sz o2_Params) (D0.sz [x17.1]) (Q1 (D0.len o2_Params) (D0.len [x17.1]) c34) (n' ?_)
       refine C0.step rfl (j0:=6) (js:=[]) (by kernel_rfl) ⟨⟨_,rfl,?_⟩,trivial⟩
       refine e' rfl ?_
       refine C0.step rfl (j0:=7) (js:=[]) (by kernel_rfl) ⟨⟨_,rfl,?_⟩,trivial⟩
       exact I0.s hC rfl (n' (C0.nil (by kernel_rfl) (lw' (ih0 _ _ _ hh) rfl rfl rfl)))
      ·refine I0.be hC rfl (D0.rows_map [x17.1]).symm (n' ?_)
       refine C0.step rfl (j0:=1) (js:=[]) (by kernel_rfl) ⟨⟨_,rfl,?_⟩,trivial⟩
       refine e' rfl ?_
       refine C0.step rfl (j0:=5) (js:=[]) (by kernel_rfl) ⟨⟨_,rfl,?_⟩,trivial⟩
       refine I0.ap hC rfl (rs:=D0.rows (o2_Params++[x17.1])) (D0.app o2_Params [x17.1]) (D0.sz o2_Params) (D0.sz [x17.1]) (Q1 (D0.len o2_Params) (D0.len [x17.1]) c34) (n' ?_)
       refine C0.step rfl (j0:=6) (js:=[]) (by kernel_rfl) ⟨⟨_,rfl,?_⟩,trivial⟩
       refine e' rfl ?_
       refine C0.step rfl (j0:=7) (js:=[]) (by kernel_rfl) ⟨⟨_,rfl,?_⟩,trivial⟩
       exact I0.s hC rfl (n' (C0.nil (by kernel_rfl) (lw' (ih0 _ _ _ hh) rfl rfl rfl)))
     ·refine I0.be hC rfl (D0.rows_map [x17.1]).symm (n' ?_)
      refine C0.step rfl (j0:=0) (js:=[]) (by kernel_rfl) ⟨⟨_,rfl,?_⟩,trivial⟩
      refine e' rfl ?_
      refine C0.step rfl (j0:=1) (js:=[]) (by kernel_rfl) ⟨⟨_,rfl,?_⟩,trivial⟩
      refine e' rfl ?_
      refine C0.step rfl (j0:=5) (js:=[]) (by kernel_rfl) ⟨⟨_,rfl,?_⟩,trivial⟩
      refine I0.ap hC rfl (rs:=D0.rows (o2_Params++[x17.1])) (D0.app o2_Params [x17.1]) (D0.sz o2_Params) (D0.sz [x17.1]) (Q1 (D0.len o2_Params) (D0.len [x17.1]) c34) (n' ?_)
      refine C0.step rfl (j0:=6) (js:=[]) (by kernel_rfl) ⟨⟨_,rfl,?_⟩,trivial⟩
      refine e' rfl ?_
      refine C0.step rfl (j0:=7) (js:=[]) (by kernel_rfl) ⟨⟨_,rfl,?_⟩,trivial⟩
      exact I0.s hC rfl (n' (C0.nil (by kernel_rfl) (lw' (ih0 _ _ _ hh) rfl rfl rfl)))
  exact ex' (ew' (Qi hh) rfl rfl rfl)
theorem Fq {o0 x1 o2_Params res}(hh:F5 o0 x1 o2_Params=some res):Lj o0 x1 o2_Params res:=(Ip x1) _ _ _ hh
end Go.Proofs.YtmnhfbekncjnfaaGreatDoor

set_option maxRecDepth 100000
set_option maxHeartbeats 4000000
set_option synthInstance.maxSize 20000
set_option linter.unusedVariables false
namespace Go.Proofs.YtmnhfbekncjnfaaGreatDoor
open Go.Am
def Db (x4:D0×B0)(x1:Str×B0):Option (Pn (D0×B0)):=
 F5 x4.2 x1 [x4.1]
theorem U2 {x4 x1 res}(hh:Db x4 x1=some res):JMp C 58 1 Tryz.f141 [1,1,1,0,1,2,1] [(0,.ref 0 0),(2,.ref 1 0),(3,.ref 2 0)] [.row (B0.cells x4.2) 99,.row [.d (.int .i64 0),.d (.str []),.d (.int .i64 0),.d (.int .i64 0),.d (.int .i64 0),.d (.int .i64 0),.d (.str []),.full (estr.rows []),.full (F0.rows []),.d (.int .i64 0),.d (.int .i64 0),.d (.int .i64 0),.d (.str []),.full (A0.rows []),.full (D0.rows []),.full (D0.rows []),.full (E0.rows [])] 128,.row [.d (.int .i64 6),.d (.str x1.1),.d (.int .i64 0),.d (.int .i64 0),.d (.int .i64 0),.d (.int .i64 0),.d (.str []),.full (estr.rows []),.full (F0.rows []),.d (.int .i64 0),.d (.int .i64 0),.d (.int .i64 0),.d (.str []),.full (A0.rows []),.osl 3 (D0.rows [x4.1]),.osl 4 (D0.rows []),.full (E0.rows [])] 128,.tok 128 17,.tok 128 17] (R4 res (fun rr=>[.row (B0.cells rr.2) 99]) (fun rr=>.agg (D0.cells rr.1))) (M4 res I3 [.dead]):=by
 unfold Db at hh
 exact bk' (fw' (Fq hh) rfl rfl rfl)
def Aa (parserParser:B0):Option (Pn (D0×B0)):=
 V2 parserParser>>=fun x1=>match x1 with
 | .pn nn=>
 some (.pn nn)
 | .ok x1=>
 R0 [40] x1.2>>=fun x2=>match x2 with
 | .pn nn=>
 some (.pn nn)
 | .ok x2=>
 B5 x2>>=fun x3=>
 if x3=true then
  W2 4 x2>>=fun x4=>match x4 with
  | .pn nn=>
  some (.pn nn)
  | .ok x4=>
  if (decide ((0+1) * 257≤140737488355328))=true then
   Db x4 x1
  else none
 else
  E5 x2 x1 []
theorem Yk {parserParser res}(hh:Aa parserParser=some res):C2 C 141 [.ref 0 0] [.row (B0.cells parserParser) 99] (R4 res (fun rr=>[.row (B0.cells rr.2) 99]) (fun rr=>.agg (D0.cells rr.1))) (M4 res I3 [.dead]):=by
 unfold Aa at hh
 refine C2.intro hC Tryz.func141 rfl rfl rfl (s' rfl rfl (I0.nf hC rfl (n' (p' 1 rfl ?_))))
 rcases bp' hh with ⟨nn,hx1,⟨⟩⟩ | ⟨x1,hx1,hh⟩
 ·exact gn' [0] (B1 hx1) rfl rfl rfl rfl rfl (fun hi=>peW ⟨trivial,trivial⟩ rfl hi)
 refine g' [0] ((B1 hx1).ok) rfl rfl rfl rfl rfl rfl (I0.bz hC rfl (I0.nf hC rfl (I0.s hC rfl (I0.tokC 2 14 128 17 rfl rfl rfl rfl rfl (I0.tokC 2 15 128 17 rfl rfl rfl rfl rfl (n' (p' 1 rfl ?_)))))))
 rcases bp' hh with ⟨nn,hx2,⟨⟩⟩ | ⟨x2,hx2,hh⟩
 ·exact gn' [0] (L0 hx2) rfl rfl rfl rfl rfl (fun hi=>peW ⟨trivial,trivial⟩ rfl hi)
 obtain ⟨x3,hx3,hh⟩:=bs' hh
 refine g' [0] ((L0 hx2).ok) rfl rfl rfl rfl rfl rfl (n' (S' (p' 1 rfl (g' [0] (Ng hx3) rfl rfl rfl rfl rfl rfl (n' (ci' rfl hh (fun hh=>?_) (fun hh=>?_)))))))
 ·refine S' ?_
  rcases bp' hh with ⟨nn,hx4,⟨⟩⟩ | ⟨x4,hx4,hh⟩
  ·refine AEx.drawE hC ?_
   refine C0.step rfl (j0:=0) (js:=[2]) (by kernel_rfl) ⟨⟨_,rfl,?_⟩,⟨_,rfl,?_⟩,trivial⟩
   ·refine e' rfl ?_
    refine C0.step rfl (j0:=1) (js:=[2]) (by kernel_rfl) ⟨⟨_,rfl,?_⟩,⟨_,rfl,?_⟩,trivial⟩
    ·refine e' rfl ?_
     refine C0.step rfl (j0:=2) (js:=[]) (by kernel_rfl) ⟨⟨_,rfl,?_⟩,trivial⟩
     refine e' rfl ?_
     refine C0.step rfl (j0:=3) (js:=[]) (by kernel_rfl) ⟨⟨_,rfl,?_⟩,trivial⟩
     exact gn' [0] (V0 hx4) rfl rfl rfl rfl rfl (fun hi=>peW ⟨trivial,trivial⟩ rfl hi)
    ·refine e' rfl ?_
     refine C0.step rfl (j0:=1) (js:=[3]) (by kernel_rfl) ⟨⟨_,rfl,?_⟩,⟨_,rfl,?_⟩,trivial⟩
     ·refine e' rfl ?_
      refine C0.step rfl (j0:=3) (js:=[]) (by kernel_rfl) ⟨⟨_,rfl,?_⟩,trivial⟩
      exact gn' [0] (V0 hx4) rfl rfl rfl rfl rfl (fun hi=>peW ⟨trivial,trivial⟩ rfl hi)
     ·exact gn' [0] (V0 hx4) rfl rfl rfl rfl rfl (fun hi=>peW ⟨trivial,trivial⟩ rfl hi)
   ·refine e' rfl ?_
    refine C0.step rfl (j0:=0) (js:=[3]) (by kernel_rfl) ⟨⟨_,rfl,?_⟩,⟨_,rfl,?_⟩,trivial⟩
    ·refine e' rfl ?_
     refine C0.step rfl (j0:=1) (js:=[3]) (by kernel_rfl) ⟨⟨_,rfl,?_⟩,⟨_,rfl,?_⟩,trivial⟩
     ·refine e' rfl ?_
      refine C0.step rfl (j0:=3) (js:=[]) (by kernel_rfl) ⟨⟨_,rfl,?_⟩,trivial⟩
      exact gn' [0] (V0 hx4) rfl rfl rfl rfl rfl (fun hi=>peW ⟨trivial,trivial⟩ rfl hi)
     ·exact gn' [0] (V0 hx4) rfl rfl rfl rfl rfl (fun hi=>peW ⟨trivial,trivial⟩ rfl hi)
    ·exact gn' [0] (V0 hx4) rfl rfl rfl rfl rfl (fun hi=>peW ⟨trivial,trivial⟩ rfl hi)
  obtain ⟨c33,hh⟩:=J6 hh
  refine AEx.drawE hC ?_
  refine C0.step rfl (j0:=0) (js:=[2]) (by kernel_rfl) ⟨⟨_,rfl,?_⟩,⟨_,rfl,?_⟩,trivial⟩
  ·refine e' rfl ?_
   refine C0.step rfl (j0:=1) (js:=[2]) (by kernel_rfl) ⟨⟨_,rfl,?_⟩,⟨_,rfl,?_⟩,trivial⟩
   ·refine e' rfl ?_
    refine C0.step rfl (j0:=2) (js:=[]) (by kernel_rfl) ⟨⟨_,rfl,?_⟩,trivial⟩
    refine e' rfl ?_
    refine C0.step rfl (j0:=3) (js:=[]) (by kernel_rfl) ⟨⟨_,rfl,?_⟩,trivial⟩
    refine g' [0] ((V0 hx4).ok) rfl rfl rfl rfl rfl rfl (n' ?_)
    refine C0.step rfl (j0:=4) (js:=[]) (by kernel_rfl) ⟨⟨_,rfl,?_⟩,trivial⟩
    refine I0.be hC rfl (D0.rows_map [x4.1]).symm (n' ?_)
    refine C0.step rfl (j0:=5) (js:=[]) (by kernel_rfl) ⟨⟨_,rfl,?_⟩,trivial⟩
    refine I0.ap hC rfl (rs:=D0.rows [x4.1]) rfl (D0.sz []) (D0.sz [x4.1]) (Q1 (D0.len []) (D0.len [x4.1]) c33) (n' ?_)
    refine C0.step rfl (j0:=6) (js:=[]) (by kernel_rfl) ⟨⟨_,rfl,?_⟩,trivial⟩
    refine e' rfl ?_
    refine C0.step rfl (j0:=7) (js:=[]) (by kernel_rfl) ⟨⟨_,rfl,?_⟩,trivial⟩
    exact I0.s hC rfl (n' (C0.nil (by kernel_rfl) (ew' (U2 hh) rfl rfl rfl)))
   ·refine e' rfl ?_
    refine C0.step rfl (j0:=1) (js:=[3]) (by kernel_rfl) ⟨⟨_,rfl,?_⟩,⟨_,rfl,?_⟩,trivial⟩
    ·refine e' rfl ?_
     refine C0.step rfl (j0:=3) (js:=[]) (by kernel_rfl) ⟨⟨_,rfl,?_⟩,trivial⟩
     refine g' [0] ((V0 hx4).ok) rfl rfl rfl rfl rfl rfl (n' ?_)
     refine C0.step rfl (j0:=4) (js:=[]) (by kernel_rfl) ⟨⟨_,rfl,?_⟩,trivial⟩
     refine I0.be hC rfl (D0.rows_map [x4.1]).symm (n' ?_)
     refine C0.step rfl (j0:=5) (js:=[]) (by kernel_rfl) ⟨⟨_,rfl,?_⟩,trivial⟩
     refine I0.ap hC rfl (rs:=D0.rows [x4.1]) rfl (D0.sz []) (D0.sz [x4.1]) (Q1 (D0.len []) (D0.len [x4.1]) c33) (n' ?_)
     refine C0.step rfl (j0:=6) (js:=[]) (by kernel_rfl) ⟨⟨_,rfl,?_⟩,trivial⟩
     refine e' rfl ?_
     refine C0.step rfl (j0:=7) (js:=[]) (by kernel_rfl) ⟨⟨_,rfl,?_⟩,trivial⟩
     exact I0.s hC rfl (n' (C0.nil (by kernel_rfl) (ew' (U2 hh) rfl rfl rfl)))
    ·refine g' [0] ((V0 hx4).ok) rfl rfl rfl rfl rfl rfl (n' ?_)
     refine C0.step rfl (j0:=1) (js:=[4]) (by kernel_rfl) ⟨⟨_,rfl,?_⟩,⟨_,rfl,?_⟩,trivial⟩
     ·refine e' rfl ?_
      refine C0.step rfl (j0:=4) (js:=[]) (by kernel_rfl) ⟨⟨_,rfl,?_⟩,trivial⟩
      refine I0.be hC rfl (D0.rows_map [x4.1]).symm (n' ?_)
      refine C0.step rfl (j0:=5) (js:=[]) (by kernel_rfl) ⟨⟨_,rfl,?_⟩,trivial⟩
      refine I0.ap hC rfl (rs:=D0.rows [x4.1]) rfl (D0.sz []) (D0.sz [x4.1]) (Q1 (D0.len []) (D0.len [x4.1]) c33) (n' ?_)
      refine C0.step rfl (j0:=6) (js:=[]) (by kernel_rfl) ⟨⟨_,rfl,?_⟩,trivial⟩
      refine e' rfl ?_
      refine C0.step rfl (j0:=7) (js:=[]) (by kernel_rfl) ⟨⟨_,rfl,?_⟩,trivial⟩
      exact I0.s hC rfl (n' (C0.nil (by kernel_rfl) (ew' (U2 hh) rfl rfl rfl)))
     ·refine I0.be hC rfl (D0.rows_map [x4.1]).symm (n' ?_)
      refine C0.step rfl (j0:=1) (js:=[]) (by kernel_rfl) ⟨⟨_,rfl,?_⟩,trivial⟩
      refine e' rfl ?_
      refine C0.step rfl (j0:=5) (js:=[]) (by kernel_rfl) ⟨⟨_,rfl,?_⟩,trivial⟩
      refine I0.ap hC rfl (rs:=D0.rows [x4.1]) rfl (D0.sz []) (D0.sz [x4.1]) (Q1 (D0.len []) (D0.len [x4.1]) c33) (n' ?_)
      refine C0.step rfl (j0:=6) (js:=[]) (by kernel_rfl) ⟨⟨_,rfl,?_⟩,trivial⟩
      refine e' rfl ?_
      refine C0.step rfl (j0:=7) (js:=[]) (by kernel_rfl) ⟨⟨_,rfl,?_⟩,trivial⟩
      exact I0.s hC rfl (n' (C0.nil (by kernel_rfl) (ew' (U2 hh) rfl rfl rfl)))
  ·refine e' rfl ?_
   refine C0.step rfl (j0:=0) (js:=[3]) (by kernel_rfl) ⟨⟨_,rfl,?_⟩,⟨_,rfl,?_⟩,trivial⟩
   ·refine e' rfl ?_
    refine C0.step rfl (j0:=1) (js:=[3]) (by kernel_rfl) ⟨⟨_,rfl,?_⟩,⟨_,rfl,?_⟩,trivial⟩
    ·refine e' rfl ?_
     refine C0.step rfl (j0:=3) (js:=[]) (by kernel_rfl) ⟨⟨_,rfl,?_⟩,trivial⟩
     refine g' [0] ((V0 hx4).ok) rfl rfl rfl rfl rfl rfl (n' ?_)
     refine C0.step rfl (j0:=4) (js:=[]) (by kernel_rfl) ⟨⟨_,rfl,?_⟩,trivial⟩
     refine I0.be hC rfl (D0.rows_map [x4.1]).symm (n' ?_)
     refine C0.step rfl (j0:=5) (js:=[]) (by kernel_rfl) ⟨⟨_,rfl,?_⟩,trivial⟩
     refine I0.ap hC rfl (rs:=D0.rows [x4.1]) rfl (D0.sz []) (D0.sz [x4.1]) (Q1 (D0.len []) (D0.len [x4.1]) c33) (n' ?_)
     refine C0.step rfl (j0:=6) (js:=[]) (by kernel_rfl) ⟨⟨_,rfl,?_⟩,trivial⟩
     refine e' rfl ?_
     refine C0.step rfl (j0:=7) (js:=[]) (by kernel_rfl) ⟨⟨_,rfl,?_⟩,trivial⟩
     exact I0.s hC rfl (n' (C0.nil (by kernel_rfl) (ew' (U2 hh) rfl rfl rfl)))
    ·refine g' [0] ((V0 hx4).ok) rfl rfl rfl rfl rfl rfl (n' ?_)
     refine C0.step rfl (j0:=1) (js:=[4]) (by kernel_rfl) ⟨⟨_,rfl,?_⟩,⟨_,rfl,?_⟩,trivial⟩
     ·refine e' rfl ?_
      refine C0.step rfl (j0:=4) (js:=[]) (by kernel_rfl) ⟨⟨_,rfl,?_⟩,trivial⟩
      refine I0.be hC rfl (D0.rows_map [x4.1]).symm (n' ?_)
      refine C0.step rfl (j0:=5) (js:=[]) (by kernel_rfl) ⟨⟨_,rfl,?_⟩,trivial⟩
      refine I0.ap hC rfl (rs:=D0.rows [x4.1]) rfl (D0.sz []) (D0.sz [x4.1]) (Q1 (D0.len []) (D0.len [x4.1]) c33) (n' ?_)
      refine C0.step rfl (j0:=6) (js:=[]) (by kernel_rfl) ⟨⟨_,rfl,?_⟩,trivial⟩
      refine e' rfl ?_
      refine C0.step rfl (j0:=7) (js:=[]) (by kernel_rfl) ⟨⟨_,rfl,?_⟩,trivial⟩
      exact I0.s hC rfl (n' (C0.nil (by kernel_rfl) (ew' (U2 hh) rfl rfl rfl)))
     ·refine I0.be hC rfl (D0.rows_map [x4.1]).symm (n' ?_)
      refine C0.step rfl (j0:=1) (js:=[]) (by kernel_rfl) ⟨⟨_,rfl,?_⟩,trivial⟩
      refine e' rfl ?_
      refine C0.step rfl (j0:=5) (js:=[]) (by kernel_rfl) ⟨⟨_,rfl,?_⟩,trivial⟩
      refine I0.ap hC rfl (rs:=D0.rows [x4.1]) rfl (D0.sz []) (D0.sz [x4.1]) (Q1 (D0.len []) (D0.len [x4.1]) c33) (n' ?_)
      refine C0.step rfl (j0:=6) (js:=[]) (by kernel_rfl) ⟨⟨_,rfl,?_⟩,trivial⟩
      refine e' rfl ?_
      refine C0.step rfl (j0:=7) (js:=[]) (by kernel_rfl) ⟨⟨_,rfl,?_⟩,trivial⟩
      exact I0.s hC rfl (n' (C0.nil (by kernel_rfl) (ew' (U2 hh) rfl rfl rfl)))
   ·refine g' [0] ((V0 hx4).ok) rfl rfl rfl rfl rfl rfl (n' ?_)
    refine C0.step rfl (j0:=0) (js:=[4]) (by kernel_rfl) ⟨⟨_,rfl,?_⟩,⟨_,rfl,?_⟩,trivial⟩
    ·refine e' rfl ?_
     refine C0.step rfl (j0:=1) (js:=[4]) (by kernel_rfl) ⟨⟨_,rfl,?_⟩,⟨_,rfl,?_⟩,trivial⟩
     ·refine e' rfl ?_
      refine C0.step rfl (j0:=4) (js:=[]) (by kernel_rfl) ⟨⟨_,rfl,?_⟩,trivial⟩
      refine I0.be hC rfl (D0.rows_map [x4.1]).symm (n' ?_)
      refine C0.step rfl (j0:=5) (js:=[]) (by kernel_rfl) ⟨⟨_,rfl,?_⟩,trivial⟩
      refine I0.ap hC rfl (rs:=D0.rows [x4.1]) rfl (D0.sz []) (D0.sz [x4.1]) (Q1 (D0.len []) (D0.len [x4.1]) c33) (n' ?_)
      refine C0.step rfl (j0:=6) (js:=[]) (by kernel_rfl) ⟨⟨_,rfl,?_⟩,trivial⟩
      refine e' rfl ?_
      refine C0.step rfl (j0:=7) (js:=[]) (by kernel_rfl) ⟨⟨_,rfl,?_⟩,trivial⟩
      exact I0.s hC rfl (n' (C0.nil (by kernel_rfl) (ew' (U2 hh) rfl rfl rfl)))
     ·refine I0.be hC rfl (D0.rows_map [x4.1]).symm (n' ?_)
      refine C0.step rfl (j0:=1) (js:=[]) (by kernel_rfl) ⟨⟨_,rfl,?_⟩,trivial⟩
      refine e' rfl ?_
      refine C0.step rfl (j0:=5) (js:=[]) (by kernel_rfl) ⟨⟨_,rfl,?_⟩,trivial⟩
      refine I0.ap hC rfl (rs:=D0.rows [x4.1]) rfl (D0.sz []) (D0.sz [x4.1]) (Q1 (D0.len []) (D0.len [x4.1]) c33) (n' ?_)
      refine C0.step rfl (j0:=6) (js:=[]) (by kernel_rfl) ⟨⟨_,rfl,?_⟩,trivial⟩
      refine e' rfl ?_
      refine C0.step rfl (j0:=7) (js:=[]) (by kernel_rfl) ⟨⟨_,rfl,?_⟩,trivial⟩
      exact I0.s hC rfl (n' (C0.nil (by kernel_rfl) (ew' (U2 hh) rfl rfl rfl)))
    ·refine I0.be hC rfl (D0.rows_map [x4.1]).symm (n' ?_)
     refine C0.step rfl (j0:=0) (js:=[]) (by kernel_rfl) ⟨⟨_,rfl,?_⟩,trivial⟩
     refine e' rfl ?_
     refine C0.step rfl (j0:=1) (js:=[]) (by kernel_rfl) ⟨⟨_,rfl,?_⟩,trivial⟩
     refine e' rfl ?_
     refine C0.step rfl (j0:=5) (js:=[]) (by kernel_rfl) ⟨⟨_,rfl,?_⟩,trivial⟩
     refine I0.ap hC rfl (rs:=D0.rows [x4.1]) rfl (D0.sz []) (D0.sz [x4.1]) (Q1 (D0.len []) (D0.len [x4.1]) c33) (n' ?_)
     refine C0.step rfl (j0:=6) (js:=[]) (by kernel_rfl) ⟨⟨_,rfl,?_⟩,trivial⟩
     refine e' rfl ?_
     refine C0.step rfl (j0:=7) (js:=[]) (by kernel_rfl) ⟨⟨_,rfl,?_⟩,trivial⟩
     exact I0.s hC rfl (n' (C0.nil (by kernel_rfl) (ew' (U2 hh) rfl rfl rfl)))
 exact sk' (ew' (Qi hh) rfl rfl rfl)
def G5 (parserParser:B0):Option (Pn (D0×Bool×B0)):=
 O0 [116,121,112,101] parserParser>>=fun x1=>
 if x1.1=true then
  V2 x1.2>>=fun x2=>match x2 with
  | .pn nn=>
  some (.pn nn)
  | .ok x2=>
  R0 [61] x2.2>>=fun x3=>match x3 with
  | .pn nn=>
  some (.pn nn)
  | .ok x3=>
  A5 x3>>=fun x4=>match x4 with
  | .pn nn=>
  some (.pn nn)
  | .ok x4=>
  R0 [59] x4.2>>=fun x5=>match x5 with
  | .pn nn=>
  some (.pn nn)
  | .ok x5=>
  some (.ok ((D0.mk 0 x2.1 x4.1 0 (A0.mk 0 0 [] []) [] [] []),true,x5))
 else
  O0 [115,101,99,114,101,116] x1.2>>=fun x6=>
  if x6.1=true then
   W2 1 x6.2>>=fun x7=>match x7 with
   | .pn nn=>
   some (.pn nn)
   | .ok x7=>
   R0 [59] x7.2>>=fun x8=>match x8 with
   | .pn nn=>
   some (.pn nn)
   | .ok x8=>
   some (.ok (x7.1,true,x8))
  else
   O0 [112,117,98,108,105,99] x6.2>>=fun x9=>
   if x9.1=true then
    W2 2 x9.2>>=fun x10=>match x10 with
    | .pn nn=>
    some (.pn nn)
    | .ok x10=>
    R0 [59] x10.2>>=fun x11=>match x11 with
    | .pn nn=>
    some (.pn nn)
    | .ok x11=>
    some (.ok (x10.1,true,x11))
   else
    O0 [114,97,110,100,111,109] x9.2>>=fun x12=>
    if x12.1=true then
     W2 3 x12.2>>=fun x13=>match x13 with
     | .pn nn=>
     some (.pn nn)
     | .ok x13=>
     R0 [59] x13.2>>=fun x14=>match x14 with
     | .pn nn=>
     some (.pn nn)
     | .ok x14=>
     some (.ok (x13.1,true,x14))
    else
     O0 [118,97,114] x12.2>>=fun x15=>
     if x15.1=true then
      M7 x15.2>>=fun x16=>match x16 with
      | .pn nn=>
      some (.pn nn)
      | .ok x16=>
      some (.ok (x16.1,true,x16.2))
     else
      O0 [104,97,116,99,104] x15.2>>=fun x17=>
      if x17.1=true then
       W2 5 x17.2>>=fun x18=>match x18 with
       | .pn nn=>
       some (.pn nn)
       | .ok x18=>
       R0 [61] x18.2>>=fun x19=>match x19 with
       | .pn nn=>
       some (.pn nn)
       | .ok x19=>
       D1 x19>>=fun x20=>match x20 with
       | .pn nn=>
       some (.pn nn)
       | .ok x20=>
       R0 [59] x20.2>>=fun x21=>match x21 with
       | .pn nn=>
       some (.pn nn)
       | .ok x21=>
       some (.ok ((D0.mk x18.1.Kind x18.1.Name x18.1.TypeV x18.1.Init x20.1 x18.1.Params x18.1.Vars x18.1.Body),true,x21))
      else
       O0 [102,117,110,99] x17.2>>=fun x22=>
       if x22.1=true then
        Aa x22.2>>=fun x23=>match x23 with
        | .pn nn=>
        some (.pn nn)
        | .ok x23=>
        some (.ok (x23.1,true,x23.2))
       else
        some (.ok ((D0.mk 0 [] (F0.mk 0 0 0 0 [] [] []) 0 (A0.mk 0 0 [] []) [] [] []),false,x22.2))
theorem Ri {parserParser res}(hh:G5 parserParser=some res):C2 C 87 [.ref 0 0] [.row (B0.cells parserParser) 99] (R4 res (fun rr=>[.row (B0.cells rr.2.2) 99]) (fun rr=>.tup [.agg (D0.cells rr.1),.d (.bool rr.2.1)])) (M4 res I3 [.dead]):=by
 unfold G5 at hh
 obtain ⟨x1,hx1,hh⟩:=bs' hh
 refine C2.intro hC Tryz.func87 rfl rfl rfl (s' rfl rfl (I0.nf hC rfl (e' rfl (s' rfl rfl (I0.nf hC rfl (n' (S' (bk' (p' 1 rfl (g' [0] (P0 hx1) rfl rfl rfl rfl rfl rfl (e' rfl (ci' rfl hh (fun hh=>?_) (fun hh=>?_)))))))))))))
 ·refine p' 1 rfl ?_
  rcases bp' hh with ⟨nn,hx2,⟨⟩⟩ | ⟨x2,hx2,hh⟩
  ·exact gn' [0] (B1 hx2) rfl rfl rfl rfl rfl (fun hi=>peW ⟨trivial,trivial⟩ rfl hi)
  refine g' [0] ((B1 hx2).ok) rfl rfl rfl rfl rfl rfl (e' rfl (p' 1 rfl ?_))
  rcases bp' hh with ⟨nn,hx3,⟨⟩⟩ | ⟨x3,hx3,hh⟩
  ·exact gn' [0] (L0 hx3) rfl rfl rfl rfl rfl (fun hi=>peW ⟨trivial,trivial⟩ rfl hi)
  refine g' [0] ((L0 hx3).ok) rfl rfl rfl rfl rfl rfl (n' (p' 2 rfl ?_))
  rcases bp' hh with ⟨nn,hx4,⟨⟩⟩ | ⟨x4,hx4,hh⟩
  ·exact gn' [0] (F9 hx4) rfl rfl rfl rfl rfl (fun hi=>peW ⟨trivial,trivial⟩ rfl hi)
  refine g' [0] ((F9 hx4).ok) rfl rfl rfl rfl rfl rfl (q' rfl (I0.s hC rfl (n' (P' 1 rfl ?_))))
  rcases bp' hh with ⟨nn,hx5,⟨⟩⟩ | ⟨x5,hx5,hh⟩
  ·exact gn' [0] (L0 hx5) rfl rfl rfl rfl rfl (fun hi=>peW ⟨trivial,trivial⟩ rfl hi)
  cases hh
  exact g' [0] ((L0 hx5).ok) rfl rfl rfl rfl rfl rfl (n' (p' 1 rfl (I0.s hC rfl (e' rfl (re' (rt' rfl rfl rfl))))))
 obtain ⟨x6,hx6,hh⟩:=bs' hh
 refine p' 1 rfl (g' [0] (P0 hx6) rfl rfl rfl rfl rfl rfl (e' rfl (ci' rfl hh (fun hh=>?_) (fun hh=>?_))))
 ·refine p' 1 rfl ?_
  rcases bp' hh with ⟨nn,hx7,⟨⟩⟩ | ⟨x7,hx7,hh⟩
  ·exact gn' [0] (V0 hx7) rfl rfl rfl rfl rfl (fun hi=>peW ⟨trivial,trivial⟩ rfl hi)
  refine g' [0] ((V0 hx7).ok) rfl rfl rfl rfl rfl rfl (I0.s hC rfl (n' (P' 1 rfl ?_)))
  rcases bp' hh with ⟨nn,hx8,⟨⟩⟩ | ⟨x8,hx8,hh⟩
  ·exact gn' [0] (L0 hx8) rfl rfl rfl rfl rfl (fun hi=>peW ⟨trivial,trivial⟩ rfl hi)
  cases hh
  exact g' [0] ((L0 hx8).ok) rfl rfl rfl rfl rfl rfl (n' (p' 1 rfl (I0.s hC rfl (e' rfl (re' (rt' rfl rfl rfl))))))
 obtain ⟨x9,hx9,hh⟩:=bs' hh
 refine p' 1 rfl (g' [0] (P0 hx9) rfl rfl rfl rfl rfl rfl (e' rfl (ci' rfl hh (fun hh=>?_) (fun hh=>?_))))
 ·refine p' 1 rfl ?_
  rcases bp' hh with ⟨nn,hx10,⟨⟩⟩ | ⟨x10,hx10,hh⟩
  ·exact gn' [0] (V0 hx10) rfl rfl rfl rfl rfl (fun hi=>peW ⟨trivial,trivial⟩ rfl hi)
  refine g' [0] ((V0 hx10).ok) rfl rfl rfl rfl rfl rfl (I0.s hC rfl (n' (P' 1 rfl ?_)))
  rcases bp' hh with ⟨nn,hx11,⟨⟩⟩ | ⟨x11,hx11,hh⟩
  ·exact gn' [0] (L0 hx11) rfl rfl rfl rfl rfl (fun hi=>peW ⟨trivial,trivial⟩ rfl hi)
  cases hh
  exact g' [0] ((L0 hx11).ok) rfl rfl rfl rfl rfl rfl (n' (p' 1 rfl (I0.s hC rfl (e' rfl (re' (rt' rfl rfl rfl))))))
 obtain ⟨x12,hx12,hh⟩:=bs' hh
 refine p' 1 rfl (g' [0] (P0 hx12) rfl rfl rfl rfl rfl rfl (e' rfl (ci' rfl hh (fun hh=>?_) (fun hh=>?_))))
 ·refine p' 1 rfl ?_
  rcases bp' hh with ⟨nn,hx13,⟨⟩⟩ | ⟨x13,hx13,hh⟩
  ·exact gn' [0] (V0 hx13) rfl rfl rfl rfl rfl (fun hi=>peW ⟨trivial,trivial⟩ rfl hi)
  refine g' [0] ((V0 hx13).ok) rfl rfl rfl rfl rfl rfl (I0.s hC rfl (n' (P' 1 rfl ?_)))
  rcases bp' hh with ⟨nn,hx14,⟨⟩⟩ | ⟨x14,hx14,hh⟩
  ·exact gn' [0] (L0 hx14) rfl rfl rfl rfl rfl (fun hi=>peW ⟨trivial,trivial⟩ rfl hi)
  cases hh
  exact g' [0] ((L0 hx14).ok) rfl rfl rfl rfl rfl rfl (n' (p' 1 rfl (I0.s hC rfl (e' rfl (re' (rt' rfl rfl rfl))))))
 obtain ⟨x15,hx15,hh⟩:=bs' hh
 refine p' 1 rfl (g' [0] (P0 hx15) rfl rfl rfl rfl rfl rfl (e' rfl (ci' rfl hh (fun hh=>?_) (fun hh=>?_))))
 ·refine P' 1 rfl ?_
  rcases bp' hh with ⟨nn,hx16,⟨⟩⟩ | ⟨x16,hx16,hh⟩
  ·exact gn' [0] (A2 hx16) rfl rfl rfl rfl rfl (fun hi=>peW ⟨trivial,trivial⟩ rfl hi)
  cases hh
  exact g' [0] ((A2 hx16).ok) rfl rfl rfl rfl rfl rfl (I0.s hC rfl (n' (p' 1 rfl (I0.s hC rfl (e' rfl (re' (rt' rfl rfl rfl)))))))
 obtain ⟨x17,hx17,hh⟩:=bs' hh
 refine p' 1 rfl (g' [0] (P0 hx17) rfl rfl rfl rfl rfl rfl (e' rfl (ci' rfl hh (fun hh=>?_) (fun hh=>?_))))
 ·refine p' 1 rfl ?_
  rcases bp' hh with ⟨nn,hx18,⟨⟩⟩ | ⟨x18,hx18,hh⟩
  ·exact gn' [0] (V0 hx18) rfl rfl rfl rfl rfl (fun hi=>peW ⟨trivial,trivial⟩ rfl hi)
  refine g' [0] ((V0 hx18).ok) rfl rfl rfl rfl rfl rfl (I0.s hC rfl (n' (p' 1 rfl ?_)))
  rcases bp' hh with ⟨nn,hx19,⟨⟩⟩ | ⟨x19,hx19,hh⟩
  ·exact gn' [0] (L0 hx19) rfl rfl rfl rfl rfl (fun hi=>peW ⟨trivial,trivial⟩ rfl hi)
  refine g' [0] ((L0 hx19).ok) rfl rfl rfl rfl rfl rfl (n' (p' 1 rfl ?_))
  rcases bp' hh with ⟨nn,hx20,⟨⟩⟩ | ⟨x20,hx20,hh⟩
  ·exact gn' [0] (S0 hx20) rfl rfl rfl rfl rfl (fun hi=>peW ⟨trivial,trivial⟩ rfl hi)
  refine g' [0] ((S0 hx20).ok) rfl rfl rfl rfl rfl rfl (q' rfl (I0.s hC rfl (n' (P' 1 rfl ?_))))
  rcases bp' hh with ⟨nn,hx21,⟨⟩⟩ | ⟨x21,hx21,hh⟩
  ·exact gn' [0] (L0 hx21) rfl rfl rfl rfl rfl (fun hi=>peW ⟨trivial,trivial⟩ rfl hi)
  cases hh
  exact g' [0] ((L0 hx21).ok) rfl rfl rfl rfl rfl rfl (n' (p' 1 rfl (I0.s hC rfl (e' rfl (re' (rt' rfl rfl rfl))))))
 obtain ⟨x22,hx22,hh⟩:=bs' hh
 refine p' 1 rfl (g' [0] (P0 hx22) rfl rfl rfl rfl rfl rfl (e' rfl (ci' rfl hh (fun hh=>?_) (fun hh=>?_))))
 ·refine P' 1 rfl ?_
  rcases bp' hh with ⟨nn,hx23,⟨⟩⟩ | ⟨x23,hx23,hh⟩
  ·exact gn' [0] (Yk hx23) rfl rfl rfl rfl rfl (fun hi=>peW ⟨trivial,trivial⟩ rfl hi)
  cases hh
  exact g' [0] ((Yk hx23).ok) rfl rfl rfl rfl rfl rfl (I0.s hC rfl (n' (p' 1 rfl (I0.s hC rfl (e' rfl (re' (rt' rfl rfl rfl)))))))
 refine p' 1 rfl (I0.s hC rfl (e' rfl (re' ?_)))
 obtain rfl:=oi' hh
 exact ⟨_,.tup [.agg [.d (.int .i64 0),.d (.str []),.d (.int .i64 0),.d (.int .i64 0),.d (.int .i64 0),.d (.int .i64 0),.d (.str []),.d (.sl (estr.rows [])),.d (.sl (F0.rows [])),.d (.int .i64 0),.d (.int .i64 0),.d (.int .i64 0),.d (.str []),.d (.sl (A0.rows [])),.d (.sl (D0.rows [])),.d (.sl (D0.rows [])),.d (.sl (E0.rows []))],.d (.bool false)],[.row (B0.cells x22.2) 99],rfl,(.tupL ⟨(.aggL ⟨.rfl,.rfl,.rfl,.rfl,.rfl,.rfl,.rfl,.full,.full,.rfl,.rfl,.rfl,.rfl,.full,.full,.full,.full,trivial⟩),.rfl,trivial⟩),⟨⟨rfl,.refl _,rfl⟩,trivial⟩,rfl,rfl,rpq rfl rfl⟩
def P5 (o0:B0)(o2_Decls:List D0):Option (Pn (Z0×B0)):=
 G5 o0>>=fun x1=>match x1 with
 | .pn nn=>
 some (.pn nn)
 | .ok x1=>
 if (!x1.2.1)=true then
  R0 [98,101,103,105,110] x1.2.2>>=fun x2=>match x2 with
  | .pn nn=>
  some (.pn nn)
  | .ok x2=>
  Y3 x2>>=fun x3=>match x3 with
  | .pn nn=>
  some (.pn nn)
  | .ok x3=>
  R0 [101,110,100] x3.2>>=fun x4=>match x4 with
  | .pn nn=>
  some (.pn nn)
  | .ok x4=>
  some (.ok ((Z0.mk o2_Decls x3.1),x4))
 else
  if (decide ((o2_Decls.length+1) * 257≤140737488355328))=true then
   P5 x1.2.2 (o2_Decls++[x1.1])
  else none
 partial_fixpoint
abbrev Jk (o0:B0)(o2_Decls:List D0)(res:Pn (Z0×B0)):Prop:=LMp C 27 1 Tryz.f46 [1,1,0,4] [(0,.ref 0 0),(2,.ref 1 0),(3,.ref 2 0)] [.row (B0.cells o0) 99,.row [.full (D0.rows []),.full (E0.rows [])] 49,.row [.osl 3 (D0.rows o2_Decls),.full (E0.rows [])] 49,.tok 128 17] (R4 res (fun rr=>[.row (B0.cells rr.2) 99]) (fun rr=>.agg (Z0.cells rr.1))) (M4 res I3 [.dead])
theorem Gq:(∀ o0 o2_Decls res,P5 o0 o2_Decls=some res→Jk o0 o2_Decls res):=by
 refine P5.partial_correctness _ ?_
 ·intro g0 ih0 o0 o2_Decls res hh
  refine C1.unroll (bk' (p' 1 rfl ?_))
  rcases bp' hh with ⟨nn,hx1,⟨⟩⟩ | ⟨x1,hx1,hh⟩
  ·exact gn' [0] (Ri hx1) rfl rfl rfl rfl rfl (fun hi=>peW ⟨trivial,trivial⟩ rfl hi)
  refine g' [0] ((Ri hx1).ok) rfl rfl rfl rfl rfl rfl (o' 3 rfl (I0.nf hC rfl (I0.s hC rfl (e' rfl (S' (t' rfl (ci' rfl hh (fun hh=>?_) (fun hh=>?_))))))))
  ·refine ex' (p' 1 rfl ?_)
   rcases bp' hh with ⟨nn,hx2,⟨⟩⟩ | ⟨x2,hx2,hh⟩
   ·exact gn' [0] (L0 hx2) rfl rfl rfl rfl rfl (fun hi=>peW ⟨trivial,trivial⟩ rfl hi)
   refine g' [0] ((L0 hx2).ok) rfl rfl rfl rfl rfl rfl (n' (p' 1 rfl ?_))
   rcases bp' hh with ⟨nn,hx3,⟨⟩⟩ | ⟨x3,hx3,hh⟩
   ·exact gn' [0] (Q9 hx3) rfl rfl rfl rfl rfl (fun hi=>peW ⟨trivial,trivial⟩ rfl hi)
   refine g' [0] ((Q9 hx3).ok) rfl rfl rfl rfl rfl rfl (q' rfl (I0.s hC rfl (n' (p' 1 rfl ?_))))
   rcases bp' hh with ⟨nn,hx4,⟨⟩⟩ | ⟨x4,hx4,hh⟩
   ·exact gn' [0] (L0 hx4) rfl rfl rfl rfl rfl (fun hi=>peW ⟨trivial,trivial⟩ rfl hi)
   refine g' [0] ((L0 hx4).ok) rfl rfl rfl rfl rfl rfl (n' (p' 1 rfl (I0.s hC rfl (n' (re' ?_)))))
   obtain rfl:=oi' hh
   exact ⟨_,.agg [.d (.sl (D0.rows o2_Decls)),.d (.sl (E0.rows x3.1))],[.row (B0.cells x4) 99],rfl,(.aggL ⟨.osl,.rfl,trivial⟩),⟨⟨rfl,.refl _,rfl⟩,trivial⟩,rfl,rfl,rpq rfl rfl⟩
  obtain ⟨c6,hh⟩:=J6 hh
  exact sk' (P' 3 rfl (I0.be hC rfl (D0.rows_map [x1.1]).symm (I0.ap hC rfl (rs:=D0.rows (o2_Decls++[x1.1])) (D0.app o2_Decls [x1.1]) (D0.sz o2_Decls) (D0.sz [x1.1]) (Q1 (D0.len o2_Decls) (D0.len [x1.1]) c6) (q' rfl (I0.s hC rfl (n' (lw' (ih0 _ _ _ hh) rfl rfl rfl)))))))
theorem Ds {o0 o2_Decls res}(hh:P5 o0 o2_Decls=some res):Jk o0 o2_Decls res:=(Gq) _ _ _ hh
def T4 (parserParser:B0):Option (Pn (Z0×B0)):=
 P5 parserParser []
theorem Pl {parserParser res}(hh:T4 parserParser=some res):C2 C 46 [.ref 0 0] [.row (B0.cells parserParser) 99] (R4 res (fun rr=>[.row (B0.cells rr.2) 99]) (fun rr=>.agg (Z0.cells rr.1))) (M4 res I3 [.dead]):=by
 unfold T4 at hh
 exact C2.intro hC Tryz.func46 rfl rfl rfl (s' rfl rfl (I0.nf hC rfl (n' (s' rfl rfl (I0.nf hC rfl (I0.tokC 2 0 128 17 rfl rfl rfl rfl rfl (n' (S' (bk' (fw' (Ds hh) rfl rfl rfl))))))))))
def Si (parserParser:B0)(apiProgram:Z0):Option (Pn (B0×Z0)):=
 T4 parserParser>>=fun x1=>match x1 with
 | .pn nn=>
 some (.pn nn)
 | .ok x1=>
 some (.ok (x1.2,x1.1))
theorem Jt {parserParser apiProgram res}(hh:Si parserParser apiProgram=some res):C2 C 45 [.ref 0 0,.ref 1 0] [.row (B0.cells parserParser) 99,.row [.full (D0.rows apiProgram.Decls),.full (E0.rows apiProgram.Body)] 49] (R4 res (fun rr=>[.row (B0.cells rr.1) 99,.row (Z0.cells rr.2) 49]) (fun rr=>.tup [])) (M4 res I3 [.dead,.row [.full (D0.rows apiProgram.Decls),.full (E0.rows apiProgram.Body)] 49]):=by
 unfold Si at hh
 refine C2.intro hC Tryz.func45 rfl rfl rfl (P' 1 rfl ?_)
 rcases bp' hh with ⟨nn,hx1,⟨⟩⟩ | ⟨x1,hx1,hh⟩
 ·exact gn' [0] (Pl hx1) rfl rfl rfl rfl rfl (fun hi=>peW ⟨trivial,⟨rfl,.refl _,rfl⟩,trivial⟩ rfl hi)
 cases hh
 exact g' [0] ((Pl hx1).ok) rfl rfl rfl rfl rfl rfl (I0.s hC rfl (n' (rn' rfl rfl rfl)))
def Ti (text:Str)(apiProgram:Z0):Option (Int×Int×Z0):=
 Ij text>>=fun x1=>
 if (x1.2.2 != 0)=true then
  some (x1.2.1,x1.2.2,apiProgram)
 else
  Si (B0.mk x1.1 0 ((text).length:Int)) apiProgram>>=fun x2=>match x2 with
  | .pn nn=>
  some (nn,6,apiProgram)
  | .ok x2=>
  if (decide (x2.1.next < ((x2.1.tokens).length:Int)))=true then
   I5 x2.1>>=fun x3=>match x3 with
   | .pn nn=>
   some (nn,6,x2.2)
   | .ok x3=>
   some (0,0,x2.2)
  else
   some (0,0,x2.2)
theorem G13 {text apiProgram res}(hh:Ti text apiProgram=some res):X0 C 28 [.d (.str text),.clo 45 [.ref 0 0]] [.row [.full (D0.rows apiProgram.Decls),.full (E0.rows apiProgram.Body)] 49] (Ret [.row (Z0.cells res.2.2) 49] (.tup [.d (.int .i64 res.1),.d (.int .i64 res.2.1)])):=by
 unfold Ti at hh
 obtain ⟨x1,hx1,hh⟩:=bs' hh
 refine X0.introD hC Tryz.func28 rfl rfl rfl (s' rfl rfl (I0.n hC rfl (I0.n hC rfl (n' (p' 1 rfl (c' (O11 hx1) rfl rfl (o' 5 rfl (I0.s hC rfl (I0.s hC rfl (n' (S' (t' rfl (ci' rfl hh (fun hh=>?_) (fun hh=>?_))))))))))))))
 ·refine S' (AEx.drawL hC 3 [2] [] [[.row [.full (D0.rows apiProgram.Decls),.full (E0.rows apiProgram.Body)] 49,.row [.d (.int .i64 x1.2.1)] 3,.row [.d (.int .i64 x1.2.2)] 27],[.row [.full (D0.rows apiProgram.Decls),.full (E0.rows apiProgram.Body)] 49,.row [.d (.int .i64 x1.2.1)] 3,.row [.d (.int .i64 x1.2.2)] 27]] rfl rfl rfl rfl rfl rfl rfl rfl rfl rfl (AS.q hC rfl rfl rfl rfl ?_))
  refine AS.q hC rfl rfl rfl rfl (AS.s hC rfl rfl rfl rfl rfl rfl rfl (AS.nil (I0.s hC rfl (n' (re' ?_)))))
  obtain rfl:=oi' hh
  exact ⟨_,_,[.row (Z0.cells apiProgram) 49],rfl,.rfl,⟨⟨rfl,⟨.full,.full,trivial⟩,rfl⟩,trivial⟩,rfl,rfl,rfl,rfl⟩
 refine sk' (AEx.dfr hC W15 S18 rfl rfl rfl rfl rfl rfl fun _=>(p' 4 rfl (I0.n hC rfl (e' rfl (p' 2 rfl ?_)))))
 rcases bp' hh with ⟨nn,hx2,hh⟩ | ⟨x2,hx2,hh⟩
 ·obtain rfl:=oi' hh
  exact gn' [3,0] (Jt hx2) rfl rfl rfl rfl rfl (fun hi=>dfk hi rfl rfl rfl (⟨_,_,[.row (Z0.cells apiProgram) 49],rfl,.rfl,⟨⟨rfl,⟨.full,.full,trivial⟩,rfl⟩,trivial⟩,rfl,rfl,rfl,rfl⟩))
 refine g' [3,0] ((Jt hx2).ok) rfl rfl rfl rfl rfl rfl (n' (S' (S' (AEx.draw hC 10 rfl rfl rfl (O' 8 rfl (AQ.qe hC rfl trivial (K0.lenA _) (E' rfl (n' (ci' rfl hh (fun hh=>?_) (fun hh=>?_))))))))))
 ·refine P' 1 rfl ?_
  rcases bp' hh with ⟨nn,hx3,hh⟩ | ⟨x3,hx3,hh⟩
  ·cases hh
   exact gn' [3] (S5 hx3) rfl rfl rfl rfl rfl (fun hi=>dfk hi rfl rfl rfl (rt' rfl rfl rfl))
  cases hh
  exact g' [3] ((S5 hx3).ok) rfl rfl rfl rfl rfl rfl (n' (s' rfl rfl (I0.s hC rfl (I0.s hC rfl (n' (re' (rt' rfl rfl rfl)))))))
 cases hh
 exact sk' (s' rfl rfl (I0.s hC rfl (I0.s hC rfl (n' (re' (rt' rfl rfl rfl))))))
def Zk (k:Int):Option (Bool×Bool):=
 some ((bif (decide (k≥0)) then (decide (k≤6)) else false),(bif (k == 5) then true else (k == 6)))
theorem Y11 {k res}(hh:Zk k=some res):X0 C 175 [.d (.int .i64 k)] [] (Ret [] (.tup [.d (.bool res.1),.d (.bool res.2)])):=by
 unfold Zk at hh
 cases hh
 exact X0.intro hC Tryz.func175 rfl rfl rfl (t' rfl (sg' 14 rfl (G' 4 rfl (a1' rfl (pa' rfl (G' 4 rfl (a1' rfl (po' rfl (G' 2 rfl (an' (n' (re' (rt' rfl rfl rfl)))))))))))))
def L3 (s1:List Str)(s2:List Str)(v13:Int):Option Bool:=
 if (decide (v13 < ((s1).length:Int)))=true then
  idx s1 v13>>=fun x1=>
  idx s2 v13>>=fun x2=>
  if (!(x1 == x2))=true then
   some false
  else
   L3 s1 s2 (IntKind.i64.wrap (v13+1))
 else
  some true
 partial_fixpoint
abbrev Mg (s1:List Str)(s2:List Str)(v13:Int)(res:Bool):Prop:=LM C 26 0 Tryz.f196 [1,1,0,1,4] [(0,.d (.sl (estr.rows s1))),(1,.d (.sl (estr.rows s2))),(12,.d (.int .i64 ((s1).length:Int))),(13,.d (.int .i64 v13))] [] (Ret [] (.d (.bool res)))
theorem Xm (s1:List Str)(s2:List Str):(∀ v13 res,L3 s1 s2 v13=some res→Mg s1 s2 v13 res):=by
 refine L3.partial_correctness s1 s2 _ ?_
 ·intro g0 ih0 v13 res hh
  refine C1.unroll (t' rfl (S' (ci' rfl hh (fun hh=>?_) (fun hh=>?_))))
  ·obtain ⟨x1,hx1,hh⟩:=bs' hh
   obtain ⟨x2,hx2,hh⟩:=bs' hh
   refine sk' (S' (bk' (t' rfl (S' (AEx.draw hC 9 rfl rfl rfl (O' 2 rfl (AQ.i hC rfl (J2 hx1) (estr.idx hx1) rfl (O' 3 rfl (AQ.i hC rfl (J2 hx2) (estr.idx hx2) rfl (E' rfl (n' (ci' rfl hh (fun hh=>?_) (fun hh=>?_)))))))))))))
   ·cases hh
    exact t' rfl (re' (rt' rfl rfl rfl))
   exact sk' (T' rfl (lw' (ih0 _ _ hh) rfl rfl rfl))
  cases hh
  exact ex' (t' rfl (re' (rt' rfl rfl rfl)))
theorem Mn {s1 s2 v13 res}(hh:L3 s1 s2 v13=some res):Mg s1 s2 v13 res:=(Xm s1 s2) _ _ hh
def J7 (s1:List Str)(s2:List Str):Option Bool:=
 if (((s1).length:Int) != ((s2).length:Int))=true then
  some false
 else
  L3 s1 s2 0
theorem Jp {s1 s2 res}(hh:J7 s1 s2=some res):X0 C 196 [.d (.sl (estr.rows s1)),.d (.sl (estr.rows s2))] [] (Ret [] (.d (.bool res))):=by
 unfold J7 at hh
 refine X0.intro hC Tryz.func196 rfl rfl rfl (t' rfl (S' (p' 1 rfl (qe' rfl trivial (estr.lenA _) (q' rfl (qe' rfl trivial (estr.lenA _) (e' rfl (ci' rfl hh (fun hh=>?_) (fun hh=>?_)))))))))
 ·cases hh
  exact t' rfl (re' (rt' rfl rfl rfl))
 exact sk' (S' (p' 1 rfl (qe' rfl trivial (estr.lenA _) (e' rfl (bk' (fw' (Mn hh) rfl rfl rfl))))))
mutual
def S8 (a:F0)(b:F0):Option Bool:=
 (if (bif (bif (bif (bif (a.Kind == b.Kind) then (a.Low == b.Low) else false) then (a.High == b.High) else false) then (a.Size == b.Size) else false) then (a.Name == b.Name) else false)=true then J7 a.Names b.Names else some default)>>=fun x1=>
 (if (bif (bif (bif (bif (bif (a.Kind == b.Kind) then (a.Low == b.Low) else false) then (a.High == b.High) else false) then (a.Size == b.Size) else false) then (a.Name == b.Name) else false) then x1 else false)=true then O3 a.Of b.Of else some default)>>=fun x2=>
 some (bif (bif (bif (bif (bif (bif (a.Kind == b.Kind) then (a.Low == b.Low) else false) then (a.High == b.High) else false) then (a.Size == b.Size) else false) then (a.Name == b.Name) else false) then x1 else false) then x2 else false)
 partial_fixpoint
def O3 (s1:List F0)(s2:List F0):Option Bool:=
 if (((s1).length:Int) != ((s2).length:Int))=true then
  some false
 else
  Y1 s1 s2 0
 partial_fixpoint
def Y1 (s1:List F0)(s2:List F0)(v17:Int):Option Bool:=
 if (decide (v17 < ((s1).length:Int)))=true then
  idx s1 v17>>=fun x1=>
  idx s2 v17>>=fun x2=>
  S8 x1 x2>>=fun x3=>
  if (!x3)=true then
   some false
  else
   Y1 s1 s2 (IntKind.i64.wrap (v17+1))
 else
  some true
 partial_fixpoint
end
abbrev Es (a:F0)(b:F0)(res:Bool):Prop:=X0 C 176 [.agg (F0.cells a),.agg (F0.cells b)] [] (Ret [] (.d (.bool res)))
abbrev Ld (s1:List F0)(s2:List F0)(res:Bool):Prop:=X0 C 197 [.d (.sl (F0.rows s1)),.d (.sl (F0.rows s2)),.clo 176 []] [] (Ret [] (.d (.bool res)))
abbrev Ic (s1:List F0)(s2:List F0)(v17:Int)(res:Bool):Prop:=LM C 32 0 Tryz.f197 [1,1,0,1,4] [(1,.d (.sl (F0.rows s2))),(2,.clo 176 []),(15,.d (.sl (F0.rows s1))),(16,.d (.int .i64 ((s1).length:Int))),(17,.d (.int .i64 v17))] [] (Ret [] (.d (.bool res)))
theorem Hz:(∀ a b res,S8 a b=some res→Es a b res)∧(∀ s1 s2 res,O3 s1 s2=some res→Ld s1 s2 res)∧(∀ s1 s2 v17 res,Y1 s1 s2 v17=some res→Ic s1 s2 v17 res):=by
 refine S8.mutual_partial_correctness _ _ _ ?_ ?_ ?_
 ·intro g1 ih1 a b res hh
  obtain ⟨x1,hx1,hh⟩:=bs' hh
  obtain ⟨x2,hx2,hh⟩:=bs' hh
  cases hh
  refine X0.intro hC Tryz.func176 rfl rfl rfl (s' rfl rfl (I0.n hC rfl (I0.n hC rfl (e' rfl (sg' 48 rfl (G' 7 rfl (a1' rfl (a0' rfl (a1' rfl (a2' rfl (pa' rfl (G' 2 rfl (a1' rfl ?_)))))))))))))
  refine a0' rfl (a1' rfl (a2' rfl (pa' rfl (G' 2 rfl (a1' rfl (a0' rfl (a1' rfl (a2' rfl (pa' rfl (G' 2 rfl (a1' rfl (a0' rfl (a1' rfl ?_)))))))))))))
  refine a2' rfl (pa' rfl (G' 2 rfl (a1' rfl (a0' rfl (a1' rfl (AG.c rfl rfl (fun hg=>⟨hg,hg,trivial⟩) (fun hw=>Jp (U5 hw hx1)) (pa' rfl (G' 2 rfl (a1' rfl (a0' rfl (a1' rfl (AG.c rfl rfl (fun hg=>⟨hg,hg,trivial⟩) (fun hw=>ih1 _ _ _ (U5 hw hx2)) (pa' rfl ?_)))))))))))))
  exact a0' rfl (an' (n' (re' (rt' rfl rfl rfl))))
 ·intro g2 ih2 s1 s2 res hh
  refine X0.intro hC Tryz.func197 rfl rfl rfl (t' rfl (S' (p' 1 rfl (qe' rfl trivial (F0.lenA _) (q' rfl (qe' rfl trivial (F0.lenA _) (e' rfl (ci' rfl hh (fun hh=>?_) (fun hh=>?_)))))))))
  ·cases hh
   exact t' rfl (re' (rt' rfl rfl rfl))
  exact sk' (S' (p' 1 rfl (qe' rfl trivial (F0.lenA _) (e' rfl (bk' (fw' (ih2 _ _ _ _ hh) rfl rfl rfl))))))
 ·intro g0 g2 ih0 ih2 s1 s2 v17 res hh
  refine C1.unroll (t' rfl (S' (ci' rfl hh (fun hh=>?_) (fun hh=>?_))))
  ·obtain ⟨x1,hx1,hh⟩:=bs' hh
   obtain ⟨x2,hx2,hh⟩:=bs' hh
   obtain ⟨x3,hx3,hh⟩:=bs' hh
   refine sk' (S' (bk' (p' 1 rfl (i' rfl (J2 hx1) (F0.idx hx1) rfl (q' rfl (I0.nf hC rfl (q' rfl (I0.s hC rfl (n' (p' 2 rfl (i' rfl (J2 hx2) (F0.idx hx2) rfl (q' rfl (I0.nf hC rfl ?_)))))))))))))
   refine I0.s hC rfl (n' (p' 3 rfl (c' (ih0 _ _ _ hx3) rfl rfl (e' rfl (ci' rfl hh (fun hh=>?_) (fun hh=>?_))))))
   ·cases hh
    exact t' rfl (re' (rt' rfl rfl rfl))
   exact sk' (T' rfl (lw' (ih2 _ _ _ _ hh) rfl rfl rfl))
  cases hh
  exact ex' (t' rfl (re' (rt' rfl rfl rfl)))
theorem P10 {a b res}(hh:S8 a b=some res):Es a b res:=(Hz).1 _ _ _ hh
mutual
def H7 (a:A0)(b:A0):Option Bool:=
 (if (bif (bif (a.Op == b.Op) then (a.NV == b.NV) else false) then (a.Name == b.Name) else false)=true then P3 a.Kids b.Kids else some default)>>=fun x1=>
 some (bif (bif (bif (a.Op == b.Op) then (a.NV == b.NV) else false) then (a.Name == b.Name) else false) then x1 else false)
 partial_fixpoint
def P3 (s1:List A0)(s2:List A0):Option Bool:=
 if (((s1).length:Int) != ((s2).length:Int))=true then
  some false
 else
  Z1 s1 s2 0
 partial_fixpoint
def Z1 (s1:List A0)(s2:List A0)(v17:Int):Option Bool:=
 if (decide (v17 < ((s1).length:Int)))=true then
  idx s1 v17>>=fun x1=>
  idx s2 v17>>=fun x2=>
  H7 x1 x2>>=fun x3=>
  if (!x3)=true then
   some false
  else
   Z1 s1 s2 (IntKind.i64.wrap (v17+1))
 else
  some true
 partial_fixpoint
end
abbrev Fs (a:A0)(b:A0)(res:Bool):Prop:=X0 C 198 [.agg (A0.cells a),.agg (A0.cells b)] [] (Ret [] (.d (.bool res)))
abbrev Md (s1:List A0)(s2:List A0)(res:Bool):Prop:=X0 C 211 [.d (.sl (A0.rows s1)),.d (.sl (A0.rows s2)),.clo 198 []] [] (Ret [] (.d (.bool res)))
abbrev Jc (s1:List A0)(s2:List A0)(v17:Int)(res:Bool):Prop:=LM C 32 0 Tryz.f211 [1,1,0,1,4] [(1,.d (.sl (A0.rows s2))),(2,.clo 198 []),(15,.d (.sl (A0.rows s1))),(16,.d (.int .i64 ((s1).length:Int))),(17,.d (.int .i64 v17))] [] (Ret [] (.d (.bool res)))
theorem Iz:(∀ a b res,H7 a b=some res→Fs a b res)∧(∀ s1 s2 res,P3 s1 s2=some res→Md s1 s2 res)∧(∀ s1 s2 v17 res,Z1 s1 s2 v17=some res→Jc s1 s2 v17 res):=by
 refine H7.mutual_partial_correctness _ _ _ ?_ ?_ ?_
 ·intro g1 ih1 a b res hh
  obtain ⟨x1,hx1,hh⟩:=bs' hh
  cases hh
  refine X0.intro hC Tryz.func198 rfl rfl rfl (s' rfl rfl (I0.n hC rfl (I0.n hC rfl (e' rfl (sg' 27 rfl (G' 7 rfl (a1' rfl (a0' rfl (a1' rfl (a2' rfl (pa' rfl (G' 2 rfl (a1' rfl ?_)))))))))))))
  exact a0' rfl (a1' rfl (a2' rfl (pa' rfl (G' 2 rfl (a1' rfl (a0' rfl (a1' rfl (AG.c rfl rfl (fun hg=>⟨hg,hg,trivial⟩) (fun hw=>ih1 _ _ _ (U5 hw hx1)) (pa' rfl (a0' rfl (an' (n' (re' (rt' rfl rfl rfl))))))))))))))
 ·intro g2 ih2 s1 s2 res hh
  refine X0.intro hC Tryz.func211 rfl rfl rfl (t' rfl (S' (p' 1 rfl (qe' rfl trivial (A0.lenA _) (q' rfl (qe' rfl trivial (A0.lenA _) (e' rfl (ci' rfl hh (fun hh=>?_) (fun hh=>?_)))))))))
  ·cases hh
   exact t' rfl (re' (rt' rfl rfl rfl))
  exact sk' (S' (p' 1 rfl (qe' rfl trivial (A0.lenA _) (e' rfl (bk' (fw' (ih2 _ _ _ _ hh) rfl rfl rfl))))))
 ·intro g0 g2 ih0 ih2 s1 s2 v17 res hh
  refine C1.unroll (t' rfl (S' (ci' rfl hh (fun hh=>?_) (fun hh=>?_))))
  ·obtain ⟨x1,hx1,hh⟩:=bs' hh
   obtain ⟨x2,hx2,hh⟩:=bs' hh
   obtain ⟨x3,hx3,hh⟩:=bs' hh
   refine sk' (S' (bk' (p' 1 rfl (i' rfl (J2 hx1) (A0.idx hx1) rfl (q' rfl (I0.nf hC rfl (q' rfl (I0.s hC rfl (n' (p' 2 rfl (i' rfl (J2 hx2) (A0.idx hx2) rfl (q' rfl (I0.nf hC rfl ?_)))))))))))))
   refine I0.s hC rfl (n' (p' 3 rfl (c' (ih0 _ _ _ hx3) rfl rfl (e' rfl (ci' rfl hh (fun hh=>?_) (fun hh=>?_))))))
   ·cases hh
    exact t' rfl (re' (rt' rfl rfl rfl))
   exact sk' (T' rfl (lw' (ih2 _ _ _ _ hh) rfl rfl rfl))
  cases hh
  exact ex' (t' rfl (re' (rt' rfl rfl rfl)))
theorem Q10 {a b res}(hh:H7 a b=some res):Fs a b res:=(Iz).1 _ _ _ hh
def J4 (e:A0)(used:Bool)(syntaxReport:J0):Option J0:=
 (if (!used)=true then H7 e (A0.mk 0 0 [] []) else some default)>>=fun x1=>
 if (bif (!used) then x1 else false)=true then
  some syntaxReport
 else
  W0 used syntaxReport>>=fun x2=>
  Z2 e 1 x2>>=fun x3=>
  some x3
theorem Te {e used syntaxReport res}(hh:J4 e used syntaxReport=some res):X0 C 177 [.ref 0 0,.agg (A0.cells e),.d (.bool used)] [.row (J0.cells syntaxReport) 103] (Ret [.row (J0.cells res) 103] (.tup [])):=by
 unfold J4 at hh
 obtain ⟨x1,hx1,hh⟩:=bs' hh
 refine X0.intro hC Tryz.func177 rfl rfl rfl (s' rfl rfl (I0.n hC rfl (n' (S' (sg' 7 rfl (G' 5 rfl (AG.c rfl rfl (fun hg=>⟨hg,hg,trivial⟩) (fun hw=>Q10 (U5 hw hx1)) (pa' rfl (an' (n' (ci' rfl hh (fun hh=>?_) (fun hh=>?_))))))))))))
 ·cases hh
  exact re' (rt' rfl rfl rfl)
 obtain ⟨x2,hx2,hh⟩:=bs' hh
 obtain ⟨x3,hx3,hh⟩:=bs' hh
 cases hh
 exact sk' (p' 2 rfl (g' [0] (E1 hx2) rfl rfl rfl rfl rfl rfl (n' (P' 2 rfl (g' [0] (Li hx3) rfl rfl rfl rfl rfl rfl (n' (rn' rfl rfl rfl)))))))
def Xf (v:Int):Option (Y2×Bool):=
 if (v == 0)=true then
  some ((Y2.mk true true false false false false false false false),true)
 else
  if (v == 1)=true then
   some ((Y2.mk true false true true false false false false false),true)
  else
   if (v == 2)=true then
    some ((Y2.mk true false true false false false false false false),true)
   else
    if (v == 3)=true then
     some ((Y2.mk false true false false false false false false false),true)
    else
     if (v == 4)=true then
      some ((Y2.mk false false false false true false false false false),true)
     else
      if (v == 5)=true then
       some ((Y2.mk false true false false false false false true true),true)
      else
       if (v == 6)=true then
        some ((Y2.mk false true false false true false false true false),true)
       else
        if (v == 7)=true then
         some ((Y2.mk false false true false false true false true false),true)
        else
         if (v == 8)=true then
          some ((Y2.mk false false false false false false true false false),true)
         else
          some ((Y2.mk false false false false false false false false false),false)
theorem R10 {v res}(hh:Xf v=some res):X0 C 178 [.d (.int .i64 v)] [] (Ret [] (.tup [.agg (Y2.cells res.1),.d (.bool res.2)])):=by
 unfold Xf at hh
 refine X0.intro hC Tryz.func178 rfl rfl rfl (s' rfl rfl (I0.n hC rfl (e' rfl (S' (t' rfl (bk' (t' rfl (ci' rfl hh (fun hh=>?_) (fun hh=>?_)))))))))
 ·cases hh
  exact p' 1 rfl (I0.s hC rfl (e' rfl (re' (rt' rfl rfl rfl))))
 refine t' rfl (ci' rfl hh (fun hh=>?_) (fun hh=>?_))
 ·cases hh
  exact p' 1 rfl (I0.s hC rfl (e' rfl (re' (rt' rfl rfl rfl))))
 refine t' rfl (ci' rfl hh (fun hh=>?_) (fun hh=>?_))
 ·cases hh
  exact p' 1 rfl (I0.s hC rfl (e' rfl (re' (rt' rfl rfl rfl))))
 refine t' rfl (ci' rfl hh (fun hh=>?_) (fun hh=>?_))
 ·cases hh
  exact p' 1 rfl (I0.s hC rfl (e' rfl (re' (rt' rfl rfl rfl))))
 refine t' rfl (ci' rfl hh (fun hh=>?_) (fun hh=>?_))
 ·cases hh
  exact p' 1 rfl (I0.s hC rfl (e' rfl (re' (rt' rfl rfl rfl))))
 refine t' rfl (ci' rfl hh (fun hh=>?_) (fun hh=>?_))
 ·cases hh
  exact p' 1 rfl (I0.s hC rfl (e' rfl (re' (rt' rfl rfl rfl))))
 refine t' rfl (ci' rfl hh (fun hh=>?_) (fun hh=>?_))
 ·cases hh
  exact p' 1 rfl (I0.s hC rfl (e' rfl (re' (rt' rfl rfl rfl))))
 refine t' rfl (ci' rfl hh (fun hh=>?_) (fun hh=>?_))
 ·cases hh
  exact p' 1 rfl (I0.s hC rfl (e' rfl (re' (rt' rfl rfl rfl))))
 refine t' rfl (ci' rfl hh (fun hh=>?_) (fun hh=>?_))
 ·cases hh
  exact p' 1 rfl (I0.s hC rfl (e' rfl (re' (rt' rfl rfl rfl))))
 cases hh
 exact sk' (p' 1 rfl (I0.s hC rfl (e' rfl (re' (rt' rfl rfl rfl)))))
def O4 (s:E0)(o0:J0)(last:Int)(v58:Int):Option J0:=
 if (decide (v58 < ((s.Numbers).length:Int)))=true then
  idx s.Numbers v58>>=fun x10=>
  V3 x10 0 1048576>>=fun x11=>
  E2 (bif x11 then (decide (x10 > last)) else false) o0>>=fun x12=>
  O4 s x12 x10 (IntKind.i64.wrap (v58+1))
 else
  some o0
 partial_fixpoint
abbrev Kk (s:E0)(o0:J0)(last:Int)(v58:Int)(res:J0):Prop:=LM C 73 1 Tryz.f179 [1,1,4,1,3,1,3,1,3,1,2,1,1,1,4] [(0,.ref 0 0),(5,.d (.int .i64 last)),(56,.d (.sl (ei64.rows s.Numbers))),(57,.d (.int .i64 ((s.Numbers).length:Int))),(58,.d (.int .i64 v58))] [.row (J0.cells o0) 103] (Ret [.row (J0.cells res) 103] (.tup []))
theorem Hq (s:E0):(∀ o0 last v58 res,O4 s o0 last v58=some res→Kk s o0 last v58 res):=by
 refine O4.partial_correctness s _ ?_
 ·intro g0 ih0 o0 last v58 res hh
  refine C1.unroll (t' rfl (S' (ci' rfl hh (fun hh=>?_) (fun hh=>?_))))
  ·obtain ⟨x10,hx10,hh⟩:=bs' hh
   obtain ⟨x11,hx11,hh⟩:=bs' hh
   obtain ⟨x12,hx12,hh⟩:=bs' hh
   refine sk' (S' (bk' (s' rfl rfl (i' rfl (J2 hx10) (ei64.idx hx10) rfl (e' rfl (sg' 8 rfl (G' 2 rfl (AG.c rfl rfl (fun _=>trivial) (fun _=>V4 hx11) (G' 3 rfl (a2' rfl (pa' rfl (an' (g' [0] (T3 hx12) rfl rfl rfl rfl rfl rfl ?_)))))))))))))
   exact n' (T' rfl (T' rfl (lw' (ih0 _ _ _ _ hh) rfl rfl rfl)))
  cases hh
  exact ex' (rn' rfl rfl rfl)
theorem Gs {s o0 last v58 res}(hh:O4 s o0 last v58=some res):Kk s o0 last v58 res:=(Hq s) _ _ _ _ hh
def G8 (s:E0)(syntaxReport:J0):Option J0:=
 if (s.Verb == 4)=true then
  V3 s.NV 0 1048576>>=fun x1=>
  E2 x1 syntaxReport>>=fun x2=>
  some x2
 else
  if (s.Verb == 6)=true then
   V3 s.NV 0 4096>>=fun x3=>
   E2 x3 syntaxReport>>=fun x4=>
   some x4
  else
   if (s.Verb == 7)=true then
    V3 s.Low (-1048576) 1048576>>=fun x5=>
    (if x5=true then V3 s.High s.Low 1048576 else some default)>>=fun x6=>
    E2 (bif (bif x5 then x6 else false) then (decide ((IntKind.i64.wrap (s.High - s.Low)) < 4096)) else false) syntaxReport>>=fun x7=>
    some x7
   else
    if (s.Verb == 8)=true then
     V3 ((s.Numbers).length:Int) 1 32>>=fun x8=>
     E2 x8 syntaxReport>>=fun x9=>
     O4 s x9 (-1) 0
    else
     some syntaxReport
theorem Pu {s syntaxReport res}(hh:G8 s syntaxReport=some res):X0 C 179 [.ref 0 0,.agg (E0.cells s)] [.row (J0.cells syntaxReport) 103] (Ret [.row (J0.cells res) 103] (.tup [])):=by
 unfold G8 at hh
 refine X0.intro hC Tryz.func179 rfl rfl rfl (s' rfl rfl (I0.n hC rfl (n' (t' rfl (bk' (t' rfl (ci' rfl hh (fun hh=>?_) (fun hh=>?_))))))))
 ·obtain ⟨x1,hx1,hh⟩:=bs' hh
  obtain ⟨x2,hx2,hh⟩:=bs' hh
  cases hh
  exact P' 3 rfl (c' (V4 hx1) rfl rfl (g' [0] (T3 hx2) rfl rfl rfl rfl rfl rfl (n' (rn' rfl rfl rfl))))
 refine t' rfl (ci' rfl hh (fun hh=>?_) (fun hh=>?_))
 ·obtain ⟨x3,hx3,hh⟩:=bs' hh
  obtain ⟨x4,hx4,hh⟩:=bs' hh
  cases hh
  exact P' 3 rfl (c' (V4 hx3) rfl rfl (g' [0] (T3 hx4) rfl rfl rfl rfl rfl rfl (n' (rn' rfl rfl rfl))))
 refine t' rfl (ci' rfl hh (fun hh=>?_) (fun hh=>?_))
 ·obtain ⟨x5,hx5,hh⟩:=bs' hh
  obtain ⟨x6,hx6,hh⟩:=bs' hh
  obtain ⟨x7,hx7,hh⟩:=bs' hh
  cases hh
  refine sg' 11 rfl (G' 2 rfl (AG.c rfl rfl (fun _=>trivial) (fun _=>V4 hx5) (G' 2 rfl (a1' rfl (a0' rfl (a1' rfl (AG.c rfl rfl (fun hg=>⟨hg,hg,trivial⟩) (fun hw=>V4 (U5 hw hx6)) (pa' rfl (a0' rfl (an' (n' (AEx.regionG 10 rfl (G' 4 rfl ?_)))))))))))))
  exact a1' rfl (a0' rfl (a1' rfl (a2' rfl (a1' rfl (pa' rfl (an' (g' [0] (T3 hx7) rfl rfl rfl rfl rfl rfl (n' (rn' rfl rfl rfl)))))))))
 refine t' rfl (ci' rfl hh (fun hh=>?_) (fun hh=>?_))
 ·obtain ⟨x8,hx8,hh⟩:=bs' hh
  obtain ⟨x9,hx9,hh⟩:=bs' hh
  exact p' 3 rfl (qe' rfl trivial (ei64.lenA _) (c' (V4 hx8) rfl rfl (g' [0] (T3 hx9) rfl rfl rfl rfl rfl rfl (n' (t' rfl (p' 2 rfl (qe' rfl trivial (ei64.lenA _) (e' rfl (bk' (fw' (Gs hh) rfl rfl rfl))))))))))
 cases hh
 exact sk' (rn' rfl rfl rfl)
mutual
def F4 (l:List E0)(nesting:Int)(syntaxReport:J0):Option J0:=
 H6 l nesting syntaxReport 0
 partial_fixpoint
def H6 (l:List E0)(nesting:Int)(o03:J0)(v14:Int):Option J0:=
 if (decide (v14 < ((l).length:Int)))=true then
  idx l v14>>=fun x1=>
  A6 nesting (J0.mk (IntKind.i64.wrap (o03.nodes+1)) o03.depth o03.badForm o03.badName o03.badNumber)>>=fun x2=>
  Xf x1.Verb>>=fun x3=>
  W0 x3.2 x2>>=fun x4=>
  J4 x1.Place x3.1.place x4>>=fun x5=>
  if x3.1.place=true then
   Ed x1.Place>>=fun x6=>
   W0 x6 x5>>=fun x7=>
   N7 l nesting x7 x1 x3 v14
  else
   N7 l nesting x5 x1 x3 v14
 else
  some o03
 partial_fixpoint
def N7 (l:List E0)(nesting:Int)(o0:J0)(x1:E0)(x3:Y2×Bool)(v141:Int):Option J0:=
 J4 x1.Value x3.1.value o0>>=fun x8=>
 W0 (bif x3.1.name then true else (x1.Name == [])) x8>>=fun x9=>
 if x3.1.name=true then
  A4 x1.Name x9>>=fun x10=>
  O7 l nesting x10 x1 x3 v141
 else
  O7 l nesting x9 x1 x3 v141
 partial_fixpoint
def O7 (l:List E0)(nesting:Int)(o01:J0)(x1:E0)(x3:Y2×Bool)(v142:Int):Option J0:=
 W0 (bif x3.1.args then true else (((x1.Args).length:Int) == 0)) o01>>=fun x11=>
 Ba l nesting x11 x1 x3 v142 0
 partial_fixpoint
def Ba (l:List E0)(nesting:Int)(o02:J0)(x1:E0)(x3:Y2×Bool)(v143:Int)(v84:Int):Option J0:=
 if (decide (v84 < ((x1.Args).length:Int)))=true then
  idx x1.Args v84>>=fun x12=>
  Z2 x12 1 o02>>=fun x13=>
  Ba l nesting x13 x1 x3 v143 (IntKind.i64.wrap (v84+1))
 else
  W0 (bif x3.1.n then true else (x1.NV == 0)) o02>>=fun x14=>
  W0 (bif x3.1.bounds then true else (bif (x1.Low == 0) then (x1.High == 0) else false)) x14>>=fun x15=>
  W0 (bif x3.1.numbers then true else (((x1.Numbers).length:Int) == 0)) x15>>=fun x16=>
  W0 (bif x3.1.thenV then true else (((x1.Then).length:Int) == 0)) x16>>=fun x17=>
  W0 (bif x3.1.other then true else (((x1.Else).length:Int) == 0)) x17>>=fun x18=>
  G8 x1 x18>>=fun x19=>
  F4 x1.Then (IntKind.i64.wrap (nesting+1)) x19>>=fun x20=>
  F4 x1.Else (IntKind.i64.wrap (nesting+1)) x20>>=fun x21=>
  H6 l nesting x21 (IntKind.i64.wrap (v143+1))
 partial_fixpoint
end
abbrev Xn (l:List E0)(nesting:Int)(syntaxReport:J0)(res:J0):Prop:=X0 C 144 [.ref 0 0,.d (.sl (E0.rows l)),.d (.int .i64 nesting)] [.row (J0.cells syntaxReport) 103] (Ret [.row (J0.cells res) 103] (.tup []))
abbrev Qu (l:List E0)(nesting:Int)(o03:J0)(v14:Int)(res:J0):Prop:=LM C 161 1 Tryz.f144 [1,4] [(0,.ref 0 0),(2,.d (.int .i64 nesting)),(12,.d (.sl (E0.rows l))),(13,.d (.int .i64 ((l).length:Int))),(14,.d (.int .i64 v14))] [.row (J0.cells o03) 103] (Ret [.row (J0.cells res) 103] (.tup []))
abbrev Ru (l:List E0)(nesting:Int)(o0:J0)(x1:E0)(x3:Y2×Bool)(v141:Int)(res:J0):Prop:=JM C 161 1 Tryz.f144 [1,4,5,1,1,0,4,1,1,1,1,1,1,1] [(0,.ref 0 0),(2,.d (.int .i64 nesting)),(7,.ref 1 0),(8,.ref 2 0),(12,.d (.sl (E0.rows l))),(13,.d (.int .i64 ((l).length:Int))),(14,.d (.int .i64 v141))] [.row (J0.cells o0) 103,.row (E0.cells x1) 144,.row (Y2.cells x3.1) 186] (Ret [.row (J0.cells res) 103] (.tup []))
abbrev Su (l:List E0)(nesting:Int)(o01:J0)(x1:E0)(x3:Y2×Bool)(v142:Int)(res:J0):Prop:=JM C 161 1 Tryz.f144 [1,4,5,1,1,0,4,1,1,1,1,1,1,1,1,1,1] [(0,.ref 0 0),(2,.d (.int .i64 nesting)),(7,.ref 1 0),(8,.ref 2 0),(12,.d (.sl (E0.rows l))),(13,.d (.int .i64 ((l).length:Int))),(14,.d (.int .i64 v142))] [.row (J0.cells o01) 103,.row (E0.cells x1) 144,.row (Y2.cells x3.1) 186] (Ret [.row (J0.cells res) 103] (.tup []))
abbrev Tu (l:List E0)(nesting:Int)(o02:J0)(x1:E0)(x3:Y2×Bool)(v143:Int)(v84:Int)(res:J0):Prop:=LM C 161 1 Tryz.f144 [1,4,5,1,1,0,4,1,1,1,1,1,1,1,1,1,1,1,0,1,4] [(0,.ref 0 0),(2,.d (.int .i64 nesting)),(7,.ref 1 0),(8,.ref 2 0),(12,.d (.sl (E0.rows l))),(13,.d (.int .i64 ((l).length:Int))),(14,.d (.int .i64 v143)),(82,.d (.sl (A0.rows x1.Args))),(83,.d (.int .i64 ((x1.Args).length:Int))),(84,.d (.int .i64 v84))] [.row (J0.cells o02) 103,.row (E0.cells x1) 144,.row (Y2.cells x3.1) 186] (Ret [.row (J0.cells res) 103] (.tup []))
theorem Pv:(∀ l nesting syntaxReport res,F4 l nesting syntaxReport=some res→Xn l nesting syntaxReport res)∧(∀ l nesting o03 v14 res,H6 l nesting o03 v14=some res→Qu l nesting o03 v14 res)∧(∀ l nesting o0 x1 x3 v141 res,N7 l nesting o0 x1 x3 v141=some res→Ru l nesting o0 x1 x3 v141 res)∧(∀ l nesting o01 x1 x3 v142 res,O7 l nesting o01 x1 x3 v142=some res→Su l nesting o01 x1 x3 v142 res)∧(∀ l nesting o02 x1 x3 v143 v84 res,Ba l nesting o02 x1 x3 v143 v84=some res→Tu l nesting o02 x1 x3 v143 v84 res):=by
 refine F4.mutual_partial_correctness _ _ _ _ _ ?_ ?_ ?_ ?_ ?_
 ·intro g1 ih1 l nesting syntaxReport res hh
  exact X0.intro hC Tryz.func144 rfl rfl rfl (p' 1 rfl (qe' rfl trivial (E0.lenA _) (e' rfl (bk' (fw' (ih1 _ _ _ _ _ hh) rfl rfl rfl)))))
 ·intro g2 ih2 l nesting o03 v14 res hh
  refine C1.unroll (t' rfl (S' (ci' rfl hh (fun hh=>?_) (fun hh=>?_))))
  ·obtain ⟨x1,hx1,hh⟩:=bs' hh
   obtain ⟨x2,hx2,hh⟩:=bs' hh
   obtain ⟨x3,hx3,hh⟩:=bs' hh
   obtain ⟨x4,hx4,hh⟩:=bs' hh
   obtain ⟨x5,hx5,hh⟩:=bs' hh
   refine sk' (S' (bk' (s' rfl rfl (i' rfl (J2 hx1) (E0.idx hx1) rfl (q' rfl (I0.nf hC rfl (I0.s hC rfl (n' (p' 7 rfl (I0.s hC rfl (n' (p' 2 rfl (g' [0] (Ii hx2) rfl rfl rfl rfl rfl rfl ?_)))))))))))))
   refine n' (p' 2 rfl (c' (R10 hx3) rfl rfl (o' 3 rfl (I0.n hC rfl (I0.s hC rfl (e' rfl (p' 2 rfl (g' [0] (E1 hx4) rfl rfl rfl rfl rfl rfl (n' (p' 5 rfl (g' [0] (Te hx5) rfl rfl rfl rfl rfl rfl (n' (S' ?_)))))))))))))
   refine t' rfl (ci' rfl hh (fun hh=>?_) (fun hh=>?_))
   ·obtain ⟨x6,hx6,hh⟩:=bs' hh
    obtain ⟨x7,hx7,hh⟩:=bs' hh
    exact P' 3 rfl (c' (Yv hx6) rfl rfl (g' [0] (E1 hx7) rfl rfl rfl rfl rfl rfl (n' (ew' (ih2 _ _ _ _ _ _ _ hh) rfl rfl rfl))))
   exact sk' (ew' (ih2 _ _ _ _ _ _ _ hh) rfl rfl rfl)
  cases hh
  exact ex' (rn' rfl rfl rfl)
 ·intro g3 ih3 l nesting o0 x1 x3 v141 res hh
  obtain ⟨x8,hx8,hh⟩:=bs' hh
  obtain ⟨x9,hx9,hh⟩:=bs' hh
  refine p' 5 rfl (g' [0] (Te hx8) rfl rfl rfl rfl rfl rfl (n' (sg' 8 rfl (G' 5 rfl (a1' rfl (a1' rfl (po' rfl (an' (g' [0] (E1 hx9) rfl rfl rfl rfl rfl rfl (n' (S' (t' rfl (ci' rfl hh (fun hh=>?_) (fun hh=>?_))))))))))))))
  ·obtain ⟨x10,hx10,hh⟩:=bs' hh
   exact P' 3 rfl (g' [0] (Pa hx10) rfl rfl rfl rfl rfl rfl (n' (ew' (ih3 _ _ _ _ _ _ _ hh) rfl rfl rfl)))
  exact sk' (ew' (ih3 _ _ _ _ _ _ _ hh) rfl rfl rfl)
 ·intro g4 ih4 l nesting o01 x1 x3 v142 res hh
  obtain ⟨x11,hx11,hh⟩:=bs' hh
  exact sg' 9 rfl (G' 5 rfl (a1' rfl (AG.qe hC rfl (fun hg=>⟨⟨hg,trivial⟩,trivial⟩) (A0.lenA _) (a1' rfl (po' rfl (an' (g' [0] (E1 hx11) rfl rfl rfl rfl rfl rfl (n' (S' (p' 2 rfl (qe' rfl trivial (A0.lenA _) (e' rfl (bk' (fw' (ih4 _ _ _ _ _ _ _ _ hh) rfl rfl rfl))))))))))))))
 ·intro g0 g1 g4 ih0 ih1 ih4 l nesting o02 x1 x3 v143 v84 res hh
  refine C1.unroll (t' rfl (S' (ci' rfl hh (fun hh=>?_) (fun hh=>?_))))
  ·obtain ⟨x12,hx12,hh⟩:=bs' hh
   obtain ⟨x13,hx13,hh⟩:=bs' hh
   exact sk' (S' (bk' (s' rfl rfl (i' rfl (J2 hx12) (A0.idx hx12) rfl (q' rfl (I0.nf hC rfl (I0.s hC rfl (n' (P' 2 rfl (g' [0] (Li hx13) rfl rfl rfl rfl rfl rfl (n' (T' rfl (lw' (ih4 _ _ _ _ _ _ _ _ hh) rfl rfl rfl)))))))))))))
  obtain ⟨x14,hx14,hh⟩:=bs' hh
  obtain ⟨x15,hx15,hh⟩:=bs' hh
  obtain ⟨x16,hx16,hh⟩:=bs' hh
  obtain ⟨x17,hx17,hh⟩:=bs' hh
  obtain ⟨x18,hx18,hh⟩:=bs' hh
  obtain ⟨x19,hx19,hh⟩:=bs' hh
  obtain ⟨x20,hx20,hh⟩:=bs' hh
  obtain ⟨x21,hx21,hh⟩:=bs' hh
  refine ex' (sg' 8 rfl (G' 5 rfl (a1' rfl (a1' rfl (po' rfl (an' (g' [0] (E1 hx14) rfl rfl rfl rfl rfl rfl (n' (sg' 13 rfl (G' 5 rfl (a1' rfl (a1' rfl (a1' rfl ?_)))))))))))))
  refine a0' rfl (a1' rfl (a1' rfl (pA' rfl (po' rfl (an' (g' [0] (E1 hx15) rfl rfl rfl rfl rfl rfl (n' (sg' 9 rfl (G' 5 rfl (a1' rfl (AG.qe hC rfl (fun hg=>⟨⟨hg,trivial⟩,trivial⟩) (ei64.lenA _) (a1' rfl (po' rfl ?_)))))))))))))
  refine an' (g' [0] (E1 hx16) rfl rfl rfl rfl rfl rfl (n' (sg' 9 rfl (G' 5 rfl (a1' rfl (AG.qe hC rfl (fun hg=>⟨⟨hg,trivial⟩,trivial⟩) (E0.lenA _) (a1' rfl (po' rfl (an' (g' [0] (E1 hx17) rfl rfl rfl rfl rfl rfl (n' (sg' 9 rfl (G' 5 rfl ?_)))))))))))))
  refine a1' rfl (AG.qe hC rfl (fun hg=>⟨⟨hg,trivial⟩,trivial⟩) (E0.lenA _) (a1' rfl (po' rfl (an' (g' [0] (E1 hx18) rfl rfl rfl rfl rfl rfl (n' (p' 2 rfl (g' [0] (Pu hx19) rfl rfl rfl rfl rfl rfl (n' (p' 5 rfl (g' [0] (ih0 _ _ _ _ hx20) rfl rfl rfl rfl rfl rfl (n' (P' 5 rfl ?_)))))))))))))
  exact g' [0] (ih0 _ _ _ _ hx21) rfl rfl rfl rfl rfl rfl (n' (T' rfl (lw' (ih1 _ _ _ _ _ hh) rfl rfl rfl)))
theorem Ym {l nesting syntaxReport res}(hh:F4 l nesting syntaxReport=some res):Xn l nesting syntaxReport res:=(Pv).1 _ _ _ _ hh
end Go.Proofs.YtmnhfbekncjnfaaGreatDoor

set_option maxRecDepth 100000
set_option maxHeartbeats 4000000
set_option synthInstance.maxSize 20000
set_option linter.unusedVariables false
namespace Go.Proofs.YtmnhfbekncjnfaaGreatDoor
open Go.Am
mutual
def M6 (l:List D0)(syntaxReport:J0):Option J0:=
 P7 l syntaxReport 0
 partial_fixpoint
def P7 (l:List D0)(o03:J0)(v15:Int):Option J0:=
 if (decide (v15 < ((l).length:Int)))=true then
  idx l v15>>=fun x1=>
  Zk x1.Kind>>=fun x2=>
  W0 x2.1 (J0.mk (IntKind.i64.wrap (o03.nodes+1)) o03.depth o03.badForm o03.badName o03.badNumber)>>=fun x3=>
  (if (!x2.1)=true then S8 x1.TypeV (F0.mk 0 0 0 0 [] [] []) else some default)>>=fun x4=>
  if (bif x2.1 then true else (!x4))=true then
   Q6 x1.TypeV 1 x3>>=fun x5=>
   Ca l x5 x1 x2 v15
  else
   Ca l x3 x1 x2 v15
 else
  some o03
 partial_fixpoint
def Ca (l:List D0)(o0:J0)(x1:D0)(x2:Bool×Bool)(v151:Int):Option J0:=
 A4 x1.Name o0>>=fun x6=>
 J4 x1.Value x2.2 x6>>=fun x7=>
 W0 (bif (x1.Kind == 4) then true else (x1.Init == 0)) x7>>=fun x8=>
 V3 x1.Init (-1048576) 1048576>>=fun x9=>
 (if (x9&&(!(x1.TypeV.Kind != 0)))=true then V3 x1.Init 0 1 else some default)>>=fun x10=>
 E2 (bif x9 then (bif (x1.TypeV.Kind != 0) then true else x10) else false) x8>>=fun x11=>
 W0 (bif (x1.Kind == 6) then true else (bif (bif (((x1.Params).length:Int) == 0) then (((x1.Vars).length:Int) == 0) else false) then (((x1.Body).length:Int) == 0) else false)) x11>>=fun x12=>
 Q7 l x12 x1 v151 0
 partial_fixpoint
def Q7 (l:List D0)(o01:J0)(x1:D0)(v152:Int)(v109:Int):Option J0:=
 if (decide (v109 < ((x1.Params).length:Int)))=true then
  idx x1.Params v109>>=fun x13=>
  W0 (bif (x13.Kind == 4) then (x13.Init == 0) else false) o01>>=fun x14=>
  Q7 l x14 x1 v152 (IntKind.i64.wrap (v109+1))
 else
  Da l o01 x1 v152 0
 partial_fixpoint
def Da (l:List D0)(o02:J0)(x1:D0)(v153:Int)(v127:Int):Option J0:=
 if (decide (v127 < ((x1.Vars).length:Int)))=true then
  idx x1.Vars v127>>=fun x15=>
  W0 (x15.Kind == 4) o02>>=fun x16=>
  Da l x16 x1 v153 (IntKind.i64.wrap (v127+1))
 else
  M6 x1.Params o02>>=fun x17=>
  M6 x1.Vars x17>>=fun x18=>
  F4 x1.Body 1 x18>>=fun x19=>
  P7 l x19 (IntKind.i64.wrap (v153+1))
 partial_fixpoint
end
abbrev Yn (l:List D0)(syntaxReport:J0)(res:J0):Prop:=X0 C 143 [.ref 0 0,.d (.sl (D0.rows l))] [.row (J0.cells syntaxReport) 103] (Ret [.row (J0.cells res) 103] (.tup []))
abbrev Uu (l:List D0)(o03:J0)(v15:Int)(res:J0):Prop:=LM C 150 1 Tryz.f143 [1,4] [(0,.ref 0 0),(13,.d (.sl (D0.rows l))),(14,.d (.int .i64 ((l).length:Int))),(15,.d (.int .i64 v15))] [.row (J0.cells o03) 103] (Ret [.row (J0.cells res) 103] (.tup []))
abbrev Vu (l:List D0)(o0:J0)(x1:D0)(x2:Bool×Bool)(v151:Int)(res:J0):Prop:=JM C 150 1 Tryz.f143 [1,4,5,1,1,0,4,1,1,1,1,1] [(0,.ref 0 0),(5,.ref 1 0),(7,.d (.bool x2.2)),(13,.d (.sl (D0.rows l))),(14,.d (.int .i64 ((l).length:Int))),(15,.d (.int .i64 v151))] [.row (J0.cells o0) 103,.row (D0.cells x1) 128] (Ret [.row (J0.cells res) 103] (.tup []))
abbrev Wu (l:List D0)(o01:J0)(x1:D0)(v152:Int)(v109:Int)(res:J0):Prop:=LM C 150 1 Tryz.f143 [1,4,5,1,1,0,4,1,1,1,1,1,1,1,1,1,1,1,0,1,4] [(0,.ref 0 0),(5,.ref 1 0),(13,.d (.sl (D0.rows l))),(14,.d (.int .i64 ((l).length:Int))),(15,.d (.int .i64 v152)),(107,.d (.sl (D0.rows x1.Params))),(108,.d (.int .i64 ((x1.Params).length:Int))),(109,.d (.int .i64 v109))] [.row (J0.cells o01) 103,.row (D0.cells x1) 128] (Ret [.row (J0.cells res) 103] (.tup []))
abbrev Xu (l:List D0)(o02:J0)(x1:D0)(v153:Int)(v127:Int)(res:J0):Prop:=LM C 150 1 Tryz.f143 [1,4,5,1,1,0,4,1,1,1,1,1,1,1,1,1,1,1,1,0,1,4] [(0,.ref 0 0),(5,.ref 1 0),(13,.d (.sl (D0.rows l))),(14,.d (.int .i64 ((l).length:Int))),(15,.d (.int .i64 v153)),(125,.d (.sl (D0.rows x1.Vars))),(126,.d (.int .i64 ((x1.Vars).length:Int))),(127,.d (.int .i64 v127))] [.row (J0.cells o02) 103,.row (D0.cells x1) 128] (Ret [.row (J0.cells res) 103] (.tup []))
theorem Qv:(∀ l syntaxReport res,M6 l syntaxReport=some res→Yn l syntaxReport res)∧(∀ l o03 v15 res,P7 l o03 v15=some res→Uu l o03 v15 res)∧(∀ l o0 x1 x2 v151 res,Ca l o0 x1 x2 v151=some res→Vu l o0 x1 x2 v151 res)∧(∀ l o01 x1 v152 v109 res,Q7 l o01 x1 v152 v109=some res→Wu l o01 x1 v152 v109 res)∧(∀ l o02 x1 v153 v127 res,Da l o02 x1 v153 v127=some res→Xu l o02 x1 v153 v127 res):=by
 refine M6.mutual_partial_correctness _ _ _ _ _ ?_ ?_ ?_ ?_ ?_
 ·intro g1 ih1 l syntaxReport res hh
  exact X0.intro hC Tryz.func143 rfl rfl rfl (p' 1 rfl (qe' rfl trivial (D0.lenA _) (e' rfl (bk' (fw' (ih1 _ _ _ _ hh) rfl rfl rfl)))))
 ·intro g2 ih2 l o03 v15 res hh
  refine C1.unroll (t' rfl (S' (ci' rfl hh (fun hh=>?_) (fun hh=>?_))))
  ·obtain ⟨x1,hx1,hh⟩:=bs' hh
   obtain ⟨x2,hx2,hh⟩:=bs' hh
   obtain ⟨x3,hx3,hh⟩:=bs' hh
   obtain ⟨x4,hx4,hh⟩:=bs' hh
   refine sk' (S' (bk' (s' rfl rfl (i' rfl (J2 hx1) (D0.idx hx1) rfl (q' rfl (I0.nf hC rfl (I0.s hC rfl (n' (p' 7 rfl (I0.s hC rfl (n' (p' 2 rfl (c' (Y11 hx2) rfl rfl ?_)))))))))))))
   refine e' rfl (p' 2 rfl (g' [0] (E1 hx3) rfl rfl rfl rfl rfl rfl (n' (S' (sg' 8 rfl (G' 3 rfl (a1' rfl (a0' rfl (AG.c rfl rfl (fun hg=>⟨hg,hg,trivial⟩) (fun hw=>P10 (U5 hw hx4)) (a1' rfl (po' rfl (an' (n' (ci' rfl hh (fun hh=>?_) (fun hh=>?_)))))))))))))))
   ·obtain ⟨x5,hx5,hh⟩:=bs' hh
    exact P' 3 rfl (g' [0] (Gz hx5) rfl rfl rfl rfl rfl rfl (n' (ew' (ih2 _ _ _ _ _ _ hh) rfl rfl rfl)))
   exact sk' (ew' (ih2 _ _ _ _ _ _ hh) rfl rfl rfl)
  cases hh
  exact ex' (rn' rfl rfl rfl)
 ·intro g3 ih3 l o0 x1 x2 v151 res hh
  obtain ⟨x6,hx6,hh⟩:=bs' hh
  obtain ⟨x7,hx7,hh⟩:=bs' hh
  obtain ⟨x8,hx8,hh⟩:=bs' hh
  obtain ⟨x9,hx9,hh⟩:=bs' hh
  obtain ⟨x10,hx10,hh⟩:=bs' hh
  obtain ⟨x11,hx11,hh⟩:=bs' hh
  obtain ⟨x12,hx12,hh⟩:=bs' hh
  refine p' 3 rfl (g' [0] (Pa hx6) rfl rfl rfl rfl rfl rfl (n' (p' 4 rfl (g' [0] (Te hx7) rfl rfl rfl rfl rfl rfl (n' (sg' 9 rfl (G' 6 rfl (a1' rfl (a1' rfl (po' rfl (an' (g' [0] (E1 hx8) rfl rfl rfl rfl rfl rfl (n' ?_)))))))))))))
  refine sg' 15 rfl (G' 3 rfl (AG.c rfl rfl (fun _=>trivial) (fun _=>V4 hx9) (G' 2 rfl (a1' rfl (a1' rfl (a1' rfl (a1' rfl (a0' rfl (a1' rfl (AG.c rfl rfl (fun hg=>⟨hg,trivial⟩) (fun hw=>V4 (U5 hw hx10)) (pO' rfl (pa' rfl (an' ?_)))))))))))))
  refine g' [0] (T3 hx11) rfl rfl rfl rfl rfl rfl (n' (t' rfl (sg' 20 rfl (G' 4 rfl (a1' rfl (AG.qe hC rfl (fun hg=>⟨⟨hg,trivial⟩,trivial⟩) (D0.lenA _) (a1' rfl (a1' rfl (a0' rfl (a1' rfl (AG.qe hC rfl (fun hg=>⟨⟨hg,trivial⟩,trivial⟩) (D0.lenA _) (a1' rfl (pA' rfl ?_)))))))))))))
  refine a1' rfl (a0' rfl (a1' rfl (AG.qe hC rfl (fun hg=>⟨⟨hg,trivial⟩,trivial⟩) (E0.lenA _) (a1' rfl (pA' rfl (po' rfl (an' (g' [0] (E1 hx12) rfl rfl rfl rfl rfl rfl (n' (S' (p' 2 rfl (qe' rfl trivial (D0.lenA _) (e' rfl ?_)))))))))))))
  exact bk' (fw' (ih3 _ _ _ _ _ _ hh) rfl rfl rfl)
 ·intro g3 g4 ih3 ih4 l o01 x1 v152 v109 res hh
  refine C1.unroll (t' rfl (S' (ci' rfl hh (fun hh=>?_) (fun hh=>?_))))
  ·obtain ⟨x13,hx13,hh⟩:=bs' hh
   obtain ⟨x14,hx14,hh⟩:=bs' hh
   refine sk' (S' (bk' (s' rfl rfl (i' rfl (J2 hx13) (D0.idx hx13) rfl (q' rfl (I0.nf hC rfl (I0.s hC rfl (n' (AEx.regionG 9 rfl (G' 6 rfl (a1' rfl (a1' rfl (pa' rfl ?_)))))))))))))
   exact an' (g' [0] (E1 hx14) rfl rfl rfl rfl rfl rfl (n' (T' rfl (lw' (ih3 _ _ _ _ _ _ hh) rfl rfl rfl))))
  exact ex' (S' (p' 2 rfl (qe' rfl trivial (D0.lenA _) (e' rfl (bk' (fw' (ih4 _ _ _ _ _ _ hh) rfl rfl rfl))))))
 ·intro g0 g1 g4 ih0 ih1 ih4 l o02 x1 v153 v127 res hh
  refine C1.unroll (t' rfl (S' (ci' rfl hh (fun hh=>?_) (fun hh=>?_))))
  ·obtain ⟨x15,hx15,hh⟩:=bs' hh
   obtain ⟨x16,hx16,hh⟩:=bs' hh
   exact sk' (S' (bk' (s' rfl rfl (i' rfl (J2 hx15) (D0.idx hx15) rfl (q' rfl (I0.nf hC rfl (I0.s hC rfl (n' (P' 4 rfl (g' [0] (E1 hx16) rfl rfl rfl rfl rfl rfl (n' (T' rfl (lw' (ih4 _ _ _ _ _ _ hh) rfl rfl rfl)))))))))))))
  obtain ⟨x17,hx17,hh⟩:=bs' hh
  obtain ⟨x18,hx18,hh⟩:=bs' hh
  obtain ⟨x19,hx19,hh⟩:=bs' hh
  exact ex' (p' 3 rfl (g' [0] (ih0 _ _ _ hx17) rfl rfl rfl rfl rfl rfl (n' (p' 3 rfl (g' [0] (ih0 _ _ _ hx18) rfl rfl rfl rfl rfl rfl (n' (P' 3 rfl (g' [0] (Ym hx19) rfl rfl rfl rfl rfl rfl (n' (T' rfl (lw' (ih1 _ _ _ _ hh) rfl rfl rfl)))))))))))
theorem Tw {l syntaxReport res}(hh:M6 l syntaxReport=some res):Yn l syntaxReport res:=(Qv).1 _ _ _ hh
def Ui (p:Z0):Option J0:=
 M6 p.Decls (J0.mk 0 0 false false false)>>=fun x1=>
 F4 p.Body 1 x1>>=fun x2=>
 some x2
theorem H13 {p res}(hh:Ui p=some res):X0 C 89 [.agg (Z0.cells p)] [] (Ret [.dead,.row (J0.cells res) 103] (.ref 1 0)):=by
 unfold Ui at hh
 obtain ⟨x1,hx1,hh⟩:=bs' hh
 obtain ⟨x2,hx2,hh⟩:=bs' hh
 refine X0.intro hC Tryz.func89 rfl rfl rfl (s' rfl rfl (I0.n hC rfl (e' rfl (p' 1 rfl (I0.n hC rfl (e' rfl (p' 3 rfl (g' [1] (Tw hx1) rfl rfl rfl rfl rfl rfl (n' (p' 3 rfl (g' [1] (Ym hx2) rfl rfl rfl rfl rfl rfl (n' (t' rfl ?_)))))))))))))
 refine re' ?_
 obtain rfl:=oi' hh
 exact ⟨_,_,[.dead,.row (J0.cells x2) 103],rfl,.rfl,⟨trivial,⟨rfl,.refl _,rfl⟩,trivial⟩,rfl,rfl,rfl,rfl⟩
def Ql (p:Z0):Option Int:=
 Ui p>>=fun x1=>
 C6 x1>>=fun x2=>
 some x2
theorem I16 {p res}(hh:Ql p=some res):X0 C 47 [.agg (Z0.cells p)] [] (Ret [] (.d (.int .i64 res))):=by
 unfold Ql at hh
 obtain ⟨x1,hx1,hh⟩:=bs' hh
 obtain ⟨x2,hx2,hh⟩:=bs' hh
 cases hh
 exact X0.intro hC Tryz.func47 rfl rfl rfl (s' rfl rfl (I0.n hC rfl (e' rfl (p' 1 rfl (g' [] (H13 hx1) rfl rfl rfl rfl rfl rfl (g' [2] (Wn hx2) rfl rfl rfl rfl rfl rfl (e' rfl (re' (rt' rfl rfl rfl)))))))))
def Nd (text:Str):Option (Z0×Int×Int):=
 Ti text (Z0.mk [] [])>>=fun x1=>
 if (x1.2.1 != 0)=true then
  some ((Z0.mk [] []),x1.1,x1.2.1)
 else
  Ql x1.2.2>>=fun x2=>
  if (x2 != 0)=true then
   some ((Z0.mk [] []),0,x2)
  else
   some (x1.2.2,0,0)
theorem Aw {text res}(hh:Nd text=some res):X0 C 21 [.d (.str text)] [] (Ret [] (.tup [.agg (Z0.cells res.1),.d (.int .i64 res.2.1),.d (.int .i64 res.2.2)])):=by
 unfold Nd at hh
 obtain ⟨x1,hx1,hh⟩:=bs' hh
 refine X0.intro hC Tryz.func21 rfl rfl rfl (s' rfl rfl (I0.nf hC rfl (e' rfl (s' rfl rfl (I0.nf hC rfl (n' (p' 2 rfl (g' [1] (G13 hx1) rfl rfl rfl rfl rfl rfl (e' rfl (S' (t' rfl (ci' rfl hh (fun hh=>?_) (fun hh=>?_)))))))))))))
 ·cases hh
  exact p' 3 rfl (I0.s hC rfl (e' rfl (re' (rt' rfl rfl rfl))))
 obtain ⟨x2,hx2,hh⟩:=bs' hh
 refine sk' (S' (p' 1 rfl (c' (I16 hx2) rfl rfl (e' rfl (t' rfl (ci' rfl hh (fun hh=>?_) (fun hh=>?_)))))))
 ·cases hh
  exact p' 2 rfl (I0.s hC rfl (e' rfl (re' (rt' rfl rfl rfl))))
 cases hh
 exact sk' (p' 1 rfl (I0.s hC rfl (e' rfl (re' (rt' rfl rfl rfl)))))
def Vi (l:List K0)(atV:Int):Option Bool:=
 U0 l atV [116,121,112,101]>>=fun x1=>
 (if (!x1)=true then U0 l atV [115,101,99,114,101,116] else some default)>>=fun x2=>
 (if (!(bif x1 then true else x2))=true then U0 l atV [112,117,98,108,105,99] else some default)>>=fun x3=>
 (if (!(bif (bif x1 then true else x2) then true else x3))=true then U0 l atV [114,97,110,100,111,109] else some default)>>=fun x4=>
 (if (!(bif (bif (bif x1 then true else x2) then true else x3) then true else x4))=true then U0 l atV [118,97,114] else some default)>>=fun x5=>
 (if (!(bif (bif (bif (bif x1 then true else x2) then true else x3) then true else x4) then true else x5))=true then U0 l atV [104,97,116,99,104] else some default)>>=fun x6=>
 (if (!(bif (bif (bif (bif (bif x1 then true else x2) then true else x3) then true else x4) then true else x5) then true else x6))=true then U0 l atV [102,117,110,99] else some default)>>=fun x7=>
 some (bif (bif (bif (bif (bif (bif x1 then true else x2) then true else x3) then true else x4) then true else x5) then true else x6) then true else x7)
def Zm (l:List K0)(atV:Int):Option (Int×Int×Bool):=
 U0 l atV [116,114,117,101]>>=fun x1=>
 if x1=true then
  some (1,(IntKind.i64.wrap (atV+1)),true)
 else
  U0 l atV [102,97,108,115,101]>>=fun x2=>
  if x2=true then
   some (0,(IntKind.i64.wrap (atV+1)),true)
  else
   N5 l atV>>=fun x3=>
   some (x3.1,x3.2.1,x3.2.2)
def R6 (l:List K0)(x1:D0×Int×Bool)(o1_Init:Int)(atV1:Int):Option (D0×Int×Bool):=
 U0 l atV1 [59]>>=fun x4=>
 if (!x4)=true then
  some ((D0.mk x1.1.Kind x1.1.Name x1.1.TypeV o1_Init x1.1.Value x1.1.Params x1.1.Vars x1.1.Body),atV1,false)
 else
  some ((D0.mk x1.1.Kind x1.1.Name x1.1.TypeV o1_Init x1.1.Value x1.1.Params x1.1.Vars x1.1.Body),(IntKind.i64.wrap (atV1+1)),true)
def Rc (l:List K0)(atV:Int):Option (D0×Int×Bool):=
 J5 l atV>>=fun x1=>
 if (!x1.2.2)=true then
  some (x1.1,x1.2.1,false)
 else
  U0 l x1.2.1 [61]>>=fun x2=>
  if x2=true then
   Zm l (IntKind.i64.wrap (x1.2.1+1))>>=fun x3=>
   if (!x3.2.2)=true then
    some ((D0.mk x1.1.Kind x1.1.Name x1.1.TypeV x3.1 x1.1.Value x1.1.Params x1.1.Vars x1.1.Body),x3.2.1,false)
   else
    R6 l x1 x3.1 x3.2.1
  else
   R6 l x1 x1.1.Init x1.2.1
def Wi (l:List K0)(texts:List Str)(atV1:Int)(i:Int):Option (Int×Bool):=
 if (decide (i < ((texts).length:Int)))=true then
  idx texts i>>=fun x1=>
  U0 l atV1 x1>>=fun x2=>
  if (!x2)=true then
   some (atV1,false)
  else
   Wi l texts (IntKind.i64.wrap (atV1+1)) (IntKind.i64.wrap (i+1))
 else
  some (atV1,true)
 partial_fixpoint
def Sk (l:List K0)(atV:Int)(texts:List Str):Option (Int×Bool):=
 Wi l texts atV 0
def Yf (l:List K0)(atV:Int):Option Bool:=
 Z7 l atV>>=fun x1=>
 (if (!x1.2.2)=true then U0 l atV [111,117,116,112,117,116] else some default)>>=fun x2=>
 (if (!(bif x1.2.2 then true else x2))=true then U0 l atV [119,97,105,116] else some default)>>=fun x3=>
 (if (!(bif (bif x1.2.2 then true else x2) then true else x3))=true then U0 l atV [105,102] else some default)>>=fun x4=>
 (if (!(bif (bif (bif x1.2.2 then true else x2) then true else x3) then true else x4))=true then U0 l atV [119,104,105,108,101] else some default)>>=fun x5=>
 (if (!(bif (bif (bif (bif x1.2.2 then true else x2) then true else x3) then true else x4) then true else x5))=true then U0 l atV [102,111,114] else some default)>>=fun x6=>
 (if (!(bif (bif (bif (bif (bif x1.2.2 then true else x2) then true else x3) then true else x4) then true else x5) then true else x6))=true then U0 l atV [115,101,116,116,108,101] else some default)>>=fun x7=>
 some (bif (bif (bif (bif (bif (bif x1.2.2 then true else x2) then true else x3) then true else x4) then true else x5) then true else x6) then true else x7)
def E6 (l:List K0)(o1_Verb:Int)(o1_Place:A0)(o1_Value:A0)(o1_Name:Str)(o1_Args:List A0)(o1_NV:Int)(o1_Low:Int)(o1_High:Int)(o1_Numbers:List Int)(o1_Then:List E0)(o1_Else:List E0)(atV1:Int)(ok:Bool):Option (E0×Int×Bool):=
 (if (!(!ok))=true then U0 l atV1 [59] else some default)>>=fun x9=>
 if (bif (!ok) then true else (!x9))=true then
  some ((E0.mk o1_Verb o1_Place o1_Value o1_Name o1_Args o1_NV o1_Low o1_High o1_Numbers o1_Then o1_Else),atV1,false)
 else
  some ((E0.mk o1_Verb o1_Place o1_Value o1_Name o1_Args o1_NV o1_Low o1_High o1_Numbers o1_Then o1_Else),(IntKind.i64.wrap (atV1+1)),true)
def S6 (l:List K0)(atV1:Int)(out:List Int):Option (List Int×Int×Bool):=
 N5 l atV1>>=fun x1=>
 if (!x1.2.2)=true then
  some (out,x1.2.1,false)
 else
  if (decide ((out.length+1) * 9≤140737488355328))=true then
   U0 l x1.2.1 [44]>>=fun x2=>
   if (!x2)=true then
    some ((out++[x1.1]),x1.2.1,true)
   else
    S6 l (IntKind.i64.wrap (x1.2.1+1)) (out++[x1.1])
  else none
 partial_fixpoint
def Xi (l:List K0)(atV:Int):Option (List Int×Int×Bool):=
 S6 l atV []
def F6 (l:List K0)(atV1:Int)(out:List A0):Option (List A0×Int×Bool):=
 B2 l (IntKind.i64.wrap (atV1+1))>>=fun x3=>
 if (!x3.2.2)=true then
  some (out,x3.2.1,false)
 else
  if (decide ((out.length+1) * 57≤140737488355328))=true then
   U0 l x3.2.1 [41]>>=fun x4=>
   if x4=true then
    some ((out++[x3.1]),(IntKind.i64.wrap (x3.2.1+1)),true)
   else
    U0 l x3.2.1 [44]>>=fun x5=>
    if (!x5)=true then
     some ((out++[x3.1]),x3.2.1,false)
    else
     F6 l x3.2.1 (out++[x3.1])
  else none
 partial_fixpoint
def Dh (l:List K0)(atV:Int):Option (List A0×Int×Bool):=
 U0 l atV [40]>>=fun x1=>
 if (!x1)=true then
  some ([],atV,false)
 else
  U0 l (IntKind.i64.wrap (atV+1)) [41]>>=fun x2=>
  if x2=true then
   some ([],(IntKind.i64.wrap (atV+2)),true)
  else
   F6 l atV []
def Sc (l:List K0)(atV:Int):Option (E0×Int×Bool):=
 Z9 l atV>>=fun x1=>
 (if (!(!x1.2.2))=true then U0 l x1.2.1 [61] else some default)>>=fun x2=>
 if (bif (!x1.2.2) then true else (!x2))=true then
  some ((E0.mk 0 (A0.mk 0 0 [] []) (A0.mk 0 0 [] []) [] [] 0 0 0 [] [] []),x1.2.1,false)
 else
  U0 l (IntKind.i64.wrap (x1.2.1+1)) [114,101,108,101,97,115,101]>>=fun x3=>
  if x3=true then
   Z7 l (IntKind.i64.wrap ((IntKind.i64.wrap (x1.2.1+1))+1))>>=fun x4=>
   some ((E0.mk 2 x1.1 (A0.mk 0 0 [] []) x4.1 [] 0 0 0 [] [] []),x4.2.1,x4.2.2)
  else
   U0 l (IntKind.i64.wrap (x1.2.1+1)) [99,97,108,108]>>=fun x5=>
   if x5=true then
    Z7 l (IntKind.i64.wrap ((IntKind.i64.wrap (x1.2.1+1))+1))>>=fun x6=>
    if (!x6.2.2)=true then
     some ((E0.mk 1 x1.1 (A0.mk 0 0 [] []) x6.1 [] 0 0 0 [] [] []),x6.2.1,false)
    else
     Dh l x6.2.1>>=fun x7=>
     some ((E0.mk 1 x1.1 (A0.mk 0 0 [] []) x6.1 x7.1 0 0 0 [] [] []),x7.2.1,x7.2.2)
   else
    B2 l (IntKind.i64.wrap (x1.2.1+1))>>=fun x8=>
    some ((E0.mk 0 x1.1 x8.1 [] [] 0 0 0 [] [] []),x8.2.1,x8.2.2)
mutual
def X4 (l:List K0)(atV:Int):Option (List E0×Int×Bool):=
 N6 l atV []
 partial_fixpoint
def N6 (l:List K0)(atV1:Int)(out:List E0):Option (List E0×Int×Bool):=
 Yf l atV1>>=fun x1=>
 if x1=true then
  Ud l atV1>>=fun x2=>
  if (!x2.2.2)=true then
   some (out,x2.2.1,false)
  else
   if (decide ((out.length+1) * 257≤140737488355328))=true then
    N6 l x2.2.1 (out++[x2.1])
   else none
 else
  some (out,atV1,true)
 partial_fixpoint
def Ud (l:List K0)(atV:Int):Option (E0×Int×Bool):=
 U0 l atV [105,102]>>=fun x1=>
 if x1=true then
  Fe l (IntKind.i64.wrap (atV+1))>>=fun x2=>
  some (x2.1,x2.2.1,x2.2.2)
 else
  U0 l atV [119,104,105,108,101]>>=fun x3=>
  if x3=true then
   An l (IntKind.i64.wrap (atV+1))>>=fun x4=>
   some (x4.1,x4.2.1,x4.2.2)
  else
   U0 l atV [102,111,114]>>=fun x5=>
   if x5=true then
    Lk l (IntKind.i64.wrap (atV+1))>>=fun x6=>
    some (x6.1,x6.2.1,x6.2.2)
   else
    U0 l atV [111,117,116,112,117,116]>>=fun x7=>
    if x7=true then
     B2 l (IntKind.i64.wrap (atV+1))>>=fun x8=>
     E6 l 3 (A0.mk 0 0 [] []) x8.1 [] [] 0 0 0 [] [] [] x8.2.1 x8.2.2
    else
     U0 l atV [119,97,105,116]>>=fun x10=>
     if x10=true then
      N5 l (IntKind.i64.wrap (atV+1))>>=fun x11=>
      E6 l 4 (A0.mk 0 0 [] []) (A0.mk 0 0 [] []) [] [] x11.1 0 0 [] [] [] x11.2.1 x11.2.2
     else
      U0 l atV [115,101,116,116,108,101]>>=fun x12=>
      if x12=true then
       Xi l (IntKind.i64.wrap (atV+1))>>=fun x13=>
       E6 l 8 (A0.mk 0 0 [] []) (A0.mk 0 0 [] []) [] [] 0 0 0 x13.1 [] [] x13.2.1 x13.2.2
      else
       Sc l atV>>=fun x14=>
       E6 l x14.1.Verb x14.1.Place x14.1.Value x14.1.Name x14.1.Args x14.1.NV x14.1.Low x14.1.High x14.1.Numbers x14.1.Then x14.1.Else x14.2.1 x14.2.2
 partial_fixpoint
def Lk (l:List K0)(atV:Int):Option (E0×Int×Bool):=
 Z7 l atV>>=fun x1=>
 (if (!(!x1.2.2))=true then U0 l x1.2.1 [61] else some default)>>=fun x2=>
 if (bif (!x1.2.2) then true else (!x2))=true then
  some ((E0.mk 7 (A0.mk 0 0 [] []) (A0.mk 0 0 [] []) [] [] 0 0 0 [] [] []),x1.2.1,false)
 else
  N5 l (IntKind.i64.wrap (x1.2.1+1))>>=fun x3=>
  (if (!(!x3.2.2))=true then U0 l x3.2.1 [116,111] else some default)>>=fun x4=>
  if (bif (!x3.2.2) then true else (!x4))=true then
   some ((E0.mk 7 (A0.mk 0 0 [] []) (A0.mk 0 0 [] []) x1.1 [] 0 x3.1 0 [] [] []),x3.2.1,false)
  else
   N5 l (IntKind.i64.wrap (x3.2.1+1))>>=fun x5=>
   if (!x5.2.2)=true then
    some ((E0.mk 7 (A0.mk 0 0 [] []) (A0.mk 0 0 [] []) x1.1 [] 0 x3.1 x5.1 [] [] []),x5.2.1,false)
   else
    Hb l x5.2.1>>=fun x6=>
    some ((E0.mk 7 (A0.mk 0 0 [] []) (A0.mk 0 0 [] []) x1.1 [] 0 x3.1 x5.1 [] x6.1 []),x6.2.1,x6.2.2)
 partial_fixpoint
def Hb (l:List K0)(atV:Int):Option (List E0×Int×Bool):=
 U0 l atV [123]>>=fun x1=>
 if (!x1)=true then
  some ([],atV,false)
 else
  X4 l (IntKind.i64.wrap (atV+1))>>=fun x2=>
  (if (!(!x2.2.2))=true then U0 l x2.2.1 [125] else some default)>>=fun x3=>
  if (bif (!x2.2.2) then true else (!x3))=true then
   some (x2.1,x2.2.1,false)
  else
   some (x2.1,(IntKind.i64.wrap (x2.2.1+1)),true)
 partial_fixpoint
def An (l:List K0)(atV:Int):Option (E0×Int×Bool):=
 B2 l atV>>=fun x1=>
 (if (!(!x1.2.2))=true then U0 l x1.2.1 [108,105,109,105,116] else some default)>>=fun x2=>
 if (bif (!x1.2.2) then true else (!x2))=true then
  some ((E0.mk 6 (A0.mk 0 0 [] []) (A0.mk 0 0 [] []) [] [] 0 0 0 [] [] []),x1.2.1,false)
 else
  N5 l (IntKind.i64.wrap (x1.2.1+1))>>=fun x3=>
  if (!x3.2.2)=true then
   some ((E0.mk 6 (A0.mk 0 0 [] []) x1.1 [] [] x3.1 0 0 [] [] []),x3.2.1,false)
  else
   Hb l x3.2.1>>=fun x4=>
   some ((E0.mk 6 (A0.mk 0 0 [] []) x1.1 [] [] x3.1 0 0 [] x4.1 []),x4.2.1,x4.2.2)
 partial_fixpoint
def Fe (l:List K0)(atV:Int):Option (E0×Int×Bool):=
 B2 l atV>>=fun x1=>
 if (!x1.2.2)=true then
  some ((E0.mk 5 (A0.mk 0 0 [] []) (A0.mk 0 0 [] []) [] [] 0 0 0 [] [] []),x1.2.1,false)
 else
  Hb l x1.2.1>>=fun x2=>
  if (!x2.2.2)=true then
   some ((E0.mk 5 (A0.mk 0 0 [] []) x1.1 [] [] 0 0 0 [] x2.1 []),x2.2.1,false)
  else
   U0 l x2.2.1 [101,108,115,101]>>=fun x3=>
   if x3=true then
    Hb l (IntKind.i64.wrap (x2.2.1+1))>>=fun x4=>
    some ((E0.mk 5 (A0.mk 0 0 [] []) x1.1 [] [] 0 0 0 [] x2.1 x4.1),x4.2.1,x4.2.2)
   else
    some ((E0.mk 5 (A0.mk 0 0 [] []) x1.1 [] [] 0 0 0 [] x2.1 []),x2.2.1,x2.2.2)
 partial_fixpoint
end
def T7 (l:List K0)(x1:Str×Int×Bool)(x5:F0×Int×Bool)(o1_Params:List D0)(o1_Vars:List D0)(atV3:Int):Option (D0×Int×Bool):=
 U0 l atV3 [118,97,114]>>=fun x9=>
 if x9=true then
  Rc l (IntKind.i64.wrap (atV3+1))>>=fun x10=>
  if (!x10.2.2)=true then
   some ((D0.mk 6 x1.1 x5.1 0 (A0.mk 0 0 [] []) o1_Params o1_Vars []),x10.2.1,false)
  else
   if (decide ((o1_Vars.length+1) * 257≤140737488355328))=true then
    T7 l x1 x5 o1_Params (o1_Vars++[x10.1]) x10.2.1
   else none
 else
  X4 l atV3>>=fun x11=>
  (if (!(!x11.2.2))=true then U0 l x11.2.1 [114,101,116,117,114,110] else some default)>>=fun x12=>
  if (bif (!x11.2.2) then true else (!x12))=true then
   some ((D0.mk 6 x1.1 x5.1 0 (A0.mk 0 0 [] []) o1_Params o1_Vars x11.1),x11.2.1,false)
  else
   B2 l (IntKind.i64.wrap (x11.2.1+1))>>=fun x13=>
   if (!x13.2.2)=true then
    some ((D0.mk 6 x1.1 x5.1 0 x13.1 o1_Params o1_Vars x11.1),x13.2.1,false)
   else
    Sk l x13.2.1 [[59],[125]]>>=fun x14=>
    some ((D0.mk 6 x1.1 x5.1 0 x13.1 o1_Params o1_Vars x11.1),x14.1,x14.2)
 partial_fixpoint
end Go.Proofs.YtmnhfbekncjnfaaGreatDoor

set_option maxRecDepth 100000
set_option maxHeartbeats 4000000
set_option synthInstance.maxSize 20000
set_option linter.unusedVariables false
namespace Go.Proofs.YtmnhfbekncjnfaaGreatDoor
open Go.Am
def U7 (l:List K0)(x1:Str×Int×Bool)(o1_Params:List D0)(atV1:Int):Option (D0×Int×Bool):=
 Sk l atV1 [[41],[58]]>>=fun x4=>
 if (!x4.2)=true then
  some ((D0.mk 6 x1.1 (F0.mk 0 0 0 0 [] [] []) 0 (A0.mk 0 0 [] []) o1_Params [] []),x4.1,false)
 else
  Ta l x4.1>>=fun x5=>
  (if (!(!x5.2.2))=true then U0 l x5.2.1 [123] else some default)>>=fun x6=>
  if (bif (!x5.2.2) then true else (!x6))=true then
   some ((D0.mk 6 x1.1 x5.1 0 (A0.mk 0 0 [] []) o1_Params [] []),x5.2.1,false)
  else
   T7 l x1 x5 o1_Params [] (IntKind.i64.wrap (x5.2.1+1))
def W5 (l:List K0)(x1:Str×Int×Bool)(o1_Params1:List D0)(atV2:Int):Option (D0×Int×Bool):=
 J5 l atV2>>=fun x7=>
 if (!x7.2.2)=true then
  some ((D0.mk 6 x1.1 (F0.mk 0 0 0 0 [] [] []) 0 (A0.mk 0 0 [] []) o1_Params1 [] []),x7.2.1,false)
 else
  if (decide ((o1_Params1.length+1) * 257≤140737488355328))=true then
   U0 l x7.2.1 [44]>>=fun x8=>
   if (!x8)=true then
    U7 l x1 (o1_Params1++[x7.1]) x7.2.1
   else
    W5 l x1 (o1_Params1++[x7.1]) (IntKind.i64.wrap (x7.2.1+1))
  else none
 partial_fixpoint
def Gf (l:List K0)(atV:Int):Option (D0×Int×Bool):=
 Z7 l atV>>=fun x1=>
 (if (!(!x1.2.2))=true then U0 l x1.2.1 [40] else some default)>>=fun x2=>
 if (bif (!x1.2.2) then true else (!x2))=true then
  some ((D0.mk 6 x1.1 (F0.mk 0 0 0 0 [] [] []) 0 (A0.mk 0 0 [] []) [] [] []),x1.2.1,false)
 else
  U0 l (IntKind.i64.wrap (x1.2.1+1)) [41]>>=fun x3=>
  if (!x3)=true then
   W5 l x1 [] (IntKind.i64.wrap (x1.2.1+1))
  else
   U7 l x1 [] (IntKind.i64.wrap (x1.2.1+1))
def H5 (l:List K0)(o1_Kind:Int)(x11:D0×Int×Bool)(o1_Value:A0)(atV1:Int):Option (D0×Int×Bool):=
 U0 l atV1 [59]>>=fun x12=>
 if (!x12)=true then
  some ((D0.mk o1_Kind x11.1.Name x11.1.TypeV x11.1.Init o1_Value x11.1.Params x11.1.Vars x11.1.Body),atV1,false)
 else
  some ((D0.mk o1_Kind x11.1.Name x11.1.TypeV x11.1.Init o1_Value x11.1.Params x11.1.Vars x11.1.Body),(IntKind.i64.wrap (atV1+1)),true)
def Xb (l:List K0)(atV:Int):Option (D0×Int×Bool):=
 U0 l atV [118,97,114]>>=fun x1=>
 if x1=true then
  Rc l (IntKind.i64.wrap (atV+1))>>=fun x2=>
  some (x2.1,x2.2.1,x2.2.2)
 else
  U0 l atV [102,117,110,99]>>=fun x3=>
  if x3=true then
   Gf l (IntKind.i64.wrap (atV+1))>>=fun x4=>
   some (x4.1,x4.2.1,x4.2.2)
  else
   U0 l atV [116,121,112,101]>>=fun x5=>
   if x5=true then
    Z7 l (IntKind.i64.wrap (atV+1))>>=fun x6=>
    (if (!(!x6.2.2))=true then U0 l x6.2.1 [61] else some default)>>=fun x7=>
    if (bif (!x6.2.2) then true else (!x7))=true then
     some ((D0.mk 0 [] (F0.mk 0 0 0 0 [] [] []) 0 (A0.mk 0 0 [] []) [] [] []),x6.2.1,false)
    else
     Ta l (IntKind.i64.wrap (x6.2.1+1))>>=fun x8=>
     (if (!(!x8.2.2))=true then U0 l x8.2.1 [59] else some default)>>=fun x9=>
     if (bif (!x8.2.2) then true else (!x9))=true then
      some ((D0.mk 0 [] (F0.mk 0 0 0 0 [] [] []) 0 (A0.mk 0 0 [] []) [] [] []),x8.2.1,false)
     else
      some ((D0.mk 0 x6.1 x8.1 0 (A0.mk 0 0 [] []) [] [] []),(IntKind.i64.wrap (x8.2.1+1)),true)
   else
    idx l atV>>=fun x10=>
    J5 l (IntKind.i64.wrap (atV+1))>>=fun x11=>
    if (!x11.2.2)=true then
     some (x11.1,x11.2.1,false)
    else
     if (x10.Text == [115,101,99,114,101,116])=true then
      H5 l 1 x11 x11.1.Value x11.2.1
     else
      if (x10.Text == [112,117,98,108,105,99])=true then
       H5 l 2 x11 x11.1.Value x11.2.1
      else
       if (x10.Text == [114,97,110,100,111,109])=true then
        H5 l 3 x11 x11.1.Value x11.2.1
       else
        U0 l x11.2.1 [61]>>=fun x13=>
        if (!x13)=true then
         some ((D0.mk 5 x11.1.Name x11.1.TypeV x11.1.Init x11.1.Value x11.1.Params x11.1.Vars x11.1.Body),x11.2.1,false)
        else
         B2 l (IntKind.i64.wrap (x11.2.1+1))>>=fun x14=>
         if (!x14.2.2)=true then
          some ((D0.mk 5 x11.1.Name x11.1.TypeV x11.1.Init x14.1 x11.1.Params x11.1.Vars x11.1.Body),x14.2.1,false)
         else
          H5 l 5 x11 x14.1 x14.2.1
def T8 (l:List K0)(o1_Decls:List D0)(atV1:Int):Option (Z0×Int×Bool):=
 Vi l atV1>>=fun x1=>
 if x1=true then
  Xb l atV1>>=fun x2=>
  if (!x2.2.2)=true then
   some ((Z0.mk o1_Decls []),x2.2.1,false)
  else
   if (decide ((o1_Decls.length+1) * 257≤140737488355328))=true then
    T8 l (o1_Decls++[x2.1]) x2.2.1
   else none
 else
  U0 l atV1 [98,101,103,105,110]>>=fun x3=>
  if (!x3)=true then
   some ((Z0.mk o1_Decls []),atV1,false)
  else
   X4 l (IntKind.i64.wrap (atV1+1))>>=fun x4=>
   (if (!(!x4.2.2))=true then U0 l x4.2.1 [101,110,100] else some default)>>=fun x5=>
   if (bif (!x4.2.2) then true else (!x5))=true then
    some ((Z0.mk o1_Decls []),x4.2.1,false)
   else
    some ((Z0.mk o1_Decls x4.1),(IntKind.i64.wrap (x4.2.1+1)),true)
 partial_fixpoint
def Ga (l:List K0)(atV:Int):Option (Z0×Int×Bool):=
 T8 l [] atV
def Iq (k:Int):Option Bool:=
 some (bif (decide (k≥0)) then (decide (k≤6)) else false)
def Al (k:Int):Option Bool:=
 some (bif (k == 5) then true else (k == 6))
def Bl (v:Int):Option Bool:=
 some (bif (bif (v == 0) then true else (v == 1)) then true else (v == 2))
def Cl (v:Int):Option Bool:=
 some (bif (bif (bif (v == 0) then true else (v == 3)) then true else (v == 5)) then true else (v == 6))
mutual
def Jf (s:T0)(l:List E0)(d:Int):Option T0:=
 Ge l d s 0
 partial_fixpoint
def Ge (l:List E0)(d:Int)(o01:T0)(i:Int):Option T0:=
 if (decide (i < ((l).length:Int)))=true then
  idx l i>>=fun x1=>
  Wb (T0.mk (IntKind.i64.wrap (o01.nodes+1)) o01.depth) d>>=fun x2=>
  Bl x1.Verb>>=fun x3=>
  Be x2 x1.Place x3>>=fun x4=>
  Cl x1.Verb>>=fun x5=>
  Be x4 x1.Value x5>>=fun x6=>
  Xh l d x6 x1 i 0
 else
  some o01
 partial_fixpoint
def Xh (l:List E0)(d:Int)(o0:T0)(x1:E0)(i1:Int)(k:Int):Option T0:=
 if (decide (k < ((x1.Args).length:Int)))=true then
  idx x1.Args k>>=fun x7=>
  Be o0 x7 true>>=fun x8=>
  Xh l d x8 x1 i1 (IntKind.i64.wrap (k+1))
 else
  Jf o0 x1.Then (IntKind.i64.wrap (d+1))>>=fun x9=>
  Jf x9 x1.Else (IntKind.i64.wrap (d+1))>>=fun x10=>
  Ge l d x10 (IntKind.i64.wrap (i1+1))
 partial_fixpoint
end
mutual
def Yi (s:T0)(l:List D0):Option T0:=
 He l s 0
 partial_fixpoint
def He (l:List D0)(o0:T0)(i:Int):Option T0:=
 if (decide (i < ((l).length:Int)))=true then
  idx l i>>=fun x1=>
  Iq x1.Kind>>=fun x2=>
  Xs (T0.mk (IntKind.i64.wrap (o0.nodes+1)) o0.depth) x1.TypeV x2>>=fun x3=>
  Al x1.Kind>>=fun x4=>
  Be x3 x1.Value x4>>=fun x5=>
  Yi x5 x1.Params>>=fun x6=>
  Yi x6 x1.Vars>>=fun x7=>
  Jf x7 x1.Body 1>>=fun x8=>
  He l x8 (IntKind.i64.wrap (i+1))
 else
  some o0
 partial_fixpoint
end
def Uw (p:Z0):Option T0:=
 Yi (T0.mk 0 0) p.Decls>>=fun x1=>
 Jf x1 p.Body 1>>=fun x2=>
 some x2
def Jq (v:Int):Option Bool:=
 some (bif (bif (v == 1) then true else (v == 2)) then true else (v == 7))
def O13 (v:Int):Option Bool:=
 some (bif (v == 4) then true else (v == 6))
def Hy (v:Int):Option Bool:=
 some (bif (bif (v == 5) then true else (v == 6)) then true else (v == 7))
mutual
def Vd (l:List E0):Option Bool:=
 Od l 0
 partial_fixpoint
def Od (l:List E0)(i:Int):Option Bool:=
 if (decide (i < ((l).length:Int)))=true then
  idx l i>>=fun x1=>
  if (bif (decide (x1.Verb < 0)) then true else (decide (x1.Verb > 8)))=true then
   some false
  else
   Bl x1.Verb>>=fun x2=>
   (if x2=true then Hk x1.Place else some default)>>=fun x3=>
   (if (x2&&(!(!x3)))=true then D9 x1.Place else some default)>>=fun x4=>
   (if (!(bif x2 then (bif (!x3) then true else (!x4)) else false))=true then Bl x1.Verb else some default)>>=fun x5=>
   (if ((!(bif x2 then (bif (!x3) then true else (!x4)) else false))&&(!x5))=true then Ff x1.Place else some default)>>=fun x6=>
   if (bif (bif x2 then (bif (!x3) then true else (!x4)) else false) then true else (bif (!x5) then (!x6) else false))=true then
    some false
   else
    Cl x1.Verb>>=fun x7=>
    (if x7=true then D9 x1.Value else some default)>>=fun x8=>
    (if (!(bif x7 then (!x8) else false))=true then Cl x1.Verb else some default)>>=fun x9=>
    (if ((!(bif x7 then (!x8) else false))&&(!x9))=true then Ff x1.Value else some default)>>=fun x10=>
    if (bif (bif x7 then (!x8) else false) then true else (bif (!x9) then (!x10) else false))=true then
     some false
    else
     Jq x1.Verb>>=fun x11=>
     (if (!(bif (bif (!x11) then (!(x1.Name == [])) else false) then true else (bif (x1.Verb != 1) then (((x1.Args).length:Int) != 0) else false)))=true then O13 x1.Verb else some default)>>=fun x12=>
     if (bif (bif (bif (bif (bif (!x11) then (!(x1.Name == [])) else false) then true else (bif (x1.Verb != 1) then (((x1.Args).length:Int) != 0) else false)) then true else (bif (!x12) then (x1.NV != 0) else false)) then true else (bif (x1.Verb != 7) then (bif (x1.Low != 0) then true else (x1.High != 0)) else false)) then true else (bif (x1.Verb != 8) then (((x1.Numbers).length:Int) != 0) else false))=true then
      some false
     else
      Hy x1.Verb>>=fun x13=>
      if (bif (bif (!x13) then (((x1.Then).length:Int) != 0) else false) then true else (bif (x1.Verb != 5) then (((x1.Else).length:Int) != 0) else false))=true then
       some false
      else
       Eh l x1 i 0
 else
  some true
 partial_fixpoint
def Eh (l:List E0)(x1:E0)(i1:Int)(k:Int):Option Bool:=
 if (decide (k < ((x1.Args).length:Int)))=true then
  idx x1.Args k>>=fun x14=>
  D9 x14>>=fun x15=>
  if (!x15)=true then
   some false
  else
   Eh l x1 i1 (IntKind.i64.wrap (k+1))
 else
  Vd x1.Then>>=fun x16=>
  (if (!(!x16))=true then Vd x1.Else else some default)>>=fun x17=>
  if (bif (!x16) then true else (!x17))=true then
   some false
  else
   Od l (IntKind.i64.wrap (i1+1))
 partial_fixpoint
end
mutual
def Fh (l:List D0):Option Bool:=
 Pd l 0
 partial_fixpoint
def Pd (l:List D0)(i:Int):Option Bool:=
 if (decide (i < ((l).length:Int)))=true then
  idx l i>>=fun x1=>
  Iq x1.Kind>>=fun x2=>
  (if (!(!x2))=true then Ni x1.TypeV else some default)>>=fun x3=>
  if (bif (!x2) then true else (!x3))=true then
   some false
  else
   Al x1.Kind>>=fun x4=>
   (if x4=true then D9 x1.Value else some default)>>=fun x5=>
   (if (!(bif x4 then (!x5) else false))=true then Al x1.Kind else some default)>>=fun x6=>
   (if ((!(bif x4 then (!x5) else false))&&(!x6))=true then Ff x1.Value else some default)>>=fun x7=>
   if (bif (bif (bif x4 then (!x5) else false) then true else (bif (!x6) then (!x7) else false)) then true else (bif (x1.Kind != 4) then (x1.Init != 0) else false))=true then
    some false
   else
    if (bif (x1.Kind != 6) then (bif (bif (((x1.Params).length:Int) != 0) then true else (((x1.Vars).length:Int) != 0)) then true else (((x1.Body).length:Int) != 0)) else false)=true then
     some false
    else
     U8 l x1 i 0
 else
  some true
 partial_fixpoint
def U8 (l:List D0)(x1:D0)(i1:Int)(k:Int):Option Bool:=
 if (decide (k < ((x1.Params).length:Int)))=true then
  idx x1.Params k>>=fun x8=>
  (if (!(x8.Kind != 4))=true then idx x1.Params k else some default)>>=fun x9=>
  if (bif (x8.Kind != 4) then true else (x9.Init != 0))=true then
   some false
  else
   U8 l x1 i1 (IntKind.i64.wrap (k+1))
 else
  V8 l x1 i1 0
 partial_fixpoint
def V8 (l:List D0)(x1:D0)(i2:Int)(k1:Int):Option Bool:=
 if (decide (k1 < ((x1.Vars).length:Int)))=true then
  idx x1.Vars k1>>=fun x10=>
  if (x10.Kind != 4)=true then
   some false
  else
   V8 l x1 i2 (IntKind.i64.wrap (k1+1))
 else
  Fh x1.Params>>=fun x11=>
  (if (!(!x11))=true then Fh x1.Vars else some default)>>=fun x12=>
  (if (!(bif (!x11) then true else (!x12)))=true then Vd x1.Body else some default)>>=fun x13=>
  if (bif (bif (!x11) then true else (!x12)) then true else (!x13))=true then
   some false
  else
   Pd l (IntKind.i64.wrap (i2+1))
 partial_fixpoint
end
mutual
def Tc (l:List E0):Option Bool:=
 Kc l 0
 partial_fixpoint
def Kc (l:List E0)(i:Int):Option Bool:=
 if (decide (i < ((l).length:Int)))=true then
  idx l i>>=fun x1=>
  Jq x1.Verb>>=fun x2=>
  (if x2=true then Wf x1.Name else some default)>>=fun x3=>
  (if (!(bif x2 then (!x3) else false))=true then A8 x1.Place else some default)>>=fun x4=>
  (if (!(bif (bif x2 then (!x3) else false) then true else (!x4)))=true then A8 x1.Value else some default)>>=fun x5=>
  (if (!(bif (bif (bif x2 then (!x3) else false) then true else (!x4)) then true else (!x5)))=true then Tc x1.Then else some default)>>=fun x6=>
  (if (!(bif (bif (bif (bif x2 then (!x3) else false) then true else (!x4)) then true else (!x5)) then true else (!x6)))=true then Tc x1.Else else some default)>>=fun x7=>
  if (bif (bif (bif (bif (bif x2 then (!x3) else false) then true else (!x4)) then true else (!x5)) then true else (!x6)) then true else (!x7))=true then
   some false
  else
   Jg l x1 i 0
 else
  some true
 partial_fixpoint
def Jg (l:List E0)(x1:E0)(i1:Int)(k:Int):Option Bool:=
 if (decide (k < ((x1.Args).length:Int)))=true then
  idx x1.Args k>>=fun x8=>
  A8 x8>>=fun x9=>
  if (!x9)=true then
   some false
  else
   Jg l x1 i1 (IntKind.i64.wrap (k+1))
 else
  Kc l (IntKind.i64.wrap (i1+1))
 partial_fixpoint
end
end Go.Proofs.YtmnhfbekncjnfaaGreatDoor

set_option maxRecDepth 100000
set_option maxHeartbeats 4000000
set_option synthInstance.maxSize 20000
set_option linter.unusedVariables false
namespace Go.Proofs.YtmnhfbekncjnfaaGreatDoor
open Go.Am
mutual
def Zf (l:List D0):Option Bool:=
 Lc l 0
 partial_fixpoint
def Lc (l:List D0)(i:Int):Option Bool:=
 if (decide (i < ((l).length:Int)))=true then
  idx l i>>=fun x1=>
  Wf x1.Name>>=fun x2=>
  (if (!(!x2))=true then Ch x1.TypeV else some default)>>=fun x3=>
  (if (!(bif (!x2) then true else (!x3)))=true then A8 x1.Value else some default)>>=fun x4=>
  (if (!(bif (bif (!x2) then true else (!x3)) then true else (!x4)))=true then Zf x1.Params else some default)>>=fun x5=>
  (if (!(bif (bif (bif (!x2) then true else (!x3)) then true else (!x4)) then true else (!x5)))=true then Zf x1.Vars else some default)>>=fun x6=>
  (if (!(bif (bif (bif (bif (!x2) then true else (!x3)) then true else (!x4)) then true else (!x5)) then true else (!x6)))=true then Tc x1.Body else some default)>>=fun x7=>
  if (bif (bif (bif (bif (bif (!x2) then true else (!x3)) then true else (!x4)) then true else (!x5)) then true else (!x6)) then true else (!x7))=true then
   some false
  else
   Lc l (IntKind.i64.wrap (i+1))
 else
  some true
 partial_fixpoint
end
def Pb (s:E0)(k:Int):Option Bool:=
 if (decide (k < ((s.Numbers).length:Int)))=true then
  idx s.Numbers k>>=fun x3=>
  (if (!(decide (x3 < 0)))=true then idx s.Numbers k else some default)>>=fun x4=>
  (if ((!(bif (decide (x3 < 0)) then true else (decide (x4 > 1048576))))&&(decide (k > 0)))=true then idx s.Numbers k else some default)>>=fun x5=>
  (if ((!(bif (decide (x3 < 0)) then true else (decide (x4 > 1048576))))&&(decide (k > 0)))=true then idx s.Numbers (IntKind.i64.wrap (k - 1)) else some default)>>=fun x6=>
  if (bif (bif (decide (x3 < 0)) then true else (decide (x4 > 1048576))) then true else (bif (decide (k > 0)) then (decide (x5≤x6)) else false))=true then
   some false
  else
   Pb s (IntKind.i64.wrap (k+1))
 else
  some true
 partial_fixpoint
def Om (s:E0):Option Bool:=
 if (s.Verb == 4)=true then
  some (bif (decide (s.NV≥0)) then (decide (s.NV≤1048576)) else false)
 else
  if (s.Verb == 6)=true then
   some (bif (decide (s.NV≥0)) then (decide (s.NV≤4096)) else false)
  else
   if (s.Verb == 7)=true then
    Oi s.Low>>=fun x1=>
    (if x1=true then Oi s.High else some default)>>=fun x2=>
    some (bif (bif (bif x1 then x2 else false) then (decide (s.Low≤s.High)) else false) then (decide ((IntKind.i64.wrap ((IntKind.i64.wrap (s.High - s.Low))+1))≤4096)) else false)
   else
    if (s.Verb == 8)=true then
     if (bif (decide (((s.Numbers).length:Int) < 1)) then true else (decide (((s.Numbers).length:Int) > 32)))=true then
      some false
     else
      Pb s 0
    else
     some true
mutual
def Xa (l:List E0):Option Bool:=
 Ya l 0
 partial_fixpoint
def Ya (l:List E0)(i:Int):Option Bool:=
 if (decide (i < ((l).length:Int)))=true then
  idx l i>>=fun x1=>
  Om x1>>=fun x2=>
  (if (!(!x2))=true then P6 x1.Place else some default)>>=fun x3=>
  (if (!(bif (!x2) then true else (!x3)))=true then P6 x1.Value else some default)>>=fun x4=>
  (if (!(bif (bif (!x2) then true else (!x3)) then true else (!x4)))=true then Xa x1.Then else some default)>>=fun x5=>
  (if (!(bif (bif (bif (!x2) then true else (!x3)) then true else (!x4)) then true else (!x5)))=true then Xa x1.Else else some default)>>=fun x6=>
  if (bif (bif (bif (bif (!x2) then true else (!x3)) then true else (!x4)) then true else (!x5)) then true else (!x6))=true then
   some false
  else
   Wd l x1 i 0
 else
  some true
 partial_fixpoint
def Wd (l:List E0)(x1:E0)(i1:Int)(k:Int):Option Bool:=
 if (decide (k < ((x1.Args).length:Int)))=true then
  idx x1.Args k>>=fun x7=>
  P6 x7>>=fun x8=>
  if (!x8)=true then
   some false
  else
   Wd l x1 i1 (IntKind.i64.wrap (k+1))
 else
  Ya l (IntKind.i64.wrap (i1+1))
 partial_fixpoint
end
mutual
def Qd (l:List D0):Option Bool:=
 Za l 0
 partial_fixpoint
def Za (l:List D0)(i:Int):Option Bool:=
 if (decide (i < ((l).length:Int)))=true then
  idx l i>>=fun x1=>
  Oi x1.Init>>=fun x2=>
  if (bif (!x2) then true else (bif (x1.TypeV.Kind == 0) then (bif (decide (x1.Init < 0)) then true else (decide (x1.Init > 1))) else false))=true then
   some false
  else
   Ee x1.TypeV>>=fun x3=>
   (if (!(!x3))=true then P6 x1.Value else some default)>>=fun x4=>
   (if (!(bif (!x3) then true else (!x4)))=true then Qd x1.Params else some default)>>=fun x5=>
   (if (!(bif (bif (!x3) then true else (!x4)) then true else (!x5)))=true then Qd x1.Vars else some default)>>=fun x6=>
   (if (!(bif (bif (bif (!x3) then true else (!x4)) then true else (!x5)) then true else (!x6)))=true then Xa x1.Body else some default)>>=fun x7=>
   if (bif (bif (bif (bif (!x3) then true else (!x4)) then true else (!x5)) then true else (!x6)) then true else (!x7))=true then
    some false
   else
    Za l (IntKind.i64.wrap (i+1))
 else
  some true
 partial_fixpoint
end
def Vw (p:Z0):Option Int:=
 Uw p>>=fun x1=>
 Fh p.Decls>>=fun x2=>
 (if x2=true then Vd p.Body else some default)>>=fun x3=>
 Zf p.Decls>>=fun x4=>
 (if x4=true then Tc p.Body else some default)>>=fun x5=>
 Qd p.Decls>>=fun x6=>
 (if x6=true then Xa p.Body else some default)>>=fun x7=>
 Ws x1 (bif x2 then x3 else false) (bif x4 then x5 else false) (bif x6 then x7 else false)>>=fun x8=>
 some x8
def P13 (text:Str):Option (Z0×Int×Int):=
 Nl text>>=fun x1=>
 if (x1.2.2 != 0)=true then
  some ((Z0.mk [] []),x1.2.1,x1.2.2)
 else
  Ga x1.1 0>>=fun x2=>
  if (bif (!x2.2.2) then true else (decide (x2.2.1 < ((x1.1).length:Int))))=true then
   Ou text x1.1 x2.2.1>>=fun x3=>
   some ((Z0.mk [] []),x3,6)
  else
   Vw x2.1>>=fun x4=>
   if (x4 != 0)=true then
    some ((Z0.mk [] []),0,x4)
   else
    some (x2.1,0,0)
def K4 (text:Str)(more:Str)(x4:Z0×Int×Int)(x2:List K0×Int×Int)(v59:Int):Option Bool:=
 if (decide (v59 < ((x2.1).length:Int)))=true then
  idx x2.1 v59>>=fun x5=>
  if (x5.At == x4.2.1)=true then
   slc text 0 (IntKind.i64.wrap (x4.2.1+((x5.Text).length:Int)))>>=fun x6=>
   if (decide (x6.length+1≤maxLen))=true then
    if (decide ((x6++[10]).length+more.length≤maxLen))=true then
     Nd ((x6++[10])++more)>>=fun x7=>
     some (bif (x7.2.2 == 6) then (x7.2.1 == x4.2.1) else false)
    else none
   else none
  else
   K4 text more x4 x2 (IntKind.i64.wrap (v59+1))
 else
  some (x4.2.1 == ((text).length:Int))
 partial_fixpoint
abbrev Bn (text:Str)(more:Str)(x4:Z0×Int×Int)(x2:List K0×Int×Int)(v59:Int)(res:Bool):Prop:=LM C 94 0 Tryz.f9 [1,1,1,1,1,1,1,0,1,4] [(0,.d (.str text)),(1,.d (.str more)),(12,.d (.int .i64 x4.2.1)),(57,.d (.sl (K0.rows x2.1))),(58,.d (.int .i64 ((x2.1).length:Int))),(59,.d (.int .i64 v59))] [] (Ret [] (.d (.bool res)))
theorem Yu (text:Str)(more:Str)(x4:Z0×Int×Int)(x2:List K0×Int×Int):(∀ v59 res,K4 text more x4 x2 v59=some res→Bn text more x4 x2 v59 res):=by
 refine K4.partial_correctness text more x4 x2 _ ?_
 ·intro g0 ih0 v59 res hh
  refine C1.unroll (t' rfl (S' (ci' rfl hh (fun hh=>?_) (fun hh=>?_))))
  ·obtain ⟨x5,hx5,hh⟩:=bs' hh
   refine sk' (S' (bk' (s' rfl rfl (i' rfl (J2 hx5) (K0.idx hx5) rfl (q' rfl (I0.n hC rfl (I0.s hC rfl (n' (t' rfl (ci' rfl hh (fun hh=>?_) (fun hh=>?_)))))))))))
   ·obtain ⟨x6,hx6,hh⟩:=bs' hh
    obtain ⟨c9,hh⟩:=J6 hh
    obtain ⟨c10,hh⟩:=J6 hh
    obtain ⟨x7,hx7,hh⟩:=bs' hh
    cases hh
    refine p' 6 rfl (I0.lx hC rfl hx6 (qc' rfl c9 (q' rfl (qc' rfl c10 (c' (Aw hx7) rfl rfl (o' 4 rfl (I0.nf hC rfl (I0.s hC rfl (e' rfl (sg' 8 rfl (G' 5 rfl (a2' rfl (pa' rfl ?_)))))))))))))
    exact a0' rfl (an' (n' (re' (rt' rfl rfl rfl))))
   exact sk' (T' rfl (lw' (ih0 _ _ hh) rfl rfl rfl))
  cases hh
  exact ex' (t' rfl (re' (rt' rfl rfl rfl)))
theorem Rv {text more x4 x2 v59 res}(hh:K4 text more x4 x2 v59=some res):Bn text more x4 x2 v59 res:=(Yu text more x4 x2) _ _ hh
def Yh (text:Str)(more:Str):Option Bool:=
 Ph>>=fun x1=>
 if (!x1)=true then
  some false
 else
  if (bif (decide (((text).length:Int) > 1000)) then true else (decide (((more).length:Int) > 1000)))=true then
   some true
  else
   Nl text>>=fun x2=>
   Nl more>>=fun x3=>
   Nd text>>=fun x4=>
   if (bif (bif (x2.2.2 != 0) then true else (x3.2.2 != 0)) then true else (x4.2.2 != 6))=true then
    some true
   else
    K4 text more x4 x2 0
theorem Jz {text more res}(hh:Yh text more=some res):X0 C 9 [.d (.str text),.d (.str more)] [] (Ret [] (.d (.bool res))):=by
 unfold Yh at hh
 obtain ⟨x1,hx1,hh⟩:=bs' hh
 refine X0.intro hC Tryz.func9 rfl rfl rfl (t' rfl (S' (s' rfl rfl (c' (M17 hx1) rfl rfl (e' rfl (ci' rfl hh (fun hh=>?_) (fun hh=>?_)))))))
 ·cases hh
  exact t' rfl (re' (rt' rfl rfl rfl))
 refine sk' (S' (sg' 8 rfl (G' 5 rfl (a1' rfl (a1' rfl (po' rfl (an' (n' (ci' rfl hh (fun hh=>?_) (fun hh=>?_))))))))))
 ·cases hh
  exact t' rfl (re' (rt' rfl rfl rfl))
 obtain ⟨x2,hx2,hh⟩:=bs' hh
 obtain ⟨x3,hx3,hh⟩:=bs' hh
 obtain ⟨x4,hx4,hh⟩:=bs' hh
 refine sk' (p' 1 rfl (c' (W11 hx2) rfl rfl (e' rfl (p' 1 rfl (c' (W11 hx3) rfl rfl (e' rfl (p' 1 rfl (c' (Aw hx4) rfl rfl (o' 4 rfl (I0.nf hC rfl (I0.s hC rfl (e' rfl (S' ?_)))))))))))))
 refine sg' 10 rfl (G' 4 rfl (a1' rfl (po' rfl (G' 2 rfl (a1' rfl (po' rfl (an' (n' (ci' rfl hh (fun hh=>?_) (fun hh=>?_))))))))))
 ·cases hh
  exact t' rfl (re' (rt' rfl rfl rfl))
 exact sk' (S' (p' 1 rfl (qe' rfl trivial (K0.lenA _) (e' rfl (bk' (fw' (Rv hh) rfl rfl rfl))))))
end Go.Proofs.YtmnhfbekncjnfaaGreatDoor

