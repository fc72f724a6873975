/- A part of the proof of ParserTypes. -/
import Derived.Test.YtmnhfbekncjnfaaGreatDoorXxA
import Derived.Test.YtmnhfbekncjnfaaGreatDoorAmF
set_option maxRecDepth 100000
set_option maxHeartbeats 4000000
set_option synthInstance.maxSize 20000
set_option linter.unusedVariables false
namespace Go.Proofs.YtmnhfbekncjnfaaGreatDoor
open Go.Am
instance:Nonempty (D2 C):=⟨hC⟩
def estr.row (x:Str):Row:=[.str x]
def estr.rows (l:List Str):List Row:=l.map estr.row
theorem estr.rows_map (l:List Str):estr.rows l=l.map estr.row:=rfl
theorem estr.idx {l:List Str}{n:Int}{x:Str}(h:idx l n=some x):(estr.rows l)[n.toNat]?=some (estr.row x):=Mp estr.rows_map h
theorem estr.app (l m:List Str):estr.rows (l++m)=estr.rows l++estr.rows m:=Ru estr.rows_map l m
theorem estr.len (l:List Str):(estr.rows l).length=l.length:=Su estr.rows_map l
theorem estr.lenA (l:List Str):A.d (.int .i64 ((estr.rows l).length:Nat))=A.d (.int .i64 (l.length:Nat)):=Fm estr.rows_map l
theorem estr.sz (l:List Str):∀ r∈estr.rows l,r.length=1:=Yx estr.rows_map (fun _=>rfl) l
def ei64.row (x:Int):Row:=[.int .i64 x]
def ei64.rows (l:List Int):List Row:=l.map ei64.row
structure B0 where
 Op:Int
 NV:Int
 Name:Str
 Kids:List B0
def B0.zero:B0:=⟨0,0,[],[]⟩
instance:Inhabited B0:=⟨B0.zero⟩
mutual
def B0.rowX:B0→Row
 | .mk y0 y1 y2 y3=>[.int .i64 y0,.int .i64 y1,.str y2,.sl (B0.rowsX y3)]
def B0.rowsX:List B0→List Row
 | []=>[]
 | x::r=>B0.rowX x::B0.rowsX r
end
def B0.rows (l:List B0):List Row:=B0.rowsX l
def B0.row (x:B0):Row:=[.int .i64 x.Op,.int .i64 x.NV,.str x.Name,.sl (B0.rows x.Kids)]
theorem B0.rows_map:∀ l,B0.rows l=l.map B0.row
 | []=>rfl
 | x::r=>by
  show B0.rowX x::B0.rows r=B0.row x::r.map B0.row
  rw [B0.rows_map r]
  cases x
  rfl
def B0.cells (x:B0):List A:=[.d (.int .i64 x.Op),.d (.int .i64 x.NV),.d (.str x.Name),.d (.sl (B0.rows x.Kids))]
theorem B0.idx {l:List B0}{n:Int}{x:B0}(h:idx l n=some x):(B0.rows l)[n.toNat]?=some (B0.row x):=Mp B0.rows_map h
theorem B0.lenA (l:List B0):A.d (.int .i64 ((B0.rows l).length:Nat))=A.d (.int .i64 (l.length:Nat)):=Fm B0.rows_map l
structure F0 where
 Kind:Int
 Text:Str
 At:Int
def F0.zero:F0:=⟨0,[],0⟩
instance:Inhabited F0:=⟨F0.zero⟩
def F0.row (x:F0):Row:=[.int .i64 x.Kind,.str x.Text,.int .i64 x.At]
def F0.rows (l:List F0):List Row:=l.map F0.row
theorem F0.rows_map (l:List F0):F0.rows l=l.map F0.row:=rfl
def F0.cells (x:F0):List A:=[.d (.int .i64 x.Kind),.d (.str x.Text),.d (.int .i64 x.At)]
theorem F0.idx {l:List F0}{n:Int}{x:F0}(h:idx l n=some x):(F0.rows l)[n.toNat]?=some (F0.row x):=Mp F0.rows_map h
theorem F0.app (l m:List F0):F0.rows (l++m)=F0.rows l++F0.rows m:=Ru F0.rows_map l m
theorem F0.len (l:List F0):(F0.rows l).length=l.length:=Su F0.rows_map l
theorem F0.lenA (l:List F0):A.d (.int .i64 ((F0.rows l).length:Nat))=A.d (.int .i64 (l.length:Nat)):=Fm F0.rows_map l
theorem F0.sz (l:List F0):∀ r∈F0.rows l,r.length=3:=Yx F0.rows_map (fun _=>rfl) l
structure A0 where
 tokens:List F0
 next:Int
 endV:Int
def A0.zero:A0:=⟨[],0,0⟩
instance:Inhabited A0:=⟨A0.zero⟩
def A0.cells (x:A0):List A:=[.d (.sl (F0.rows x.tokens)),.d (.int .i64 x.next),.d (.int .i64 x.endV)]
structure I0 where
 nodes:Int
 depth:Int
 badForm:Bool
 badName:Bool
 badNumber:Bool
def I0.zero:I0:=⟨0,0,false,false,false⟩
instance:Inhabited I0:=⟨I0.zero⟩
def I0.cells (x:I0):List A:=[.d (.int .i64 x.nodes),.d (.int .i64 x.depth),.d (.bool x.badForm),.d (.bool x.badName),.d (.bool x.badNumber)]
structure Q1 where
 nodes:Int
 depth:Int
def Q1.zero:Q1:=⟨0,0⟩
instance:Inhabited Q1:=⟨Q1.zero⟩
def Q1.cells (x:Q1):List A:=[.d (.int .i64 x.nodes),.d (.int .i64 x.depth)]
structure C0 where
 Kind:Int
 Low:Int
 High:Int
 Size:Int
 Name:Str
 Names:List Str
 Of:List C0
def C0.zero:C0:=⟨0,0,0,0,[],[],[]⟩
instance:Inhabited C0:=⟨C0.zero⟩
mutual
def C0.rowX:C0→Row
 | .mk y0 y1 y2 y3 y4 y5 y6=>[.int .i64 y0,.int .i64 y1,.int .i64 y2,.int .i64 y3,.str y4,.sl (estr.rows y5),.sl (C0.rowsX y6)]
def C0.rowsX:List C0→List Row
 | []=>[]
 | x::r=>C0.rowX x::C0.rowsX r
end
def C0.rows (l:List C0):List Row:=C0.rowsX l
def C0.row (x:C0):Row:=[.int .i64 x.Kind,.int .i64 x.Low,.int .i64 x.High,.int .i64 x.Size,.str x.Name,.sl (estr.rows x.Names),.sl (C0.rows x.Of)]
theorem C0.rows_map:∀ l,C0.rows l=l.map C0.row
 | []=>rfl
 | x::r=>by
  show C0.rowX x::C0.rows r=C0.row x::r.map C0.row
  rw [C0.rows_map r]
  cases x
  rfl
def C0.cells (x:C0):List A:=[.d (.int .i64 x.Kind),.d (.int .i64 x.Low),.d (.int .i64 x.High),.d (.int .i64 x.Size),.d (.str x.Name),.d (.sl (estr.rows x.Names)),.d (.sl (C0.rows x.Of))]
theorem C0.idx {l:List C0}{n:Int}{x:C0}(h:idx l n=some x):(C0.rows l)[n.toNat]?=some (C0.row x):=Mp C0.rows_map h
theorem C0.app (l m:List C0):C0.rows (l++m)=C0.rows l++C0.rows m:=Ru C0.rows_map l m
theorem C0.len (l:List C0):(C0.rows l).length=l.length:=Su C0.rows_map l
theorem C0.lenA (l:List C0):A.d (.int .i64 ((C0.rows l).length:Nat))=A.d (.int .i64 (l.length:Nat)):=Fm C0.rows_map l
theorem C0.sz (l:List C0):∀ r∈C0.rows l,r.length=7:=Yx C0.rows_map (fun _=>rfl) l
structure R0 where
 Verb:Int
 Place:B0
 Value:B0
 Name:Str
 Args:List B0
 NV:Int
 Low:Int
 High:Int
 Numbers:List Int
 Then:List R0
 Else:List R0
def R0.zero:R0:=⟨0,⟨0,0,[],[]⟩,⟨0,0,[],[]⟩,[],[],0,0,0,[],[],[]⟩
instance:Inhabited R0:=⟨R0.zero⟩
mutual
def R0.rowX:R0→Row
 | .mk y0 y1 y2 y3 y4 y5 y6 y7 y8 y9 y10=>[.int .i64 y0,.int .i64 y1.Op,.int .i64 y1.NV,.str y1.Name,.sl (B0.rows y1.Kids),.int .i64 y2.Op,.int .i64 y2.NV,.str y2.Name,.sl (B0.rows y2.Kids),.str y3,.sl (B0.rows y4),.int .i64 y5,.int .i64 y6,.int .i64 y7,.sl (ei64.rows y8),.sl (R0.rowsX y9),.sl (R0.rowsX y10)]
def R0.rowsX:List R0→List Row
 | []=>[]
 | x::r=>R0.rowX x::R0.rowsX r
end
def R0.rows (l:List R0):List Row:=R0.rowsX l
structure Y2 where
 Kind:Int
 Name:Str
 TypeV:C0
 Init:Int
 Value:B0
 Params:List Y2
 Vars:List Y2
 Body:List R0
def Y2.zero:Y2:=⟨0,[],⟨0,0,0,0,[],[],[]⟩,0,⟨0,0,[],[]⟩,[],[],[]⟩
instance:Inhabited Y2:=⟨Y2.zero⟩
mutual
def Y2.rowX:Y2→Row
 | .mk y0 y1 y2 y3 y4 y5 y6 y7=>[.int .i64 y0,.str y1,.int .i64 y2.Kind,.int .i64 y2.Low,.int .i64 y2.High,.int .i64 y2.Size,.str y2.Name,.sl (estr.rows y2.Names),.sl (C0.rows y2.Of),.int .i64 y3,.int .i64 y4.Op,.int .i64 y4.NV,.str y4.Name,.sl (B0.rows y4.Kids),.sl (Y2.rowsX y5),.sl (Y2.rowsX y6),.sl (R0.rows y7)]
def Y2.rowsX:List Y2→List Row
 | []=>[]
 | x::r=>Y2.rowX x::Y2.rowsX r
end
def Y2.rows (l:List Y2):List Row:=Y2.rowsX l
def Y2.cells (x:Y2):List A:=[.d (.int .i64 x.Kind),.d (.str x.Name),.d (.int .i64 x.TypeV.Kind),.d (.int .i64 x.TypeV.Low),.d (.int .i64 x.TypeV.High),.d (.int .i64 x.TypeV.Size),.d (.str x.TypeV.Name),.d (.sl (estr.rows x.TypeV.Names)),.d (.sl (C0.rows x.TypeV.Of)),.d (.int .i64 x.Init),.d (.int .i64 x.Value.Op),.d (.int .i64 x.Value.NV),.d (.str x.Value.Name),.d (.sl (B0.rows x.Value.Kids)),.d (.sl (Y2.rows x.Params)),.d (.sl (Y2.rows x.Vars)),.d (.sl (R0.rows x.Body))]
structure Ek where
 Decls:List Y2
 Body:List R0
def Ek.zero:Ek:=⟨[],[]⟩
instance:Inhabited Ek:=⟨Ek.zero⟩
structure Fk where
 place:Bool
 value:Bool
 name:Bool
 args:Bool
 n:Bool
 bounds:Bool
 numbers:Bool
 thenV:Bool
 other:Bool
def Fk.zero:Fk:=⟨false,false,false,false,false,false,false,false,false⟩
instance:Inhabited Fk:=⟨Fk.zero⟩
end Go.Proofs.YtmnhfbekncjnfaaGreatDoor

set_option maxRecDepth 100000
set_option maxHeartbeats 4000000
set_option synthInstance.maxSize 20000
set_option linter.unusedVariables false
namespace Go.Proofs.YtmnhfbekncjnfaaGreatDoor
open Go.Am
def L6 (c:Int):Option Bool:=
 some (bif (decide (c≥97)) then (decide (c≤122)) else false)
theorem Bf {c res}(hh:L6 c=some res):K0 C 160 [.d (.int .u8 c)] [] (Ret [] (.d (.bool res))):=by
 unfold L6 at hh
 cases hh
 exact K0.intro hC Tryz.func160 rfl rfl rfl (t' rfl (sg' 7 rfl (G' 4 rfl (a1' rfl (pa' rfl (a0' rfl (an' (n' (re' (rt' rfl rfl rfl))))))))))
def C5 (c:Int):Option Bool:=
 some (bif (decide (c≥48)) then (decide (c≤57)) else false)
theorem Yc {c res}(hh:C5 c=some res):K0 C 163 [.d (.int .u8 c)] [] (Ret [] (.d (.bool res))):=by
 unfold C5 at hh
 cases hh
 exact K0.intro hC Tryz.func163 rfl rfl rfl (t' rfl (sg' 7 rfl (G' 4 rfl (a1' rfl (pa' rfl (a0' rfl (an' (n' (re' (rt' rfl rfl rfl))))))))))
def U4 (s:Str)(i1:Int):Option Int:=
 (if (decide (i1 < ((s).length:Int)))=true then idx s i1 else some default)>>=fun x1=>
 (if (decide (i1 < ((s).length:Int)))=true then L6 (x1.toNat:Int) else some default)>>=fun x2=>
 (if ((decide (i1 < ((s).length:Int)))&&(!x2))=true then idx s i1 else some default)>>=fun x3=>
 (if ((decide (i1 < ((s).length:Int)))&&(!x2))=true then C5 (x3.toNat:Int) else some default)>>=fun x4=>
 if (bif (decide (i1 < ((s).length:Int))) then (bif x2 then true else x4) else false)=true then
  U4 s (IntKind.i64.wrap (i1+1))
 else
  some i1
 partial_fixpoint
abbrev Zn (s:Str)(i1:Int)(res:Int):Prop:=LM C 24 0 Tryz.f161 [1,0,4] [(0,.d (.str s)),(1,.d (.int .i64 i1))] [] (Ret [] (.d (.int .i64 res)))
theorem Uu (s:Str):(∀ i1 res,U4 s i1=some res→Zn s i1 res):=by
 refine U4.partial_correctness s _ ?_
 ·intro g0 ih0 i1 res hh
  obtain ⟨x1,hx1,hh⟩:=bs' hh
  obtain ⟨x2,hx2,hh⟩:=bs' hh
  obtain ⟨x3,hx3,hh⟩:=bs' hh
  obtain ⟨x4,hx4,hh⟩:=bs' hh
  refine S0.unroll (S' (sg' 16 rfl (G' 7 rfl (AG.x hC rfl rfl (fun hg=>⟨hg,hg,trivial⟩) (fun hw=>⟨J1 (F2 hw hx1),X2 (F2 hw hx1)⟩) (AG.c rfl rfl (fun hg=>⟨hg,trivial⟩) (fun hw=>Bf (F2 hw hx2)) (a1' rfl (G' 2 rfl (AG.x hC rfl rfl (fun hg=>⟨hg,hg,trivial⟩) (fun hw=>⟨J1 (F2 hw hx3),X2 (F2 hw hx3)⟩) ?_))))))))
  refine AG.c rfl rfl (fun hg=>⟨hg,trivial⟩) (fun hw=>Yc (F2 hw hx4)) (pO' rfl (pa' rfl (an' (n' (ci' rfl hh (fun hh=>?_) (fun hh=>?_))))))
  ·exact sk' (bk' (T' rfl (lw' (ih0 _ _ hh) rfl rfl rfl)))
  cases hh
  exact ex' (t' rfl (re' (rt' rfl rfl rfl)))
theorem Ow {s i1 res}(hh:U4 s i1=some res):Zn s i1 res:=(Uu s) _ _ hh
def Ae (s:Str)(i:Int):Option Int:=
 U4 s i
theorem As {s i res}(hh:Ae s i=some res):K0 C 161 [.d (.str s),.d (.int .i64 i)] [] (Ret [] (.d (.int .i64 res))):=by
 unfold Ae at hh
 exact K0.intro hC Tryz.func161 rfl rfl rfl (t' rfl (S' (bk' (fw' (Ow hh) rfl rfl rfl))))
def G5 (C6:Str):Option Bool:=
 (if (!(C6 == []))=true then Xc C6 [32] else some default)>>=fun x1=>
 if (!(bif (!(C6 == [])) then (!x1) else false)||(decide (1+C6.length≤maxLen)))=true then
  if (!(bif (!(C6 == [])) then (!x1) else false)||(decide (([32]++C6).length+1≤maxLen)))=true then
   (if (bif (!(C6 == [])) then (!x1) else false)=true then Xc [32,116,121,112,101,32,115,101,99,114,101,116,32,112,117,98,108,105,99,32,114,97,110,100,111,109,32,118,97,114,32,104,97,116,99,104,32,102,117,110,99,32,114,101,116,117,114,110,32,98,101,103,105,110,32,101,110,100,32,98,111,111,108,32,105,110,116,32,97,114,114,97,121,32,111,102,32,114,101,99,111,114,100,32,116,114,117,101,32,102,97,108,115,101,32,99,97,108,108,32,114,101,108,101,97,115,101,32,111,117,116,112,117,116,32,119,97,105,116,32,105,102,32,101,108,115,101,32,119,104,105,108,101,32,108,105,109,105,116,32,102,111,114,32,116,111,32,115,101,116,116,108,101,32,109,105,110,32,109,97,120,32] (([32]++C6)++[32]) else some default)>>=fun x2=>
   some (bif (bif (!(C6 == [])) then (!x1) else false) then x2 else false)
  else none
 else none
theorem Jj {C6 res}(hh:G5 C6=some res):K0 C 162 [.d (.str C6)] [] (Ret [] (.d (.bool res))):=by
 unfold G5 at hh
 obtain ⟨x1,hx1,hh⟩:=bs' hh
 obtain ⟨c7,hh⟩:=X10 hh
 obtain ⟨c8,hh⟩:=X10 hh
 obtain ⟨x2,hx2,hh⟩:=bs' hh
 cases hh
 refine K0.intro hC Tryz.func162 rfl rfl rfl (t' rfl (sg' 14 rfl (G' 4 rfl (AG.c rfl rfl (fun hg=>⟨hg,trivial⟩) (fun hw=>Gq (F2 hw hx1)) (a1' rfl (pa' rfl (G' 2 rfl (ag' rfl (fun hg=>⟨⟨hg,trivial⟩,(c7 hg)⟩) (ag' rfl (fun hg=>⟨⟨hg,trivial⟩,(c8 hg)⟩) (AG.c rfl rfl (fun hg=>⟨hg,trivial⟩) (fun hw=>Gq (F2 hw hx2)) (pa' rfl (a0' rfl (an' ?_)))))))))))))
 exact n' (re' (rt' rfl rfl rfl))
def Z2 (s:Str)(n:Int)(v7:Int):Option Int:=
 if (decide (v7 < ((s).length:Int)))=true then
  idx s v7>>=fun x1=>
  C5 (x1.toNat:Int)>>=fun x2=>
  if (!x2)=true then
   some 6
  else
   idx s v7>>=fun x3=>
   Z2 s (min (IntKind.i64.wrap ((IntKind.i64.wrap (10 * n))+(IntKind.i64.wrap (IntKind.u8.wrap ((x3.toNat:Int) - 48))))) 1048577) (IntKind.i64.wrap (v7+1))
 else
  idx s 0>>=fun x4=>
  if (bif ((x4.toNat:Int) == 48) then (decide (((s).length:Int) > 1)) else false)=true then
   some 6
  else
   if (decide (n > 1048576))=true then
    some 3
   else
    some 0
 partial_fixpoint
abbrev Kj (s:Str)(n:Int)(v7:Int)(res:Int):Prop:=LM C 37 0 Tryz.f164 [1,1,0,1,4] [(0,.d (.str s)),(3,.d (.int .i64 n)),(6,.d (.int .i64 ((s).length:Int))),(7,.d (.int .i64 v7))] [] (Ret [] (.d (.int .i64 res)))
theorem Lq (s:Str):(∀ n v7 res,Z2 s n v7=some res→Kj s n v7 res):=by
 refine Z2.partial_correctness s _ ?_
 ·intro g0 ih0 n v7 res hh
  refine S0.unroll (t' rfl (S' (ci' rfl hh (fun hh=>?_) (fun hh=>?_))))
  ·obtain ⟨x1,hx1,hh⟩:=bs' hh
   obtain ⟨x2,hx2,hh⟩:=bs' hh
   refine sk' (S' (bk' (t' rfl (S' (p' 2 rfl (x' rfl (J1 hx1) (X2 hx1) (c' (Yc hx2) rfl rfl (e' rfl (ci' rfl hh (fun hh=>?_) (fun hh=>?_))))))))))
   ·cases hh
    exact t' rfl (re' (rt' rfl rfl rfl))
   obtain ⟨x3,hx3,hh⟩:=bs' hh
   exact sk' (P' 4 rfl (x' rfl (J1 hx3) (X2 hx3) (e' rfl (T' rfl (lw' (ih0 _ _ _ hh) rfl rfl rfl)))))
  obtain ⟨x4,hx4,hh⟩:=bs' hh
  refine ex' (S' (bk' (sg' 9 rfl (a0' rfl (AG.x hC rfl rfl (fun _=>trivial) (fun hw=>⟨J1 hx4,X2 hx4⟩) (G' 3 rfl (a1' rfl (a1' rfl (pa' rfl (a0' rfl (an' (n' (ci' rfl hh (fun hh=>?_) (fun hh=>?_))))))))))))))
  ·cases hh
   exact t' rfl (re' (rt' rfl rfl rfl))
  refine t' rfl (ci' rfl hh (fun hh=>?_) (fun hh=>?_))
  ·cases hh
   exact t' rfl (re' (rt' rfl rfl rfl))
  cases hh
  exact sk' (t' rfl (re' (rt' rfl rfl rfl)))
theorem Bs {s n v7 res}(hh:Z2 s n v7=some res):Kj s n v7 res:=(Lq s) _ _ _ hh
def Wb (s:Str):Option Int:=
 Z2 s 0 0
theorem Pw {s res}(hh:Wb s=some res):K0 C 164 [.d (.str s)] [] (Ret [] (.d (.int .i64 res))):=by
 unfold Wb at hh
 exact K0.intro hC Tryz.func164 rfl rfl rfl (t' rfl (t' rfl (S' (t' rfl (bk' (fw' (Bs hh) rfl rfl rfl))))))
def O7 (s:Str):Option Str:=
 idx s 0>>=fun x3=>
 Di [59,58,44,46,61,43,45,42,47,37,60,62,33,63,40,41,91,93,123,125] (x3.toNat:Int)>>=fun x4=>
 if (decide (x4≥0))=true then
  slc s 0 1>>=fun x5=>
  some x5
 else
  some []
theorem Uk {s res}(hh:O7 s=some res):JM C 24 0 Tryz.f165 [1,1] [(0,.d (.str s))] [] (Ret [] (.d (.str res))):=by
 unfold O7 at hh
 obtain ⟨x3,hx3,hh⟩:=bs' hh
 obtain ⟨x4,hx4,hh⟩:=bs' hh
 refine S' (p' 1 rfl (x' rfl (J1 hx3) (X2 hx3) (c' (Dy hx4) rfl rfl (e' rfl (ci' rfl hh (fun hh=>?_) (fun hh=>?_))))))
 ·obtain ⟨x5,hx5,hh⟩:=bs' hh
  cases hh
  exact p' 1 rfl (E0.lx hC rfl hx5 (e' rfl (re' (rt' rfl rfl rfl))))
 cases hh
 exact sk' (t' rfl (re' (rt' rfl rfl rfl)))
def P3 (s:Str)(v8:Bool):Option Str:=
 if v8=true then
  slc s 0 2>>=fun x2=>
  some x2
 else
  O7 s
theorem I6 {s v8 res}(hh:P3 s v8=some res):JM C 24 0 Tryz.f165 [1,0,1,2,1,4,1] [(0,.d (.str s)),(8,.d (.bool v8))] [] (Ret [] (.d (.str res))):=by
 unfold P3 at hh
 refine ci' rfl hh (fun hh=>?_) (fun hh=>?_)
 ·obtain ⟨x2,hx2,hh⟩:=bs' hh
  cases hh
  exact p' 1 rfl (E0.lx hC rfl hx2 (e' rfl (re' (rt' rfl rfl rfl))))
 exact sk' (ew' (Uk hh) rfl rfl rfl)
def L9 (s:Str):Option Str:=
 if (decide (((s).length:Int)≥2))=true then
  slc s 0 2>>=fun x1=>
  if (x1 == [46,46])=true then
   P3 s (x1 == [46,46])
  else
   if (x1 == [61,61])=true then
    P3 s (x1 == [61,61])
   else
    if (x1 == [33,61])=true then
     P3 s (x1 == [33,61])
    else
     if (x1 == [60,61])=true then
      P3 s (x1 == [60,61])
     else
      if (x1 == [62,61])=true then
       P3 s (x1 == [62,61])
      else
       if (x1 == [38,38])=true then
        P3 s (x1 == [38,38])
       else
        P3 s (x1 == [124,124])
 else
  O7 s
theorem Vz {s res}(hh:L9 s=some res):K0 C 165 [.d (.str s)] [] (Ret [] (.d (.str res))):=by
 unfold L9 at hh
 refine K0.intro hC Tryz.func165 rfl rfl rfl (t' rfl (S' (t' rfl (ci' rfl hh (fun hh=>?_) (fun hh=>?_)))))
 ·obtain ⟨x1,hx1,hh⟩:=bs' hh
  refine p' 1 rfl (E0.lx hC rfl hx1 (n' (bk' (S' (t' rfl (ci' rfl hh (fun hh=>?_) (fun hh=>?_)))))))
  ·exact sk' (ew' (I6 hh) rfl rfl rfl)
  refine t' rfl (ci' rfl hh (fun hh=>?_) (fun hh=>?_))
  ·exact sk' (ew' (I6 hh) rfl rfl rfl)
  refine t' rfl (ci' rfl hh (fun hh=>?_) (fun hh=>?_))
  ·exact sk' (ew' (I6 hh) rfl rfl rfl)
  refine t' rfl (ci' rfl hh (fun hh=>?_) (fun hh=>?_))
  ·exact sk' (ew' (I6 hh) rfl rfl rfl)
  refine t' rfl (ci' rfl hh (fun hh=>?_) (fun hh=>?_))
  ·exact sk' (ew' (I6 hh) rfl rfl rfl)
  refine t' rfl (ci' rfl hh (fun hh=>?_) (fun hh=>?_))
  ·exact sk' (ew' (I6 hh) rfl rfl rfl)
  exact T' rfl (ew' (I6 hh) rfl rfl rfl)
 exact sk' (ew' (Uk hh) rfl rfl rfl)
def Va (s:Str)(i:Int):Option (F0×Int):=
 idx s i>>=fun x1=>
 L6 (x1.toNat:Int)>>=fun x2=>
 if x2=true then
  Ae s i>>=fun x3=>
  slc s i x3>>=fun x4=>
  G5 x4>>=fun x5=>
  if x5=true then
   some ((F0.mk 2 x4 i),0)
  else
   if (decide (((x4).length:Int) > 12))=true then
    some ((F0.mk 0 x4 i),7)
   else
    some ((F0.mk 0 x4 i),0)
 else
  C5 (x1.toNat:Int)>>=fun x6=>
  if x6=true then
   Ae s i>>=fun x7=>
   slc s i x7>>=fun x8=>
   Wb x8>>=fun x9=>
   some ((F0.mk 1 x8 i),x9)
  else
   slc s i ((s).length:Int)>>=fun x10=>
   L9 x10>>=fun x11=>
   if (x11 == [])=true then
    some ((F0.mk 3 x11 i),6)
   else
    some ((F0.mk 3 x11 i),0)
theorem Wz {s i res}(hh:Va s i=some res):K0 C 109 [.d (.str s),.d (.int .i64 i)] [] (Ret [] (.tup [.agg (F0.cells res.1),.d (.int .i64 res.2)])):=by
 unfold Va at hh
 obtain ⟨x1,hx1,hh⟩:=bs' hh
 obtain ⟨x2,hx2,hh⟩:=bs' hh
 refine K0.intro hC Tryz.func109 rfl rfl rfl (s' rfl rfl (E0.n hC rfl (e' rfl (p' 2 rfl (E0.n hC rfl (E0.s hC rfl (n' (S' (p' 2 rfl (x' rfl (J1 hx1) (X2 hx1) (e' rfl (bk' (p' 1 rfl ?_)))))))))))))
 refine c' (Bf hx2) rfl rfl (e' rfl (ci' rfl hh (fun hh=>?_) (fun hh=>?_)))
 ·obtain ⟨x3,hx3,hh⟩:=bs' hh
  obtain ⟨x4,hx4,hh⟩:=bs' hh
  obtain ⟨x5,hx5,hh⟩:=bs' hh
  refine p' 4 rfl (c' (As hx3) rfl rfl (E0.lx hC rfl hx4 (q' rfl (E0.s hC rfl (n' (p' 2 rfl (c' (Jj hx5) rfl rfl (n' (ci' rfl hh (fun hh=>?_) (fun hh=>?_))))))))))
  ·cases hh
   exact P' 1 rfl (E0.s hC rfl (n' (p' 1 rfl (E0.s hC rfl (e' rfl (re' (rt' rfl rfl rfl)))))))
  refine t' rfl (ci' rfl hh (fun hh=>?_) (fun hh=>?_))
  ·cases hh
   exact p' 1 rfl (E0.s hC rfl (e' rfl (re' (rt' rfl rfl rfl))))
  cases hh
  exact sk' (p' 1 rfl (E0.s hC rfl (e' rfl (re' (rt' rfl rfl rfl)))))
 obtain ⟨x6,hx6,hh⟩:=bs' hh
 refine p' 1 rfl (c' (Yc hx6) rfl rfl (e' rfl (ci' rfl hh (fun hh=>?_) (fun hh=>?_))))
 ·obtain ⟨x7,hx7,hh⟩:=bs' hh
  obtain ⟨x8,hx8,hh⟩:=bs' hh
  obtain ⟨x9,hx9,hh⟩:=bs' hh
  cases hh
  refine p' 4 rfl (c' (As hx7) rfl rfl (E0.lx hC rfl hx8 (q' rfl (E0.s hC rfl (q' rfl (E0.s hC rfl (n' (S' (AEx.draw hC 4 rfl rfl rfl (O' 3 rfl (Qc' (Pw hx9) rfl rfl (Qn' (E0.s hC rfl ?_)))))))))))))
  exact e' rfl (re' (rt' rfl rfl rfl))
 obtain ⟨x10,hx10,hh⟩:=bs' hh
 obtain ⟨x11,hx11,hh⟩:=bs' hh
 refine p' 2 rfl (E0.lx hC rfl hx10 (c' (Vz hx11) rfl rfl (q' rfl (E0.s hC rfl (q' rfl (E0.s hC rfl (n' (t' rfl (ci' rfl hh (fun hh=>?_) (fun hh=>?_))))))))))
 ·cases hh
  exact p' 1 rfl (E0.s hC rfl (e' rfl (re' (rt' rfl rfl rfl))))
 cases hh
 exact sk' (p' 1 rfl (E0.s hC rfl (e' rfl (re' (rt' rfl rfl rfl)))))
mutual
def L2 (s:Str)(out:List F0)(i:Int):Option (List F0×Int×Int):=
 if (decide (i < ((s).length:Int)))=true then
  idx s i>>=fun x1=>
  if ((x1.toNat:Int) == 32)=true then
   O8 s out i x1 ((x1.toNat:Int) == 32)
  else
   if ((x1.toNat:Int) == 9)=true then
    O8 s out i x1 ((x1.toNat:Int) == 9)
   else
    O8 s out i x1 ((x1.toNat:Int) == 10)
 else
  some (out,0,0)
 partial_fixpoint
def O8 (s:Str)(out1:List F0)(i1:Int)(x1:UInt8)(v19:Bool):Option (List F0×Int×Int):=
 if v19=true then
  L2 s out1 (IntKind.i64.wrap (i1+1))
 else
  if ((x1.toNat:Int) == 35)=true then
   B6 s out1 i1
  else
   Va s i1>>=fun x2=>
   if (x2.2 != 0)=true then
    some ([],i1,x2.2)
   else
    if (decide ((out1.length+1) * 33≤140737488355328))=true then
     L2 s (out1++[x2.1]) (IntKind.i64.wrap (i1+((x2.1.Text).length:Int)))
    else none
 partial_fixpoint
def B6 (s:Str)(out2:List F0)(i2:Int):Option (List F0×Int×Int):=
 (if (decide (i2 < ((s).length:Int)))=true then idx s i2 else some default)>>=fun x3=>
 if (bif (decide (i2 < ((s).length:Int))) then ((x3.toNat:Int) != 10) else false)=true then
  B6 s out2 (IntKind.i64.wrap (i2+1))
 else
  L2 s out2 i2
 partial_fixpoint
end
abbrev Ao (s:Str)(out:List F0)(i:Int)(res:List F0×Int×Int):Prop:=LM C 59 0 Tryz.f57 [1,1,1,0,1,4] [(0,.d (.str s)),(5,.osl 0 (F0.rows out)),(6,.d (.int .i64 i))] [.tok 62 3] (Ret [] (.tup [.d (.sl (F0.rows res.1)),.d (.int .i64 res.2.1),.d (.int .i64 res.2.2)]))
abbrev Ey (s:Str)(out1:List F0)(i1:Int)(x1:UInt8)(v19:Bool)(res:List F0×Int×Int):Prop:=JM C 59 0 Tryz.f57 [1,1,1,0,1,4,5,1,4,0,1,4,1] [(0,.d (.str s)),(5,.osl 0 (F0.rows out1)),(6,.d (.int .i64 i1)),(18,.d (.int .u8 (x1.toNat:Int))),(19,.d (.bool v19))] [.tok 62 3] (Ret [] (.tup [.d (.sl (F0.rows res.1)),.d (.int .i64 res.2.1),.d (.int .i64 res.2.2)]))
abbrev Fy (s:Str)(out2:List F0)(i2:Int)(res:List F0×Int×Int):Prop:=LM C 59 0 Tryz.f57 [1,1,1,0,1,4,5,1,4,0,1,4,1,3,1,2,0,4] [(0,.d (.str s)),(5,.osl 0 (F0.rows out2)),(6,.d (.int .i64 i2))] [.tok 62 3] (Ret [] (.tup [.d (.sl (F0.rows res.1)),.d (.int .i64 res.2.1),.d (.int .i64 res.2.2)]))
theorem Vu (s:Str):(∀ out i res,L2 s out i=some res→Ao s out i res)∧(∀ out1 i1 x1 v19 res,O8 s out1 i1 x1 v19=some res→Ey s out1 i1 x1 v19 res)∧(∀ out2 i2 res,B6 s out2 i2=some res→Fy s out2 i2 res):=by
 refine L2.mutual_partial_correctness s _ _ _ ?_ ?_ ?_
 ·intro g1 ih1 out i res hh
  refine S0.unroll (S' (t' rfl (ci' rfl hh (fun hh=>?_) (fun hh=>?_))))
  ·obtain ⟨x1,hx1,hh⟩:=bs' hh
   refine sk' (bk' (S' (p' 2 rfl (x' rfl (J1 hx1) (X2 hx1) (n' (bk' (S' (t' rfl (ci' rfl hh (fun hh=>?_) (fun hh=>?_))))))))))
   ·exact sk' (ew' (ih1 _ _ _ _ _ hh) rfl rfl rfl)
   refine t' rfl (ci' rfl hh (fun hh=>?_) (fun hh=>?_))
   ·exact sk' (ew' (ih1 _ _ _ _ _ hh) rfl rfl rfl)
   exact T' rfl (ew' (ih1 _ _ _ _ _ hh) rfl rfl rfl)
  refine ex' (t' rfl (re' ?_))
  obtain rfl:=oi' hh
  exact ⟨_,.tup [.d (.sl (F0.rows out)),.d (.int .i64 0),.d (.int .i64 0)],[],rfl,(.tupL ⟨.osl,.rfl,.rfl,trivial⟩),trivial,rfl,rfl,rfl,rfl⟩
 ·intro g0 g2 ih0 ih2 out1 i1 x1 v19 res hh
  refine ci' rfl hh (fun hh=>?_) (fun hh=>?_)
  ·exact t' rfl (ex' (lw' (ih0 _ _ _ hh) rfl rfl rfl))
  refine t' rfl (ci' rfl hh (fun hh=>?_) (fun hh=>?_))
  ·exact S' (bk' (fw' (ih2 _ _ _ hh) rfl rfl rfl))
  obtain ⟨x2,hx2,hh⟩:=bs' hh
  refine sk' (p' 2 rfl (c' (Wz hx2) rfl rfl (o' 3 rfl (E0.n hC rfl (E0.s hC rfl (e' rfl (S' (t' rfl (ci' rfl hh (fun hh=>?_) (fun hh=>?_))))))))))
  ·refine t' rfl (re' ?_)
   obtain rfl:=oi' hh
   exact ⟨_,.tup [.d (.sl (F0.rows [])),.d (.int .i64 i1),.d (.int .i64 x2.2)],[],rfl,(.tupL ⟨.full,.rfl,.rfl,trivial⟩),trivial,rfl,rfl,rfl,rfl⟩
  obtain ⟨c9,hh⟩:=T9 hh
  exact sk' (p' 2 rfl (E0.be hC rfl (F0.rows_map [x2.1]).symm (E0.ap hC rfl (rs:=F0.rows (out1++[x2.1])) (F0.app out1 [x2.1]) (F0.sz out1) (F0.sz [x2.1]) (Kk (F0.len out1) (F0.len [x2.1]) c9) (e' rfl (T' rfl (lw' (ih0 _ _ _ hh) rfl rfl rfl))))))
 ·intro g0 g2 ih0 ih2 out2 i2 res hh
  obtain ⟨x3,hx3,hh⟩:=bs' hh
  refine S0.unroll (S' (sg' 10 rfl (G' 7 rfl (AG.x hC rfl rfl (fun hg=>⟨hg,hg,trivial⟩) (fun hw=>⟨J1 (F2 hw hx3),X2 (F2 hw hx3)⟩) (a1' rfl (pa' rfl (an' (n' (ci' rfl hh (fun hh=>?_) (fun hh=>?_))))))))))
  ·exact sk' (bk' (T' rfl (lw' (ih2 _ _ _ hh) rfl rfl rfl)))
  exact ex' (ex' (lw' (ih0 _ _ _ hh) rfl rfl rfl))
theorem Rw {s out i res}(hh:L2 s out i=some res):Ao s out i res:=(Vu s).1 _ _ _ hh
def Kc (s:Str):Option (List F0×Int×Int):=
 if (decide (((s).length:Int) > 8192))=true then
  some ([],0,5)
 else
  L2 s [] 0
theorem Cs {s res}(hh:Kc s=some res):K0 C 57 [.d (.str s)] [] (Ret [] (.tup [.d (.sl (F0.rows res.1)),.d (.int .i64 res.2.1),.d (.int .i64 res.2.2)])):=by
 unfold Kc at hh
 refine K0.intro hC Tryz.func57 rfl rfl rfl (t' rfl (S' (t' rfl (ci' rfl hh (fun hh=>?_) (fun hh=>?_)))))
 ·refine t' rfl (re' ?_)
  obtain rfl:=oi' hh
  exact ⟨_,.tup [.d (.sl (F0.rows [])),.d (.int .i64 0),.d (.int .i64 5)],[],rfl,(.tupL ⟨.full,.rfl,.rfl,trivial⟩),trivial,rfl,rfl,rfl,rfl⟩
 exact sk' (p' 1 rfl (E0.tokE 5 62 3 rfl (n' (S' (t' rfl (bk' (fw' (Rw hh) rfl rfl rfl)))))))
def V4 (text:Str)(parserParser:A0):Option Bool:=
 if (decide (parserParser.next≥((parserParser.tokens).length:Int)))=true then
  some false
 else
  idx parserParser.tokens parserParser.next>>=fun x1=>
  some (bif (x1.Text == text) then (bif (x1.Kind == 2) then true else (x1.Kind == 3)) else false)
theorem Mq {text parserParser res}(hh:V4 text parserParser=some res):K0 C 113 [.ref 0 0,.d (.str text)] [.row (A0.cells parserParser) 99] (Ret [.row (A0.cells parserParser) 99] (.d (.bool res))):=by
 unfold V4 at hh
 refine K0.intro hC Tryz.func113 rfl rfl rfl (t' rfl (S' (S' (AEx.draw hC 10 rfl rfl rfl (O' 8 rfl (AQ.qe hC rfl trivial (F0.lenA _) (E' rfl (n' (ci' rfl hh (fun hh=>?_) (fun hh=>?_))))))))))
 ·cases hh
  exact t' rfl (re' (rt' rfl rfl rfl))
 obtain ⟨x1,hx1,hh⟩:=bs' hh
 cases hh
 refine sk' (S' (AEx.drawL hC 11 [] [(10,1)] [[.row (A0.cells parserParser) 99,.row [.d (.int .i64 0),.d (.str []),.d (.int .i64 0)] 62]] rfl rfl rfl rfl rfl rfl rfl rfl rfl rfl (AS.q hC rfl rfl rfl rfl (AS.q hC rfl rfl rfl rfl (AS.q hC rfl rfl rfl rfl (AS.q hC rfl rfl rfl rfl (AS.q hC rfl rfl rfl rfl (AS.q hC rfl rfl rfl rfl (AS.q hC rfl rfl rfl rfl (AS.q hC rfl rfl rfl rfl ?_))))))))))
 refine AS.ix hC rfl (J1 hx1) (F0.idx hx1) rfl rfl rfl (AS.q hC rfl rfl rfl rfl (AS.n hC rfl rfl rfl rfl (AS.nil (E0.s hC rfl (n' (sg' 15 rfl (G' 6 rfl (a1' rfl (a1' rfl (a1' rfl (a0' rfl (a1' rfl (a1' rfl ?_)))))))))))))
 exact pO' rfl (pa' rfl (a0' rfl (an' (n' (re' (rt' rfl rfl rfl))))))
def L0 (text:Str)(parserParser:A0):Option (Bool×A0):=
 V4 text parserParser>>=fun x1=>
 if (!x1)=true then
  some (false,parserParser)
 else
  some (true,(A0.mk parserParser.tokens (IntKind.i64.wrap (parserParser.next+1)) parserParser.endV))
theorem O0 {text parserParser res}(hh:L0 text parserParser=some res):K0 C 61 [.ref 0 0,.d (.str text)] [.row (A0.cells parserParser) 99] (Ret [.row (A0.cells res.2) 99] (.d (.bool res.1))):=by
 unfold L0 at hh
 obtain ⟨x1,hx1,hh⟩:=bs' hh
 refine K0.intro hC Tryz.func61 rfl rfl rfl (t' rfl (S' (p' 2 rfl (g' [0] (Mq hx1) rfl rfl rfl rfl rfl rfl (e' rfl (ci' rfl hh (fun hh=>?_) (fun hh=>?_)))))))
 ·cases hh
  exact t' rfl (re' (rt' rfl rfl rfl))
 cases hh
 exact sk' (p' 7 rfl (E0.s hC rfl (n' (t' rfl (re' (rt' rfl rfl rfl))))))
def H5 (parserParser:A0):Option Bool:=
 (if (decide (parserParser.next < ((parserParser.tokens).length:Int)))=true then idx parserParser.tokens parserParser.next else some default)>>=fun x1=>
 some (bif (decide (parserParser.next < ((parserParser.tokens).length:Int))) then (x1.Kind == 0) else false)
theorem Rl {parserParser res}(hh:H5 parserParser=some res):K0 C 172 [.ref 0 0] [.row (A0.cells parserParser) 99] (Ret [.row (A0.cells parserParser) 99] (.d (.bool res))):=by
 unfold H5 at hh
 obtain ⟨x1,hx1,hh⟩:=bs' hh
 cases hh
 refine K0.intro hC Tryz.func172 rfl rfl rfl (t' rfl (S' (AEx.drawG hC 25 rfl rfl rfl (G' 8 rfl (AG.qe hC rfl (fun hg=>⟨trivial,trivial⟩) (F0.lenA _) (G' 3 rfl (a1' rfl (a1' rfl (a1' rfl (a0' rfl (a1' rfl (a1' rfl (a1' rfl ?_)))))))))))))
 exact AG.i hC rfl rfl (fun hg=>⟨hg,hg,trivial⟩) (fun hw=>⟨J1 (F2 hw hx1),F0.idx (F2 hw hx1),rfl⟩) (a1' rfl (a1' rfl (a1' rfl (pa' rfl (a0' rfl (an' (n' (re' (rt' rfl rfl rfl)))))))))
def V2 (parserParser:A0):Option (Pn Unit):=
 if (decide (parserParser.next < ((parserParser.tokens).length:Int)))=true then
  idx parserParser.tokens parserParser.next>>=fun x1=>
  some (.pn x1.At)
 else
  some (.pn parserParser.endV)
theorem B3 {parserParser res}(hh:V2 parserParser=some res):Y1 C 59 [.ref 0 0] [.row (A0.cells parserParser) 99] (F5 res (fun rr=>[.row (A0.cells parserParser) 99]) (fun rr=>.tup [])) (T4 res J3 [.row (A0.cells parserParser) 99]):=by
 unfold V2 at hh
 refine Y1.intro hC Tryz.func59 rfl rfl rfl (t' rfl (S' (S' (AEx.draw hC 10 rfl rfl rfl (O' 8 rfl (AQ.qe hC rfl trivial (F0.lenA _) (E' rfl (n' (ci' rfl hh (fun hh=>?_) (fun hh=>?_))))))))))
 ·obtain ⟨x1,hx1,hh⟩:=bs' hh
  cases hh
  exact AEx.draw hC 12 rfl rfl rfl (O' 8 rfl (AQ.i hC rfl (J1 hx1) (F0.idx hx1) rfl (E' rfl (n' (P' 2 rfl (pn' hC rfl ((fun hi=>pe' rfl rfl hi))))))))
 cases hh
 exact sk' (P' 2 rfl (pn' hC rfl ((fun hi=>pe' rfl rfl hi))))
def R3 (parserParser:A0):Option (Pn (Str×A0)):=
 idx parserParser.tokens (IntKind.i64.wrap ((IntKind.i64.wrap (parserParser.next+1)) - 1))>>=fun x3=>
 some (.ok (x3.Text,(A0.mk parserParser.tokens (IntKind.i64.wrap (parserParser.next+1)) parserParser.endV)))
theorem Be {parserParser res}(hh:R3 parserParser=some res):JMp C 51 1 Tryz.f132 [1,1] [(0,.ref 0 0)] [.row (A0.cells parserParser) 99] (F5 res (fun rr=>[.row (A0.cells rr.2) 99]) (fun rr=>.d (.str rr.1))) (T4 res J3 [.row (A0.cells parserParser) 99]):=by
 unfold R3 at hh
 obtain ⟨x3,hx3,hh⟩:=bs' hh
 cases hh
 exact p' 7 rfl (E0.s hC rfl (n' (S' (AEx.draw hC 13 rfl rfl rfl (O' 9 rfl (AQ.i hC rfl (J1 hx3) (F0.idx hx3) rfl (E' rfl (n' (re' (rt' rfl rfl rfl))))))))))
def Y3 (k:Int)(parserParser:A0):Option (Pn (Str×A0)):=
 (if (!(decide (parserParser.next≥((parserParser.tokens).length:Int))))=true then idx parserParser.tokens parserParser.next else some default)>>=fun x1=>
 if (bif (decide (parserParser.next≥((parserParser.tokens).length:Int))) then true else (x1.Kind != k))=true then
  V2 parserParser>>=fun x2=>match x2 with
  | .pn nn=>
  some (.pn nn)
  | .ok x2=>
  R3 parserParser
 else
  R3 parserParser
theorem Y8 {k parserParser res}(hh:Y3 k parserParser=some res):Y1 C 132 [.ref 0 0,.d (.int .i64 k)] [.row (A0.cells parserParser) 99] (F5 res (fun rr=>[.row (A0.cells rr.2) 99]) (fun rr=>.d (.str rr.1))) (T4 res J3 [.row (A0.cells parserParser) 99]):=by
 unfold Y3 at hh
 obtain ⟨x1,hx1,hh⟩:=bs' hh
 refine Y1.intro hC Tryz.func132 rfl rfl rfl (t' rfl (S' (S' (AEx.drawG hC 25 rfl rfl rfl (G' 8 rfl (AG.qe hC rfl (fun hg=>⟨trivial,trivial⟩) (F0.lenA _) (G' 3 rfl (a1' rfl (a1' rfl (a1' rfl (a0' rfl (a1' rfl (a1' rfl ?_)))))))))))))
 refine a1' rfl (AG.i hC rfl rfl (fun hg=>⟨hg,hg,trivial⟩) (fun hw=>⟨J1 (F2 hw hx1),F0.idx (F2 hw hx1),rfl⟩) (a1' rfl (a1' rfl (a0' rfl (a2' rfl (po' rfl (an' (n' (ci' rfl hh (fun hh=>?_) (fun hh=>?_))))))))))
 ·refine P' 1 rfl ?_
  rcases bp' hh with ⟨nn,hx2,⟨⟩⟩ | ⟨x2,hx2,hh⟩
  ·exact gn' [0] (B3 hx2) rfl rfl rfl rfl rfl (fun hi=>pe' rfl rfl hi)
  exact g' [0] ((B3 hx2).ok) rfl rfl rfl rfl rfl rfl (n' (ew' (Be hh) rfl rfl rfl))
 exact sk' (ew' (Be hh) rfl rfl rfl)
def I2 (parserParser:A0):Option (Pn (Str×A0)):=
 Y3 0 parserParser>>=fun x1=>match x1 with
 | .pn nn=>
 some (.pn nn)
 | .ok x1=>
 some (.ok (x1.1,x1.2))
theorem L1 {parserParser res}(hh:I2 parserParser=some res):Y1 C 73 [.ref 0 0] [.row (A0.cells parserParser) 99] (F5 res (fun rr=>[.row (A0.cells rr.2) 99]) (fun rr=>.d (.str rr.1))) (T4 res J3 [.row (A0.cells parserParser) 99]):=by
 unfold I2 at hh
 refine Y1.intro hC Tryz.func73 rfl rfl rfl (t' rfl (p' 1 rfl ?_))
 rcases bp' hh with ⟨nn,hx1,⟨⟩⟩ | ⟨x1,hx1,hh⟩
 ·exact gn' [0] (Y8 hx1) rfl rfl rfl rfl rfl (fun hi=>pe' rfl rfl hi)
 cases hh
 exact g' [0] ((Y8 hx1).ok) rfl rfl rfl rfl rfl rfl (e' rfl (re' (rt' rfl rfl rfl)))
def P0 (text:Str)(parserParser:A0):Option (Pn A0):=
 L0 text parserParser>>=fun x1=>
 if (!x1.1)=true then
  V2 x1.2>>=fun x2=>match x2 with
  | .pn nn=>
  some (.pn nn)
  | .ok x2=>
  some (.ok x1.2)
 else
  some (.ok x1.2)
theorem T0 {text parserParser res}(hh:P0 text parserParser=some res):Y1 C 62 [.ref 0 0,.d (.str text)] [.row (A0.cells parserParser) 99] (F5 res (fun rr=>[.row (A0.cells rr) 99]) (fun rr=>.tup [])) (T4 res J3 [.dead]):=by
 unfold P0 at hh
 obtain ⟨x1,hx1,hh⟩:=bs' hh
 refine Y1.intro hC Tryz.func62 rfl rfl rfl (p' 2 rfl (g' [0] (O0 hx1) rfl rfl rfl rfl rfl rfl (e' rfl (ci' rfl hh (fun hh=>?_) (fun hh=>?_)))))
 ·refine P' 1 rfl ?_
  rcases bp' hh with ⟨nn,hx2,⟨⟩⟩ | ⟨x2,hx2,hh⟩
  ·exact gn' [0] (B3 hx2) rfl rfl rfl rfl rfl (fun hi=>peW ⟨trivial,trivial⟩ rfl hi)
  cases hh
  exact g' [0] ((B3 hx2).ok) rfl rfl rfl rfl rfl rfl (n' (rn' rfl rfl rfl))
 cases hh
 exact sk' (rn' rfl rfl rfl)
def U2 (parserParser:A0):Option (Pn (Int×A0)):=
 Y3 1 parserParser>>=fun x1=>match x1 with
 | .pn nn=>
 some (.pn nn)
 | .ok x1=>
 Yn x1.1>>=fun x2=>
 some (.ok (x2,x1.2))
theorem B4 {parserParser res}(hh:U2 parserParser=some res):Y1 C 131 [.ref 0 0] [.row (A0.cells parserParser) 99] (F5 res (fun rr=>[.row (A0.cells rr.2) 99]) (fun rr=>.d (.int .i64 rr.1))) (T4 res J3 [.row (A0.cells parserParser) 99]):=by
 unfold U2 at hh
 refine Y1.intro hC Tryz.func131 rfl rfl rfl (t' rfl (p' 1 rfl ?_))
 rcases bp' hh with ⟨nn,hx1,⟨⟩⟩ | ⟨x1,hx1,hh⟩
 ·exact gn' [0] (Y8 hx1) rfl rfl rfl rfl rfl (fun hi=>pe' rfl rfl hi)
 obtain ⟨x2,hx2,hh⟩:=bs' hh
 cases hh
 exact g' [0] ((Y8 hx1).ok) rfl rfl rfl rfl rfl rfl (c' (M16 hx2) rfl rfl (e' rfl (t' rfl (re' (rt' rfl rfl rfl)))))
def N5 (parserParser:A0):Option (Int×Bool×A0):=
 L0 [42] parserParser>>=fun x1=>
 if x1.1=true then
  some (10,true,x1.2)
 else
  L0 [47] x1.2>>=fun x2=>
  if x2.1=true then
   some (11,true,x2.2)
  else
   L0 [37] x2.2>>=fun x3=>
   some (12,x3.1,x3.2)
theorem Dj {parserParser res}(hh:N5 parserParser=some res):K0 C 215 [.ref 0 0] [.row [.ref 1 0] 68,.row (A0.cells parserParser) 99] (Ret [.row [.ref 1 0] 68,.row (A0.cells res.2.2) 99] (.tup [.d (.int .i64 res.1),.d (.bool res.2.1)])):=by
 unfold N5 at hh
 obtain ⟨x1,hx1,hh⟩:=bs' hh
 refine K0.intro hC Tryz.func215 rfl rfl rfl (t' rfl (S' (bk' (p' 1 rfl (g' [1] (O0 hx1) rfl rfl rfl rfl rfl rfl (e' rfl (ci' rfl hh (fun hh=>?_) (fun hh=>?_))))))))
 ·cases hh
  exact t' rfl (re' (rt' rfl rfl rfl))
 obtain ⟨x2,hx2,hh⟩:=bs' hh
 refine p' 1 rfl (g' [1] (O0 hx2) rfl rfl rfl rfl rfl rfl (e' rfl (ci' rfl hh (fun hh=>?_) (fun hh=>?_))))
 ·cases hh
  exact t' rfl (re' (rt' rfl rfl rfl))
 obtain ⟨x3,hx3,hh⟩:=bs' hh
 cases hh
 exact sk' (p' 1 rfl (g' [1] (O0 hx3) rfl rfl rfl rfl rfl rfl (e' rfl (re' (rt' rfl rfl rfl)))))
def W7 (parserParser:A0):Option (Int×Bool×A0):=
 L0 [43] parserParser>>=fun x1=>
 if x1.1=true then
  some (8,true,x1.2)
 else
  L0 [45] x1.2>>=fun x2=>
  some (9,x2.1,x2.2)
theorem Qm {parserParser res}(hh:W7 parserParser=some res):K0 C 204 [.ref 0 0] [.row [.ref 1 0] 68,.row (A0.cells parserParser) 99] (Ret [.row [.ref 1 0] 68,.row (A0.cells res.2.2) 99] (.tup [.d (.int .i64 res.1),.d (.bool res.2.1)])):=by
 unfold W7 at hh
 obtain ⟨x1,hx1,hh⟩:=bs' hh
 refine K0.intro hC Tryz.func204 rfl rfl rfl (t' rfl (S' (p' 1 rfl (g' [1] (O0 hx1) rfl rfl rfl rfl rfl rfl (n' (ci' rfl hh (fun hh=>?_) (fun hh=>?_)))))))
 ·cases hh
  exact t' rfl (re' (rt' rfl rfl rfl))
 obtain ⟨x2,hx2,hh⟩:=bs' hh
 cases hh
 exact sk' (p' 1 rfl (g' [1] (O0 hx2) rfl rfl rfl rfl rfl rfl (e' rfl (re' (rt' rfl rfl rfl)))))
def X7 (parserParser:A0):Option (Int×Bool×A0):=
 L0 [38,38] parserParser>>=fun x1=>
 some (19,x1.1,x1.2)
theorem Rm {parserParser res}(hh:X7 parserParser=some res):K0 C 167 [.ref 0 0] [.row [.ref 1 0] 68,.row (A0.cells parserParser) 99] (Ret [.row [.ref 1 0] 68,.row (A0.cells res.2.2) 99] (.tup [.d (.int .i64 res.1),.d (.bool res.2.1)])):=by
 unfold X7 at hh
 obtain ⟨x1,hx1,hh⟩:=bs' hh
 cases hh
 exact K0.intro hC Tryz.func167 rfl rfl rfl (t' rfl (p' 1 rfl (g' [1] (O0 hx1) rfl rfl rfl rfl rfl rfl (e' rfl (re' (rt' rfl rfl rfl))))))
def P8 (parserParser:A0):Option (Int×Bool×A0):=
 L0 [124,124] parserParser>>=fun x1=>
 some (20,x1.1,x1.2)
theorem Bo {parserParser res}(hh:P8 parserParser=some res):K0 C 112 [.ref 0 0] [.row [.ref 1 0] 68,.row (A0.cells parserParser) 99] (Ret [.row [.ref 1 0] 68,.row (A0.cells res.2.2) 99] (.tup [.d (.int .i64 res.1),.d (.bool res.2.1)])):=by
 unfold P8 at hh
 obtain ⟨x1,hx1,hh⟩:=bs' hh
 cases hh
 exact K0.intro hC Tryz.func112 rfl rfl rfl (t' rfl (p' 1 rfl (g' [1] (O0 hx1) rfl rfl rfl rfl rfl rfl (e' rfl (re' (rt' rfl rfl rfl))))))
mutual
def Z0 (parserParser:A0):Option (Pn (B0×A0)):=
 Ba parserParser>>=fun x1=>match x1 with
 | .pn nn=>
 some (.pn nn)
 | .ok x1=>
 L0 [63] x1.2>>=fun x2=>
 if (!x2.1)=true then
  some (.ok (x1.1,x2.2))
 else
  Z0 x2.2>>=fun x3=>match x3 with
  | .pn nn=>
  some (.pn nn)
  | .ok x3=>
  P0 [58] x3.2>>=fun x4=>match x4 with
  | .pn nn=>
  some (.pn nn)
  | .ok x4=>
  Z0 x4>>=fun x5=>match x5 with
  | .pn nn=>
  some (.pn nn)
  | .ok x5=>
  some (.ok ((B0.mk 23 0 [] [x1.1,x3.1,x5.1]),x5.2))
 partial_fixpoint
def Ba (parserParser:A0):Option (Pn (B0×A0)):=
 Qa parserParser>>=fun x1=>match x1 with
 | .pn nn=>
 some (.pn nn)
 | .ok x1=>
 some (.ok (x1.1,x1.2))
 partial_fixpoint
def Qa (parserParser:A0):Option (Pn (B0×A0)):=
 K7 parserParser>>=fun x1=>match x1 with
 | .pn nn=>
 some (.pn nn)
 | .ok x1=>
 F4 x1.2 x1.1
 partial_fixpoint
def F4 (o0:A0)(o3:B0):Option (Pn (B0×A0)):=
 P8 o0>>=fun x2=>
 if (!x2.2.1)=true then
  some (.ok (o3,x2.2.2))
 else
  K7 x2.2.2>>=fun x3=>match x3 with
  | .pn nn=>
  some (.pn nn)
  | .ok x3=>
  F4 x3.2 (B0.mk x2.1 0 [] [o3,x3.1])
 partial_fixpoint
def K7 (parserParser:A0):Option (Pn (B0×A0)):=
 J8 parserParser>>=fun x1=>match x1 with
 | .pn nn=>
 some (.pn nn)
 | .ok x1=>
 some (.ok (x1.1,x1.2))
 partial_fixpoint
def J8 (parserParser:A0):Option (Pn (B0×A0)):=
 S3 parserParser>>=fun x1=>match x1 with
 | .pn nn=>
 some (.pn nn)
 | .ok x1=>
 K3 x1.2 x1.1
 partial_fixpoint
def K3 (o0:A0)(o3:B0):Option (Pn (B0×A0)):=
 X7 o0>>=fun x2=>
 if (!x2.2.1)=true then
  some (.ok (o3,x2.2.2))
 else
  S3 x2.2.2>>=fun x3=>match x3 with
  | .pn nn=>
  some (.pn nn)
  | .ok x3=>
  K3 x3.2 (B0.mk x2.1 0 [] [o3,x3.1])
 partial_fixpoint
def S3 (parserParser:A0):Option (Pn (B0×A0)):=
 L7 parserParser>>=fun x1=>match x1 with
 | .pn nn=>
 some (.pn nn)
 | .ok x1=>
 L0 [61,61] x1.2>>=fun x2=>
 if x2.1=true then
  A2 x2.2 x1 13
 else
  L0 [33,61] x2.2>>=fun x4=>
  if x4.1=true then
   A2 x4.2 x1 14
  else
   L0 [60] x4.2>>=fun x5=>
   if x5.1=true then
    A2 x5.2 x1 15
   else
    L0 [60,61] x5.2>>=fun x6=>
    if x6.1=true then
     A2 x6.2 x1 16
    else
     L0 [62] x6.2>>=fun x7=>
     if x7.1=true then
      A2 x7.2 x1 17
     else
      L0 [62,61] x7.2>>=fun x8=>
      if x8.1=true then
       A2 x8.2 x1 18
      else
       some (.ok (x1.1,x8.2))
 partial_fixpoint
def A2 (o0:A0)(x1:B0×A0)(op:Int):Option (Pn (B0×A0)):=
 L7 o0>>=fun x3=>match x3 with
 | .pn nn=>
 some (.pn nn)
 | .ok x3=>
 some (.ok ((B0.mk op 0 [] [x1.1,x3.1]),x3.2))
 partial_fixpoint
def L7 (parserParser:A0):Option (Pn (B0×A0)):=
 K8 parserParser>>=fun x1=>match x1 with
 | .pn nn=>
 some (.pn nn)
 | .ok x1=>
 some (.ok (x1.1,x1.2))
 partial_fixpoint
def K8 (parserParser:A0):Option (Pn (B0×A0)):=
 P4 parserParser>>=fun x1=>match x1 with
 | .pn nn=>
 some (.pn nn)
 | .ok x1=>
 L3 x1.2 x1.1
 partial_fixpoint
def L3 (o0:A0)(o3:B0):Option (Pn (B0×A0)):=
 W7 o0>>=fun x2=>
 if (!x2.2.1)=true then
  some (.ok (o3,x2.2.2))
 else
  P4 x2.2.2>>=fun x3=>match x3 with
  | .pn nn=>
  some (.pn nn)
  | .ok x3=>
  L3 x3.2 (B0.mk x2.1 0 [] [o3,x3.1])
 partial_fixpoint
def P4 (parserParser:A0):Option (Pn (B0×A0)):=
 L8 parserParser>>=fun x1=>match x1 with
 | .pn nn=>
 some (.pn nn)
 | .ok x1=>
 some (.ok (x1.1,x1.2))
 partial_fixpoint
def L8 (parserParser:A0):Option (Pn (B0×A0)):=
 O3 parserParser>>=fun x1=>match x1 with
 | .pn nn=>
 some (.pn nn)
 | .ok x1=>
 M3 x1.2 x1.1
 partial_fixpoint
def M3 (o0:A0)(o3:B0):Option (Pn (B0×A0)):=
 N5 o0>>=fun x2=>
 if (!x2.2.1)=true then
  some (.ok (o3,x2.2.2))
 else
  O3 x2.2.2>>=fun x3=>match x3 with
  | .pn nn=>
  some (.pn nn)
  | .ok x3=>
  M3 x3.2 (B0.mk x2.1 0 [] [o3,x3.1])
 partial_fixpoint
def O3 (parserParser:A0):Option (Pn (B0×A0)):=
 L0 [45] parserParser>>=fun x1=>
 if x1.1=true then
  O3 x1.2>>=fun x4=>match x4 with
  | .pn nn=>
  some (.pn nn)
  | .ok x4=>
  some (.ok ((B0.mk 6 0 [] [x4.1]),x4.2))
 else
  L0 [33] x1.2>>=fun x2=>
  if x2.1=true then
   O3 x2.2>>=fun x5=>match x5 with
   | .pn nn=>
   some (.pn nn)
   | .ok x5=>
   some (.ok ((B0.mk 7 0 [] [x5.1]),x5.2))
  else
   Z8 x2.2>>=fun x3=>match x3 with
   | .pn nn=>
   some (.pn nn)
   | .ok x3=>
   some (.ok (x3.1,x3.2))
 partial_fixpoint
def Z8 (parserParser:A0):Option (Pn (B0×A0)):=
 H5 parserParser>>=fun x1=>
 if x1=true then
  Y7 parserParser>>=fun x2=>match x2 with
  | .pn nn=>
  some (.pn nn)
  | .ok x2=>
  some (.ok (x2.1,x2.2))
 else
  L0 [116,114,117,101] parserParser>>=fun x3=>
  if x3.1=true then
   some (.ok ((B0.mk 1 0 [] []),x3.2))
  else
   L0 [102,97,108,115,101] x3.2>>=fun x4=>
   if x4.1=true then
    some (.ok ((B0.mk 2 0 [] []),x4.2))
   else
    L0 [109,105,110] x4.2>>=fun x5=>
    if x5.1=true then
     Q8 21 x5.2>>=fun x11=>match x11 with
     | .pn nn=>
     some (.pn nn)
     | .ok x11=>
     some (.ok (x11.1,x11.2))
    else
     L0 [109,97,120] x5.2>>=fun x6=>
     if x6.1=true then
      Q8 22 x6.2>>=fun x12=>match x12 with
      | .pn nn=>
      some (.pn nn)
      | .ok x12=>
      some (.ok (x12.1,x12.2))
     else
      L0 [40] x6.2>>=fun x7=>
      if x7.1=true then
       Z0 x7.2>>=fun x9=>match x9 with
       | .pn nn=>
       some (.pn nn)
       | .ok x9=>
       P0 [41] x9.2>>=fun x10=>match x10 with
       | .pn nn=>
       some (.pn nn)
       | .ok x10=>
       some (.ok (x9.1,x10))
      else
       U2 x7.2>>=fun x8=>match x8 with
       | .pn nn=>
       some (.pn nn)
       | .ok x8=>
       some (.ok ((B0.mk 0 x8.1 [] []),x8.2))
 partial_fixpoint
def Q8 (op:Int)(parserParser:A0):Option (Pn (B0×A0)):=
 P0 [40] parserParser>>=fun x1=>match x1 with
 | .pn nn=>
 some (.pn nn)
 | .ok x1=>
 Z0 x1>>=fun x2=>match x2 with
 | .pn nn=>
 some (.pn nn)
 | .ok x2=>
 P0 [44] x2.2>>=fun x3=>match x3 with
 | .pn nn=>
 some (.pn nn)
 | .ok x3=>
 Z0 x3>>=fun x4=>match x4 with
 | .pn nn=>
 some (.pn nn)
 | .ok x4=>
 P0 [41] x4.2>>=fun x5=>match x5 with
 | .pn nn=>
 some (.pn nn)
 | .ok x5=>
 some (.ok ((B0.mk op 0 [] [x2.1,x4.1]),x5))
 partial_fixpoint
def Y7 (parserParser:A0):Option (Pn (B0×A0)):=
 I2 parserParser>>=fun x1=>match x1 with
 | .pn nn=>
 some (.pn nn)
 | .ok x1=>
 I3 x1.2 3 x1.1 []
 partial_fixpoint
def I3 (o0:A0)(o2_Op:Int)(o2_Name:Str)(o2_Kids:List B0):Option (Pn (B0×A0)):=
 L0 [46] o0>>=fun x2=>
 if x2.1=true then
  I2 x2.2>>=fun x3=>match x3 with
  | .pn nn=>
  some (.pn nn)
  | .ok x3=>
  I3 x3.2 4 x3.1 [(B0.mk o2_Op 0 o2_Name o2_Kids)]
 else
  L0 [91] x2.2>>=fun x4=>
  if x4.1=true then
   Z0 x4.2>>=fun x5=>match x5 with
   | .pn nn=>
   some (.pn nn)
   | .ok x5=>
   P0 [93] x5.2>>=fun x6=>match x6 with
   | .pn nn=>
   some (.pn nn)
   | .ok x6=>
   I3 x6 5 [] [(B0.mk o2_Op 0 o2_Name o2_Kids),x5.1]
  else
   some (.ok ((B0.mk o2_Op 0 o2_Name o2_Kids),x4.2))
 partial_fixpoint
end
abbrev Jd (parserParser:A0)(res:Pn (B0×A0)):Prop:=Y1 C 30 [.ref 0 0] [.row (A0.cells parserParser) 99] (F5 res (fun rr=>[.row (A0.cells rr.2) 99]) (fun rr=>.agg (B0.cells rr.1))) (T4 res J3 [.dead])
abbrev Ds (parserParser:A0)(res:Pn (B0×A0)):Prop:=Y1 C 60 [.ref 0 0] [.row (A0.cells parserParser) 99] (F5 res (fun rr=>[.row (A0.cells rr.2) 99]) (fun rr=>.agg (B0.cells rr.1))) (T4 res J3 [.dead])
abbrev Co (parserParser:A0)(res:Pn (B0×A0)):Prop:=Y1 C 110 [.ref 0 0,.bnd 111 [.ref 0 0],.clo 112 [.ref 1 0]] [.row (A0.cells parserParser) 99,.row [.ref 0 0] 68] (F5 res (fun rr=>[.row (A0.cells rr.2) 99,.row [.ref 0 0] 68]) (fun rr=>.agg (B0.cells rr.1))) (T4 res J3 [.dead,.row [.ref 0 0] 68])
abbrev Vk (o0:A0)(o3:B0)(res:Pn (B0×A0)):Prop:=LMp C 26 2 Tryz.f110 [1,1,4] [(1,.bnd 111 [.ref 0 0]),(2,.clo 112 [.ref 1 0]),(6,.ref 2 0),(7,.ref 3 0)] [.row (A0.cells o0) 99,.row [.ref 0 0] 68,.row [.d (.int .i64 0),.d (.int .i64 0),.d (.str []),.full (B0.rows [])] 26,.row (B0.cells o3) 26] (F5 res (fun rr=>[.row (A0.cells rr.2) 99,.row [.ref 0 0] 68]) (fun rr=>.agg (B0.cells rr.1))) (T4 res J3 [.dead,.row [.ref 0 0] 68])
abbrev Nq (parserParser:A0)(res:Pn (B0×A0)):Prop:=Y1 C 111 [.ref 0 0] [.row (A0.cells parserParser) 99] (F5 res (fun rr=>[.row (A0.cells rr.2) 99]) (fun rr=>.agg (B0.cells rr.1))) (T4 res J3 [.dead])
abbrev Xk (parserParser:A0)(res:Pn (B0×A0)):Prop:=Y1 C 110 [.ref 0 0,.bnd 166 [.ref 0 0],.clo 167 [.ref 1 0]] [.row (A0.cells parserParser) 99,.row [.ref 0 0] 68] (F5 res (fun rr=>[.row (A0.cells rr.2) 99,.row [.ref 0 0] 68]) (fun rr=>.agg (B0.cells rr.1))) (T4 res J3 [.dead,.row [.ref 0 0] 68])
abbrev Ti (o0:A0)(o3:B0)(res:Pn (B0×A0)):Prop:=LMp C 26 2 Tryz.f110 [1,1,4] [(1,.bnd 166 [.ref 0 0]),(2,.clo 167 [.ref 1 0]),(6,.ref 2 0),(7,.ref 3 0)] [.row (A0.cells o0) 99,.row [.ref 0 0] 68,.row [.d (.int .i64 0),.d (.int .i64 0),.d (.str []),.full (B0.rows [])] 26,.row (B0.cells o3) 26] (F5 res (fun rr=>[.row (A0.cells rr.2) 99,.row [.ref 0 0] 68]) (fun rr=>.agg (B0.cells rr.1))) (T4 res J3 [.dead,.row [.ref 0 0] 68])
abbrev Ej (parserParser:A0)(res:Pn (B0×A0)):Prop:=Y1 C 166 [.ref 0 0] [.row (A0.cells parserParser) 99] (F5 res (fun rr=>[.row (A0.cells rr.2) 99]) (fun rr=>.agg (B0.cells rr.1))) (T4 res J3 [.dead])
abbrev Xg (o0:A0)(x1:B0×A0)(op:Int)(res:Pn (B0×A0)):Prop:=JMp C 32 1 Tryz.f166 [1,1,1,1] [(0,.ref 0 0),(2,.ref 1 0),(3,.ref 2 0),(4,.d (.int .i64 op))] [.row (A0.cells o0) 99,.row [.d (.int .i64 0),.d (.int .i64 0),.d (.str []),.full (B0.rows [])] 26,.row (B0.cells x1.1) 26] (F5 res (fun rr=>[.row (A0.cells rr.2) 99]) (fun rr=>.agg (B0.cells rr.1))) (T4 res J3 [.dead])
abbrev Oq (parserParser:A0)(res:Pn (B0×A0)):Prop:=Y1 C 189 [.ref 0 0] [.row (A0.cells parserParser) 99] (F5 res (fun rr=>[.row (A0.cells rr.2) 99]) (fun rr=>.agg (B0.cells rr.1))) (T4 res J3 [.dead])
abbrev Yk (parserParser:A0)(res:Pn (B0×A0)):Prop:=Y1 C 110 [.ref 0 0,.bnd 203 [.ref 0 0],.clo 204 [.ref 1 0]] [.row (A0.cells parserParser) 99,.row [.ref 0 0] 68] (F5 res (fun rr=>[.row (A0.cells rr.2) 99,.row [.ref 0 0] 68]) (fun rr=>.agg (B0.cells rr.1))) (T4 res J3 [.dead,.row [.ref 0 0] 68])
abbrev Ui (o0:A0)(o3:B0)(res:Pn (B0×A0)):Prop:=LMp C 26 2 Tryz.f110 [1,1,4] [(1,.bnd 203 [.ref 0 0]),(2,.clo 204 [.ref 1 0]),(6,.ref 2 0),(7,.ref 3 0)] [.row (A0.cells o0) 99,.row [.ref 0 0] 68,.row [.d (.int .i64 0),.d (.int .i64 0),.d (.str []),.full (B0.rows [])] 26,.row (B0.cells o3) 26] (F5 res (fun rr=>[.row (A0.cells rr.2) 99,.row [.ref 0 0] 68]) (fun rr=>.agg (B0.cells rr.1))) (T4 res J3 [.dead,.row [.ref 0 0] 68])
abbrev Sl (parserParser:A0)(res:Pn (B0×A0)):Prop:=Y1 C 203 [.ref 0 0] [.row (A0.cells parserParser) 99] (F5 res (fun rr=>[.row (A0.cells rr.2) 99]) (fun rr=>.agg (B0.cells rr.1))) (T4 res J3 [.dead])
abbrev Zk (parserParser:A0)(res:Pn (B0×A0)):Prop:=Y1 C 110 [.ref 0 0,.bnd 214 [.ref 0 0],.clo 215 [.ref 1 0]] [.row (A0.cells parserParser) 99,.row [.ref 0 0] 68] (F5 res (fun rr=>[.row (A0.cells rr.2) 99,.row [.ref 0 0] 68]) (fun rr=>.agg (B0.cells rr.1))) (T4 res J3 [.dead,.row [.ref 0 0] 68])
abbrev Vi (o0:A0)(o3:B0)(res:Pn (B0×A0)):Prop:=LMp C 26 2 Tryz.f110 [1,1,4] [(1,.bnd 214 [.ref 0 0]),(2,.clo 215 [.ref 1 0]),(6,.ref 2 0),(7,.ref 3 0)] [.row (A0.cells o0) 99,.row [.ref 0 0] 68,.row [.d (.int .i64 0),.d (.int .i64 0),.d (.str []),.full (B0.rows [])] 26,.row (B0.cells o3) 26] (F5 res (fun rr=>[.row (A0.cells rr.2) 99,.row [.ref 0 0] 68]) (fun rr=>.agg (B0.cells rr.1))) (T4 res J3 [.dead,.row [.ref 0 0] 68])
abbrev Do (parserParser:A0)(res:Pn (B0×A0)):Prop:=Y1 C 214 [.ref 0 0] [.row (A0.cells parserParser) 99] (F5 res (fun rr=>[.row (A0.cells rr.2) 99]) (fun rr=>.agg (B0.cells rr.1))) (T4 res J3 [.dead])
abbrev Tl (parserParser:A0)(res:Pn (B0×A0)):Prop:=Y1 C 223 [.ref 0 0] [.row (A0.cells parserParser) 99] (F5 res (fun rr=>[.row (A0.cells rr.2) 99]) (fun rr=>.agg (B0.cells rr.1))) (T4 res J3 [.dead])
abbrev Np (op:Int)(parserParser:A0)(res:Pn (B0×A0)):Prop:=Y1 C 228 [.ref 0 0,.d (.int .i64 op)] [.row (A0.cells parserParser) 99] (F5 res (fun rr=>[.row (A0.cells rr.2) 99]) (fun rr=>.agg (B0.cells rr.1))) (T4 res J3 [.dead])
abbrev Eo (parserParser:A0)(res:Pn (B0×A0)):Prop:=Y1 C 195 [.ref 0 0] [.row (A0.cells parserParser) 99] (F5 res (fun rr=>[.row (A0.cells rr.2) 99]) (fun rr=>.agg (B0.cells rr.1))) (T4 res J3 [.dead])
abbrev Al (o0:A0)(o2_Op:Int)(o2_Name:Str)(o2_Kids:List B0)(res:Pn (B0×A0)):Prop:=LMp C 28 1 Tryz.f195 [1,1,4] [(0,.ref 0 0),(2,.ref 1 0),(3,.ref 2 0)] [.row (A0.cells o0) 99,.row [.d (.int .i64 0),.d (.int .i64 0),.d (.str []),.full (B0.rows [])] 26,.row [.d (.int .i64 o2_Op),.d (.int .i64 0),.d (.str o2_Name),.d (.sl (B0.rows o2_Kids))] 26] (F5 res (fun rr=>[.row (A0.cells rr.2) 99]) (fun rr=>.agg (B0.cells rr.1))) (T4 res J3 [.dead])
theorem Nh:(∀ parserParser res,Z0 parserParser=some res→Jd parserParser res)∧(∀ parserParser res,Ba parserParser=some res→Ds parserParser res)∧(∀ parserParser res,Qa parserParser=some res→Co parserParser res)∧(∀ o0 o3 res,F4 o0 o3=some res→Vk o0 o3 res)∧(∀ parserParser res,K7 parserParser=some res→Nq parserParser res)∧(∀ parserParser res,J8 parserParser=some res→Xk parserParser res)∧(∀ o0 o3 res,K3 o0 o3=some res→Ti o0 o3 res)∧(∀ parserParser res,S3 parserParser=some res→Ej parserParser res)∧(∀ o0 x1 op res,A2 o0 x1 op=some res→Xg o0 x1 op res)∧(∀ parserParser res,L7 parserParser=some res→Oq parserParser res)∧(∀ parserParser res,K8 parserParser=some res→Yk parserParser res)∧(∀ o0 o3 res,L3 o0 o3=some res→Ui o0 o3 res)∧(∀ parserParser res,P4 parserParser=some res→Sl parserParser res)∧(∀ parserParser res,L8 parserParser=some res→Zk parserParser res)∧(∀ o0 o3 res,M3 o0 o3=some res→Vi o0 o3 res)∧(∀ parserParser res,O3 parserParser=some res→Do parserParser res)∧(∀ parserParser res,Z8 parserParser=some res→Tl parserParser res)∧(∀ op parserParser res,Q8 op parserParser=some res→Np op parserParser res)∧(∀ parserParser res,Y7 parserParser=some res→Eo parserParser res)∧(∀ o0 o2_Op o2_Name o2_Kids res,I3 o0 o2_Op o2_Name o2_Kids=some res→Al o0 o2_Op o2_Name o2_Kids res):=by
 refine Z0.mutual_partial_correctness _ _ _ _ _ _ _ _ _ _ _ _ _ _ _ _ _ _ _ _ ?_ ?_ ?_ ?_ ?_ ?_ ?_ ?_ ?_ ?_ ?_ ?_ ?_ ?_ ?_ ?_ ?_ ?_ ?_ ?_
 ·intro g0 g1 ih0 ih1 parserParser res hh
  refine Y1.intro hC Tryz.func30 rfl rfl rfl (s' rfl rfl (E0.nf hC rfl (n' (p' 1 rfl ?_))))
  rcases bp' hh with ⟨nn,hx1,⟨⟩⟩ | ⟨x1,hx1,hh⟩
  ·exact gn' [0] (ih1 _ _ hx1) rfl rfl rfl rfl rfl (fun hi=>peW ⟨trivial,trivial⟩ rfl hi)
  obtain ⟨x2,hx2,hh⟩:=bs' hh
  refine g' [0] ((ih1 _ _ hx1).ok) rfl rfl rfl rfl rfl rfl (E0.nf hC rfl (E0.s hC rfl (n' (S' (p' 1 rfl (g' [0] (O0 hx2) rfl rfl rfl rfl rfl rfl (e' rfl (ci' rfl hh (fun hh=>?_) (fun hh=>?_)))))))))
  ·cases hh
   exact p' 1 rfl (E0.s hC rfl (n' (re' (rt' rfl rfl rfl))))
  refine sk' (p' 1 rfl ?_)
  rcases bp' hh with ⟨nn,hx3,⟨⟩⟩ | ⟨x3,hx3,hh⟩
  ·exact gn' [0] (ih0 _ _ hx3) rfl rfl rfl rfl rfl (fun hi=>peW ⟨trivial,trivial⟩ rfl hi)
  refine g' [0] ((ih0 _ _ hx3).ok) rfl rfl rfl rfl rfl rfl (E0.nf hC rfl (E0.s hC rfl (n' (p' 1 rfl ?_))))
  rcases bp' hh with ⟨nn,hx4,⟨⟩⟩ | ⟨x4,hx4,hh⟩
  ·exact gn' [0] (T0 hx4) rfl rfl rfl rfl rfl (fun hi=>peW ⟨trivial,trivial⟩ rfl hi)
  refine g' [0] ((T0 hx4).ok) rfl rfl rfl rfl rfl rfl (n' (S' ?_))
  rcases bp' hh with ⟨nn,hx5,⟨⟩⟩ | ⟨x5,hx5,hh⟩
  ·refine AEx.drawE hC ?_
   refine D0.step rfl (j0:=0) (js:=[1,2]) (by kernel_rfl) ⟨⟨_,rfl,?_⟩,⟨_,rfl,?_⟩,⟨_,rfl,?_⟩,trivial⟩
   ·refine e' rfl ?_
    refine D0.step rfl (j0:=1) (js:=[2]) (by kernel_rfl) ⟨⟨_,rfl,?_⟩,⟨_,rfl,?_⟩,trivial⟩
    ·refine e' rfl ?_
     refine D0.step rfl (j0:=2) (js:=[]) (by kernel_rfl) ⟨⟨_,rfl,?_⟩,trivial⟩
     refine e' rfl ?_
     refine D0.step rfl (j0:=3) (js:=[]) (by kernel_rfl) ⟨⟨_,rfl,?_⟩,trivial⟩
     exact gn' [0] (ih0 _ _ hx5) rfl rfl rfl rfl rfl (fun hi=>peW ⟨trivial,trivial⟩ rfl hi)
    ·refine e' rfl ?_
     refine D0.step rfl (j0:=1) (js:=[3]) (by kernel_rfl) ⟨⟨_,rfl,?_⟩,⟨_,rfl,?_⟩,trivial⟩
     ·refine e' rfl ?_
      refine D0.step rfl (j0:=3) (js:=[]) (by kernel_rfl) ⟨⟨_,rfl,?_⟩,trivial⟩
      exact gn' [0] (ih0 _ _ hx5) rfl rfl rfl rfl rfl (fun hi=>peW ⟨trivial,trivial⟩ rfl hi)
     ·exact gn' [0] (ih0 _ _ hx5) rfl rfl rfl rfl rfl (fun hi=>peW ⟨trivial,trivial⟩ rfl hi)
   ·refine e' rfl ?_
    refine D0.step rfl (j0:=0) (js:=[2]) (by kernel_rfl) ⟨⟨_,rfl,?_⟩,⟨_,rfl,?_⟩,trivial⟩
    ·refine e' rfl ?_
     refine D0.step rfl (j0:=2) (js:=[]) (by kernel_rfl) ⟨⟨_,rfl,?_⟩,trivial⟩
     refine e' rfl ?_
     refine D0.step rfl (j0:=3) (js:=[]) (by kernel_rfl) ⟨⟨_,rfl,?_⟩,trivial⟩
     exact gn' [0] (ih0 _ _ hx5) rfl rfl rfl rfl rfl (fun hi=>peW ⟨trivial,trivial⟩ rfl hi)
    ·refine e' rfl ?_
     refine D0.step rfl (j0:=0) (js:=[3]) (by kernel_rfl) ⟨⟨_,rfl,?_⟩,⟨_,rfl,?_⟩,trivial⟩
     ·refine e' rfl ?_
      refine D0.step rfl (j0:=3) (js:=[]) (by kernel_rfl) ⟨⟨_,rfl,?_⟩,trivial⟩
      exact gn' [0] (ih0 _ _ hx5) rfl rfl rfl rfl rfl (fun hi=>peW ⟨trivial,trivial⟩ rfl hi)
     ·exact gn' [0] (ih0 _ _ hx5) rfl rfl rfl rfl rfl (fun hi=>peW ⟨trivial,trivial⟩ rfl hi)
   ·refine e' rfl ?_
    refine D0.step rfl (j0:=0) (js:=[1,3]) (by kernel_rfl) ⟨⟨_,rfl,?_⟩,⟨_,rfl,?_⟩,⟨_,rfl,?_⟩,trivial⟩
    ·refine e' rfl ?_
     refine D0.step rfl (j0:=1) (js:=[3]) (by kernel_rfl) ⟨⟨_,rfl,?_⟩,⟨_,rfl,?_⟩,trivial⟩
     ·refine e' rfl ?_
      refine D0.step rfl (j0:=3) (js:=[]) (by kernel_rfl) ⟨⟨_,rfl,?_⟩,trivial⟩
      exact gn' [0] (ih0 _ _ hx5) rfl rfl rfl rfl rfl (fun hi=>peW ⟨trivial,trivial⟩ rfl hi)
     ·exact gn' [0] (ih0 _ _ hx5) rfl rfl rfl rfl rfl (fun hi=>peW ⟨trivial,trivial⟩ rfl hi)
    ·refine e' rfl ?_
     refine D0.step rfl (j0:=0) (js:=[3]) (by kernel_rfl) ⟨⟨_,rfl,?_⟩,⟨_,rfl,?_⟩,trivial⟩
     ·refine e' rfl ?_
      refine D0.step rfl (j0:=3) (js:=[]) (by kernel_rfl) ⟨⟨_,rfl,?_⟩,trivial⟩
      exact gn' [0] (ih0 _ _ hx5) rfl rfl rfl rfl rfl (fun hi=>peW ⟨trivial,trivial⟩ rfl hi)
     ·exact gn' [0] (ih0 _ _ hx5) rfl rfl rfl rfl rfl (fun hi=>peW ⟨trivial,trivial⟩ rfl hi)
    ·exact gn' [0] (ih0 _ _ hx5) rfl rfl rfl rfl rfl (fun hi=>peW ⟨trivial,trivial⟩ rfl hi)
  refine AEx.drawE hC ?_
  refine D0.step rfl (j0:=0) (js:=[1,2]) (by kernel_rfl) ⟨⟨_,rfl,?_⟩,⟨_,rfl,?_⟩,⟨_,rfl,?_⟩,trivial⟩
  ·refine e' rfl ?_
   refine D0.step rfl (j0:=1) (js:=[2]) (by kernel_rfl) ⟨⟨_,rfl,?_⟩,⟨_,rfl,?_⟩,trivial⟩
   ·refine e' rfl ?_
    refine D0.step rfl (j0:=2) (js:=[]) (by kernel_rfl) ⟨⟨_,rfl,?_⟩,trivial⟩
    refine e' rfl ?_
    refine D0.step rfl (j0:=3) (js:=[]) (by kernel_rfl) ⟨⟨_,rfl,?_⟩,trivial⟩
    refine g' [0] ((ih0 _ _ hx5).ok) rfl rfl rfl rfl rfl rfl (n' ?_)
    refine D0.step rfl (j0:=4) (js:=[]) (by kernel_rfl) ⟨⟨_,rfl,?_⟩,trivial⟩
    refine E0.be hC rfl (B0.rows_map [x1.1,x3.1,x5.1]).symm (n' ?_)
    refine D0.step rfl (j0:=5) (js:=[]) (by kernel_rfl) ⟨⟨_,rfl,?_⟩,trivial⟩
    refine e' rfl ?_
    refine D0.step rfl (j0:=6) (js:=[]) (by kernel_rfl) ⟨⟨_,rfl,?_⟩,trivial⟩
    refine E0.s hC rfl (n' (D0.nil (by kernel_rfl) (re' ?_)))
    obtain rfl:=oi' hh
    exact ⟨_,.agg [.d (.int .i64 23),.d (.int .i64 0),.d (.str []),.d (.sl (B0.rows [x1.1,x3.1,x5.1]))],[.row (A0.cells x5.2) 99],rfl,(.aggL ⟨.rfl,.rfl,.rfl,.full,trivial⟩),⟨⟨rfl,.refl _,rfl⟩,trivial⟩,rfl,rfl,rpq rfl rfl⟩
   ·refine e' rfl ?_
    refine D0.step rfl (j0:=1) (js:=[3]) (by kernel_rfl) ⟨⟨_,rfl,?_⟩,⟨_,rfl,?_⟩,trivial⟩
    ·refine e' rfl ?_
     refine D0.step rfl (j0:=3) (js:=[]) (by kernel_rfl) ⟨⟨_,rfl,?_⟩,trivial⟩
     refine g' [0] ((ih0 _ _ hx5).ok) rfl rfl rfl rfl rfl rfl (n' ?_)
     refine D0.step rfl (j0:=4) (js:=[]) (by kernel_rfl) ⟨⟨_,rfl,?_⟩,trivial⟩
     refine E0.be hC rfl (B0.rows_map [x1.1,x3.1,x5.1]).symm (n' ?_)
     refine D0.step rfl (j0:=5) (js:=[]) (by kernel_rfl) ⟨⟨_,rfl,?_⟩,trivial⟩
     refine e' rfl ?_
     refine D0.step rfl (j0:=6) (js:=[]) (by kernel_rfl) ⟨⟨_,rfl,?_⟩,trivial⟩
     refine E0.s hC rfl (n' (D0.nil (by kernel_rfl) (re' ?_)))
     obtain rfl:=oi' hh
     exact ⟨_,.agg [.d (.int .i64 23),.d (.int .i64 0),.d (.str []),.d (.sl (B0.rows [x1.1,x3.1,x5.1]))],[.row (A0.cells x5.2) 99],rfl,(.aggL ⟨.rfl,.rfl,.rfl,.full,trivial⟩),⟨⟨rfl,.refl _,rfl⟩,trivial⟩,rfl,rfl,rpq rfl rfl⟩
    ·refine g' [0] ((ih0 _ _ hx5).ok) rfl rfl rfl rfl rfl rfl (n' ?_)
     refine D0.step rfl (j0:=1) (js:=[]) (by kernel_rfl) ⟨⟨_,rfl,?_⟩,trivial⟩
     refine e' rfl ?_
     refine D0.step rfl (j0:=4) (js:=[]) (by kernel_rfl) ⟨⟨_,rfl,?_⟩,trivial⟩
     refine E0.be hC rfl (B0.rows_map [x1.1,x3.1,x5.1]).symm (n' ?_)
     refine D0.step rfl (j0:=5) (js:=[]) (by kernel_rfl) ⟨⟨_,rfl,?_⟩,trivial⟩
     refine e' rfl ?_
     refine D0.step rfl (j0:=6) (js:=[]) (by kernel_rfl) ⟨⟨_,rfl,?_⟩,trivial⟩
     refine E0.s hC rfl (n' (D0.nil (by kernel_rfl) (re' ?_)))
     obtain rfl:=oi' hh
     exact ⟨_,.agg [.d (.int .i64 23),.d (.int .i64 0),.d (.str []),.d (.sl (B0.rows [x1.1,x3.1,x5.1]))],[.row (A0.cells x5.2) 99],rfl,(.aggL ⟨.rfl,.rfl,.rfl,.full,trivial⟩),⟨⟨rfl,.refl _,rfl⟩,trivial⟩,rfl,rfl,rpq rfl rfl⟩
  ·refine e' rfl ?_
   refine D0.step rfl (j0:=0) (js:=[2]) (by kernel_rfl) ⟨⟨_,rfl,?_⟩,⟨_,rfl,?_⟩,trivial⟩
   ·refine e' rfl ?_
    refine D0.step rfl (j0:=2) (js:=[]) (by kernel_rfl) ⟨⟨_,rfl,?_⟩,trivial⟩
    refine e' rfl ?_
    refine D0.step rfl (j0:=3) (js:=[]) (by kernel_rfl) ⟨⟨_,rfl,?_⟩,trivial⟩
    refine g' [0] ((ih0 _ _ hx5).ok) rfl rfl rfl rfl rfl rfl (n' ?_)
    refine D0.step rfl (j0:=4) (js:=[]) (by kernel_rfl) ⟨⟨_,rfl,?_⟩,trivial⟩
    refine E0.be hC rfl (B0.rows_map [x1.1,x3.1,x5.1]).symm (n' ?_)
    refine D0.step rfl (j0:=5) (js:=[]) (by kernel_rfl) ⟨⟨_,rfl,?_⟩,trivial⟩
    refine e' rfl ?_
    refine D0.step rfl (j0:=6) (js:=[]) (by kernel_rfl) ⟨⟨_,rfl,?_⟩,trivial⟩
    refine E0.s hC rfl (n' (D0.nil (by kernel_rfl) (re' ?_)))
    obtain rfl:=oi' hh
    exact ⟨_,.agg [.d (.int .i64 23),.d (.int .i64 0),.d (.str []),.d (.sl (B0.rows [x1.1,x3.1,x5.1]))],[.row (A0.cells x5.2) 99],rfl,(.aggL ⟨.rfl,.rfl,.rfl,.full,trivial⟩),⟨⟨rfl,.refl _,rfl⟩,trivial⟩,rfl,rfl,rpq rfl rfl⟩
   ·refine e' rfl ?_
    refine D0.step rfl (j0:=0) (js:=[3]) (by kernel_rfl) ⟨⟨_,rfl,?_⟩,⟨_,rfl,?_⟩,trivial⟩
    ·refine e' rfl ?_
     refine D0.step rfl (j0:=3) (js:=[]) (by kernel_rfl) ⟨⟨_,rfl,?_⟩,trivial⟩
     refine g' [0] ((ih0 _ _ hx5).ok) rfl rfl rfl rfl rfl rfl (n' ?_)
     refine D0.step rfl (j0:=4) (js:=[]) (by kernel_rfl) ⟨⟨_,rfl,?_⟩,trivial⟩
     refine E0.be hC rfl (B0.rows_map [x1.1,x3.1,x5.1]).symm (n' ?_)
     refine D0.step rfl (j0:=5) (js:=[]) (by kernel_rfl) ⟨⟨_,rfl,?_⟩,trivial⟩
     refine e' rfl ?_
     refine D0.step rfl (j0:=6) (js:=[]) (by kernel_rfl) ⟨⟨_,rfl,?_⟩,trivial⟩
     refine E0.s hC rfl (n' (D0.nil (by kernel_rfl) (re' ?_)))
     obtain rfl:=oi' hh
     exact ⟨_,.agg [.d (.int .i64 23),.d (.int .i64 0),.d (.str []),.d (.sl (B0.rows [x1.1,x3.1,x5.1]))],[.row (A0.cells x5.2) 99],rfl,(.aggL ⟨.rfl,.rfl,.rfl,.full,trivial⟩),⟨⟨rfl,.refl _,rfl⟩,trivial⟩,rfl,rfl,rpq rfl rfl⟩
    ·refine g' [0] ((ih0 _ _ hx5).ok) rfl rfl rfl rfl rfl rfl (n' ?_)
     refine D0.step rfl (j0:=0) (js:=[]) (by kernel_rfl) ⟨⟨_,rfl,?_⟩,trivial⟩
     refine e' rfl ?_
     refine D0.step rfl (j0:=4) (js:=[]) (by kernel_rfl) ⟨⟨_,rfl,?_⟩,trivial⟩
     refine E0.be hC rfl (B0.rows_map [x1.1,x3.1,x5.1]).symm (n' ?_)
     refine D0.step rfl (j0:=5) (js:=[]) (by kernel_rfl) ⟨⟨_,rfl,?_⟩,trivial⟩
     refine e' rfl ?_
     refine D0.step rfl (j0:=6) (js:=[]) (by kernel_rfl) ⟨⟨_,rfl,?_⟩,trivial⟩
     refine E0.s hC rfl (n' (D0.nil (by kernel_rfl) (re' ?_)))
     obtain rfl:=oi' hh
     exact ⟨_,.agg [.d (.int .i64 23),.d (.int .i64 0),.d (.str []),.d (.sl (B0.rows [x1.1,x3.1,x5.1]))],[.row (A0.cells x5.2) 99],rfl,(.aggL ⟨.rfl,.rfl,.rfl,.full,trivial⟩),⟨⟨rfl,.refl _,rfl⟩,trivial⟩,rfl,rfl,rpq rfl rfl⟩
  ·refine e' rfl ?_
   refine D0.step rfl (j0:=0) (js:=[1,3]) (by kernel_rfl) ⟨⟨_,rfl,?_⟩,⟨_,rfl,?_⟩,⟨_,rfl,?_⟩,trivial⟩
   ·refine e' rfl ?_
    refine D0.step rfl (j0:=1) (js:=[3]) (by kernel_rfl) ⟨⟨_,rfl,?_⟩,⟨_,rfl,?_⟩,trivial⟩
    ·refine e' rfl ?_
     refine D0.step rfl (j0:=3) (js:=[]) (by kernel_rfl) ⟨⟨_,rfl,?_⟩,trivial⟩
     refine g' [0] ((ih0 _ _ hx5).ok) rfl rfl rfl rfl rfl rfl (n' ?_)
     refine D0.step rfl (j0:=4) (js:=[]) (by kernel_rfl) ⟨⟨_,rfl,?_⟩,trivial⟩
     refine E0.be hC rfl (B0.rows_map [x1.1,x3.1,x5.1]).symm (n' ?_)
     refine D0.step rfl (j0:=5) (js:=[]) (by kernel_rfl) ⟨⟨_,rfl,?_⟩,trivial⟩
     refine e' rfl ?_
     refine D0.step rfl (j0:=6) (js:=[]) (by kernel_rfl) ⟨⟨_,rfl,?_⟩,trivial⟩
     refine E0.s hC rfl (n' (D0.nil (by kernel_rfl) (re' ?_)))
     obtain rfl:=oi' hh
     exact ⟨_,.agg [.d (.int .i64 23),.d (.int .i64 0),.d (.str []),.d (.sl (B0.rows [x1.1,x3.1,x5.1]))],[.row (A0.cells x5.2) 99],rfl,(.aggL ⟨.rfl,.rfl,.rfl,.full,trivial⟩),⟨⟨rfl,.refl _,rfl⟩,trivial⟩,rfl,rfl,rpq rfl rfl⟩
    ·refine g' [0] ((ih0 _ _ hx5).ok) rfl rfl rfl rfl rfl rfl (n' ?_)
     refine D0.step rfl (j0:=1) (js:=[]) (by kernel_rfl) ⟨⟨_,rfl,?_⟩,trivial⟩
     refine e' rfl ?_
     refine D0.step rfl (j0:=4) (js:=[]) (by kernel_rfl) ⟨⟨_,rfl,?_⟩,trivial⟩
     refine E0.be hC rfl (B0.rows_map [x1.1,x3.1,x5.1]).symm (n' ?_)
     refine D0.step rfl (j0:=5) (js:=[]) (by kernel_rfl) ⟨⟨_,rfl,?_⟩,trivial⟩
     refine e' rfl ?_
     refine D0.step rfl (j0:=6) (js:=[]) (by kernel_rfl) ⟨⟨_,rfl,?_⟩,trivial⟩
     refine E0.s hC rfl (n' (D0.nil (by kernel_rfl) (re' ?_)))
     obtain rfl:=oi' hh
     exact ⟨_,.agg [.d (.int .i64 23),.d (.int .i64 0),.d (.str []),.d (.sl (B0.rows [x1.1,x3.1,x5.1]))],[.row (A0.cells x5.2) 99],rfl,(.aggL ⟨.rfl,.rfl,.rfl,.full,trivial⟩),⟨⟨rfl,.refl _,rfl⟩,trivial⟩,rfl,rfl,rpq rfl rfl⟩
   ·refine e' rfl ?_
    refine D0.step rfl (j0:=0) (js:=[3]) (by kernel_rfl) ⟨⟨_,rfl,?_⟩,⟨_,rfl,?_⟩,trivial⟩
    ·refine e' rfl ?_
     refine D0.step rfl (j0:=3) (js:=[]) (by kernel_rfl) ⟨⟨_,rfl,?_⟩,trivial⟩
     refine g' [0] ((ih0 _ _ hx5).ok) rfl rfl rfl rfl rfl rfl (n' ?_)
     refine D0.step rfl (j0:=4) (js:=[]) (by kernel_rfl) ⟨⟨_,rfl,?_⟩,trivial⟩
     refine E0.be hC rfl (B0.rows_map [x1.1,x3.1,x5.1]).symm (n' ?_)
     refine D0.step rfl (j0:=5) (js:=[]) (by kernel_rfl) ⟨⟨_,rfl,?_⟩,trivial⟩
     refine e' rfl ?_
     refine D0.step rfl (j0:=6) (js:=[]) (by kernel_rfl) ⟨⟨_,rfl,?_⟩,trivial⟩
     refine E0.s hC rfl (n' (D0.nil (by kernel_rfl) (re' ?_)))
     obtain rfl:=oi' hh
     exact ⟨_,.agg [.d (.int .i64 23),.d (.int .i64 0),.d (.str []),.d (.sl (B0.rows [x1.1,x3.1,x5.1]))],[.row (A0.cells x5.2) 99],rfl,(.aggL ⟨.rfl,.rfl,.rfl,.full,trivial⟩),⟨⟨rfl,.refl _,rfl⟩,trivial⟩,rfl,rfl,rpq rfl rfl⟩
    ·refine g' [0] ((ih0 _ _ hx5).ok) rfl rfl rfl rfl rfl rfl (n' ?_)
     refine D0.step rfl (j0:=0) (js:=[]) (by kernel_rfl) ⟨⟨_,rfl,?_⟩,trivial⟩
     refine e' rfl ?_
     refine D0.step rfl (j0:=4) (js:=[]) (by kernel_rfl) ⟨⟨_,rfl,?_⟩,trivial⟩
     refine E0.be hC rfl (B0.rows_map [x1.1,x3.1,x5.1]).symm (n' ?_)
     refine D0.step rfl (j0:=5) (js:=[]) (by kernel_rfl) ⟨⟨_,rfl,?_⟩,trivial⟩
     refine e' rfl ?_
     refine D0.step rfl (j0:=6) (js:=[]) (by kernel_rfl) ⟨⟨_,rfl,?_⟩,trivial⟩
     refine E0.s hC rfl (n' (D0.nil (by kernel_rfl) (re' ?_)))
     obtain rfl:=oi' hh
     exact ⟨_,.agg [.d (.int .i64 23),.d (.int .i64 0),.d (.str []),.d (.sl (B0.rows [x1.1,x3.1,x5.1]))],[.row (A0.cells x5.2) 99],rfl,(.aggL ⟨.rfl,.rfl,.rfl,.full,trivial⟩),⟨⟨rfl,.refl _,rfl⟩,trivial⟩,rfl,rfl,rpq rfl rfl⟩
   ·refine g' [0] ((ih0 _ _ hx5).ok) rfl rfl rfl rfl rfl rfl (n' ?_)
    refine D0.step rfl (j0:=0) (js:=[1]) (by kernel_rfl) ⟨⟨_,rfl,?_⟩,⟨_,rfl,?_⟩,trivial⟩
    ·refine e' rfl ?_
     refine D0.step rfl (j0:=1) (js:=[]) (by kernel_rfl) ⟨⟨_,rfl,?_⟩,trivial⟩
     refine e' rfl ?_
     refine D0.step rfl (j0:=4) (js:=[]) (by kernel_rfl) ⟨⟨_,rfl,?_⟩,trivial⟩
     refine E0.be hC rfl (B0.rows_map [x1.1,x3.1,x5.1]).symm (n' ?_)
     refine D0.step rfl (j0:=5) (js:=[]) (by kernel_rfl) ⟨⟨_,rfl,?_⟩,trivial⟩
     refine e' rfl ?_
     refine D0.step rfl (j0:=6) (js:=[]) (by kernel_rfl) ⟨⟨_,rfl,?_⟩,trivial⟩
     refine E0.s hC rfl (n' (D0.nil (by kernel_rfl) (re' ?_)))
     obtain rfl:=oi' hh
     exact ⟨_,.agg [.d (.int .i64 23),.d (.int .i64 0),.d (.str []),.d (.sl (B0.rows [x1.1,x3.1,x5.1]))],[.row (A0.cells x5.2) 99],rfl,(.aggL ⟨.rfl,.rfl,.rfl,.full,trivial⟩),⟨⟨rfl,.refl _,rfl⟩,trivial⟩,rfl,rfl,rpq rfl rfl⟩
    ·refine e' rfl ?_
     refine D0.step rfl (j0:=0) (js:=[]) (by kernel_rfl) ⟨⟨_,rfl,?_⟩,trivial⟩
     refine e' rfl ?_
     refine D0.step rfl (j0:=4) (js:=[]) (by kernel_rfl) ⟨⟨_,rfl,?_⟩,trivial⟩
     refine E0.be hC rfl (B0.rows_map [x1.1,x3.1,x5.1]).symm (n' ?_)
     refine D0.step rfl (j0:=5) (js:=[]) (by kernel_rfl) ⟨⟨_,rfl,?_⟩,trivial⟩
     refine e' rfl ?_
     refine D0.step rfl (j0:=6) (js:=[]) (by kernel_rfl) ⟨⟨_,rfl,?_⟩,trivial⟩
     refine E0.s hC rfl (n' (D0.nil (by kernel_rfl) (re' ?_)))
     obtain rfl:=oi' hh
     exact ⟨_,.agg [.d (.int .i64 23),.d (.int .i64 0),.d (.str []),.d (.sl (B0.rows [x1.1,x3.1,x5.1]))],[.row (A0.cells x5.2) 99],rfl,(.aggL ⟨.rfl,.rfl,.rfl,.full,trivial⟩),⟨⟨rfl,.refl _,rfl⟩,trivial⟩,rfl,rfl,rpq rfl rfl⟩
 ·intro g2 ih2 parserParser res hh
  refine Y1.intro hC Tryz.func60 rfl rfl rfl (s' rfl rfl (E0.n hC rfl (E0.nf hC rfl (n' (p' 4 rfl ?_)))))
  rcases bp' hh with ⟨nn,hx1,⟨⟩⟩ | ⟨x1,hx1,hh⟩
  ·exact gn' [0,1] (ih2 _ _ hx1) rfl rfl rfl rfl rfl (fun hi=>peW ⟨trivial,trivial⟩ rfl hi)
  cases hh
  exact g' [0,1] ((ih2 _ _ hx1).ok) rfl rfl rfl rfl rfl rfl (E0.s hC rfl (n' (re' (rt' rfl rfl rfl))))
 ·intro g3 g4 ih3 ih4 parserParser res hh
  refine Y1.intro hC Tryz.func110 rfl rfl rfl (s' rfl rfl (E0.nf hC rfl (n' (p' 1 rfl ?_))))
  rcases bp' hh with ⟨nn,hx1,⟨⟩⟩ | ⟨x1,hx1,hh⟩
  ·exact gn' [0] (ih4 _ _ hx1) rfl rfl rfl rfl rfl (fun hi=>peW ⟨trivial,⟨rfl,.refl _,rfl⟩,trivial⟩ rfl hi)
  exact g' [0] ((ih4 _ _ hx1).ok) rfl rfl rfl rfl rfl rfl (E0.nf hC rfl (E0.s hC rfl (n' (bk' (fw' (ih3 _ _ _ hh) rfl rfl rfl)))))
 ·intro g3 g4 ih3 ih4 o0 o3 res hh
  obtain ⟨x2,hx2,hh⟩:=bs' hh
  refine S0.unroll (bk' (p' 1 rfl (g' [1,0] (Bo hx2) rfl rfl rfl rfl rfl rfl (e' rfl (S' (t' rfl (ci' rfl hh (fun hh=>?_) (fun hh=>?_))))))))
  ·cases hh
   exact p' 1 rfl (E0.s hC rfl (n' (re' (rt' rfl rfl rfl))))
  refine sk' ?_
  rcases bp' hh with ⟨nn,hx3,⟨⟩⟩ | ⟨x3,hx3,hh⟩
  ·refine AEx.drawE hC ?_
   refine D0.step rfl (j0:=0) (js:=[1,2]) (by kernel_rfl) ⟨⟨_,rfl,?_⟩,⟨_,rfl,?_⟩,⟨_,rfl,?_⟩,trivial⟩
   ·refine e' rfl ?_
    refine D0.step rfl (j0:=1) (js:=[2]) (by kernel_rfl) ⟨⟨_,rfl,?_⟩,⟨_,rfl,?_⟩,trivial⟩
    ·refine e' rfl ?_
     refine D0.step rfl (j0:=2) (js:=[]) (by kernel_rfl) ⟨⟨_,rfl,?_⟩,trivial⟩
     refine e' rfl ?_
     refine D0.step rfl (j0:=3) (js:=[]) (by kernel_rfl) ⟨⟨_,rfl,?_⟩,trivial⟩
     exact gn' [0] (ih4 _ _ hx3) rfl rfl rfl rfl rfl (fun hi=>peW ⟨trivial,⟨rfl,.refl _,rfl⟩,trivial⟩ rfl hi)
    ·refine e' rfl ?_
     refine D0.step rfl (j0:=1) (js:=[3]) (by kernel_rfl) ⟨⟨_,rfl,?_⟩,⟨_,rfl,?_⟩,trivial⟩
     ·refine e' rfl ?_
      refine D0.step rfl (j0:=3) (js:=[]) (by kernel_rfl) ⟨⟨_,rfl,?_⟩,trivial⟩
      exact gn' [0] (ih4 _ _ hx3) rfl rfl rfl rfl rfl (fun hi=>peW ⟨trivial,⟨rfl,.refl _,rfl⟩,trivial⟩ rfl hi)
     ·exact gn' [0] (ih4 _ _ hx3) rfl rfl rfl rfl rfl (fun hi=>peW ⟨trivial,⟨rfl,.refl _,rfl⟩,trivial⟩ rfl hi)
   ·refine e' rfl ?_
    refine D0.step rfl (j0:=0) (js:=[2]) (by kernel_rfl) ⟨⟨_,rfl,?_⟩,⟨_,rfl,?_⟩,trivial⟩
    ·refine e' rfl ?_
     refine D0.step rfl (j0:=2) (js:=[]) (by kernel_rfl) ⟨⟨_,rfl,?_⟩,trivial⟩
     refine e' rfl ?_
     refine D0.step rfl (j0:=3) (js:=[]) (by kernel_rfl) ⟨⟨_,rfl,?_⟩,trivial⟩
     exact gn' [0] (ih4 _ _ hx3) rfl rfl rfl rfl rfl (fun hi=>peW ⟨trivial,⟨rfl,.refl _,rfl⟩,trivial⟩ rfl hi)
    ·refine e' rfl ?_
     refine D0.step rfl (j0:=0) (js:=[3]) (by kernel_rfl) ⟨⟨_,rfl,?_⟩,⟨_,rfl,?_⟩,trivial⟩
     ·refine e' rfl ?_
      refine D0.step rfl (j0:=3) (js:=[]) (by kernel_rfl) ⟨⟨_,rfl,?_⟩,trivial⟩
      exact gn' [0] (ih4 _ _ hx3) rfl rfl rfl rfl rfl (fun hi=>peW ⟨trivial,⟨rfl,.refl _,rfl⟩,trivial⟩ rfl hi)
     ·exact gn' [0] (ih4 _ _ hx3) rfl rfl rfl rfl rfl (fun hi=>peW ⟨trivial,⟨rfl,.refl _,rfl⟩,trivial⟩ rfl hi)
   ·refine e' rfl ?_
    refine D0.step rfl (j0:=0) (js:=[1,3]) (by kernel_rfl) ⟨⟨_,rfl,?_⟩,⟨_,rfl,?_⟩,⟨_,rfl,?_⟩,trivial⟩
    ·refine e' rfl ?_
     refine D0.step rfl (j0:=1) (js:=[3]) (by kernel_rfl) ⟨⟨_,rfl,?_⟩,⟨_,rfl,?_⟩,trivial⟩
     ·refine e' rfl ?_
      refine D0.step rfl (j0:=3) (js:=[]) (by kernel_rfl) ⟨⟨_,rfl,?_⟩,trivial⟩
      exact gn' [0] (ih4 _ _ hx3) rfl rfl rfl rfl rfl (fun hi=>peW ⟨trivial,⟨rfl,.refl _,rfl⟩,trivial⟩ rfl hi)
     ·exact gn' [0] (ih4 _ _ hx3) rfl rfl rfl rfl rfl (fun hi=>peW ⟨trivial,⟨rfl,.refl _,rfl⟩,trivial⟩ rfl hi)
    ·refine e' rfl ?_
     refine D0.step rfl (j0:=0) (js:=[3]) (by kernel_rfl) ⟨⟨_,rfl,?_⟩,⟨_,rfl,?_⟩,trivial⟩
     ·refine e' rfl ?_
      refine D0.step rfl (j0:=3) (js:=[]) (by kernel_rfl) ⟨⟨_,rfl,?_⟩,trivial⟩
      exact gn' [0] (ih4 _ _ hx3) rfl rfl rfl rfl rfl (fun hi=>peW ⟨trivial,⟨rfl,.refl _,rfl⟩,trivial⟩ rfl hi)
     ·exact gn' [0] (ih4 _ _ hx3) rfl rfl rfl rfl rfl (fun hi=>peW ⟨trivial,⟨rfl,.refl _,rfl⟩,trivial⟩ rfl hi)
    ·exact gn' [0] (ih4 _ _ hx3) rfl rfl rfl rfl rfl (fun hi=>peW ⟨trivial,⟨rfl,.refl _,rfl⟩,trivial⟩ rfl hi)
  refine AEx.drawE hC ?_
  refine D0.step rfl (j0:=0) (js:=[1,2]) (by kernel_rfl) ⟨⟨_,rfl,?_⟩,⟨_,rfl,?_⟩,⟨_,rfl,?_⟩,trivial⟩
  ·refine e' rfl ?_
   refine D0.step rfl (j0:=1) (js:=[2]) (by kernel_rfl) ⟨⟨_,rfl,?_⟩,⟨_,rfl,?_⟩,trivial⟩
   ·refine e' rfl ?_
    refine D0.step rfl (j0:=2) (js:=[]) (by kernel_rfl) ⟨⟨_,rfl,?_⟩,trivial⟩
    refine e' rfl ?_
    refine D0.step rfl (j0:=3) (js:=[]) (by kernel_rfl) ⟨⟨_,rfl,?_⟩,trivial⟩
    refine g' [0] ((ih4 _ _ hx3).ok) rfl rfl rfl rfl rfl rfl (n' ?_)
    refine D0.step rfl (j0:=4) (js:=[]) (by kernel_rfl) ⟨⟨_,rfl,?_⟩,trivial⟩
    refine E0.be hC rfl (B0.rows_map [o3,x3.1]).symm (n' ?_)
    refine D0.step rfl (j0:=5) (js:=[]) (by kernel_rfl) ⟨⟨_,rfl,?_⟩,trivial⟩
    refine e' rfl ?_
    refine D0.step rfl (j0:=6) (js:=[]) (by kernel_rfl) ⟨⟨_,rfl,?_⟩,trivial⟩
    refine E0.s hC rfl (n' (D0.nil (by kernel_rfl) ?_))
    refine S0.wk ?_ (ih3 _ _ _ hh)
    exact ⟨⟨⟨.rfl,rfl⟩,⟨.rfl,rfl⟩,⟨.rfl,rfl⟩,⟨.rfl,rfl⟩,trivial⟩,⟨⟨rfl,.refl _,rfl⟩,⟨rfl,.refl _,rfl⟩,⟨rfl,.refl _,rfl⟩,⟨rfl,⟨.rfl,.rfl,.rfl,.full,trivial⟩,rfl⟩,trivial⟩,rfl⟩
   ·refine e' rfl ?_
    refine D0.step rfl (j0:=1) (js:=[3]) (by kernel_rfl) ⟨⟨_,rfl,?_⟩,⟨_,rfl,?_⟩,trivial⟩
    ·refine e' rfl ?_
     refine D0.step rfl (j0:=3) (js:=[]) (by kernel_rfl) ⟨⟨_,rfl,?_⟩,trivial⟩
     refine g' [0] ((ih4 _ _ hx3).ok) rfl rfl rfl rfl rfl rfl (n' ?_)
     refine D0.step rfl (j0:=4) (js:=[]) (by kernel_rfl) ⟨⟨_,rfl,?_⟩,trivial⟩
     refine E0.be hC rfl (B0.rows_map [o3,x3.1]).symm (n' ?_)
     refine D0.step rfl (j0:=5) (js:=[]) (by kernel_rfl) ⟨⟨_,rfl,?_⟩,trivial⟩
     refine e' rfl ?_
     refine D0.step rfl (j0:=6) (js:=[]) (by kernel_rfl) ⟨⟨_,rfl,?_⟩,trivial⟩
     refine E0.s hC rfl (n' (D0.nil (by kernel_rfl) ?_))
     refine S0.wk ?_ (ih3 _ _ _ hh)
     exact ⟨⟨⟨.rfl,rfl⟩,⟨.rfl,rfl⟩,⟨.rfl,rfl⟩,⟨.rfl,rfl⟩,trivial⟩,⟨⟨rfl,.refl _,rfl⟩,⟨rfl,.refl _,rfl⟩,⟨rfl,.refl _,rfl⟩,⟨rfl,⟨.rfl,.rfl,.rfl,.full,trivial⟩,rfl⟩,trivial⟩,rfl⟩
    ·refine g' [0] ((ih4 _ _ hx3).ok) rfl rfl rfl rfl rfl rfl (n' ?_)
     refine D0.step rfl (j0:=1) (js:=[]) (by kernel_rfl) ⟨⟨_,rfl,?_⟩,trivial⟩
     refine e' rfl ?_
     refine D0.step rfl (j0:=4) (js:=[]) (by kernel_rfl) ⟨⟨_,rfl,?_⟩,trivial⟩
     refine E0.be hC rfl (B0.rows_map [o3,x3.1]).symm (n' ?_)
     refine D0.step rfl (j0:=5) (js:=[]) (by kernel_rfl) ⟨⟨_,rfl,?_⟩,trivial⟩
     refine e' rfl ?_
     refine D0.step rfl (j0:=6) (js:=[]) (by kernel_rfl) ⟨⟨_,rfl,?_⟩,trivial⟩
     refine E0.s hC rfl (n' (D0.nil (by kernel_rfl) ?_))
     refine S0.wk ?_ (ih3 _ _ _ hh)
     exact ⟨⟨⟨.rfl,rfl⟩,⟨.rfl,rfl⟩,⟨.rfl,rfl⟩,⟨.rfl,rfl⟩,trivial⟩,⟨⟨rfl,.refl _,rfl⟩,⟨rfl,.refl _,rfl⟩,⟨rfl,.refl _,rfl⟩,⟨rfl,⟨.rfl,.rfl,.rfl,.full,trivial⟩,rfl⟩,trivial⟩,rfl⟩
  ·refine e' rfl ?_
   refine D0.step rfl (j0:=0) (js:=[2]) (by kernel_rfl) ⟨⟨_,rfl,?_⟩,⟨_,rfl,?_⟩,trivial⟩
   ·refine e' rfl ?_
    refine D0.step rfl (j0:=2) (js:=[]) (by kernel_rfl) ⟨⟨_,rfl,?_⟩,trivial⟩
    refine e' rfl ?_
    refine D0.step rfl (j0:=3) (js:=[]) (by kernel_rfl) ⟨⟨_,rfl,?_⟩,trivial⟩
    refine g' [0] ((ih4 _ _ hx3).ok) rfl rfl rfl rfl rfl rfl (n' ?_)
    refine D0.step rfl (j0:=4) (js:=[]) (by kernel_rfl) ⟨⟨_,rfl,?_⟩,trivial⟩
    refine E0.be hC rfl (B0.rows_map [o3,x3.1]).symm (n' ?_)
    refine D0.step rfl (j0:=5) (js:=[]) (by kernel_rfl) ⟨⟨_,rfl,?_⟩,trivial⟩
    refine e' rfl ?_
    refine D0.step rfl (j0:=6) (js:=[]) (by kernel_rfl) ⟨⟨_,rfl,?_⟩,trivial⟩
    refine E0.s hC rfl (n' (D0.nil (by kernel_rfl) ?_))
    refine S0.wk ?_ (ih3 _ _ _ hh)
    exact ⟨⟨⟨.rfl,rfl⟩,⟨.rfl,rfl⟩,⟨.rfl,rfl⟩,⟨.rfl,rfl⟩,trivial⟩,⟨⟨rfl,.refl _,rfl⟩,⟨rfl,.refl _,rfl⟩,⟨rfl,.refl _,rfl⟩,⟨rfl,⟨.rfl,.rfl,.rfl,.full,trivial⟩,rfl⟩,trivial⟩,rfl⟩
   ·refine e' rfl ?_
    refine D0.step rfl (j0:=0) (js:=[3]) (by kernel_rfl) ⟨⟨_,rfl,?_⟩,⟨_,rfl,?_⟩,trivial⟩
    ·refine e' rfl ?_
     refine D0.step rfl (j0:=3) (js:=[]) (by kernel_rfl) ⟨⟨_,rfl,?_⟩,trivial⟩
     refine g' [0] ((ih4 _ _ hx3).ok) rfl rfl rfl rfl rfl rfl (n' ?_)
     refine D0.step rfl (j0:=4) (js:=[]) (by kernel_rfl) ⟨⟨_,rfl,?_⟩,trivial⟩
     refine E0.be hC rfl (B0.rows_map [o3,x3.1]).symm (n' ?_)
     refine D0.step rfl (j0:=5) (js:=[]) (by kernel_rfl) ⟨⟨_,rfl,?_⟩,trivial⟩
     refine e' rfl ?_
     refine D0.step rfl (j0:=6) (js:=[]) (by kernel_rfl) ⟨⟨_,rfl,?_⟩,trivial⟩
     refine E0.s hC rfl (n' (D0.nil (by kernel_rfl) ?_))
     refine S0.wk ?_ (ih3 _ _ _ hh)
     exact ⟨⟨⟨.rfl,rfl⟩,⟨.rfl,rfl⟩,⟨.rfl,rfl⟩,⟨.rfl,rfl⟩,trivial⟩,⟨⟨rfl,.refl _,rfl⟩,⟨rfl,.refl _,rfl⟩,⟨rfl,.refl _,rfl⟩,⟨rfl,⟨.rfl,.rfl,.rfl,.full,trivial⟩,rfl⟩,trivial⟩,rfl⟩
    ·refine g' [0] ((ih4 _ _ hx3).ok) rfl rfl rfl rfl rfl rfl (n' ?_)
     refine D0.step rfl (j0:=0) (js:=[4]) (by kernel_rfl) ⟨⟨_,rfl,?_⟩,⟨_,rfl,?_⟩,trivial⟩
     ·refine e' rfl ?_
      refine D0.step rfl (j0:=4) (js:=[]) (by kernel_rfl) ⟨⟨_,rfl,?_⟩,trivial⟩
      refine E0.be hC rfl (B0.rows_map [o3,x3.1]).symm (n' ?_)
      refine D0.step rfl (j0:=5) (js:=[]) (by kernel_rfl) ⟨⟨_,rfl,?_⟩,trivial⟩
      refine e' rfl ?_
      refine D0.step rfl (j0:=6) (js:=[]) (by kernel_rfl) ⟨⟨_,rfl,?_⟩,trivial⟩
      refine E0.s hC rfl (n' (D0.nil (by kernel_rfl) ?_))
      refine S0.wk ?_ (ih3 _ _ _ hh)
      exact ⟨⟨⟨.rfl,rfl⟩,⟨.rfl,rfl⟩,⟨.rfl,rfl⟩,⟨.rfl,rfl⟩,trivial⟩,⟨⟨rfl,.refl _,rfl⟩,⟨rfl,.refl _,rfl⟩,⟨rfl,.refl _,rfl⟩,⟨rfl,⟨.rfl,.rfl,.rfl,.full,trivial⟩,rfl⟩,trivial⟩,rfl⟩
     ·refine E0.be hC rfl (B0.rows_map [o3,x3.1]).symm (n' ?_)
      refine D0.step rfl (j0:=0) (js:=[]) (by kernel_rfl) ⟨⟨_,rfl,?_⟩,trivial⟩
      refine e' rfl ?_
      refine D0.step rfl (j0:=5) (js:=[]) (by kernel_rfl) ⟨⟨_,rfl,?_⟩,trivial⟩
      refine e' rfl ?_
      refine D0.step rfl (j0:=6) (js:=[]) (by kernel_rfl) ⟨⟨_,rfl,?_⟩,trivial⟩
      refine E0.s hC rfl (n' (D0.nil (by kernel_rfl) ?_))
      refine S0.wk ?_ (ih3 _ _ _ hh)
      exact ⟨⟨⟨.rfl,rfl⟩,⟨.rfl,rfl⟩,⟨.rfl,rfl⟩,⟨.rfl,rfl⟩,trivial⟩,⟨⟨rfl,.refl _,rfl⟩,⟨rfl,.refl _,rfl⟩,⟨rfl,.refl _,rfl⟩,⟨rfl,⟨.rfl,.rfl,.rfl,.full,trivial⟩,rfl⟩,trivial⟩,rfl⟩
  ·refine e' rfl ?_
   refine D0.step rfl (j0:=0) (js:=[1,3]) (by kernel_rfl) ⟨⟨_,rfl,?_⟩,⟨_,rfl,?_⟩,⟨_,rfl,?_⟩,trivial⟩
   ·refine e' rfl ?_
    refine D0.step rfl (j0:=1) (js:=[3]) (by kernel_rfl) ⟨⟨_,rfl,?_⟩,⟨_,rfl,?_⟩,trivial⟩
    ·refine e' rfl ?_
     refine D0.step rfl (j0:=3) (js:=[]) (by kernel_rfl) ⟨⟨_,rfl,?_⟩,trivial⟩
     refine g' [0] ((ih4 _ _ hx3).ok) rfl rfl rfl rfl rfl rfl (n' ?_)
     refine D0.step rfl (j0:=4) (js:=[]) (by kernel_rfl) ⟨⟨_,rfl,?_⟩,trivial⟩
     refine E0.be hC rfl (B0.rows_map [o3,x3.1]).symm (n' ?_)
     refine D0.step rfl (j0:=5) (js:=[]) (by kernel_rfl) ⟨⟨_,rfl,?_⟩,trivial⟩
     refine e' rfl ?_
     refine D0.step rfl (j0:=6) (js:=[]) (by kernel_rfl) ⟨⟨_,rfl,?_⟩,trivial⟩
     refine E0.s hC rfl (n' (D0.nil (by kernel_rfl) ?_))
     refine S0.wk ?_ (ih3 _ _ _ hh)
     exact ⟨⟨⟨.rfl,rfl⟩,⟨.rfl,rfl⟩,⟨.rfl,rfl⟩,⟨.rfl,rfl⟩,trivial⟩,⟨⟨rfl,.refl _,rfl⟩,⟨rfl,.refl _,rfl⟩,⟨rfl,.refl _,rfl⟩,⟨rfl,⟨.rfl,.rfl,.rfl,.full,trivial⟩,rfl⟩,trivial⟩,rfl⟩
    ·refine g' [0] ((ih4 _ _ hx3).ok) rfl rfl rfl rfl rfl rfl (n' ?_)
     refine D0.step rfl (j0:=1) (js:=[]) (by kernel_rfl) ⟨⟨_,rfl,?_⟩,trivial⟩
     refine e' rfl ?_
     refine D0.step rfl (j0:=4) (js:=[]) (by kernel_rfl) ⟨⟨_,rfl,?_⟩,trivial⟩
     refine E0.be hC rfl (B0.rows_map [o3,x3.1]).symm (n' ?_)
     refine D0.step rfl (j0:=5) (js:=[]) (by kernel_rfl) ⟨⟨_,rfl,?_⟩,trivial⟩
     refine e' rfl ?_
     refine D0.step rfl (j0:=6) (js:=[]) (by kernel_rfl) ⟨⟨_,rfl,?_⟩,trivial⟩
     refine E0.s hC rfl (n' (D0.nil (by kernel_rfl) ?_))
     refine S0.wk ?_ (ih3 _ _ _ hh)
     exact ⟨⟨⟨.rfl,rfl⟩,⟨.rfl,rfl⟩,⟨.rfl,rfl⟩,⟨.rfl,rfl⟩,trivial⟩,⟨⟨rfl,.refl _,rfl⟩,⟨rfl,.refl _,rfl⟩,⟨rfl,.refl _,rfl⟩,⟨rfl,⟨.rfl,.rfl,.rfl,.full,trivial⟩,rfl⟩,trivial⟩,rfl⟩
   ·refine e' rfl ?_
    refine D0.step rfl (j0:=0) (js:=[3]) (by kernel_rfl) ⟨⟨_,rfl,?_⟩,⟨_,rfl,?_⟩,trivial⟩
    ·refine e' rfl ?_
     refine D0.step rfl (j0:=3) (js:=[]) (by kernel_rfl) ⟨⟨_,rfl,?_⟩,trivial⟩
     refine g' [0] ((ih4 _ _ hx3).ok) rfl rfl rfl rfl rfl rfl (n' ?_)
     refine D0.step rfl (j0:=4) (js:=[]) (by kernel_rfl) ⟨⟨_,rfl,?_⟩,trivial⟩
     refine E0.be hC rfl (B0.rows_map [o3,x3.1]).symm (n' ?_)
     refine D0.step rfl (j0:=5) (js:=[]) (by kernel_rfl) ⟨⟨_,rfl,?_⟩,trivial⟩
     refine e' rfl ?_
     refine D0.step rfl (j0:=6) (js:=[]) (by kernel_rfl) ⟨⟨_,rfl,?_⟩,trivial⟩
     refine E0.s hC rfl (n' (D0.nil (by kernel_rfl) ?_))
     refine S0.wk ?_ (ih3 _ _ _ hh)
     exact ⟨⟨⟨.rfl,rfl⟩,⟨.rfl,rfl⟩,⟨.rfl,rfl⟩,⟨.rfl,rfl⟩,trivial⟩,⟨⟨rfl,.refl _,rfl⟩,⟨rfl,.refl _,rfl⟩,⟨rfl,.refl _,rfl⟩,⟨rfl,⟨.rfl,.rfl,.rfl,.full,trivial⟩,rfl⟩,trivial⟩,rfl⟩
    ·refine g' [0] ((ih4 _ _ hx3).ok) rfl rfl rfl rfl rfl rfl (n' ?_)
     refine D0.step rfl (j0:=0) (js:=[4]) (by kernel_rfl) ⟨⟨_,rfl,?_⟩,⟨_,rfl,?_⟩,trivial⟩
     ·refine e' rfl ?_
      refine D0.step rfl (j0:=4) (js:=[]) (by kernel_rfl) ⟨⟨_,rfl,?_⟩,trivial⟩
      refine E0.be hC rfl (B0.rows_map [o3,x3.1]).symm (n' ?_)
      refine D0.step rfl (j0:=5) (js:=[]) (by kernel_rfl) ⟨⟨_,rfl,?_⟩,trivial⟩
      refine e' rfl ?_
      refine D0.step rfl (j0:=6) (js:=[]) (by kernel_rfl) ⟨⟨_,rfl,?_⟩,trivial⟩
      refine E0.s hC rfl (n' (D0.nil (by kernel_rfl) ?_))
      refine S0.wk ?_ (ih3 _ _ _ hh)
      exact ⟨⟨⟨.rfl,rfl⟩,⟨.rfl,rfl⟩,⟨.rfl,rfl⟩,⟨.rfl,rfl⟩,trivial⟩,⟨⟨rfl,.refl _,rfl⟩,⟨rfl,.refl _,rfl⟩,⟨rfl,.refl _,rfl⟩,⟨rfl,⟨.rfl,.rfl,.rfl,.full,trivial⟩,rfl⟩,trivial⟩,rfl⟩
     ·refine E0.be hC rfl (B0.rows_map [o3,x3.1]).symm (n' ?_)
      refine D0.step rfl (j0:=0) (js:=[]) (by kernel_rfl) ⟨⟨_,rfl,?_⟩,trivial⟩
      refine e' rfl ?_
      refine D0.step rfl (j0:=5) (js:=[]) (by kernel_rfl) ⟨⟨_,rfl,?_⟩,trivial⟩
      refine e' rfl ?_
      refine D0.step rfl (j0:=6) (js:=[]) (by kernel_rfl) ⟨⟨_,rfl,?_⟩,trivial⟩
      refine E0.s hC rfl (n' (D0.nil (by kernel_rfl) ?_))
      refine S0.wk ?_ (ih3 _ _ _ hh)
      exact ⟨⟨⟨.rfl,rfl⟩,⟨.rfl,rfl⟩,⟨.rfl,rfl⟩,⟨.rfl,rfl⟩,trivial⟩,⟨⟨rfl,.refl _,rfl⟩,⟨rfl,.refl _,rfl⟩,⟨rfl,.refl _,rfl⟩,⟨rfl,⟨.rfl,.rfl,.rfl,.full,trivial⟩,rfl⟩,trivial⟩,rfl⟩
   ·refine g' [0] ((ih4 _ _ hx3).ok) rfl rfl rfl rfl rfl rfl (n' ?_)
    refine D0.step rfl (j0:=0) (js:=[1]) (by kernel_rfl) ⟨⟨_,rfl,?_⟩,⟨_,rfl,?_⟩,trivial⟩
    ·refine e' rfl ?_
     refine D0.step rfl (j0:=1) (js:=[]) (by kernel_rfl) ⟨⟨_,rfl,?_⟩,trivial⟩
     refine e' rfl ?_
     refine D0.step rfl (j0:=4) (js:=[]) (by kernel_rfl) ⟨⟨_,rfl,?_⟩,trivial⟩
     refine E0.be hC rfl (B0.rows_map [o3,x3.1]).symm (n' ?_)
     refine D0.step rfl (j0:=5) (js:=[]) (by kernel_rfl) ⟨⟨_,rfl,?_⟩,trivial⟩
     refine e' rfl ?_
     refine D0.step rfl (j0:=6) (js:=[]) (by kernel_rfl) ⟨⟨_,rfl,?_⟩,trivial⟩
     refine E0.s hC rfl (n' (D0.nil (by kernel_rfl) ?_))
     refine S0.wk ?_ (ih3 _ _ _ hh)
     exact ⟨⟨⟨.rfl,rfl⟩,⟨.rfl,rfl⟩,⟨.rfl,rfl⟩,⟨.rfl,rfl⟩,trivial⟩,⟨⟨rfl,.refl _,rfl⟩,⟨rfl,.refl _,rfl⟩,⟨rfl,.refl _,rfl⟩,⟨rfl,⟨.rfl,.rfl,.rfl,.full,trivial⟩,rfl⟩,trivial⟩,rfl⟩
    ·refine e' rfl ?_
     refine D0.step rfl (j0:=0) (js:=[4]) (by kernel_rfl) ⟨⟨_,rfl,?_⟩,⟨_,rfl,?_⟩,trivial⟩
     ·refine e' rfl ?_
      refine D0.step rfl (j0:=4) (js:=[]) (by kernel_rfl) ⟨⟨_,rfl,?_⟩,trivial⟩
      refine E0.be hC rfl (B0.rows_map [o3,x3.1]).symm (n' ?_)
      refine D0.step rfl (j0:=5) (js:=[]) (by kernel_rfl) ⟨⟨_,rfl,?_⟩,trivial⟩
      refine e' rfl ?_
      refine D0.step rfl (j0:=6) (js:=[]) (by kernel_rfl) ⟨⟨_,rfl,?_⟩,trivial⟩
      refine E0.s hC rfl (n' (D0.nil (by kernel_rfl) ?_))
      refine S0.wk ?_ (ih3 _ _ _ hh)
      exact ⟨⟨⟨.rfl,rfl⟩,⟨.rfl,rfl⟩,⟨.rfl,rfl⟩,⟨.rfl,rfl⟩,trivial⟩,⟨⟨rfl,.refl _,rfl⟩,⟨rfl,.refl _,rfl⟩,⟨rfl,.refl _,rfl⟩,⟨rfl,⟨.rfl,.rfl,.rfl,.full,trivial⟩,rfl⟩,trivial⟩,rfl⟩
     ·refine E0.be hC rfl (B0.rows_map [o3,x3.1]).symm (n' ?_)
      refine D0.step rfl (j0:=0) (js:=[]) (by kernel_rfl) ⟨⟨_,rfl,?_⟩,trivial⟩
      refine e' rfl ?_
      refine D0.step rfl (j0:=5) (js:=[]) (by kernel_rfl) ⟨⟨_,rfl,?_⟩,trivial⟩
      refine e' rfl ?_
      refine D0.step rfl (j0:=6) (js:=[]) (by kernel_rfl) ⟨⟨_,rfl,?_⟩,trivial⟩
      refine E0.s hC rfl (n' (D0.nil (by kernel_rfl) ?_))
      refine S0.wk ?_ (ih3 _ _ _ hh)
      exact ⟨⟨⟨.rfl,rfl⟩,⟨.rfl,rfl⟩,⟨.rfl,rfl⟩,⟨.rfl,rfl⟩,trivial⟩,⟨⟨rfl,.refl _,rfl⟩,⟨rfl,.refl _,rfl⟩,⟨rfl,.refl _,rfl⟩,⟨rfl,⟨.rfl,.rfl,.rfl,.full,trivial⟩,rfl⟩,trivial⟩,rfl⟩
 ·intro g5 ih5 parserParser res hh
  refine Y1.intro hC Tryz.func111 rfl rfl rfl (s' rfl rfl (E0.n hC rfl (E0.nf hC rfl (n' (p' 4 rfl ?_)))))
  rcases bp' hh with ⟨nn,hx1,⟨⟩⟩ | ⟨x1,hx1,hh⟩
  ·exact gn' [0,1] (ih5 _ _ hx1) rfl rfl rfl rfl rfl (fun hi=>peW ⟨trivial,trivial⟩ rfl hi)
  cases hh
  exact g' [0,1] ((ih5 _ _ hx1).ok) rfl rfl rfl rfl rfl rfl (E0.s hC rfl (n' (re' (rt' rfl rfl rfl))))
 ·intro g6 g7 ih6 ih7 parserParser res hh
  refine Y1.intro hC Tryz.func110 rfl rfl rfl (s' rfl rfl (E0.nf hC rfl (n' (p' 1 rfl ?_))))
  rcases bp' hh with ⟨nn,hx1,⟨⟩⟩ | ⟨x1,hx1,hh⟩
  ·exact gn' [0] (ih7 _ _ hx1) rfl rfl rfl rfl rfl (fun hi=>peW ⟨trivial,⟨rfl,.refl _,rfl⟩,trivial⟩ rfl hi)
  exact g' [0] ((ih7 _ _ hx1).ok) rfl rfl rfl rfl rfl rfl (E0.nf hC rfl (E0.s hC rfl (n' (bk' (fw' (ih6 _ _ _ hh) rfl rfl rfl)))))
 ·intro g6 g7 ih6 ih7 o0 o3 res hh
  obtain ⟨x2,hx2,hh⟩:=bs' hh
  refine S0.unroll (bk' (p' 1 rfl (g' [1,0] (Rm hx2) rfl rfl rfl rfl rfl rfl (e' rfl (S' (t' rfl (ci' rfl hh (fun hh=>?_) (fun hh=>?_))))))))
  ·cases hh
   exact p' 1 rfl (E0.s hC rfl (n' (re' (rt' rfl rfl rfl))))
  refine sk' ?_
  rcases bp' hh with ⟨nn,hx3,⟨⟩⟩ | ⟨x3,hx3,hh⟩
  ·refine AEx.drawE hC ?_
   refine D0.step rfl (j0:=0) (js:=[1,2]) (by kernel_rfl) ⟨⟨_,rfl,?_⟩,⟨_,rfl,?_⟩,⟨_,rfl,?_⟩,trivial⟩
   ·refine e' rfl ?_
    refine D0.step rfl (j0:=1) (js:=[2]) (by kernel_rfl) ⟨⟨_,rfl,?_⟩,⟨_,rfl,?_⟩,trivial⟩
    ·refine e' rfl ?_
     refine D0.step rfl (j0:=2) (js:=[]) (by kernel_rfl) ⟨⟨_,rfl,?_⟩,trivial⟩
     refine e' rfl ?_
     refine D0.step rfl (j0:=3) (js:=[]) (by kernel_rfl) ⟨⟨_,rfl,?_⟩,trivial⟩
     exact gn' [0] (ih7 _ _ hx3) rfl rfl rfl rfl rfl (fun hi=>peW ⟨trivial,⟨rfl,.refl _,rfl⟩,trivial⟩ rfl hi)
    ·refine e' rfl ?_
     refine D0.step rfl (j0:=1) (js:=[3]) (by kernel_rfl) ⟨⟨_,rfl,?_⟩,⟨_,rfl,?_⟩,trivial⟩
     ·refine e' rfl ?_
      refine D0.step rfl (j0:=3) (js:=[]) (by kernel_rfl) ⟨⟨_,rfl,?_⟩,trivial⟩
      exact gn' [0] (ih7 _ _ hx3) rfl rfl rfl rfl rfl (fun hi=>peW ⟨trivial,⟨rfl,.refl _,rfl⟩,trivial⟩ rfl hi)
     ·exact gn' [0] (ih7 _ _ hx3) rfl rfl rfl rfl rfl (fun hi=>peW ⟨trivial,⟨rfl,.refl _,rfl⟩,trivial⟩ rfl hi)
   ·refine e' rfl ?_
    refine D0.step rfl (j0:=0) (js:=[2]) (by kernel_rfl) ⟨⟨_,rfl,?_⟩,⟨_,rfl,?_⟩,trivial⟩
    ·refine e' rfl ?_
     refine D0.step rfl (j0:=2) (js:=[]) (by kernel_rfl) ⟨⟨_,rfl,?_⟩,trivial⟩
     refine e' rfl ?_
     refine D0.step rfl (j0:=3) (js:=[]) (by kernel_rfl) ⟨⟨_,rfl,?_⟩,trivial⟩
     exact gn' [0] (ih7 _ _ hx3) rfl rfl rfl rfl rfl (fun hi=>peW ⟨trivial,⟨rfl,.refl _,rfl⟩,trivial⟩ rfl hi)
    ·refine e' rfl ?_
     refine D0.step rfl (j0:=0) (js:=[3]) (by kernel_rfl) ⟨⟨_,rfl,?_⟩,⟨_,rfl,?_⟩,trivial⟩
     ·refine e' rfl ?_
      refine D0.step rfl (j0:=3) (js:=[]) (by kernel_rfl) ⟨⟨_,rfl,?_⟩,trivial⟩
      exact gn' [0] (ih7 _ _ hx3) rfl rfl rfl rfl rfl (fun hi=>peW ⟨trivial,⟨rfl,.refl _,rfl⟩,trivial⟩ rfl hi)
     ·exact gn' [0] (ih7 _ _ hx3) rfl rfl rfl rfl rfl (fun hi=>peW ⟨trivial,⟨rfl,.refl _,rfl⟩,trivial⟩ rfl hi)
   ·refine e' rfl ?_
    refine D0.step rfl (j0:=0) (js:=[1,3]) (by kernel_rfl) ⟨⟨_,rfl,?_⟩,⟨_,rfl,?_⟩,⟨_,rfl,?_⟩,trivial⟩
    ·refine e' rfl ?_
     refine D0.step rfl (j0:=1) (js:=[3]) (by kernel_rfl) ⟨⟨_,rfl,?_⟩,⟨_,rfl,?_⟩,trivial⟩
     ·refine e' rfl ?_
      refine D0.step rfl (j0:=3) (js:=[]) (by kernel_rfl) ⟨⟨_,rfl,?_⟩,trivial⟩
      exact gn' [0] (ih7 _ _ hx3) rfl rfl rfl rfl rfl (fun hi=>peW ⟨trivial,⟨rfl,.refl _,rfl⟩,trivial⟩ rfl hi)
     ·exact gn' [0] (ih7 _ _ hx3) rfl rfl rfl rfl rfl (fun hi=>peW ⟨trivial,⟨rfl,.refl _,rfl⟩,trivial⟩ rfl hi)
    ·refine e' rfl ?_
     refine D0.step rfl (j0:=0) (js:=[3]) (by kernel_rfl) ⟨⟨_,rfl,?_⟩,⟨_,rfl,?_⟩,trivial⟩
     ·refine e' rfl ?_
      refine D0.step rfl (j0:=3) (js:=[]) (by kernel_rfl) ⟨⟨_,rfl,?_⟩,trivial⟩
      exact gn' [0] (ih7 _ _ hx3) rfl rfl rfl rfl rfl (fun hi=>peW ⟨trivial,⟨rfl,.refl _,rfl⟩,trivial⟩ rfl hi)
     ·exact gn' [0] (ih7 _ _ hx3) rfl rfl rfl rfl rfl (fun hi=>peW ⟨trivial,⟨rfl,.refl _,rfl⟩,trivial⟩ rfl hi)
    ·exact gn' [0] (ih7 _ _ hx3) rfl rfl rfl rfl rfl (fun hi=>peW ⟨trivial,⟨rfl,.refl _,rfl⟩,trivial⟩ rfl hi)
  refine AEx.drawE hC ?_
  refine D0.step rfl (j0:=0) (js:=[1,2]) (by kernel_rfl) ⟨⟨_,rfl,?_⟩,⟨_,rfl,?_⟩,⟨_,rfl,?_⟩,trivial⟩
  ·refine e' rfl ?_
   refine D0.step rfl (j0:=1) (js:=[2]) (by kernel_rfl) ⟨⟨_,rfl,?_⟩,⟨_,rfl,?_⟩,trivial⟩
   ·refine e' rfl ?_
    refine D0.step rfl (j0:=2) (js:=[]) (by kernel_rfl) ⟨⟨_,rfl,?_⟩,trivial⟩
    refine e' rfl ?_
    refine D0.step rfl (j0:=3) (js:=[]) (by kernel_rfl) ⟨⟨_,rfl,?_⟩,trivial⟩
    refine g' [0] ((ih7 _ _ hx3).ok) rfl rfl rfl rfl rfl rfl (n' ?_)
    refine D0.step rfl (j0:=4) (js:=[]) (by kernel_rfl) ⟨⟨_,rfl,?_⟩,trivial⟩
    refine E0.be hC rfl (B0.rows_map [o3,x3.1]).symm (n' ?_)
    refine D0.step rfl (j0:=5) (js:=[]) (by kernel_rfl) ⟨⟨_,rfl,?_⟩,trivial⟩
    refine e' rfl ?_
    refine D0.step rfl (j0:=6) (js:=[]) (by kernel_rfl) ⟨⟨_,rfl,?_⟩,trivial⟩
    refine E0.s hC rfl (n' (D0.nil (by kernel_rfl) ?_))
    refine S0.wk ?_ (ih6 _ _ _ hh)
    exact ⟨⟨⟨.rfl,rfl⟩,⟨.rfl,rfl⟩,⟨.rfl,rfl⟩,⟨.rfl,rfl⟩,trivial⟩,⟨⟨rfl,.refl _,rfl⟩,⟨rfl,.refl _,rfl⟩,⟨rfl,.refl _,rfl⟩,⟨rfl,⟨.rfl,.rfl,.rfl,.full,trivial⟩,rfl⟩,trivial⟩,rfl⟩
   ·refine e' rfl ?_
    refine D0.step rfl (j0:=1) (js:=[3]) (by kernel_rfl) ⟨⟨_,rfl,?_⟩,⟨_,rfl,?_⟩,trivial⟩
    ·refine e' rfl ?_
     refine D0.step rfl (j0:=3) (js:=[]) (by kernel_rfl) ⟨⟨_,rfl,?_⟩,trivial⟩
     refine g' [0] ((ih7 _ _ hx3).ok) rfl rfl rfl rfl rfl rfl (n' ?_)
     refine D0.step rfl (j0:=4) (js:=[]) (by kernel_rfl) ⟨⟨_,rfl,?_⟩,trivial⟩
     refine E0.be hC rfl (B0.rows_map [o3,x3.1]).symm (n' ?_)
     refine D0.step rfl (j0:=5) (js:=[]) (by kernel_rfl) ⟨⟨_,rfl,?_⟩,trivial⟩
     refine e' rfl ?_
     refine D0.step rfl (j0:=6) (js:=[]) (by kernel_rfl) ⟨⟨_,rfl,?_⟩,trivial⟩
     refine E0.s hC rfl (n' (D0.nil (by kernel_rfl) ?_))
     refine S0.wk ?_ (ih6 _ _ _ hh)
     exact ⟨⟨⟨.rfl,rfl⟩,⟨.rfl,rfl⟩,⟨.rfl,rfl⟩,⟨.rfl,rfl⟩,trivial⟩,⟨⟨rfl,.refl _,rfl⟩,⟨rfl,.refl _,rfl⟩,⟨rfl,.refl _,rfl⟩,⟨rfl,⟨.rfl,.rfl,.rfl,.full,trivial⟩,rfl⟩,trivial⟩,rfl⟩
    ·refine g' [0] ((ih7 _ _ hx3).ok) rfl rfl rfl rfl rfl rfl (n' ?_)
     refine D0.step rfl (j0:=1) (js:=[]) (by kernel_rfl) ⟨⟨_,rfl,?_⟩,trivial⟩
     refine e' rfl ?_
     refine D0.step rfl (j0:=4) (js:=[]) (by kernel_rfl) ⟨⟨_,rfl,?_⟩,trivial⟩
     refine E0.be hC rfl (B0.rows_map [o3,x3.1]).symm (n' ?_)
     refine D0.step rfl (j0:=5) (js:=[]) (by kernel_rfl) ⟨⟨_,rfl,?_⟩,trivial⟩
     refine e' rfl ?_
     refine D0.step rfl (j0:=6) (js:=[]) (by kernel_rfl) ⟨⟨_,rfl,?_⟩,trivial⟩
     refine E0.s hC rfl (n' (D0.nil (by kernel_rfl) ?_))
     refine S0.wk ?_ (ih6 _ _ _ hh)
     exact ⟨⟨⟨.rfl,rfl⟩,⟨.rfl,rfl⟩,⟨.rfl,rfl⟩,⟨.rfl,rfl⟩,trivial⟩,⟨⟨rfl,.refl _,rfl⟩,⟨rfl,.refl _,rfl⟩,⟨rfl,.refl _,rfl⟩,⟨rfl,⟨.rfl,.rfl,.rfl,.full,trivial⟩,rfl⟩,trivial⟩,rfl⟩
  ·refine e' rfl ?_
   refine D0.step rfl (j0:=0) (js:=[2]) (by kernel_rfl) ⟨⟨_,rfl,?_⟩,⟨_,rfl,?_⟩,trivial⟩
   ·refine e' rfl ?_
    refine D0.step rfl (j0:=2) (js:=[]) (by kernel_rfl) ⟨⟨_,rfl,?_⟩,trivial⟩
    refine e' rfl ?_
    refine D0.step rfl (j0:=3) (js:=[]) (by kernel_rfl) ⟨⟨_,rfl,?_⟩,trivial⟩
    refine g' [0] ((ih7 _ _ hx3).ok) rfl rfl rfl rfl rfl rfl (n' ?_)
    refine D0.step rfl (j0:=4) (js:=[]) (by kernel_rfl) ⟨⟨_,rfl,?_⟩,trivial⟩
    refine E0.be hC rfl (B0.rows_map [o3,x3.1]).symm (n' ?_)
    refine D0.step rfl (j0:=5) (js:=[]) (by kernel_rfl) ⟨⟨_,rfl,?_⟩,trivial⟩
    refine e' rfl ?_
    refine D0.step rfl (j0:=6) (js:=[]) (by kernel_rfl) ⟨⟨_,rfl,?_⟩,trivial⟩
    refine E0.s hC rfl (n' (D0.nil (by kernel_rfl) ?_))
    refine S0.wk ?_ (ih6 _ _ _ hh)
    exact ⟨⟨⟨.rfl,rfl⟩,⟨.rfl,rfl⟩,⟨.rfl,rfl⟩,⟨.rfl,rfl⟩,trivial⟩,⟨⟨rfl,.refl _,rfl⟩,⟨rfl,.refl _,rfl⟩,⟨rfl,.refl _,rfl⟩,⟨rfl,⟨.rfl,.rfl,.rfl,.full,trivial⟩,rfl⟩,trivial⟩,rfl⟩
   ·refine e' rfl ?_
    refine D0.step rfl (j0:=0) (js:=[3]) (by kernel_rfl) ⟨⟨_,rfl,?_⟩,⟨_,rfl,?_⟩,trivial⟩
    ·refine e' rfl ?_
     refine D0.step rfl (j0:=3) (js:=[]) (by kernel_rfl) ⟨⟨_,rfl,?_⟩,trivial⟩
     refine g' [0] ((ih7 _ _ hx3).ok) rfl rfl rfl rfl rfl rfl (n' ?_)
     refine D0.step rfl (j0:=4) (js:=[]) (by kernel_rfl) ⟨⟨_,rfl,?_⟩,trivial⟩
     refine E0.be hC rfl (B0.rows_map [o3,x3.1]).symm (n' ?_)
     refine D0.step rfl (j0:=5) (js:=[]) (by kernel_rfl) ⟨⟨_,rfl,?_⟩,trivial⟩
     refine e' rfl ?_
     refine D0.step rfl (j0:=6) (js:=[]) (by kernel_rfl) ⟨⟨_,rfl,?_⟩,trivial⟩
     refine E0.s hC rfl (n' (D0.nil (by kernel_rfl) ?_))
     refine S0.wk ?_ (ih6 _ _ _ hh)
     exact ⟨⟨⟨.rfl,rfl⟩,⟨.rfl,rfl⟩,⟨.rfl,rfl⟩,⟨.rfl,rfl⟩,trivial⟩,⟨⟨rfl,.refl _,rfl⟩,⟨rfl,.refl _,rfl⟩,⟨rfl,.refl _,rfl⟩,⟨rfl,⟨.rfl,.rfl,.rfl,.full,trivial⟩,rfl⟩,trivial⟩,rfl⟩
    ·refine g' [0] ((ih7 _ _ hx3).ok) rfl rfl rfl rfl rfl rfl (n' ?_)
     refine D0.step rfl (j0:=0) (js:=[4]) (by kernel_rfl) ⟨⟨_,rfl,?_⟩,⟨_,rfl,?_⟩,trivial⟩
     ·refine e' rfl ?_
      refine D0.step rfl (j0:=4) (js:=[]) (by kernel_rfl) ⟨⟨_,rfl,?_⟩,trivial⟩
      refine E0.be hC rfl (B0.rows_map [o3,x3.1]).symm (n' ?_)
      refine D0.step rfl (j0:=5) (js:=[]) (by kernel_rfl) ⟨⟨_,rfl,?_⟩,trivial⟩
      refine e' rfl ?_
      refine D0.step rfl (j0:=6) (js:=[]) (by kernel_rfl) ⟨⟨_,rfl,?_⟩,trivial⟩
      refine E0.s hC rfl (n' (D0.nil (by kernel_rfl) ?_))
      refine S0.wk ?_ (ih6 _ _ _ hh)
      exact ⟨⟨⟨.rfl,rfl⟩,⟨.rfl,rfl⟩,⟨.rfl,rfl⟩,⟨.rfl,rfl⟩,trivial⟩,⟨⟨rfl,.refl _,rfl⟩,⟨rfl,.refl _,rfl⟩,⟨rfl,.refl _,rfl⟩,⟨rfl,⟨.rfl,.rfl,.rfl,.full,trivial⟩,rfl⟩,trivial⟩,rfl⟩
     ·refine E0.be hC rfl (B0.rows_map [o3,x3.1]).symm (n' ?_)
      refine D0.step rfl (j0:=0) (js:=[]) (by kernel_rfl) ⟨⟨_,rfl,?_⟩,trivial⟩
      refine e' rfl ?_
      refine D0.step rfl (j0:=5) (js:=[]) (by kernel_rfl) ⟨⟨_,rfl,?_⟩,trivial⟩
      refine e' rfl ?_
      refine D0.step rfl (j0:=6) (js:=[]) (by kernel_rfl) ⟨⟨_,rfl,?_⟩,trivial⟩
      refine E0.s hC rfl (n' (D0.nil (by kernel_rfl) ?_))
      refine S0.wk ?_ (ih6 _ _ _ hh)
      exact ⟨⟨⟨.rfl,rfl⟩,⟨.rfl,rfl⟩,⟨.rfl,rfl⟩,⟨.rfl,rfl⟩,trivial⟩,⟨⟨rfl,.refl _,rfl⟩,⟨rfl,.refl _,rfl⟩,⟨rfl,.refl _,rfl⟩,⟨rfl,⟨.rfl,.rfl,.rfl,.full,trivial⟩,rfl⟩,trivial⟩,rfl⟩
  ·refine e' rfl ?_
   refine D0.step rfl (j0:=0) (js:=[1,3]) (by kernel_rfl) ⟨⟨_,rfl,?_⟩,⟨_,rfl,?_⟩,⟨_,rfl,?_⟩,trivial⟩
   ·refine e' rfl ?_
    refine D0.step rfl (j0:=1) (js:=[3]) (by kernel_rfl) ⟨⟨_,rfl,?_⟩,⟨_,rfl,?_⟩,trivial⟩
    ·refine e' rfl ?_
     refine D0.step rfl (j0:=3) (js:=[]) (by kernel_rfl) ⟨⟨_,rfl,?_⟩,trivial⟩
     refine g' [0] ((ih7 _ _ hx3).ok) rfl rfl rfl rfl rfl rfl (n' ?_)
     refine D0.step rfl (j0:=4) (js:=[]) (by kernel_rfl) ⟨⟨_,rfl,?_⟩,trivial⟩
     refine E0.be hC rfl (B0.rows_map [o3,x3.1]).symm (n' ?_)
     refine D0.step rfl (j0:=5) (js:=[]) (by kernel_rfl) ⟨⟨_,rfl,?_⟩,trivial⟩
     refine e' rfl ?_
     refine D0.step rfl (j0:=6) (js:=[]) (by kernel_rfl) ⟨⟨_,rfl,?_⟩,trivial⟩
     refine E0.s hC rfl (n' (D0.nil (by kernel_rfl) ?_))
     refine S0.wk ?_ (ih6 _ _ _ hh)
     exact ⟨⟨⟨.rfl,rfl⟩,⟨.rfl,rfl⟩,⟨.rfl,rfl⟩,⟨.rfl,rfl⟩,trivial⟩,⟨⟨rfl,.refl _,rfl⟩,⟨rfl,.refl _,rfl⟩,⟨rfl,.refl _,rfl⟩,⟨rfl,⟨.rfl,.rfl,.rfl,.full,trivial⟩,rfl⟩,trivial⟩,rfl⟩
    ·refine g' [0] ((ih7 _ _ hx3).ok) rfl rfl rfl rfl rfl rfl (n' ?_)
     refine D0.step rfl (j0:=1) (js:=[]) (by kernel_rfl) ⟨⟨_,rfl,?_⟩,trivial⟩
     refine e' rfl ?_
     refine D0.step rfl (j0:=4) (js:=[]) (by kernel_rfl) ⟨⟨_,rfl,?_⟩,trivial⟩
     refine E0.be hC rfl (B0.rows_map [o3,x3.1]).symm (n' ?_)
     refine D0.step rfl (j0:=5) (js:=[]) (by kernel_rfl) ⟨⟨_,rfl,?_⟩,trivial⟩
     refine e' rfl ?_
     refine D0.step rfl (j0:=6) (js:=[]) (by kernel_rfl) ⟨⟨_,rfl,?_⟩,trivial⟩
     refine E0.s hC rfl (n' (D0.nil (by kernel_rfl) ?_))
     refine S0.wk ?_ (ih6 _ _ _ hh)
     exact ⟨⟨⟨.rfl,rfl⟩,⟨.rfl,rfl⟩,⟨.rfl,rfl⟩,⟨.rfl,rfl⟩,trivial⟩,⟨⟨rfl,.refl _,rfl⟩,⟨rfl,.refl _,rfl⟩,⟨rfl,.refl _,rfl⟩,⟨rfl,⟨.rfl,.rfl,.rfl,.full,trivial⟩,rfl⟩,trivial⟩,rfl⟩
   ·refine e' rfl ?_
    refine D0.step rfl (j0:=0) (js:=[3]) (by kernel_rfl) ⟨⟨_,rfl,?_⟩,⟨_,rfl,?_⟩,trivial⟩
    ·refine e' rfl ?_
     refine D0.step rfl (j0:=3) (js:=[]) (by kernel_rfl) ⟨⟨_,rfl,?_⟩,trivial⟩
     refine g' [0] ((ih7 _ _ hx3).ok) rfl rfl rfl rfl rfl rfl (n' ?_)
     refine D0.step rfl (j0:=4) (js:=[]) (by kernel_rfl) ⟨⟨_,rfl,?_⟩,trivial⟩
     refine E0.be hC rfl (B0.rows_map [o3,x3.1]).symm (n' ?_)
     refine D0.step rfl (j0:=5) (js:=[]) (by kernel_rfl) ⟨⟨_,rfl,?_⟩,trivial⟩
     refine e' rfl ?_
     refine D0.step rfl (j0:=6) (js:=[]) (by kernel_rfl) ⟨⟨_,rfl,?_⟩,trivial⟩
     refine E0.s hC rfl (n' (D0.nil (by kernel_rfl) ?_))
     refine S0.wk ?_ (ih6 _ _ _ hh)
     exact ⟨⟨⟨.rfl,rfl⟩,⟨.rfl,rfl⟩,⟨.rfl,rfl⟩,⟨.rfl,rfl⟩,trivial⟩,⟨⟨rfl,.refl _,rfl⟩,⟨rfl,.refl _,rfl⟩,⟨rfl,.refl _,rfl⟩,⟨rfl,⟨.rfl,.rfl,.rfl,.full,trivial⟩,rfl⟩,trivial⟩,rfl⟩
    ·refine g' [0] ((ih7 _ _ hx3).ok) rfl rfl rfl rfl rfl rfl (n' ?_)
     refine D0.step rfl (j0:=0) (js:=[4]) (by kernel_rfl) ⟨⟨_,rfl,?_⟩,⟨_,rfl,?_⟩,trivial⟩
     ·refine e' rfl ?_
      refine D0.step rfl (j0:=4) (js:=[]) (by kernel_rfl) ⟨⟨_,rfl,?_⟩,trivial⟩
      refine E0.be hC rfl (B0.rows_map [o3,x3.1]).symm (n' ?_)
      refine D0.step rfl (j0:=5) (js:=[]) (by kernel_rfl) ⟨⟨_,rfl,?_⟩,trivial⟩
      refine e' rfl ?_
      refine D0.step rfl (j0:=6) (js:=[]) (by kernel_rfl) ⟨⟨_,rfl,?_⟩,trivial⟩
      refine E0.s hC rfl (n' (D0.nil (by kernel_rfl) ?_))
      refine S0.wk ?_ (ih6 _ _ _ hh)
      exact ⟨⟨⟨.rfl,rfl⟩,⟨.rfl,rfl⟩,⟨.rfl,rfl⟩,⟨.rfl,rfl⟩,trivial⟩,⟨⟨rfl,.refl _,rfl⟩,⟨rfl,.refl _,rfl⟩,⟨rfl,.refl _,rfl⟩,⟨rfl,⟨.rfl,.rfl,.rfl,.full,trivial⟩,rfl⟩,trivial⟩,rfl⟩
     ·refine E0.be hC rfl (B0.rows_map [o3,x3.1]).symm (n' ?_)
      refine D0.step rfl (j0:=0) (js:=[]) (by kernel_rfl) ⟨⟨_,rfl,?_⟩,trivial⟩
      refine e' rfl ?_
      refine D0.step rfl (j0:=5) (js:=[]) (by kernel_rfl) ⟨⟨_,rfl,?_⟩,trivial⟩
      refine e' rfl ?_
      refine D0.step rfl (j0:=6) (js:=[]) (by kernel_rfl) ⟨⟨_,rfl,?_⟩,trivial⟩
      refine E0.s hC rfl (n' (D0.nil (by kernel_rfl) ?_))
      refine S0.wk ?_ (ih6 _ _ _ hh)
      exact ⟨⟨⟨.rfl,rfl⟩,⟨.rfl,rfl⟩,⟨.rfl,rfl⟩,⟨.rfl,rfl⟩,trivial⟩,⟨⟨rfl,.refl _,rfl⟩,⟨rfl,.refl _,rfl⟩,⟨rfl,.refl _,rfl⟩,⟨rfl,⟨.rfl,.rfl,.rfl,.full,trivial⟩,rfl⟩,trivial⟩,rfl⟩
   ·refine g' [0] ((ih7 _ _ hx3).ok) rfl rfl rfl rfl rfl rfl (n' ?_)
    refine D0.step rfl (j0:=0) (js:=[1]) (by kernel_rfl) ⟨⟨_,rfl,?_⟩,⟨_,rfl,?_⟩,trivial⟩
    ·refine e' rfl ?_
     refine D0.step rfl (j0:=1) (js:=[]) (by kernel_rfl) ⟨⟨_,rfl,?_⟩,trivial⟩
     refine e' rfl ?_
     refine D0.step rfl (j0:=4) (js:=[]) (by kernel_rfl) ⟨⟨_,rfl,?_⟩,trivial⟩
     refine E0.be hC rfl (B0.rows_map [o3,x3.1]).symm (n' ?_)
     refine D0.step rfl (j0:=5) (js:=[]) (by kernel_rfl) ⟨⟨_,rfl,?_⟩,trivial⟩
     refine e' rfl ?_
     refine D0.step rfl (j0:=6) (js:=[]) (by kernel_rfl) ⟨⟨_,rfl,?_⟩,trivial⟩
     refine E0.s hC rfl (n' (D0.nil (by kernel_rfl) ?_))
     refine S0.wk ?_ (ih6 _ _ _ hh)
     exact ⟨⟨⟨.rfl,rfl⟩,⟨.rfl,rfl⟩,⟨.rfl,rfl⟩,⟨.rfl,rfl⟩,trivial⟩,⟨⟨rfl,.refl _,rfl⟩,⟨rfl,.refl _,rfl⟩,⟨rfl,.refl _,rfl⟩,⟨rfl,⟨.rfl,.rfl,.rfl,.full,trivial⟩,rfl⟩,trivial⟩,rfl⟩
    ·refine e' rfl ?_
     refine D0.step rfl (j0:=0) (js:=[4]) (by kernel_rfl) ⟨⟨_,rfl,?_⟩,⟨_,rfl,?_⟩,trivial⟩
     ·refine e' rfl ?_
      refine D0.step rfl (j0:=4) (js:=[]) (by kernel_rfl) ⟨⟨_,rfl,?_⟩,trivial⟩
      refine E0.be hC rfl (B0.rows_map [o3,x3.1]).symm (n' ?_)
      refine D0.step rfl (j0:=5) (js:=[]) (by kernel_rfl) ⟨⟨_,rfl,?_⟩,trivial⟩
      refine e' rfl ?_
      refine D0.step rfl (j0:=6) (js:=[]) (by kernel_rfl) ⟨⟨_,rfl,?_⟩,trivial⟩
      refine E0.s hC rfl (n' (D0.nil (by kernel_rfl) ?_))
      refine S0.wk ?_ (ih6 _ _ _ hh)
      exact ⟨⟨⟨.rfl,rfl⟩,⟨.rfl,rfl⟩,⟨.rfl,rfl⟩,⟨.rfl,rfl⟩,trivial⟩,⟨⟨rfl,.refl _,rfl⟩,⟨rfl,.refl _,rfl⟩,⟨rfl,.refl _,rfl⟩,⟨rfl,⟨.rfl,.rfl,.rfl,.full,trivial⟩,rfl⟩,trivial⟩,rfl⟩
     ·refine E0.be hC rfl (B0.rows_map [o3,x3.1]).symm (n' ?_)
      refine D0.step rfl (j0:=0) (js:=[]) (by kernel_rfl) ⟨⟨_,rfl,?_⟩,trivial⟩
      refine e' rfl ?_
      refine D0.step rfl (j0:=5) (js:=[]) (by kernel_rfl) ⟨⟨_,rfl,?_⟩,trivial⟩
      refine e' rfl ?_
      refine D0.step rfl (j0:=6) (js:=[]) (by kernel_rfl) ⟨⟨_,rfl,?_⟩,trivial⟩
      refine E0.s hC rfl (n' (D0.nil (by kernel_rfl) ?_))
      refine S0.wk ?_ (ih6 _ _ _ hh)
      exact ⟨⟨⟨.rfl,rfl⟩,⟨.rfl,rfl⟩,⟨.rfl,rfl⟩,⟨.rfl,rfl⟩,trivial⟩,⟨⟨rfl,.refl _,rfl⟩,⟨rfl,.refl _,rfl⟩,⟨rfl,.refl _,rfl⟩,⟨rfl,⟨.rfl,.rfl,.rfl,.full,trivial⟩,rfl⟩,trivial⟩,rfl⟩
 ·intro g8 g9 ih8 ih9 parserParser res hh
  refine Y1.intro hC Tryz.func166 rfl rfl rfl (s' rfl rfl (E0.nf hC rfl (n' (p' 1 rfl ?_))))
  rcases bp' hh with ⟨nn,hx1,⟨⟩⟩ | ⟨x1,hx1,hh⟩
  ·exact gn' [0] (ih9 _ _ hx1) rfl rfl rfl rfl rfl (fun hi=>peW ⟨trivial,trivial⟩ rfl hi)
  obtain ⟨x2,hx2,hh⟩:=bs' hh
  refine g' [0] ((ih9 _ _ hx1).ok) rfl rfl rfl rfl rfl rfl (E0.nf hC rfl (E0.s hC rfl (n' (t' rfl (S' (bk' (p' 1 rfl (g' [0] (O0 hx2) rfl rfl rfl rfl rfl rfl (e' rfl (ci' rfl hh (fun hh=>?_) (fun hh=>?_)))))))))))
  ·exact sk' (ew' (ih8 _ _ _ _ hh) rfl rfl rfl)
  obtain ⟨x4,hx4,hh⟩:=bs' hh
  refine p' 1 rfl (g' [0] (O0 hx4) rfl rfl rfl rfl rfl rfl (e' rfl (ci' rfl hh (fun hh=>?_) (fun hh=>?_))))
  ·exact T' rfl (ew' (ih8 _ _ _ _ hh) rfl rfl rfl)
  obtain ⟨x5,hx5,hh⟩:=bs' hh
  refine p' 1 rfl (g' [0] (O0 hx5) rfl rfl rfl rfl rfl rfl (e' rfl (ci' rfl hh (fun hh=>?_) (fun hh=>?_))))
  ·exact T' rfl (ew' (ih8 _ _ _ _ hh) rfl rfl rfl)
  obtain ⟨x6,hx6,hh⟩:=bs' hh
  refine p' 1 rfl (g' [0] (O0 hx6) rfl rfl rfl rfl rfl rfl (e' rfl (ci' rfl hh (fun hh=>?_) (fun hh=>?_))))
  ·exact T' rfl (ew' (ih8 _ _ _ _ hh) rfl rfl rfl)
  obtain ⟨x7,hx7,hh⟩:=bs' hh
  refine p' 1 rfl (g' [0] (O0 hx7) rfl rfl rfl rfl rfl rfl (e' rfl (ci' rfl hh (fun hh=>?_) (fun hh=>?_))))
  ·exact T' rfl (ew' (ih8 _ _ _ _ hh) rfl rfl rfl)
  obtain ⟨x8,hx8,hh⟩:=bs' hh
  refine p' 1 rfl (g' [0] (O0 hx8) rfl rfl rfl rfl rfl rfl (e' rfl (ci' rfl hh (fun hh=>?_) (fun hh=>?_))))
  ·exact T' rfl (ew' (ih8 _ _ _ _ hh) rfl rfl rfl)
  cases hh
  exact p' 1 rfl (E0.s hC rfl (n' (re' (rt' rfl rfl rfl))))
 ·intro g9 ih9 o0 x1 op res hh
  refine S' ?_
  rcases bp' hh with ⟨nn,hx3,⟨⟩⟩ | ⟨x3,hx3,hh⟩
  ·refine AEx.drawE hC ?_
   refine D0.step rfl (j0:=0) (js:=[1,2]) (by kernel_rfl) ⟨⟨_,rfl,?_⟩,⟨_,rfl,?_⟩,⟨_,rfl,?_⟩,trivial⟩
   ·refine e' rfl ?_
    refine D0.step rfl (j0:=1) (js:=[2]) (by kernel_rfl) ⟨⟨_,rfl,?_⟩,⟨_,rfl,?_⟩,trivial⟩
    ·refine e' rfl ?_
     refine D0.step rfl (j0:=2) (js:=[]) (by kernel_rfl) ⟨⟨_,rfl,?_⟩,trivial⟩
     refine e' rfl ?_
     refine D0.step rfl (j0:=3) (js:=[]) (by kernel_rfl) ⟨⟨_,rfl,?_⟩,trivial⟩
     exact gn' [0] (ih9 _ _ hx3) rfl rfl rfl rfl rfl (fun hi=>peW ⟨trivial,trivial⟩ rfl hi)
    ·refine e' rfl ?_
     refine D0.step rfl (j0:=1) (js:=[3]) (by kernel_rfl) ⟨⟨_,rfl,?_⟩,⟨_,rfl,?_⟩,trivial⟩
     ·refine e' rfl ?_
      refine D0.step rfl (j0:=3) (js:=[]) (by kernel_rfl) ⟨⟨_,rfl,?_⟩,trivial⟩
      exact gn' [0] (ih9 _ _ hx3) rfl rfl rfl rfl rfl (fun hi=>peW ⟨trivial,trivial⟩ rfl hi)
     ·exact gn' [0] (ih9 _ _ hx3) rfl rfl rfl rfl rfl (fun hi=>peW ⟨trivial,trivial⟩ rfl hi)
   ·refine e' rfl ?_
    refine D0.step rfl (j0:=0) (js:=[2]) (by kernel_rfl) ⟨⟨_,rfl,?_⟩,⟨_,rfl,?_⟩,trivial⟩
    ·refine e' rfl ?_
     refine D0.step rfl (j0:=2) (js:=[]) (by kernel_rfl) ⟨⟨_,rfl,?_⟩,trivial⟩
     refine e' rfl ?_
     refine D0.step rfl (j0:=3) (js:=[]) (by kernel_rfl) ⟨⟨_,rfl,?_⟩,trivial⟩
     exact gn' [0] (ih9 _ _ hx3) rfl rfl rfl rfl rfl (fun hi=>peW ⟨trivial,trivial⟩ rfl hi)
    ·refine e' rfl ?_
     refine D0.step rfl (j0:=0) (js:=[3]) (by kernel_rfl) ⟨⟨_,rfl,?_⟩,⟨_,rfl,?_⟩,trivial⟩
     ·refine e' rfl ?_
      refine D0.step rfl (j0:=3) (js:=[]) (by kernel_rfl) ⟨⟨_,rfl,?_⟩,trivial⟩
      exact gn' [0] (ih9 _ _ hx3) rfl rfl rfl rfl rfl (fun hi=>peW ⟨trivial,trivial⟩ rfl hi)
     ·exact gn' [0] (ih9 _ _ hx3) rfl rfl rfl rfl rfl (fun hi=>peW ⟨trivial,trivial⟩ rfl hi)
   ·refine e' rfl ?_
    refine D0.step rfl (j0:=0) (js:=[1,3]) (by kernel_rfl) ⟨⟨_,rfl,?_⟩,⟨_,rfl,?_⟩,⟨_,rfl,?_⟩,trivial⟩
    ·refine e' rfl ?_
     refine D0.step rfl (j0:=1) (js:=[3]) (by kernel_rfl) ⟨⟨_,rfl,?_⟩,⟨_,rfl,?_⟩,trivial⟩
     ·refine e' rfl ?_
      refine D0.step rfl (j0:=3) (js:=[]) (by kernel_rfl) ⟨⟨_,rfl,?_⟩,trivial⟩
      exact gn' [0] (ih9 _ _ hx3) rfl rfl rfl rfl rfl (fun hi=>peW ⟨trivial,trivial⟩ rfl hi)
     ·exact gn' [0] (ih9 _ _ hx3) rfl rfl rfl rfl rfl (fun hi=>peW ⟨trivial,trivial⟩ rfl hi)
    ·refine e' rfl ?_
     refine D0.step rfl (j0:=0) (js:=[3]) (by kernel_rfl) ⟨⟨_,rfl,?_⟩,⟨_,rfl,?_⟩,trivial⟩
     ·refine e' rfl ?_
      refine D0.step rfl (j0:=3) (js:=[]) (by kernel_rfl) ⟨⟨_,rfl,?_⟩,trivial⟩
      exact gn' [0] (ih9 _ _ hx3) rfl rfl rfl rfl rfl (fun hi=>peW ⟨trivial,trivial⟩ rfl hi)
     ·exact gn' [0] (ih9 _ _ hx3) rfl rfl rfl rfl rfl (fun hi=>peW ⟨trivial,trivial⟩ rfl hi)
    ·exact gn' [0] (ih9 _ _ hx3) rfl rfl rfl rfl rfl (fun hi=>peW ⟨trivial,trivial⟩ rfl hi)
  refine AEx.drawE hC ?_
  refine D0.step rfl (j0:=0) (js:=[1,2]) (by kernel_rfl) ⟨⟨_,rfl,?_⟩,⟨_,rfl,?_⟩,⟨_,rfl,?_⟩,trivial⟩
  ·refine e' rfl ?_
   refine D0.step rfl (j0:=1) (js:=[2]) (by kernel_rfl) ⟨⟨_,rfl,?_⟩,⟨_,rfl,?_⟩,trivial⟩
   ·refine e' rfl ?_
    refine D0.step rfl (j0:=2) (js:=[]) (by kernel_rfl) ⟨⟨_,rfl,?_⟩,trivial⟩
    refine e' rfl ?_
    refine D0.step rfl (j0:=3) (js:=[]) (by kernel_rfl) ⟨⟨_,rfl,?_⟩,trivial⟩
    refine g' [0] ((ih9 _ _ hx3).ok) rfl rfl rfl rfl rfl rfl (n' ?_)
    refine D0.step rfl (j0:=4) (js:=[]) (by kernel_rfl) ⟨⟨_,rfl,?_⟩,trivial⟩
    refine E0.be hC rfl (B0.rows_map [x1.1,x3.1]).symm (n' ?_)
    refine D0.step rfl (j0:=5) (js:=[]) (by kernel_rfl) ⟨⟨_,rfl,?_⟩,trivial⟩
    refine e' rfl ?_
    refine D0.step rfl (j0:=6) (js:=[]) (by kernel_rfl) ⟨⟨_,rfl,?_⟩,trivial⟩
    refine E0.s hC rfl (n' (D0.nil (by kernel_rfl) (re' ?_)))
    obtain rfl:=oi' hh
    exact ⟨_,.agg [.d (.int .i64 op),.d (.int .i64 0),.d (.str []),.d (.sl (B0.rows [x1.1,x3.1]))],[.row (A0.cells x3.2) 99],rfl,(.aggL ⟨.rfl,.rfl,.rfl,.full,trivial⟩),⟨⟨rfl,.refl _,rfl⟩,trivial⟩,rfl,rfl,rpq rfl rfl⟩
   ·refine e' rfl ?_
    refine D0.step rfl (j0:=1) (js:=[3]) (by kernel_rfl) ⟨⟨_,rfl,?_⟩,⟨_,rfl,?_⟩,trivial⟩
    ·refine e' rfl ?_
     refine D0.step rfl (j0:=3) (js:=[]) (by kernel_rfl) ⟨⟨_,rfl,?_⟩,trivial⟩
     refine g' [0] ((ih9 _ _ hx3).ok) rfl rfl rfl rfl rfl rfl (n' ?_)
     refine D0.step rfl (j0:=4) (js:=[]) (by kernel_rfl) ⟨⟨_,rfl,?_⟩,trivial⟩
     refine E0.be hC rfl (B0.rows_map [x1.1,x3.1]).symm (n' ?_)
     refine D0.step rfl (j0:=5) (js:=[]) (by kernel_rfl) ⟨⟨_,rfl,?_⟩,trivial⟩
     refine e' rfl ?_
     refine D0.step rfl (j0:=6) (js:=[]) (by kernel_rfl) ⟨⟨_,rfl,?_⟩,trivial⟩
     refine E0.s hC rfl (n' (D0.nil (by kernel_rfl) (re' ?_)))
     obtain rfl:=oi' hh
     exact ⟨_,.agg [.d (.int .i64 op),.d (.int .i64 0),.d (.str []),.d (.sl (B0.rows [x1.1,x3.1]))],[.row (A0.cells x3.2) 99],rfl,(.aggL ⟨.rfl,.rfl,.rfl,.full,trivial⟩),⟨⟨rfl,.refl _,rfl⟩,trivial⟩,rfl,rfl,rpq rfl rfl⟩
    ·refine g' [0] ((ih9 _ _ hx3).ok) rfl rfl rfl rfl rfl rfl (n' ?_)
     refine D0.step rfl (j0:=1) (js:=[]) (by kernel_rfl) ⟨⟨_,rfl,?_⟩,trivial⟩
     refine e' rfl ?_
     refine D0.step rfl (j0:=4) (js:=[]) (by kernel_rfl) ⟨⟨_,rfl,?_⟩,trivial⟩
     refine E0.be hC rfl (B0.rows_map [x1.1,x3.1]).symm (n' ?_)
     refine D0.step rfl (j0:=5) (js:=[]) (by kernel_rfl) ⟨⟨_,rfl,?_⟩,trivial⟩
     refine e' rfl ?_
     refine D0.step rfl (j0:=6) (js:=[]) (by kernel_rfl) ⟨⟨_,rfl,?_⟩,trivial⟩
     refine E0.s hC rfl (n' (D0.nil (by kernel_rfl) (re' ?_)))
     obtain rfl:=oi' hh
     exact ⟨_,.agg [.d (.int .i64 op),.d (.int .i64 0),.d (.str []),.d (.sl (B0.rows [x1.1,x3.1]))],[.row (A0.cells x3.2) 99],rfl,(.aggL ⟨.rfl,.rfl,.rfl,.full,trivial⟩),⟨⟨rfl,.refl _,rfl⟩,trivial⟩,rfl,rfl,rpq rfl rfl⟩
  ·refine e' rfl ?_
   refine D0.step rfl (j0:=0) (js:=[2]) (by kernel_rfl) ⟨⟨_,rfl,?_⟩,⟨_,rfl,?_⟩,trivial⟩
   ·refine e' rfl ?_
    refine D0.step rfl (j0:=2) (js:=[]) (by kernel_rfl) ⟨⟨_,rfl,?_⟩,trivial⟩
    refine e' rfl ?_
    refine D0.step rfl (j0:=3) (js:=[]) (by kernel_rfl) ⟨⟨_,rfl,?_⟩,trivial⟩
    refine g' [0] ((ih9 _ _ hx3).ok) rfl rfl rfl rfl rfl rfl (n' ?_)
    refine D0.step rfl (j0:=4) (js:=[]) (by kernel_rfl) ⟨⟨_,rfl,?_⟩,trivial⟩
    refine E0.be hC rfl (B0.rows_map [x1.1,x3.1]).symm (n' ?_)
    refine D0.step rfl (j0:=5) (js:=[]) (by kernel_rfl) ⟨⟨_,rfl,?_⟩,trivial⟩
    refine e' rfl ?_
    refine D0.step rfl (j0:=6) (js:=[]) (by kernel_rfl) ⟨⟨_,rfl,?_⟩,trivial⟩
    refine E0.s hC rfl (n' (D0.nil (by kernel_rfl) (re' ?_)))
    obtain rfl:=oi' hh
    exact ⟨_,.agg [.d (.int .i64 op),.d (.int .i64 0),.d (.str []),.d (.sl (B0.rows [x1.1,x3.1]))],[.row (A0.cells x3.2) 99],rfl,(.aggL ⟨.rfl,.rfl,.rfl,.full,trivial⟩),⟨⟨rfl,.refl _,rfl⟩,trivial⟩,rfl,rfl,rpq rfl rfl⟩
   ·refine e' rfl ?_
    refine D0.step rfl (j0:=0) (js:=[3]) (by kernel_rfl) ⟨⟨_,rfl,?_⟩,⟨_,rfl,?_⟩,trivial⟩
    ·refine e' rfl ?_
     refine D0.step rfl (j0:=3) (js:=[]) (by kernel_rfl) ⟨⟨_,rfl,?_⟩,trivial⟩
     refine g' [0] ((ih9 _ _ hx3).ok) rfl rfl rfl rfl rfl rfl (n' ?_)
     refine D0.step rfl (j0:=4) (js:=[]) (by kernel_rfl) ⟨⟨_,rfl,?_⟩,trivial⟩
     refine E0.be hC rfl (B0.rows_map [x1.1,x3.1]).symm (n' ?_)
     refine D0.step rfl (j0:=5) (js:=[]) (by kernel_rfl) ⟨⟨_,rfl,?_⟩,trivial⟩
     refine e' rfl ?_
     refine D0.step rfl (j0:=6) (js:=[]) (by kernel_rfl) ⟨⟨_,rfl,?_⟩,trivial⟩
     refine E0.s hC rfl (n' (D0.nil (by kernel_rfl) (re' ?_)))
     obtain rfl:=oi' hh
     exact ⟨_,.agg [.d (.int .i64 op),.d (.int .i64 0),.d (.str []),.d (.sl (B0.rows [x1.1,x3.1]))],[.row (A0.cells x3.2) 99],rfl,(.aggL ⟨.rfl,.rfl,.rfl,.full,trivial⟩),⟨⟨rfl,.refl _,rfl⟩,trivial⟩,rfl,rfl,rpq rfl rfl⟩
    ·refine g' [0] ((ih9 _ _ hx3).ok) rfl rfl rfl rfl rfl rfl (n' ?_)
     refine D0.step rfl (j0:=0) (js:=[4]) (by kernel_rfl) ⟨⟨_,rfl,?_⟩,⟨_,rfl,?_⟩,trivial⟩
     ·refine e' rfl ?_
      refine D0.step rfl (j0:=4) (js:=[]) (by kernel_rfl) ⟨⟨_,rfl,?_⟩,trivial⟩
      refine E0.be hC rfl (B0.rows_map [x1.1,x3.1]).symm (n' ?_)
      refine D0.step rfl (j0:=5) (js:=[]) (by kernel_rfl) ⟨⟨_,rfl,?_⟩,trivial⟩
      refine e' rfl ?_
      refine D0.step rfl (j0:=6) (js:=[]) (by kernel_rfl) ⟨⟨_,rfl,?_⟩,trivial⟩
      refine E0.s hC rfl (n' (D0.nil (by kernel_rfl) (re' ?_)))
      obtain rfl:=oi' hh
      exact ⟨_,.agg [.d (.int .i64 op),.d (.int .i64 0),.d (.str []),.d (.sl (B0.rows [x1.1,x3.1]))],[.row (A0.cells x3.2) 99],rfl,(.aggL ⟨.rfl,.rfl,.rfl,.full,trivial⟩),⟨⟨rfl,.refl _,rfl⟩,trivial⟩,rfl,rfl,rpq rfl rfl⟩
     ·refine E0.be hC rfl (B0.rows_map [x1.1,x3.1]).symm (n' ?_)
      refine D0.step rfl (j0:=0) (js:=[]) (by kernel_rfl) ⟨⟨_,rfl,?_⟩,trivial⟩
      refine e' rfl ?_
      refine D0.step rfl (j0:=5) (js:=[]) (by kernel_rfl) ⟨⟨_,rfl,?_⟩,trivial⟩
      refine e' rfl ?_
      refine D0.step rfl (j0:=6) (js:=[]) (by kernel_rfl) ⟨⟨_,rfl,?_⟩,trivial⟩
      refine E0.s hC rfl (n' (D0.nil (by kernel_rfl) (re' ?_)))
      obtain rfl:=oi' hh
      exact ⟨_,.agg [.d (.int .i64 op),.d (.int .i64 0),.d (.str []),.d (.sl (B0.rows [x1.1,x3.1]))],[.row (A0.cells x3.2) 99],rfl,(.aggL ⟨.rfl,.rfl,.rfl,.full,trivial⟩),⟨⟨rfl,.refl _,rfl⟩,trivial⟩,rfl,rfl,rpq rfl rfl⟩
  ·refine e' rfl ?_
   refine D0.step rfl (j0:=0) (js:=[1,3]) (by kernel_rfl) ⟨⟨_,rfl,?_⟩,⟨_,rfl,?_⟩,⟨_,rfl,?_⟩,trivial⟩
   ·refine e' rfl ?_
    refine D0.step rfl (j0:=1) (js:=[3]) (by kernel_rfl) ⟨⟨_,rfl,?_⟩,⟨_,rfl,?_⟩,trivial⟩
    ·refine e' rfl ?_
     refine D0.step rfl (j0:=3) (js:=[]) (by kernel_rfl) ⟨⟨_,rfl,?_⟩,trivial⟩
     refine g' [0] ((ih9 _ _ hx3).ok) rfl rfl rfl rfl rfl rfl (n' ?_)
     refine D0.step rfl (j0:=4) (js:=[]) (by kernel_rfl) ⟨⟨_,rfl,?_⟩,trivial⟩
     refine E0.be hC rfl (B0.rows_map [x1.1,x3.1]).symm (n' ?_)
     refine D0.step rfl (j0:=5) (js:=[]) (by kernel_rfl) ⟨⟨_,rfl,?_⟩,trivial⟩
     refine e' rfl ?_
     refine D0.step rfl (j0:=6) (js:=[]) (by kernel_rfl) ⟨⟨_,rfl,?_⟩,trivial⟩
     refine E0.s hC rfl (n' (D0.nil (by kernel_rfl) (re' ?_)))
     obtain rfl:=oi' hh
     exact ⟨_,.agg [.d (.int .i64 op),.d (.int .i64 0),.d (.str []),.d (.sl (B0.rows [x1.1,x3.1]))],[.row (A0.cells x3.2) 99],rfl,(.aggL ⟨.rfl,.rfl,.rfl,.full,trivial⟩),⟨⟨rfl,.refl _,rfl⟩,trivial⟩,rfl,rfl,rpq rfl rfl⟩
    ·refine g' [0] ((ih9 _ _ hx3).ok) rfl rfl rfl rfl rfl rfl (n' ?_)
     refine D0.step rfl (j0:=1) (js:=[]) (by kernel_rfl) ⟨⟨_,rfl,?_⟩,trivial⟩
     refine e' rfl ?_
     refine D0.step rfl (j0:=4) (js:=[]) (by kernel_rfl) ⟨⟨_,rfl,?_⟩,trivial⟩
     refine E0.be hC rfl (B0.rows_map [x1.1,x3.1]).symm (n' ?_)
     refine D0.step rfl (j0:=5) (js:=[]) (by kernel_rfl) ⟨⟨_,rfl,?_⟩,trivial⟩
     refine e' rfl ?_
     refine D0.step rfl (j0:=6) (js:=[]) (by kernel_rfl) ⟨⟨_,rfl,?_⟩,trivial⟩
     refine E0.s hC rfl (n' (D0.nil (by kernel_rfl) (re' ?_)))
     obtain rfl:=oi' hh
     exact ⟨_,.agg [.d (.int .i64 op),.d (.int .i64 0),.d (.str []),.d (.sl (B0.rows [x1.1,x3.1]))],[.row (A0.cells x3.2) 99],rfl,(.aggL ⟨.rfl,.rfl,.rfl,.full,trivial⟩),⟨⟨rfl,.refl _,rfl⟩,trivial⟩,rfl,rfl,rpq rfl rfl⟩
   ·refine e' rfl ?_
    refine D0.step rfl (j0:=0) (js:=[3]) (by kernel_rfl) ⟨⟨_,rfl,?_⟩,⟨_,rfl,?_⟩,trivial⟩
    ·refine e' rfl ?_
     refine D0.step rfl (j0:=3) (js:=[]) (by kernel_rfl) ⟨⟨_,rfl,?_⟩,trivial⟩
     refine g' [0] ((ih9 _ _ hx3).ok) rfl rfl rfl rfl rfl rfl (n' ?_)
     refine D0.step rfl (j0:=4) (js:=[]) (by kernel_rfl) ⟨⟨_,rfl,?_⟩,trivial⟩
     refine E0.be hC rfl (B0.rows_map [x1.1,x3.1]).symm (n' ?_)
     refine D0.step rfl (j0:=5) (js:=[]) (by kernel_rfl) ⟨⟨_,rfl,?_⟩,trivial⟩
     refine e' rfl ?_
     refine D0.step rfl (j0:=6) (js:=[]) (by kernel_rfl) ⟨⟨_,rfl,?_⟩,trivial⟩
     refine E0.s hC rfl (n' (D0.nil (by kernel_rfl) (re' ?_)))
     obtain rfl:=oi' hh
     exact ⟨_,.agg [.d (.int .i64 op),.d (.int .i64 0),.d (.str []),.d (.sl (B0.rows [x1.1,x3.1]))],[.row (A0.cells x3.2) 99],rfl,(.aggL ⟨.rfl,.rfl,.rfl,.full,trivial⟩),⟨⟨rfl,.refl _,rfl⟩,trivial⟩,rfl,rfl,rpq rfl rfl⟩
    ·refine g' [0] ((ih9 _ _ hx3).ok) rfl rfl rfl rfl rfl rfl (n' ?_)
     refine D0.step rfl (j0:=0) (js:=[4]) (by kernel_rfl) ⟨⟨_,rfl,?_⟩,⟨_,rfl,?_⟩,trivial⟩
     ·refine e' rfl ?_
      refine D0.step rfl (j0:=4) (js:=[]) (by kernel_rfl) ⟨⟨_,rfl,?_⟩,trivial⟩
      refine E0.be hC rfl (B0.rows_map [x1.1,x3.1]).symm (n' ?_)
      refine D0.step rfl (j0:=5) (js:=[]) (by kernel_rfl) ⟨⟨_,rfl,?_⟩,trivial⟩
      refine e' rfl ?_
      refine D0.step rfl (j0:=6) (js:=[]) (by kernel_rfl) ⟨⟨_,rfl,?_⟩,trivial⟩
      refine E0.s hC rfl (n' (D0.nil (by kernel_rfl) (re' ?_)))
      obtain rfl:=oi' hh
      exact ⟨_,.agg [.d (.int .i64 op),.d (.int .i64 0),.d (.str []),.d (.sl (B0.rows [x1.1,x3.1]))],[.row (A0.cells x3.2) 99],rfl,(.aggL ⟨.rfl,.rfl,.rfl,.full,trivial⟩),⟨⟨rfl,.refl _,rfl⟩,trivial⟩,rfl,rfl,rpq rfl rfl⟩
     ·refine E0.be hC rfl (B0.rows_map [x1.1,x3.1]).symm (n' ?_)
      refine D0.step rfl (j0:=0) (js:=[]) (by kernel_rfl) ⟨⟨_,rfl,?_⟩,trivial⟩
      refine e' rfl ?_
      refine D0.step rfl (j0:=5) (js:=[]) (by kernel_rfl) ⟨⟨_,rfl,?_⟩,trivial⟩
      refine e' rfl ?_
      refine D0.step rfl (j0:=6) (js:=[]) (by kernel_rfl) ⟨⟨_,rfl,?_⟩,trivial⟩
      refine E0.s hC rfl (n' (D0.nil (by kernel_rfl) (re' ?_)))
      obtain rfl:=oi' hh
      exact ⟨_,.agg [.d (.int .i64 op),.d (.int .i64 0),.d (.str []),.d (.sl (B0.rows [x1.1,x3.1]))],[.row (A0.cells x3.2) 99],rfl,(.aggL ⟨.rfl,.rfl,.rfl,.full,trivial⟩),⟨⟨rfl,.refl _,rfl⟩,trivial⟩,rfl,rfl,rpq rfl rfl⟩
   ·refine g' [0] ((ih9 _ _ hx3).ok) rfl rfl rfl rfl rfl rfl (n' ?_)
    refine D0.step rfl (j0:=0) (js:=[1]) (by kernel_rfl) ⟨⟨_,rfl,?_⟩,⟨_,rfl,?_⟩,trivial⟩
    ·refine e' rfl ?_
     refine D0.step rfl (j0:=1) (js:=[]) (by kernel_rfl) ⟨⟨_,rfl,?_⟩,trivial⟩
     refine e' rfl ?_
     refine D0.step rfl (j0:=4) (js:=[]) (by kernel_rfl) ⟨⟨_,rfl,?_⟩,trivial⟩
     refine E0.be hC rfl (B0.rows_map [x1.1,x3.1]).symm (n' ?_)
     refine D0.step rfl (j0:=5) (js:=[]) (by kernel_rfl) ⟨⟨_,rfl,?_⟩,trivial⟩
     refine e' rfl ?_
     refine D0.step rfl (j0:=6) (js:=[]) (by kernel_rfl) ⟨⟨_,rfl,?_⟩,trivial⟩
     refine E0.s hC rfl (n' (D0.nil (by kernel_rfl) (re' ?_)))
     obtain rfl:=oi' hh
     exact ⟨_,.agg [.d (.int .i64 op),.d (.int .i64 0),.d (.str []),.d (.sl (B0.rows [x1.1,x3.1]))],[.row (A0.cells x3.2) 99],rfl,(.aggL ⟨.rfl,.rfl,.rfl,.full,trivial⟩),⟨⟨rfl,.refl _,rfl⟩,trivial⟩,rfl,rfl,rpq rfl rfl⟩
    ·refine e' rfl ?_
     refine D0.step rfl (j0:=0) (js:=[4]) (by kernel_rfl) ⟨⟨_,rfl,?_⟩,⟨_,rfl,?_⟩,trivial⟩
     ·refine e' rfl ?_
      refine D0.step rfl (j0:=4) (js:=[]) (by kernel_rfl) ⟨⟨_,rfl,?_⟩,trivial⟩
      refine E0.be hC rfl (B0.rows_map [x1.1,x3.1]).symm (n' ?_)
      refine D0.step rfl (j0:=5) (js:=[]) (by kernel_rfl) ⟨⟨_,rfl,?_⟩,trivial⟩
      refine e' rfl ?_
      refine D0.step rfl (j0:=6) (js:=[]) (by kernel_rfl) ⟨⟨_,rfl,?_⟩,trivial⟩
      refine E0.s hC rfl (n' (D0.nil (by kernel_rfl) (re' ?_)))
      obtain rfl:=oi' hh
      exact ⟨_,.agg [.d (.int .i64 op),.d (.int .i64 0),.d (.str []),.d (.sl (B0.rows [x1.1,x3.1]))],[.row (A0.cells x3.2) 99],rfl,(.aggL ⟨.rfl,.rfl,.rfl,.full,trivial⟩),⟨⟨rfl,.refl _,rfl⟩,trivial⟩,rfl,rfl,rpq rfl rfl⟩
     ·refine E0.be hC rfl (B0.rows_map [x1.1,x3.1]).symm (n' ?_)
      refine D0.step rfl (j0:=0) (js:=[]) (by kernel_rfl) ⟨⟨_,rfl,?_⟩,trivial⟩
      refine e' rfl ?_
      refine D0.step rfl (j0:=5) (js:=[]) (by kernel_rfl) ⟨⟨_,rfl,?_⟩,trivial⟩
      refine e' rfl ?_
      refine D0.step rfl (j0:=6) (js:=[]) (by kernel_rfl) ⟨⟨_,rfl,?_⟩,trivial⟩
      refine E0.s hC rfl (n' (D0.nil (by kernel_rfl) (re' ?_)))
      obtain rfl:=oi' hh
      exact ⟨_,.agg [.d (.int .i64 op),.d (.int .i64 0),.d (.str []),.d (.sl (B0.rows [x1.1,x3.1]))],[.row (A0.cells x3.2) 99],rfl,(.aggL ⟨.rfl,.rfl,.rfl,.full,trivial⟩),⟨⟨rfl,.refl _,rfl⟩,trivial⟩,rfl,rfl,rpq rfl rfl⟩
 ·intro g10 ih10 parserParser res hh
  refine Y1.intro hC Tryz.func189 rfl rfl rfl (s' rfl rfl (E0.n hC rfl (E0.nf hC rfl (n' (p' 4 rfl ?_)))))
  rcases bp' hh with ⟨nn,hx1,⟨⟩⟩ | ⟨x1,hx1,hh⟩
  ·exact gn' [0,1] (ih10 _ _ hx1) rfl rfl rfl rfl rfl (fun hi=>peW ⟨trivial,trivial⟩ rfl hi)
  cases hh
  exact g' [0,1] ((ih10 _ _ hx1).ok) rfl rfl rfl rfl rfl rfl (E0.s hC rfl (n' (re' (rt' rfl rfl rfl))))
 ·intro g11 g12 ih11 ih12 parserParser res hh
  refine Y1.intro hC Tryz.func110 rfl rfl rfl (s' rfl rfl (E0.nf hC rfl (n' (p' 1 rfl ?_))))
  rcases bp' hh with ⟨nn,hx1,⟨⟩⟩ | ⟨x1,hx1,hh⟩
  ·exact gn' [0] (ih12 _ _ hx1) rfl rfl rfl rfl rfl (fun hi=>peW ⟨trivial,⟨rfl,.refl _,rfl⟩,trivial⟩ rfl hi)
  exact g' [0] ((ih12 _ _ hx1).ok) rfl rfl rfl rfl rfl rfl (E0.nf hC rfl (E0.s hC rfl (n' (bk' (fw' (ih11 _ _ _ hh) rfl rfl rfl)))))
 ·intro g11 g12 ih11 ih12 o0 o3 res hh
  obtain ⟨x2,hx2,hh⟩:=bs' hh
  refine S0.unroll (bk' (p' 1 rfl (g' [1,0] (Qm hx2) rfl rfl rfl rfl rfl rfl (e' rfl (S' (t' rfl (ci' rfl hh (fun hh=>?_) (fun hh=>?_))))))))
  ·cases hh
   exact p' 1 rfl (E0.s hC rfl (n' (re' (rt' rfl rfl rfl))))
  refine sk' ?_
  rcases bp' hh with ⟨nn,hx3,⟨⟩⟩ | ⟨x3,hx3,hh⟩
  ·refine AEx.drawE hC ?_
   refine D0.step rfl (j0:=0) (js:=[1,2]) (by kernel_rfl) ⟨⟨_,rfl,?_⟩,⟨_,rfl,?_⟩,⟨_,rfl,?_⟩,trivial⟩
   ·refine e' rfl ?_
    refine D0.step rfl (j0:=1) (js:=[2]) (by kernel_rfl) ⟨⟨_,rfl,?_⟩,⟨_,rfl,?_⟩,trivial⟩
    ·refine e' rfl ?_
     refine D0.step rfl (j0:=2) (js:=[]) (by kernel_rfl) ⟨⟨_,rfl,?_⟩,trivial⟩
     refine e' rfl ?_
     refine D0.step rfl (j0:=3) (js:=[]) (by kernel_rfl) ⟨⟨_,rfl,?_⟩,trivial⟩
     exact gn' [0] (ih12 _ _ hx3) rfl rfl rfl rfl rfl (fun hi=>peW ⟨trivial,⟨rfl,.refl _,rfl⟩,trivial⟩ rfl hi)
    ·refine e' rfl ?_
     refine D0.step rfl (j0:=1) (js:=[3]) (by kernel_rfl) ⟨⟨_,rfl,?_⟩,⟨_,rfl,?_⟩,trivial⟩
     ·refine e' rfl ?_
      refine D0.step rfl (j0:=3) (js:=[]) (by kernel_rfl) ⟨⟨_,rfl,?_⟩,trivial⟩
      exact gn' [0] (ih12 _ _ hx3) rfl rfl rfl rfl rfl (fun hi=>peW ⟨trivial,⟨rfl,.refl _,rfl⟩,trivial⟩ rfl hi)
     ·exact gn' [0] (ih12 _ _ hx3) rfl rfl rfl rfl rfl (fun hi=>peW ⟨trivial,⟨rfl,.refl _,rfl⟩,trivial⟩ rfl hi)
   ·refine e' rfl ?_
    refine D0.step rfl (j0:=0) (js:=[2]) (by kernel_rfl) ⟨⟨_,rfl,?_⟩,⟨_,rfl,?_⟩,trivial⟩
    ·refine e' rfl ?_
     refine D0.step rfl (j0:=2) (js:=[]) (by kernel_rfl) ⟨⟨_,rfl,?_⟩,trivial⟩
     refine e' rfl ?_
     refine D0.step rfl (j0:=3) (js:=[]) (by kernel_rfl) ⟨⟨_,rfl,?_⟩,trivial⟩
     exact gn' [0] (ih12 _ _ hx3) rfl rfl rfl rfl rfl (fun hi=>peW ⟨trivial,⟨rfl,.refl _,rfl⟩,trivial⟩ rfl hi)
    ·refine e' rfl ?_
     refine D0.step rfl (j0:=0) (js:=[3]) (by kernel_rfl) ⟨⟨_,rfl,?_⟩,⟨_,rfl,?_⟩,trivial⟩
     ·refine e' rfl ?_
      refine D0.step rfl (j0:=3) (js:=[]) (by kernel_rfl) ⟨⟨_,rfl,?_⟩,trivial⟩
      exact gn' [0] (ih12 _ _ hx3) rfl rfl rfl rfl rfl (fun hi=>peW ⟨trivial,⟨rfl,.refl _,rfl⟩,trivial⟩ rfl hi)
     ·exact gn' [0] (ih12 _ _ hx3) rfl rfl rfl rfl rfl (fun hi=>peW ⟨trivial,⟨rfl,.refl _,rfl⟩,trivial⟩ rfl hi)
   ·refine e' rfl ?_
    refine D0.step rfl (j0:=0) (js:=[1,3]) (by kernel_rfl) ⟨⟨_,rfl,?_⟩,⟨_,rfl,?_⟩,⟨_,rfl,?_⟩,trivial⟩
    ·refine e' rfl ?_
     refine D0.step rfl (j0:=1) (js:=[3]) (by kernel_rfl) ⟨⟨_,rfl,?_⟩,⟨_,rfl,?_⟩,trivial⟩
     ·refine e' rfl ?_
      refine D0.step rfl (j0:=3) (js:=[]) (by kernel_rfl) ⟨⟨_,rfl,?_⟩,trivial⟩
      exact gn' [0] (ih12 _ _ hx3) rfl rfl rfl rfl rfl (fun hi=>peW ⟨trivial,⟨rfl,.refl _,rfl⟩,trivial⟩ rfl hi)
     ·exact gn' [0] (ih12 _ _ hx3) rfl rfl rfl rfl rfl (fun hi=>peW ⟨trivial,⟨rfl,.refl _,rfl⟩,trivial⟩ rfl hi)
    ·refine e' rfl ?_
     refine D0.step rfl (j0:=0) (js:=[3]) (by kernel_rfl) ⟨⟨_,rfl,?_⟩,⟨_,rfl,?_⟩,trivial⟩
     ·refine e' rfl ?_
      refine D0.step rfl (j0:=3) (js:=[]) (by kernel_rfl) ⟨⟨_,rfl,?_⟩,trivial⟩
      exact gn' [0] (ih12 _ _ hx3) rfl rfl rfl rfl rfl (fun hi=>peW ⟨trivial,⟨rfl,.refl _,rfl⟩,trivial⟩ rfl hi)
     ·exact gn' [0] (ih12 _ _ hx3) rfl rfl rfl rfl rfl (fun hi=>peW ⟨trivial,⟨rfl,.refl _,rfl⟩,trivial⟩ rfl hi)
    ·exact gn' [0] (ih12 _ _ hx3) rfl rfl rfl rfl rfl (fun hi=>peW ⟨trivial,⟨rfl,.refl _,rfl⟩,trivial⟩ rfl hi)
  refine AEx.drawE hC ?_
  refine D0.step rfl (j0:=0) (js:=[1,2]) (by kernel_rfl) ⟨⟨_,rfl,?_⟩,⟨_,rfl,?_⟩,⟨_,rfl,?_⟩,trivial⟩
  ·refine e' rfl ?_
   refine D0.step rfl (j0:=1) (js:=[2]) (by kernel_rfl) ⟨⟨_,rfl,?_⟩,⟨_,rfl,?_⟩,trivial⟩
   ·refine e' rfl ?_
    refine D0.step rfl (j0:=2) (js:=[]) (by kernel_rfl) ⟨⟨_,rfl,?_⟩,trivial⟩
    refine e' rfl ?_
    refine D0.step rfl (j0:=3) (js:=[]) (by kernel_rfl) ⟨⟨_,rfl,?_⟩,trivial⟩
    refine g' [0] ((ih12 _ _ hx3).ok) rfl rfl rfl rfl rfl rfl (n' ?_)
    refine D0.step rfl (j0:=4) (js:=[]) (by kernel_rfl) ⟨⟨_,rfl,?_⟩,trivial⟩
    refine E0.be hC rfl (B0.rows_map [o3,x3.1]).symm (n' ?_)
    refine D0.step rfl (j0:=5) (js:=[]) (by kernel_rfl) ⟨⟨_,rfl,?_⟩,trivial⟩
    refine e' rfl ?_
    refine D0.step rfl (j0:=6) (js:=[]) (by kernel_rfl) ⟨⟨_,rfl,?_⟩,trivial⟩
    refine E0.s hC rfl (n' (D0.nil (by kernel_rfl) ?_))
    refine S0.wk ?_ (ih11 _ _ _ hh)
    exact ⟨⟨⟨.rfl,rfl⟩,⟨.rfl,rfl⟩,⟨.rfl,rfl⟩,⟨.rfl,rfl⟩,trivial⟩,⟨⟨rfl,.refl _,rfl⟩,⟨rfl,.refl _,rfl⟩,⟨rfl,.refl _,rfl⟩,⟨rfl,⟨.rfl,.rfl,.rfl,.full,trivial⟩,rfl⟩,trivial⟩,rfl⟩
   ·refine e' rfl ?_
    refine D0.step rfl (j0:=1) (js:=[3]) (by kernel_rfl) ⟨⟨_,rfl,?_⟩,⟨_,rfl,?_⟩,trivial⟩
    ·refine e' rfl ?_
     refine D0.step rfl (j0:=3) (js:=[]) (by kernel_rfl) ⟨⟨_,rfl,?_⟩,trivial⟩
     refine g' [0] ((ih12 _ _ hx3).ok) rfl rfl rfl rfl rfl rfl (n' ?_)
     refine D0.step rfl (j0:=4) (js:=[]) (by kernel_rfl) ⟨⟨_,rfl,?_⟩,trivial⟩
     refine E0.be hC rfl (B0.rows_map [o3,x3.1]).symm (n' ?_)
     refine D0.step rfl (j0:=5) (js:=[]) (by kernel_rfl) ⟨⟨_,rfl,?_⟩,trivial⟩
     refine e' rfl ?_
     refine D0.step rfl (j0:=6) (js:=[]) (by kernel_rfl) ⟨⟨_,rfl,?_⟩,trivial⟩
     refine E0.s hC rfl (n' (D0.nil (by kernel_rfl) ?_))
     refine S0.wk ?_ (ih11 _ _ _ hh)
     exact ⟨⟨⟨.rfl,rfl⟩,⟨.rfl,rfl⟩,⟨.rfl,rfl⟩,⟨.rfl,rfl⟩,trivial⟩,⟨⟨rfl,.refl _,rfl⟩,⟨rfl,.refl _,rfl⟩,⟨rfl,.refl _,rfl⟩,⟨rfl,⟨.rfl,.rfl,.rfl,.full,trivial⟩,rfl⟩,trivial⟩,rfl⟩
    ·refine g' [0] ((ih12 _ _ hx3).ok) rfl rfl rfl rfl rfl rfl (n' ?_)
     refine D0.step rfl (j0:=1) (js:=[]) (by kernel_rfl) ⟨⟨_,rfl,?_⟩,trivial⟩
     refine e' rfl ?_
     refine D0.step rfl (j0:=4) (js:=[]) (by kernel_rfl) ⟨⟨_,rfl,?_⟩,trivial⟩
     refine E0.be hC rfl (B0.rows_map [o3,x3.1]).symm (n' ?_)
     refine D0.step rfl (j0:=5) (js:=[]) (by kernel_rfl) ⟨⟨_,rfl,?_⟩,trivial⟩
     refine e' rfl ?_
     refine D0.step rfl (j0:=6) (js:=[]) (by kernel_rfl) ⟨⟨_,rfl,?_⟩,trivial⟩
     refine E0.s hC rfl (n' (D0.nil (by kernel_rfl) ?_))
     refine S0.wk ?_ (ih11 _ _ _ hh)
     exact ⟨⟨⟨.rfl,rfl⟩,⟨.rfl,rfl⟩,⟨.rfl,rfl⟩,⟨.rfl,rfl⟩,trivial⟩,⟨⟨rfl,.refl _,rfl⟩,⟨rfl,.refl _,rfl⟩,⟨rfl,.refl _,rfl⟩,⟨rfl,⟨.rfl,.rfl,.rfl,.full,trivial⟩,rfl⟩,trivial⟩,rfl⟩
  ·refine e' rfl ?_
   refine D0.step rfl (j0:=0) (js:=[2]) (by kernel_rfl) ⟨⟨_,rfl,?_⟩,⟨_,rfl,?_⟩,trivial⟩
   ·refine e' rfl ?_
    refine D0.step rfl (j0:=2) (js:=[]) (by kernel_rfl) ⟨⟨_,rfl,?_⟩,trivial⟩
    refine e' rfl ?_
    refine D0.step rfl (j0:=3) (js:=[]) (by kernel_rfl) ⟨⟨_,rfl,?_⟩,trivial⟩
    refine g' [0] ((ih12 _ _ hx3).ok) rfl rfl rfl rfl rfl rfl (n' ?_)
    refine D0.step rfl (j0:=4) (js:=[]) (by kernel_rfl) ⟨⟨_,rfl,?_⟩,trivial⟩
    refine E0.be hC rfl (B0.rows_map [o3,x3.1]).symm (n' ?_)
    refine D0.step rfl (j0:=5) (js:=[]) (by kernel_rfl) ⟨⟨_,rfl,?_⟩,trivial⟩
    refine e' rfl ?_
    refine D0.step rfl (j0:=6) (js:=[]) (by kernel_rfl) ⟨⟨_,rfl,?_⟩,trivial⟩
    refine E0.s hC rfl (n' (D0.nil (by kernel_rfl) ?_))
    refine S0.wk ?_ (ih11 _ _ _ hh)
    exact ⟨⟨⟨.rfl,rfl⟩,⟨.rfl,rfl⟩,⟨.rfl,rfl⟩,⟨.rfl,rfl⟩,trivial⟩,⟨⟨rfl,.refl _,rfl⟩,⟨rfl,.refl _,rfl⟩,⟨rfl,.refl _,rfl⟩,⟨rfl,⟨.rfl,.rfl,.rfl,.full,trivial⟩,rfl⟩,trivial⟩,rfl⟩
   ·refine e' rfl ?_
    refine D0.step rfl (j0:=0) (js:=[3]) (by kernel_rfl) ⟨⟨_,rfl,?_⟩,⟨_,rfl,?_⟩,trivial⟩
    ·refine e' rfl ?_
     refine D0.step rfl (j0:=3) (js:=[]) (by kernel_rfl) ⟨⟨_,rfl,?_⟩,trivial⟩
     refine g' [0] ((ih12 _ _ hx3).ok) rfl rfl rfl rfl rfl rfl (n' ?_)
     refine D0.step rfl (j0:=4) (js:=[]) (by kernel_rfl) ⟨⟨_,rfl,?_⟩,trivial⟩
     refine E0.be hC rfl (B0.rows_map [o3,x3.1]).symm (n' ?_)
     refine D0.step rfl (j0:=5) (js:=[]) (by kernel_rfl) ⟨⟨_,rfl,?_⟩,trivial⟩
     refine e' rfl ?_
     refine D0.step rfl (j0:=6) (js:=[]) (by kernel_rfl) ⟨⟨_,rfl,?_⟩,trivial⟩
     refine E0.s hC rfl (n' (D0.nil (by kernel_rfl) ?_))
     refine S0.wk ?_ (ih11 _ _ _ hh)
     exact ⟨⟨⟨.rfl,rfl⟩,⟨.rfl,rfl⟩,⟨.rfl,rfl⟩,⟨.rfl,rfl⟩,trivial⟩,⟨⟨rfl,.refl _,rfl⟩,⟨rfl,.refl _,rfl⟩,⟨rfl,.refl _,rfl⟩,⟨rfl,⟨.rfl,.rfl,.rfl,.full,trivial⟩,rfl⟩,trivial⟩,rfl⟩
    ·refine g' [0] ((ih12 _ _ hx3).ok) rfl rfl rfl rfl rfl rfl (n' ?_)
     refine D0.step rfl (j0:=0) (js:=[4]) (by kernel_rfl) ⟨⟨_,rfl,?_⟩,⟨_,rfl,?_⟩,trivial⟩
     ·refine e' rfl ?_
      refine D0.step rfl (j0:=4) (js:=[]) (by kernel_rfl) ⟨⟨_,rfl,?_⟩,trivial⟩
      refine E0.be hC rfl (B0.rows_map [o3,x3.1]).symm (n' ?_)
      refine D0.step rfl (j0:=5) (js:=[]) (by kernel_rfl) ⟨⟨_,rfl,?_⟩,trivial⟩
      refine e' rfl ?_
      refine D0.step rfl (j0:=6) (js:=[]) (by kernel_rfl) ⟨⟨_,rfl,?_⟩,trivial⟩
      refine E0.s hC rfl (n' (D0.nil (by kernel_rfl) ?_))
      refine S0.wk ?_ (ih11 _ _ _ hh)
      exact ⟨⟨⟨.rfl,rfl⟩,⟨.rfl,rfl⟩,⟨.rfl,rfl⟩,⟨.rfl,rfl⟩,trivial⟩,⟨⟨rfl,.refl _,rfl⟩,⟨rfl,.refl _,rfl⟩,⟨rfl,.refl _,rfl⟩,⟨rfl,⟨.rfl,.rfl,.rfl,.full,trivial⟩,rfl⟩,trivial⟩,rfl⟩
     ·refine E0.be hC rfl (B0.rows_map [o3,x3.1]).symm (n' ?_)
      refine D0.step rfl (j0:=0) (js:=[]) (by kernel_rfl) ⟨⟨_,rfl,?_⟩,trivial⟩
      refine e' rfl ?_
      refine D0.step rfl (j0:=5) (js:=[]) (by kernel_rfl) ⟨⟨_,rfl,?_⟩,trivial⟩
      refine e' rfl ?_
      refine D0.step rfl (j0:=6) (js:=[]) (by kernel_rfl) ⟨⟨_,rfl,?_⟩,trivial⟩
      refine E0.s hC rfl (n' (D0.nil (by kernel_rfl) ?_))
      refine S0.wk ?_ (ih11 _ _ _ hh)
      exact ⟨⟨⟨.rfl,rfl⟩,⟨.rfl,rfl⟩,⟨.rfl,rfl⟩,⟨.rfl,rfl⟩,trivial⟩,⟨⟨rfl,.refl _,rfl⟩,⟨rfl,.refl _,rfl⟩,⟨rfl,.refl _,rfl⟩,⟨rfl,⟨.rfl,.rfl,.rfl,.full,trivial⟩,rfl⟩,trivial⟩,rfl⟩
  ·refine e' rfl ?_
   refine D0.step rfl (j0:=0) (js:=[1,3]) (by kernel_rfl) ⟨⟨_,rfl,?_⟩,⟨_,rfl,?_⟩,⟨_,rfl,?_⟩,trivial⟩
   ·refine e' rfl ?_
    refine D0.step rfl (j0:=1) (js:=[3]) (by kernel_rfl) ⟨⟨_,rfl,?_⟩,⟨_,rfl,?_⟩,trivial⟩
    ·refine e' rfl ?_
     refine D0.step rfl (j0:=3) (js:=[]) (by kernel_rfl) ⟨⟨_,rfl,?_⟩,trivial⟩
     refine g' [0] ((ih12 _ _ hx3).ok) rfl rfl rfl rfl rfl rfl (n' ?_)
     refine D0.step rfl (j0:=4) (js:=[]) (by kernel_rfl) ⟨⟨_,rfl,?_⟩,trivial⟩
     refine E0.be hC rfl (B0.rows_map [o3,x3.1]).symm (n' ?_)
     refine D0.step rfl (j0:=5) (js:=[]) (by kernel_rfl) ⟨⟨_,rfl,?_⟩,trivial⟩
     refine e' rfl ?_
     refine D0.step rfl (j0:=6) (js:=[]) (by kernel_rfl) ⟨⟨_,rfl,?_⟩,trivial⟩
     refine E0.s hC rfl (n' (D0.nil (by kernel_rfl) ?_))
     refine S0.wk ?_ (ih11 _ _ _ hh)
     exact ⟨⟨⟨.rfl,rfl⟩,⟨.rfl,rfl⟩,⟨.rfl,rfl⟩,⟨.rfl,rfl⟩,trivial⟩,⟨⟨rfl,.refl _,rfl⟩,⟨rfl,.refl _,rfl⟩,⟨rfl,.refl _,rfl⟩,⟨rfl,⟨.rfl,.rfl,.rfl,.full,trivial⟩,rfl⟩,trivial⟩,rfl⟩
    ·refine g' [0] ((ih12 _ _ hx3).ok) rfl rfl rfl rfl rfl rfl (n' ?_)
     refine D0.step rfl (j0:=1) (js:=[]) (by kernel_rfl) ⟨⟨_,rfl,?_⟩,trivial⟩
     refine e' rfl ?_
     refine D0.step rfl (j0:=4) (js:=[]) (by kernel_rfl) ⟨⟨_,rfl,?_⟩,trivial⟩
     refine E0.be hC rfl (B0.rows_map [o3,x3.1]).symm (n' ?_)
     refine D0.step rfl (j0:=5) (js:=[]) (by kernel_rfl) ⟨⟨_,rfl,?_⟩,trivial⟩
     refine e' rfl ?_
     refine D0.step rfl (j0:=6) (js:=[]) (by kernel_rfl) ⟨⟨_,rfl,?_⟩,trivial⟩
     refine E0.s hC rfl (n' (D0.nil (by kernel_rfl) ?_))
     refine S0.wk ?_ (ih11 _ _ _ hh)
     exact ⟨⟨⟨.rfl,rfl⟩,⟨.rfl,rfl⟩,⟨.rfl,rfl⟩,⟨.rfl,rfl⟩,trivial⟩,⟨⟨rfl,.refl _,rfl⟩,⟨rfl,.refl _,rfl⟩,⟨rfl,.refl _,rfl⟩,⟨rfl,⟨.rfl,.rfl,.rfl,.full,trivial⟩,rfl⟩,trivial⟩,rfl⟩
   ·refine e' rfl ?_
    refine D0.step rfl (j0:=0) (js:=[3]) (by kernel_rfl) ⟨⟨_,rfl,?_⟩,⟨_,rfl,?_⟩,trivial⟩
    ·refine e' rfl ?_
     refine D0.step rfl (j0:=3) (js:=[]) (by kernel_rfl) ⟨⟨_,rfl,?_⟩,trivial⟩
     refine g' [0] ((ih12 _ _ hx3).ok) rfl rfl rfl rfl rfl rfl (n' ?_)
     refine D0.step rfl (j0:=4) (js:=[]) (by kernel_rfl) ⟨⟨_,rfl,?_⟩,trivial⟩
     refine E0.be hC rfl (B0.rows_map [o3,x3.1]).symm (n' ?_)
     refine D0.step rfl (j0:=5) (js:=[]) (by kernel_rfl) ⟨⟨_,rfl,?_⟩,trivial⟩
     refine e' rfl ?_
     refine D0.step rfl (j0:=6) (js:=[]) (by kernel_rfl) ⟨⟨_,rfl,?_⟩,trivial⟩
     refine E0.s hC rfl (n' (D0.nil (by kernel_rfl) ?_))
     refine S0.wk ?_ (ih11 _ _ _ hh)
     exact ⟨⟨⟨.rfl,rfl⟩,⟨.rfl,rfl⟩,⟨.rfl,rfl⟩,⟨.rfl,rfl⟩,trivial⟩,⟨⟨rfl,.refl _,rfl⟩,⟨rfl,.refl _,rfl⟩,⟨rfl,.refl _,rfl⟩,⟨rfl,⟨.rfl,.rfl,.rfl,.full,trivial⟩,rfl⟩,trivial⟩,rfl⟩
    ·refine g' [0] ((ih12 _ _ hx3).ok) rfl rfl rfl rfl rfl rfl (n' ?_)
     refine D0.step rfl (j0:=0) (js:=[4]) (by kernel_rfl) ⟨⟨_,rfl,?_⟩,⟨_,rfl,?_⟩,trivial⟩
     ·refine e' rfl ?_
      refine D0.step rfl (j0:=4) (js:=[]) (by kernel_rfl) ⟨⟨_,rfl,?_⟩,trivial⟩
      refine E0.be hC rfl (B0.rows_map [o3,x3.1]).symm (n' ?_)
      refine D0.step rfl (j0:=5) (js:=[]) (by kernel_rfl) ⟨⟨_,rfl,?_⟩,trivial⟩
      refine e' rfl ?_
      refine D0.step rfl (j0:=6) (js:=[]) (by kernel_rfl) ⟨⟨_,rfl,?_⟩,trivial⟩
      refine E0.s hC rfl (n' (D0.nil (by kernel_rfl) ?_))
      refine S0.wk ?_ (ih11 _ _ _ hh)
      exact ⟨⟨⟨.rfl,rfl⟩,⟨.rfl,rfl⟩,⟨.rfl,rfl⟩,⟨.rfl,rfl⟩,trivial⟩,⟨⟨rfl,.refl _,rfl⟩,⟨rfl,.refl _,rfl⟩,⟨rfl,.refl _,rfl⟩,⟨rfl,⟨.rfl,.rfl,.rfl,.full,trivial⟩,rfl⟩,trivial⟩,rfl⟩
     ·refine E0.be hC rfl (B0.rows_map [o3,x3.1]).symm (n' ?_)
      refine D0.step rfl (j0:=0) (js:=[]) (by kernel_rfl) ⟨⟨_,rfl,?_⟩,trivial⟩
      refine e' rfl ?_
      refine D0.step rfl (j0:=5) (js:=[]) (by kernel_rfl) ⟨⟨_,rfl,?_⟩,trivial⟩
      refine e' rfl ?_
      refine D0.step rfl (j0:=6) (js:=[]) (by kernel_rfl) ⟨⟨_,rfl,?_⟩,trivial⟩
      refine E0.s hC rfl (n' (D0.nil (by kernel_rfl) ?_))
      refine S0.wk ?_ (ih11 _ _ _ hh)
      exact ⟨⟨⟨.rfl,rfl⟩,⟨.rfl,rfl⟩,⟨.rfl,rfl⟩,⟨.rfl,rfl⟩,trivial⟩,⟨⟨rfl,.refl _,rfl⟩,⟨rfl,.refl _,rfl⟩,⟨rfl,.refl _,rfl⟩,⟨rfl,⟨.rfl,.rfl,.rfl,.full,trivial⟩,rfl⟩,trivial⟩,rfl⟩
   ·refine g' [0] ((ih12 _ _ hx3).ok) rfl rfl rfl rfl rfl rfl (n' ?_)
    refine D0.step rfl (j0:=0) (js:=[1]) (by kernel_rfl) ⟨⟨_,rfl,?_⟩,⟨_,rfl,?_⟩,trivial⟩
    ·refine e' rfl ?_
     refine D0.step rfl (j0:=1) (js:=[]) (by kernel_rfl) ⟨⟨_,rfl,?_⟩,trivial⟩
     refine e' rfl ?_
     refine D0.step rfl (j0:=4) (js:=[]) (by kernel_rfl) ⟨⟨_,rfl,?_⟩,trivial⟩
     refine E0.be hC rfl (B0.rows_map [o3,x3.1]).symm (n' ?_)
     refine D0.step rfl (j0:=5) (js:=[]) (by kernel_rfl) ⟨⟨_,rfl,?_⟩,trivial⟩
     refine e' rfl ?_
     refine D0.step rfl (j0:=6) (js:=[]) (by kernel_rfl) ⟨⟨_,rfl,?_⟩,trivial⟩
     refine E0.s hC rfl (n' (D0.nil (by kernel_rfl) ?_))
     refine S0.wk ?_ (ih11 _ _ _ hh)
     exact ⟨⟨⟨.rfl,rfl⟩,⟨.rfl,rfl⟩,⟨.rfl,rfl⟩,⟨.rfl,rfl⟩,trivial⟩,⟨⟨rfl,.refl _,rfl⟩,⟨rfl,.refl _,rfl⟩,⟨rfl,.refl _,rfl⟩,⟨rfl,⟨.rfl,.rfl,.rfl,.full,trivial⟩,rfl⟩,trivial⟩,rfl⟩
    ·refine e' rfl ?_
     refine D0.step rfl (j0:=0) (js:=[4]) (by kernel_rfl) ⟨⟨_,rfl,?_⟩,⟨_,rfl,?_⟩,trivial⟩
     ·refine e' rfl ?_
      refine D0.step rfl (j0:=4) (js:=[]) (by kernel_rfl) ⟨⟨_,rfl,?_⟩,trivial⟩
      refine E0.be hC rfl (B0.rows_map [o3,x3.1]).symm (n' ?_)
      refine D0.step rfl (j0:=5) (js:=[]) (by kernel_rfl) ⟨⟨_,rfl,?_⟩,trivial⟩
      refine e' rfl ?_
      refine D0.step rfl (j0:=6) (js:=[]) (by kernel_rfl) ⟨⟨_,rfl,?_⟩,trivial⟩
      refine E0.s hC rfl (n' (D0.nil (by kernel_rfl) ?_))
      refine S0.wk ?_ (ih11 _ _ _ hh)
      exact ⟨⟨⟨.rfl,rfl⟩,⟨.rfl,rfl⟩,⟨.rfl,rfl⟩,⟨.rfl,rfl⟩,trivial⟩,⟨⟨rfl,.refl _,rfl⟩,⟨rfl,.refl _,rfl⟩,⟨rfl,.refl _,rfl⟩,⟨rfl,⟨.rfl,.rfl,.rfl,.full,trivial⟩,rfl⟩,trivial⟩,rfl⟩
     ·refine E0.be hC rfl (B0.rows_map [o3,x3.1]).symm (n' ?_)
      refine D0.step rfl (j0:=0) (js:=[]) (by kernel_rfl) ⟨⟨_,rfl,?_⟩,trivial⟩
      refine e' rfl ?_
      refine D0.step rfl (j0:=5) (js:=[]) (by kernel_rfl) ⟨⟨_,rfl,?_⟩,trivial⟩
      refine e' rfl ?_
      refine D0.step rfl (j0:=6) (js:=[]) (by kernel_rfl) ⟨⟨_,rfl,?_⟩,trivial⟩
      refine E0.s hC rfl (n' (D0.nil (by kernel_rfl) ?_))
      refine S0.wk ?_ (ih11 _ _ _ hh)
      exact ⟨⟨⟨.rfl,rfl⟩,⟨.rfl,rfl⟩,⟨.rfl,rfl⟩,⟨.rfl,rfl⟩,trivial⟩,⟨⟨rfl,.refl _,rfl⟩,⟨rfl,.refl _,rfl⟩,⟨rfl,.refl _,rfl⟩,⟨rfl,⟨.rfl,.rfl,.rfl,.full,trivial⟩,rfl⟩,trivial⟩,rfl⟩
 ·intro g13 ih13 parserParser res hh
  refine Y1.intro hC Tryz.func203 rfl rfl rfl (s' rfl rfl (E0.n hC rfl (E0.nf hC rfl (n' (p' 4 rfl ?_)))))
  rcases bp' hh with ⟨nn,hx1,⟨⟩⟩ | ⟨x1,hx1,hh⟩
  ·exact gn' [0,1] (ih13 _ _ hx1) rfl rfl rfl rfl rfl (fun hi=>peW ⟨trivial,trivial⟩ rfl hi)
  cases hh
  exact g' [0,1] ((ih13 _ _ hx1).ok) rfl rfl rfl rfl rfl rfl (E0.s hC rfl (n' (re' (rt' rfl rfl rfl))))
 ·intro g14 g15 ih14 ih15 parserParser res hh
  refine Y1.intro hC Tryz.func110 rfl rfl rfl (s' rfl rfl (E0.nf hC rfl (n' (p' 1 rfl ?_))))
  rcases bp' hh with ⟨nn,hx1,⟨⟩⟩ | ⟨x1,hx1,hh⟩
  ·exact gn' [0] (ih15 _ _ hx1) rfl rfl rfl rfl rfl (fun hi=>peW ⟨trivial,⟨rfl,.refl _,rfl⟩,trivial⟩ rfl hi)
  exact g' [0] ((ih15 _ _ hx1).ok) rfl rfl rfl rfl rfl rfl (E0.nf hC rfl (E0.s hC rfl (n' (bk' (fw' (ih14 _ _ _ hh) rfl rfl rfl)))))
 ·intro g14 g15 ih14 ih15 o0 o3 res hh
  obtain ⟨x2,hx2,hh⟩:=bs' hh
  refine S0.unroll (bk' (p' 1 rfl (g' [1,0] (Dj hx2) rfl rfl rfl rfl rfl rfl (e' rfl (S' (t' rfl (ci' rfl hh (fun hh=>?_) (fun hh=>?_))))))))
  ·cases hh
   exact p' 1 rfl (E0.s hC rfl (n' (re' (rt' rfl rfl rfl))))
  refine sk' ?_
  rcases bp' hh with ⟨nn,hx3,⟨⟩⟩ | ⟨x3,hx3,hh⟩
  ·refine AEx.drawE hC ?_
   refine D0.step rfl (j0:=0) (js:=[1,2]) (by kernel_rfl) ⟨⟨_,rfl,?_⟩,⟨_,rfl,?_⟩,⟨_,rfl,?_⟩,trivial⟩
   ·refine e' rfl ?_
    refine D0.step rfl (j0:=1) (js:=[2]) (by kernel_rfl) ⟨⟨_,rfl,?_⟩,⟨_,rfl,?_⟩,trivial⟩
    ·refine e' rfl ?_
     refine D0.step rfl (j0:=2) (js:=[]) (by kernel_rfl) ⟨⟨_,rfl,?_⟩,trivial⟩
     refine e' rfl ?_
     refine D0.step rfl (j0:=3) (js:=[]) (by kernel_rfl) ⟨⟨_,rfl,?_⟩,trivial⟩
     exact gn' [0] (ih15 _ _ hx3) rfl rfl rfl rfl rfl (fun hi=>peW ⟨trivial,⟨rfl,.refl _,rfl⟩,trivial⟩ rfl hi)
    ·refine e' rfl ?_
     refine D0.step rfl (j0:=1) (js:=[3]) (by kernel_rfl) ⟨⟨_,rfl,?_⟩,⟨_,rfl,?_⟩,trivial⟩
     ·refine e' rfl ?_
      refine D0.step rfl (j0:=3) (js:=[]) (by kernel_rfl) ⟨⟨_,rfl,?_⟩,trivial⟩
      exact gn' [0] (ih15 _ _ hx3) rfl rfl rfl rfl rfl (fun hi=>peW ⟨trivial,⟨rfl,.refl _,rfl⟩,trivial⟩ rfl hi)
     ·exact gn' [0] (ih15 _ _ hx3) rfl rfl rfl rfl rfl (fun hi=>peW ⟨trivial,⟨rfl,.refl _,rfl⟩,trivial⟩ rfl hi)
   ·refine e' rfl ?_
    refine D0.step rfl (j0:=0) (js:=[2]) (by kernel_rfl) ⟨⟨_,rfl,?_⟩,⟨_,rfl,?_⟩,trivial⟩
    ·refine e' rfl ?_
     refine D0.step rfl (j0:=2) (js:=[]) (by kernel_rfl) ⟨⟨_,rfl,?_⟩,trivial⟩
     refine e' rfl ?_
     refine D0.step rfl (j0:=3) (js:=[]) (by kernel_rfl) ⟨⟨_,rfl,?_⟩,trivial⟩
     exact gn' [0] (ih15 _ _ hx3) rfl rfl rfl rfl rfl (fun hi=>peW ⟨trivial,⟨rfl,.refl _,rfl⟩,trivial⟩ rfl hi)
    ·refine e' rfl ?_
     refine D0.step rfl (j0:=0) (js:=[3]) (by kernel_rfl) ⟨⟨_,rfl,?_⟩,⟨_,rfl,?_⟩,trivial⟩
     ·refine e' rfl ?_
      refine D0.step rfl (j0:=3) (js:=[]) (by kernel_rfl) ⟨⟨_,rfl,?_⟩,trivial⟩
      exact gn' [0] (ih15 _ _ hx3) rfl rfl rfl rfl rfl (fun hi=>peW ⟨trivial,⟨rfl,.refl _,rfl⟩,trivial⟩ rfl hi)
     ·exact gn' [0] (ih15 _ _ hx3) rfl rfl rfl rfl rfl (fun hi=>peW ⟨trivial,⟨rfl,.refl _,rfl⟩,trivial⟩ rfl hi)
   ·refine e' rfl ?_
    refine D0.step rfl (j0:=0) (js:=[1,3]) (by kernel_rfl) ⟨⟨_,rfl,?_⟩,⟨_,rfl,?_⟩,⟨_,rfl,?_⟩,trivial⟩
    ·refine e' rfl ?_
     refine D0.step rfl (j0:=1) (js:=[3]) (by kernel_rfl) ⟨⟨_,rfl,?_⟩,⟨_,rfl,?_⟩,trivial⟩
     ·refine e' rfl ?_
      refine D0.step rfl (j0:=3) (js:=[]) (by kernel_rfl) ⟨⟨_,rfl,?_⟩,trivial⟩
      exact gn' [0] (ih15 _ _ hx3) rfl rfl rfl rfl rfl (fun hi=>peW ⟨trivial,⟨rfl,.refl _,rfl⟩,trivial⟩ rfl hi)
     ·exact gn' [0] (ih15 _ _ hx3) rfl rfl rfl rfl rfl (fun hi=>peW ⟨trivial,⟨rfl,.refl _,rfl⟩,trivial⟩ rfl hi)
    ·refine e' rfl ?_
     refine D0.step rfl (j0:=0) (js:=[3]) (by kernel_rfl) ⟨⟨_,rfl,?_⟩,⟨_,rfl,?_⟩,trivial⟩
     ·refine e' rfl ?_
      refine D0.step rfl (j0:=3) (js:=[]) (by kernel_rfl) ⟨⟨_,rfl,?_⟩,trivial⟩
      exact gn' [0] (ih15 _ _ hx3) rfl rfl rfl rfl rfl (fun hi=>peW ⟨trivial,⟨rfl,.refl _,rfl⟩,trivial⟩ rfl hi)
     ·exact gn' [0] (ih15 _ _ hx3) rfl rfl rfl rfl rfl (fun hi=>peW ⟨trivial,⟨rfl,.refl _,rfl⟩,trivial⟩ rfl hi)
    ·exact gn' [0] (ih15 _ _ hx3) rfl rfl rfl rfl rfl (fun hi=>peW ⟨trivial,⟨rfl,.refl _,rfl⟩,trivial⟩ rfl hi)
  refine AEx.drawE hC ?_
  refine D0.step rfl (j0:=0) (js:=[1,2]) (by kernel_rfl) ⟨⟨_,rfl,?_⟩,⟨_,rfl,?_⟩,⟨_,rfl,?_⟩,trivial⟩
  ·refine e' rfl ?_
   refine D0.step rfl (j0:=1) (js:=[2]) (by kernel_rfl) ⟨⟨_,rfl,?_⟩,⟨_,rfl,?_⟩,trivial⟩
   ·refine e' rfl ?_
    refine D0.step rfl (j0:=2) (js:=[]) (by kernel_rfl) ⟨⟨_,rfl,?_⟩,trivial⟩
    refine e' rfl ?_
    refine D0.step rfl (j0:=3) (js:=[]) (by kernel_rfl) ⟨⟨_,rfl,?_⟩,trivial⟩
    refine g' [0] ((ih15 _ _ hx3).ok) rfl rfl rfl rfl rfl rfl (n' ?_)
    refine D0.step rfl (j0:=4) (js:=[]) (by kernel_rfl) ⟨⟨_,rfl,?_⟩,trivial⟩
    refine E0.be hC rfl (B0.rows_map [o3,x3.1]).symm (n' ?_)
    refine D0.step rfl (j0:=5) (js:=[]) (by kernel_rfl) ⟨⟨_,rfl,?_⟩,trivial⟩
    refine e' rfl ?_
    refine D0.step rfl (j0:=6) (js:=[]) (by kernel_rfl) ⟨⟨_,rfl,?_⟩,trivial⟩
    refine E0.s hC rfl (n' (D0.nil (by kernel_rfl) ?_))
    refine S0.wk ?_ (ih14 _ _ _ hh)
    exact ⟨⟨⟨.rfl,rfl⟩,⟨.rfl,rfl⟩,⟨.rfl,rfl⟩,⟨.rfl,rfl⟩,trivial⟩,⟨⟨rfl,.refl _,rfl⟩,⟨rfl,.refl _,rfl⟩,⟨rfl,.refl _,rfl⟩,⟨rfl,⟨.rfl,.rfl,.rfl,.full,trivial⟩,rfl⟩,trivial⟩,rfl⟩
   ·refine e' rfl ?_
    refine D0.step rfl (j0:=1) (js:=[3]) (by kernel_rfl) ⟨⟨_,rfl,?_⟩,⟨_,rfl,?_⟩,trivial⟩
    ·refine e' rfl ?_
     refine D0.step rfl (j0:=3) (js:=[]) (by kernel_rfl) ⟨⟨_,rfl,?_⟩,trivial⟩
     refine g' [0] ((ih15 _ _ hx3).ok) rfl rfl rfl rfl rfl rfl (n' ?_)
     refine D0.step rfl (j0:=4) (js:=[]) (by kernel_rfl) ⟨⟨_,rfl,?_⟩,trivial⟩
     refine E0.be hC rfl (B0.rows_map [o3,x3.1]).symm (n' ?_)
     refine D0.step rfl (j0:=5) (js:=[]) (by kernel_rfl) ⟨⟨_,rfl,?_⟩,trivial⟩
     refine e' rfl ?_
     refine D0.step rfl (j0:=6) (js:=[]) (by kernel_rfl) ⟨⟨_,rfl,?_⟩,trivial⟩
     refine E0.s hC rfl (n' (D0.nil (by kernel_rfl) ?_))
     refine S0.wk ?_ (ih14 _ _ _ hh)
     exact ⟨⟨⟨.rfl,rfl⟩,⟨.rfl,rfl⟩,⟨.rfl,rfl⟩,⟨.rfl,rfl⟩,trivial⟩,⟨⟨rfl,.refl _,rfl⟩,⟨rfl,.refl _,rfl⟩,⟨rfl,.refl _,rfl⟩,⟨rfl,⟨.rfl,.rfl,.rfl,.full,trivial⟩,rfl⟩,trivial⟩,rfl⟩
    ·refine g' [0] ((ih15 _ _ hx3).ok) rfl rfl rfl rfl rfl rfl (n' ?_)
     refine D0.step rfl (j0:=1) (js:=[]) (by kernel_rfl) ⟨⟨_,rfl,?_⟩,trivial⟩
     refine e' rfl ?_
     refine D0.step rfl (j0:=4) (js:=[]) (by kernel_rfl) ⟨⟨_,rfl,?_⟩,trivial⟩
     refine E0.be hC rfl (B0.rows_map [o3,x3.1]).symm (n' ?_)
     refine D0.step rfl (j0:=5) (js:=[]) (by kernel_rfl) ⟨⟨_,rfl,?_⟩,trivial⟩
     refine e' rfl ?_
     refine D0.step rfl (j0:=6) (js:=[]) (by kernel_rfl) ⟨⟨_,rfl,?_⟩,trivial⟩
     refine E0.s hC rfl (n' (D0.nil (by kernel_rfl) ?_))
     refine S0.wk ?_ (ih14 _ _ _ hh)
     exact ⟨⟨⟨.rfl,rfl⟩,⟨.rfl,rfl⟩,⟨.rfl,rfl⟩,⟨.rfl,rfl⟩,trivial⟩,⟨⟨rfl,.refl _,rfl⟩,⟨rfl,.refl _,rfl⟩,⟨rfl,.refl _,rfl⟩,⟨rfl,⟨.rfl,.rfl,.rfl,.full,trivial⟩,rfl⟩,trivial⟩,rfl⟩
  ·refine e' rfl ?_
   refine D0.step rfl (j0:=0) (js:=[2]) (by kernel_rfl) ⟨⟨_,rfl,?_⟩,⟨_,rfl,?_⟩,trivial⟩
   ·refine e' rfl ?_
    refine D0.step rfl (j0:=2) (js:=[]) (by kernel_rfl) ⟨⟨_,rfl,?_⟩,trivial⟩
    refine e' rfl ?_
    refine D0.step rfl (j0:=3) (js:=[]) (by kernel_rfl) ⟨⟨_,rfl,?_⟩,trivial⟩
    refine g' [0] ((ih15 _ _ hx3).ok) rfl rfl rfl rfl rfl rfl (n' ?_)
    refine D0.step rfl (j0:=4) (js:=[]) (by kernel_rfl) ⟨⟨_,rfl,?_⟩,trivial⟩
    refine E0.be hC rfl (B0.rows_map [o3,x3.1]).symm (n' ?_)
    refine D0.step rfl (j0:=5) (js:=[]) (by kernel_rfl) ⟨⟨_,rfl,?_⟩,trivial⟩
    refine e' rfl ?_
    refine D0.step rfl (j0:=6) (js:=[]) (by kernel_rfl) ⟨⟨_,rfl,?_⟩,trivial⟩
    refine E0.s hC rfl (n' (D0.nil (by kernel_rfl) ?_))
    refine S0.wk ?_ (ih14 _ _ _ hh)
    exact ⟨⟨⟨.rfl,rfl⟩,⟨.rfl,rfl⟩,⟨.rfl,rfl⟩,⟨.rfl,rfl⟩,trivial⟩,⟨⟨rfl,.refl _,rfl⟩,⟨rfl,.refl _,rfl⟩,⟨rfl,.refl _,rfl⟩,⟨rfl,⟨.rfl,.rfl,.rfl,.full,trivial⟩,rfl⟩,trivial⟩,rfl⟩
   ·refine e' rfl ?_
    refine D0.step rfl (j0:=0) (js:=[3]) (by kernel_rfl) ⟨⟨_,rfl,?_⟩,⟨_,rfl,?_⟩,trivial⟩
    ·refine e' rfl ?_
     refine D0.step rfl (j0:=3) (js:=[]) (by kernel_rfl) ⟨⟨_,rfl,?_⟩,trivial⟩
     refine g' [0] ((ih15 _ _ hx3).ok) rfl rfl rfl rfl rfl rfl (n' ?_)
     refine D0.step rfl (j0:=4) (js:=[]) (by kernel_rfl) ⟨⟨_,rfl,?_⟩,trivial⟩
     refine E0.be hC rfl (B0.rows_map [o3,x3.1]).symm (n' ?_)
     refine D0.step rfl (j0:=5) (js:=[]) (by kernel_rfl) ⟨⟨_,rfl,?_⟩,trivial⟩
     refine e' rfl ?_
     refine D0.step rfl (j0:=6) (js:=[]) (by kernel_rfl) ⟨⟨_,rfl,?_⟩,trivial⟩
     refine E0.s hC rfl (n' (D0.nil (by kernel_rfl) ?_))
     refine S0.wk ?_ (ih14 _ _ _ hh)
     exact ⟨⟨⟨.rfl,rfl⟩,⟨.rfl,rfl⟩,⟨.rfl,rfl⟩,⟨.rfl,rfl⟩,trivial⟩,⟨⟨rfl,.refl _,rfl⟩,⟨rfl,.refl _,rfl⟩,⟨rfl,.refl _,rfl⟩,⟨rfl,⟨.rfl,.rfl,.rfl,.full,trivial⟩,rfl⟩,trivial⟩,rfl⟩
    ·refine g' [0] ((ih15 _ _ hx3).ok) rfl rfl rfl rfl rfl rfl (n' ?_)
     refine D0.step rfl (j0:=0) (js:=[4]) (by kernel_rfl) ⟨⟨_,rfl,?_⟩,⟨_,rfl,?_⟩,trivial⟩
     ·refine e' rfl ?_
      refine D0.step rfl (j0:=4) (js:=[]) (by kernel_rfl) ⟨⟨_,rfl,?_⟩,trivial⟩
      refine E0.be hC rfl (B0.rows_map [o3,x3.1]).symm (n' ?_)
      refine D0.step rfl (j0:=5) (js:=[]) (by kernel_rfl) ⟨⟨_,rfl,?_⟩,trivial⟩
      refine e' rfl ?_
      refine D0.step rfl (j0:=6) (js:=[]) (by kernel_rfl) ⟨⟨_,rfl,?_⟩,trivial⟩
      refine E0.s hC rfl (n' (D0.nil (by kernel_rfl) ?_))
      refine S0.wk ?_ (ih14 _ _ _ hh)
      exact ⟨⟨⟨.rfl,rfl⟩,⟨.rfl,rfl⟩,⟨.rfl,rfl⟩,⟨.rfl,rfl⟩,trivial⟩,⟨⟨rfl,.refl _,rfl⟩,⟨rfl,.refl _,rfl⟩,⟨rfl,.refl _,rfl⟩,⟨rfl,⟨.rfl,.rfl,.rfl,.full,trivial⟩,rfl⟩,trivial⟩,rfl⟩
     ·refine E0.be hC rfl (B0.rows_map [o3,x3.1]).symm (n' ?_)
      refine D0.step rfl (j0:=0) (js:=[]) (by kernel_rfl) ⟨⟨_,rfl,?_⟩,trivial⟩
      refine e' rfl ?_
      refine D0.step rfl (j0:=5) (js:=[]) (by kernel_rfl) ⟨⟨_,rfl,?_⟩,trivial⟩
      refine e' rfl ?_
      refine D0.step rfl (j0:=6) (js:=[]) (by kernel_rfl) ⟨⟨_,rfl,?_⟩,trivial⟩
      refine E0.s hC rfl (n' (D0.nil (by kernel_rfl) ?_))
      refine S0.wk ?_ (ih14 _ _ _ hh)
      exact ⟨⟨⟨.rfl,rfl⟩,⟨.rfl,rfl⟩,⟨.rfl,rfl⟩,⟨.rfl,rfl⟩,trivial⟩,⟨⟨rfl,.refl _,rfl⟩,⟨rfl,.refl _,rfl⟩,⟨rfl,.refl _,rfl⟩,⟨rfl,⟨.rfl,.rfl,.rfl,.full,trivial⟩,rfl⟩,trivial⟩,rfl⟩
  ·refine e' rfl ?_
   refine D0.step rfl (j0:=0) (js:=[1,3]) (by kernel_rfl) ⟨⟨_,rfl,?_⟩,⟨_,rfl,?_⟩,⟨_,rfl,?_⟩,trivial⟩
   ·refine e' rfl ?_
    refine D0.step rfl (j0:=1) (js:=[3]) (by kernel_rfl) ⟨⟨_,rfl,?_⟩,⟨_,rfl,?_⟩,trivial⟩
    ·refine e' rfl ?_
     refine D0.step rfl (j0:=3) (js:=[]) (by kernel_rfl) ⟨⟨_,rfl,?_⟩,trivial⟩
     refine g' [0] ((ih15 _ _ hx3).ok) rfl rfl rfl rfl rfl rfl (n' ?_)
     refine D0.step rfl (j0:=4) (js:=[]) (by kernel_rfl) ⟨⟨_,rfl,?_⟩,trivial⟩
     refine E0.be hC rfl (B0.rows_map [o3,x3.1]).symm (n' ?_)
     refine D0.step rfl (j0:=5) (js:=[]) (by kernel_rfl) ⟨⟨_,rfl,?_⟩,trivial⟩
     refine e' rfl ?_
     refine D0.step rfl (j0:=6) (js:=[]) (by kernel_rfl) ⟨⟨_,rfl,?_⟩,trivial⟩
     refine E0.s hC rfl (n' (D0.nil (by kernel_rfl) ?_))
     refine S0.wk ?_ (ih14 _ _ _ hh)
     exact ⟨⟨⟨.rfl,rfl⟩,⟨.rfl,rfl⟩,⟨.rfl,rfl⟩,⟨.rfl,rfl⟩,trivial⟩,⟨⟨rfl,.refl _,rfl⟩,⟨rfl,.refl _,rfl⟩,⟨rfl,.refl _,rfl⟩,⟨rfl,⟨.rfl,.rfl,.rfl,.full,trivial⟩,rfl⟩,trivial⟩,rfl⟩
    ·refine g' [0] ((ih15 _ _ hx3).ok) rfl rfl rfl rfl rfl rfl (n' ?_)
     refine D0.step rfl (j0:=1) (js:=[]) (by kernel_rfl) ⟨⟨_,rfl,?_⟩,trivial⟩
     refine e' rfl ?_
     refine D0.step rfl (j0:=4) (js:=[]) (by kernel_rfl) ⟨⟨_,rfl,?_⟩,trivial⟩
     refine E0.be hC rfl (B0.rows_map [o3,x3.1]).symm (n' ?_)
     refine D0.step rfl (j0:=5) (js:=[]) (by kernel_rfl) ⟨⟨_,rfl,?_⟩,trivial⟩
     refine e' rfl ?_
     refine D0.step rfl (j0:=6) (js:=[]) (by kernel_rfl) ⟨⟨_,rfl,?_⟩,trivial⟩
     refine E0.s hC rfl (n' (D0.nil (by kernel_rfl) ?_))
     refine S0.wk ?_ (ih14 _ _ _ hh)
     exact ⟨⟨⟨.rfl,rfl⟩,⟨.rfl,rfl⟩,⟨.rfl,rfl⟩,⟨.rfl,rfl⟩,trivial⟩,⟨⟨rfl,.refl _,rfl⟩,⟨rfl,.refl _,rfl⟩,⟨rfl,.refl _,rfl⟩,⟨rfl,⟨.rfl,.rfl,.rfl,.full,trivial⟩,rfl⟩,trivial⟩,rfl⟩
   ·refine e' rfl ?_
    refine D0.step rfl (j0:=0) (js:=[3]) (by kernel_rfl) ⟨⟨_,rfl,?_⟩,⟨_,rfl,?_⟩,trivial⟩
    ·refine e' rfl ?_
     refine D0.step rfl (j0:=3) (js:=[]) (by kernel_rfl) ⟨⟨_,rfl,?_⟩,trivial⟩
     refine g' [0] ((ih15 _ _ hx3).ok) rfl rfl rfl rfl rfl rfl (n' ?_)
     refine D0.step rfl (j0:=4) (js:=[]) (by kernel_rfl) ⟨⟨_,rfl,?_⟩,trivial⟩
     refine E0.be hC rfl (B0.rows_map [o3,x3.1]).symm (n' ?_)
     refine D0.step rfl (j0:=5) (js:=[]) (by kernel_rfl) ⟨⟨_,rfl,?_⟩,trivial⟩
     refine e' rfl ?_
     refine D0.step rfl (j0:=6) (js:=[]) (by kernel_rfl) ⟨⟨_,rfl,?_⟩,trivial⟩
     refine E0.s hC rfl (n' (D0.nil (by kernel_rfl) ?_))
     refine S0.wk ?_ (ih14 _ _ _ hh)
     exact ⟨⟨⟨.rfl,rfl⟩,⟨.rfl,rfl⟩,⟨.rfl,rfl⟩,⟨.rfl,rfl⟩,trivial⟩,⟨⟨rfl,.refl _,rfl⟩,⟨rfl,.refl _,rfl⟩,⟨rfl,.refl _,rfl⟩,⟨rfl,⟨.rfl,.rfl,.rfl,.full,trivial⟩,rfl⟩,trivial⟩,rfl⟩
    ·refine g' [0] ((ih15 _ _ hx3).ok) rfl rfl rfl rfl rfl rfl (n' ?_)
     refine D0.step rfl (j0:=0) (js:=[4]) (by kernel_rfl) ⟨⟨_,rfl,?_⟩,⟨_,rfl,?_⟩,trivial⟩
     ·refine e' rfl ?_
      refine D0.step rfl (j0:=4) (js:=[]) (by kernel_rfl) ⟨⟨_,rfl,?_⟩,trivial⟩
      refine E0.be hC rfl (B0.rows_map [o3,x3.1]).symm (n' ?_)
      refine D0.step rfl (j0:=5) (js:=[]) (by kernel_rfl) ⟨⟨_,rfl,?_⟩,trivial⟩
      refine e' rfl ?_
      refine D0.step rfl (j0:=6) (js:=[]) (by kernel_rfl) ⟨⟨_,rfl,?_⟩,trivial⟩
      refine E0.s hC rfl (n' (D0.nil (by kernel_rfl) ?_))
      refine S0.wk ?_ (ih14 _ _ _ hh)
      exact ⟨⟨⟨.rfl,rfl⟩,⟨.rfl,rfl⟩,⟨.rfl,rfl⟩,⟨.rfl,rfl⟩,trivial⟩,⟨⟨rfl,.refl _,rfl⟩,⟨rfl,.refl _,rfl⟩,⟨rfl,.refl _,rfl⟩,⟨rfl,⟨.rfl,.rfl,.rfl,.full,trivial⟩,rfl⟩,trivial⟩,rfl⟩
     ·refine E0.be hC rfl (B0.rows_map [o3,x3.1]).symm (n' ?_)
      refine D0.step rfl (j0:=0) (js:=[]) (by kernel_rfl) ⟨⟨_,rfl,?_⟩,trivial⟩
      refine e' rfl ?_
      refine D0.step rfl (j0:=5) (js:=[]) (by kernel_rfl) ⟨⟨_,rfl,?_⟩,trivial⟩
      refine e' rfl ?_
      refine D0.step rfl (j0:=6) (js:=[]) (by kernel_rfl) ⟨⟨_,rfl,?_⟩,trivial⟩
      refine E0.s hC rfl (n' (D0.nil (by kernel_rfl) ?_))
      refine S0.wk ?_ (ih14 _ _ _ hh)
      exact ⟨⟨⟨.rfl,rfl⟩,⟨.rfl,rfl⟩,⟨.rfl,rfl⟩,⟨.rfl,rfl⟩,trivial⟩,⟨⟨rfl,.refl _,rfl⟩,⟨rfl,.refl _,rfl⟩,⟨rfl,.refl _,rfl⟩,⟨rfl,⟨.rfl,.rfl,.rfl,.full,trivial⟩,rfl⟩,trivial⟩,rfl⟩
   ·refine g' [0] ((ih15 _ _ hx3).ok) rfl rfl rfl rfl rfl rfl (n' ?_)
    refine D0.step rfl (j0:=0) (js:=[1]) (by kernel_rfl) ⟨⟨_,rfl,?_⟩,⟨_,rfl,?_⟩,trivial⟩
    ·refine e' rfl ?_
     refine D0.step rfl (j0:=1) (js:=[]) (by kernel_rfl) ⟨⟨_,rfl,?_⟩,trivial⟩
     refine e' rfl ?_
     refine D0.step rfl (j0:=4) (js:=[]) (by kernel_rfl) ⟨⟨_,rfl,?_⟩,trivial⟩
     refine E0.be hC rfl (B0.rows_map [o3,x3.1]).symm (n' ?_)
     refine D0.step rfl (j0:=5) (js:=[]) (by kernel_rfl) ⟨⟨_,rfl,?_⟩,trivial⟩
     refine e' rfl ?_
     refine D0.step rfl (j0:=6) (js:=[]) (by kernel_rfl) ⟨⟨_,rfl,?_⟩,trivial⟩
     refine E0.s hC rfl (n' (D0.nil (by kernel_rfl) ?_))
     refine S0.wk ?_ (ih14 _ _ _ hh)
     exact ⟨⟨⟨.rfl,rfl⟩,⟨.rfl,rfl⟩,⟨.rfl,rfl⟩,⟨.rfl,rfl⟩,trivial⟩,⟨⟨rfl,.refl _,rfl⟩,⟨rfl,.refl _,rfl⟩,⟨rfl,.refl _,rfl⟩,⟨rfl,⟨.rfl,.rfl,.rfl,.full,trivial⟩,rfl⟩,trivial⟩,rfl⟩
    ·refine e' rfl ?_
     refine D0.step rfl (j0:=0) (js:=[4]) (by kernel_rfl) ⟨⟨_,rfl,?_⟩,⟨_,rfl,?_⟩,trivial⟩
     ·refine e' rfl ?_
      refine D0.step rfl (j0:=4) (js:=[]) (by kernel_rfl) ⟨⟨_,rfl,?_⟩,trivial⟩
      refine E0.be hC rfl (B0.rows_map [o3,x3.1]).symm (n' ?_)
      refine D0.step rfl (j0:=5) (js:=[]) (by kernel_rfl) ⟨⟨_,rfl,?_⟩,trivial⟩
      refine e' rfl ?_
      refine D0.step rfl (j0:=6) (js:=[]) (by kernel_rfl) ⟨⟨_,rfl,?_⟩,trivial⟩
      refine E0.s hC rfl (n' (D0.nil (by kernel_rfl) ?_))
      refine S0.wk ?_ (ih14 _ _ _ hh)
      exact ⟨⟨⟨.rfl,rfl⟩,⟨.rfl,rfl⟩,⟨.rfl,rfl⟩,⟨.rfl,rfl⟩,trivial⟩,⟨⟨rfl,.refl _,rfl⟩,⟨rfl,.refl _,rfl⟩,⟨rfl,.refl _,rfl⟩,⟨rfl,⟨.rfl,.rfl,.rfl,.full,trivial⟩,rfl⟩,trivial⟩,rfl⟩
     ·refine E0.be hC rfl (B0.rows_map [o3,x3.1]).symm (n' ?_)
      refine D0.step rfl (j0:=0) (js:=[]) (by kernel_rfl) ⟨⟨_,rfl,?_⟩,trivial⟩
      refine e' rfl ?_
      refine D0.step rfl (j0:=5) (js:=[]) (by kernel_rfl) ⟨⟨_,rfl,?_⟩,trivial⟩
      refine e' rfl ?_
      refine D0.step rfl (j0:=6) (js:=[]) (by kernel_rfl) ⟨⟨_,rfl,?_⟩,trivial⟩
      refine E0.s hC rfl (n' (D0.nil (by kernel_rfl) ?_))
      refine S0.wk ?_ (ih14 _ _ _ hh)
      exact ⟨⟨⟨.rfl,rfl⟩,⟨.rfl,rfl⟩,⟨.rfl,rfl⟩,⟨.rfl,rfl⟩,trivial⟩,⟨⟨rfl,.refl _,rfl⟩,⟨rfl,.refl _,rfl⟩,⟨rfl,.refl _,rfl⟩,⟨rfl,⟨.rfl,.rfl,.rfl,.full,trivial⟩,rfl⟩,trivial⟩,rfl⟩
 ·intro g15 g16 ih15 ih16 parserParser res hh
  obtain ⟨x1,hx1,hh⟩:=bs' hh
  refine Y1.intro hC Tryz.func214 rfl rfl rfl (s' rfl rfl (E0.nf hC rfl (n' (S' (bk' (p' 1 rfl (g' [0] (O0 hx1) rfl rfl rfl rfl rfl rfl (e' rfl (ci' rfl hh (fun hh=>?_) (fun hh=>?_))))))))))
  ·refine p' 1 rfl ?_
   rcases bp' hh with ⟨nn,hx4,⟨⟩⟩ | ⟨x4,hx4,hh⟩
   ·exact gn' [0] (ih15 _ _ hx4) rfl rfl rfl rfl rfl (fun hi=>peW ⟨trivial,trivial⟩ rfl hi)
   refine g' [0] ((ih15 _ _ hx4).ok) rfl rfl rfl rfl rfl rfl (E0.be hC rfl (B0.rows_map [x4.1]).symm (q' rfl (E0.s hC rfl (n' (re' ?_)))))
   obtain rfl:=oi' hh
   exact ⟨_,.agg [.d (.int .i64 6),.d (.int .i64 0),.d (.str []),.d (.sl (B0.rows [x4.1]))],[.row (A0.cells x4.2) 99],rfl,(.aggL ⟨.rfl,.rfl,.rfl,.full,trivial⟩),⟨⟨rfl,.refl _,rfl⟩,trivial⟩,rfl,rfl,rpq rfl rfl⟩
  obtain ⟨x2,hx2,hh⟩:=bs' hh
  refine p' 1 rfl (g' [0] (O0 hx2) rfl rfl rfl rfl rfl rfl (e' rfl (ci' rfl hh (fun hh=>?_) (fun hh=>?_))))
  ·refine p' 1 rfl ?_
   rcases bp' hh with ⟨nn,hx5,⟨⟩⟩ | ⟨x5,hx5,hh⟩
   ·exact gn' [0] (ih15 _ _ hx5) rfl rfl rfl rfl rfl (fun hi=>peW ⟨trivial,trivial⟩ rfl hi)
   refine g' [0] ((ih15 _ _ hx5).ok) rfl rfl rfl rfl rfl rfl (E0.be hC rfl (B0.rows_map [x5.1]).symm (q' rfl (E0.s hC rfl (n' (re' ?_)))))
   obtain rfl:=oi' hh
   exact ⟨_,.agg [.d (.int .i64 7),.d (.int .i64 0),.d (.str []),.d (.sl (B0.rows [x5.1]))],[.row (A0.cells x5.2) 99],rfl,(.aggL ⟨.rfl,.rfl,.rfl,.full,trivial⟩),⟨⟨rfl,.refl _,rfl⟩,trivial⟩,rfl,rfl,rpq rfl rfl⟩
  refine sk' (p' 1 rfl ?_)
  rcases bp' hh with ⟨nn,hx3,⟨⟩⟩ | ⟨x3,hx3,hh⟩
  ·exact gn' [0] (ih16 _ _ hx3) rfl rfl rfl rfl rfl (fun hi=>peW ⟨trivial,trivial⟩ rfl hi)
  cases hh
  exact g' [0] ((ih16 _ _ hx3).ok) rfl rfl rfl rfl rfl rfl (E0.s hC rfl (n' (re' (rt' rfl rfl rfl))))
 ·intro g0 g17 g18 ih0 ih17 ih18 parserParser res hh
  obtain ⟨x1,hx1,hh⟩:=bs' hh
  refine Y1.intro hC Tryz.func223 rfl rfl rfl (s' rfl rfl (E0.nf hC rfl (n' (S' (bk' (p' 1 rfl (g' [0] (Rl hx1) rfl rfl rfl rfl rfl rfl (e' rfl (ci' rfl hh (fun hh=>?_) (fun hh=>?_))))))))))
  ·refine p' 1 rfl ?_
   rcases bp' hh with ⟨nn,hx2,⟨⟩⟩ | ⟨x2,hx2,hh⟩
   ·exact gn' [0] (ih18 _ _ hx2) rfl rfl rfl rfl rfl (fun hi=>peW ⟨trivial,trivial⟩ rfl hi)
   cases hh
   exact g' [0] ((ih18 _ _ hx2).ok) rfl rfl rfl rfl rfl rfl (E0.s hC rfl (n' (re' (rt' rfl rfl rfl))))
  obtain ⟨x3,hx3,hh⟩:=bs' hh
  refine p' 1 rfl (g' [0] (O0 hx3) rfl rfl rfl rfl rfl rfl (e' rfl (ci' rfl hh (fun hh=>?_) (fun hh=>?_))))
  ·cases hh
   exact p' 1 rfl (E0.s hC rfl (n' (re' (rt' rfl rfl rfl))))
  obtain ⟨x4,hx4,hh⟩:=bs' hh
  refine p' 1 rfl (g' [0] (O0 hx4) rfl rfl rfl rfl rfl rfl (e' rfl (ci' rfl hh (fun hh=>?_) (fun hh=>?_))))
  ·cases hh
   exact p' 1 rfl (E0.s hC rfl (n' (re' (rt' rfl rfl rfl))))
  obtain ⟨x5,hx5,hh⟩:=bs' hh
  refine p' 1 rfl (g' [0] (O0 hx5) rfl rfl rfl rfl rfl rfl (e' rfl (ci' rfl hh (fun hh=>?_) (fun hh=>?_))))
  ·refine p' 1 rfl ?_
   rcases bp' hh with ⟨nn,hx11,⟨⟩⟩ | ⟨x11,hx11,hh⟩
   ·exact gn' [0] (ih17 _ _ _ hx11) rfl rfl rfl rfl rfl (fun hi=>peW ⟨trivial,trivial⟩ rfl hi)
   cases hh
   exact g' [0] ((ih17 _ _ _ hx11).ok) rfl rfl rfl rfl rfl rfl (E0.s hC rfl (n' (re' (rt' rfl rfl rfl))))
  obtain ⟨x6,hx6,hh⟩:=bs' hh
  refine p' 1 rfl (g' [0] (O0 hx6) rfl rfl rfl rfl rfl rfl (e' rfl (ci' rfl hh (fun hh=>?_) (fun hh=>?_))))
  ·refine p' 1 rfl ?_
   rcases bp' hh with ⟨nn,hx12,⟨⟩⟩ | ⟨x12,hx12,hh⟩
   ·exact gn' [0] (ih17 _ _ _ hx12) rfl rfl rfl rfl rfl (fun hi=>peW ⟨trivial,trivial⟩ rfl hi)
   cases hh
   exact g' [0] ((ih17 _ _ _ hx12).ok) rfl rfl rfl rfl rfl rfl (E0.s hC rfl (n' (re' (rt' rfl rfl rfl))))
  obtain ⟨x7,hx7,hh⟩:=bs' hh
  refine p' 1 rfl (g' [0] (O0 hx7) rfl rfl rfl rfl rfl rfl (e' rfl (ci' rfl hh (fun hh=>?_) (fun hh=>?_))))
  ·refine p' 1 rfl ?_
   rcases bp' hh with ⟨nn,hx9,⟨⟩⟩ | ⟨x9,hx9,hh⟩
   ·exact gn' [0] (ih0 _ _ hx9) rfl rfl rfl rfl rfl (fun hi=>peW ⟨trivial,trivial⟩ rfl hi)
   refine g' [0] ((ih0 _ _ hx9).ok) rfl rfl rfl rfl rfl rfl (E0.nf hC rfl (E0.s hC rfl (n' (p' 1 rfl ?_))))
   rcases bp' hh with ⟨nn,hx10,⟨⟩⟩ | ⟨x10,hx10,hh⟩
   ·exact gn' [0] (T0 hx10) rfl rfl rfl rfl rfl (fun hi=>peW ⟨trivial,trivial⟩ rfl hi)
   cases hh
   exact g' [0] ((T0 hx10).ok) rfl rfl rfl rfl rfl rfl (n' (p' 1 rfl (E0.s hC rfl (n' (re' (rt' rfl rfl rfl))))))
  refine sk' (p' 1 rfl ?_)
  rcases bp' hh with ⟨nn,hx8,⟨⟩⟩ | ⟨x8,hx8,hh⟩
  ·exact gn' [0] (B4 hx8) rfl rfl rfl rfl rfl (fun hi=>peW ⟨trivial,trivial⟩ rfl hi)
  cases hh
  exact g' [0] ((B4 hx8).ok) rfl rfl rfl rfl rfl rfl (q' rfl (E0.s hC rfl (n' (re' (rt' rfl rfl rfl)))))
 ·intro g0 ih0 op parserParser res hh
  refine Y1.intro hC Tryz.func228 rfl rfl rfl (s' rfl rfl (E0.nf hC rfl (n' (p' 1 rfl ?_))))
  rcases bp' hh with ⟨nn,hx1,⟨⟩⟩ | ⟨x1,hx1,hh⟩
  ·exact gn' [0] (T0 hx1) rfl rfl rfl rfl rfl (fun hi=>peW ⟨trivial,trivial⟩ rfl hi)
  refine g' [0] ((T0 hx1).ok) rfl rfl rfl rfl rfl rfl (n' (p' 1 rfl ?_))
  rcases bp' hh with ⟨nn,hx2,⟨⟩⟩ | ⟨x2,hx2,hh⟩
  ·exact gn' [0] (ih0 _ _ hx2) rfl rfl rfl rfl rfl (fun hi=>peW ⟨trivial,trivial⟩ rfl hi)
  refine g' [0] ((ih0 _ _ hx2).ok) rfl rfl rfl rfl rfl rfl (E0.nf hC rfl (E0.s hC rfl (n' (p' 1 rfl ?_))))
  rcases bp' hh with ⟨nn,hx3,⟨⟩⟩ | ⟨x3,hx3,hh⟩
  ·exact gn' [0] (T0 hx3) rfl rfl rfl rfl rfl (fun hi=>peW ⟨trivial,trivial⟩ rfl hi)
  refine g' [0] ((T0 hx3).ok) rfl rfl rfl rfl rfl rfl (n' (p' 1 rfl ?_))
  rcases bp' hh with ⟨nn,hx4,⟨⟩⟩ | ⟨x4,hx4,hh⟩
  ·exact gn' [0] (ih0 _ _ hx4) rfl rfl rfl rfl rfl (fun hi=>peW ⟨trivial,trivial⟩ rfl hi)
  refine g' [0] ((ih0 _ _ hx4).ok) rfl rfl rfl rfl rfl rfl (E0.nf hC rfl (E0.s hC rfl (n' (p' 1 rfl ?_))))
  rcases bp' hh with ⟨nn,hx5,⟨⟩⟩ | ⟨x5,hx5,hh⟩
  ·exact gn' [0] (T0 hx5) rfl rfl rfl rfl rfl (fun hi=>peW ⟨trivial,trivial⟩ rfl hi)
  refine g' [0] ((T0 hx5).ok) rfl rfl rfl rfl rfl rfl (n' (p' 3 rfl (E0.be hC rfl (B0.rows_map [x2.1,x4.1]).symm (q' rfl (E0.s hC rfl (n' (re' ?_)))))))
  obtain rfl:=oi' hh
  exact ⟨_,.agg [.d (.int .i64 op),.d (.int .i64 0),.d (.str []),.d (.sl (B0.rows [x2.1,x4.1]))],[.row (A0.cells x5) 99],rfl,(.aggL ⟨.rfl,.rfl,.rfl,.full,trivial⟩),⟨⟨rfl,.refl _,rfl⟩,trivial⟩,rfl,rfl,rpq rfl rfl⟩
 ·intro g19 ih19 parserParser res hh
  refine Y1.intro hC Tryz.func195 rfl rfl rfl (s' rfl rfl (E0.nf hC rfl (n' (p' 1 rfl ?_))))
  rcases bp' hh with ⟨nn,hx1,⟨⟩⟩ | ⟨x1,hx1,hh⟩
  ·exact gn' [0] (L1 hx1) rfl rfl rfl rfl rfl (fun hi=>peW ⟨trivial,trivial⟩ rfl hi)
  exact g' [0] ((L1 hx1).ok) rfl rfl rfl rfl rfl rfl (q' rfl (E0.nf hC rfl (E0.s hC rfl (n' (bk' (fw' (ih19 _ _ _ _ _ hh) rfl rfl rfl))))))
 ·intro g0 g19 ih0 ih19 o0 o2_Op o2_Name o2_Kids res hh
  obtain ⟨x2,hx2,hh⟩:=bs' hh
  refine S0.unroll (bk' (bk' (p' 1 rfl (g' [0] (O0 hx2) rfl rfl rfl rfl rfl rfl (e' rfl (ci' rfl hh (fun hh=>?_) (fun hh=>?_)))))))
  ·rcases bp' hh with ⟨nn,hx3,⟨⟩⟩ | ⟨x3,hx3,hh⟩
   ·refine AEx.drawE hC ?_
    refine D0.step rfl (j0:=0) (js:=[2]) (by kernel_rfl) ⟨⟨_,rfl,?_⟩,⟨_,rfl,?_⟩,trivial⟩
    ·refine e' rfl ?_
     refine D0.step rfl (j0:=1) (js:=[2]) (by kernel_rfl) ⟨⟨_,rfl,?_⟩,⟨_,rfl,?_⟩,trivial⟩
     ·exact gn' [0] (L1 hx3) rfl rfl rfl rfl rfl (fun hi=>peW ⟨trivial,trivial⟩ rfl hi)
     ·refine e' rfl ?_
      refine D0.step rfl (j0:=1) (js:=[3]) (by kernel_rfl) ⟨⟨_,rfl,?_⟩,⟨_,rfl,?_⟩,trivial⟩
      ·exact gn' [0] (L1 hx3) rfl rfl rfl rfl rfl (fun hi=>peW ⟨trivial,trivial⟩ rfl hi)
      ·refine E0.be hC rfl (B0.rows_map [(B0.mk o2_Op 0 o2_Name o2_Kids)]).symm (n' ?_)
       refine D0.step rfl (j0:=1) (js:=[]) (by kernel_rfl) ⟨⟨_,rfl,?_⟩,trivial⟩
       exact gn' [0] (L1 hx3) rfl rfl rfl rfl rfl (fun hi=>peW ⟨trivial,trivial⟩ rfl hi)
    ·refine e' rfl ?_
     refine D0.step rfl (j0:=0) (js:=[3]) (by kernel_rfl) ⟨⟨_,rfl,?_⟩,⟨_,rfl,?_⟩,trivial⟩
     ·refine e' rfl ?_
      refine D0.step rfl (j0:=1) (js:=[3]) (by kernel_rfl) ⟨⟨_,rfl,?_⟩,⟨_,rfl,?_⟩,trivial⟩
      ·exact gn' [0] (L1 hx3) rfl rfl rfl rfl rfl (fun hi=>peW ⟨trivial,trivial⟩ rfl hi)
      ·refine E0.be hC rfl (B0.rows_map [(B0.mk o2_Op 0 o2_Name o2_Kids)]).symm (n' ?_)
       refine D0.step rfl (j0:=1) (js:=[]) (by kernel_rfl) ⟨⟨_,rfl,?_⟩,trivial⟩
       exact gn' [0] (L1 hx3) rfl rfl rfl rfl rfl (fun hi=>peW ⟨trivial,trivial⟩ rfl hi)
     ·refine E0.be hC rfl (B0.rows_map [(B0.mk o2_Op 0 o2_Name o2_Kids)]).symm (n' ?_)
      refine D0.step rfl (j0:=0) (js:=[]) (by kernel_rfl) ⟨⟨_,rfl,?_⟩,trivial⟩
      refine e' rfl ?_
      refine D0.step rfl (j0:=1) (js:=[]) (by kernel_rfl) ⟨⟨_,rfl,?_⟩,trivial⟩
      exact gn' [0] (L1 hx3) rfl rfl rfl rfl rfl (fun hi=>peW ⟨trivial,trivial⟩ rfl hi)
   refine AEx.drawE hC ?_
   refine D0.step rfl (j0:=0) (js:=[2]) (by kernel_rfl) ⟨⟨_,rfl,?_⟩,⟨_,rfl,?_⟩,trivial⟩
   ·refine e' rfl ?_
    refine D0.step rfl (j0:=1) (js:=[2]) (by kernel_rfl) ⟨⟨_,rfl,?_⟩,⟨_,rfl,?_⟩,trivial⟩
    ·refine g' [0] ((L1 hx3).ok) rfl rfl rfl rfl rfl rfl (n' ?_)
     refine D0.step rfl (j0:=2) (js:=[]) (by kernel_rfl) ⟨⟨_,rfl,?_⟩,trivial⟩
     refine e' rfl ?_
     refine D0.step rfl (j0:=3) (js:=[]) (by kernel_rfl) ⟨⟨_,rfl,?_⟩,trivial⟩
     refine E0.be hC rfl (B0.rows_map [(B0.mk o2_Op 0 o2_Name o2_Kids)]).symm (n' ?_)
     refine D0.step rfl (j0:=4) (js:=[]) (by kernel_rfl) ⟨⟨_,rfl,?_⟩,trivial⟩
     refine e' rfl ?_
     refine D0.step rfl (j0:=5) (js:=[]) (by kernel_rfl) ⟨⟨_,rfl,?_⟩,trivial⟩
     refine E0.s hC rfl (n' (D0.nil (by kernel_rfl) ?_))
     refine S0.wk ?_ (ih19 _ _ _ _ _ hh)
     exact ⟨⟨⟨.rfl,rfl⟩,⟨.rfl,rfl⟩,⟨.rfl,rfl⟩,trivial⟩,⟨⟨rfl,.refl _,rfl⟩,⟨rfl,.refl _,rfl⟩,⟨rfl,⟨.rfl,.rfl,.rfl,.full,trivial⟩,rfl⟩,trivial⟩,rfl⟩
    ·refine e' rfl ?_
     refine D0.step rfl (j0:=1) (js:=[3]) (by kernel_rfl) ⟨⟨_,rfl,?_⟩,⟨_,rfl,?_⟩,trivial⟩
     ·refine g' [0] ((L1 hx3).ok) rfl rfl rfl rfl rfl rfl (n' ?_)
      refine D0.step rfl (j0:=3) (js:=[]) (by kernel_rfl) ⟨⟨_,rfl,?_⟩,trivial⟩
      refine E0.be hC rfl (B0.rows_map [(B0.mk o2_Op 0 o2_Name o2_Kids)]).symm (n' ?_)
      refine D0.step rfl (j0:=4) (js:=[]) (by kernel_rfl) ⟨⟨_,rfl,?_⟩,trivial⟩
      refine e' rfl ?_
      refine D0.step rfl (j0:=5) (js:=[]) (by kernel_rfl) ⟨⟨_,rfl,?_⟩,trivial⟩
      refine E0.s hC rfl (n' (D0.nil (by kernel_rfl) ?_))
      refine S0.wk ?_ (ih19 _ _ _ _ _ hh)
      exact ⟨⟨⟨.rfl,rfl⟩,⟨.rfl,rfl⟩,⟨.rfl,rfl⟩,trivial⟩,⟨⟨rfl,.refl _,rfl⟩,⟨rfl,.refl _,rfl⟩,⟨rfl,⟨.rfl,.rfl,.rfl,.full,trivial⟩,rfl⟩,trivial⟩,rfl⟩
     ·refine E0.be hC rfl (B0.rows_map [(B0.mk o2_Op 0 o2_Name o2_Kids)]).symm (n' ?_)
      refine D0.step rfl (j0:=1) (js:=[]) (by kernel_rfl) ⟨⟨_,rfl,?_⟩,trivial⟩
      refine g' [0] ((L1 hx3).ok) rfl rfl rfl rfl rfl rfl (n' ?_)
      refine D0.step rfl (j0:=4) (js:=[]) (by kernel_rfl) ⟨⟨_,rfl,?_⟩,trivial⟩
      refine e' rfl ?_
      refine D0.step rfl (j0:=5) (js:=[]) (by kernel_rfl) ⟨⟨_,rfl,?_⟩,trivial⟩
      refine E0.s hC rfl (n' (D0.nil (by kernel_rfl) ?_))
      refine S0.wk ?_ (ih19 _ _ _ _ _ hh)
      exact ⟨⟨⟨.rfl,rfl⟩,⟨.rfl,rfl⟩,⟨.rfl,rfl⟩,trivial⟩,⟨⟨rfl,.refl _,rfl⟩,⟨rfl,.refl _,rfl⟩,⟨rfl,⟨.rfl,.rfl,.rfl,.full,trivial⟩,rfl⟩,trivial⟩,rfl⟩
   ·refine e' rfl ?_
    refine D0.step rfl (j0:=0) (js:=[3]) (by kernel_rfl) ⟨⟨_,rfl,?_⟩,⟨_,rfl,?_⟩,trivial⟩
    ·refine e' rfl ?_
     refine D0.step rfl (j0:=1) (js:=[3]) (by kernel_rfl) ⟨⟨_,rfl,?_⟩,⟨_,rfl,?_⟩,trivial⟩
     ·refine g' [0] ((L1 hx3).ok) rfl rfl rfl rfl rfl rfl (n' ?_)
      refine D0.step rfl (j0:=3) (js:=[]) (by kernel_rfl) ⟨⟨_,rfl,?_⟩,trivial⟩
      refine E0.be hC rfl (B0.rows_map [(B0.mk o2_Op 0 o2_Name o2_Kids)]).symm (n' ?_)
      refine D0.step rfl (j0:=4) (js:=[]) (by kernel_rfl) ⟨⟨_,rfl,?_⟩,trivial⟩
      refine e' rfl ?_
      refine D0.step rfl (j0:=5) (js:=[]) (by kernel_rfl) ⟨⟨_,rfl,?_⟩,trivial⟩
      refine E0.s hC rfl (n' (D0.nil (by kernel_rfl) ?_))
      refine S0.wk ?_ (ih19 _ _ _ _ _ hh)
      exact ⟨⟨⟨.rfl,rfl⟩,⟨.rfl,rfl⟩,⟨.rfl,rfl⟩,trivial⟩,⟨⟨rfl,.refl _,rfl⟩,⟨rfl,.refl _,rfl⟩,⟨rfl,⟨.rfl,.rfl,.rfl,.full,trivial⟩,rfl⟩,trivial⟩,rfl⟩
     ·refine E0.be hC rfl (B0.rows_map [(B0.mk o2_Op 0 o2_Name o2_Kids)]).symm (n' ?_)
      refine D0.step rfl (j0:=1) (js:=[]) (by kernel_rfl) ⟨⟨_,rfl,?_⟩,trivial⟩
      refine g' [0] ((L1 hx3).ok) rfl rfl rfl rfl rfl rfl (n' ?_)
      refine D0.step rfl (j0:=4) (js:=[]) (by kernel_rfl) ⟨⟨_,rfl,?_⟩,trivial⟩
      refine e' rfl ?_
      refine D0.step rfl (j0:=5) (js:=[]) (by kernel_rfl) ⟨⟨_,rfl,?_⟩,trivial⟩
      refine E0.s hC rfl (n' (D0.nil (by kernel_rfl) ?_))
      refine S0.wk ?_ (ih19 _ _ _ _ _ hh)
      exact ⟨⟨⟨.rfl,rfl⟩,⟨.rfl,rfl⟩,⟨.rfl,rfl⟩,trivial⟩,⟨⟨rfl,.refl _,rfl⟩,⟨rfl,.refl _,rfl⟩,⟨rfl,⟨.rfl,.rfl,.rfl,.full,trivial⟩,rfl⟩,trivial⟩,rfl⟩
    ·refine E0.be hC rfl (B0.rows_map [(B0.mk o2_Op 0 o2_Name o2_Kids)]).symm (n' ?_)
     refine D0.step rfl (j0:=0) (js:=[]) (by kernel_rfl) ⟨⟨_,rfl,?_⟩,trivial⟩
     refine e' rfl ?_
     refine D0.step rfl (j0:=1) (js:=[]) (by kernel_rfl) ⟨⟨_,rfl,?_⟩,trivial⟩
     refine g' [0] ((L1 hx3).ok) rfl rfl rfl rfl rfl rfl (n' ?_)
     refine D0.step rfl (j0:=4) (js:=[]) (by kernel_rfl) ⟨⟨_,rfl,?_⟩,trivial⟩
     refine e' rfl ?_
     refine D0.step rfl (j0:=5) (js:=[]) (by kernel_rfl) ⟨⟨_,rfl,?_⟩,trivial⟩
     refine E0.s hC rfl (n' (D0.nil (by kernel_rfl) ?_))
     refine S0.wk ?_ (ih19 _ _ _ _ _ hh)
     exact ⟨⟨⟨.rfl,rfl⟩,⟨.rfl,rfl⟩,⟨.rfl,rfl⟩,trivial⟩,⟨⟨rfl,.refl _,rfl⟩,⟨rfl,.refl _,rfl⟩,⟨rfl,⟨.rfl,.rfl,.rfl,.full,trivial⟩,rfl⟩,trivial⟩,rfl⟩
  obtain ⟨x4,hx4,hh⟩:=bs' hh
  refine p' 1 rfl (g' [0] (O0 hx4) rfl rfl rfl rfl rfl rfl (e' rfl (ci' rfl hh (fun hh=>?_) (fun hh=>?_))))
  ·refine p' 1 rfl ?_
   rcases bp' hh with ⟨nn,hx5,⟨⟩⟩ | ⟨x5,hx5,hh⟩
   ·exact gn' [0] (ih0 _ _ hx5) rfl rfl rfl rfl rfl (fun hi=>peW ⟨trivial,trivial⟩ rfl hi)
   refine g' [0] ((ih0 _ _ hx5).ok) rfl rfl rfl rfl rfl rfl (E0.nf hC rfl (E0.s hC rfl (n' (p' 1 rfl ?_))))
   rcases bp' hh with ⟨nn,hx6,⟨⟩⟩ | ⟨x6,hx6,hh⟩
   ·exact gn' [0] (T0 hx6) rfl rfl rfl rfl rfl (fun hi=>peW ⟨trivial,trivial⟩ rfl hi)
   refine g' [0] ((T0 hx6).ok) rfl rfl rfl rfl rfl rfl (n' (P' 2 rfl (E0.be hC rfl (B0.rows_map [(B0.mk o2_Op 0 o2_Name o2_Kids),x5.1]).symm (q' rfl (E0.s hC rfl (n' ?_))))))
   refine S0.wk ?_ (ih19 _ _ _ _ _ hh)
   exact ⟨⟨⟨.rfl,rfl⟩,⟨.rfl,rfl⟩,⟨.rfl,rfl⟩,trivial⟩,⟨⟨rfl,.refl _,rfl⟩,⟨rfl,.refl _,rfl⟩,⟨rfl,⟨.rfl,.rfl,.rfl,.full,trivial⟩,rfl⟩,trivial⟩,rfl⟩
  cases hh
  exact p' 1 rfl (E0.s hC rfl (n' (re' (rt' rfl rfl rfl))))
theorem Lc {parserParser res}(hh:Z0 parserParser=some res):Jd parserParser res:=(Nh).1 _ _ hh
end Go.Proofs.YtmnhfbekncjnfaaGreatDoor

set_option maxRecDepth 100000
set_option maxHeartbeats 4000000
set_option synthInstance.maxSize 20000
set_option linter.unusedVariables false
namespace Go.Proofs.YtmnhfbekncjnfaaGreatDoor
open Go.Am
def R8 (parserParser:A0)(apiExpr:B0):Option (Pn (A0×B0)):=
 Z0 parserParser>>=fun x1=>match x1 with
 | .pn nn=>
 some (.pn nn)
 | .ok x1=>
 some (.ok (x1.2,x1.1))
theorem Zf {parserParser apiExpr res}(hh:R8 parserParser apiExpr=some res):Y1 C 29 [.ref 0 0,.ref 1 0] [.row (A0.cells parserParser) 99,.row [.d (.int .i64 apiExpr.Op),.d (.int .i64 apiExpr.NV),.d (.str apiExpr.Name),.full (B0.rows apiExpr.Kids)] 26] (F5 res (fun rr=>[.row (A0.cells rr.1) 99,.row (B0.cells rr.2) 26]) (fun rr=>.tup [])) (T4 res J3 [.dead,.row [.d (.int .i64 apiExpr.Op),.d (.int .i64 apiExpr.NV),.d (.str apiExpr.Name),.full (B0.rows apiExpr.Kids)] 26]):=by
 unfold R8 at hh
 refine Y1.intro hC Tryz.func29 rfl rfl rfl (P' 1 rfl ?_)
 rcases bp' hh with ⟨nn,hx1,⟨⟩⟩ | ⟨x1,hx1,hh⟩
 ·exact gn' [0] (Lc hx1) rfl rfl rfl rfl rfl (fun hi=>peW ⟨trivial,⟨rfl,.refl _,rfl⟩,trivial⟩ rfl hi)
 cases hh
 exact g' [0] ((Lc hx1).ok) rfl rfl rfl rfl rfl rfl (E0.s hC rfl (n' (rn' rfl rfl rfl)))
def Gf (text:Str)(apiExpr:B0):Option (Int×Int×B0):=
 Kc text>>=fun x1=>
 if (x1.2.2 != 0)=true then
  some (x1.2.1,x1.2.2,apiExpr)
 else
  R8 (A0.mk x1.1 0 ((text).length:Int)) apiExpr>>=fun x2=>match x2 with
  | .pn nn=>
  some (nn,6,apiExpr)
  | .ok x2=>
  if (decide (x2.1.next < ((x2.1.tokens).length:Int)))=true then
   V2 x2.1>>=fun x3=>match x3 with
   | .pn nn=>
   some (nn,6,x2.2)
   | .ok x3=>
   some (0,0,x2.2)
  else
   some (0,0,x2.2)
theorem Gy {text apiExpr res}(hh:Gf text apiExpr=some res):K0 C 28 [.d (.str text),.clo 29 [.ref 0 0]] [.row [.d (.int .i64 apiExpr.Op),.d (.int .i64 apiExpr.NV),.d (.str apiExpr.Name),.full (B0.rows apiExpr.Kids)] 26] (Ret [.row (B0.cells res.2.2) 26] (.tup [.d (.int .i64 res.1),.d (.int .i64 res.2.1)])):=by
 unfold Gf at hh
 obtain ⟨x1,hx1,hh⟩:=bs' hh
 refine K0.introD hC Tryz.func28 rfl rfl rfl (s' rfl rfl (E0.n hC rfl (E0.n hC rfl (n' (p' 1 rfl (c' (Cs hx1) rfl rfl (o' 5 rfl (E0.s hC rfl (E0.s hC rfl (n' (S' (t' rfl (ci' rfl hh (fun hh=>?_) (fun hh=>?_))))))))))))))
 ·refine S' ?_
  refine AEx.drawL hC 3 [2] [] [[.row [.d (.int .i64 apiExpr.Op),.d (.int .i64 apiExpr.NV),.d (.str apiExpr.Name),.full (B0.rows apiExpr.Kids)] 26,.row [.d (.int .i64 x1.2.1)] 3,.row [.d (.int .i64 x1.2.2)] 27],[.row [.d (.int .i64 apiExpr.Op),.d (.int .i64 apiExpr.NV),.d (.str apiExpr.Name),.full (B0.rows apiExpr.Kids)] 26,.row [.d (.int .i64 x1.2.1)] 3,.row [.d (.int .i64 x1.2.2)] 27]] rfl rfl rfl rfl rfl rfl rfl rfl rfl rfl ?_
  refine AS.q hC rfl rfl rfl rfl (AS.q hC rfl rfl rfl rfl (AS.s hC rfl rfl rfl rfl rfl rfl rfl (AS.nil (E0.s hC rfl (n' (re' ?_))))))
  obtain rfl:=oi' hh
  exact ⟨_,_,[.row (B0.cells apiExpr) 26],rfl,.rfl,⟨⟨rfl,⟨.rfl,.rfl,.rfl,.full,trivial⟩,rfl⟩,trivial⟩,rfl,rfl,rfl,rfl⟩
 refine sk' (AEx.dfr hC Lw Kz rfl rfl rfl rfl rfl rfl fun _=>(p' 4 rfl (E0.n hC rfl (e' rfl (p' 2 rfl ?_)))))
 rcases bp' hh with ⟨nn,hx2,hh⟩ | ⟨x2,hx2,hh⟩
 ·obtain rfl:=oi' hh
  exact gn' [3,0] (Zf hx2) rfl rfl rfl rfl rfl (fun hi=>dfk hi rfl rfl rfl (⟨_,_,[.row (B0.cells apiExpr) 26],rfl,.rfl,⟨⟨rfl,⟨.rfl,.rfl,.rfl,.full,trivial⟩,rfl⟩,trivial⟩,rfl,rfl,rfl,rfl⟩))
 refine g' [3,0] ((Zf hx2).ok) rfl rfl rfl rfl rfl rfl (n' (S' (S' (AEx.draw hC 10 rfl rfl rfl (O' 8 rfl (AQ.qe hC rfl trivial (F0.lenA _) (E' rfl (n' (ci' rfl hh (fun hh=>?_) (fun hh=>?_))))))))))
 ·refine P' 1 rfl ?_
  rcases bp' hh with ⟨nn,hx3,hh⟩ | ⟨x3,hx3,hh⟩
  ·cases hh
   exact gn' [3] (B3 hx3) rfl rfl rfl rfl rfl (fun hi=>dfk hi rfl rfl rfl (rt' rfl rfl rfl))
  cases hh
  exact g' [3] ((B3 hx3).ok) rfl rfl rfl rfl rfl rfl (n' (s' rfl rfl (E0.s hC rfl (E0.s hC rfl (n' (re' (rt' rfl rfl rfl)))))))
 cases hh
 exact sk' (s' rfl rfl (E0.s hC rfl (E0.s hC rfl (n' (re' (rt' rfl rfl rfl))))))
def W4 (d:Int)(syntaxReport:I0):Option I0:=
 some (I0.mk syntaxReport.nodes (max syntaxReport.depth d) syntaxReport.badForm syntaxReport.badName syntaxReport.badNumber)
theorem Ag {d syntaxReport res}(hh:W4 d syntaxReport=some res):K0 C 114 [.ref 0 0,.d (.int .i64 d)] [.row (I0.cells syntaxReport) 103] (Ret [.row (I0.cells res) 103] (.tup [])):=by
 unfold W4 at hh
 cases hh
 exact K0.intro hC Tryz.func114 rfl rfl rfl (P' 9 rfl (E0.s hC rfl (n' (rn' rfl rfl rfl))))
def C7 (op:Int)(v9:Bool):Option Int:=
 if v9=true then
  some 1
 else
  if (op == 5)=true then
   some 2
  else
   if (op == 23)=true then
    some 3
   else
    if (bif (decide (op≥8)) then (decide (op≤22)) else false)=true then
     some 2
    else
     some (-1)
theorem Ce {op v9 res}(hh:C7 op v9=some res):JM C 23 0 Tryz.f116 [1,0,1,4,1,3,1] [(0,.d (.int .i64 op)),(3,.d (.int .i64 op)),(9,.d (.bool v9))] [] (Ret [] (.d (.int .i64 res))):=by
 unfold C7 at hh
 refine ci' rfl hh (fun hh=>?_) (fun hh=>?_)
 ·cases hh
  exact t' rfl (re' (rt' rfl rfl rfl))
 refine t' rfl (ci' rfl hh (fun hh=>?_) (fun hh=>?_))
 ·cases hh
  exact t' rfl (re' (rt' rfl rfl rfl))
 refine t' rfl (ci' rfl hh (fun hh=>?_) (fun hh=>?_))
 ·cases hh
  exact t' rfl (re' (rt' rfl rfl rfl))
 refine sk' (S' (sg' 6 rfl (G' 4 rfl (a1' rfl (pa' rfl (an' (n' (ci' rfl hh (fun hh=>?_) (fun hh=>?_)))))))))
 ·cases hh
  exact t' rfl (re' (rt' rfl rfl rfl))
 cases hh
 exact sk' (t' rfl (re' (rt' rfl rfl rfl)))
def P5 (op:Int)(v4:Bool):Option Int:=
 if v4=true then
  some 0
 else
  if (op == 4)=true then
   C7 op (op == 4)
  else
   if (op == 6)=true then
    C7 op (op == 6)
   else
    C7 op (op == 7)
theorem Wa {op v4 res}(hh:P5 op v4=some res):JM C 23 0 Tryz.f116 [1,0,1,4,1] [(0,.d (.int .i64 op)),(3,.d (.int .i64 op)),(4,.d (.bool v4))] [] (Ret [] (.d (.int .i64 res))):=by
 unfold P5 at hh
 refine ci' rfl hh (fun hh=>?_) (fun hh=>?_)
 ·cases hh
  exact t' rfl (re' (rt' rfl rfl rfl))
 refine S' (t' rfl (ci' rfl hh (fun hh=>?_) (fun hh=>?_)))
 ·exact sk' (ew' (Ce hh) rfl rfl rfl)
 refine t' rfl (ci' rfl hh (fun hh=>?_) (fun hh=>?_))
 ·exact sk' (ew' (Ce hh) rfl rfl rfl)
 exact T' rfl (ew' (Ce hh) rfl rfl rfl)
def De (op:Int):Option Int:=
 if (op == 0)=true then
  P5 op (op == 0)
 else
  if (op == 1)=true then
   P5 op (op == 1)
  else
   if (op == 2)=true then
    P5 op (op == 2)
   else
    P5 op (op == 3)
theorem Sw {op res}(hh:De op=some res):K0 C 116 [.d (.int .i64 op)] [] (Ret [] (.d (.int .i64 res))):=by
 unfold De at hh
 refine K0.intro hC Tryz.func116 rfl rfl rfl (t' rfl (S' (t' rfl (bk' (S' (t' rfl (ci' rfl hh (fun hh=>?_) (fun hh=>?_))))))))
 ·exact sk' (ew' (Wa hh) rfl rfl rfl)
 refine t' rfl (ci' rfl hh (fun hh=>?_) (fun hh=>?_))
 ·exact sk' (ew' (Wa hh) rfl rfl rfl)
 refine t' rfl (ci' rfl hh (fun hh=>?_) (fun hh=>?_))
 ·exact sk' (ew' (Wa hh) rfl rfl rfl)
 exact T' rfl (ew' (Wa hh) rfl rfl rfl)
def O1 (ok:Bool)(syntaxReport:I0):Option I0:=
 some (I0.mk syntaxReport.nodes syntaxReport.depth (bif syntaxReport.badForm then true else (!ok)) syntaxReport.badName syntaxReport.badNumber)
theorem Z1 {ok syntaxReport res}(hh:O1 ok syntaxReport=some res):K0 C 115 [.ref 0 0,.d (.bool ok)] [.row (I0.cells syntaxReport) 103] (Ret [.row (I0.cells res) 103] (.tup [])):=by
 unfold O1 at hh
 cases hh
 exact K0.intro hC Tryz.func115 rfl rfl rfl (AEx.regionG 11 rfl (G' 7 rfl (a1' rfl (po' rfl (G' 2 rfl (an' (E0.s hC rfl (n' (rn' rfl rfl rfl)))))))))
def Q5 (o0:B0):Option Bool:=
 if (bif (o0.Op == 4) then true else (o0.Op == 5))=true then
  if (((o0.Kids).length:Int) == 0)=true then
   some false
  else
   idx o0.Kids 0>>=fun x1=>
   Q5 x1
 else
  some (o0.Op == 3)
 partial_fixpoint
abbrev Lj (o0:B0)(res:Bool):Prop:=LM C 22 0 Tryz.f117 [1,0,4] [(1,.ref 0 0)] [.row (B0.cells o0) 26] (Ret [] (.d (.bool res)))
theorem Pq:(∀ o0 res,Q5 o0=some res→Lj o0 res):=by
 refine Q5.partial_correctness _ ?_
 ·intro g0 ih0 o0 res hh
  refine S0.unroll (S' (sg' 8 rfl (G' 5 rfl (a1' rfl (a1' rfl (po' rfl (an' (n' (ci' rfl hh (fun hh=>?_) (fun hh=>?_))))))))))
  ·refine sk' (bk' (S' (p' 2 rfl (qe' rfl trivial (B0.lenA _) (e' rfl (ci' rfl hh (fun hh=>?_) (fun hh=>?_)))))))
   ·cases hh
    exact t' rfl (re' (rt' rfl rfl rfl))
   obtain ⟨x1,hx1,hh⟩:=bs' hh
   exact sk' (P' 2 rfl (i' rfl (J1 hx1) (B0.idx hx1) rfl (q' rfl (E0.s hC rfl (n' (lw' (ih0 _ _ hh) rfl rfl rfl))))))
  cases hh
  exact ex' (t' rfl (re' (rt' rfl rfl rfl)))
theorem Es {o0 res}(hh:Q5 o0=some res):Lj o0 res:=(Pq) _ _ hh
def Ee (e:B0):Option Bool:=
 Q5 e
theorem Tw {e res}(hh:Ee e=some res):K0 C 117 [.agg (B0.cells e)] [] (Ret [] (.d (.bool res))):=by
 unfold Ee at hh
 exact K0.intro hC Tryz.func117 rfl rfl rfl (s' rfl rfl (E0.n hC rfl (e' rfl (S' (bk' (fw' (Es hh) rfl rfl rfl))))))
def D3 (s:Str)(v6:Int):Option Bool:=
 if (decide (v6 < ((s).length:Int)))=true then
  idx s v6>>=fun x1=>
  L6 (x1.toNat:Int)>>=fun x2=>
  (if ((!x2)&&(!(v6 == 0)))=true then idx s v6 else some default)>>=fun x3=>
  (if ((!x2)&&(!(v6 == 0)))=true then C5 (x3.toNat:Int) else some default)>>=fun x4=>
  if (bif (!x2) then (bif (v6 == 0) then true else (!x4)) else false)=true then
   some false
  else
   D3 s (IntKind.i64.wrap (v6+1))
 else
  some (!(s == []))
 partial_fixpoint
abbrev Mj (s:Str)(v6:Int)(res:Bool):Prop:=LM C 28 0 Tryz.f205 [1,0,1,4] [(0,.d (.str s)),(5,.d (.int .i64 ((s).length:Int))),(6,.d (.int .i64 v6))] [] (Ret [] (.d (.bool res)))
theorem Qq (s:Str):(∀ v6 res,D3 s v6=some res→Mj s v6 res):=by
 refine D3.partial_correctness s _ ?_
 ·intro g0 ih0 v6 res hh
  refine S0.unroll (t' rfl (S' (ci' rfl hh (fun hh=>?_) (fun hh=>?_))))
  ·obtain ⟨x1,hx1,hh⟩:=bs' hh
   obtain ⟨x2,hx2,hh⟩:=bs' hh
   obtain ⟨x3,hx3,hh⟩:=bs' hh
   obtain ⟨x4,hx4,hh⟩:=bs' hh
   refine sk' (S' (bk' (t' rfl (sg' 16 rfl (G' 2 rfl (AG.x hC rfl rfl (fun _=>trivial) (fun hw=>⟨J1 hx1,X2 hx1⟩) (AG.c rfl rfl (fun _=>trivial) (fun _=>Bf hx2) (G' 3 rfl (a1' rfl (a1' rfl (G' 2 rfl (AG.x hC rfl rfl (fun hg=>⟨hg,hg,trivial⟩) (fun hw=>⟨J1 (F2 hw hx3),X2 (F2 hw hx3)⟩) (AG.c rfl rfl (fun hg=>⟨hg,trivial⟩) (fun hw=>Yc (F2 hw hx4)) ?_)))))))))))))
   refine a1' rfl (pO' rfl (pa' rfl (an' (n' (ci' rfl hh (fun hh=>?_) (fun hh=>?_))))))
   ·cases hh
    exact t' rfl (re' (rt' rfl rfl rfl))
   exact sk' (T' rfl (lw' (ih0 _ _ hh) rfl rfl rfl))
  cases hh
  exact ex' (t' rfl (re' (rt' rfl rfl rfl)))
theorem Fs {s v6 res}(hh:D3 s v6=some res):Mj s v6 res:=(Qq s) _ _ hh
def Xb (s:Str):Option Bool:=
 D3 s 0
theorem Uw {s res}(hh:Xb s=some res):K0 C 205 [.d (.str s)] [] (Ret [] (.d (.bool res))):=by
 unfold Xb at hh
 exact K0.intro hC Tryz.func205 rfl rfl rfl (t' rfl (S' (t' rfl (bk' (fw' (Fs hh) rfl rfl rfl)))))
def Yb (s:Str):Option Bool:=
 (if (decide (((s).length:Int)≤12))=true then Xb s else some default)>>=fun x1=>
 (if (bif (decide (((s).length:Int)≤12)) then x1 else false)=true then G5 s else some default)>>=fun x2=>
 some (bif (bif (decide (((s).length:Int)≤12)) then x1 else false) then (!x2) else false)
theorem Vw {s res}(hh:Yb s=some res):K0 C 190 [.d (.str s)] [] (Ret [] (.d (.bool res))):=by
 unfold Yb at hh
 obtain ⟨x1,hx1,hh⟩:=bs' hh
 obtain ⟨x2,hx2,hh⟩:=bs' hh
 cases hh
 exact K0.intro hC Tryz.func190 rfl rfl rfl (t' rfl (sg' 13 rfl (G' 5 rfl (AG.c rfl rfl (fun hg=>⟨hg,trivial⟩) (fun hw=>Uw (F2 hw hx1)) (pa' rfl (G' 2 rfl (AG.c rfl rfl (fun hg=>⟨hg,trivial⟩) (fun hw=>Jj (F2 hw hx2)) (a1' rfl (pa' rfl (a0' rfl (an' (n' (re' (rt' rfl rfl rfl))))))))))))))
def D9 (s:Str):Option Bool:=
 Yb s>>=fun x1=>
 some x1
theorem Wu {s res}(hh:D9 s=some res):K0 C 168 [.d (.str s)] [] (Ret [] (.d (.bool res))):=by
 unfold D9 at hh
 obtain ⟨x1,hx1,hh⟩:=bs' hh
 cases hh
 exact K0.intro hC Tryz.func168 rfl rfl rfl (t' rfl (p' 1 rfl (c' (Vw hx1) rfl rfl (e' rfl (re' (rt' rfl rfl rfl))))))
def E3 (s:Str)(syntaxReport:I0):Option I0:=
 (if (!syntaxReport.badName)=true then D9 s else some default)>>=fun x1=>
 some (I0.mk syntaxReport.nodes syntaxReport.depth syntaxReport.badForm (bif syntaxReport.badName then true else (!x1)) syntaxReport.badNumber)
theorem Zb {s syntaxReport res}(hh:E3 s syntaxReport=some res):K0 C 118 [.ref 0 0,.d (.str s)] [.row (I0.cells syntaxReport) 103] (Ret [.row (I0.cells res) 103] (.tup [])):=by
 unfold E3 at hh
 obtain ⟨x1,hx1,hh⟩:=bs' hh
 cases hh
 exact K0.intro hC Tryz.func118 rfl rfl rfl (AEx.regionG 12 rfl (G' 7 rfl (AG.c rfl rfl (fun hg=>⟨hg,trivial⟩) (fun hw=>Wu (F2 hw hx1)) (a1' rfl (po' rfl (G' 2 rfl (an' (E0.s hC rfl (n' (rn' rfl rfl rfl))))))))))
def E6 (n:Int)(low:Int)(high:Int):Option Bool:=
 some (bif (decide (n≥low)) then (decide (n≤high)) else false)
theorem Zc {n low high res}(hh:E6 n low high=some res):K0 C 120 [.d (.int .i64 n),.d (.int .i64 low),.d (.int .i64 high)] [] (Ret [] (.d (.bool res))):=by
 unfold E6 at hh
 cases hh
 exact K0.intro hC Tryz.func120 rfl rfl rfl (t' rfl (sg' 9 rfl (G' 6 rfl (a2' rfl (pa' rfl (a0' rfl (an' (n' (re' (rt' rfl rfl rfl))))))))))
def O2 (ok:Bool)(syntaxReport:I0):Option I0:=
 some (I0.mk syntaxReport.nodes syntaxReport.depth syntaxReport.badForm syntaxReport.badName (bif syntaxReport.badNumber then true else (!ok)))
theorem P7 {ok syntaxReport res}(hh:O2 ok syntaxReport=some res):K0 C 119 [.ref 0 0,.d (.bool ok)] [.row (I0.cells syntaxReport) 103] (Ret [.row (I0.cells res) 103] (.tup [])):=by
 unfold O2 at hh
 cases hh
 exact K0.intro hC Tryz.func119 rfl rfl rfl (AEx.regionG 11 rfl (G' 7 rfl (a1' rfl (po' rfl (G' 2 rfl (an' (E0.s hC rfl (n' (rn' rfl rfl rfl)))))))))
mutual
def Z3 (e:B0)(depth:Int)(syntaxReport:I0):Option I0:=
 W4 depth (I0.mk (IntKind.i64.wrap (syntaxReport.nodes+1)) syntaxReport.depth syntaxReport.badForm syntaxReport.badName syntaxReport.badNumber)>>=fun x1=>
 De e.Op>>=fun x2=>
 O1 (x2 == ((e.Kids).length:Int)) x1>>=fun x3=>
 O1 (bif (e.NV == 0) then true else (e.Op == 0)) x3>>=fun x4=>
 O1 (bif (e.Name == []) then true else (bif (e.Op == 3) then true else (e.Op == 4))) x4>>=fun x5=>
 if (bif (e.Op == 4) then true else (e.Op == 5))=true then
  Ee e>>=fun x6=>
  O1 x6 x5>>=fun x7=>
  M6 e depth x7
 else
  M6 e depth x5
 partial_fixpoint
def M6 (e:B0)(depth:Int)(o0:I0):Option I0:=
 if (bif (e.Op == 3) then true else (e.Op == 4))=true then
  E3 e.Name o0>>=fun x8=>
  N6 e depth x8
 else
  N6 e depth o0
 partial_fixpoint
def N6 (e:B0)(depth:Int)(o01:I0):Option I0:=
 if (e.Op == 0)=true then
  E6 e.NV 0 1048576>>=fun x9=>
  O2 x9 o01>>=fun x10=>
  O6 e depth x10
 else
  O6 e depth o01
 partial_fixpoint
def O6 (e:B0)(depth:Int)(o02:I0):Option I0:=
 P6 e depth o02 0
 partial_fixpoint
def P6 (e:B0)(depth:Int)(o03:I0)(v82:Int):Option I0:=
 if (decide (v82 < ((e.Kids).length:Int)))=true then
  idx e.Kids v82>>=fun x11=>
  Z3 x11 (IntKind.i64.wrap (depth+1)) o03>>=fun x12=>
  P6 e depth x12 (IntKind.i64.wrap (v82+1))
 else
  some o03
 partial_fixpoint
end
abbrev Pg (e:B0)(depth:Int)(syntaxReport:I0)(res:I0):Prop:=K0 C 63 [.ref 0 0,.agg (B0.cells e),.d (.int .i64 depth)] [.row (I0.cells syntaxReport) 103] (Ret [.row (I0.cells res) 103] (.tup []))
abbrev Ul (e:B0)(depth:Int)(o0:I0)(res:I0):Prop:=JM C 92 1 Tryz.f63 [1,1,1,1,1,1,1,1] [(0,.ref 0 0),(2,.d (.int .i64 depth)),(4,.ref 1 0),(6,.d (.bool (bif (e.Op == 3) then true else (e.Op == 4))))] [.row (I0.cells o0) 103,.row (B0.cells e) 26] (Ret [.row (I0.cells res) 103] (.tup []))
abbrev Vl (e:B0)(depth:Int)(o01:I0)(res:I0):Prop:=JM C 92 1 Tryz.f63 [1,1,1,1,1,1,1,1,1] [(0,.ref 0 0),(2,.d (.int .i64 depth)),(4,.ref 1 0)] [.row (I0.cells o01) 103,.row (B0.cells e) 26] (Ret [.row (I0.cells res) 103] (.tup []))
abbrev Wl (e:B0)(depth:Int)(o02:I0)(res:I0):Prop:=JM C 92 1 Tryz.f63 [1,1,1,1,1,1,1,1,1,1] [(0,.ref 0 0),(2,.d (.int .i64 depth)),(4,.ref 1 0)] [.row (I0.cells o02) 103,.row (B0.cells e) 26] (Ret [.row (I0.cells res) 103] (.tup []))
abbrev Xl (e:B0)(depth:Int)(o03:I0)(v82:Int)(res:I0):Prop:=LM C 92 1 Tryz.f63 [1,1,1,1,1,1,1,1,1,1,1,4] [(0,.ref 0 0),(2,.d (.int .i64 depth)),(80,.d (.sl (B0.rows e.Kids))),(81,.d (.int .i64 ((e.Kids).length:Int))),(82,.d (.int .i64 v82))] [.row (I0.cells o03) 103] (Ret [.row (I0.cells res) 103] (.tup []))
theorem Sm:(∀ e depth syntaxReport res,Z3 e depth syntaxReport=some res→Pg e depth syntaxReport res)∧(∀ e depth o0 res,M6 e depth o0=some res→Ul e depth o0 res)∧(∀ e depth o01 res,N6 e depth o01=some res→Vl e depth o01 res)∧(∀ e depth o02 res,O6 e depth o02=some res→Wl e depth o02 res)∧(∀ e depth o03 v82 res,P6 e depth o03 v82=some res→Xl e depth o03 v82 res):=by
 refine Z3.mutual_partial_correctness _ _ _ _ _ ?_ ?_ ?_ ?_ ?_
 ·intro g1 ih1 e depth syntaxReport res hh
  obtain ⟨x1,hx1,hh⟩:=bs' hh
  obtain ⟨x2,hx2,hh⟩:=bs' hh
  obtain ⟨x3,hx3,hh⟩:=bs' hh
  obtain ⟨x4,hx4,hh⟩:=bs' hh
  obtain ⟨x5,hx5,hh⟩:=bs' hh
  refine K0.intro hC Tryz.func63 rfl rfl rfl (s' rfl rfl (E0.n hC rfl (n' (p' 7 rfl (E0.s hC rfl (n' (p' 2 rfl (g' [0] (Ag hx1) rfl rfl rfl rfl rfl rfl (n' (S' (AEx.draw hC 8 rfl rfl rfl (O' 3 rfl (Qc' (Sw hx2) rfl rfl ?_)))))))))))))
  refine O' 2 rfl (AQ.qe hC rfl trivial (B0.lenA _) (E' rfl (g' [0] (Z1 hx3) rfl rfl rfl rfl rfl rfl (n' (sg' 9 rfl (G' 6 rfl (a1' rfl (a1' rfl (po' rfl (an' (g' [0] (Z1 hx4) rfl rfl rfl rfl rfl rfl (n' (sg' 9 rfl ?_)))))))))))))
  refine G' 5 rfl (a1' rfl (a1' rfl (po' rfl (a0' rfl (an' (n' (sg' 7 rfl (G' 6 rfl (po' rfl (an' (g' [0] (Z1 hx5) rfl rfl rfl rfl rfl rfl (n' (S' ?_)))))))))))))
  refine sg' 8 rfl (G' 5 rfl (a1' rfl (a1' rfl (po' rfl (an' (n' (ci' rfl hh (fun hh=>?_) (fun hh=>?_))))))))
  ·obtain ⟨x6,hx6,hh⟩:=bs' hh
   obtain ⟨x7,hx7,hh⟩:=bs' hh
   exact P' 2 rfl (c' (Tw hx6) rfl rfl (g' [0] (Z1 hx7) rfl rfl rfl rfl rfl rfl (n' (ew' (ih1 _ _ _ _ hh) rfl rfl rfl))))
  exact sk' (ew' (ih1 _ _ _ _ hh) rfl rfl rfl)
 ·intro g2 ih2 e depth o0 res hh
  refine S' (t' rfl (ci' rfl hh (fun hh=>?_) (fun hh=>?_)))
  ·obtain ⟨x8,hx8,hh⟩:=bs' hh
   exact P' 3 rfl (g' [0] (Zb hx8) rfl rfl rfl rfl rfl rfl (n' (ew' (ih2 _ _ _ _ hh) rfl rfl rfl)))
  exact sk' (ew' (ih2 _ _ _ _ hh) rfl rfl rfl)
 ·intro g3 ih3 e depth o01 res hh
  refine S' (t' rfl (ci' rfl hh (fun hh=>?_) (fun hh=>?_)))
  ·obtain ⟨x9,hx9,hh⟩:=bs' hh
   obtain ⟨x10,hx10,hh⟩:=bs' hh
   exact P' 3 rfl (c' (Zc hx9) rfl rfl (g' [0] (P7 hx10) rfl rfl rfl rfl rfl rfl (n' (ew' (ih3 _ _ _ _ hh) rfl rfl rfl))))
  exact sk' (ew' (ih3 _ _ _ _ hh) rfl rfl rfl)
 ·intro g4 ih4 e depth o02 res hh
  exact p' 2 rfl (qe' rfl trivial (B0.lenA _) (e' rfl (bk' (fw' (ih4 _ _ _ _ _ hh) rfl rfl rfl))))
 ·intro g0 g4 ih0 ih4 e depth o03 v82 res hh
  refine S0.unroll (t' rfl (S' (ci' rfl hh (fun hh=>?_) (fun hh=>?_))))
  ·obtain ⟨x11,hx11,hh⟩:=bs' hh
   obtain ⟨x12,hx12,hh⟩:=bs' hh
   exact sk' (S' (bk' (s' rfl rfl (i' rfl (J1 hx11) (B0.idx hx11) rfl (q' rfl (E0.nf hC rfl (E0.s hC rfl (n' (P' 4 rfl (g' [0] (ih0 _ _ _ _ hx12) rfl rfl rfl rfl rfl rfl (n' (T' rfl (lw' (ih4 _ _ _ _ _ hh) rfl rfl rfl)))))))))))))
  cases hh
  exact ex' (rn' rfl rfl rfl)
theorem Fo {e depth syntaxReport res}(hh:Z3 e depth syntaxReport=some res):Pg e depth syntaxReport res:=(Sm).1 _ _ _ _ hh
def A4 (syntaxReport:I0):Option Int:=
 if (bif (decide (syntaxReport.nodes > 1024)) then true else (decide (syntaxReport.depth > 12)))=true then
  some 4
 else
  if syntaxReport.badForm=true then
   some 1
  else
   if syntaxReport.badName=true then
    some 7
   else
    if syntaxReport.badNumber=true then
     some 3
    else
     some 0
theorem Bg {syntaxReport res}(hh:A4 syntaxReport=some res):K0 C 64 [.ref 0 0] [.row (I0.cells syntaxReport) 103] (Ret [.row (I0.cells syntaxReport) 103] (.d (.int .i64 res))):=by
 unfold A4 at hh
 refine K0.intro hC Tryz.func64 rfl rfl rfl (t' rfl (S' (bk' (sg' 13 rfl (G' 7 rfl (a1' rfl (a1' rfl (a1' rfl (a1' rfl (po' rfl (a0' rfl (an' (n' (ci' rfl hh (fun hh=>?_) (fun hh=>?_)))))))))))))))
 ·cases hh
  exact t' rfl (re' (rt' rfl rfl rfl))
 refine t' rfl (ci' rfl hh (fun hh=>?_) (fun hh=>?_))
 ·cases hh
  exact t' rfl (re' (rt' rfl rfl rfl))
 refine t' rfl (ci' rfl hh (fun hh=>?_) (fun hh=>?_))
 ·cases hh
  exact t' rfl (re' (rt' rfl rfl rfl))
 refine t' rfl (ci' rfl hh (fun hh=>?_) (fun hh=>?_))
 ·cases hh
  exact t' rfl (re' (rt' rfl rfl rfl))
 cases hh
 exact sk' (t' rfl (re' (rt' rfl rfl rfl)))
def Ca (e:B0):Option Int:=
 Z3 e 1 (I0.mk 0 0 false false false)>>=fun x1=>
 A4 x1>>=fun x2=>
 some x2
theorem Rq {e res}(hh:Ca e=some res):K0 C 31 [.agg (B0.cells e)] [] (Ret [] (.d (.int .i64 res))):=by
 unfold Ca at hh
 obtain ⟨x1,hx1,hh⟩:=bs' hh
 obtain ⟨x2,hx2,hh⟩:=bs' hh
 cases hh
 exact K0.intro hC Tryz.func31 rfl rfl rfl (s' rfl rfl (E0.n hC rfl (e' rfl (p' 1 rfl (E0.n hC rfl (e' rfl (p' 2 rfl (g' [1] (Fo hx1) rfl rfl rfl rfl rfl rfl (n' (p' 1 rfl (g' [1] (Bg hx2) rfl rfl rfl rfl rfl rfl (e' rfl (re' (rt' rfl rfl rfl))))))))))))))
def C8 (text:Str):Option (B0×Int×Int):=
 Gf text (B0.mk 0 0 [] [])>>=fun x1=>
 if (x1.2.1 != 0)=true then
  some ((B0.mk 0 0 [] []),x1.1,x1.2.1)
 else
  Ca x1.2.2>>=fun x2=>
  if (x2 != 0)=true then
   some ((B0.mk 0 0 [] []),0,x2)
  else
   some (x1.2.2,0,0)
theorem Yg {text res}(hh:C8 text=some res):K0 C 11 [.d (.str text)] [] (Ret [] (.tup [.agg (B0.cells res.1),.d (.int .i64 res.2.1),.d (.int .i64 res.2.2)])):=by
 unfold C8 at hh
 obtain ⟨x1,hx1,hh⟩:=bs' hh
 refine K0.intro hC Tryz.func11 rfl rfl rfl (s' rfl rfl (E0.nf hC rfl (e' rfl (s' rfl rfl (E0.nf hC rfl (n' (p' 2 rfl (g' [1] (Gy hx1) rfl rfl rfl rfl rfl rfl (e' rfl (S' (t' rfl (ci' rfl hh (fun hh=>?_) (fun hh=>?_)))))))))))))
 ·cases hh
  exact p' 3 rfl (E0.s hC rfl (e' rfl (re' (rt' rfl rfl rfl))))
 obtain ⟨x2,hx2,hh⟩:=bs' hh
 refine sk' (S' (p' 1 rfl (c' (Rq hx2) rfl rfl (e' rfl (t' rfl (ci' rfl hh (fun hh=>?_) (fun hh=>?_)))))))
 ·cases hh
  exact p' 2 rfl (E0.s hC rfl (e' rfl (re' (rt' rfl rfl rfl))))
 cases hh
 exact sk' (p' 1 rfl (E0.s hC rfl (e' rfl (re' (rt' rfl rfl rfl)))))
def Ad (s:Str):Option B0:=
 some (B0.mk 3 0 s [])
theorem Fj {s res}(hh:Ad s=some res):K0 C 27 [.d (.str s)] [] (Ret [] (.agg (B0.cells res))):=by
 unfold Ad at hh
 cases hh
 exact K0.intro hC Tryz.func27 rfl rfl rfl (s' rfl rfl (E0.nf hC rfl (n' (p' 2 rfl (E0.s hC rfl (n' (re' (rt' rfl rfl rfl))))))))
mutual
def R5 (a:B0)(b:B0):Option Bool:=
 if (bif (bif (bif (a.Op != b.Op) then true else (a.NV != b.NV)) then true else (!(a.Name == b.Name))) then true else (((a.Kids).length:Int) != ((b.Kids).length:Int)))=true then
  some false
 else
  S8 a b 0
 partial_fixpoint
def S8 (a:B0)(b:B0)(i:Int):Option Bool:=
 if (decide (i < ((a.Kids).length:Int)))=true then
  idx a.Kids i>>=fun x1=>
  idx b.Kids i>>=fun x2=>
  R5 x1 x2>>=fun x3=>
  if (!x3)=true then
   some false
  else
   S8 a b (IntKind.i64.wrap (i+1))
 else
  some true
 partial_fixpoint
end
abbrev Nj (a:B0)(b:B0)(res:Bool):Prop:=K0 C 13 [.agg (B0.cells a),.agg (B0.cells b)] [] (Ret [] (.d (.bool res)))
abbrev Pp (a:B0)(b:B0)(i:Int)(res:Bool):Prop:=LM C 53 0 Tryz.f13 [1,1,0,1,4] [(2,.ref 0 0),(3,.ref 1 0),(5,.d (.int .i64 i))] [.row (B0.cells a) 26,.row (B0.cells b) 26] (Ret [] (.d (.bool res)))
theorem Sq:(∀ a b res,R5 a b=some res→Nj a b res)∧(∀ a b i res,S8 a b i=some res→Pp a b i res):=by
 refine R5.mutual_partial_correctness _ _ ?_ ?_
 ·intro g1 ih1 a b res hh
  refine K0.intro hC Tryz.func13 rfl rfl rfl (s' rfl rfl (E0.n hC rfl (E0.n hC rfl (e' rfl (S' (sg' 28 rfl (G' 7 rfl (a1' rfl (a0' rfl (a1' rfl (a2' rfl (po' rfl (G' 2 rfl ?_)))))))))))))
  refine a1' rfl (a0' rfl (a1' rfl (a2' rfl (po' rfl (G' 2 rfl (a1' rfl (AG.qe hC rfl (fun hg=>⟨⟨hg,trivial⟩,trivial⟩) (B0.lenA _) (a0' rfl (a1' rfl (AG.qe hC rfl (fun hg=>⟨⟨hg,trivial⟩,trivial⟩) (B0.lenA _) (a2' rfl (po' rfl (an' ?_)))))))))))))
  refine n' (ci' rfl hh (fun hh=>?_) (fun hh=>?_))
  ·cases hh
   exact t' rfl (re' (rt' rfl rfl rfl))
  exact sk' (S' (t' rfl (bk' (fw' (ih1 _ _ _ _ hh) rfl rfl rfl))))
 ·intro g0 g1 ih0 ih1 a b i res hh
  refine S0.unroll (S' (p' 3 rfl (qe' rfl trivial (B0.lenA _) (e' rfl (ci' rfl hh (fun hh=>?_) (fun hh=>?_))))))
  ·obtain ⟨x1,hx1,hh⟩:=bs' hh
   obtain ⟨x2,hx2,hh⟩:=bs' hh
   obtain ⟨x3,hx3,hh⟩:=bs' hh
   refine sk' (S' (bk' (S' (AEx.draw hC 12 rfl rfl rfl (O' 3 rfl (AQ.i hC rfl (J1 hx1) (B0.idx hx1) rfl (O' 4 rfl (AQ.i hC rfl (J1 hx2) (B0.idx hx2) rfl (Q' rfl (Qc' (ih0 _ _ _ hx3) rfl rfl (E' rfl (n' (ci' rfl hh (fun hh=>?_) (fun hh=>?_))))))))))))))
   ·cases hh
    exact t' rfl (re' (rt' rfl rfl rfl))
   exact sk' (T' rfl (lw' (ih1 _ _ _ _ hh) rfl rfl rfl))
  cases hh
  exact ex' (t' rfl (re' (rt' rfl rfl rfl)))
theorem Gs {a b res}(hh:R5 a b=some res):Nj a b res:=(Sq).1 _ _ _ hh
def Jb:Option Bool:=
 C8 [97,32,45,32,98,32,45,32,99,91,49,93,46,100]>>=fun x1=>
 Ad [99]>>=fun x2=>
 Ad [97]>>=fun x3=>
 Ad [98]>>=fun x4=>
 C8 [97,32,61,61,32,98,32,61,61,32,99]>>=fun x5=>
 (if (x1.2.2 == 0)=true then R5 x1.1 (B0.mk 9 0 [] [(B0.mk 9 0 [] [x3,x4]),(B0.mk 4 0 [100] [(B0.mk 5 0 [] [x2,(B0.mk 0 1 [] [])])])]) else some default)>>=fun x6=>
 some (bif (bif (bif (x1.2.2 == 0) then x6 else false) then (x5.2.2 == 6) else false) then (x5.2.1 == 7) else false)
theorem Hy {res}(hh:Jb=some res):K0 C 10 [] [] (Ret [] (.d (.bool res))):=by
 unfold Jb at hh
 obtain ⟨x1,hx1,hh⟩:=bs' hh
 obtain ⟨x2,hx2,hh⟩:=bs' hh
 obtain ⟨x3,hx3,hh⟩:=bs' hh
 obtain ⟨x4,hx4,hh⟩:=bs' hh
 obtain ⟨x5,hx5,hh⟩:=bs' hh
 obtain ⟨x6,hx6,hh⟩:=bs' hh
 cases hh
 refine K0.intro hC Tryz.func10 rfl rfl rfl (t' rfl (s' rfl rfl (c' (Yg hx1) rfl rfl (o' 4 rfl (E0.nf hC rfl (E0.s hC rfl (e' rfl (s' rfl rfl (c' (Fj hx2) rfl rfl (q' rfl (E0.be hC rfl (B0.rows_map [x2,(B0.mk 0 1 [] [])]).symm (q' rfl (E0.be hC rfl (B0.rows_map [(B0.mk 5 0 [] [x2,(B0.mk 0 1 [] [])])]).symm ?_)))))))))))))
 refine q' rfl (E0.nf hC rfl (E0.s hC rfl (n' (S' (AEx.drawL hC 8 [] [(7,2)] [[.row (B0.cells x1.1) 26,.row [.d (.int .i64 4),.d (.int .i64 0),.d (.str [100]),.full (B0.rows [(B0.mk 5 0 [] [x2,(B0.mk 0 1 [] [])])])] 26,.row [.d (.int .i64 0),.d (.int .i64 0),.d (.str []),.full (B0.rows [])] 26]] rfl rfl rfl rfl rfl rfl rfl rfl rfl rfl (AS.c (Fj hx3) rfl rfl rfl rfl ?_))))))
 refine AS.c (Fj hx4) rfl rfl rfl rfl (AS.a rfl (fun H=>AQ.be hC rfl (B0.rows_map [x3,x4]).symm (AQ.nil rfl)) rfl rfl (AS.q hC rfl rfl rfl rfl (AS.q hC rfl rfl rfl rfl (AS.a rfl (fun H=>AQ.be hC rfl (B0.rows_map [(B0.mk 9 0 [] [x3,x4]),(B0.mk 4 0 [100] [(B0.mk 5 0 [] [x2,(B0.mk 0 1 [] [])])])]).symm (AQ.nil rfl)) rfl rfl (AS.q hC rfl rfl rfl rfl ?_)))))
 refine AS.n hC rfl rfl rfl rfl (AS.nil (E0.s hC rfl (n' (s' rfl rfl (c' (Yg hx5) rfl rfl (o' 4 rfl (E0.nf hC rfl (E0.s hC rfl (e' rfl (sg' 16 rfl (G' 5 rfl (AG.cl rfl (fun hw=>Gs (F2 hw hx6)) ⟨.rfl,(.aggL ⟨.rfl,.rfl,.rfl,.full,trivial⟩),trivial⟩ rfl (fun hg=>⟨hg,hg,trivial⟩) (pa' rfl ?_)))))))))))))
 exact G' 2 rfl (a1' rfl (pa' rfl (G' 2 rfl (a1' rfl (pa' rfl (a0' rfl (an' (n' (re' (rt' rfl rfl rfl))))))))))
mutual
def T3 (s:Str)(atV1:Int):Option Int:=
 if (decide (atV1 < ((s).length:Int)))=true then
  idx s atV1>>=fun x1=>
  if ((x1.toNat:Int) == 35)=true then
   Q6 s atV1
  else
   idx s atV1>>=fun x2=>
   (if (!((x2.toNat:Int) == 32))=true then idx s atV1 else some default)>>=fun x3=>
   (if (!(bif ((x2.toNat:Int) == 32) then true else ((x3.toNat:Int) == 9)))=true then idx s atV1 else some default)>>=fun x4=>
   if (bif (bif ((x2.toNat:Int) == 32) then true else ((x3.toNat:Int) == 9)) then true else ((x4.toNat:Int) == 10))=true then
    T3 s (IntKind.i64.wrap (atV1+1))
   else
    some atV1
 else
  some atV1
 partial_fixpoint
def Q6 (s:Str)(atV2:Int):Option Int:=
 (if (decide (atV2 < ((s).length:Int)))=true then idx s atV2 else some default)>>=fun x5=>
 if (bif (decide (atV2 < ((s).length:Int))) then ((x5.toNat:Int) != 10) else false)=true then
  Q6 s (IntKind.i64.wrap (atV2+1))
 else
  T3 s atV2
 partial_fixpoint
end
abbrev Bl (s:Str)(atV1:Int)(res:Int):Prop:=LM C 45 0 Tryz.f55 [1,0,4] [(0,.d (.str s)),(1,.d (.int .i64 atV1))] [] (Ret [] (.d (.int .i64 res)))
abbrev Xu (s:Str)(atV2:Int)(res:Int):Prop:=LM C 45 0 Tryz.f55 [1,0,4,5,1,4,1,2,4] [(0,.d (.str s)),(1,.d (.int .i64 atV2))] [] (Ret [] (.d (.int .i64 res)))
theorem Is (s:Str):(∀ atV1 res,T3 s atV1=some res→Bl s atV1 res)∧(∀ atV2 res,Q6 s atV2=some res→Xu s atV2 res):=by
 refine T3.mutual_partial_correctness s _ _ ?_ ?_
 ·intro g0 g1 ih0 ih1 atV1 res hh
  refine S0.unroll (S' (t' rfl (ci' rfl hh (fun hh=>?_) (fun hh=>?_))))
  ·obtain ⟨x1,hx1,hh⟩:=bs' hh
   refine sk' (bk' (p' 2 rfl (x' rfl (J1 hx1) (X2 hx1) (e' rfl (ci' rfl hh (fun hh=>?_) (fun hh=>?_))))))
   ·exact bk' (fw' (ih1 _ _ hh) rfl rfl rfl)
   obtain ⟨x2,hx2,hh⟩:=bs' hh
   obtain ⟨x3,hx3,hh⟩:=bs' hh
   obtain ⟨x4,hx4,hh⟩:=bs' hh
   refine sg' 16 rfl (G' 2 rfl (AG.x hC rfl rfl (fun _=>trivial) (fun hw=>⟨J1 hx2,X2 hx2⟩) (G' 4 rfl (AG.x hC rfl rfl (fun hg=>⟨hg,hg,trivial⟩) (fun hw=>⟨J1 (F2 hw hx3),X2 (F2 hw hx3)⟩) (a1' rfl (po' rfl (G' 3 rfl (AG.x hC rfl rfl (fun hg=>⟨hg,hg,trivial⟩) (fun hw=>⟨J1 (F2 hw hx4),X2 (F2 hw hx4)⟩) (a1' rfl (po' rfl (an' (n' (ci' rfl hh (fun hh=>?_) (fun hh=>?_))))))))))))))
   ·exact T' rfl (lw' (ih0 _ _ hh) rfl rfl rfl)
   cases hh
   exact t' rfl (re' (rt' rfl rfl rfl))
  cases hh
  exact ex' (t' rfl (re' (rt' rfl rfl rfl)))
 ·intro g0 g1 ih0 ih1 atV2 res hh
  obtain ⟨x5,hx5,hh⟩:=bs' hh
  refine S0.unroll (S' (sg' 10 rfl (G' 7 rfl (AG.x hC rfl rfl (fun hg=>⟨hg,hg,trivial⟩) (fun hw=>⟨J1 (F2 hw hx5),X2 (F2 hw hx5)⟩) (a1' rfl (pa' rfl (an' (n' (ci' rfl hh (fun hh=>?_) (fun hh=>?_))))))))))
  ·exact sk' (bk' (T' rfl (lw' (ih1 _ _ hh) rfl rfl rfl)))
  exact ex' (lw' (ih0 _ _ hh) rfl rfl rfl)
theorem Rt {s atV1 res}(hh:T3 s atV1=some res):Bl s atV1 res:=(Is s).1 _ _ hh
def Pd (s:Str)(atV:Int):Option Int:=
 T3 s atV
theorem Ho {s atV res}(hh:Pd s atV=some res):K0 C 55 [.d (.str s),.d (.int .i64 atV)] [] (Ret [] (.d (.int .i64 res))):=by
 unfold Pd at hh
 exact K0.intro hC Tryz.func55 rfl rfl rfl (t' rfl (S' (bk' (fw' (Rt hh) rfl rfl rfl))))
def Da (c:Int):Option Bool:=
 some (bif (decide (c≥97)) then (decide (c≤122)) else false)
theorem Wd {c res}(hh:Da c=some res):K0 C 104 [.d (.int .u8 c)] [] (Ret [] (.d (.bool res))):=by
 unfold Da at hh
 cases hh
 exact K0.intro hC Tryz.func104 rfl rfl rfl (t' rfl (sg' 7 rfl (G' 4 rfl (a1' rfl (pa' rfl (a0' rfl (an' (n' (re' (rt' rfl rfl rfl))))))))))
def Qd (c:Int):Option Bool:=
 some (bif (decide (c≥48)) then (decide (c≤57)) else false)
theorem Oh {c res}(hh:Qd c=some res):K0 C 106 [.d (.int .u8 c)] [] (Ret [] (.d (.bool res))):=by
 unfold Qd at hh
 cases hh
 exact K0.intro hC Tryz.func106 rfl rfl rfl (t' rfl (sg' 7 rfl (G' 4 rfl (a1' rfl (pa' rfl (a0' rfl (an' (n' (re' (rt' rfl rfl rfl))))))))))
def T8 (s:Str)(atV1:Int):Option Int:=
 (if (decide (atV1 < ((s).length:Int)))=true then idx s atV1 else some default)>>=fun x1=>
 (if (decide (atV1 < ((s).length:Int)))=true then Da (x1.toNat:Int) else some default)>>=fun x2=>
 (if ((decide (atV1 < ((s).length:Int)))&&(!x2))=true then idx s atV1 else some default)>>=fun x3=>
 (if ((decide (atV1 < ((s).length:Int)))&&(!x2))=true then Qd (x3.toNat:Int) else some default)>>=fun x4=>
 if (bif (decide (atV1 < ((s).length:Int))) then (bif x2 then true else x4) else false)=true then
  T8 s (IntKind.i64.wrap (atV1+1))
 else
  some atV1
 partial_fixpoint
abbrev Io (s:Str)(atV1:Int)(res:Int):Prop:=LM C 24 0 Tryz.f103 [1,0,4] [(0,.d (.str s)),(1,.d (.int .i64 atV1))] [] (Ret [] (.d (.int .i64 res)))
theorem Yu (s:Str):(∀ atV1 res,T8 s atV1=some res→Io s atV1 res):=by
 refine T8.partial_correctness s _ ?_
 ·intro g0 ih0 atV1 res hh
  obtain ⟨x1,hx1,hh⟩:=bs' hh
  obtain ⟨x2,hx2,hh⟩:=bs' hh
  obtain ⟨x3,hx3,hh⟩:=bs' hh
  obtain ⟨x4,hx4,hh⟩:=bs' hh
  refine S0.unroll (S' (sg' 16 rfl (G' 7 rfl (AG.x hC rfl rfl (fun hg=>⟨hg,hg,trivial⟩) (fun hw=>⟨J1 (F2 hw hx1),X2 (F2 hw hx1)⟩) (AG.c rfl rfl (fun hg=>⟨hg,trivial⟩) (fun hw=>Wd (F2 hw hx2)) (a1' rfl (G' 2 rfl (AG.x hC rfl rfl (fun hg=>⟨hg,hg,trivial⟩) (fun hw=>⟨J1 (F2 hw hx3),X2 (F2 hw hx3)⟩) ?_))))))))
  refine AG.c rfl rfl (fun hg=>⟨hg,trivial⟩) (fun hw=>Oh (F2 hw hx4)) (pO' rfl (pa' rfl (an' (n' (ci' rfl hh (fun hh=>?_) (fun hh=>?_))))))
  ·exact sk' (bk' (T' rfl (lw' (ih0 _ _ hh) rfl rfl rfl)))
  cases hh
  exact ex' (t' rfl (re' (rt' rfl rfl rfl)))
theorem Ww {s atV1 res}(hh:T8 s atV1=some res):Io s atV1 res:=(Yu s) _ _ hh
def Fe (s:Str)(atV:Int):Option Int:=
 T8 s atV
theorem Js {s atV res}(hh:Fe s atV=some res):K0 C 103 [.d (.str s),.d (.int .i64 atV)] [] (Ret [] (.d (.int .i64 res))):=by
 unfold Fe at hh
 exact K0.intro hC Tryz.func103 rfl rfl rfl (t' rfl (S' (bk' (fw' (Ww hh) rfl rfl rfl))))
def H4 (s:Str)(i1:Int):Option Bool:=
 if (decide ((IntKind.i64.wrap ((IntKind.i64.wrap (i1+((s).length:Int)))+2))≤162))=true then
  slc [32,116,121,112,101,32,115,101,99,114,101,116,32,112,117,98,108,105,99,32,114,97,110,100,111,109,32,118,97,114,32,104,97,116,99,104,32,102,117,110,99,32,114,101,116,117,114,110,32,98,101,103,105,110,32,101,110,100,32,98,111,111,108,32,105,110,116,32,97,114,114,97,121,32,111,102,32,114,101,99,111,114,100,32,116,114,117,101,32,102,97,108,115,101,32,99,97,108,108,32,114,101,108,101,97,115,101,32,111,117,116,112,117,116,32,119,97,105,116,32,105,102,32,101,108,115,101,32,119,104,105,108,101,32,108,105,109,105,116,32,102,111,114,32,116,111,32,115,101,116,116,108,101,32,109,105,110,32,109,97,120,32] i1 (IntKind.i64.wrap ((IntKind.i64.wrap (i1+((s).length:Int)))+2))>>=fun x3=>
  if (decide (1+s.length≤maxLen))=true then
   if (decide (([32]++s).length+1≤maxLen))=true then
    if (x3 == (([32]++s)++[32]))=true then
     some true
    else
     H4 s (IntKind.i64.wrap (i1+1))
   else none
  else none
 else
  some false
 partial_fixpoint
abbrev Zg (s:Str)(i1:Int)(res:Bool):Prop:=LM C 38 0 Tryz.f105 [1,1,1,0,1,4] [(0,.d (.str s)),(4,.d (.int .i64 i1))] [] (Ret [] (.d (.bool res)))
theorem Jo (s:Str):(∀ i1 res,H4 s i1=some res→Zg s i1 res):=by
 refine H4.partial_correctness s _ ?_
 ·intro g0 ih0 i1 res hh
  refine S0.unroll (S' (t' rfl (ci' rfl hh (fun hh=>?_) (fun hh=>?_))))
  ·obtain ⟨x3,hx3,hh⟩:=bs' hh
   obtain ⟨c9,hh⟩:=T9 hh
   obtain ⟨c10,hh⟩:=T9 hh
   refine sk' (S' (bk' (p' 6 rfl (E0.lx hC rfl hx3 (q' rfl (qc' rfl c9 (qc' rfl c10 (e' rfl (ci' rfl hh (fun hh=>?_) (fun hh=>?_))))))))))
   ·cases hh
    exact t' rfl (re' (rt' rfl rfl rfl))
   exact sk' (T' rfl (lw' (ih0 _ _ hh) rfl rfl rfl))
  cases hh
  exact ex' (t' rfl (re' (rt' rfl rfl rfl)))
theorem Qp {s i1 res}(hh:H4 s i1=some res):Zg s i1 res:=(Jo s) _ _ hh
def I4 (s:Str)(i:Int):Option Bool:=
 if (decide (i < ((s).length:Int)))=true then
  idx s i>>=fun x1=>
  Da (x1.toNat:Int)>>=fun x2=>
  if (!x2)=true then
   some false
  else
   I4 s (IntKind.i64.wrap (i+1))
 else
  H4 s 0
 partial_fixpoint
abbrev Ah (s:Str)(i:Int)(res:Bool):Prop:=LM C 38 0 Tryz.f105 [1,1,0,1,4] [(0,.d (.str s)),(3,.d (.int .i64 i))] [] (Ret [] (.d (.bool res)))
theorem Ko (s:Str):(∀ i res,I4 s i=some res→Ah s i res):=by
 refine I4.partial_correctness s _ ?_
 ·intro g0 ih0 i res hh
  refine S0.unroll (S' (t' rfl (ci' rfl hh (fun hh=>?_) (fun hh=>?_))))
  ·obtain ⟨x1,hx1,hh⟩:=bs' hh
   obtain ⟨x2,hx2,hh⟩:=bs' hh
   refine sk' (S' (bk' (p' 2 rfl (x' rfl (J1 hx1) (X2 hx1) (c' (Wd hx2) rfl rfl (e' rfl (ci' rfl hh (fun hh=>?_) (fun hh=>?_))))))))
   ·cases hh
    exact t' rfl (re' (rt' rfl rfl rfl))
   exact sk' (T' rfl (lw' (ih0 _ _ hh) rfl rfl rfl))
  exact ex' (S' (t' rfl (bk' (fw' (Qp hh) rfl rfl rfl))))
theorem Rp {s i res}(hh:I4 s i=some res):Ah s i res:=(Ko s) _ _ hh
def V9 (s:Str):Option Bool:=
 if (((s).length:Int) == 0)=true then
  some false
 else
  I4 s 0
theorem Oj {s res}(hh:V9 s=some res):K0 C 105 [.d (.str s)] [] (Ret [] (.d (.bool res))):=by
 unfold V9 at hh
 refine K0.intro hC Tryz.func105 rfl rfl rfl (t' rfl (S' (t' rfl (ci' rfl hh (fun hh=>?_) (fun hh=>?_)))))
 ·cases hh
  exact t' rfl (re' (rt' rfl rfl rfl))
 exact sk' (S' (t' rfl (bk' (fw' (Rp hh) rfl rfl rfl))))
def V3 (s:Str)(n:Int)(i1:Int):Option Int:=
 if (decide (i1 < ((s).length:Int)))=true then
  idx s i1>>=fun x4=>
  if (decide ((IntKind.i64.wrap ((IntKind.i64.wrap (n * 10))+(IntKind.i64.wrap (IntKind.u8.wrap ((x4.toNat:Int) - 48))))) > 1048576))=true then
   some 3
  else
   V3 s (IntKind.i64.wrap ((IntKind.i64.wrap (n * 10))+(IntKind.i64.wrap (IntKind.u8.wrap ((x4.toNat:Int) - 48))))) (IntKind.i64.wrap (i1+1))
 else
  some 0
 partial_fixpoint
abbrev Pj (s:Str)(n:Int)(i1:Int)(res:Int):Prop:=LM C 41 0 Tryz.f107 [1,1,1,1,0,1,4] [(0,.d (.str s)),(3,.d (.int .i64 n)),(5,.d (.int .i64 i1))] [] (Ret [] (.d (.int .i64 res)))
theorem Tq (s:Str):(∀ n i1 res,V3 s n i1=some res→Pj s n i1 res):=by
 refine V3.partial_correctness s _ ?_
 ·intro g0 ih0 n i1 res hh
  refine S0.unroll (S' (t' rfl (ci' rfl hh (fun hh=>?_) (fun hh=>?_))))
  ·obtain ⟨x4,hx4,hh⟩:=bs' hh
   refine sk' (S' (bk' (p' 4 rfl (x' rfl (J1 hx4) (X2 hx4) (e' rfl (t' rfl (ci' rfl hh (fun hh=>?_) (fun hh=>?_))))))))
   ·cases hh
    exact t' rfl (re' (rt' rfl rfl rfl))
   exact sk' (T' rfl (lw' (ih0 _ _ _ hh) rfl rfl rfl))
  cases hh
  exact ex' (t' rfl (re' (rt' rfl rfl rfl)))
theorem Ks {s n i1 res}(hh:V3 s n i1=some res):Pj s n i1 res:=(Tq s) _ _ _ hh
def S5 (s:Str)(i:Int):Option Int:=
 if (decide (i < ((s).length:Int)))=true then
  idx s i>>=fun x2=>
  Qd (x2.toNat:Int)>>=fun x3=>
  if (!x3)=true then
   some 6
  else
   S5 s (IntKind.i64.wrap (i+1))
 else
  V3 s 0 0
 partial_fixpoint
abbrev Qj (s:Str)(i:Int)(res:Int):Prop:=LM C 41 0 Tryz.f107 [1,1,1,0,1,4] [(0,.d (.str s)),(3,.d (.int .i64 0)),(4,.d (.int .i64 i))] [] (Ret [] (.d (.int .i64 res)))
theorem Uq (s:Str):(∀ i res,S5 s i=some res→Qj s i res):=by
 refine S5.partial_correctness s _ ?_
 ·intro g0 ih0 i res hh
  refine S0.unroll (S' (t' rfl (ci' rfl hh (fun hh=>?_) (fun hh=>?_))))
  ·obtain ⟨x2,hx2,hh⟩:=bs' hh
   obtain ⟨x3,hx3,hh⟩:=bs' hh
   refine sk' (S' (bk' (p' 2 rfl (x' rfl (J1 hx2) (X2 hx2) (c' (Oh hx3) rfl rfl (e' rfl (ci' rfl hh (fun hh=>?_) (fun hh=>?_))))))))
   ·cases hh
    exact t' rfl (re' (rt' rfl rfl rfl))
   exact sk' (T' rfl (lw' (ih0 _ _ hh) rfl rfl rfl))
  exact ex' (S' (t' rfl (bk' (fw' (Ks hh) rfl rfl rfl))))
theorem Ls {s i res}(hh:S5 s i=some res):Qj s i res:=(Uq s) _ _ hh
def Ge (s:Str):Option Int:=
 (if (decide (((s).length:Int) > 1))=true then idx s 0 else some default)>>=fun x1=>
 if (bif (decide (((s).length:Int) > 1)) then ((x1.toNat:Int) == 48) else false)=true then
  some 6
 else
  S5 s 0
theorem Xw {s res}(hh:Ge s=some res):K0 C 107 [.d (.str s)] [] (Ret [] (.d (.int .i64 res))):=by
 unfold Ge at hh
 obtain ⟨x1,hx1,hh⟩:=bs' hh
 refine K0.intro hC Tryz.func107 rfl rfl rfl (t' rfl (S' (sg' 8 rfl (G' 5 rfl (AG.x hC rfl rfl (fun hg=>⟨hg,trivial⟩) (fun hw=>⟨J1 (F2 hw hx1),X2 (F2 hw hx1)⟩) (a1' rfl (pa' rfl (an' (n' (ci' rfl hh (fun hh=>?_) (fun hh=>?_)))))))))))
 ·cases hh
  exact t' rfl (re' (rt' rfl rfl rfl))
 exact sk' (t' rfl (S' (t' rfl (bk' (fw' (Ls hh) rfl rfl rfl)))))
def W3 (s:Str)(v4:Bool):Option Bool:=
 if v4=true then
  some true
 else
  if (s == [59])=true then
   if (s == [59])=true then
    some true
   else
    some false
  else
   if (s == [58])=true then
    if (s == [58])=true then
     some true
    else
     some false
   else
    if (s == [44])=true then
     if (s == [44])=true then
      some true
     else
      some false
    else
     if (s == [46])=true then
      if (s == [46])=true then
       some true
      else
       some false
     else
      if (s == [61])=true then
       if (s == [61])=true then
        some true
       else
        some false
      else
       if (s == [43])=true then
        if (s == [43])=true then
         some true
        else
         some false
       else
        if (s == [45])=true then
         if (s == [45])=true then
          some true
         else
          some false
        else
         if (s == [42])=true then
          if (s == [42])=true then
           some true
          else
           some false
         else
          if (s == [47])=true then
           if (s == [47])=true then
            some true
           else
            some false
          else
           if (s == [37])=true then
            if (s == [37])=true then
             some true
            else
             some false
           else
            if (s == [60])=true then
             if (s == [60])=true then
              some true
             else
              some false
            else
             if (s == [62])=true then
              if (s == [62])=true then
               some true
              else
               some false
             else
              if (s == [33])=true then
               if (s == [33])=true then
                some true
               else
                some false
              else
               if (s == [63])=true then
                if (s == [63])=true then
                 some true
                else
                 some false
               else
                if (s == [40])=true then
                 if (s == [40])=true then
                  some true
                 else
                  some false
                else
                 if (s == [41])=true then
                  if (s == [41])=true then
                   some true
                  else
                   some false
                 else
                  if (s == [91])=true then
                   if (s == [91])=true then
                    some true
                   else
                    some false
                  else
                   if (s == [93])=true then
                    if (s == [93])=true then
                     some true
                    else
                     some false
                   else
                    if (s == [123])=true then
                     if (s == [123])=true then
                      some true
                     else
                      some false
                    else
                     if (s == [125])=true then
                      some true
                     else
                      some false
theorem X4 {s v4 res}(hh:W3 s v4=some res):JM C 33 0 Tryz.f108 [1,0,1,4,1] [(3,.d (.str s)),(4,.d (.bool v4))] [] (Ret [] (.d (.bool res))):=by
 unfold W3 at hh
 refine ci' rfl hh (fun hh=>?_) (fun hh=>?_)
 ·cases hh
  exact t' rfl (re' (rt' rfl rfl rfl))
 refine S' (t' rfl (ci' rfl hh (fun hh=>?_) (fun hh=>?_)))
 ·refine sk' (ci' rfl hh (fun hh=>?_) (fun hh=>?_))
  ·cases hh
   exact t' rfl (re' (rt' rfl rfl rfl))
  cases hh
  exact sk' (t' rfl (re' (rt' rfl rfl rfl)))
 refine t' rfl (ci' rfl hh (fun hh=>?_) (fun hh=>?_))
 ·refine sk' (ci' rfl hh (fun hh=>?_) (fun hh=>?_))
  ·cases hh
   exact t' rfl (re' (rt' rfl rfl rfl))
  cases hh
  exact sk' (t' rfl (re' (rt' rfl rfl rfl)))
 refine t' rfl (ci' rfl hh (fun hh=>?_) (fun hh=>?_))
 ·refine sk' (ci' rfl hh (fun hh=>?_) (fun hh=>?_))
  ·cases hh
   exact t' rfl (re' (rt' rfl rfl rfl))
  cases hh
  exact sk' (t' rfl (re' (rt' rfl rfl rfl)))
 refine t' rfl (ci' rfl hh (fun hh=>?_) (fun hh=>?_))
 ·refine sk' (ci' rfl hh (fun hh=>?_) (fun hh=>?_))
  ·cases hh
   exact t' rfl (re' (rt' rfl rfl rfl))
  cases hh
  exact sk' (t' rfl (re' (rt' rfl rfl rfl)))
 refine t' rfl (ci' rfl hh (fun hh=>?_) (fun hh=>?_))
 ·refine sk' (ci' rfl hh (fun hh=>?_) (fun hh=>?_))
  ·cases hh
   exact t' rfl (re' (rt' rfl rfl rfl))
  cases hh
  exact sk' (t' rfl (re' (rt' rfl rfl rfl)))
 refine t' rfl (ci' rfl hh (fun hh=>?_) (fun hh=>?_))
 ·refine sk' (ci' rfl hh (fun hh=>?_) (fun hh=>?_))
  ·cases hh
   exact t' rfl (re' (rt' rfl rfl rfl))
  cases hh
  exact sk' (t' rfl (re' (rt' rfl rfl rfl)))
 refine t' rfl (ci' rfl hh (fun hh=>?_) (fun hh=>?_))
 ·refine sk' (ci' rfl hh (fun hh=>?_) (fun hh=>?_))
  ·cases hh
   exact t' rfl (re' (rt' rfl rfl rfl))
  cases hh
  exact sk' (t' rfl (re' (rt' rfl rfl rfl)))
 refine t' rfl (ci' rfl hh (fun hh=>?_) (fun hh=>?_))
 ·refine sk' (ci' rfl hh (fun hh=>?_) (fun hh=>?_))
  ·cases hh
   exact t' rfl (re' (rt' rfl rfl rfl))
  cases hh
  exact sk' (t' rfl (re' (rt' rfl rfl rfl)))
 refine t' rfl (ci' rfl hh (fun hh=>?_) (fun hh=>?_))
 ·refine sk' (ci' rfl hh (fun hh=>?_) (fun hh=>?_))
  ·cases hh
   exact t' rfl (re' (rt' rfl rfl rfl))
  cases hh
  exact sk' (t' rfl (re' (rt' rfl rfl rfl)))
 refine t' rfl (ci' rfl hh (fun hh=>?_) (fun hh=>?_))
 ·refine sk' (ci' rfl hh (fun hh=>?_) (fun hh=>?_))
  ·cases hh
   exact t' rfl (re' (rt' rfl rfl rfl))
  cases hh
  exact sk' (t' rfl (re' (rt' rfl rfl rfl)))
 refine t' rfl (ci' rfl hh (fun hh=>?_) (fun hh=>?_))
 ·refine sk' (ci' rfl hh (fun hh=>?_) (fun hh=>?_))
  ·cases hh
   exact t' rfl (re' (rt' rfl rfl rfl))
  cases hh
  exact sk' (t' rfl (re' (rt' rfl rfl rfl)))
 refine t' rfl (ci' rfl hh (fun hh=>?_) (fun hh=>?_))
 ·refine sk' (ci' rfl hh (fun hh=>?_) (fun hh=>?_))
  ·cases hh
   exact t' rfl (re' (rt' rfl rfl rfl))
  cases hh
  exact sk' (t' rfl (re' (rt' rfl rfl rfl)))
 refine t' rfl (ci' rfl hh (fun hh=>?_) (fun hh=>?_))
 ·refine sk' (ci' rfl hh (fun hh=>?_) (fun hh=>?_))
  ·cases hh
   exact t' rfl (re' (rt' rfl rfl rfl))
  cases hh
  exact sk' (t' rfl (re' (rt' rfl rfl rfl)))
 refine t' rfl (ci' rfl hh (fun hh=>?_) (fun hh=>?_))
 ·refine sk' (ci' rfl hh (fun hh=>?_) (fun hh=>?_))
  ·cases hh
   exact t' rfl (re' (rt' rfl rfl rfl))
  cases hh
  exact sk' (t' rfl (re' (rt' rfl rfl rfl)))
 refine t' rfl (ci' rfl hh (fun hh=>?_) (fun hh=>?_))
 ·refine sk' (ci' rfl hh (fun hh=>?_) (fun hh=>?_))
  ·cases hh
   exact t' rfl (re' (rt' rfl rfl rfl))
  cases hh
  exact sk' (t' rfl (re' (rt' rfl rfl rfl)))
 refine t' rfl (ci' rfl hh (fun hh=>?_) (fun hh=>?_))
 ·refine sk' (ci' rfl hh (fun hh=>?_) (fun hh=>?_))
  ·cases hh
   exact t' rfl (re' (rt' rfl rfl rfl))
  cases hh
  exact sk' (t' rfl (re' (rt' rfl rfl rfl)))
 refine t' rfl (ci' rfl hh (fun hh=>?_) (fun hh=>?_))
 ·refine sk' (ci' rfl hh (fun hh=>?_) (fun hh=>?_))
  ·cases hh
   exact t' rfl (re' (rt' rfl rfl rfl))
  cases hh
  exact sk' (t' rfl (re' (rt' rfl rfl rfl)))
 refine t' rfl (ci' rfl hh (fun hh=>?_) (fun hh=>?_))
 ·refine sk' (ci' rfl hh (fun hh=>?_) (fun hh=>?_))
  ·cases hh
   exact t' rfl (re' (rt' rfl rfl rfl))
  cases hh
  exact sk' (t' rfl (re' (rt' rfl rfl rfl)))
 refine t' rfl (ci' rfl hh (fun hh=>?_) (fun hh=>?_))
 ·refine sk' (ci' rfl hh (fun hh=>?_) (fun hh=>?_))
  ·cases hh
   exact t' rfl (re' (rt' rfl rfl rfl))
  cases hh
  exact sk' (t' rfl (re' (rt' rfl rfl rfl)))
 refine T' rfl (ci' rfl hh (fun hh=>?_) (fun hh=>?_))
 ·cases hh
  exact t' rfl (re' (rt' rfl rfl rfl))
 cases hh
 exact sk' (t' rfl (re' (rt' rfl rfl rfl)))
def D7 (s:Str):Option Bool:=
 if (s == [46,46])=true then
  W3 s (s == [46,46])
 else
  if (s == [61,61])=true then
   W3 s (s == [61,61])
  else
   if (s == [33,61])=true then
    W3 s (s == [33,61])
   else
    if (s == [60,61])=true then
     W3 s (s == [60,61])
    else
     if (s == [62,61])=true then
      W3 s (s == [62,61])
     else
      if (s == [38,38])=true then
       W3 s (s == [38,38])
      else
       W3 s (s == [124,124])
theorem Im {s res}(hh:D7 s=some res):K0 C 108 [.d (.str s)] [] (Ret [] (.d (.bool res))):=by
 unfold D7 at hh
 refine K0.intro hC Tryz.func108 rfl rfl rfl (t' rfl (S' (t' rfl (bk' (S' (t' rfl (ci' rfl hh (fun hh=>?_) (fun hh=>?_))))))))
 ·exact sk' (ew' (X4 hh) rfl rfl rfl)
 refine t' rfl (ci' rfl hh (fun hh=>?_) (fun hh=>?_))
 ·exact sk' (ew' (X4 hh) rfl rfl rfl)
 refine t' rfl (ci' rfl hh (fun hh=>?_) (fun hh=>?_))
 ·exact sk' (ew' (X4 hh) rfl rfl rfl)
 refine t' rfl (ci' rfl hh (fun hh=>?_) (fun hh=>?_))
 ·exact sk' (ew' (X4 hh) rfl rfl rfl)
 refine t' rfl (ci' rfl hh (fun hh=>?_) (fun hh=>?_))
 ·exact sk' (ew' (X4 hh) rfl rfl rfl)
 refine t' rfl (ci' rfl hh (fun hh=>?_) (fun hh=>?_))
 ·exact sk' (ew' (X4 hh) rfl rfl rfl)
 exact T' rfl (ew' (X4 hh) rfl rfl rfl)
end Go.Proofs.YtmnhfbekncjnfaaGreatDoor

