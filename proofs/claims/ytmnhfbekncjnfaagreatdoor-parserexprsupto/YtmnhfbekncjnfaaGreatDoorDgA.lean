/- A part of the proof of ParserExprs. -/
import Derived.Test.YtmnhfbekncjnfaaGreatDoorXxA
import Derived.Test.YtmnhfbekncjnfaaGreatDoorAmF
set_option maxRecDepth 100000
set_option maxHeartbeats 4000000
set_option synthInstance.maxSize 20000
set_option linter.unusedVariables false
namespace Go.Proofs.YtmnhfbekncjnfaaGreatDoor
open Go.Am
instance:Nonempty (J2 C):=⟨hC⟩
structure A0 where
 Op:Int
 NV:Int
 Name:Str
 Kids:List A0
def A0.zero:A0:=⟨0,0,[],[]⟩
instance:Inhabited A0:=⟨A0.zero⟩
mutual
def A0.rowX:A0→Row
 | .mk y0 y1 y2 y3=>[.int .i64 y0,.int .i64 y1,.str y2,.sl (A0.rowsX y3)]
def A0.rowsX:List A0→List Row
 | []=>[]
 | x::r=>A0.rowX x::A0.rowsX r
end
def A0.rows (l:List A0):List Row:=A0.rowsX l
def A0.row (x:A0):Row:=[.int .i64 x.Op,.int .i64 x.NV,.str x.Name,.sl (A0.rows x.Kids)]
theorem A0.rows_map:∀ l,A0.rows l=l.map A0.row
 | []=>rfl
 | x::r=>by
  show A0.rowX x::A0.rows r=A0.row x::r.map A0.row
  rw [A0.rows_map r]
  cases x
  rfl
def A0.cells (x:A0):List A:=[.d (.int .i64 x.Op),.d (.int .i64 x.NV),.d (.str x.Name),.d (.sl (A0.rows x.Kids))]
theorem A0.idx {l:List A0}{n:Int}{x:A0}(h:idx l n=some x):(A0.rows l)[n.toNat]?=some (A0.row x):=Dz A0.rows_map h
theorem A0.lenA (l:List A0):A.d (.int .i64 ((A0.rows l).length:Nat))=A.d (.int .i64 (l.length:Nat)):=Gx A0.rows_map l
structure E0 where
 Kind:Int
 Text:Str
 At:Int
def E0.zero:E0:=⟨0,[],0⟩
instance:Inhabited E0:=⟨E0.zero⟩
def E0.row (x:E0):Row:=[.int .i64 x.Kind,.str x.Text,.int .i64 x.At]
def E0.rows (l:List E0):List Row:=l.map E0.row
theorem E0.rows_map (l:List E0):E0.rows l=l.map E0.row:=rfl
def E0.cells (x:E0):List A:=[.d (.int .i64 x.Kind),.d (.str x.Text),.d (.int .i64 x.At)]
theorem E0.idx {l:List E0}{n:Int}{x:E0}(h:idx l n=some x):(E0.rows l)[n.toNat]?=some (E0.row x):=Dz E0.rows_map h
theorem E0.app (l m:List E0):E0.rows (l++m)=E0.rows l++E0.rows m:=Y15 E0.rows_map l m
theorem E0.len (l:List E0):(E0.rows l).length=l.length:=Z15 E0.rows_map l
theorem E0.lenA (l:List E0):A.d (.int .i64 ((E0.rows l).length:Nat))=A.d (.int .i64 (l.length:Nat)):=Gx E0.rows_map l
theorem E0.sz (l:List E0):∀ r∈E0.rows l,r.length=3:=O17 E0.rows_map (fun _=>rfl) l
structure B0 where
 tokens:List E0
 next:Int
 endV:Int
def B0.zero:B0:=⟨[],0,0⟩
instance:Inhabited B0:=⟨B0.zero⟩
def B0.cells (x:B0):List A:=[.d (.sl (E0.rows x.tokens)),.d (.int .i64 x.next),.d (.int .i64 x.endV)]
structure I0 where
 nodes:Int
 depth:Int
 badForm:Bool
 badName:Bool
 badNumber:Bool
def I0.zero:I0:=⟨0,0,false,false,false⟩
instance:Inhabited I0:=⟨I0.zero⟩
def I0.cells (x:I0):List A:=[.d (.int .i64 x.nodes),.d (.int .i64 x.depth),.d (.bool x.badForm),.d (.bool x.badName),.d (.bool x.badNumber)]
structure J1 where
 nodes:Int
 depth:Int
def J1.zero:J1:=⟨0,0⟩
instance:Inhabited J1:=⟨J1.zero⟩
def J1.cells (x:J1):List A:=[.d (.int .i64 x.nodes),.d (.int .i64 x.depth)]
structure T1 where
 Kind:Int
 Low:Int
 High:Int
 Size:Int
 Name:Str
 V8:List Str
 Of:List T1
def T1.zero:T1:=⟨0,0,0,0,[],[],[]⟩
instance:Inhabited T1:=⟨T1.zero⟩
structure W0 where
 Verb:Int
 Place:A0
 Value:A0
 Name:Str
 Args:List A0
 NV:Int
 Low:Int
 High:Int
 Numbers:List Int
 Then:List W0
 Else:List W0
def W0.zero:W0:=⟨0,⟨0,0,[],[]⟩,⟨0,0,[],[]⟩,[],[],0,0,0,[],[],[]⟩
instance:Inhabited W0:=⟨W0.zero⟩
structure Tc where
 Kind:Int
 Name:Str
 TypeV:T1
 Init:Int
 Value:A0
 Params:List Tc
 Vars:List Tc
 Body:List W0
def Tc.zero:Tc:=⟨0,[],⟨0,0,0,0,[],[],[]⟩,0,⟨0,0,[],[]⟩,[],[],[]⟩
instance:Inhabited Tc:=⟨Tc.zero⟩
structure Fj where
 Decls:List Tc
 Body:List W0
def Fj.zero:Fj:=⟨[],[]⟩
instance:Inhabited Fj:=⟨Fj.zero⟩
structure Gj where
 place:Bool
 value:Bool
 name:Bool
 args:Bool
 n:Bool
 bounds:Bool
 numbers:Bool
 thenV:Bool
 other:Bool
def Gj.zero:Gj:=⟨false,false,false,false,false,false,false,false,false⟩
instance:Inhabited Gj:=⟨Gj.zero⟩
end Go.Proofs.YtmnhfbekncjnfaaGreatDoor

set_option maxRecDepth 100000
set_option maxHeartbeats 4000000
set_option synthInstance.maxSize 20000
set_option linter.unusedVariables false
namespace Go.Proofs.YtmnhfbekncjnfaaGreatDoor
open Go.Am
def K6 (c:Int):Option Bool:=
 some (bif (decide (c≥97)) then (decide (c≤122)) else false)
theorem Ge {c res}(hh:K6 c=some res):K0 C 160 [.d (.int .u8 c)] [] (Ret [] (.d (.bool res))):=by
 unfold K6 at hh
 cases hh
 exact K0.intro hC Tryz.func160 rfl rfl rfl (t' rfl (sg' 7 rfl (G' 4 rfl (a1' rfl (pa' rfl (a0' rfl (an' (n' (re' (rt' rfl rfl rfl))))))))))
def H5 (c:Int):Option Bool:=
 some (bif (decide (c≥48)) then (decide (c≤57)) else false)
theorem Bc {c res}(hh:H5 c=some res):K0 C 163 [.d (.int .u8 c)] [] (Ret [] (.d (.bool res))):=by
 unfold H5 at hh
 cases hh
 exact K0.intro hC Tryz.func163 rfl rfl rfl (t' rfl (sg' 7 rfl (G' 4 rfl (a1' rfl (pa' rfl (a0' rfl (an' (n' (re' (rt' rfl rfl rfl))))))))))
def X4 (s:Str)(i1:Int):Option Int:=
 (if (decide (i1 < ((s).length:Int)))=true then idx s i1 else some default)>>=fun x1=>
 (if (decide (i1 < ((s).length:Int)))=true then K6 (x1.toNat:Int) else some default)>>=fun x2=>
 (if ((decide (i1 < ((s).length:Int)))&&(!x2))=true then idx s i1 else some default)>>=fun x3=>
 (if ((decide (i1 < ((s).length:Int)))&&(!x2))=true then H5 (x3.toNat:Int) else some default)>>=fun x4=>
 if (bif (decide (i1 < ((s).length:Int))) then (bif x2 then true else x4) else false)=true then
  X4 s (IntKind.i64.wrap (i1+1))
 else
  some i1
 partial_fixpoint
abbrev Jm (s:Str)(i1:Int)(res:Int):Prop:=LM C 24 0 Tryz.f161 [1,0,4] [(0,.d (.str s)),(1,.d (.int .i64 i1))] [] (Ret [] (.d (.int .i64 res)))
theorem Ys (s:Str):(∀ i1 res,X4 s i1=some res→Jm s i1 res):=by
 refine X4.partial_correctness s _ ?_
 ·intro g0 ih0 i1 res hh
  obtain ⟨x1,hx1,hh⟩:=bs' hh
  obtain ⟨x2,hx2,hh⟩:=bs' hh
  obtain ⟨x3,hx3,hh⟩:=bs' hh
  obtain ⟨x4,hx4,hh⟩:=bs' hh
  refine P0.unroll (S' (sg' 16 rfl (G' 7 rfl (AG.x hC rfl rfl (fun hg=>⟨hg,hg,trivial⟩) (fun hw=>⟨I1 (Y1 hw hx1),F3 (Y1 hw hx1)⟩) (AG.c rfl rfl (fun hg=>⟨hg,trivial⟩) (fun hw=>Ge (Y1 hw hx2)) (a1' rfl (G' 2 rfl (AG.x hC rfl rfl (fun hg=>⟨hg,hg,trivial⟩) (fun hw=>⟨I1 (Y1 hw hx3),F3 (Y1 hw hx3)⟩) ?_))))))))
  refine AG.c rfl rfl (fun hg=>⟨hg,trivial⟩) (fun hw=>Bc (Y1 hw hx4)) (pO' rfl (pa' rfl (an' (n' (ci' rfl hh (fun hh=>?_) (fun hh=>?_))))))
  ·exact sk' (bk' (T' rfl (lw' (ih0 _ _ hh) rfl rfl rfl)))
  cases hh
  exact ex' (t' rfl (re' (rt' rfl rfl rfl)))
theorem Vu {s i1 res}(hh:X4 s i1=some res):Jm s i1 res:=(Ys s) _ _ hh
def Ld (s:Str)(i:Int):Option Int:=
 X4 s i
theorem Bq {s i res}(hh:Ld s i=some res):K0 C 161 [.d (.str s),.d (.int .i64 i)] [] (Ret [] (.d (.int .i64 res))):=by
 unfold Ld at hh
 exact K0.intro hC Tryz.func161 rfl rfl rfl (t' rfl (S' (bk' (fw' (Vu hh) rfl rfl rfl))))
def I5 (word:Str):Option Bool:=
 (if (!(word == []))=true then Ac word [32] else some default)>>=fun x1=>
 if (!(bif (!(word == [])) then (!x1) else false)||(decide (1+word.length≤maxLen)))=true then
  if (!(bif (!(word == [])) then (!x1) else false)||(decide (([32]++word).length+1≤maxLen)))=true then
   (if (bif (!(word == [])) then (!x1) else false)=true then Ac [32,116,121,112,101,32,115,101,99,114,101,116,32,112,117,98,108,105,99,32,114,97,110,100,111,109,32,118,97,114,32,104,97,116,99,104,32,102,117,110,99,32,114,101,116,117,114,110,32,98,101,103,105,110,32,101,110,100,32,98,111,111,108,32,105,110,116,32,97,114,114,97,121,32,111,102,32,114,101,99,111,114,100,32,116,114,117,101,32,102,97,108,115,101,32,99,97,108,108,32,114,101,108,101,97,115,101,32,111,117,116,112,117,116,32,119,97,105,116,32,105,102,32,101,108,115,101,32,119,104,105,108,101,32,108,105,109,105,116,32,102,111,114,32,116,111,32,115,101,116,116,108,101,32,109,105,110,32,109,97,120,32] (([32]++word)++[32]) else some default)>>=fun x2=>
   some (bif (bif (!(word == [])) then (!x1) else false) then x2 else false)
  else none
 else none
theorem Li {word res}(hh:I5 word=some res):K0 C 162 [.d (.str word)] [] (Ret [] (.d (.bool res))):=by
 unfold I5 at hh
 obtain ⟨x1,hx1,hh⟩:=bs' hh
 obtain ⟨c7,hh⟩:=Cz hh
 obtain ⟨c8,hh⟩:=Cz hh
 obtain ⟨x2,hx2,hh⟩:=bs' hh
 cases hh
 refine K0.intro hC Tryz.func162 rfl rfl rfl (t' rfl (sg' 14 rfl (G' 4 rfl (AG.c rfl rfl (fun hg=>⟨hg,trivial⟩) (fun hw=>Io (Y1 hw hx1)) (a1' rfl (pa' rfl (G' 2 rfl (ag' rfl (fun hg=>⟨⟨hg,trivial⟩,(c7 hg)⟩) (ag' rfl (fun hg=>⟨⟨hg,trivial⟩,(c8 hg)⟩) (AG.c rfl rfl (fun hg=>⟨hg,trivial⟩) (fun hw=>Io (Y1 hw hx2)) (pa' rfl (a0' rfl (an' ?_)))))))))))))
 exact n' (re' (rt' rfl rfl rfl))
def H3 (s:Str)(n:Int)(v7:Int):Option Int:=
 if (decide (v7 < ((s).length:Int)))=true then
  idx s v7>>=fun x1=>
  H5 (x1.toNat:Int)>>=fun x2=>
  if (!x2)=true then
   some 6
  else
   idx s v7>>=fun x3=>
   H3 s (min (IntKind.i64.wrap ((IntKind.i64.wrap (10 * n))+(IntKind.i64.wrap (IntKind.u8.wrap ((x3.toNat:Int) - 48))))) 1048577) (IntKind.i64.wrap (v7+1))
 else
  idx s 0>>=fun x4=>
  if (bif ((x4.toNat:Int) == 48) then (decide (((s).length:Int) > 1)) else false)=true then
   some 6
  else
   if (decide (n > 1048576))=true then
    some 3
   else
    some 0
 partial_fixpoint
abbrev Mi (s:Str)(n:Int)(v7:Int)(res:Int):Prop:=LM C 37 0 Tryz.f164 [1,1,0,1,4] [(0,.d (.str s)),(3,.d (.int .i64 n)),(6,.d (.int .i64 ((s).length:Int))),(7,.d (.int .i64 v7))] [] (Ret [] (.d (.int .i64 res)))
theorem Oo (s:Str):(∀ n v7 res,H3 s n v7=some res→Mi s n v7 res):=by
 refine H3.partial_correctness s _ ?_
 ·intro g0 ih0 n v7 res hh
  refine P0.unroll (t' rfl (S' (ci' rfl hh (fun hh=>?_) (fun hh=>?_))))
  ·obtain ⟨x1,hx1,hh⟩:=bs' hh
   obtain ⟨x2,hx2,hh⟩:=bs' hh
   refine sk' (S' (bk' (t' rfl (S' (p' 2 rfl (x' rfl (I1 hx1) (F3 hx1) (c' (Bc hx2) rfl rfl (e' rfl (ci' rfl hh (fun hh=>?_) (fun hh=>?_))))))))))
   ·cases hh
    exact t' rfl (re' (rt' rfl rfl rfl))
   obtain ⟨x3,hx3,hh⟩:=bs' hh
   exact sk' (P' 4 rfl (x' rfl (I1 hx3) (F3 hx3) (e' rfl (T' rfl (lw' (ih0 _ _ _ hh) rfl rfl rfl)))))
  obtain ⟨x4,hx4,hh⟩:=bs' hh
  refine ex' (S' (bk' (sg' 9 rfl (a0' rfl (AG.x hC rfl rfl (fun _=>trivial) (fun hw=>⟨I1 hx4,F3 hx4⟩) (G' 3 rfl (a1' rfl (a1' rfl (pa' rfl (a0' rfl (an' (n' (ci' rfl hh (fun hh=>?_) (fun hh=>?_))))))))))))))
  ·cases hh
   exact t' rfl (re' (rt' rfl rfl rfl))
  refine t' rfl (ci' rfl hh (fun hh=>?_) (fun hh=>?_))
  ·cases hh
   exact t' rfl (re' (rt' rfl rfl rfl))
  cases hh
  exact sk' (t' rfl (re' (rt' rfl rfl rfl)))
theorem Cq {s n v7 res}(hh:H3 s n v7=some res):Mi s n v7 res:=(Oo s) _ _ _ hh
def Fb (s:Str):Option Int:=
 H3 s 0 0
theorem Wu {s res}(hh:Fb s=some res):K0 C 164 [.d (.str s)] [] (Ret [] (.d (.int .i64 res))):=by
 unfold Fb at hh
 exact K0.intro hC Tryz.func164 rfl rfl rfl (t' rfl (t' rfl (S' (t' rfl (bk' (fw' (Cq hh) rfl rfl rfl))))))
def F7 (s:Str):Option Str:=
 idx s 0>>=fun x3=>
 Gh [59,58,44,46,61,43,45,42,47,37,60,62,33,63,40,41,91,93,123,125] (x3.toNat:Int)>>=fun x4=>
 if (decide (x4≥0))=true then
  slc s 0 1>>=fun x5=>
  some x5
 else
  some []
theorem Tj {s res}(hh:F7 s=some res):JM C 24 0 Tryz.f165 [1,1] [(0,.d (.str s))] [] (Ret [] (.d (.str res))):=by
 unfold F7 at hh
 obtain ⟨x3,hx3,hh⟩:=bs' hh
 obtain ⟨x4,hx4,hh⟩:=bs' hh
 refine S' (p' 1 rfl (x' rfl (I1 hx3) (F3 hx3) (c' (Iw hx4) rfl rfl (e' rfl (ci' rfl hh (fun hh=>?_) (fun hh=>?_))))))
 ·obtain ⟨x5,hx5,hh⟩:=bs' hh
  cases hh
  exact p' 1 rfl (D0.lx hC rfl hx5 (e' rfl (re' (rt' rfl rfl rfl))))
 cases hh
 exact sk' (t' rfl (re' (rt' rfl rfl rfl)))
def V3 (s:Str)(v8:Bool):Option Str:=
 if v8=true then
  slc s 0 2>>=fun x2=>
  some x2
 else
  F7 s
theorem H6 {s v8 res}(hh:V3 s v8=some res):JM C 24 0 Tryz.f165 [1,0,1,2,1,4,1] [(0,.d (.str s)),(8,.d (.bool v8))] [] (Ret [] (.d (.str res))):=by
 unfold V3 at hh
 refine ci' rfl hh (fun hh=>?_) (fun hh=>?_)
 ·obtain ⟨x2,hx2,hh⟩:=bs' hh
  cases hh
  exact p' 1 rfl (D0.lx hC rfl hx2 (e' rfl (re' (rt' rfl rfl rfl))))
 exact sk' (ew' (Tj hh) rfl rfl rfl)
def Y8 (s:Str):Option Str:=
 if (decide (((s).length:Int)≥2))=true then
  slc s 0 2>>=fun x1=>
  if (x1 == [46,46])=true then
   V3 s (x1 == [46,46])
  else
   if (x1 == [61,61])=true then
    V3 s (x1 == [61,61])
   else
    if (x1 == [33,61])=true then
     V3 s (x1 == [33,61])
    else
     if (x1 == [60,61])=true then
      V3 s (x1 == [60,61])
     else
      if (x1 == [62,61])=true then
       V3 s (x1 == [62,61])
      else
       if (x1 == [38,38])=true then
        V3 s (x1 == [38,38])
       else
        V3 s (x1 == [124,124])
 else
  F7 s
theorem Xx {s res}(hh:Y8 s=some res):K0 C 165 [.d (.str s)] [] (Ret [] (.d (.str res))):=by
 unfold Y8 at hh
 refine K0.intro hC Tryz.func165 rfl rfl rfl (t' rfl (S' (t' rfl (ci' rfl hh (fun hh=>?_) (fun hh=>?_)))))
 ·obtain ⟨x1,hx1,hh⟩:=bs' hh
  refine p' 1 rfl (D0.lx hC rfl hx1 (n' (bk' (S' (t' rfl (ci' rfl hh (fun hh=>?_) (fun hh=>?_)))))))
  ·exact sk' (ew' (H6 hh) rfl rfl rfl)
  refine t' rfl (ci' rfl hh (fun hh=>?_) (fun hh=>?_))
  ·exact sk' (ew' (H6 hh) rfl rfl rfl)
  refine t' rfl (ci' rfl hh (fun hh=>?_) (fun hh=>?_))
  ·exact sk' (ew' (H6 hh) rfl rfl rfl)
  refine t' rfl (ci' rfl hh (fun hh=>?_) (fun hh=>?_))
  ·exact sk' (ew' (H6 hh) rfl rfl rfl)
  refine t' rfl (ci' rfl hh (fun hh=>?_) (fun hh=>?_))
  ·exact sk' (ew' (H6 hh) rfl rfl rfl)
  refine t' rfl (ci' rfl hh (fun hh=>?_) (fun hh=>?_))
  ·exact sk' (ew' (H6 hh) rfl rfl rfl)
  exact T' rfl (ew' (H6 hh) rfl rfl rfl)
 exact sk' (ew' (Tj hh) rfl rfl rfl)
def Ga (s:Str)(i:Int):Option (E0×Int):=
 idx s i>>=fun x1=>
 K6 (x1.toNat:Int)>>=fun x2=>
 if x2=true then
  Ld s i>>=fun x3=>
  slc s i x3>>=fun x4=>
  I5 x4>>=fun x5=>
  if x5=true then
   some ((E0.mk 2 x4 i),0)
  else
   if (decide (((x4).length:Int) > 12))=true then
    some ((E0.mk 0 x4 i),7)
   else
    some ((E0.mk 0 x4 i),0)
 else
  H5 (x1.toNat:Int)>>=fun x6=>
  if x6=true then
   Ld s i>>=fun x7=>
   slc s i x7>>=fun x8=>
   Fb x8>>=fun x9=>
   some ((E0.mk 1 x8 i),x9)
  else
   slc s i ((s).length:Int)>>=fun x10=>
   Y8 x10>>=fun x11=>
   if (x11 == [])=true then
    some ((E0.mk 3 x11 i),6)
   else
    some ((E0.mk 3 x11 i),0)
theorem Yx {s i res}(hh:Ga s i=some res):K0 C 109 [.d (.str s),.d (.int .i64 i)] [] (Ret [] (.tup [.agg (E0.cells res.1),.d (.int .i64 res.2)])):=by
 unfold Ga at hh
 obtain ⟨x1,hx1,hh⟩:=bs' hh
 obtain ⟨x2,hx2,hh⟩:=bs' hh
 refine K0.intro hC Tryz.func109 rfl rfl rfl (s' rfl rfl (D0.n hC rfl (e' rfl (p' 2 rfl (D0.n hC rfl (D0.s hC rfl (n' (S' (p' 2 rfl (x' rfl (I1 hx1) (F3 hx1) (e' rfl (bk' (p' 1 rfl ?_)))))))))))))
 refine c' (Ge hx2) rfl rfl (e' rfl (ci' rfl hh (fun hh=>?_) (fun hh=>?_)))
 ·obtain ⟨x3,hx3,hh⟩:=bs' hh
  obtain ⟨x4,hx4,hh⟩:=bs' hh
  obtain ⟨x5,hx5,hh⟩:=bs' hh
  refine p' 4 rfl (c' (Bq hx3) rfl rfl (D0.lx hC rfl hx4 (q' rfl (D0.s hC rfl (n' (p' 2 rfl (c' (Li hx5) rfl rfl (n' (ci' rfl hh (fun hh=>?_) (fun hh=>?_))))))))))
  ·cases hh
   exact P' 1 rfl (D0.s hC rfl (n' (p' 1 rfl (D0.s hC rfl (e' rfl (re' (rt' rfl rfl rfl)))))))
  refine t' rfl (ci' rfl hh (fun hh=>?_) (fun hh=>?_))
  ·cases hh
   exact p' 1 rfl (D0.s hC rfl (e' rfl (re' (rt' rfl rfl rfl))))
  cases hh
  exact sk' (p' 1 rfl (D0.s hC rfl (e' rfl (re' (rt' rfl rfl rfl)))))
 obtain ⟨x6,hx6,hh⟩:=bs' hh
 refine p' 1 rfl (c' (Bc hx6) rfl rfl (e' rfl (ci' rfl hh (fun hh=>?_) (fun hh=>?_))))
 ·obtain ⟨x7,hx7,hh⟩:=bs' hh
  obtain ⟨x8,hx8,hh⟩:=bs' hh
  obtain ⟨x9,hx9,hh⟩:=bs' hh
  cases hh
  refine p' 4 rfl (c' (Bq hx7) rfl rfl (D0.lx hC rfl hx8 (q' rfl (D0.s hC rfl (q' rfl (D0.s hC rfl (n' (S' (AEx.draw hC 4 rfl rfl rfl (O' 3 rfl (Qc' (Wu hx9) rfl rfl (Qn' (D0.s hC rfl ?_)))))))))))))
  exact e' rfl (re' (rt' rfl rfl rfl))
 obtain ⟨x10,hx10,hh⟩:=bs' hh
 obtain ⟨x11,hx11,hh⟩:=bs' hh
 refine p' 2 rfl (D0.lx hC rfl hx10 (c' (Xx hx11) rfl rfl (q' rfl (D0.s hC rfl (q' rfl (D0.s hC rfl (n' (t' rfl (ci' rfl hh (fun hh=>?_) (fun hh=>?_))))))))))
 ·cases hh
  exact p' 1 rfl (D0.s hC rfl (e' rfl (re' (rt' rfl rfl rfl))))
 cases hh
 exact sk' (p' 1 rfl (D0.s hC rfl (e' rfl (re' (rt' rfl rfl rfl)))))
mutual
def Q2 (s:Str)(out:List E0)(i:Int):Option (List E0×Int×Int):=
 if (decide (i < ((s).length:Int)))=true then
  idx s i>>=fun x1=>
  if ((x1.toNat:Int) == 32)=true then
   C8 s out i x1 ((x1.toNat:Int) == 32)
  else
   if ((x1.toNat:Int) == 9)=true then
    C8 s out i x1 ((x1.toNat:Int) == 9)
   else
    C8 s out i x1 ((x1.toNat:Int) == 10)
 else
  some (out,0,0)
 partial_fixpoint
def C8 (s:Str)(out1:List E0)(i1:Int)(x1:UInt8)(v19:Bool):Option (List E0×Int×Int):=
 if v19=true then
  Q2 s out1 (IntKind.i64.wrap (i1+1))
 else
  if ((x1.toNat:Int) == 35)=true then
   Y5 s out1 i1
  else
   Ga s i1>>=fun x2=>
   if (x2.2 != 0)=true then
    some ([],i1,x2.2)
   else
    if (decide ((out1.length+1) * 33≤140737488355328))=true then
     Q2 s (out1++[x2.1]) (IntKind.i64.wrap (i1+((x2.1.Text).length:Int)))
    else none
 partial_fixpoint
def Y5 (s:Str)(out2:List E0)(i2:Int):Option (List E0×Int×Int):=
 (if (decide (i2 < ((s).length:Int)))=true then idx s i2 else some default)>>=fun x3=>
 if (bif (decide (i2 < ((s).length:Int))) then ((x3.toNat:Int) != 10) else false)=true then
  Y5 s out2 (IntKind.i64.wrap (i2+1))
 else
  Q2 s out2 i2
 partial_fixpoint
end
abbrev Km (s:Str)(out:List E0)(i:Int)(res:List E0×Int×Int):Prop:=LM C 59 0 Tryz.f57 [1,1,1,0,1,4] [(0,.d (.str s)),(5,.osl 0 (E0.rows out)),(6,.d (.int .i64 i))] [.tok 62 3] (Ret [] (.tup [.d (.sl (E0.rows res.1)),.d (.int .i64 res.2.1),.d (.int .i64 res.2.2)]))
abbrev Jw (s:Str)(out1:List E0)(i1:Int)(x1:UInt8)(v19:Bool)(res:List E0×Int×Int):Prop:=JM C 59 0 Tryz.f57 [1,1,1,0,1,4,5,1,4,0,1,4,1] [(0,.d (.str s)),(5,.osl 0 (E0.rows out1)),(6,.d (.int .i64 i1)),(18,.d (.int .u8 (x1.toNat:Int))),(19,.d (.bool v19))] [.tok 62 3] (Ret [] (.tup [.d (.sl (E0.rows res.1)),.d (.int .i64 res.2.1),.d (.int .i64 res.2.2)]))
abbrev Kw (s:Str)(out2:List E0)(i2:Int)(res:List E0×Int×Int):Prop:=LM C 59 0 Tryz.f57 [1,1,1,0,1,4,5,1,4,0,1,4,1,3,1,2,0,4] [(0,.d (.str s)),(5,.osl 0 (E0.rows out2)),(6,.d (.int .i64 i2))] [.tok 62 3] (Ret [] (.tup [.d (.sl (E0.rows res.1)),.d (.int .i64 res.2.1),.d (.int .i64 res.2.2)]))
theorem Zs (s:Str):(∀ out i res,Q2 s out i=some res→Km s out i res)∧(∀ out1 i1 x1 v19 res,C8 s out1 i1 x1 v19=some res→Jw s out1 i1 x1 v19 res)∧(∀ out2 i2 res,Y5 s out2 i2=some res→Kw s out2 i2 res):=by
 refine Q2.mutual_partial_correctness s _ _ _ ?_ ?_ ?_
 ·intro g1 ih1 out i res hh
  refine P0.unroll (S' (t' rfl (ci' rfl hh (fun hh=>?_) (fun hh=>?_))))
  ·obtain ⟨x1,hx1,hh⟩:=bs' hh
   refine sk' (bk' (S' (p' 2 rfl (x' rfl (I1 hx1) (F3 hx1) (n' (bk' (S' (t' rfl (ci' rfl hh (fun hh=>?_) (fun hh=>?_))))))))))
   ·exact sk' (ew' (ih1 _ _ _ _ _ hh) rfl rfl rfl)
   refine t' rfl (ci' rfl hh (fun hh=>?_) (fun hh=>?_))
   ·exact sk' (ew' (ih1 _ _ _ _ _ hh) rfl rfl rfl)
   exact T' rfl (ew' (ih1 _ _ _ _ _ hh) rfl rfl rfl)
  refine ex' (t' rfl (re' ?_))
  obtain rfl:=oi' hh
  exact ⟨_,.tup [.d (.sl (E0.rows out)),.d (.int .i64 0),.d (.int .i64 0)],[],rfl,(.tupL ⟨.osl,.rfl,.rfl,trivial⟩),trivial,rfl,rfl,rfl,rfl⟩
 ·intro g0 g2 ih0 ih2 out1 i1 x1 v19 res hh
  refine ci' rfl hh (fun hh=>?_) (fun hh=>?_)
  ·exact t' rfl (ex' (lw' (ih0 _ _ _ hh) rfl rfl rfl))
  refine t' rfl (ci' rfl hh (fun hh=>?_) (fun hh=>?_))
  ·exact S' (bk' (fw' (ih2 _ _ _ hh) rfl rfl rfl))
  obtain ⟨x2,hx2,hh⟩:=bs' hh
  refine sk' (p' 2 rfl (c' (Yx hx2) rfl rfl (o' 3 rfl (D0.n hC rfl (D0.s hC rfl (e' rfl (S' (t' rfl (ci' rfl hh (fun hh=>?_) (fun hh=>?_))))))))))
  ·refine t' rfl (re' ?_)
   obtain rfl:=oi' hh
   exact ⟨_,.tup [.d (.sl (E0.rows [])),.d (.int .i64 i1),.d (.int .i64 x2.2)],[],rfl,(.tupL ⟨.full,.rfl,.rfl,trivial⟩),trivial,rfl,rfl,rfl,rfl⟩
  obtain ⟨c9,hh⟩:=Ef hh
  exact sk' (p' 2 rfl (D0.be hC rfl (E0.rows_map [x2.1]).symm (D0.ap hC rfl (rs:=E0.rows (out1++[x2.1])) (E0.app out1 [x2.1]) (E0.sz out1) (E0.sz [x2.1]) (S11 (E0.len out1) (E0.len [x2.1]) c9) (e' rfl (T' rfl (lw' (ih0 _ _ _ hh) rfl rfl rfl))))))
 ·intro g0 g2 ih0 ih2 out2 i2 res hh
  obtain ⟨x3,hx3,hh⟩:=bs' hh
  refine P0.unroll (S' (sg' 10 rfl (G' 7 rfl (AG.x hC rfl rfl (fun hg=>⟨hg,hg,trivial⟩) (fun hw=>⟨I1 (Y1 hw hx3),F3 (Y1 hw hx3)⟩) (a1' rfl (pa' rfl (an' (n' (ci' rfl hh (fun hh=>?_) (fun hh=>?_))))))))))
  ·exact sk' (bk' (T' rfl (lw' (ih2 _ _ _ hh) rfl rfl rfl)))
  exact ex' (ex' (lw' (ih0 _ _ _ hh) rfl rfl rfl))
theorem Xu {s out i res}(hh:Q2 s out i=some res):Km s out i res:=(Zs s).1 _ _ _ hh
def Md (s:Str):Option (List E0×Int×Int):=
 if (decide (((s).length:Int) > 8192))=true then
  some ([],0,5)
 else
  Q2 s [] 0
theorem Vz {s res}(hh:Md s=some res):K0 C 57 [.d (.str s)] [] (Ret [] (.tup [.d (.sl (E0.rows res.1)),.d (.int .i64 res.2.1),.d (.int .i64 res.2.2)])):=by
 unfold Md at hh
 refine K0.intro hC Tryz.func57 rfl rfl rfl (t' rfl (S' (t' rfl (ci' rfl hh (fun hh=>?_) (fun hh=>?_)))))
 ·refine t' rfl (re' ?_)
  obtain rfl:=oi' hh
  exact ⟨_,.tup [.d (.sl (E0.rows [])),.d (.int .i64 0),.d (.int .i64 5)],[],rfl,(.tupL ⟨.full,.rfl,.rfl,trivial⟩),trivial,rfl,rfl,rfl,rfl⟩
 exact sk' (p' 1 rfl (D0.tokE 5 62 3 rfl (n' (S' (t' rfl (bk' (fw' (Xu hh) rfl rfl rfl)))))))
def Y4 (text:Str)(parserParser:B0):Option Bool:=
 if (decide (parserParser.next≥((parserParser.tokens).length:Int)))=true then
  some false
 else
  idx parserParser.tokens parserParser.next>>=fun x1=>
  some (bif (x1.Text == text) then (bif (x1.Kind == 2) then true else (x1.Kind == 3)) else false)
theorem Qo {text parserParser res}(hh:Y4 text parserParser=some res):K0 C 113 [.ref 0 0,.d (.str text)] [.row (B0.cells parserParser) 99] (Ret [.row (B0.cells parserParser) 99] (.d (.bool res))):=by
 unfold Y4 at hh
 refine K0.intro hC Tryz.func113 rfl rfl rfl (t' rfl (S' (S' (AEx.draw hC 10 rfl rfl rfl (O' 8 rfl (AQ.qe hC rfl trivial (E0.lenA _) (E' rfl (n' (ci' rfl hh (fun hh=>?_) (fun hh=>?_))))))))))
 ·cases hh
  exact t' rfl (re' (rt' rfl rfl rfl))
 obtain ⟨x1,hx1,hh⟩:=bs' hh
 cases hh
 refine sk' (S' (AEx.drawL hC 11 [] [(10,1)] [[.row (B0.cells parserParser) 99,.row [.d (.int .i64 0),.d (.str []),.d (.int .i64 0)] 62]] rfl rfl rfl rfl rfl rfl rfl rfl rfl rfl (AS.q hC rfl rfl rfl rfl (AS.q hC rfl rfl rfl rfl (AS.q hC rfl rfl rfl rfl (AS.q hC rfl rfl rfl rfl (AS.q hC rfl rfl rfl rfl (AS.q hC rfl rfl rfl rfl (AS.q hC rfl rfl rfl rfl (AS.q hC rfl rfl rfl rfl ?_))))))))))
 refine AS.ix hC rfl (I1 hx1) (E0.idx hx1) rfl rfl rfl (AS.q hC rfl rfl rfl rfl (AS.n hC rfl rfl rfl rfl (AS.nil (D0.s hC rfl (n' (sg' 15 rfl (G' 6 rfl (a1' rfl (a1' rfl (a1' rfl (a0' rfl (a1' rfl (a1' rfl ?_)))))))))))))
 exact pO' rfl (pa' rfl (a0' rfl (an' (n' (re' (rt' rfl rfl rfl))))))
def J0 (text:Str)(parserParser:B0):Option (Bool×B0):=
 Y4 text parserParser>>=fun x1=>
 if (!x1)=true then
  some (false,parserParser)
 else
  some (true,(B0.mk parserParser.tokens (IntKind.i64.wrap (parserParser.next+1)) parserParser.endV))
theorem V0 {text parserParser res}(hh:J0 text parserParser=some res):K0 C 61 [.ref 0 0,.d (.str text)] [.row (B0.cells parserParser) 99] (Ret [.row (B0.cells res.2) 99] (.d (.bool res.1))):=by
 unfold J0 at hh
 obtain ⟨x1,hx1,hh⟩:=bs' hh
 refine K0.intro hC Tryz.func61 rfl rfl rfl (t' rfl (S' (p' 2 rfl (g' [0] (Qo hx1) rfl rfl rfl rfl rfl rfl (e' rfl (ci' rfl hh (fun hh=>?_) (fun hh=>?_)))))))
 ·cases hh
  exact t' rfl (re' (rt' rfl rfl rfl))
 cases hh
 exact sk' (p' 7 rfl (D0.s hC rfl (n' (t' rfl (re' (rt' rfl rfl rfl))))))
def N3 (parserParser:B0):Option Bool:=
 (if (decide (parserParser.next < ((parserParser.tokens).length:Int)))=true then idx parserParser.tokens parserParser.next else some default)>>=fun x1=>
 some (bif (decide (parserParser.next < ((parserParser.tokens).length:Int))) then (x1.Kind == 0) else false)
theorem Mk {parserParser res}(hh:N3 parserParser=some res):K0 C 172 [.ref 0 0] [.row (B0.cells parserParser) 99] (Ret [.row (B0.cells parserParser) 99] (.d (.bool res))):=by
 unfold N3 at hh
 obtain ⟨x1,hx1,hh⟩:=bs' hh
 cases hh
 refine K0.intro hC Tryz.func172 rfl rfl rfl (t' rfl (S' (AEx.drawG hC 25 rfl rfl rfl (G' 8 rfl (AG.qe hC rfl (fun hg=>⟨trivial,trivial⟩) (E0.lenA _) (G' 3 rfl (a1' rfl (a1' rfl (a1' rfl (a0' rfl (a1' rfl (a1' rfl (a1' rfl ?_)))))))))))))
 exact AG.i hC rfl rfl (fun hg=>⟨hg,hg,trivial⟩) (fun hw=>⟨I1 (Y1 hw hx1),E0.idx (Y1 hw hx1),rfl⟩) (a1' rfl (a1' rfl (a1' rfl (pa' rfl (a0' rfl (an' (n' (re' (rt' rfl rfl rfl)))))))))
def O3 (parserParser:B0):Option (Pn Unit):=
 if (decide (parserParser.next < ((parserParser.tokens).length:Int)))=true then
  idx parserParser.tokens parserParser.next>>=fun x1=>
  some (.pn x1.At)
 else
  some (.pn parserParser.endV)
theorem S4 {parserParser res}(hh:O3 parserParser=some res):I2 C 59 [.ref 0 0] [.row (B0.cells parserParser) 99] (V6 res (fun rr=>[.row (B0.cells parserParser) 99]) (fun rr=>.tup [])) (G6 res G4 [.row (B0.cells parserParser) 99]):=by
 unfold O3 at hh
 refine I2.intro hC Tryz.func59 rfl rfl rfl (t' rfl (S' (S' (AEx.draw hC 10 rfl rfl rfl (O' 8 rfl (AQ.qe hC rfl trivial (E0.lenA _) (E' rfl (n' (ci' rfl hh (fun hh=>?_) (fun hh=>?_))))))))))
 ·obtain ⟨x1,hx1,hh⟩:=bs' hh
  cases hh
  exact AEx.draw hC 12 rfl rfl rfl (O' 8 rfl (AQ.i hC rfl (I1 hx1) (E0.idx hx1) rfl (E' rfl (n' (P' 2 rfl (pn' hC rfl ((fun hi=>pe' rfl rfl hi))))))))
 cases hh
 exact sk' (P' 2 rfl (pn' hC rfl ((fun hi=>pe' rfl rfl hi))))
def W3 (parserParser:B0):Option (Pn (Str×B0)):=
 idx parserParser.tokens (IntKind.i64.wrap ((IntKind.i64.wrap (parserParser.next+1)) - 1))>>=fun x3=>
 some (.ok (x3.Text,(B0.mk parserParser.tokens (IntKind.i64.wrap (parserParser.next+1)) parserParser.endV)))
theorem Nd {parserParser res}(hh:W3 parserParser=some res):JMp C 51 1 Tryz.f132 [1,1] [(0,.ref 0 0)] [.row (B0.cells parserParser) 99] (V6 res (fun rr=>[.row (B0.cells rr.2) 99]) (fun rr=>.d (.str rr.1))) (G6 res G4 [.row (B0.cells parserParser) 99]):=by
 unfold W3 at hh
 obtain ⟨x3,hx3,hh⟩:=bs' hh
 cases hh
 exact p' 7 rfl (D0.s hC rfl (n' (S' (AEx.draw hC 13 rfl rfl rfl (O' 9 rfl (AQ.i hC rfl (I1 hx3) (E0.idx hx3) rfl (E' rfl (n' (re' (rt' rfl rfl rfl))))))))))
def C4 (k:Int)(parserParser:B0):Option (Pn (Str×B0)):=
 (if (!(decide (parserParser.next≥((parserParser.tokens).length:Int))))=true then idx parserParser.tokens parserParser.next else some default)>>=fun x1=>
 if (bif (decide (parserParser.next≥((parserParser.tokens).length:Int))) then true else (x1.Kind != k))=true then
  O3 parserParser>>=fun x2=>match x2 with
  | .pn nn=>
  some (.pn nn)
  | .ok x2=>
  W3 parserParser
 else
  W3 parserParser
theorem G8 {k parserParser res}(hh:C4 k parserParser=some res):I2 C 132 [.ref 0 0,.d (.int .i64 k)] [.row (B0.cells parserParser) 99] (V6 res (fun rr=>[.row (B0.cells rr.2) 99]) (fun rr=>.d (.str rr.1))) (G6 res G4 [.row (B0.cells parserParser) 99]):=by
 unfold C4 at hh
 obtain ⟨x1,hx1,hh⟩:=bs' hh
 refine I2.intro hC Tryz.func132 rfl rfl rfl (t' rfl (S' (S' (AEx.drawG hC 25 rfl rfl rfl (G' 8 rfl (AG.qe hC rfl (fun hg=>⟨trivial,trivial⟩) (E0.lenA _) (G' 3 rfl (a1' rfl (a1' rfl (a1' rfl (a0' rfl (a1' rfl (a1' rfl ?_)))))))))))))
 refine a1' rfl (AG.i hC rfl rfl (fun hg=>⟨hg,hg,trivial⟩) (fun hw=>⟨I1 (Y1 hw hx1),E0.idx (Y1 hw hx1),rfl⟩) (a1' rfl (a1' rfl (a0' rfl (a2' rfl (po' rfl (an' (n' (ci' rfl hh (fun hh=>?_) (fun hh=>?_))))))))))
 ·refine P' 1 rfl ?_
  rcases bp' hh with ⟨nn,hx2,⟨⟩⟩ | ⟨x2,hx2,hh⟩
  ·exact gn' [0] (S4 hx2) rfl rfl rfl rfl rfl (fun hi=>pe' rfl rfl hi)
  exact g' [0] ((S4 hx2).ok) rfl rfl rfl rfl rfl rfl (n' (ew' (Nd hh) rfl rfl rfl))
 exact sk' (ew' (Nd hh) rfl rfl rfl)
def E2 (parserParser:B0):Option (Pn (Str×B0)):=
 C4 0 parserParser>>=fun x1=>match x1 with
 | .pn nn=>
 some (.pn nn)
 | .ok x1=>
 some (.ok (x1.1,x1.2))
theorem R1 {parserParser res}(hh:E2 parserParser=some res):I2 C 73 [.ref 0 0] [.row (B0.cells parserParser) 99] (V6 res (fun rr=>[.row (B0.cells rr.2) 99]) (fun rr=>.d (.str rr.1))) (G6 res G4 [.row (B0.cells parserParser) 99]):=by
 unfold E2 at hh
 refine I2.intro hC Tryz.func73 rfl rfl rfl (t' rfl (p' 1 rfl ?_))
 rcases bp' hh with ⟨nn,hx1,⟨⟩⟩ | ⟨x1,hx1,hh⟩
 ·exact gn' [0] (G8 hx1) rfl rfl rfl rfl rfl (fun hi=>pe' rfl rfl hi)
 cases hh
 exact g' [0] ((G8 hx1).ok) rfl rfl rfl rfl rfl rfl (e' rfl (re' (rt' rfl rfl rfl)))
def N0 (text:Str)(parserParser:B0):Option (Pn B0):=
 J0 text parserParser>>=fun x1=>
 if (!x1.1)=true then
  O3 x1.2>>=fun x2=>match x2 with
  | .pn nn=>
  some (.pn nn)
  | .ok x2=>
  some (.ok x1.2)
 else
  some (.ok x1.2)
theorem C2 {text parserParser res}(hh:N0 text parserParser=some res):I2 C 62 [.ref 0 0,.d (.str text)] [.row (B0.cells parserParser) 99] (V6 res (fun rr=>[.row (B0.cells rr) 99]) (fun rr=>.tup [])) (G6 res G4 [.dead]):=by
 unfold N0 at hh
 obtain ⟨x1,hx1,hh⟩:=bs' hh
 refine I2.intro hC Tryz.func62 rfl rfl rfl (p' 2 rfl (g' [0] (V0 hx1) rfl rfl rfl rfl rfl rfl (e' rfl (ci' rfl hh (fun hh=>?_) (fun hh=>?_)))))
 ·refine P' 1 rfl ?_
  rcases bp' hh with ⟨nn,hx2,⟨⟩⟩ | ⟨x2,hx2,hh⟩
  ·exact gn' [0] (S4 hx2) rfl rfl rfl rfl rfl (fun hi=>peW ⟨trivial,trivial⟩ rfl hi)
  cases hh
  exact g' [0] ((S4 hx2).ok) rfl rfl rfl rfl rfl rfl (n' (rn' rfl rfl rfl))
 cases hh
 exact sk' (rn' rfl rfl rfl)
def D3 (parserParser:B0):Option (Pn (Int×B0)):=
 C4 1 parserParser>>=fun x1=>match x1 with
 | .pn nn=>
 some (.pn nn)
 | .ok x1=>
 Im x1.1>>=fun x2=>
 some (.ok (x2,x1.2))
theorem Ee {parserParser res}(hh:D3 parserParser=some res):I2 C 131 [.ref 0 0] [.row (B0.cells parserParser) 99] (V6 res (fun rr=>[.row (B0.cells rr.2) 99]) (fun rr=>.d (.int .i64 rr.1))) (G6 res G4 [.row (B0.cells parserParser) 99]):=by
 unfold D3 at hh
 refine I2.intro hC Tryz.func131 rfl rfl rfl (t' rfl (p' 1 rfl ?_))
 rcases bp' hh with ⟨nn,hx1,⟨⟩⟩ | ⟨x1,hx1,hh⟩
 ·exact gn' [0] (G8 hx1) rfl rfl rfl rfl rfl (fun hi=>pe' rfl rfl hi)
 obtain ⟨x2,hx2,hh⟩:=bs' hh
 cases hh
 exact g' [0] ((G8 hx1).ok) rfl rfl rfl rfl rfl rfl (c' (T14 hx2) rfl rfl (e' rfl (t' rfl (re' (rt' rfl rfl rfl)))))
def K3 (parserParser:B0):Option (Int×Bool×B0):=
 J0 [42] parserParser>>=fun x1=>
 if x1.1=true then
  some (10,true,x1.2)
 else
  J0 [47] x1.2>>=fun x2=>
  if x2.1=true then
   some (11,true,x2.2)
  else
   J0 [37] x2.2>>=fun x3=>
   some (12,x3.1,x3.2)
theorem Di {parserParser res}(hh:K3 parserParser=some res):K0 C 215 [.ref 0 0] [.row [.ref 1 0] 68,.row (B0.cells parserParser) 99] (Ret [.row [.ref 1 0] 68,.row (B0.cells res.2.2) 99] (.tup [.d (.int .i64 res.1),.d (.bool res.2.1)])):=by
 unfold K3 at hh
 obtain ⟨x1,hx1,hh⟩:=bs' hh
 refine K0.intro hC Tryz.func215 rfl rfl rfl (t' rfl (S' (bk' (p' 1 rfl (g' [1] (V0 hx1) rfl rfl rfl rfl rfl rfl (e' rfl (ci' rfl hh (fun hh=>?_) (fun hh=>?_))))))))
 ·cases hh
  exact t' rfl (re' (rt' rfl rfl rfl))
 obtain ⟨x2,hx2,hh⟩:=bs' hh
 refine p' 1 rfl (g' [1] (V0 hx2) rfl rfl rfl rfl rfl rfl (e' rfl (ci' rfl hh (fun hh=>?_) (fun hh=>?_))))
 ·cases hh
  exact t' rfl (re' (rt' rfl rfl rfl))
 obtain ⟨x3,hx3,hh⟩:=bs' hh
 cases hh
 exact sk' (p' 1 rfl (g' [1] (V0 hx3) rfl rfl rfl rfl rfl rfl (e' rfl (re' (rt' rfl rfl rfl)))))
def L4 (parserParser:B0):Option (Int×Bool×B0):=
 J0 [43] parserParser>>=fun x1=>
 if x1.1=true then
  some (8,true,x1.2)
 else
  J0 [45] x1.2>>=fun x2=>
  some (9,x2.1,x2.2)
theorem Ml {parserParser res}(hh:L4 parserParser=some res):K0 C 204 [.ref 0 0] [.row [.ref 1 0] 68,.row (B0.cells parserParser) 99] (Ret [.row [.ref 1 0] 68,.row (B0.cells res.2.2) 99] (.tup [.d (.int .i64 res.1),.d (.bool res.2.1)])):=by
 unfold L4 at hh
 obtain ⟨x1,hx1,hh⟩:=bs' hh
 refine K0.intro hC Tryz.func204 rfl rfl rfl (t' rfl (S' (p' 1 rfl (g' [1] (V0 hx1) rfl rfl rfl rfl rfl rfl (n' (ci' rfl hh (fun hh=>?_) (fun hh=>?_)))))))
 ·cases hh
  exact t' rfl (re' (rt' rfl rfl rfl))
 obtain ⟨x2,hx2,hh⟩:=bs' hh
 cases hh
 exact sk' (p' 1 rfl (g' [1] (V0 hx2) rfl rfl rfl rfl rfl rfl (e' rfl (re' (rt' rfl rfl rfl)))))
def M4 (parserParser:B0):Option (Int×Bool×B0):=
 J0 [38,38] parserParser>>=fun x1=>
 some (19,x1.1,x1.2)
theorem Nl {parserParser res}(hh:M4 parserParser=some res):K0 C 167 [.ref 0 0] [.row [.ref 1 0] 68,.row (B0.cells parserParser) 99] (Ret [.row [.ref 1 0] 68,.row (B0.cells res.2.2) 99] (.tup [.d (.int .i64 res.1),.d (.bool res.2.1)])):=by
 unfold M4 at hh
 obtain ⟨x1,hx1,hh⟩:=bs' hh
 cases hh
 exact K0.intro hC Tryz.func167 rfl rfl rfl (t' rfl (p' 1 rfl (g' [1] (V0 hx1) rfl rfl rfl rfl rfl rfl (e' rfl (re' (rt' rfl rfl rfl))))))
def Z4 (parserParser:B0):Option (Int×Bool×B0):=
 J0 [124,124] parserParser>>=fun x1=>
 some (20,x1.1,x1.2)
theorem Lm {parserParser res}(hh:Z4 parserParser=some res):K0 C 112 [.ref 0 0] [.row [.ref 1 0] 68,.row (B0.cells parserParser) 99] (Ret [.row [.ref 1 0] 68,.row (B0.cells res.2.2) 99] (.tup [.d (.int .i64 res.1),.d (.bool res.2.1)])):=by
 unfold Z4 at hh
 obtain ⟨x1,hx1,hh⟩:=bs' hh
 cases hh
 exact K0.intro hC Tryz.func112 rfl rfl rfl (t' rfl (p' 1 rfl (g' [1] (V0 hx1) rfl rfl rfl rfl rfl rfl (e' rfl (re' (rt' rfl rfl rfl))))))
mutual
def O0 (parserParser:B0):Option (Pn (A0×B0)):=
 A5 parserParser>>=fun x1=>match x1 with
 | .pn nn=>
 some (.pn nn)
 | .ok x1=>
 J0 [63] x1.2>>=fun x2=>
 if (!x2.1)=true then
  some (.ok (x1.1,x2.2))
 else
  O0 x2.2>>=fun x3=>match x3 with
  | .pn nn=>
  some (.pn nn)
  | .ok x3=>
  N0 [58] x3.2>>=fun x4=>match x4 with
  | .pn nn=>
  some (.pn nn)
  | .ok x4=>
  O0 x4>>=fun x5=>match x5 with
  | .pn nn=>
  some (.pn nn)
  | .ok x5=>
  some (.ok ((A0.mk 23 0 [] [x1.1,x3.1,x5.1]),x5.2))
 partial_fixpoint
def A5 (parserParser:B0):Option (Pn (A0×B0)):=
 O7 parserParser>>=fun x1=>match x1 with
 | .pn nn=>
 some (.pn nn)
 | .ok x1=>
 some (.ok (x1.1,x1.2))
 partial_fixpoint
def O7 (parserParser:B0):Option (Pn (A0×B0)):=
 U3 parserParser>>=fun x1=>match x1 with
 | .pn nn=>
 some (.pn nn)
 | .ok x1=>
 L2 x1.2 x1.1
 partial_fixpoint
def L2 (o0:B0)(o3:A0):Option (Pn (A0×B0)):=
 Z4 o0>>=fun x2=>
 if (!x2.2.1)=true then
  some (.ok (o3,x2.2.2))
 else
  U3 x2.2.2>>=fun x3=>match x3 with
  | .pn nn=>
  some (.pn nn)
  | .ok x3=>
  L2 x3.2 (A0.mk x2.1 0 [] [o3,x3.1])
 partial_fixpoint
def U3 (parserParser:B0):Option (Pn (A0×B0)):=
 Z5 parserParser>>=fun x1=>match x1 with
 | .pn nn=>
 some (.pn nn)
 | .ok x1=>
 some (.ok (x1.1,x1.2))
 partial_fixpoint
def Z5 (parserParser:B0):Option (Pn (A0×B0)):=
 N2 parserParser>>=fun x1=>match x1 with
 | .pn nn=>
 some (.pn nn)
 | .ok x1=>
 Z1 x1.2 x1.1
 partial_fixpoint
def Z1 (o0:B0)(o3:A0):Option (Pn (A0×B0)):=
 M4 o0>>=fun x2=>
 if (!x2.2.1)=true then
  some (.ok (o3,x2.2.2))
 else
  N2 x2.2.2>>=fun x3=>match x3 with
  | .pn nn=>
  some (.pn nn)
  | .ok x3=>
  Z1 x3.2 (A0.mk x2.1 0 [] [o3,x3.1])
 partial_fixpoint
def N2 (parserParser:B0):Option (Pn (A0×B0)):=
 J3 parserParser>>=fun x1=>match x1 with
 | .pn nn=>
 some (.pn nn)
 | .ok x1=>
 J0 [61,61] x1.2>>=fun x2=>
 if x2.1=true then
  X0 x2.2 x1 13
 else
  J0 [33,61] x2.2>>=fun x4=>
  if x4.1=true then
   X0 x4.2 x1 14
  else
   J0 [60] x4.2>>=fun x5=>
   if x5.1=true then
    X0 x5.2 x1 15
   else
    J0 [60,61] x5.2>>=fun x6=>
    if x6.1=true then
     X0 x6.2 x1 16
    else
     J0 [62] x6.2>>=fun x7=>
     if x7.1=true then
      X0 x7.2 x1 17
     else
      J0 [62,61] x7.2>>=fun x8=>
      if x8.1=true then
       X0 x8.2 x1 18
      else
       some (.ok (x1.1,x8.2))
 partial_fixpoint
def X0 (o0:B0)(x1:A0×B0)(op:Int):Option (Pn (A0×B0)):=
 J3 o0>>=fun x3=>match x3 with
 | .pn nn=>
 some (.pn nn)
 | .ok x3=>
 some (.ok ((A0.mk op 0 [] [x1.1,x3.1]),x3.2))
 partial_fixpoint
def J3 (parserParser:B0):Option (Pn (A0×B0)):=
 A6 parserParser>>=fun x1=>match x1 with
 | .pn nn=>
 some (.pn nn)
 | .ok x1=>
 some (.ok (x1.1,x1.2))
 partial_fixpoint
def A6 (parserParser:B0):Option (Pn (A0×B0)):=
 X2 parserParser>>=fun x1=>match x1 with
 | .pn nn=>
 some (.pn nn)
 | .ok x1=>
 A2 x1.2 x1.1
 partial_fixpoint
def A2 (o0:B0)(o3:A0):Option (Pn (A0×B0)):=
 L4 o0>>=fun x2=>
 if (!x2.2.1)=true then
  some (.ok (o3,x2.2.2))
 else
  X2 x2.2.2>>=fun x3=>match x3 with
  | .pn nn=>
  some (.pn nn)
  | .ok x3=>
  A2 x3.2 (A0.mk x2.1 0 [] [o3,x3.1])
 partial_fixpoint
def X2 (parserParser:B0):Option (Pn (A0×B0)):=
 B6 parserParser>>=fun x1=>match x1 with
 | .pn nn=>
 some (.pn nn)
 | .ok x1=>
 some (.ok (x1.1,x1.2))
 partial_fixpoint
def B6 (parserParser:B0):Option (Pn (A0×B0)):=
 F2 parserParser>>=fun x1=>match x1 with
 | .pn nn=>
 some (.pn nn)
 | .ok x1=>
 B2 x1.2 x1.1
 partial_fixpoint
def B2 (o0:B0)(o3:A0):Option (Pn (A0×B0)):=
 K3 o0>>=fun x2=>
 if (!x2.2.1)=true then
  some (.ok (o3,x2.2.2))
 else
  F2 x2.2.2>>=fun x3=>match x3 with
  | .pn nn=>
  some (.pn nn)
  | .ok x3=>
  B2 x3.2 (A0.mk x2.1 0 [] [o3,x3.1])
 partial_fixpoint
def F2 (parserParser:B0):Option (Pn (A0×B0)):=
 J0 [45] parserParser>>=fun x1=>
 if x1.1=true then
  F2 x1.2>>=fun x4=>match x4 with
  | .pn nn=>
  some (.pn nn)
  | .ok x4=>
  some (.ok ((A0.mk 6 0 [] [x4.1]),x4.2))
 else
  J0 [33] x1.2>>=fun x2=>
  if x2.1=true then
   F2 x2.2>>=fun x5=>match x5 with
   | .pn nn=>
   some (.pn nn)
   | .ok x5=>
   some (.ok ((A0.mk 7 0 [] [x5.1]),x5.2))
  else
   T4 x2.2>>=fun x3=>match x3 with
   | .pn nn=>
   some (.pn nn)
   | .ok x3=>
   some (.ok (x3.1,x3.2))
 partial_fixpoint
def T4 (parserParser:B0):Option (Pn (A0×B0)):=
 N3 parserParser>>=fun x1=>
 if x1=true then
  N4 parserParser>>=fun x2=>match x2 with
  | .pn nn=>
  some (.pn nn)
  | .ok x2=>
  some (.ok (x2.1,x2.2))
 else
  J0 [116,114,117,101] parserParser>>=fun x3=>
  if x3.1=true then
   some (.ok ((A0.mk 1 0 [] []),x3.2))
  else
   J0 [102,97,108,115,101] x3.2>>=fun x4=>
   if x4.1=true then
    some (.ok ((A0.mk 2 0 [] []),x4.2))
   else
    J0 [109,105,110] x4.2>>=fun x5=>
    if x5.1=true then
     B5 21 x5.2>>=fun x11=>match x11 with
     | .pn nn=>
     some (.pn nn)
     | .ok x11=>
     some (.ok (x11.1,x11.2))
    else
     J0 [109,97,120] x5.2>>=fun x6=>
     if x6.1=true then
      B5 22 x6.2>>=fun x12=>match x12 with
      | .pn nn=>
      some (.pn nn)
      | .ok x12=>
      some (.ok (x12.1,x12.2))
     else
      J0 [40] x6.2>>=fun x7=>
      if x7.1=true then
       O0 x7.2>>=fun x9=>match x9 with
       | .pn nn=>
       some (.pn nn)
       | .ok x9=>
       N0 [41] x9.2>>=fun x10=>match x10 with
       | .pn nn=>
       some (.pn nn)
       | .ok x10=>
       some (.ok (x9.1,x10))
      else
       D3 x7.2>>=fun x8=>match x8 with
       | .pn nn=>
       some (.pn nn)
       | .ok x8=>
       some (.ok ((A0.mk 0 x8.1 [] []),x8.2))
 partial_fixpoint
def B5 (op:Int)(parserParser:B0):Option (Pn (A0×B0)):=
 N0 [40] parserParser>>=fun x1=>match x1 with
 | .pn nn=>
 some (.pn nn)
 | .ok x1=>
 O0 x1>>=fun x2=>match x2 with
 | .pn nn=>
 some (.pn nn)
 | .ok x2=>
 N0 [44] x2.2>>=fun x3=>match x3 with
 | .pn nn=>
 some (.pn nn)
 | .ok x3=>
 O0 x3>>=fun x4=>match x4 with
 | .pn nn=>
 some (.pn nn)
 | .ok x4=>
 N0 [41] x4.2>>=fun x5=>match x5 with
 | .pn nn=>
 some (.pn nn)
 | .ok x5=>
 some (.ok ((A0.mk op 0 [] [x2.1,x4.1]),x5))
 partial_fixpoint
def N4 (parserParser:B0):Option (Pn (A0×B0)):=
 E2 parserParser>>=fun x1=>match x1 with
 | .pn nn=>
 some (.pn nn)
 | .ok x1=>
 T2 x1.2 3 x1.1 []
 partial_fixpoint
def T2 (o0:B0)(o2_Op:Int)(o2_Name:Str)(o2_Kids:List A0):Option (Pn (A0×B0)):=
 J0 [46] o0>>=fun x2=>
 if x2.1=true then
  E2 x2.2>>=fun x3=>match x3 with
  | .pn nn=>
  some (.pn nn)
  | .ok x3=>
  T2 x3.2 4 x3.1 [(A0.mk o2_Op 0 o2_Name o2_Kids)]
 else
  J0 [91] x2.2>>=fun x4=>
  if x4.1=true then
   O0 x4.2>>=fun x5=>match x5 with
   | .pn nn=>
   some (.pn nn)
   | .ok x5=>
   N0 [93] x5.2>>=fun x6=>match x6 with
   | .pn nn=>
   some (.pn nn)
   | .ok x6=>
   T2 x6 5 [] [(A0.mk o2_Op 0 o2_Name o2_Kids),x5.1]
  else
   some (.ok ((A0.mk o2_Op 0 o2_Name o2_Kids),x4.2))
 partial_fixpoint
end
abbrev Mc (parserParser:B0)(res:Pn (A0×B0)):Prop:=I2 C 30 [.ref 0 0] [.row (B0.cells parserParser) 99] (V6 res (fun rr=>[.row (B0.cells rr.2) 99]) (fun rr=>.agg (A0.cells rr.1))) (G6 res G4 [.dead])
abbrev Dq (parserParser:B0)(res:Pn (A0×B0)):Prop:=I2 C 60 [.ref 0 0] [.row (B0.cells parserParser) 99] (V6 res (fun rr=>[.row (B0.cells rr.2) 99]) (fun rr=>.agg (A0.cells rr.1))) (G6 res G4 [.dead])
abbrev Mm (parserParser:B0)(res:Pn (A0×B0)):Prop:=I2 C 110 [.ref 0 0,.bnd 111 [.ref 0 0],.clo 112 [.ref 1 0]] [.row (B0.cells parserParser) 99,.row [.ref 0 0] 68] (V6 res (fun rr=>[.row (B0.cells rr.2) 99,.row [.ref 0 0] 68]) (fun rr=>.agg (A0.cells rr.1))) (G6 res G4 [.dead,.row [.ref 0 0] 68])
abbrev Uj (o0:B0)(o3:A0)(res:Pn (A0×B0)):Prop:=LMp C 26 2 Tryz.f110 [1,1,4] [(1,.bnd 111 [.ref 0 0]),(2,.clo 112 [.ref 1 0]),(6,.ref 2 0),(7,.ref 3 0)] [.row (B0.cells o0) 99,.row [.ref 0 0] 68,.row [.d (.int .i64 0),.d (.int .i64 0),.d (.str []),.full (A0.rows [])] 26,.row (A0.cells o3) 26] (V6 res (fun rr=>[.row (B0.cells rr.2) 99,.row [.ref 0 0] 68]) (fun rr=>.agg (A0.cells rr.1))) (G6 res G4 [.dead,.row [.ref 0 0] 68])
abbrev Ro (parserParser:B0)(res:Pn (A0×B0)):Prop:=I2 C 111 [.ref 0 0] [.row (B0.cells parserParser) 99] (V6 res (fun rr=>[.row (B0.cells rr.2) 99]) (fun rr=>.agg (A0.cells rr.1))) (G6 res G4 [.dead])
abbrev Vj (parserParser:B0)(res:Pn (A0×B0)):Prop:=I2 C 110 [.ref 0 0,.bnd 166 [.ref 0 0],.clo 167 [.ref 1 0]] [.row (B0.cells parserParser) 99,.row [.ref 0 0] 68] (V6 res (fun rr=>[.row (B0.cells rr.2) 99,.row [.ref 0 0] 68]) (fun rr=>.agg (A0.cells rr.1))) (G6 res G4 [.dead,.row [.ref 0 0] 68])
abbrev Sh (o0:B0)(o3:A0)(res:Pn (A0×B0)):Prop:=LMp C 26 2 Tryz.f110 [1,1,4] [(1,.bnd 166 [.ref 0 0]),(2,.clo 167 [.ref 1 0]),(6,.ref 2 0),(7,.ref 3 0)] [.row (B0.cells o0) 99,.row [.ref 0 0] 68,.row [.d (.int .i64 0),.d (.int .i64 0),.d (.str []),.full (A0.rows [])] 26,.row (A0.cells o3) 26] (V6 res (fun rr=>[.row (B0.cells rr.2) 99,.row [.ref 0 0] 68]) (fun rr=>.agg (A0.cells rr.1))) (G6 res G4 [.dead,.row [.ref 0 0] 68])
abbrev Ei (parserParser:B0)(res:Pn (A0×B0)):Prop:=I2 C 166 [.ref 0 0] [.row (B0.cells parserParser) 99] (V6 res (fun rr=>[.row (B0.cells rr.2) 99]) (fun rr=>.agg (A0.cells rr.1))) (G6 res G4 [.dead])
abbrev Cg (o0:B0)(x1:A0×B0)(op:Int)(res:Pn (A0×B0)):Prop:=JMp C 32 1 Tryz.f166 [1,1,1,1] [(0,.ref 0 0),(2,.ref 1 0),(3,.ref 2 0),(4,.d (.int .i64 op))] [.row (B0.cells o0) 99,.row [.d (.int .i64 0),.d (.int .i64 0),.d (.str []),.full (A0.rows [])] 26,.row (A0.cells x1.1) 26] (V6 res (fun rr=>[.row (B0.cells rr.2) 99]) (fun rr=>.agg (A0.cells rr.1))) (G6 res G4 [.dead])
abbrev So (parserParser:B0)(res:Pn (A0×B0)):Prop:=I2 C 189 [.ref 0 0] [.row (B0.cells parserParser) 99] (V6 res (fun rr=>[.row (B0.cells rr.2) 99]) (fun rr=>.agg (A0.cells rr.1))) (G6 res G4 [.dead])
abbrev Wj (parserParser:B0)(res:Pn (A0×B0)):Prop:=I2 C 110 [.ref 0 0,.bnd 203 [.ref 0 0],.clo 204 [.ref 1 0]] [.row (B0.cells parserParser) 99,.row [.ref 0 0] 68] (V6 res (fun rr=>[.row (B0.cells rr.2) 99,.row [.ref 0 0] 68]) (fun rr=>.agg (A0.cells rr.1))) (G6 res G4 [.dead,.row [.ref 0 0] 68])
abbrev Th (o0:B0)(o3:A0)(res:Pn (A0×B0)):Prop:=LMp C 26 2 Tryz.f110 [1,1,4] [(1,.bnd 203 [.ref 0 0]),(2,.clo 204 [.ref 1 0]),(6,.ref 2 0),(7,.ref 3 0)] [.row (B0.cells o0) 99,.row [.ref 0 0] 68,.row [.d (.int .i64 0),.d (.int .i64 0),.d (.str []),.full (A0.rows [])] 26,.row (A0.cells o3) 26] (V6 res (fun rr=>[.row (B0.cells rr.2) 99,.row [.ref 0 0] 68]) (fun rr=>.agg (A0.cells rr.1))) (G6 res G4 [.dead,.row [.ref 0 0] 68])
abbrev Ok (parserParser:B0)(res:Pn (A0×B0)):Prop:=I2 C 203 [.ref 0 0] [.row (B0.cells parserParser) 99] (V6 res (fun rr=>[.row (B0.cells rr.2) 99]) (fun rr=>.agg (A0.cells rr.1))) (G6 res G4 [.dead])
abbrev Xj (parserParser:B0)(res:Pn (A0×B0)):Prop:=I2 C 110 [.ref 0 0,.bnd 214 [.ref 0 0],.clo 215 [.ref 1 0]] [.row (B0.cells parserParser) 99,.row [.ref 0 0] 68] (V6 res (fun rr=>[.row (B0.cells rr.2) 99,.row [.ref 0 0] 68]) (fun rr=>.agg (A0.cells rr.1))) (G6 res G4 [.dead,.row [.ref 0 0] 68])
abbrev Uh (o0:B0)(o3:A0)(res:Pn (A0×B0)):Prop:=LMp C 26 2 Tryz.f110 [1,1,4] [(1,.bnd 214 [.ref 0 0]),(2,.clo 215 [.ref 1 0]),(6,.ref 2 0),(7,.ref 3 0)] [.row (B0.cells o0) 99,.row [.ref 0 0] 68,.row [.d (.int .i64 0),.d (.int .i64 0),.d (.str []),.full (A0.rows [])] 26,.row (A0.cells o3) 26] (V6 res (fun rr=>[.row (B0.cells rr.2) 99,.row [.ref 0 0] 68]) (fun rr=>.agg (A0.cells rr.1))) (G6 res G4 [.dead,.row [.ref 0 0] 68])
abbrev Nm (parserParser:B0)(res:Pn (A0×B0)):Prop:=I2 C 214 [.ref 0 0] [.row (B0.cells parserParser) 99] (V6 res (fun rr=>[.row (B0.cells rr.2) 99]) (fun rr=>.agg (A0.cells rr.1))) (G6 res G4 [.dead])
abbrev Qk (parserParser:B0)(res:Pn (A0×B0)):Prop:=I2 C 223 [.ref 0 0] [.row (B0.cells parserParser) 99] (V6 res (fun rr=>[.row (B0.cells rr.2) 99]) (fun rr=>.agg (A0.cells rr.1))) (G6 res G4 [.dead])
abbrev Tn (op:Int)(parserParser:B0)(res:Pn (A0×B0)):Prop:=I2 C 228 [.ref 0 0,.d (.int .i64 op)] [.row (B0.cells parserParser) 99] (V6 res (fun rr=>[.row (B0.cells rr.2) 99]) (fun rr=>.agg (A0.cells rr.1))) (G6 res G4 [.dead])
abbrev Om (parserParser:B0)(res:Pn (A0×B0)):Prop:=I2 C 195 [.ref 0 0] [.row (B0.cells parserParser) 99] (V6 res (fun rr=>[.row (B0.cells rr.2) 99]) (fun rr=>.agg (A0.cells rr.1))) (G6 res G4 [.dead])
abbrev Yj (o0:B0)(o2_Op:Int)(o2_Name:Str)(o2_Kids:List A0)(res:Pn (A0×B0)):Prop:=LMp C 28 1 Tryz.f195 [1,1,4] [(0,.ref 0 0),(2,.ref 1 0),(3,.ref 2 0)] [.row (B0.cells o0) 99,.row [.d (.int .i64 0),.d (.int .i64 0),.d (.str []),.full (A0.rows [])] 26,.row [.d (.int .i64 o2_Op),.d (.int .i64 0),.d (.str o2_Name),.d (.sl (A0.rows o2_Kids))] 26] (V6 res (fun rr=>[.row (B0.cells rr.2) 99]) (fun rr=>.agg (A0.cells rr.1))) (G6 res G4 [.dead])
theorem Pg:(∀ parserParser res,O0 parserParser=some res→Mc parserParser res)∧(∀ parserParser res,A5 parserParser=some res→Dq parserParser res)∧(∀ parserParser res,O7 parserParser=some res→Mm parserParser res)∧(∀ o0 o3 res,L2 o0 o3=some res→Uj o0 o3 res)∧(∀ parserParser res,U3 parserParser=some res→Ro parserParser res)∧(∀ parserParser res,Z5 parserParser=some res→Vj parserParser res)∧(∀ o0 o3 res,Z1 o0 o3=some res→Sh o0 o3 res)∧(∀ parserParser res,N2 parserParser=some res→Ei parserParser res)∧(∀ o0 x1 op res,X0 o0 x1 op=some res→Cg o0 x1 op res)∧(∀ parserParser res,J3 parserParser=some res→So parserParser res)∧(∀ parserParser res,A6 parserParser=some res→Wj parserParser res)∧(∀ o0 o3 res,A2 o0 o3=some res→Th o0 o3 res)∧(∀ parserParser res,X2 parserParser=some res→Ok parserParser res)∧(∀ parserParser res,B6 parserParser=some res→Xj parserParser res)∧(∀ o0 o3 res,B2 o0 o3=some res→Uh o0 o3 res)∧(∀ parserParser res,F2 parserParser=some res→Nm parserParser res)∧(∀ parserParser res,T4 parserParser=some res→Qk parserParser res)∧(∀ op parserParser res,B5 op parserParser=some res→Tn op parserParser res)∧(∀ parserParser res,N4 parserParser=some res→Om parserParser res)∧(∀ o0 o2_Op o2_Name o2_Kids res,T2 o0 o2_Op o2_Name o2_Kids=some res→Yj o0 o2_Op o2_Name o2_Kids res):=by
 refine O0.mutual_partial_correctness _ _ _ _ _ _ _ _ _ _ _ _ _ _ _ _ _ _ _ _ ?_ ?_ ?_ ?_ ?_ ?_ ?_ ?_ ?_ ?_ ?_ ?_ ?_ ?_ ?_ ?_ ?_ ?_ ?_ ?_
 ·intro g0 g1 ih0 ih1 parserParser res hh
  refine I2.intro hC Tryz.func30 rfl rfl rfl (s' rfl rfl (D0.nf hC rfl (n' (p' 1 rfl ?_))))
  rcases bp' hh with ⟨nn,hx1,⟨⟩⟩ | ⟨x1,hx1,hh⟩
  ·exact gn' [0] (ih1 _ _ hx1) rfl rfl rfl rfl rfl (fun hi=>peW ⟨trivial,trivial⟩ rfl hi)
  obtain ⟨x2,hx2,hh⟩:=bs' hh
  refine g' [0] ((ih1 _ _ hx1).ok) rfl rfl rfl rfl rfl rfl (D0.nf hC rfl (D0.s hC rfl (n' (S' (p' 1 rfl (g' [0] (V0 hx2) rfl rfl rfl rfl rfl rfl (e' rfl (ci' rfl hh (fun hh=>?_) (fun hh=>?_)))))))))
  ·cases hh
   exact p' 1 rfl (D0.s hC rfl (n' (re' (rt' rfl rfl rfl))))
  refine sk' (p' 1 rfl ?_)
  rcases bp' hh with ⟨nn,hx3,⟨⟩⟩ | ⟨x3,hx3,hh⟩
  ·exact gn' [0] (ih0 _ _ hx3) rfl rfl rfl rfl rfl (fun hi=>peW ⟨trivial,trivial⟩ rfl hi)
  refine g' [0] ((ih0 _ _ hx3).ok) rfl rfl rfl rfl rfl rfl (D0.nf hC rfl (D0.s hC rfl (n' (p' 1 rfl ?_))))
  rcases bp' hh with ⟨nn,hx4,⟨⟩⟩ | ⟨x4,hx4,hh⟩
  ·exact gn' [0] (C2 hx4) rfl rfl rfl rfl rfl (fun hi=>peW ⟨trivial,trivial⟩ rfl hi)
  refine g' [0] ((C2 hx4).ok) rfl rfl rfl rfl rfl rfl (n' (S' ?_))
  rcases bp' hh with ⟨nn,hx5,⟨⟩⟩ | ⟨x5,hx5,hh⟩
  ·refine AEx.drawE hC ?_
   refine C0.step rfl (j0:=0) (js:=[1,2]) (by kernel_rfl) ⟨⟨_,rfl,?_⟩,⟨_,rfl,?_⟩,⟨_,rfl,?_⟩,trivial⟩
   ·refine e' rfl ?_
    refine C0.step rfl (j0:=1) (js:=[2]) (by kernel_rfl) ⟨⟨_,rfl,?_⟩,⟨_,rfl,?_⟩,trivial⟩
    ·refine e' rfl ?_
     refine C0.step rfl (j0:=2) (js:=[]) (by kernel_rfl) ⟨⟨_,rfl,?_⟩,trivial⟩
     refine e' rfl ?_
     refine C0.step rfl (j0:=3) (js:=[]) (by kernel_rfl) ⟨⟨_,rfl,?_⟩,trivial⟩
     exact gn' [0] (ih0 _ _ hx5) rfl rfl rfl rfl rfl (fun hi=>peW ⟨trivial,trivial⟩ rfl hi)
    ·refine e' rfl ?_
     refine C0.step rfl (j0:=1) (js:=[3]) (by kernel_rfl) ⟨⟨_,rfl,?_⟩,⟨_,rfl,?_⟩,trivial⟩
     ·refine e' rfl ?_
      refine C0.step rfl (j0:=3) (js:=[]) (by kernel_rfl) ⟨⟨_,rfl,?_⟩,trivial⟩
      exact gn' [0] (ih0 _ _ hx5) rfl rfl rfl rfl rfl (fun hi=>peW ⟨trivial,trivial⟩ rfl hi)
     ·exact gn' [0] (ih0 _ _ hx5) rfl rfl rfl rfl rfl (fun hi=>peW ⟨trivial,trivial⟩ rfl hi)
   ·refine e' rfl ?_
    refine C0.step rfl (j0:=0) (js:=[2]) (by kernel_rfl) ⟨⟨_,rfl,?_⟩,⟨_,rfl,?_⟩,trivial⟩
    ·refine e' rfl ?_
     refine C0.step rfl (j0:=2) (js:=[]) (by kernel_rfl) ⟨⟨_,rfl,?_⟩,trivial⟩
     refine e' rfl ?_
     refine C0.step rfl (j0:=3) (js:=[]) (by kernel_rfl) ⟨⟨_,rfl,?_⟩,trivial⟩
     exact gn' [0] (ih0 _ _ hx5) rfl rfl rfl rfl rfl (fun hi=>peW ⟨trivial,trivial⟩ rfl hi)
    ·refine e' rfl ?_
     refine C0.step rfl (j0:=0) (js:=[3]) (by kernel_rfl) ⟨⟨_,rfl,?_⟩,⟨_,rfl,?_⟩,trivial⟩
     ·refine e' rfl ?_
      refine C0.step rfl (j0:=3) (js:=[]) (by kernel_rfl) ⟨⟨_,rfl,?_⟩,trivial⟩
      exact gn' [0] (ih0 _ _ hx5) rfl rfl rfl rfl rfl (fun hi=>peW ⟨trivial,trivial⟩ rfl hi)
     ·exact gn' [0] (ih0 _ _ hx5) rfl rfl rfl rfl rfl (fun hi=>peW ⟨trivial,trivial⟩ rfl hi)
   ·refine e' rfl ?_
    refine C0.step rfl (j0:=0) (js:=[1,3]) (by kernel_rfl) ⟨⟨_,rfl,?_⟩,⟨_,rfl,?_⟩,⟨_,rfl,?_⟩,trivial⟩
    ·refine e' rfl ?_
     refine C0.step rfl (j0:=1) (js:=[3]) (by kernel_rfl) ⟨⟨_,rfl,?_⟩,⟨_,rfl,?_⟩,trivial⟩
     ·refine e' rfl ?_
      refine C0.step rfl (j0:=3) (js:=[]) (by kernel_rfl) ⟨⟨_,rfl,?_⟩,trivial⟩
      exact gn' [0] (ih0 _ _ hx5) rfl rfl rfl rfl rfl (fun hi=>peW ⟨trivial,trivial⟩ rfl hi)
     ·exact gn' [0] (ih0 _ _ hx5) rfl rfl rfl rfl rfl (fun hi=>peW ⟨trivial,trivial⟩ rfl hi)
    ·refine e' rfl ?_
     refine C0.step rfl (j0:=0) (js:=[3]) (by kernel_rfl) ⟨⟨_,rfl,?_⟩,⟨_,rfl,?_⟩,trivial⟩
     ·refine e' rfl ?_
      refine C0.step rfl (j0:=3) (js:=[]) (by kernel_rfl) ⟨⟨_,rfl,?_⟩,trivial⟩
      exact gn' [0] (ih0 _ _ hx5) rfl rfl rfl rfl rfl (fun hi=>peW ⟨trivial,trivial⟩ rfl hi)
     ·exact gn' [0] (ih0 _ _ hx5) rfl rfl rfl rfl rfl (fun hi=>peW ⟨trivial,trivial⟩ rfl hi)
    ·exact gn' [0] (ih0 _ _ hx5) rfl rfl rfl rfl rfl (fun hi=>peW ⟨trivial,trivial⟩ rfl hi)
  refine AEx.drawE hC ?_
  refine C0.step rfl (j0:=0) (js:=[1,2]) (by kernel_rfl) ⟨⟨_,rfl,?_⟩,⟨_,rfl,?_⟩,⟨_,rfl,?_⟩,trivial⟩
  ·refine e' rfl ?_
   refine C0.step rfl (j0:=1) (js:=[2]) (by kernel_rfl) ⟨⟨_,rfl,?_⟩,⟨_,rfl,?_⟩,trivial⟩
   ·refine e' rfl ?_
    refine C0.step rfl (j0:=2) (js:=[]) (by kernel_rfl) ⟨⟨_,rfl,?_⟩,trivial⟩
    refine e' rfl ?_
    refine C0.step rfl (j0:=3) (js:=[]) (by kernel_rfl) ⟨⟨_,rfl,?_⟩,trivial⟩
    refine g' [0] ((ih0 _ _ hx5).ok) rfl rfl rfl rfl rfl rfl (n' ?_)
    refine C0.step rfl (j0:=4) (js:=[]) (by kernel_rfl) ⟨⟨_,rfl,?_⟩,trivial⟩
    refine D0.be hC rfl (A0.rows_map [x1.1,x3.1,x5.1]).symm (n' ?_)
    refine C0.step rfl (j0:=5) (js:=[]) (by kernel_rfl) ⟨⟨_,rfl,?_⟩,trivial⟩
    refine e' rfl ?_
    refine C0.step rfl (j0:=6) (js:=[]) (by kernel_rfl) ⟨⟨_,rfl,?_⟩,trivial⟩
    refine D0.s hC rfl (n' (C0.nil (by kernel_rfl) (re' ?_)))
    obtain rfl:=oi' hh
    exact ⟨_,.agg [.d (.int .i64 23),.d (.int .i64 0),.d (.str []),.d (.sl (A0.rows [x1.1,x3.1,x5.1]))],[.row (B0.cells x5.2) 99],rfl,(.aggL ⟨.rfl,.rfl,.rfl,.full,trivial⟩),⟨⟨rfl,.refl _,rfl⟩,trivial⟩,rfl,rfl,rpq rfl rfl⟩
   ·refine e' rfl ?_
    refine C0.step rfl (j0:=1) (js:=[3]) (by kernel_rfl) ⟨⟨_,rfl,?_⟩,⟨_,rfl,?_⟩,trivial⟩
    ·refine e' rfl ?_
     refine C0.step rfl (j0:=3) (js:=[]) (by kernel_rfl) ⟨⟨_,rfl,?_⟩,trivial⟩
     refine g' [0] ((ih0 _ _ hx5).ok) rfl rfl rfl rfl rfl rfl (n' ?_)
     refine C0.step rfl (j0:=4) (js:=[]) (by kernel_rfl) ⟨⟨_,rfl,?_⟩,trivial⟩
     refine D0.be hC rfl (A0.rows_map [x1.1,x3.1,x5.1]).symm (n' ?_)
     refine C0.step rfl (j0:=5) (js:=[]) (by kernel_rfl) ⟨⟨_,rfl,?_⟩,trivial⟩
     refine e' rfl ?_
     refine C0.step rfl (j0:=6) (js:=[]) (by kernel_rfl) ⟨⟨_,rfl,?_⟩,trivial⟩
     refine D0.s hC rfl (n' (C0.nil (by kernel_rfl) (re' ?_)))
     obtain rfl:=oi' hh
     exact ⟨_,.agg [.d (.int .i64 23),.d (.int .i64 0),.d (.str []),.d (.sl (A0.rows [x1.1,x3.1,x5.1]))],[.row (B0.cells x5.2) 99],rfl,(.aggL ⟨.rfl,.rfl,.rfl,.full,trivial⟩),⟨⟨rfl,.refl _,rfl⟩,trivial⟩,rfl,rfl,rpq rfl rfl⟩
    ·refine g' [0] ((ih0 _ _ hx5).ok) rfl rfl rfl rfl rfl rfl (n' ?_)
     refine C0.step rfl (j0:=1) (js:=[]) (by kernel_rfl) ⟨⟨_,rfl,?_⟩,trivial⟩
     refine e' rfl ?_
     refine C0.step rfl (j0:=4) (js:=[]) (by kernel_rfl) ⟨⟨_,rfl,?_⟩,trivial⟩
     refine D0.be hC rfl (A0.rows_map [x1.1,x3.1,x5.1]).symm (n' ?_)
     refine C0.step rfl (j0:=5) (js:=[]) (by kernel_rfl) ⟨⟨_,rfl,?_⟩,trivial⟩
     refine e' rfl ?_
     refine C0.step rfl (j0:=6) (js:=[]) (by kernel_rfl) ⟨⟨_,rfl,?_⟩,trivial⟩
     refine D0.s hC rfl (n' (C0.nil (by kernel_rfl) (re' ?_)))
     obtain rfl:=oi' hh
     exact ⟨_,.agg [.d (.int .i64 23),.d (.int .i64 0),.d (.str []),.d (.sl (A0.rows [x1.1,x3.1,x5.1]))],[.row (B0.cells x5.2) 99],rfl,(.aggL ⟨.rfl,.rfl,.rfl,.full,trivial⟩),⟨⟨rfl,.refl _,rfl⟩,trivial⟩,rfl,rfl,rpq rfl rfl⟩
  ·refine e' rfl ?_
   refine C0.step rfl (j0:=0) (js:=[2]) (by kernel_rfl) ⟨⟨_,rfl,?_⟩,⟨_,rfl,?_⟩,trivial⟩
   ·refine e' rfl ?_
    refine C0.step rfl (j0:=2) (js:=[]) (by kernel_rfl) ⟨⟨_,rfl,?_⟩,trivial⟩
    refine e' rfl ?_
    refine C0.step rfl (j0:=3) (js:=[]) (by kernel_rfl) ⟨⟨_,rfl,?_⟩,trivial⟩
    refine g' [0] ((ih0 _ _ hx5).ok) rfl rfl rfl rfl rfl rfl (n' ?_)
    refine C0.step rfl (j0:=4) (js:=[]) (by kernel_rfl) ⟨⟨_,rfl,?_⟩,trivial⟩
    refine D0.be hC rfl (A0.rows_map [x1.1,x3.1,x5.1]).symm (n' ?_)
    refine C0.step rfl (j0:=5) (js:=[]) (by kernel_rfl) ⟨⟨_,rfl,?_⟩,trivial⟩
    refine e' rfl ?_
    refine C0.step rfl (j0:=6) (js:=[]) (by kernel_rfl) ⟨⟨_,rfl,?_⟩,trivial⟩
    refine D0.s hC rfl (n' (C0.nil (by kernel_rfl) (re' ?_)))
    obtain rfl:=oi' hh
    exact ⟨_,.agg [.d (.int .i64 23),.d (.int .i64 0),.d (.str []),.d (.sl (A0.rows [x1.1,x3.1,x5.1]))],[.row (B0.cells x5.2) 99],rfl,(.aggL ⟨.rfl,.rfl,.rfl,.full,trivial⟩),⟨⟨rfl,.refl _,rfl⟩,trivial⟩,rfl,rfl,rpq rfl rfl⟩
   ·refine e' rfl ?_
    refine C0.step rfl (j0:=0) (js:=[3]) (by kernel_rfl) ⟨⟨_,rfl,?_⟩,⟨_,rfl,?_⟩,trivial⟩
    ·refine e' rfl ?_
     refine C0.step rfl (j0:=3) (js:=[]) (by kernel_rfl) ⟨⟨_,rfl,?_⟩,trivial⟩
     refine g' [0] ((ih0 _ _ hx5).ok) rfl rfl rfl rfl rfl rfl (n' ?_)
     refine C0.step rfl (j0:=4) (js:=[]) (by kernel_rfl) ⟨⟨_,rfl,?_⟩,trivial⟩
     refine D0.be hC rfl (A0.rows_map [x1.1,x3.1,x5.1]).symm (n' ?_)
     refine C0.step rfl (j0:=5) (js:=[]) (by kernel_rfl) ⟨⟨_,rfl,?_⟩,trivial⟩
     refine e' rfl ?_
     refine C0.step rfl (j0:=6) (js:=[]) (by kernel_rfl) ⟨⟨_,rfl,?_⟩,trivial⟩
     refine D0.s hC rfl (n' (C0.nil (by kernel_rfl) (re' ?_)))
     obtain rfl:=oi' hh
     exact ⟨_,.agg [.d (.int .i64 23),.d (.int .i64 0),.d (.str []),.d (.sl (A0.rows [x1.1,x3.1,x5.1]))],[.row (B0.cells x5.2) 99],rfl,(.aggL ⟨.rfl,.rfl,.rfl,.full,trivial⟩),⟨⟨rfl,.refl _,rfl⟩,trivial⟩,rfl,rfl,rpq rfl rfl⟩
    ·refine g' [0] ((ih0 _ _ hx5).ok) rfl rfl rfl rfl rfl rfl (n' ?_)
     refine C0.step rfl (j0:=0) (js:=[]) (by kernel_rfl) ⟨⟨_,rfl,?_⟩,trivial⟩
     refine e' rfl ?_
     refine C0.step rfl (j0:=4) (js:=[]) (by kernel_rfl) ⟨⟨_,rfl,?_⟩,trivial⟩
     refine D0.be hC rfl (A0.rows_map [x1.1,x3.1,x5.1]).symm (n' ?_)
     refine C0.step rfl (j0:=5) (js:=[]) (by kernel_rfl) ⟨⟨_,rfl,?_⟩,trivial⟩
     refine e' rfl ?_
     refine C0.step rfl (j0:=6) (js:=[]) (by kernel_rfl) ⟨⟨_,rfl,?_⟩,trivial⟩
     refine D0.s hC rfl (n' (C0.nil (by kernel_rfl) (re' ?_)))
     obtain rfl:=oi' hh
     exact ⟨_,.agg [.d (.int .i64 23),.d (.int .i64 0),.d (.str []),.d (.sl (A0.rows [x1.1,x3.1,x5.1]))],[.row (B0.cells x5.2) 99],rfl,(.aggL ⟨.rfl,.rfl,.rfl,.full,trivial⟩),⟨⟨rfl,.refl _,rfl⟩,trivial⟩,rfl,rfl,rpq rfl rfl⟩
  ·refine e' rfl ?_
   refine C0.step rfl (j0:=0) (js:=[1,3]) (by kernel_rfl) ⟨⟨_,rfl,?_⟩,⟨_,rfl,?_⟩,⟨_,rfl,?_⟩,trivial⟩
   ·refine e' rfl ?_
    refine C0.step rfl (j0:=1) (js:=[3]) (by kernel_rfl) ⟨⟨_,rfl,?_⟩,⟨_,rfl,?_⟩,trivial⟩
    ·refine e' rfl ?_
     refine C0.step rfl (j0:=3) (js:=[]) (by kernel_rfl) ⟨⟨_,rfl,?_⟩,trivial⟩
     refine g' [0] ((ih0 _ _ hx5).ok) rfl rfl rfl rfl rfl rfl (n' ?_)
     refine C0.step rfl (j0:=4) (js:=[]) (by kernel_rfl) ⟨⟨_,rfl,?_⟩,trivial⟩
     refine D0.be hC rfl (A0.rows_map [x1.1,x3.1,x5.1]).symm (n' ?_)
     refine C0.step rfl (j0:=5) (js:=[]) (by kernel_rfl) ⟨⟨_,rfl,?_⟩,trivial⟩
     refine e' rfl ?_
     refine C0.step rfl (j0:=6) (js:=[]) (by kernel_rfl) ⟨⟨_,rfl,?_⟩,trivial⟩
     refine D0.s hC rfl (n' (C0.nil (by kernel_rfl) (re' ?_)))
     obtain rfl:=oi' hh
     exact ⟨_,.agg [.d (.int .i64 23),.d (.int .i64 0),.d (.str []),.d (.sl (A0.rows [x1.1,x3.1,x5.1]))],[.row (B0.cells x5.2) 99],rfl,(.aggL ⟨.rfl,.rfl,.rfl,.full,trivial⟩),⟨⟨rfl,.refl _,rfl⟩,trivial⟩,rfl,rfl,rpq rfl rfl⟩
    ·refine g' [0] ((ih0 _ _ hx5).ok) rfl rfl rfl rfl rfl rfl (n' ?_)
     refine C0.step rfl (j0:=1) (js:=[]) (by kernel_rfl) ⟨⟨_,rfl,?_⟩,trivial⟩
     refine e' rfl ?_
     refine C0.step rfl (j0:=4) (js:=[]) (by kernel_rfl) ⟨⟨_,rfl,?_⟩,trivial⟩
     refine D0.be hC rfl (A0.rows_map [x1.1,x3.1,x5.1]).symm (n' ?_)
     refine C0.step rfl (j0:=5) (js:=[]) (by kernel_rfl) ⟨⟨_,rfl,?_⟩,trivial⟩
     refine e' rfl ?_
     refine C0.step rfl (j0:=6) (js:=[]) (by kernel_rfl) ⟨⟨_,rfl,?_⟩,trivial⟩
     refine D0.s hC rfl (n' (C0.nil (by kernel_rfl) (re' ?_)))
     obtain rfl:=oi' hh
     exact ⟨_,.agg [.d (.int .i64 23),.d (.int .i64 0),.d (.str []),.d (.sl (A0.rows [x1.1,x3.1,x5.1]))],[.row (B0.cells x5.2) 99],rfl,(.aggL ⟨.rfl,.rfl,.rfl,.full,trivial⟩),⟨⟨rfl,.refl _,rfl⟩,trivial⟩,rfl,rfl,rpq rfl rfl⟩
   ·refine e' rfl ?_
    refine C0.step rfl (j0:=0) (js:=[3]) (by kernel_rfl) ⟨⟨_,rfl,?_⟩,⟨_,rfl,?_⟩,trivial⟩
    ·refine e' rfl ?_
     refine C0.step rfl (j0:=3) (js:=[]) (by kernel_rfl) ⟨⟨_,rfl,?_⟩,trivial⟩
     refine g' [0] ((ih0 _ _ hx5).ok) rfl rfl rfl rfl rfl rfl (n' ?_)
     refine C0.step rfl (j0:=4) (js:=[]) (by kernel_rfl) ⟨⟨_,rfl,?_⟩,trivial⟩
     refine D0.be hC rfl (A0.rows_map [x1.1,x3.1,x5.1]).symm (n' ?_)
     refine C0.step rfl (j0:=5) (js:=[]) (by kernel_rfl) ⟨⟨_,rfl,?_⟩,trivial⟩
     refine e' rfl ?_
     refine C0.step rfl (j0:=6) (js:=[]) (by kernel_rfl) ⟨⟨_,rfl,?_⟩,trivial⟩
     refine D0.s hC rfl (n' (C0.nil (by kernel_rfl) (re' ?_)))
     obtain rfl:=oi' hh
     exact ⟨_,.agg [.d (.int .i64 23),.d (.int .i64 0),.d (.str []),.d (.sl (A0.rows [x1.1,x3.1,x5.1]))],[.row (B0.cells x5.2) 99],rfl,(.aggL ⟨.rfl,.rfl,.rfl,.full,trivial⟩),⟨⟨rfl,.refl _,rfl⟩,trivial⟩,rfl,rfl,rpq rfl rfl⟩
    ·refine g' [0] ((ih0 _ _ hx5).ok) rfl rfl rfl rfl rfl rfl (n' ?_)
     refine C0.step rfl (j0:=0) (js:=[]) (by kernel_rfl) ⟨⟨_,rfl,?_⟩,trivial⟩
     refine e' rfl ?_
     refine C0.step rfl (j0:=4) (js:=[]) (by kernel_rfl) ⟨⟨_,rfl,?_⟩,trivial⟩
     refine D0.be hC rfl (A0.rows_map [x1.1,x3.1,x5.1]).symm (n' ?_)
     refine C0.step rfl (j0:=5) (js:=[]) (by kernel_rfl) ⟨⟨_,rfl,?_⟩,trivial⟩
     refine e' rfl ?_
     refine C0.step rfl (j0:=6) (js:=[]) (by kernel_rfl) ⟨⟨_,rfl,?_⟩,trivial⟩
     refine D0.s hC rfl (n' (C0.nil (by kernel_rfl) (re' ?_)))
     obtain rfl:=oi' hh
     exact ⟨_,.agg [.d (.int .i64 23),.d (.int .i64 0),.d (.str []),.d (.sl (A0.rows [x1.1,x3.1,x5.1]))],[.row (B0.cells x5.2) 99],rfl,(.aggL ⟨.rfl,.rfl,.rfl,.full,trivial⟩),⟨⟨rfl,.refl _,rfl⟩,trivial⟩,rfl,rfl,rpq rfl rfl⟩
   ·refine g' [0] ((ih0 _ _ hx5).ok) rfl rfl rfl rfl rfl rfl (n' ?_)
    refine C0.step rfl (j0:=0) (js:=[1]) (by kernel_rfl) ⟨⟨_,rfl,?_⟩,⟨_,rfl,?_⟩,trivial⟩
    ·refine e' rfl ?_
     refine C0.step rfl (j0:=1) (js:=[]) (by kernel_rfl) ⟨⟨_,rfl,?_⟩,trivial⟩
     refine e' rfl ?_
     refine C0.step rfl (j0:=4) (js:=[]) (by kernel_rfl) ⟨⟨_,rfl,?_⟩,trivial⟩
     refine D0.be hC rfl (A0.rows_map [x1.1,x3.1,x5.1]).symm (n' ?_)
     refine C0.step rfl (j0:=5) (js:=[]) (by kernel_rfl) ⟨⟨_,rfl,?_⟩,trivial⟩
     refine e' rfl ?_
     refine C0.step rfl (j0:=6) (js:=[]) (by kernel_rfl) ⟨⟨_,rfl,?_⟩,trivial⟩
     refine D0.s hC rfl (n' (C0.nil (by kernel_rfl) (re' ?_)))
     obtain rfl:=oi' hh
     exact ⟨_,.agg [.d (.int .i64 23),.d (.int .i64 0),.d (.str []),.d (.sl (A0.rows [x1.1,x3.1,x5.1]))],[.row (B0.cells x5.2) 99],rfl,(.aggL ⟨.rfl,.rfl,.rfl,.full,trivial⟩),⟨⟨rfl,.refl _,rfl⟩,trivial⟩,rfl,rfl,rpq rfl rfl⟩
    ·refine e' rfl ?_
     refine C0.step rfl (j0:=0) (js:=[]) (by kernel_rfl) ⟨⟨_,rfl,?_⟩,trivial⟩
     refine e' rfl ?_
     refine C0.step rfl (j0:=4) (js:=[]) (by kernel_rfl) ⟨⟨_,rfl,?_⟩,trivial⟩
     refine D0.be hC rfl (A0.rows_map [x1.1,x3.1,x5.1]).symm (n' ?_)
     refine C0.step rfl (j0:=5) (js:=[]) (by kernel_rfl) ⟨⟨_,rfl,?_⟩,trivial⟩
     refine e' rfl ?_
     refine C0.step rfl (j0:=6) (js:=[]) (by kernel_rfl) ⟨⟨_,rfl,?_⟩,trivial⟩
     refine D0.s hC rfl (n' (C0.nil (by kernel_rfl) (re' ?_)))
     obtain rfl:=oi' hh
     exact ⟨_,.agg [.d (.int .i64 23),.d (.int .i64 0),.d (.str []),.d (.sl (A0.rows [x1.1,x3.1,x5.1]))],[.row (B0.cells x5.2) 99],rfl,(.aggL ⟨.rfl,.rfl,.rfl,.full,trivial⟩),⟨⟨rfl,.refl _,rfl⟩,trivial⟩,rfl,rfl,rpq rfl rfl⟩
 ·intro g2 ih2 parserParser res hh
  refine I2.intro hC Tryz.func60 rfl rfl rfl (s' rfl rfl (D0.n hC rfl (D0.nf hC rfl (n' (p' 4 rfl ?_)))))
  rcases bp' hh with ⟨nn,hx1,⟨⟩⟩ | ⟨x1,hx1,hh⟩
  ·exact gn' [0,1] (ih2 _ _ hx1) rfl rfl rfl rfl rfl (fun hi=>peW ⟨trivial,trivial⟩ rfl hi)
  cases hh
  exact g' [0,1] ((ih2 _ _ hx1).ok) rfl rfl rfl rfl rfl rfl (D0.s hC rfl (n' (re' (rt' rfl rfl rfl))))
 ·intro g3 g4 ih3 ih4 parserParser res hh
  refine I2.intro hC Tryz.func110 rfl rfl rfl (s' rfl rfl (D0.nf hC rfl (n' (p' 1 rfl ?_))))
  rcases bp' hh with ⟨nn,hx1,⟨⟩⟩ | ⟨x1,hx1,hh⟩
  ·exact gn' [0] (ih4 _ _ hx1) rfl rfl rfl rfl rfl (fun hi=>peW ⟨trivial,⟨rfl,.refl _,rfl⟩,trivial⟩ rfl hi)
  exact g' [0] ((ih4 _ _ hx1).ok) rfl rfl rfl rfl rfl rfl (D0.nf hC rfl (D0.s hC rfl (n' (bk' (fw' (ih3 _ _ _ hh) rfl rfl rfl)))))
 ·intro g3 g4 ih3 ih4 o0 o3 res hh
  obtain ⟨x2,hx2,hh⟩:=bs' hh
  refine P0.unroll (bk' (p' 1 rfl (g' [1,0] (Lm hx2) rfl rfl rfl rfl rfl rfl (e' rfl (S' (t' rfl (ci' rfl hh (fun hh=>?_) (fun hh=>?_))))))))
  ·cases hh
   exact p' 1 rfl (D0.s hC rfl (n' (re' (rt' rfl rfl rfl))))
  refine sk' ?_
  rcases bp' hh with ⟨nn,hx3,⟨⟩⟩ | ⟨x3,hx3,hh⟩
  ·refine AEx.drawE hC ?_
   refine C0.step rfl (j0:=0) (js:=[1,2]) (by kernel_rfl) ⟨⟨_,rfl,?_⟩,⟨_,rfl,?_⟩,⟨_,rfl,?_⟩,trivial⟩
   ·refine e' rfl ?_
    refine C0.step rfl (j0:=1) (js:=[2]) (by kernel_rfl) ⟨⟨_,rfl,?_⟩,⟨_,rfl,?_⟩,trivial⟩
    ·refine e' rfl ?_
     refine C0.step rfl (j0:=2) (js:=[]) (by kernel_rfl) ⟨⟨_,rfl,?_⟩,trivial⟩
     refine e' rfl ?_
     refine C0.step rfl (j0:=3) (js:=[]) (by kernel_rfl) ⟨⟨_,rfl,?_⟩,trivial⟩
     exact gn' [0] (ih4 _ _ hx3) rfl rfl rfl rfl rfl (fun hi=>peW ⟨trivial,⟨rfl,.refl _,rfl⟩,trivial⟩ rfl hi)
    ·refine e' rfl ?_
     refine C0.step rfl (j0:=1) (js:=[3]) (by kernel_rfl) ⟨⟨_,rfl,?_⟩,⟨_,rfl,?_⟩,trivial⟩
     ·refine e' rfl ?_
      refine C0.step rfl (j0:=3) (js:=[]) (by kernel_rfl) ⟨⟨_,rfl,?_⟩,trivial⟩
      exact gn' [0] (ih4 _ _ hx3) rfl rfl rfl rfl rfl (fun hi=>peW ⟨trivial,⟨rfl,.refl _,rfl⟩,trivial⟩ rfl hi)
     ·exact gn' [0] (ih4 _ _ hx3) rfl rfl rfl rfl rfl (fun hi=>peW ⟨trivial,⟨rfl,.refl _,rfl⟩,trivial⟩ rfl hi)
   ·refine e' rfl ?_
    refine C0.step rfl (j0:=0) (js:=[2]) (by kernel_rfl) ⟨⟨_,rfl,?_⟩,⟨_,rfl,?_⟩,trivial⟩
    ·refine e' rfl ?_
     refine C0.step rfl (j0:=2) (js:=[]) (by kernel_rfl) ⟨⟨_,rfl,?_⟩,trivial⟩
     refine e' rfl ?_
     refine C0.step rfl (j0:=3) (js:=[]) (by kernel_rfl) ⟨⟨_,rfl,?_⟩,trivial⟩
     exact gn' [0] (ih4 _ _ hx3) rfl rfl rfl rfl rfl (fun hi=>peW ⟨trivial,⟨rfl,.refl _,rfl⟩,trivial⟩ rfl hi)
    ·refine e' rfl ?_
     refine C0.step rfl (j0:=0) (js:=[3]) (by kernel_rfl) ⟨⟨_,rfl,?_⟩,⟨_,rfl,?_⟩,trivial⟩
     ·refine e' rfl ?_
      refine C0.step rfl (j0:=3) (js:=[]) (by kernel_rfl) ⟨⟨_,rfl,?_⟩,trivial⟩
      exact gn' [0] (ih4 _ _ hx3) rfl rfl rfl rfl rfl (fun hi=>peW ⟨trivial,⟨rfl,.refl _,rfl⟩,trivial⟩ rfl hi)
     ·exact gn' [0] (ih4 _ _ hx3) rfl rfl rfl rfl rfl (fun hi=>peW ⟨trivial,⟨rfl,.refl _,rfl⟩,trivial⟩ rfl hi)
   ·refine e' rfl ?_
    refine C0.step rfl (j0:=0) (js:=[1,3]) (by kernel_rfl) ⟨⟨_,rfl,?_⟩,⟨_,rfl,?_⟩,⟨_,rfl,?_⟩,trivial⟩
    ·refine e' rfl ?_
     refine C0.step rfl (j0:=1) (js:=[3]) (by kernel_rfl) ⟨⟨_,rfl,?_⟩,⟨_,rfl,?_⟩,trivial⟩
     ·refine e' rfl ?_
      refine C0.step rfl (j0:=3) (js:=[]) (by kernel_rfl) ⟨⟨_,rfl,?_⟩,trivial⟩
      exact gn' [0] (ih4 _ _ hx3) rfl rfl rfl rfl rfl (fun hi=>peW ⟨trivial,⟨rfl,.refl _,rfl⟩,trivial⟩ rfl hi)
     ·exact gn' [0] (ih4 _ _ hx3) rfl rfl rfl rfl rfl (fun hi=>peW ⟨trivial,⟨rfl,.refl _,rfl⟩,trivial⟩ rfl hi)
    ·refine e' rfl ?_
     refine C0.step rfl (j0:=0) (js:=[3]) (by kernel_rfl) ⟨⟨_,rfl,?_⟩,⟨_,rfl,?_⟩,trivial⟩
     ·refine e' rfl ?_
      refine C0.step rfl (j0:=3) (js:=[]) (by kernel_rfl) ⟨⟨_,rfl,?_⟩,trivial⟩
      exact gn' [0] (ih4 _ _ hx3) rfl rfl rfl rfl rfl (fun hi=>peW ⟨trivial,⟨rfl,.refl _,rfl⟩,trivial⟩ rfl hi)
     ·exact gn' [0] (ih4 _ _ hx3) rfl rfl rfl rfl rfl (fun hi=>peW ⟨trivial,⟨rfl,.refl _,rfl⟩,trivial⟩ rfl hi)
    ·exact gn' [0] (ih4 _ _ hx3) rfl rfl rfl rfl rfl (fun hi=>peW ⟨trivial,⟨rfl,.refl _,rfl⟩,trivial⟩ rfl hi)
  refine AEx.drawE hC ?_
  refine C0.step rfl (j0:=0) (js:=[1,2]) (by kernel_rfl) ⟨⟨_,rfl,?_⟩,⟨_,rfl,?_⟩,⟨_,rfl,?_⟩,trivial⟩
  ·refine e' rfl ?_
   refine C0.step rfl (j0:=1) (js:=[2]) (by kernel_rfl) ⟨⟨_,rfl,?_⟩,⟨_,rfl,?_⟩,trivial⟩
   ·refine e' rfl ?_
    refine C0.step rfl (j0:=2) (js:=[]) (by kernel_rfl) ⟨⟨_,rfl,?_⟩,trivial⟩
    refine e' rfl ?_
    refine C0.step rfl (j0:=3) (js:=[]) (by kernel_rfl) ⟨⟨_,rfl,?_⟩,trivial⟩
    refine g' [0] ((ih4 _ _ hx3).ok) rfl rfl rfl rfl rfl rfl (n' ?_)
    refine C0.step rfl (j0:=4) (js:=[]) (by kernel_rfl) ⟨⟨_,rfl,?_⟩,trivial⟩
    refine D0.be hC rfl (A0.rows_map [o3,x3.1]).symm (n' ?_)
    refine C0.step rfl (j0:=5) (js:=[]) (by kernel_rfl) ⟨⟨_,rfl,?_⟩,trivial⟩
    refine e' rfl ?_
    refine C0.step rfl (j0:=6) (js:=[]) (by kernel_rfl) ⟨⟨_,rfl,?_⟩,trivial⟩
    refine D0.s hC rfl (n' (C0.nil (by kernel_rfl) ?_))
    refine P0.wk ?_ (ih3 _ _ _ hh)
    exact ⟨⟨⟨.rfl,rfl⟩,⟨.rfl,rfl⟩,⟨.rfl,rfl⟩,⟨.rfl,rfl⟩,trivial⟩,⟨⟨rfl,.refl _,rfl⟩,⟨rfl,.refl _,rfl⟩,⟨rfl,.refl _,rfl⟩,⟨rfl,⟨.rfl,.rfl,.rfl,.full,trivial⟩,rfl⟩,trivial⟩,rfl⟩
   ·refine e' rfl ?_
    refine C0.step rfl (j0:=1) (js:=[3]) (by kernel_rfl) ⟨⟨_,rfl,?_⟩,⟨_,rfl,?_⟩,trivial⟩
    ·refine e' rfl ?_
     refine C0.step rfl (j0:=3) (js:=[]) (by kernel_rfl) ⟨⟨_,rfl,?_⟩,trivial⟩
     refine g' [0] ((ih4 _ _ hx3).ok) rfl rfl rfl rfl rfl rfl (n' ?_)
     refine C0.step rfl (j0:=4) (js:=[]) (by kernel_rfl) ⟨⟨_,rfl,?_⟩,trivial⟩
     refine D0.be hC rfl (A0.rows_map [o3,x3.1]).symm (n' ?_)
     refine C0.step rfl (j0:=5) (js:=[]) (by kernel_rfl) ⟨⟨_,rfl,?_⟩,trivial⟩
     refine e' rfl ?_
     refine C0.step rfl (j0:=6) (js:=[]) (by kernel_rfl) ⟨⟨_,rfl,?_⟩,trivial⟩
     refine D0.s hC rfl (n' (C0.nil (by kernel_rfl) ?_))
     refine P0.wk ?_ (ih3 _ _ _ hh)
     exact ⟨⟨⟨.rfl,rfl⟩,⟨.rfl,rfl⟩,⟨.rfl,rfl⟩,⟨.rfl,rfl⟩,trivial⟩,⟨⟨rfl,.refl _,rfl⟩,⟨rfl,.refl _,rfl⟩,⟨rfl,.refl _,rfl⟩,⟨rfl,⟨.rfl,.rfl,.rfl,.full,trivial⟩,rfl⟩,trivial⟩,rfl⟩
    ·refine g' [0] ((ih4 _ _ hx3).ok) rfl rfl rfl rfl rfl rfl (n' ?_)
     refine C0.step rfl (j0:=1) (js:=[]) (by kernel_rfl) ⟨⟨_,rfl,?_⟩,trivial⟩
     refine e' rfl ?_
     refine C0.step rfl (j0:=4) (js:=[]) (by kernel_rfl) ⟨⟨_,rfl,?_⟩,trivial⟩
     refine D0.be hC rfl (A0.rows_map [o3,x3.1]).symm (n' ?_)
     refine C0.step rfl (j0:=5) (js:=[]) (by kernel_rfl) ⟨⟨_,rfl,?_⟩,trivial⟩
     refine e' rfl ?_
     refine C0.step rfl (j0:=6) (js:=[]) (by kernel_rfl) ⟨⟨_,rfl,?_⟩,trivial⟩
     refine D0.s hC rfl (n' (C0.nil (by kernel_rfl) ?_))
     refine P0.wk ?_ (ih3 _ _ _ hh)
     exact ⟨⟨⟨.rfl,rfl⟩,⟨.rfl,rfl⟩,⟨.rfl,rfl⟩,⟨.rfl,rfl⟩,trivial⟩,⟨⟨rfl,.refl _,rfl⟩,⟨rfl,.refl _,rfl⟩,⟨rfl,.refl _,rfl⟩,⟨rfl,⟨.rfl,.rfl,.rfl,.full,trivial⟩,rfl⟩,trivial⟩,rfl⟩
  ·refine e' rfl ?_
   refine C0.step rfl (j0:=0) (js:=[2]) (by kernel_rfl) ⟨⟨_,rfl,?_⟩,⟨_,rfl,?_⟩,trivial⟩
   ·refine e' rfl ?_
    refine C0.step rfl (j0:=2) (js:=[]) (by kernel_rfl) ⟨⟨_,rfl,?_⟩,trivial⟩
    refine e' rfl ?_
    refine C0.step rfl (j0:=3) (js:=[]) (by kernel_rfl) ⟨⟨_,rfl,?_⟩,trivial⟩
    refine g' [0] ((ih4 _ _ hx3).ok) rfl rfl rfl rfl rfl rfl (n' ?_)
    refine C0.step rfl (j0:=4) (js:=[]) (by kernel_rfl) ⟨⟨_,rfl,?_⟩,trivial⟩
    refine D0.be hC rfl (A0.rows_map [o3,x3.1]).symm (n' ?_)
    refine C0.step rfl (j0:=5) (js:=[]) (by kernel_rfl) ⟨⟨_,rfl,?_⟩,trivial⟩
    refine e' rfl ?_
    refine C0.step rfl (j0:=6) (js:=[]) (by kernel_rfl) ⟨⟨_,rfl,?_⟩,trivial⟩
    refine D0.s hC rfl (n' (C0.nil (by kernel_rfl) ?_))
    refine P0.wk ?_ (ih3 _ _ _ hh)
    exact ⟨⟨⟨.rfl,rfl⟩,⟨.rfl,rfl⟩,⟨.rfl,rfl⟩,⟨.rfl,rfl⟩,trivial⟩,⟨⟨rfl,.refl _,rfl⟩,⟨rfl,.refl _,rfl⟩,⟨rfl,.refl _,rfl⟩,⟨rfl,⟨.rfl,.rfl,.rfl,.full,trivial⟩,rfl⟩,trivial⟩,rfl⟩
   ·refine e' rfl ?_
    refine C0.step rfl (j0:=0) (js:=[3]) (by kernel_rfl) ⟨⟨_,rfl,?_⟩,⟨_,rfl,?_⟩,trivial⟩
    ·refine e' rfl ?_
     refine C0.step rfl (j0:=3) (js:=[]) (by kernel_rfl) ⟨⟨_,rfl,?_⟩,trivial⟩
     refine g' [0] ((ih4 _ _ hx3).ok) rfl rfl rfl rfl rfl rfl (n' ?_)
     refine C0.step rfl (j0:=4) (js:=[]) (by kernel_rfl) ⟨⟨_,rfl,?_⟩,trivial⟩
     refine D0.be hC rfl (A0.rows_map [o3,x3.1]).symm (n' ?_)
     refine C0.step rfl (j0:=5) (js:=[]) (by kernel_rfl) ⟨⟨_,rfl,?_⟩,trivial⟩
     refine e' rfl ?_
     refine C0.step rfl (j0:=6) (js:=[]) (by kernel_rfl) ⟨⟨_,rfl,?_⟩,trivial⟩
     refine D0.s hC rfl (n' (C0.nil (by kernel_rfl) ?_))
     refine P0.wk ?_ (ih3 _ _ _ hh)
     exact ⟨⟨⟨.rfl,rfl⟩,⟨.rfl,rfl⟩,⟨.rfl,rfl⟩,⟨.rfl,rfl⟩,trivial⟩,⟨⟨rfl,.refl _,rfl⟩,⟨rfl,.refl _,rfl⟩,⟨rfl,.refl _,rfl⟩,⟨rfl,⟨.rfl,.rfl,.rfl,.full,trivial⟩,rfl⟩,trivial⟩,rfl⟩
    ·refine g' [0] ((ih4 _ _ hx3).ok) rfl rfl rfl rfl rfl rfl (n' ?_)
     refine C0.step rfl (j0:=0) (js:=[4]) (by kernel_rfl) ⟨⟨_,rfl,?_⟩,⟨_,rfl,?_⟩,trivial⟩
     ·refine e' rfl ?_
      refine C0.step rfl (j0:=4) (js:=[]) (by kernel_rfl) ⟨⟨_,rfl,?_⟩,trivial⟩
      refine D0.be hC rfl (A0.rows_map [o3,x3.1]).symm (n' ?_)
      refine C0.step rfl (j0:=5) (js:=[]) (by kernel_rfl) ⟨⟨_,rfl,?_⟩,trivial⟩
      refine e' rfl ?_
      refine C0.step rfl (j0:=6) (js:=[]) (by kernel_rfl) ⟨⟨_,rfl,?_⟩,trivial⟩
      refine D0.s hC rfl (n' (C0.nil (by kernel_rfl) ?_))
      refine P0.wk ?_ (ih3 _ _ _ hh)
      exact ⟨⟨⟨.rfl,rfl⟩,⟨.rfl,rfl⟩,⟨.rfl,rfl⟩,⟨.rfl,rfl⟩,trivial⟩,⟨⟨rfl,.refl _,rfl⟩,⟨rfl,.refl _,rfl⟩,⟨rfl,.refl _,rfl⟩,⟨rfl,⟨.rfl,.rfl,.rfl,.full,trivial⟩,rfl⟩,trivial⟩,rfl⟩
     ·refine D0.be hC rfl (A0.rows_map [o3,x3.1]).symm (n' ?_)
      refine C0.step rfl (j0:=0) (js:=[]) (by kernel_rfl) ⟨⟨_,rfl,?_⟩,trivial⟩
      refine e' rfl ?_
      refine C0.step rfl (j0:=5) (js:=[]) (by kernel_rfl) ⟨⟨_,rfl,?_⟩,trivial⟩
      refine e' rfl ?_
      refine C0.step rfl (j0:=6) (js:=[]) (by kernel_rfl) ⟨⟨_,rfl,?_⟩,trivial⟩
      refine D0.s hC rfl (n' (C0.nil (by kernel_rfl) ?_))
      refine P0.wk ?_ (ih3 _ _ _ hh)
      exact ⟨⟨⟨.rfl,rfl⟩,⟨.rfl,rfl⟩,⟨.rfl,rfl⟩,⟨.rfl,rfl⟩,trivial⟩,⟨⟨rfl,.refl _,rfl⟩,⟨rfl,.refl _,rfl⟩,⟨rfl,.refl _,rfl⟩,⟨rfl,⟨.rfl,.rfl,.rfl,.full,trivial⟩,rfl⟩,trivial⟩,rfl⟩
  ·refine e' rfl ?_
   refine C0.step rfl (j0:=0) (js:=[1,3]) (by kernel_rfl) ⟨⟨_,rfl,?_⟩,⟨_,rfl,?_⟩,⟨_,rfl,?_⟩,trivial⟩
   ·refine e' rfl ?_
    refine C0.step rfl (j0:=1) (js:=[3]) (by kernel_rfl) ⟨⟨_,rfl,?_⟩,⟨_,rfl,?_⟩,trivial⟩
    ·refine e' rfl ?_
     refine C0.step rfl (j0:=3) (js:=[]) (by kernel_rfl) ⟨⟨_,rfl,?_⟩,trivial⟩
     refine g' [0] ((ih4 _ _ hx3).ok) rfl rfl rfl rfl rfl rfl (n' ?_)
     refine C0.step rfl (j0:=4) (js:=[]) (by kernel_rfl) ⟨⟨_,rfl,?_⟩,trivial⟩
     refine D0.be hC rfl (A0.rows_map [o3,x3.1]).symm (n' ?_)
     refine C0.step rfl (j0:=5) (js:=[]) (by kernel_rfl) ⟨⟨_,rfl,?_⟩,trivial⟩
     refine e' rfl ?_
     refine C0.step rfl (j0:=6) (js:=[]) (by kernel_rfl) ⟨⟨_,rfl,?_⟩,trivial⟩
     refine D0.s hC rfl (n' (C0.nil (by kernel_rfl) ?_))
     refine P0.wk ?_ (ih3 _ _ _ hh)
     exact ⟨⟨⟨.rfl,rfl⟩,⟨.rfl,rfl⟩,⟨.rfl,rfl⟩,⟨.rfl,rfl⟩,trivial⟩,⟨⟨rfl,.refl _,rfl⟩,⟨rfl,.refl _,rfl⟩,⟨rfl,.refl _,rfl⟩,⟨rfl,⟨.rfl,.rfl,.rfl,.full,trivial⟩,rfl⟩,trivial⟩,rfl⟩
    ·refine g' [0] ((ih4 _ _ hx3).ok) rfl rfl rfl rfl rfl rfl (n' ?_)
     refine C0.step rfl (j0:=1) (js:=[]) (by kernel_rfl) ⟨⟨_,rfl,?_⟩,trivial⟩
     refine e' rfl ?_
     refine C0.step rfl (j0:=4) (js:=[]) (by kernel_rfl) ⟨⟨_,rfl,?_⟩,trivial⟩
     refine D0.be hC rfl (A0.rows_map [o3,x3.1]).symm (n' ?_)
     refine C0.step rfl (j0:=5) (js:=[]) (by kernel_rfl) ⟨⟨_,rfl,?_⟩,trivial⟩
     refine e' rfl ?_
     refine C0.step rfl (j0:=6) (js:=[]) (by kernel_rfl) ⟨⟨_,rfl,?_⟩,trivial⟩
     refine D0.s hC rfl (n' (C0.nil (by kernel_rfl) ?_))
     refine P0.wk ?_ (ih3 _ _ _ hh)
     exact ⟨⟨⟨.rfl,rfl⟩,⟨.rfl,rfl⟩,⟨.rfl,rfl⟩,⟨.rfl,rfl⟩,trivial⟩,⟨⟨rfl,.refl _,rfl⟩,⟨rfl,.refl _,rfl⟩,⟨rfl,.refl _,rfl⟩,⟨rfl,⟨.rfl,.rfl,.rfl,.full,trivial⟩,rfl⟩,trivial⟩,rfl⟩
   ·refine e' rfl ?_
    refine C0.step rfl (j0:=0) (js:=[3]) (by kernel_rfl) ⟨⟨_,rfl,?_⟩,⟨_,rfl,?_⟩,trivial⟩
    ·refine e' rfl ?_
     refine C0.step rfl (j0:=3) (js:=[]) (by kernel_rfl) ⟨⟨_,rfl,?_⟩,trivial⟩
     refine g' [0] ((ih4 _ _ hx3).ok) rfl rfl rfl rfl rfl rfl (n' ?_)
     refine C0.step rfl (j0:=4) (js:=[]) (by kernel_rfl) ⟨⟨_,rfl,?_⟩,trivial⟩
     refine D0.be hC rfl (A0.rows_map [o3,x3.1]).symm (n' ?_)
     refine C0.step rfl (j0:=5) (js:=[]) (by kernel_rfl) ⟨⟨_,rfl,?_⟩,trivial⟩
     refine e' rfl ?_
     refine C0.step rfl (j0:=6) (js:=[]) (by kernel_rfl) ⟨⟨_,rfl,?_⟩,trivial⟩
     refine D0.s hC rfl (n' (C0.nil (by kernel_rfl) ?_))
     refine P0.wk ?_ (ih3 _ _ _ hh)
     exact ⟨⟨⟨.rfl,rfl⟩,⟨.rfl,rfl⟩,⟨.rfl,rfl⟩,⟨.rfl,rfl⟩,trivial⟩,⟨⟨rfl,.refl _,rfl⟩,⟨rfl,.refl _,rfl⟩,⟨rfl,.refl _,rfl⟩,⟨rfl,⟨.rfl,.rfl,.rfl,.full,trivial⟩,rfl⟩,trivial⟩,rfl⟩
    ·refine g' [0] ((ih4 _ _ hx3).ok) rfl rfl rfl rfl rfl rfl (n' ?_)
     refine C0.step rfl (j0:=0) (js:=[4]) (by kernel_rfl) ⟨⟨_,rfl,?_⟩,⟨_,rfl,?_⟩,trivial⟩
     ·refine e' rfl ?_
      refine C0.step rfl (j0:=4) (js:=[]) (by kernel_rfl) ⟨⟨_,rfl,?_⟩,trivial⟩
      refine D0.be hC rfl (A0.rows_map [o3,x3.1]).symm (n' ?_)
      refine C0.step rfl (j0:=5) (js:=[]) (by kernel_rfl) ⟨⟨_,rfl,?_⟩,trivial⟩
      refine e' rfl ?_
      refine C0.step rfl (j0:=6) (js:=[]) (by kernel_rfl) ⟨⟨_,rfl,?_⟩,trivial⟩
      refine D0.s hC rfl (n' (C0.nil (by kernel_rfl) ?_))
      refine P0.wk ?_ (ih3 _ _ _ hh)
      exact ⟨⟨⟨.rfl,rfl⟩,⟨.rfl,rfl⟩,⟨.rfl,rfl⟩,⟨.rfl,rfl⟩,trivial⟩,⟨⟨rfl,.refl _,rfl⟩,⟨rfl,.refl _,rfl⟩,⟨rfl,.refl _,rfl⟩,⟨rfl,⟨.rfl,.rfl,.rfl,.full,trivial⟩,rfl⟩,trivial⟩,rfl⟩
     ·refine D0.be hC rfl (A0.rows_map [o3,x3.1]).symm (n' ?_)
      refine C0.step rfl (j0:=0) (js:=[]) (by kernel_rfl) ⟨⟨_,rfl,?_⟩,trivial⟩
      refine e' rfl ?_
      refine C0.step rfl (j0:=5) (js:=[]) (by kernel_rfl) ⟨⟨_,rfl,?_⟩,trivial⟩
      refine e' rfl ?_
      refine C0.step rfl (j0:=6) (js:=[]) (by kernel_rfl) ⟨⟨_,rfl,?_⟩,trivial⟩
      refine D0.s hC rfl (n' (C0.nil (by kernel_rfl) ?_))
      refine P0.wk ?_ (ih3 _ _ _ hh)
      exact ⟨⟨⟨.rfl,rfl⟩,⟨.rfl,rfl⟩,⟨.rfl,rfl⟩,⟨.rfl,rfl⟩,trivial⟩,⟨⟨rfl,.refl _,rfl⟩,⟨rfl,.refl _,rfl⟩,⟨rfl,.refl _,rfl⟩,⟨rfl,⟨.rfl,.rfl,.rfl,.full,trivial⟩,rfl⟩,trivial⟩,rfl⟩
   ·refine g' [0] ((ih4 _ _ hx3).ok) rfl rfl rfl rfl rfl rfl (n' ?_)
    refine C0.step rfl (j0:=0) (js:=[1]) (by kernel_rfl) ⟨⟨_,rfl,?_⟩,⟨_,rfl,?_⟩,trivial⟩
    ·refine e' rfl ?_
     refine C0.step rfl (j0:=1) (js:=[]) (by kernel_rfl) ⟨⟨_,rfl,?_⟩,trivial⟩
     refine e' rfl ?_
     refine C0.step rfl (j0:=4) (js:=[]) (by kernel_rfl) ⟨⟨_,rfl,?_⟩,trivial⟩
     refine D0.be hC rfl (A0.rows_map [o3,x3.1]).symm (n' ?_)
     refine C0.step rfl (j0:=5) (js:=[]) (by kernel_rfl) ⟨⟨_,rfl,?_⟩,trivial⟩
     refine e' rfl ?_
     refine C0.step rfl (j0:=6) (js:=[]) (by kernel_rfl) ⟨⟨_,rfl,?_⟩,trivial⟩
     refine D0.s hC rfl (n' (C0.nil (by kernel_rfl) ?_))
     refine P0.wk ?_ (ih3 _ _ _ hh)
     exact ⟨⟨⟨.rfl,rfl⟩,⟨.rfl,rfl⟩,⟨.rfl,rfl⟩,⟨.rfl,rfl⟩,trivial⟩,⟨⟨rfl,.refl _,rfl⟩,⟨rfl,.refl _,rfl⟩,⟨rfl,.refl _,rfl⟩,⟨rfl,⟨.rfl,.rfl,.rfl,.full,trivial⟩,rfl⟩,trivial⟩,rfl⟩
    ·refine e' rfl ?_
     refine C0.step rfl (j0:=0) (js:=[4]) (by kernel_rfl) ⟨⟨_,rfl,?_⟩,⟨_,rfl,?_⟩,trivial⟩
     ·refine e' rfl ?_
      refine C0.step rfl (j0:=4) (js:=[]) (by kernel_rfl) ⟨⟨_,rfl,?_⟩,trivial⟩
      refine D0.be hC rfl (A0.rows_map [o3,x3.1]).symm (n' ?_)
      refine C0.step rfl (j0:=5) (js:=[]) (by kernel_rfl) ⟨⟨_,rfl,?_⟩,trivial⟩
      refine e' rfl ?_
      refine C0.step rfl (j0:=6) (js:=[]) (by kernel_rfl) ⟨⟨_,rfl,?_⟩,trivial⟩
      refine D0.s hC rfl (n' (C0.nil (by kernel_rfl) ?_))
      refine P0.wk ?_ (ih3 _ _ _ hh)
      exact ⟨⟨⟨.rfl,rfl⟩,⟨.rfl,rfl⟩,⟨.rfl,rfl⟩,⟨.rfl,rfl⟩,trivial⟩,⟨⟨rfl,.refl _,rfl⟩,⟨rfl,.refl _,rfl⟩,⟨rfl,.refl _,rfl⟩,⟨rfl,⟨.rfl,.rfl,.rfl,.full,trivial⟩,rfl⟩,trivial⟩,rfl⟩
     ·refine D0.be hC rfl (A0.rows_map [o3,x3.1]).symm (n' ?_)
      refine C0.step rfl (j0:=0) (js:=[]) (by kernel_rfl) ⟨⟨_,rfl,?_⟩,trivial⟩
      refine e' rfl ?_
      refine C0.step rfl (j0:=5) (js:=[]) (by kernel_rfl) ⟨⟨_,rfl,?_⟩,trivial⟩
      refine e' rfl ?_
      refine C0.step rfl (j0:=6) (js:=[]) (by kernel_rfl) ⟨⟨_,rfl,?_⟩,trivial⟩
      refine D0.s hC rfl (n' (C0.nil (by kernel_rfl) ?_))
      refine P0.wk ?_ (ih3 _ _ _ hh)
      exact ⟨⟨⟨.rfl,rfl⟩,⟨.rfl,rfl⟩,⟨.rfl,rfl⟩,⟨.rfl,rfl⟩,trivial⟩,⟨⟨rfl,.refl _,rfl⟩,⟨rfl,.refl _,rfl⟩,⟨rfl,.refl _,rfl⟩,⟨rfl,⟨.rfl,.rfl,.rfl,.full,trivial⟩,rfl⟩,trivial⟩,rfl⟩
 ·intro g5 ih5 parserParser res hh
  refine I2.intro hC Tryz.func111 rfl rfl rfl (s' rfl rfl (D0.n hC rfl (D0.nf hC rfl (n' (p' 4 rfl ?_)))))
  rcases bp' hh with ⟨nn,hx1,⟨⟩⟩ | ⟨x1,hx1,hh⟩
  ·exact gn' [0,1] (ih5 _ _ hx1) rfl rfl rfl rfl rfl (fun hi=>peW ⟨trivial,trivial⟩ rfl hi)
  cases hh
  exact g' [0,1] ((ih5 _ _ hx1).ok) rfl rfl rfl rfl rfl rfl (D0.s hC rfl (n' (re' (rt' rfl rfl rfl))))
 ·intro g6 g7 ih6 ih7 parserParser res hh
  refine I2.intro hC Tryz.func110 rfl rfl rfl (s' rfl rfl (D0.nf hC rfl (n' (p' 1 rfl ?_))))
  rcases bp' hh with ⟨nn,hx1,⟨⟩⟩ | ⟨x1,hx1,hh⟩
  ·exact gn' [0] (ih7 _ _ hx1) rfl rfl rfl rfl rfl (fun hi=>peW ⟨trivial,⟨rfl,.refl _,rfl⟩,trivial⟩ rfl hi)
  exact g' [0] ((ih7 _ _ hx1).ok) rfl rfl rfl rfl rfl rfl (D0.nf hC rfl (D0.s hC rfl (n' (bk' (fw' (ih6 _ _ _ hh) rfl rfl rfl)))))
 ·intro g6 g7 ih6 ih7 o0 o3 res hh
  obtain ⟨x2,hx2,hh⟩:=bs' hh
  refine P0.unroll (bk' (p' 1 rfl (g' [1,0] (Nl hx2) rfl rfl rfl rfl rfl rfl (e' rfl (S' (t' rfl (ci' rfl hh (fun hh=>?_) (fun hh=>?_))))))))
  ·cases hh
   exact p' 1 rfl (D0.s hC rfl (n' (re' (rt' rfl rfl rfl))))
  refine sk' ?_
  rcases bp' hh with ⟨nn,hx3,⟨⟩⟩ | ⟨x3,hx3,hh⟩
  ·refine AEx.drawE hC ?_
   refine C0.step rfl (j0:=0) (js:=[1,2]) (by kernel_rfl) ⟨⟨_,rfl,?_⟩,⟨_,rfl,?_⟩,⟨_,rfl,?_⟩,trivial⟩
   ·refine e' rfl ?_
    refine C0.step rfl (j0:=1) (js:=[2]) (by kernel_rfl) ⟨⟨_,rfl,?_⟩,⟨_,rfl,?_⟩,trivial⟩
    ·refine e' rfl ?_
     refine C0.step rfl (j0:=2) (js:=[]) (by kernel_rfl) ⟨⟨_,rfl,?_⟩,trivial⟩
     refine e' rfl ?_
     refine C0.step rfl (j0:=3) (js:=[]) (by kernel_rfl) ⟨⟨_,rfl,?_⟩,trivial⟩
     exact gn' [0] (ih7 _ _ hx3) rfl rfl rfl rfl rfl (fun hi=>peW ⟨trivial,⟨rfl,.refl _,rfl⟩,trivial⟩ rfl hi)
    ·refine e' rfl ?_
     refine C0.step rfl (j0:=1) (js:=[3]) (by kernel_rfl) ⟨⟨_,rfl,?_⟩,⟨_,rfl,?_⟩,trivial⟩
     ·refine e' rfl ?_
      refine C0.step rfl (j0:=3) (js:=[]) (by kernel_rfl) ⟨⟨_,rfl,?_⟩,trivial⟩
      exact gn' [0] (ih7 _ _ hx3) rfl rfl rfl rfl rfl (fun hi=>peW ⟨trivial,⟨rfl,.refl _,rfl⟩,trivial⟩ rfl hi)
     ·exact gn' [0] (ih7 _ _ hx3) rfl rfl rfl rfl rfl (fun hi=>peW ⟨trivial,⟨rfl,.refl _,rfl⟩,trivial⟩ rfl hi)
   ·refine e' rfl ?_
    refine C0.step rfl (j0:=0) (js:=[2]) (by kernel_rfl) ⟨⟨_,rfl,?_⟩,⟨_,rfl,?_⟩,trivial⟩
    ·refine e' rfl ?_
     refine C0.step rfl (j0:=2) (js:=[]) (by kernel_rfl) ⟨⟨_,rfl,?_⟩,trivial⟩
     refine e' rfl ?_
     refine C0.step rfl (j0:=3) (js:=[]) (by kernel_rfl) ⟨⟨_,rfl,?_⟩,trivial⟩
     exact gn' [0] (ih7 _ _ hx3) rfl rfl rfl rfl rfl (fun hi=>peW ⟨trivial,⟨rfl,.refl _,rfl⟩,trivial⟩ rfl hi)
    ·refine e' rfl ?_
     refine C0.step rfl (j0:=0) (js:=[3]) (by kernel_rfl) ⟨⟨_,rfl,?_⟩,⟨_,rfl,?_⟩,trivial⟩
     ·refine e' rfl ?_
      refine C0.step rfl (j0:=3) (js:=[]) (by kernel_rfl) ⟨⟨_,rfl,?_⟩,trivial⟩
      exact gn' [0] (ih7 _ _ hx3) rfl rfl rfl rfl rfl (fun hi=>peW ⟨trivial,⟨rfl,.refl _,rfl⟩,trivial⟩ rfl hi)
     ·exact gn' [0] (ih7 _ _ hx3) rfl rfl rfl rfl rfl (fun hi=>peW ⟨trivial,⟨rfl,.refl _,rfl⟩,trivial⟩ rfl hi)
   ·refine e' rfl ?_
    refine C0.step rfl (j0:=0) (js:=[1,3]) (by kernel_rfl) ⟨⟨_,rfl,?_⟩,⟨_,rfl,?_⟩,⟨_,rfl,?_⟩,trivial⟩
    ·refine e' rfl ?_
     refine C0.step rfl (j0:=1) (js:=[3]) (by kernel_rfl) ⟨⟨_,rfl,?_⟩,⟨_,rfl,?_⟩,trivial⟩
     ·refine e' rfl ?_
      refine C0.step rfl (j0:=3) (js:=[]) (by kernel_rfl) ⟨⟨_,rfl,?_⟩,trivial⟩
      exact gn' [0] (ih7 _ _ hx3) rfl rfl rfl rfl rfl (fun hi=>peW ⟨trivial,⟨rfl,.refl _,rfl⟩,trivial⟩ rfl hi)
     ·exact gn' [0] (ih7 _ _ hx3) rfl rfl rfl rfl rfl (fun hi=>peW ⟨trivial,⟨rfl,.refl _,rfl⟩,trivial⟩ rfl hi)
    ·refine e' rfl ?_
     refine C0.step rfl (j0:=0) (js:=[3]) (by kernel_rfl) ⟨⟨_,rfl,?_⟩,⟨_,rfl,?_⟩,trivial⟩
     ·refine e' rfl ?_
      refine C0.step rfl (j0:=3) (js:=[]) (by kernel_rfl) ⟨⟨_,rfl,?_⟩,trivial⟩
      exact gn' [0] (ih7 _ _ hx3) rfl rfl rfl rfl rfl (fun hi=>peW ⟨trivial,⟨rfl,.refl _,rfl⟩,trivial⟩ rfl hi)
     ·exact gn' [0] (ih7 _ _ hx3) rfl rfl rfl rfl rfl (fun hi=>peW ⟨trivial,⟨rfl,.refl _,rfl⟩,trivial⟩ rfl hi)
    ·exact gn' [0] (ih7 _ _ hx3) rfl rfl rfl rfl rfl (fun hi=>peW ⟨trivial,⟨rfl,.refl _,rfl⟩,trivial⟩ rfl hi)
  refine AEx.drawE hC ?_
  refine C0.step rfl (j0:=0) (js:=[1,2]) (by kernel_rfl) ⟨⟨_,rfl,?_⟩,⟨_,rfl,?_⟩,⟨_,rfl,?_⟩,trivial⟩
  ·refine e' rfl ?_
   refine C0.step rfl (j0:=1) (js:=[2]) (by kernel_rfl) ⟨⟨_,rfl,?_⟩,⟨_,rfl,?_⟩,trivial⟩
   ·refine e' rfl ?_
    refine C0.step rfl (j0:=2) (js:=[]) (by kernel_rfl) ⟨⟨_,rfl,?_⟩,trivial⟩
    refine e' rfl ?_
    refine C0.step rfl (j0:=3) (js:=[]) (by kernel_rfl) ⟨⟨_,rfl,?_⟩,trivial⟩
    refine g' [0] ((ih7 _ _ hx3).ok) rfl rfl rfl rfl rfl rfl (n' ?_)
    refine C0.step rfl (j0:=4) (js:=[]) (by kernel_rfl) ⟨⟨_,rfl,?_⟩,trivial⟩
    refine D0.be hC rfl (A0.rows_map [o3,x3.1]).symm (n' ?_)
    refine C0.step rfl (j0:=5) (js:=[]) (by kernel_rfl) ⟨⟨_,rfl,?_⟩,trivial⟩
    refine e' rfl ?_
    refine C0.step rfl (j0:=6) (js:=[]) (by kernel_rfl) ⟨⟨_,rfl,?_⟩,trivial⟩
    refine D0.s hC rfl (n' (C0.nil (by kernel_rfl) ?_))
    refine P0.wk ?_ (ih6 _ _ _ hh)
    exact ⟨⟨⟨.rfl,rfl⟩,⟨.rfl,rfl⟩,⟨.rfl,rfl⟩,⟨.rfl,rfl⟩,trivial⟩,⟨⟨rfl,.refl _,rfl⟩,⟨rfl,.refl _,rfl⟩,⟨rfl,.refl _,rfl⟩,⟨rfl,⟨.rfl,.rfl,.rfl,.full,trivial⟩,rfl⟩,trivial⟩,rfl⟩
   ·refine e' rfl ?_
    refine C0.step rfl (j0:=1) (js:=[3]) (by kernel_rfl) ⟨⟨_,rfl,?_⟩,⟨_,rfl,?_⟩,trivial⟩
    ·refine e' rfl ?_
     refine C0.step rfl (j0:=3) (js:=[]) (by kernel_rfl) ⟨⟨_,rfl,?_⟩,trivial⟩
     refine g' [0] ((ih7 _ _ hx3).ok) rfl rfl rfl rfl rfl rfl (n' ?_)
     refine C0.step rfl (j0:=4) (js:=[]) (by kernel_rfl) ⟨⟨_,rfl,?_⟩,trivial⟩
     refine D0.be hC rfl (A0.rows_map [o3,x3.1]).symm (n' ?_)
     refine C0.step rfl (j0:=5) (js:=[]) (by kernel_rfl) ⟨⟨_,rfl,?_⟩,trivial⟩
     refine e' rfl ?_
     refine C0.step rfl (j0:=6) (js:=[]) (by kernel_rfl) ⟨⟨_,rfl,?_⟩,trivial⟩
     refine D0.s hC rfl (n' (C0.nil (by kernel_rfl) ?_))
     refine P0.wk ?_ (ih6 _ _ _ hh)
     exact ⟨⟨⟨.rfl,rfl⟩,⟨.rfl,rfl⟩,⟨.rfl,rfl⟩,⟨.rfl,rfl⟩,trivial⟩,⟨⟨rfl,.refl _,rfl⟩,⟨rfl,.refl _,rfl⟩,⟨rfl,.refl _,rfl⟩,⟨rfl,⟨.rfl,.rfl,.rfl,.full,trivial⟩,rfl⟩,trivial⟩,rfl⟩
    ·refine g' [0] ((ih7 _ _ hx3).ok) rfl rfl rfl rfl rfl rfl (n' ?_)
     refine C0.step rfl (j0:=1) (js:=[]) (by kernel_rfl) ⟨⟨_,rfl,?_⟩,trivial⟩
     refine e' rfl ?_
     refine C0.step rfl (j0:=4) (js:=[]) (by kernel_rfl) ⟨⟨_,rfl,?_⟩,trivial⟩
     refine D0.be hC rfl (A0.rows_map [o3,x3.1]).symm (n' ?_)
     refine C0.step rfl (j0:=5) (js:=[]) (by kernel_rfl) ⟨⟨_,rfl,?_⟩,trivial⟩
     refine e' rfl ?_
     refine C0.step rfl (j0:=6) (js:=[]) (by kernel_rfl) ⟨⟨_,rfl,?_⟩,trivial⟩
     refine D0.s hC rfl (n' (C0.nil (by kernel_rfl) ?_))
     refine P0.wk ?_ (ih6 _ _ _ hh)
     exact ⟨⟨⟨.rfl,rfl⟩,⟨.rfl,rfl⟩,⟨.rfl,rfl⟩,⟨.rfl,rfl⟩,trivial⟩,⟨⟨rfl,.refl _,rfl⟩,⟨rfl,.refl _,rfl⟩,⟨rfl,.refl _,rfl⟩,⟨rfl,⟨.rfl,.rfl,.rfl,.full,trivial⟩,rfl⟩,trivial⟩,rfl⟩
  ·refine e' rfl ?_
   refine C0.step rfl (j0:=0) (js:=[2]) (by kernel_rfl) ⟨⟨_,rfl,?_⟩,⟨_,rfl,?_⟩,trivial⟩
   ·refine e' rfl ?_
    refine C0.step rfl (j0:=2) (js:=[]) (by kernel_rfl) ⟨⟨_,rfl,?_⟩,trivial⟩
    refine e' rfl ?_
    refine C0.step rfl (j0:=3) (js:=[]) (by kernel_rfl) ⟨⟨_,rfl,?_⟩,trivial⟩
    refine g' [0] ((ih7 _ _ hx3).ok) rfl rfl rfl rfl rfl rfl (n' ?_)
    refine C0.step rfl (j0:=4) (js:=[]) (by kernel_rfl) ⟨⟨_,rfl,?_⟩,trivial⟩
    refine D0.be hC rfl (A0.rows_map [o3,x3.1]).symm (n' ?_)
    refine C0.step rfl (j0:=5) (js:=[]) (by kernel_rfl) ⟨⟨_,rfl,?_⟩,trivial⟩
    refine e' rfl ?_
    refine C0.step rfl (j0:=6) (js:=[]) (by kernel_rfl) ⟨⟨_,rfl,?_⟩,trivial⟩
    refine D0.s hC rfl (n' (C0.nil (by kernel_rfl) ?_))
    refine P0.wk ?_ (ih6 _ _ _ hh)
    exact ⟨⟨⟨.rfl,rfl⟩,⟨.rfl,rfl⟩,⟨.rfl,rfl⟩,⟨.rfl,rfl⟩,trivial⟩,⟨⟨rfl,.refl _,rfl⟩,⟨rfl,.refl _,rfl⟩,⟨rfl,.refl _,rfl⟩,⟨rfl,⟨.rfl,.rfl,.rfl,.full,trivial⟩,rfl⟩,trivial⟩,rfl⟩
   ·refine e' rfl ?_
    refine C0.step rfl (j0:=0) (js:=[3]) (by kernel_rfl) ⟨⟨_,rfl,?_⟩,⟨_,rfl,?_⟩,trivial⟩
    ·refine e' rfl ?_
     refine C0.step rfl (j0:=3) (js:=[]) (by kernel_rfl) ⟨⟨_,rfl,?_⟩,trivial⟩
     refine g' [0] ((ih7 _ _ hx3).ok) rfl rfl rfl rfl rfl rfl (n' ?_)
     refine C0.step rfl (j0:=4) (js:=[]) (by kernel_rfl) ⟨⟨_,rfl,?_⟩,trivial⟩
     refine D0.be hC rfl (A0.rows_map [o3,x3.1]).symm (n' ?_)
     refine C0.step rfl (j0:=5) (js:=[]) (by kernel_rfl) ⟨⟨_,rfl,?_⟩,trivial⟩
     refine e' rfl ?_
     refine C0.step rfl (j0:=6) (js:=[]) (by kernel_rfl) ⟨⟨_,rfl,?_⟩,trivial⟩
     refine D0.s hC rfl (n' (C0.nil (by kernel_rfl) ?_))
     refine P0.wk ?_ (ih6 _ _ _ hh)
     exact ⟨⟨⟨.rfl,rfl⟩,⟨.rfl,rfl⟩,⟨.rfl,rfl⟩,⟨.rfl,rfl⟩,trivial⟩,⟨⟨rfl,.refl _,rfl⟩,⟨rfl,.refl _,rfl⟩,⟨rfl,.refl _,rfl⟩,⟨rfl,⟨.rfl,.rfl,.rfl,.full,trivial⟩,rfl⟩,trivial⟩,rfl⟩
    ·refine g' [0] ((ih7 _ _ hx3).ok) rfl rfl rfl rfl rfl rfl (n' ?_)
     refine C0.step rfl (j0:=0) (js:=[4]) (by kernel_rfl) ⟨⟨_,rfl,?_⟩,⟨_,rfl,?_⟩,trivial⟩
     ·refine e' rfl ?_
      refine C0.step rfl (j0:=4) (js:=[]) (by kernel_rfl) ⟨⟨_,rfl,?_⟩,trivial⟩
      refine D0.be hC rfl (A0.rows_map [o3,x3.1]).symm (n' ?_)
      refine C0.step rfl (j0:=5) (js:=[]) (by kernel_rfl) ⟨⟨_,rfl,?_⟩,trivial⟩
      refine e' rfl ?_
      refine C0.step rfl (j0:=6) (js:=[]) (by kernel_rfl) ⟨⟨_,rfl,?_⟩,trivial⟩
      refine D0.s hC rfl (n' (C0.nil (by kernel_rfl) ?_))
      refine P0.wk ?_ (ih6 _ _ _ hh)
      exact ⟨⟨⟨.rfl,rfl⟩,⟨.rfl,rfl⟩,⟨.rfl,rfl⟩,⟨.rfl,rfl⟩,trivial⟩,⟨⟨rfl,.refl _,rfl⟩,⟨rfl,.refl _,rfl⟩,⟨rfl,.refl _,rfl⟩,⟨rfl,⟨.rfl,.rfl,.rfl,.full,trivial⟩,rfl⟩,trivial⟩,rfl⟩
     ·refine D0.be hC rfl (A0.rows_map [o3,x3.1]).symm (n' ?_)
      refine C0.step rfl (j0:=0) (js:=[]) (by kernel_rfl) ⟨⟨_,rfl,?_⟩,trivial⟩
      refine e' rfl ?_
      refine C0.step rfl (j0:=5) (js:=[]) (by kernel_rfl) ⟨⟨_,rfl,?_⟩,trivial⟩
      refine e' rfl ?_
      refine C0.step rfl (j0:=6) (js:=[]) (by kernel_rfl) ⟨⟨_,rfl,?_⟩,trivial⟩
      refine D0.s hC rfl (n' (C0.nil (by kernel_rfl) ?_))
      refine P0.wk ?_ (ih6 _ _ _ hh)
      exact ⟨⟨⟨.rfl,rfl⟩,⟨.rfl,rfl⟩,⟨.rfl,rfl⟩,⟨.rfl,rfl⟩,trivial⟩,⟨⟨rfl,.refl _,rfl⟩,⟨rfl,.refl _,rfl⟩,⟨rfl,.refl _,rfl⟩,⟨rfl,⟨.rfl,.rfl,.rfl,.full,trivial⟩,rfl⟩,trivial⟩,rfl⟩
  ·refine e' rfl ?_
   refine C0.step rfl (j0:=0) (js:=[1,3]) (by kernel_rfl) ⟨⟨_,rfl,?_⟩,⟨_,rfl,?_⟩,⟨_,rfl,?_⟩,trivial⟩
   ·refine e' rfl ?_
    refine C0.step rfl (j0:=1) (js:=[3]) (by kernel_rfl) ⟨⟨_,rfl,?_⟩,⟨_,rfl,?_⟩,trivial⟩
    ·refine e' rfl ?_
     refine C0.step rfl (j0:=3) (js:=[]) (by kernel_rfl) ⟨⟨_,rfl,?_⟩,trivial⟩
     refine g' [0] ((ih7 _ _ hx3).ok) rfl rfl rfl rfl rfl rfl (n' ?_)
     refine C0.step rfl (j0:=4) (js:=[]) (by kernel_rfl) ⟨⟨_,rfl,?_⟩,trivial⟩
     refine D0.be hC rfl (A0.rows_map [o3,x3.1]).symm (n' ?_)
     refine C0.step rfl (j0:=5) (js:=[]) (by kernel_rfl) ⟨⟨_,rfl,?_⟩,trivial⟩
     refine e' rfl ?_
     refine C0.step rfl (j0:=6) (js:=[]) (by kernel_rfl) ⟨⟨_,rfl,?_⟩,trivial⟩
     refine D0.s hC rfl (n' (C0.nil (by kernel_rfl) ?_))
     refine P0.wk ?_ (ih6 _ _ _ hh)
     exact ⟨⟨⟨.rfl,rfl⟩,⟨.rfl,rfl⟩,⟨.rfl,rfl⟩,⟨.rfl,rfl⟩,trivial⟩,⟨⟨rfl,.refl _,rfl⟩,⟨rfl,.refl _,rfl⟩,⟨rfl,.refl _,rfl⟩,⟨rfl,⟨.rfl,.rfl,.rfl,.full,trivial⟩,rfl⟩,trivial⟩,rfl⟩
    ·refine g' [0] ((ih7 _ _ hx3).ok) rfl rfl rfl rfl rfl rfl (n' ?_)
     refine C0.step rfl (j0:=1) (js:=[]) (by kernel_rfl) ⟨⟨_,rfl,?_⟩,trivial⟩
     refine e' rfl ?_
     refine C0.step rfl (j0:=4) (js:=[]) (by kernel_rfl) ⟨⟨_,rfl,?_⟩,trivial⟩
     refine D0.be hC rfl (A0.rows_map [o3,x3.1]).symm (n' ?_)
     refine C0.step rfl (j0:=5) (js:=[]) (by kernel_rfl) ⟨⟨_,rfl,?_⟩,trivial⟩
     refine e' rfl ?_
     refine C0.step rfl (j0:=6) (js:=[]) (by kernel_rfl) ⟨⟨_,rfl,?_⟩,trivial⟩
     refine D0.s hC rfl (n' (C0.nil (by kernel_rfl) ?_))
     refine P0.wk ?_ (ih6 _ _ _ hh)
     exact ⟨⟨⟨.rfl,rfl⟩,⟨.rfl,rfl⟩,⟨.rfl,rfl⟩,⟨.rfl,rfl⟩,trivial⟩,⟨⟨rfl,.refl _,rfl⟩,⟨rfl,.refl _,rfl⟩,⟨rfl,.refl _,rfl⟩,⟨rfl,⟨.rfl,.rfl,.rfl,.full,trivial⟩,rfl⟩,trivial⟩,rfl⟩
   ·refine e' rfl ?_
    refine C0.step rfl (j0:=0) (js:=[3]) (by kernel_rfl) ⟨⟨_,rfl,?_⟩,⟨_,rfl,?_⟩,trivial⟩
    ·refine e' rfl ?_
     refine C0.step rfl (j0:=3) (js:=[]) (by kernel_rfl) ⟨⟨_,rfl,?_⟩,trivial⟩
     refine g' [0] ((ih7 _ _ hx3).ok) rfl rfl rfl rfl rfl rfl (n' ?_)
     refine C0.step rfl (j0:=4) (js:=[]) (by kernel_rfl) ⟨⟨_,rfl,?_⟩,trivial⟩
     refine D0.be hC rfl (A0.rows_map [o3,x3.1]).symm (n' ?_)
     refine C0.step rfl (j0:=5) (js:=[]) (by kernel_rfl) ⟨⟨_,rfl,?_⟩,trivial⟩
     refine e' rfl ?_
     refine C0.step rfl (j0:=6) (js:=[]) (by kernel_rfl) ⟨⟨_,rfl,?_⟩,trivial⟩
     refine D0.s hC rfl (n' (C0.nil (by kernel_rfl) ?_))
     refine P0.wk ?_ (ih6 _ _ _ hh)
     exact ⟨⟨⟨.rfl,rfl⟩,⟨.rfl,rfl⟩,⟨.rfl,rfl⟩,⟨.rfl,rfl⟩,trivial⟩,⟨⟨rfl,.refl _,rfl⟩,⟨rfl,.refl _,rfl⟩,⟨rfl,.refl _,rfl⟩,⟨rfl,⟨.rfl,.rfl,.rfl,.full,trivial⟩,rfl⟩,trivial⟩,rfl⟩
    ·refine g' [0] ((ih7 _ _ hx3).ok) rfl rfl rfl rfl rfl rfl (n' ?_)
     refine C0.step rfl (j0:=0) (js:=[4]) (by kernel_rfl) ⟨⟨_,rfl,?_⟩,⟨_,rfl,?_⟩,trivial⟩
     ·refine e' rfl ?_
      refine C0.step rfl (j0:=4) (js:=[]) (by kernel_rfl) ⟨⟨_,rfl,?_⟩,trivial⟩
      refine D0.be hC rfl (A0.rows_map [o3,x3.1]).symm (n' ?_)
      refine C0.step rfl (j0:=5) (js:=[]) (by kernel_rfl) ⟨⟨_,rfl,?_⟩,trivial⟩
      refine e' rfl ?_
      refine C0.step rfl (j0:=6) (js:=[]) (by kernel_rfl) ⟨⟨_,rfl,?_⟩,trivial⟩
      refine D0.s hC rfl (n' (C0.nil (by kernel_rfl) ?_))
      refine P0.wk ?_ (ih6 _ _ _ hh)
      exact ⟨⟨⟨.rfl,rfl⟩,⟨.rfl,rfl⟩,⟨.rfl,rfl⟩,⟨.rfl,rfl⟩,trivial⟩,⟨⟨rfl,.refl _,rfl⟩,⟨rfl,.refl _,rfl⟩,⟨rfl,.refl _,rfl⟩,⟨rfl,⟨.rfl,.rfl,.rfl,.full,trivial⟩,rfl⟩,trivial⟩,rfl⟩
     ·refine D0.be hC rfl (A0.rows_map [o3,x3.1]).symm (n' ?_)
      refine C0.step rfl (j0:=0) (js:=[]) (by kernel_rfl) ⟨⟨_,rfl,?_⟩,trivial⟩
      refine e' rfl ?_
      refine C0.step rfl (j0:=5) (js:=[]) (by kernel_rfl) ⟨⟨_,rfl,?_⟩,trivial⟩
      refine e' rfl ?_
      refine C0.step rfl (j0:=6) (js:=[]) (by kernel_rfl) ⟨⟨_,rfl,?_⟩,trivial⟩
      refine D0.s hC rfl (n' (C0.nil (by kernel_rfl) ?_))
      refine P0.wk ?_ (ih6 _ _ _ hh)
      exact ⟨⟨⟨.rfl,rfl⟩,⟨.rfl,rfl⟩,⟨.rfl,rfl⟩,⟨.rfl,rfl⟩,trivial⟩,⟨⟨rfl,.refl _,rfl⟩,⟨rfl,.refl _,rfl⟩,⟨rfl,.refl _,rfl⟩,⟨rfl,⟨.rfl,.rfl,.rfl,.full,trivial⟩,rfl⟩,trivial⟩,rfl⟩
   ·refine g' [0] ((ih7 _ _ hx3).ok) rfl rfl rfl rfl rfl rfl (n' ?_)
    refine C0.step rfl (j0:=0) (js:=[1]) (by kernel_rfl) ⟨⟨_,rfl,?_⟩,⟨_,rfl,?_⟩,trivial⟩
    ·refine e' rfl ?_
     refine C0.step rfl (j0:=1) (js:=[]) (by kernel_rfl) ⟨⟨_,rfl,?_⟩,trivial⟩
     refine e' rfl ?_
     refine C0.step rfl (j0:=4) (js:=[]) (by kernel_rfl) ⟨⟨_,rfl,?_⟩,trivial⟩
     refine D0.be hC rfl (A0.rows_map [o3,x3.1]).symm (n' ?_)
     refine C0.step rfl (j0:=5) (js:=[]) (by kernel_rfl) ⟨⟨_,rfl,?_⟩,trivial⟩
     refine e' rfl ?_
     refine C0.step rfl (j0:=6) (js:=[]) (by kernel_rfl) ⟨⟨_,rfl,?_⟩,trivial⟩
     refine D0.s hC rfl (n' (C0.nil (by kernel_rfl) ?_))
     refine P0.wk ?_ (ih6 _ _ _ hh)
     exact ⟨⟨⟨.rfl,rfl⟩,⟨.rfl,rfl⟩,⟨.rfl,rfl⟩,⟨.rfl,rfl⟩,trivial⟩,⟨⟨rfl,.refl _,rfl⟩,⟨rfl,.refl _,rfl⟩,⟨rfl,.refl _,rfl⟩,⟨rfl,⟨.rfl,.rfl,.rfl,.full,trivial⟩,rfl⟩,trivial⟩,rfl⟩
    ·refine e' rfl ?_
     refine C0.step rfl (j0:=0) (js:=[4]) (by kernel_rfl) ⟨⟨_,rfl,?_⟩,⟨_,rfl,?_⟩,trivial⟩
     ·refine e' rfl ?_
      refine C0.step rfl (j0:=4) (js:=[]) (by kernel_rfl) ⟨⟨_,rfl,?_⟩,trivial⟩
      refine D0.be hC rfl (A0.rows_map [o3,x3.1]).symm (n' ?_)
      refine C0.step rfl (j0:=5) (js:=[]) (by kernel_rfl) ⟨⟨_,rfl,?_⟩,trivial⟩
      refine e' rfl ?_
      refine C0.step rfl (j0:=6) (js:=[]) (by kernel_rfl) ⟨⟨_,rfl,?_⟩,trivial⟩
      refine D0.s hC rfl (n' (C0.nil (by kernel_rfl) ?_))
      refine P0.wk ?_ (ih6 _ _ _ hh)
      exact ⟨⟨⟨.rfl,rfl⟩,⟨.rfl,rfl⟩,⟨.rfl,rfl⟩,⟨.rfl,rfl⟩,trivial⟩,⟨⟨rfl,.refl _,rfl⟩,⟨rfl,.refl _,rfl⟩,⟨rfl,.refl _,rfl⟩,⟨rfl,⟨.rfl,.rfl,.rfl,.full,trivial⟩,rfl⟩,trivial⟩,rfl⟩
     ·refine D0.be hC rfl (A0.rows_map [o3,x3.1]).symm (n' ?_)
      refine C0.step rfl (j0:=0) (js:=[]) (by kernel_rfl) ⟨⟨_,rfl,?_⟩,trivial⟩
      refine e' rfl ?_
      refine C0.step rfl (j0:=5) (js:=[]) (by kernel_rfl) ⟨⟨_,rfl,?_⟩,trivial⟩
      refine e' rfl ?_
      refine C0.step rfl (j0:=6) (js:=[]) (by kernel_rfl) ⟨⟨_,rfl,?_⟩,trivial⟩
      refine D0.s hC rfl (n' (C0.nil (by kernel_rfl) ?_))
      refine P0.wk ?_ (ih6 _ _ _ hh)
      exact ⟨⟨⟨.rfl,rfl⟩,⟨.rfl,rfl⟩,⟨.rfl,rfl⟩,⟨.rfl,rfl⟩,trivial⟩,⟨⟨rfl,.refl _,rfl⟩,⟨rfl,.refl _,rfl⟩,⟨rfl,.refl _,rfl⟩,⟨rfl,⟨.rfl,.rfl,.rfl,.full,trivial⟩,rfl⟩,trivial⟩,rfl⟩
 ·intro g8 g9 ih8 ih9 parserParser res hh
  refine I2.intro hC Tryz.func166 rfl rfl rfl (s' rfl rfl (D0.nf hC rfl (n' (p' 1 rfl ?_))))
  rcases bp' hh with ⟨nn,hx1,⟨⟩⟩ | ⟨x1,hx1,hh⟩
  ·exact gn' [0] (ih9 _ _ hx1) rfl rfl rfl rfl rfl (fun hi=>peW ⟨trivial,trivial⟩ rfl hi)
  obtain ⟨x2,hx2,hh⟩:=bs' hh
  refine g' [0] ((ih9 _ _ hx1).ok) rfl rfl rfl rfl rfl rfl (D0.nf hC rfl (D0.s hC rfl (n' (t' rfl (S' (bk' (p' 1 rfl (g' [0] (V0 hx2) rfl rfl rfl rfl rfl rfl (e' rfl (ci' rfl hh (fun hh=>?_) (fun hh=>?_)))))))))))
  ·exact sk' (ew' (ih8 _ _ _ _ hh) rfl rfl rfl)
  obtain ⟨x4,hx4,hh⟩:=bs' hh
  refine p' 1 rfl (g' [0] (V0 hx4) rfl rfl rfl rfl rfl rfl (e' rfl (ci' rfl hh (fun hh=>?_) (fun hh=>?_))))
  ·exact T' rfl (ew' (ih8 _ _ _ _ hh) rfl rfl rfl)
  obtain ⟨x5,hx5,hh⟩:=bs' hh
  refine p' 1 rfl (g' [0] (V0 hx5) rfl rfl rfl rfl rfl rfl (e' rfl (ci' rfl hh (fun hh=>?_) (fun hh=>?_))))
  ·exact T' rfl (ew' (ih8 _ _ _ _ hh) rfl rfl rfl)
  obtain ⟨x6,hx6,hh⟩:=bs' hh
  refine p' 1 rfl (g' [0] (V0 hx6) rfl rfl rfl rfl rfl rfl (e' rfl (ci' rfl hh (fun hh=>?_) (fun hh=>?_))))
  ·exact T' rfl (ew' (ih8 _ _ _ _ hh) rfl rfl rfl)
  obtain ⟨x7,hx7,hh⟩:=bs' hh
  refine p' 1 rfl (g' [0] (V0 hx7) rfl rfl rfl rfl rfl rfl (e' rfl (ci' rfl hh (fun hh=>?_) (fun hh=>?_))))
  ·exact T' rfl (ew' (ih8 _ _ _ _ hh) rfl rfl rfl)
  obtain ⟨x8,hx8,hh⟩:=bs' hh
  refine p' 1 rfl (g' [0] (V0 hx8) rfl rfl rfl rfl rfl rfl (e' rfl (ci' rfl hh (fun hh=>?_) (fun hh=>?_))))
  ·exact T' rfl (ew' (ih8 _ _ _ _ hh) rfl rfl rfl)
  cases hh
  exact p' 1 rfl (D0.s hC rfl (n' (re' (rt' rfl rfl rfl))))
 ·intro g9 ih9 o0 x1 op res hh
  refine S' ?_
  rcases bp' hh with ⟨nn,hx3,⟨⟩⟩ | ⟨x3,hx3,hh⟩
  ·refine AEx.drawE hC ?_
   refine C0.step rfl (j0:=0) (js:=[1,2]) (by kernel_rfl) ⟨⟨_,rfl,?_⟩,⟨_,rfl,?_⟩,⟨_,rfl,?_⟩,trivial⟩
   ·refine e' rfl ?_
    refine C0.step rfl (j0:=1) (js:=[2]) (by kernel_rfl) ⟨⟨_,rfl,?_⟩,⟨_,rfl,?_⟩,trivial⟩
    ·refine e' rfl ?_
     refine C0.step rfl (j0:=2) (js:=[]) (by kernel_rfl) ⟨⟨_,rfl,?_⟩,trivial⟩
     refine e' rfl ?_
     refine C0.step rfl (j0:=3) (js:=[]) (by kernel_rfl) ⟨⟨_,rfl,?_⟩,trivial⟩
     exact gn' [0] (ih9 _ _ hx3) rfl rfl rfl rfl rfl (fun hi=>peW ⟨trivial,trivial⟩ rfl hi)
    ·refine e' rfl ?_
     refine C0.step rfl (j0:=1) (js:=[3]) (by kernel_rfl) ⟨⟨_,rfl,?_⟩,⟨_,rfl,?_⟩,trivial⟩
     ·refine e' rfl ?_
      refine C0.step rfl (j0:=3) (js:=[]) (by kernel_rfl) ⟨⟨_,rfl,?_⟩,trivial⟩
      exact gn' [0] (ih9 _ _ hx3) rfl rfl rfl rfl rfl (fun hi=>peW ⟨trivial,trivial⟩ rfl hi)
     ·exact gn' [0] (ih9 _ _ hx3) rfl rfl rfl rfl rfl (fun hi=>peW ⟨trivial,trivial⟩ rfl hi)
   ·refine e' rfl ?_
    refine C0.step rfl (j0:=0) (js:=[2]) (by kernel_rfl) ⟨⟨_,rfl,?_⟩,⟨_,rfl,?_⟩,trivial⟩
    ·refine e' rfl ?_
     refine C0.step rfl (j0:=2) (js:=[]) (by kernel_rfl) ⟨⟨_,rfl,?_⟩,trivial⟩
     refine e' rfl ?_
     refine C0.step rfl (j0:=3) (js:=[]) (by kernel_rfl) ⟨⟨_,rfl,?_⟩,trivial⟩
     exact gn' [0] (ih9 _ _ hx3) rfl rfl rfl rfl rfl (fun hi=>peW ⟨trivial,trivial⟩ rfl hi)
    ·refine e' rfl ?_
     refine C0.step rfl (j0:=0) (js:=[3]) (by kernel_rfl) ⟨⟨_,rfl,?_⟩,⟨_,rfl,?_⟩,trivial⟩
     ·refine e' rfl ?_
      refine C0.step rfl (j0:=3) (js:=[]) (by kernel_rfl) ⟨⟨_,rfl,?_⟩,trivial⟩
      exact gn' [0] (ih9 _ _ hx3) rfl rfl rfl rfl rfl (fun hi=>peW ⟨trivial,trivial⟩ rfl hi)
     ·exact gn' [0] (ih9 _ _ hx3) rfl rfl rfl rfl rfl (fun hi=>peW ⟨trivial,trivial⟩ rfl hi)
   ·refine e' rfl ?_
    refine C0.step rfl (j0:=0) (js:=[1,3]) (by kernel_rfl) ⟨⟨_,rfl,?_⟩,⟨_,rfl,?_⟩,⟨_,rfl,?_⟩,trivial⟩
    ·refine e' rfl ?_
     refine C0.step rfl (j0:=1) (js:=[3]) (by kernel_rfl) ⟨⟨_,rfl,?_⟩,⟨_,rfl,?_⟩,trivial⟩
     ·refine e' rfl ?_
      refine C0.step rfl (j0:=3) (js:=[]) (by kernel_rfl) ⟨⟨_,rfl,?_⟩,trivial⟩
      exact gn' [0] (ih9 _ _ hx3) rfl rfl rfl rfl rfl (fun hi=>peW ⟨trivial,trivial⟩ rfl hi)
     ·exact gn' [0] (ih9 _ _ hx3) rfl rfl rfl rfl rfl (fun hi=>peW ⟨trivial,trivial⟩ rfl hi)
    ·refine e' rfl ?_
     refine C0.step rfl (j0:=0) (js:=[3]) (by kernel_rfl) ⟨⟨_,rfl,?_⟩,⟨_,rfl,?_⟩,trivial⟩
     ·refine e' rfl ?_
      refine C0.step rfl (j0:=3) (js:=[]) (by kernel_rfl) ⟨⟨_,rfl,?_⟩,trivial⟩
      exact gn' [0] (ih9 _ _ hx3) rfl rfl rfl rfl rfl (fun hi=>peW ⟨trivial,trivial⟩ rfl hi)
     ·exact gn' [0] (ih9 _ _ hx3) rfl rfl rfl rfl rfl (fun hi=>peW ⟨trivial,trivial⟩ rfl hi)
    ·exact gn' [0] (ih9 _ _ hx3) rfl rfl rfl rfl rfl (fun hi=>peW ⟨trivial,trivial⟩ rfl hi)
  refine AEx.drawE hC ?_
  refine C0.step rfl (j0:=0) (js:=[1,2]) (by kernel_rfl) ⟨⟨_,rfl,?_⟩,⟨_,rfl,?_⟩,⟨_,rfl,?_⟩,trivial⟩
  ·refine e' rfl ?_
   refine C0.step rfl (j0:=1) (js:=[2]) (by kernel_rfl) ⟨⟨_,rfl,?_⟩,⟨_,rfl,?_⟩,trivial⟩
   ·refine e' rfl ?_
    refine C0.step rfl (j0:=2) (js:=[]) (by kernel_rfl) ⟨⟨_,rfl,?_⟩,trivial⟩
    refine e' rfl ?_
    refine C0.step rfl (j0:=3) (js:=[]) (by kernel_rfl) ⟨⟨_,rfl,?_⟩,trivial⟩
    refine g' [0] ((ih9 _ _ hx3).ok) rfl rfl rfl rfl rfl rfl (n' ?_)
    refine C0.step rfl (j0:=4) (js:=[]) (by kernel_rfl) ⟨⟨_,rfl,?_⟩,trivial⟩
    refine D0.be hC rfl (A0.rows_map [x1.1,x3.1]).symm (n' ?_)
    refine C0.step rfl (j0:=5) (js:=[]) (by kernel_rfl) ⟨⟨_,rfl,?_⟩,trivial⟩
    refine e' rfl ?_
    refine C0.step rfl (j0:=6) (js:=[]) (by kernel_rfl) ⟨⟨_,rfl,?_⟩,trivial⟩
    refine D0.s hC rfl (n' (C0.nil (by kernel_rfl) (re' ?_)))
    obtain rfl:=oi' hh
    exact ⟨_,.agg [.d (.int .i64 op),.d (.int .i64 0),.d (.str []),.d (.sl (A0.rows [x1.1,x3.1]))],[.row (B0.cells x3.2) 99],rfl,(.aggL ⟨.rfl,.rfl,.rfl,.full,trivial⟩),⟨⟨rfl,.refl _,rfl⟩,trivial⟩,rfl,rfl,rpq rfl rfl⟩
   ·refine e' rfl ?_
    refine C0.step rfl (j0:=1) (js:=[3]) (by kernel_rfl) ⟨⟨_,rfl,?_⟩,⟨_,rfl,?_⟩,trivial⟩
    ·refine e' rfl ?_
     refine C0.step rfl (j0:=3) (js:=[]) (by kernel_rfl) ⟨⟨_,rfl,?_⟩,trivial⟩
     refine g' [0] ((ih9 _ _ hx3).ok) rfl rfl rfl rfl rfl rfl (n' ?_)
     refine C0.step rfl (j0:=4) (js:=[]) (by kernel_rfl) ⟨⟨_,rfl,?_⟩,trivial⟩
     refine D0.be hC rfl (A0.rows_map [x1.1,x3.1]).symm (n' ?_)
     refine C0.step rfl (j0:=5) (js:=[]) (by kernel_rfl) ⟨⟨_,rfl,?_⟩,trivial⟩
     refine e' rfl ?_
     refine C0.step rfl (j0:=6) (js:=[]) (by kernel_rfl) ⟨⟨_,rfl,?_⟩,trivial⟩
     refine D0.s hC rfl (n' (C0.nil (by kernel_rfl) (re' ?_)))
     obtain rfl:=oi' hh
     exact ⟨_,.agg [.d (.int .i64 op),.d (.int .i64 0),.d (.str []),.d (.sl (A0.rows [x1.1,x3.1]))],[.row (B0.cells x3.2) 99],rfl,(.aggL ⟨.rfl,.rfl,.rfl,.full,trivial⟩),⟨⟨rfl,.refl _,rfl⟩,trivial⟩,rfl,rfl,rpq rfl rfl⟩
    ·refine g' [0] ((ih9 _ _ hx3).ok) rfl rfl rfl rfl rfl rfl (n' ?_)
     refine C0.step rfl (j0:=1) (js:=[]) (by kernel_rfl) ⟨⟨_,rfl,?_⟩,trivial⟩
     refine e' rfl ?_
     refine C0.step rfl (j0:=4) (js:=[]) (by kernel_rfl) ⟨⟨_,rfl,?_⟩,trivial⟩
     refine D0.be hC rfl (A0.rows_map [x1.1,x3.1]).symm (n' ?_)
     refine C0.step rfl (j0:=5) (js:=[]) (by kernel_rfl) ⟨⟨_,rfl,?_⟩,trivial⟩
     refine e' rfl ?_
     refine C0.step rfl (j0:=6) (js:=[]) (by kernel_rfl) ⟨⟨_,rfl,?_⟩,trivial⟩
     refine D0.s hC rfl (n' (C0.nil (by kernel_rfl) (re' ?_)))
     obtain rfl:=oi' hh
     exact ⟨_,.agg [.d (.int .i64 op),.d (.int .i64 0),.d (.str []),.d (.sl (A0.rows [x1.1,x3.1]))],[.row (B0.cells x3.2) 99],rfl,(.aggL ⟨.rfl,.rfl,.rfl,.full,trivial⟩),⟨⟨rfl,.refl _,rfl⟩,trivial⟩,rfl,rfl,rpq rfl rfl⟩
  ·refine e' rfl ?_
   refine C0.step rfl (j0:=0) (js:=[2]) (by kernel_rfl) ⟨⟨_,rfl,?_⟩,⟨_,rfl,?_⟩,trivial⟩
   ·refine e' rfl ?_
    refine C0.step rfl (j0:=2) (js:=[]) (by kernel_rfl) ⟨⟨_,rfl,?_⟩,trivial⟩
    refine e' rfl ?_
    refine C0.step rfl (j0:=3) (js:=[]) (by kernel_rfl) ⟨⟨_,rfl,?_⟩,trivial⟩
    refine g' [0] ((ih9 _ _ hx3).ok) rfl rfl rfl rfl rfl rfl (n' ?_)
    refine C0.step rfl (j0:=4) (js:=[]) (by kernel_rfl) ⟨⟨_,rfl,?_⟩,trivial⟩
    refine D0.be hC rfl (A0.rows_map [x1.1,x3.1]).symm (n' ?_)
    refine C0.step rfl (j0:=5) (js:=[]) (by kernel_rfl) ⟨⟨_,rfl,?_⟩,trivial⟩
    refine e' rfl ?_
    refine C0.step rfl (j0:=6) (js:=[]) (by kernel_rfl) ⟨⟨_,rfl,?_⟩,trivial⟩
    refine D0.s hC rfl (n' (C0.nil (by kernel_rfl) (re' ?_)))
    obtain rfl:=oi' hh
    exact ⟨_,.agg [.d (.int .i64 op),.d (.int .i64 0),.d (.str []),.d (.sl (A0.rows [x1.1,x3.1]))],[.row (B0.cells x3.2) 99],rfl,(.aggL ⟨.rfl,.rfl,.rfl,.full,trivial⟩),⟨⟨rfl,.refl _,rfl⟩,trivial⟩,rfl,rfl,rpq rfl rfl⟩
   ·refine e' rfl ?_
    refine C0.step rfl (j0:=0) (js:=[3]) (by kernel_rfl) ⟨⟨_,rfl,?_⟩,⟨_,rfl,?_⟩,trivial⟩
    ·refine e' rfl ?_
     refine C0.step rfl (j0:=3) (js:=[]) (by kernel_rfl) ⟨⟨_,rfl,?_⟩,trivial⟩
     refine g' [0] ((ih9 _ _ hx3).ok) rfl rfl rfl rfl rfl rfl (n' ?_)
     refine C0.step rfl (j0:=4) (js:=[]) (by kernel_rfl) ⟨⟨_,rfl,?_⟩,trivial⟩
     refine D0.be hC rfl (A0.rows_map [x1.1,x3.1]).symm (n' ?_)
     refine C0.step rfl (j0:=5) (js:=[]) (by kernel_rfl) ⟨⟨_,rfl,?_⟩,trivial⟩
     refine e' rfl ?_
     refine C0.step rfl (j0:=6) (js:=[]) (by kernel_rfl) ⟨⟨_,rfl,?_⟩,trivial⟩
     refine D0.s hC rfl (n' (C0.nil (by kernel_rfl) (re' ?_)))
     obtain rfl:=oi' hh
     exact ⟨_,.agg [.d (.int .i64 op),.d (.int .i64 0),.d (.str []),.d (.sl (A0.rows [x1.1,x3.1]))],[.row (B0.cells x3.2) 99],rfl,(.aggL ⟨.rfl,.rfl,.rfl,.full,trivial⟩),⟨⟨rfl,.refl _,rfl⟩,trivial⟩,rfl,rfl,rpq rfl rfl⟩
    ·refine g' [0] ((ih9 _ _ hx3).ok) rfl rfl rfl rfl rfl rfl (n' ?_)
     refine C0.step rfl (j0:=0) (js:=[4]) (by kernel_rfl) ⟨⟨_,rfl,?_⟩,⟨_,rfl,?_⟩,trivial⟩
     ·refine e' rfl ?_
      refine C0.step rfl (j0:=4) (js:=[]) (by kernel_rfl) ⟨⟨_,rfl,?_⟩,trivial⟩
      refine D0.be hC rfl (A0.rows_map [x1.1,x3.1]).symm (n' ?_)
      refine C0.step rfl (j0:=5) (js:=[]) (by kernel_rfl) ⟨⟨_,rfl,?_⟩,trivial⟩
      refine e' rfl ?_
      refine C0.step rfl (j0:=6) (js:=[]) (by kernel_rfl) ⟨⟨_,rfl,?_⟩,trivial⟩
      refine D0.s hC rfl (n' (C0.nil (by kernel_rfl) (re' ?_)))
      obtain rfl:=oi' hh
      exact ⟨_,.agg [.d (.int .i64 op),.d (.int .i64 0),.d (.str []),.d (.sl (A0.rows [x1.1,x3.1]))],[.row (B0.cells x3.2) 99],rfl,(.aggL ⟨.rfl,.rfl,.rfl,.full,trivial⟩),⟨⟨rfl,.refl _,rfl⟩,trivial⟩,rfl,rfl,rpq rfl rfl⟩
     ·refine D0.be hC rfl (A0.rows_map [x1.1,x3.1]).symm (n' ?_)
      refine C0.step rfl (j0:=0) (js:=[]) (by kernel_rfl) ⟨⟨_,rfl,?_⟩,trivial⟩
      refine e' rfl ?_
      refine C0.step rfl (j0:=5) (js:=[]) (by kernel_rfl) ⟨⟨_,rfl,?_⟩,trivial⟩
      refine e' rfl ?_
      refine C0.step rfl (j0:=6) (js:=[]) (by kernel_rfl) ⟨⟨_,rfl,?_⟩,trivial⟩
      refine D0.s hC rfl (n' (C0.nil (by kernel_rfl) (re' ?_)))
      obtain rfl:=oi' hh
      exact ⟨_,.agg [.d (.int .i64 op),.d (.int .i64 0),.d (.str []),.d (.sl (A0.rows [x1.1,x3.1]))],[.row (B0.cells x3.2) 99],rfl,(.aggL ⟨.rfl,.rfl,.rfl,.full,trivial⟩),⟨⟨rfl,.refl _,rfl⟩,trivial⟩,rfl,rfl,rpq rfl rfl⟩
  ·refine e' rfl ?_
   refine C0.step rfl (j0:=0) (js:=[1,3]) (by kernel_rfl) ⟨⟨_,rfl,?_⟩,⟨_,rfl,?_⟩,⟨_,rfl,?_⟩,trivial⟩
   ·refine e' rfl ?_
    refine C0.step rfl (j0:=1) (js:=[3]) (by kernel_rfl) ⟨⟨_,rfl,?_⟩,⟨_,rfl,?_⟩,trivial⟩
    ·refine e' rfl ?_
     refine C0.step rfl (j0:=3) (js:=[]) (by kernel_rfl) ⟨⟨_,rfl,?_⟩,trivial⟩
     refine g' [0] ((ih9 _ _ hx3).ok) rfl rfl rfl rfl rfl rfl (n' ?_)
     refine C0.step rfl (j0:=4) (js:=[]) (by kernel_rfl) ⟨⟨_,rfl,?_⟩,trivial⟩
     refine D0.be hC rfl (A0.rows_map [x1.1,x3.1]).symm (n' ?_)
     refine C0.step rfl (j0:=5) (js:=[]) (by kernel_rfl) ⟨⟨_,rfl,?_⟩,trivial⟩
     refine e' rfl ?_
     refine C0.step rfl (j0:=6) (js:=[]) (by kernel_rfl) ⟨⟨_,rfl,?_⟩,trivial⟩
     refine D0.s hC rfl (n' (C0.nil (by kernel_rfl) (re' ?_)))
     obtain rfl:=oi' hh
     exact ⟨_,.agg [.d (.int .i64 op),.d (.int .i64 0),.d (.str []),.d (.sl (A0.rows [x1.1,x3.1]))],[.row (B0.cells x3.2) 99],rfl,(.aggL ⟨.rfl,.rfl,.rfl,.full,trivial⟩),⟨⟨rfl,.refl _,rfl⟩,trivial⟩,rfl,rfl,rpq rfl rfl⟩
    ·refine g' [0] ((ih9 _ _ hx3).ok) rfl rfl rfl rfl rfl rfl (n' ?_)
     refine C0.step rfl (j0:=1) (js:=[]) (by kernel_rfl) ⟨⟨_,rfl,?_⟩,trivial⟩
     refine e' rfl ?_
     refine C0.step rfl (j0:=4) (js:=[]) (by kernel_rfl) ⟨⟨_,rfl,?_⟩,trivial⟩
     refine D0.be hC rfl (A0.rows_map [x1.1,x3.1]).symm (n' ?_)
     refine C0.step rfl (j0:=5) (js:=[]) (by kernel_rfl) ⟨⟨_,rfl,?_⟩,trivial⟩
     refine e' rfl ?_
     refine C0.step rfl (j0:=6) (js:=[]) (by kernel_rfl) ⟨⟨_,rfl,?_⟩,trivial⟩
     refine D0.s hC rfl (n' (C0.nil (by kernel_rfl) (re' ?_)))
     obtain rfl:=oi' hh
     exact ⟨_,.agg [.d (.int .i64 op),.d (.int .i64 0),.d (.str []),.d (.sl (A0.rows [x1.1,x3.1]))],[.row (B0.cells x3.2) 99],rfl,(.aggL ⟨.rfl,.rfl,.rfl,.full,trivial⟩),⟨⟨rfl,.refl _,rfl⟩,trivial⟩,rfl,rfl,rpq rfl rfl⟩
   ·refine e' rfl ?_
    refine C0.step rfl (j0:=0) (js:=[3]) (by kernel_rfl) ⟨⟨_,rfl,?_⟩,⟨_,rfl,?_⟩,trivial⟩
    ·refine e' rfl ?_
     refine C0.step rfl (j0:=3) (js:=[]) (by kernel_rfl) ⟨⟨_,rfl,?_⟩,trivial⟩
     refine g' [0] ((ih9 _ _ hx3).ok) rfl rfl rfl rfl rfl rfl (n' ?_)
     refine C0.step rfl (j0:=4) (js:=[]) (by kernel_rfl) ⟨⟨_,rfl,?_⟩,trivial⟩
     refine D0.be hC rfl (A0.rows_map [x1.1,x3.1]).symm (n' ?_)
     refine C0.step rfl (j0:=5) (js:=[]) (by kernel_rfl) ⟨⟨_,rfl,?_⟩,trivial⟩
     refine e' rfl ?_
     refine C0.step rfl (j0:=6) (js:=[]) (by kernel_rfl) ⟨⟨_,rfl,?_⟩,trivial⟩
     refine D0.s hC rfl (n' (C0.nil (by kernel_rfl) (re' ?_)))
     obtain rfl:=oi' hh
     exact ⟨_,.agg [.d (.int .i64 op),.d (.int .i64 0),.d (.str []),.d (.sl (A0.rows [x1.1,x3.1]))],[.row (B0.cells x3.2) 99],rfl,(.aggL ⟨.rfl,.rfl,.rfl,.full,trivial⟩),⟨⟨rfl,.refl _,rfl⟩,trivial⟩,rfl,rfl,rpq rfl rfl⟩
    ·refine g' [0] ((ih9 _ _ hx3).ok) rfl rfl rfl rfl rfl rfl (n' ?_)
     refine C0.step rfl (j0:=0) (js:=[4]) (by kernel_rfl) ⟨⟨_,rfl,?_⟩,⟨_,rfl,?_⟩,trivial⟩
     ·refine e' rfl ?_
      refine C0.step rfl (j0:=4) (js:=[]) (by kernel_rfl) ⟨⟨_,rfl,?_⟩,trivial⟩
      refine D0.be hC rfl (A0.rows_map [x1.1,x3.1]).symm (n' ?_)
      refine C0.step rfl (j0:=5) (js:=[]) (by kernel_rfl) ⟨⟨_,rfl,?_⟩,trivial⟩
      refine e' rfl ?_
      refine C0.step rfl (j0:=6) (js:=[]) (by kernel_rfl) ⟨⟨_,rfl,?_⟩,trivial⟩
      refine D0.s hC rfl (n' (C0.nil (by kernel_rfl) (re' ?_)))
      obtain rfl:=oi' hh
      exact ⟨_,.agg [.d (.int .i64 op),.d (.int .i64 0),.d (.str []),.d (.sl (A0.rows [x1.1,x3.1]))],[.row (B0.cells x3.2) 99],rfl,(.aggL ⟨.rfl,.rfl,.rfl,.full,trivial⟩),⟨⟨rfl,.refl _,rfl⟩,trivial⟩,rfl,rfl,rpq rfl rfl⟩
     ·refine D0.be hC rfl (A0.rows_map [x1.1,x3.1]).symm (n' ?_)
      refine C0.step rfl (j0:=0) (js:=[]) (by kernel_rfl) ⟨⟨_,rfl,?_⟩,trivial⟩
      refine e' rfl ?_
      refine C0.step rfl (j0:=5) (js:=[]) (by kernel_rfl) ⟨⟨_,rfl,?_⟩,trivial⟩
      refine e' rfl ?_
      refine C0.step rfl (j0:=6) (js:=[]) (by kernel_rfl) ⟨⟨_,rfl,?_⟩,trivial⟩
      refine D0.s hC rfl (n' (C0.nil (by kernel_rfl) (re' ?_)))
      obtain rfl:=oi' hh
      exact ⟨_,.agg [.d (.int .i64 op),.d (.int .i64 0),.d (.str []),.d (.sl (A0.rows [x1.1,x3.1]))],[.row (B0.cells x3.2) 99],rfl,(.aggL ⟨.rfl,.rfl,.rfl,.full,trivial⟩),⟨⟨rfl,.refl _,rfl⟩,trivial⟩,rfl,rfl,rpq rfl rfl⟩
   ·refine g' [0] ((ih9 _ _ hx3).ok) rfl rfl rfl rfl rfl rfl (n' ?_)
    refine C0.step rfl (j0:=0) (js:=[1]) (by kernel_rfl) ⟨⟨_,rfl,?_⟩,⟨_,rfl,?_⟩,trivial⟩
    ·refine e' rfl ?_
     refine C0.step rfl (j0:=1) (js:=[]) (by kernel_rfl) ⟨⟨_,rfl,?_⟩,trivial⟩
     refine e' rfl ?_
     refine C0.step rfl (j0:=4) (js:=[]) (by kernel_rfl) ⟨⟨_,rfl,?_⟩,trivial⟩
     refine D0.be hC rfl (A0.rows_map [x1.1,x3.1]).symm (n' ?_)
     refine C0.step rfl (j0:=5) (js:=[]) (by kernel_rfl) ⟨⟨_,rfl,?_⟩,trivial⟩
     refine e' rfl ?_
     refine C0.step rfl (j0:=6) (js:=[]) (by kernel_rfl) ⟨⟨_,rfl,?_⟩,trivial⟩
     refine D0.s hC rfl (n' (C0.nil (by kernel_rfl) (re' ?_)))
     obtain rfl:=oi' hh
     exact ⟨_,.agg [.d (.int .i64 op),.d (.int .i64 0),.d (.str []),.d (.sl (A0.rows [x1.1,x3.1]))],[.row (B0.cells x3.2) 99],rfl,(.aggL ⟨.rfl,.rfl,.rfl,.full,trivial⟩),⟨⟨rfl,.refl _,rfl⟩,trivial⟩,rfl,rfl,rpq rfl rfl⟩
    ·refine e' rfl ?_
     refine C0.step rfl (j0:=0) (js:=[4]) (by kernel_rfl) ⟨⟨_,rfl,?_⟩,⟨_,rfl,?_⟩,trivial⟩
     ·refine e' rfl ?_
      refine C0.step rfl (j0:=4) (js:=[]) (by kernel_rfl) ⟨⟨_,rfl,?_⟩,trivial⟩
      refine D0.be hC rfl (A0.rows_map [x1.1,x3.1]).symm (n' ?_)
      refine C0.step rfl (j0:=5) (js:=[]) (by kernel_rfl) ⟨⟨_,rfl,?_⟩,trivial⟩
      refine e' rfl ?_
      refine C0.step rfl (j0:=6) (js:=[]) (by kernel_rfl) ⟨⟨_,rfl,?_⟩,trivial⟩
      refine D0.s hC rfl (n' (C0.nil (by kernel_rfl) (re' ?_)))
      obtain rfl:=oi' hh
      exact ⟨_,.agg [.d (.int .i64 op),.d (.int .i64 0),.d (.str []),.d (.sl (A0.rows [x1.1,x3.1]))],[.row (B0.cells x3.2) 99],rfl,(.aggL ⟨.rfl,.rfl,.rfl,.full,trivial⟩),⟨⟨rfl,.refl _,rfl⟩,trivial⟩,rfl,rfl,rpq rfl rfl⟩
     ·refine D0.be hC rfl (A0.rows_map [x1.1,x3.1]).symm (n' ?_)
      refine C0.step rfl (j0:=0) (js:=[]) (by kernel_rfl) ⟨⟨_,rfl,?_⟩,trivial⟩
      refine e' rfl ?_
      refine C0.step rfl (j0:=5) (js:=[]) (by kernel_rfl) ⟨⟨_,rfl,?_⟩,trivial⟩
      refine e' rfl ?_
      refine C0.step rfl (j0:=6) (js:=[]) (by kernel_rfl) ⟨⟨_,rfl,?_⟩,trivial⟩
      refine D0.s hC rfl (n' (C0.nil (by kernel_rfl) (re' ?_)))
      obtain rfl:=oi' hh
      exact ⟨_,.agg [.d (.int .i64 op),.d (.int .i64 0),.d (.str []),.d (.sl (A0.rows [x1.1,x3.1]))],[.row (B0.cells x3.2) 99],rfl,(.aggL ⟨.rfl,.rfl,.rfl,.full,trivial⟩),⟨⟨rfl,.refl _,rfl⟩,trivial⟩,rfl,rfl,rpq rfl rfl⟩
 ·intro g10 ih10 parserParser res hh
  refine I2.intro hC Tryz.func189 rfl rfl rfl (s' rfl rfl (D0.n hC rfl (D0.nf hC rfl (n' (p' 4 rfl ?_)))))
  rcases bp' hh with ⟨nn,hx1,⟨⟩⟩ | ⟨x1,hx1,hh⟩
  ·exact gn' [0,1] (ih10 _ _ hx1) rfl rfl rfl rfl rfl (fun hi=>peW ⟨trivial,trivial⟩ rfl hi)
  cases hh
  exact g' [0,1] ((ih10 _ _ hx1).ok) rfl rfl rfl rfl rfl rfl (D0.s hC rfl (n' (re' (rt' rfl rfl rfl))))
 ·intro g11 g12 ih11 ih12 parserParser res hh
  refine I2.intro hC Tryz.func110 rfl rfl rfl (s' rfl rfl (D0.nf hC rfl (n' (p' 1 rfl ?_))))
  rcases bp' hh with ⟨nn,hx1,⟨⟩⟩ | ⟨x1,hx1,hh⟩
  ·exact gn' [0] (ih12 _ _ hx1) rfl rfl rfl rfl rfl (fun hi=>peW ⟨trivial,⟨rfl,.refl _,rfl⟩,trivial⟩ rfl hi)
  exact g' [0] ((ih12 _ _ hx1).ok) rfl rfl rfl rfl rfl rfl (D0.nf hC rfl (D0.s hC rfl (n' (bk' (fw' (ih11 _ _ _ hh) rfl rfl rfl)))))
 ·intro g11 g12 ih11 ih12 o0 o3 res hh
  obtain ⟨x2,hx2,hh⟩:=bs' hh
  refine P0.unroll (bk' (p' 1 rfl (g' [1,0] (Ml hx2) rfl rfl rfl rfl rfl rfl (e' rfl (S' (t' rfl (ci' rfl hh (fun hh=>?_) (fun hh=>?_))))))))
  ·cases hh
   exact p' 1 rfl (D0.s hC rfl (n' (re' (rt' rfl rfl rfl))))
  refine sk' ?_
  rcases bp' hh with ⟨nn,hx3,⟨⟩⟩ | ⟨x3,hx3,hh⟩
  ·refine AEx.drawE hC ?_
   refine C0.step rfl (j0:=0) (js:=[1,2]) (by kernel_rfl) ⟨⟨_,rfl,?_⟩,⟨_,rfl,?_⟩,⟨_,rfl,?_⟩,trivial⟩
   ·refine e' rfl ?_
    refine C0.step rfl (j0:=1) (js:=[2]) (by kernel_rfl) ⟨⟨_,rfl,?_⟩,⟨_,rfl,?_⟩,trivial⟩
    ·refine e' rfl ?_
     refine C0.step rfl (j0:=2) (js:=[]) (by kernel_rfl) ⟨⟨_,rfl,?_⟩,trivial⟩
     refine e' rfl ?_
     refine C0.step rfl (j0:=3) (js:=[]) (by kernel_rfl) ⟨⟨_,rfl,?_⟩,trivial⟩
     exact gn' [0] (ih12 _ _ hx3) rfl rfl rfl rfl rfl (fun hi=>peW ⟨trivial,⟨rfl,.refl _,rfl⟩,trivial⟩ rfl hi)
    ·refine e' rfl ?_
     refine C0.step rfl (j0:=1) (js:=[3]) (by kernel_rfl) ⟨⟨_,rfl,?_⟩,⟨_,rfl,?_⟩,trivial⟩
     ·refine e' rfl ?_
      refine C0.step rfl (j0:=3) (js:=[]) (by kernel_rfl) ⟨⟨_,rfl,?_⟩,trivial⟩
      exact gn' [0] (ih12 _ _ hx3) rfl rfl rfl rfl rfl (fun hi=>peW ⟨trivial,⟨rfl,.refl _,rfl⟩,trivial⟩ rfl hi)
     ·exact gn' [0] (ih12 _ _ hx3) rfl rfl rfl rfl rfl (fun hi=>peW ⟨trivial,⟨rfl,.refl _,rfl⟩,trivial⟩ rfl hi)
   ·refine e' rfl ?_
    refine C0.step rfl (j0:=0) (js:=[2]) (by kernel_rfl) ⟨⟨_,rfl,?_⟩,⟨_,rfl,?_⟩,trivial⟩
    ·refine e' rfl ?_
     refine C0.step rfl (j0:=2) (js:=[]) (by kernel_rfl) ⟨⟨_,rfl,?_⟩,trivial⟩
     refine e' rfl ?_
     refine C0.step rfl (j0:=3) (js:=[]) (by kernel_rfl) ⟨⟨_,rfl,?_⟩,trivial⟩
     exact gn' [0] (ih12 _ _ hx3) rfl rfl rfl rfl rfl (fun hi=>peW ⟨trivial,⟨rfl,.refl _,rfl⟩,trivial⟩ rfl hi)
    ·refine e' rfl ?_
     refine C0.step rfl (j0:=0) (js:=[3]) (by kernel_rfl) ⟨⟨_,rfl,?_⟩,⟨_,rfl,?_⟩,trivial⟩
     ·refine e' rfl ?_
      refine C0.step rfl (j0:=3) (js:=[]) (by kernel_rfl) ⟨⟨_,rfl,?_⟩,trivial⟩
      exact gn' [0] (ih12 _ _ hx3) rfl rfl rfl rfl rfl (fun hi=>peW ⟨trivial,⟨rfl,.refl _,rfl⟩,trivial⟩ rfl hi)
     ·exact gn' [0] (ih12 _ _ hx3) rfl rfl rfl rfl rfl (fun hi=>peW ⟨trivial,⟨rfl,.refl _,rfl⟩,trivial⟩ rfl hi)
   ·refine e' rfl ?_
    refine C0.step rfl (j0:=0) (js:=[1,3]) (by kernel_rfl) ⟨⟨_,rfl,?_⟩,⟨_,rfl,?_⟩,⟨_,rfl,?_⟩,trivial⟩
    ·refine e' rfl ?_
     refine C0.step rfl (j0:=1) (js:=[3]) (by kernel_rfl) ⟨⟨_,rfl,?_⟩,⟨_,rfl,?_⟩,trivial⟩
     ·refine e' rfl ?_
      refine C0.step rfl (j0:=3) (js:=[]) (by kernel_rfl) ⟨⟨_,rfl,?_⟩,trivial⟩
      exact gn' [0] (ih12 _ _ hx3) rfl rfl rfl rfl rfl (fun hi=>peW ⟨trivial,⟨rfl,.refl _,rfl⟩,trivial⟩ rfl hi)
     ·exact gn' [0] (ih12 _ _ hx3) rfl rfl rfl rfl rfl (fun hi=>peW ⟨trivial,⟨rfl,.refl _,rfl⟩,trivial⟩ rfl hi)
    ·refine e' rfl ?_
     refine C0.step rfl (j0:=0) (js:=[3]) (by kernel_rfl) ⟨⟨_,rfl,?_⟩,⟨_,rfl,?_⟩,trivial⟩
     ·refine e' rfl ?_
      refine C0.step rfl (j0:=3) (js:=[]) (by kernel_rfl) ⟨⟨_,rfl,?_⟩,trivial⟩
      exact gn' [0] (ih12 _ _ hx3) rfl rfl rfl rfl rfl (fun hi=>peW ⟨trivial,⟨rfl,.refl _,rfl⟩,trivial⟩ rfl hi)
     ·exact gn' [0] (ih12 _ _ hx3) rfl rfl rfl rfl rfl (fun hi=>peW ⟨trivial,⟨rfl,.refl _,rfl⟩,trivial⟩ rfl hi)
    ·exact gn' [0] (ih12 _ _ hx3) rfl rfl rfl rfl rfl (fun hi=>peW ⟨trivial,⟨rfl,.refl _,rfl⟩,trivial⟩ rfl hi)
  refine AEx.drawE hC ?_
  refine C0.step rfl (j0:=0) (js:=[1,2]) (by kernel_rfl) ⟨⟨_,rfl,?_⟩,⟨_,rfl,?_⟩,⟨_,rfl,?_⟩,trivial⟩
  ·refine e' rfl ?_
   refine C0.step rfl (j0:=1) (js:=[2]) (by kernel_rfl) ⟨⟨_,rfl,?_⟩,⟨_,rfl,?_⟩,trivial⟩
   ·refine e' rfl ?_
    refine C0.step rfl (j0:=2) (js:=[]) (by kernel_rfl) ⟨⟨_,rfl,?_⟩,trivial⟩
    refine e' rfl ?_
    refine C0.step rfl (j0:=3) (js:=[]) (by kernel_rfl) ⟨⟨_,rfl,?_⟩,trivial⟩
    refine g' [0] ((ih12 _ _ hx3).ok) rfl rfl rfl rfl rfl rfl (n' ?_)
    refine C0.step rfl (j0:=4) (js:=[]) (by kernel_rfl) ⟨⟨_,rfl,?_⟩,trivial⟩
    refine D0.be hC rfl (A0.rows_map [o3,x3.1]).symm (n' ?_)
    refine C0.step rfl (j0:=5) (js:=[]) (by kernel_rfl) ⟨⟨_,rfl,?_⟩,trivial⟩
    refine e' rfl ?_
    refine C0.step rfl (j0:=6) (js:=[]) (by kernel_rfl) ⟨⟨_,rfl,?_⟩,trivial⟩
    refine D0.s hC rfl (n' (C0.nil (by kernel_rfl) ?_))
    refine P0.wk ?_ (ih11 _ _ _ hh)
    exact ⟨⟨⟨.rfl,rfl⟩,⟨.rfl,rfl⟩,⟨.rfl,rfl⟩,⟨.rfl,rfl⟩,trivial⟩,⟨⟨rfl,.refl _,rfl⟩,⟨rfl,.refl _,rfl⟩,⟨rfl,.refl _,rfl⟩,⟨rfl,⟨.rfl,.rfl,.rfl,.full,trivial⟩,rfl⟩,trivial⟩,rfl⟩
   ·refine e' rfl ?_
    refine C0.step rfl (j0:=1) (js:=[3]) (by kernel_rfl) ⟨⟨_,rfl,?_⟩,⟨_,rfl,?_⟩,trivial⟩
    ·refine e' rfl ?_
     refine C0.step rfl (j0:=3) (js:=[]) (by kernel_rfl) ⟨⟨_,rfl,?_⟩,trivial⟩
     refine g' [0] ((ih12 _ _ hx3).ok) rfl rfl rfl rfl rfl rfl (n' ?_)
     refine C0.step rfl (j0:=4) (js:=[]) (by kernel_rfl) ⟨⟨_,rfl,?_⟩,trivial⟩
     refine D0.be hC rfl (A0.rows_map [o3,x3.1]).symm (n' ?_)
     refine C0.step rfl (j0:=5) (js:=[]) (by kernel_rfl) ⟨⟨_,rfl,?_⟩,trivial⟩
     refine e' rfl ?_
     refine C0.step rfl (j0:=6) (js:=[]) (by kernel_rfl) ⟨⟨_,rfl,?_⟩,trivial⟩
     refine D0.s hC rfl (n' (C0.nil (by kernel_rfl) ?_))
     refine P0.wk ?_ (ih11 _ _ _ hh)
     exact ⟨⟨⟨.rfl,rfl⟩,⟨.rfl,rfl⟩,⟨.rfl,rfl⟩,⟨.rfl,rfl⟩,trivial⟩,⟨⟨rfl,.refl _,rfl⟩,⟨rfl,.refl _,rfl⟩,⟨rfl,.refl _,rfl⟩,⟨rfl,⟨.rfl,.rfl,.rfl,.full,trivial⟩,rfl⟩,trivial⟩,rfl⟩
    ·refine g' [0] ((ih12 _ _ hx3).ok) rfl rfl rfl rfl rfl rfl (n' ?_)
     refine C0.step rfl (j0:=1) (js:=[]) (by kernel_rfl) ⟨⟨_,rfl,?_⟩,trivial⟩
     refine e' rfl ?_
     refine C0.step rfl (j0:=4) (js:=[]) (by kernel_rfl) ⟨⟨_,rfl,?_⟩,trivial⟩
     refine D0.be hC rfl (A0.rows_map [o3,x3.1]).symm (n' ?_)
     refine C0.step rfl (j0:=5) (js:=[]) (by kernel_rfl) ⟨⟨_,rfl,?_⟩,trivial⟩
     refine e' rfl ?_
     refine C0.step rfl (j0:=6) (js:=[]) (by kernel_rfl) ⟨⟨_,rfl,?_⟩,trivial⟩
     refine D0.s hC rfl (n' (C0.nil (by kernel_rfl) ?_))
     refine P0.wk ?_ (ih11 _ _ _ hh)
     exact ⟨⟨⟨.rfl,rfl⟩,⟨.rfl,rfl⟩,⟨.rfl,rfl⟩,⟨.rfl,rfl⟩,trivial⟩,⟨⟨rfl,.refl _,rfl⟩,⟨rfl,.refl _,rfl⟩,⟨rfl,.refl _,rfl⟩,⟨rfl,⟨.rfl,.rfl,.rfl,.full,trivial⟩,rfl⟩,trivial⟩,rfl⟩
  ·refine e' rfl ?_
   refine C0.step rfl (j0:=0) (js:=[2]) (by kernel_rfl) ⟨⟨_,rfl,?_⟩,⟨_,rfl,?_⟩,trivial⟩
   ·refine e' rfl ?_
    refine C0.step rfl (j0:=2) (js:=[]) (by kernel_rfl) ⟨⟨_,rfl,?_⟩,trivial⟩
    refine e' rfl ?_
    refine C0.step rfl (j0:=3) (js:=[]) (by kernel_rfl) ⟨⟨_,rfl,?_⟩,trivial⟩
    refine g' [0] ((ih12 _ _ hx3).ok) rfl rfl rfl rfl rfl rfl (n' ?_)
    refine C0.step rfl (j0:=4) (js:=[]) (by kernel_rfl) ⟨⟨_,rfl,?_⟩,trivial⟩
    refine D0.be hC rfl (A0.rows_map [o3,x3.1]).symm (n' ?_)
    refine C0.step rfl (j0:=5) (js:=[]) (by kernel_rfl) ⟨⟨_,rfl,?_⟩,trivial⟩
    refine e' rfl ?_
    refine C0.step rfl (j0:=6) (js:=[]) (by kernel_rfl) ⟨⟨_,rfl,?_⟩,trivial⟩
    refine D0.s hC rfl (n' (C0.nil (by kernel_rfl) ?_))
    refine P0.wk ?_ (ih11 _ _ _ hh)
    exact ⟨⟨⟨.rfl,rfl⟩,⟨.rfl,rfl⟩,⟨.rfl,rfl⟩,⟨.rfl,rfl⟩,trivial⟩,⟨⟨rfl,.refl _,rfl⟩,⟨rfl,.refl _,rfl⟩,⟨rfl,.refl _,rfl⟩,⟨rfl,⟨.rfl,.rfl,.rfl,.full,trivial⟩,rfl⟩,trivial⟩,rfl⟩
   ·refine e' rfl ?_
    refine C0.step rfl (j0:=0) (js:=[3]) (by kernel_rfl) ⟨⟨_,rfl,?_⟩,⟨_,rfl,?_⟩,trivial⟩
    ·refine e' rfl ?_
     refine C0.step rfl (j0:=3) (js:=[]) (by kernel_rfl) ⟨⟨_,rfl,?_⟩,trivial⟩
     refine g' [0] ((ih12 _ _ hx3).ok) rfl rfl rfl rfl rfl rfl (n' ?_)
     refine C0.step rfl (j0:=4) (js:=[]) (by kernel_rfl) ⟨⟨_,rfl,?_⟩,trivial⟩
     refine D0.be hC rfl (A0.rows_map [o3,x3.1]).symm (n' ?_)
     refine C0.step rfl (j0:=5) (js:=[]) (by kernel_rfl) ⟨⟨_,rfl,?_⟩,trivial⟩
     refine e' rfl ?_
     refine C0.step rfl (j0:=6) (js:=[]) (by kernel_rfl) ⟨⟨_,rfl,?_⟩,trivial⟩
     refine D0.s hC rfl (n' (C0.nil (by kernel_rfl) ?_))
     refine P0.wk ?_ (ih11 _ _ _ hh)
     exact ⟨⟨⟨.rfl,rfl⟩,⟨.rfl,rfl⟩,⟨.rfl,rfl⟩,⟨.rfl,rfl⟩,trivial⟩,⟨⟨rfl,.refl _,rfl⟩,⟨rfl,.refl _,rfl⟩,⟨rfl,.refl _,rfl⟩,⟨rfl,⟨.rfl,.rfl,.rfl,.full,trivial⟩,rfl⟩,trivial⟩,rfl⟩
    ·refine g' [0] ((ih12 _ _ hx3).ok) rfl rfl rfl rfl rfl rfl (n' ?_)
     refine C0.step rfl (j0:=0) (js:=[4]) (by kernel_rfl) ⟨⟨_,rfl,?_⟩,⟨_,rfl,?_⟩,trivial⟩
     ·refine e' rfl ?_
      refine C0.step rfl (j0:=4) (js:=[]) (by kernel_rfl) ⟨⟨_,rfl,?_⟩,trivial⟩
      refine D0.be hC rfl (A0.rows_map [o3,x3.1]).symm (n' ?_)
      refine C0.step rfl (j0:=5) (js:=[]) (by kernel_rfl) ⟨⟨_,rfl,?_⟩,trivial⟩
      refine e' rfl ?_
      refine C0.step rfl (j0:=6) (js:=[]) (by kernel_rfl) ⟨⟨_,rfl,?_⟩,trivial⟩
      refine D0.s hC rfl (n' (C0.nil (by kernel_rfl) ?_))
      refine P0.wk ?_ (ih11 _ _ _ hh)
      exact ⟨⟨⟨.rfl,rfl⟩,⟨.rfl,rfl⟩,⟨.rfl,rfl⟩,⟨.rfl,rfl⟩,trivial⟩,⟨⟨rfl,.refl _,rfl⟩,⟨rfl,.refl _,rfl⟩,⟨rfl,.refl _,rfl⟩,⟨rfl,⟨.rfl,.rfl,.rfl,.full,trivial⟩,rfl⟩,trivial⟩,rfl⟩
     ·refine D0.be hC rfl (A0.rows_map [o3,x3.1]).symm (n' ?_)
      refine C0.step rfl (j0:=0) (js:=[]) (by kernel_rfl) ⟨⟨_,rfl,?_⟩,trivial⟩
      refine e' rfl ?_
      refine C0.step rfl (j0:=5) (js:=[]) (by kernel_rfl) ⟨⟨_,rfl,?_⟩,trivial⟩
      refine e' rfl ?_
      refine C0.step rfl (j0:=6) (js:=[]) (by kernel_rfl) ⟨⟨_,rfl,?_⟩,trivial⟩
      refine D0.s hC rfl (n' (C0.nil (by kernel_rfl) ?_))
      refine P0.wk ?_ (ih11 _ _ _ hh)
      exact ⟨⟨⟨.rfl,rfl⟩,⟨.rfl,rfl⟩,⟨.rfl,rfl⟩,⟨.rfl,rfl⟩,trivial⟩,⟨⟨rfl,.refl _,rfl⟩,⟨rfl,.refl _,rfl⟩,⟨rfl,.refl _,rfl⟩,⟨rfl,⟨.rfl,.rfl,.rfl,.full,trivial⟩,rfl⟩,trivial⟩,rfl⟩
  ·refine e' rfl ?_
   refine C0.step rfl (j0:=0) (js:=[1,3]) (by kernel_rfl) ⟨⟨_,rfl,?_⟩,⟨_,rfl,?_⟩,⟨_,rfl,?_⟩,trivial⟩
   ·refine e' rfl ?_
    refine C0.step rfl (j0:=1) (js:=[3]) (by kernel_rfl) ⟨⟨_,rfl,?_⟩,⟨_,rfl,?_⟩,trivial⟩
    ·refine e' rfl ?_
     refine C0.step rfl (j0:=3) (js:=[]) (by kernel_rfl) ⟨⟨_,rfl,?_⟩,trivial⟩
     refine g' [0] ((ih12 _ _ hx3).ok) rfl rfl rfl rfl rfl rfl (n' ?_)
     refine C0.step rfl (j0:=4) (js:=[]) (by kernel_rfl) ⟨⟨_,rfl,?_⟩,trivial⟩
     refine D0.be hC rfl (A0.rows_map [o3,x3.1]).symm (n' ?_)
     refine C0.step rfl (j0:=5) (js:=[]) (by kernel_rfl) ⟨⟨_,rfl,?_⟩,trivial⟩
     refine e' rfl ?_
     refine C0.step rfl (j0:=6) (js:=[]) (by kernel_rfl) ⟨⟨_,rfl,?_⟩,trivial⟩
     refine D0.s hC rfl (n' (C0.nil (by kernel_rfl) ?_))
     refine P0.wk ?_ (ih11 _ _ _ hh)
     exact ⟨⟨⟨.rfl,rfl⟩,⟨.rfl,rfl⟩,⟨.rfl,rfl⟩,⟨.rfl,rfl⟩,trivial⟩,⟨⟨rfl,.refl _,rfl⟩,⟨rfl,.refl _,rfl⟩,⟨rfl,.refl _,rfl⟩,⟨rfl,⟨.rfl,.rfl,.rfl,.full,trivial⟩,rfl⟩,trivial⟩,rfl⟩
    ·refine g' [0] ((ih12 _ _ hx3).ok) rfl rfl rfl rfl rfl rfl (n' ?_)
     refine C0.step rfl (j0:=1) (js:=[]) (by kernel_rfl) ⟨⟨_,rfl,?_⟩,trivial⟩
     refine e' rfl ?_
     refine C0.step rfl (j0:=4) (js:=[]) (by kernel_rfl) ⟨⟨_,rfl,?_⟩,trivial⟩
     refine D0.be hC rfl (A0.rows_map [o3,x3.1]).symm (n' ?_)
     refine C0.step rfl (j0:=5) (js:=[]) (by kernel_rfl) ⟨⟨_,rfl,?_⟩,trivial⟩
     refine e' rfl ?_
     refine C0.step rfl (j0:=6) (js:=[]) (by kernel_rfl) ⟨⟨_,rfl,?_⟩,trivial⟩
     refine D0.s hC rfl (n' (C0.nil (by kernel_rfl) ?_))
     refine P0.wk ?_ (ih11 _ _ _ hh)
     exact ⟨⟨⟨.rfl,rfl⟩,⟨.rfl,rfl⟩,⟨.rfl,rfl⟩,⟨.rfl,rfl⟩,trivial⟩,⟨⟨rfl,.refl _,rfl⟩,⟨rfl,.refl _,rfl⟩,⟨rfl,.refl _,rfl⟩,⟨rfl,⟨.rfl,.rfl,.rfl,.full,trivial⟩,rfl⟩,trivial⟩,rfl⟩
   ·refine e' rfl ?_
    refine C0.step rfl (j0:=0) (js:=[3]) (by kernel_rfl) ⟨⟨_,rfl,?_⟩,⟨_,rfl,?_⟩,trivial⟩
    ·refine e' rfl ?_
     refine C0.step rfl (j0:=3) (js:=[]) (by kernel_rfl) ⟨⟨_,rfl,?_⟩,trivial⟩
     refine g' [0] ((ih12 _ _ hx3).ok) rfl rfl rfl rfl rfl rfl (n' ?_)
     refine C0.step rfl (j0:=4) (js:=[]) (by kernel_rfl) ⟨⟨_,rfl,?_⟩,trivial⟩
     refine D0.be hC rfl (A0.rows_map [o3,x3.1]).symm (n' ?_)
     refine C0.step rfl (j0:=5) (js:=[]) (by kernel_rfl) ⟨⟨_,rfl,?_⟩,trivial⟩
     refine e' rfl ?_
     refine C0.step rfl (j0:=6) (js:=[]) (by kernel_rfl) ⟨⟨_,rfl,?_⟩,trivial⟩
     refine D0.s hC rfl (n' (C0.nil (by kernel_rfl) ?_))
     refine P0.wk ?_ (ih11 _ _ _ hh)
     exact ⟨⟨⟨.rfl,rfl⟩,⟨.rfl,rfl⟩,⟨.rfl,rfl⟩,⟨.rfl,rfl⟩,trivial⟩,⟨⟨rfl,.refl _,rfl⟩,⟨rfl,.refl _,rfl⟩,⟨rfl,.refl _,rfl⟩,⟨rfl,⟨.rfl,.rfl,.rfl,.full,trivial⟩,rfl⟩,trivial⟩,rfl⟩
    ·refine g' [0] ((ih12 _ _ hx3).ok) rfl rfl rfl rfl rfl rfl (n' ?_)
     refine C0.step rfl (j0:=0) (js:=[4]) (by kernel_rfl) ⟨⟨_,rfl,?_⟩,⟨_,rfl,?_⟩,trivial⟩
     ·refine e' rfl ?_
      refine C0.step rfl (j0:=4) (js:=[]) (by kernel_rfl) ⟨⟨_,rfl,?_⟩,trivial⟩
      refine D0.be hC rfl (A0.rows_map [o3,x3.1]).symm (n' ?_)
      refine C0.step rfl (j0:=5) (js:=[]) (by kernel_rfl) ⟨⟨_,rfl,?_⟩,trivial⟩
      refine e' rfl ?_
      refine C0.step rfl (j0:=6) (js:=[]) (by kernel_rfl) ⟨⟨_,rfl,?_⟩,trivial⟩
      refine D0.s hC rfl (n' (C0.nil (by kernel_rfl) ?_))
      refine P0.wk ?_ (ih11 _ _ _ hh)
      exact ⟨⟨⟨.rfl,rfl⟩,⟨.rfl,rfl⟩,⟨.rfl,rfl⟩,⟨.rfl,rfl⟩,trivial⟩,⟨⟨rfl,.refl _,rfl⟩,⟨rfl,.refl _,rfl⟩,⟨rfl,.refl _,rfl⟩,⟨rfl,⟨.rfl,.rfl,.rfl,.full,trivial⟩,rfl⟩,trivial⟩,rfl⟩
     ·refine D0.be hC rfl (A0.rows_map [o3,x3.1]).symm (n' ?_)
      refine C0.step rfl (j0:=0) (js:=[]) (by kernel_rfl) ⟨⟨_,rfl,?_⟩,trivial⟩
      refine e' rfl ?_
      refine C0.step rfl (j0:=5) (js:=[]) (by kernel_rfl) ⟨⟨_,rfl,?_⟩,trivial⟩
      refine e' rfl ?_
      refine C0.step rfl (j0:=6) (js:=[]) (by kernel_rfl) ⟨⟨_,rfl,?_⟩,trivial⟩
      refine D0.s hC rfl (n' (C0.nil (by kernel_rfl) ?_))
      refine P0.wk ?_ (ih11 _ _ _ hh)
      exact ⟨⟨⟨.rfl,rfl⟩,⟨.rfl,rfl⟩,⟨.rfl,rfl⟩,⟨.rfl,rfl⟩,trivial⟩,⟨⟨rfl,.refl _,rfl⟩,⟨rfl,.refl _,rfl⟩,⟨rfl,.refl _,rfl⟩,⟨rfl,⟨.rfl,.rfl,.rfl,.full,trivial⟩,rfl⟩,trivial⟩,rfl⟩
   ·refine g' [0] ((ih12 _ _ hx3).ok) rfl rfl rfl rfl rfl rfl (n' ?_)
    refine C0.step rfl (j0:=0) (js:=[1]) (by kernel_rfl) ⟨⟨_,rfl,?_⟩,⟨_,rfl,?_⟩,trivial⟩
    ·refine e' rfl ?_
     refine C0.step rfl (j0:=1) (js:=[]) (by kernel_rfl) ⟨⟨_,rfl,?_⟩,trivial⟩
     refine e' rfl ?_
     refine C0.step rfl (j0:=4) (js:=[]) (by kernel_rfl) ⟨⟨_,rfl,?_⟩,trivial⟩
     refine D0.be hC rfl (A0.rows_map [o3,x3.1]).symm (n' ?_)
     refine C0.step rfl (j0:=5) (js:=[]) (by kernel_rfl) ⟨⟨_,rfl,?_⟩,trivial⟩
     refine e' rfl ?_
     refine C0.step rfl (j0:=6) (js:=[]) (by kernel_rfl) ⟨⟨_,rfl,?_⟩,trivial⟩
     refine D0.s hC rfl (n' (C0.nil (by kernel_rfl) ?_))
     refine P0.wk ?_ (ih11 _ _ _ hh)
     exact ⟨⟨⟨.rfl,rfl⟩,⟨.rfl,rfl⟩,⟨.rfl,rfl⟩,⟨.rfl,rfl⟩,trivial⟩,⟨⟨rfl,.refl _,rfl⟩,⟨rfl,.refl _,rfl⟩,⟨rfl,.refl _,rfl⟩,⟨rfl,⟨.rfl,.rfl,.rfl,.full,trivial⟩,rfl⟩,trivial⟩,rfl⟩
    ·refine e' rfl ?_
     refine C0.step rfl (j0:=0) (js:=[4]) (by kernel_rfl) ⟨⟨_,rfl,?_⟩,⟨_,rfl,?_⟩,trivial⟩
     ·refine e' rfl ?_
      refine C0.step rfl (j0:=4) (js:=[]) (by kernel_rfl) ⟨⟨_,rfl,?_⟩,trivial⟩
      refine D0.be hC rfl (A0.rows_map [o3,x3.1]).symm (n' ?_)
      refine C0.step rfl (j0:=5) (js:=[]) (by kernel_rfl) ⟨⟨_,rfl,?_⟩,trivial⟩
      refine e' rfl ?_
      refine C0.step rfl (j0:=6) (js:=[]) (by kernel_rfl) ⟨⟨_,rfl,?_⟩,trivial⟩
      refine D0.s hC rfl (n' (C0.nil (by kernel_rfl) ?_))
      refine P0.wk ?_ (ih11 _ _ _ hh)
      exact ⟨⟨⟨.rfl,rfl⟩,⟨.rfl,rfl⟩,⟨.rfl,rfl⟩,⟨.rfl,rfl⟩,trivial⟩,⟨⟨rfl,.refl _,rfl⟩,⟨rfl,.refl _,rfl⟩,⟨rfl,.refl _,rfl⟩,⟨rfl,⟨.rfl,.rfl,.rfl,.full,trivial⟩,rfl⟩,trivial⟩,rfl⟩
     ·refine D0.be hC rfl (A0.rows_map [o3,x3.1]).symm (n' ?_)
      refine C0.step rfl (j0:=0) (js:=[]) (by kernel_rfl) ⟨⟨_,rfl,?_⟩,trivial⟩
      refine e' rfl ?_
      refine C0.step rfl (j0:=5) (js:=[]) (by kernel_rfl) ⟨⟨_,rfl,?_⟩,trivial⟩
      refine e' rfl ?_
      refine C0.step rfl (j0:=6) (js:=[]) (by kernel_rfl) ⟨⟨_,rfl,?_⟩,trivial⟩
      refine D0.s hC rfl (n' (C0.nil (by kernel_rfl) ?_))
      refine P0.wk ?_ (ih11 _ _ _ hh)
      exact ⟨⟨⟨.rfl,rfl⟩,⟨.rfl,rfl⟩,⟨.rfl,rfl⟩,⟨.rfl,rfl⟩,trivial⟩,⟨⟨rfl,.refl _,rfl⟩,⟨rfl,.refl _,rfl⟩,⟨rfl,.refl _,rfl⟩,⟨rfl,⟨.rfl,.rfl,.rfl,.full,trivial⟩,rfl⟩,trivial⟩,rfl⟩
 ·intro g13 ih13 parserParser res hh
  refine I2.intro hC Tryz.func203 rfl rfl rfl (s' rfl rfl (D0.n hC rfl (D0.nf hC rfl (n' (p' 4 rfl ?_)))))
  rcases bp' hh with ⟨nn,hx1,⟨⟩⟩ | ⟨x1,hx1,hh⟩
  ·exact gn' [0,1] (ih13 _ _ hx1) rfl rfl rfl rfl rfl (fun hi=>peW ⟨trivial,trivial⟩ rfl hi)
  cases hh
  exact g' [0,1] ((ih13 _ _ hx1).ok) rfl rfl rfl rfl rfl rfl (D0.s hC rfl (n' (re' (rt' rfl rfl rfl))))
 ·intro g14 g15 ih14 ih15 parserParser res hh
  refine I2.intro hC Tryz.func110 rfl rfl rfl (s' rfl rfl (D0.nf hC rfl (n' (p' 1 rfl ?_))))
  rcases bp' hh with ⟨nn,hx1,⟨⟩⟩ | ⟨x1,hx1,hh⟩
  ·exact gn' [0] (ih15 _ _ hx1) rfl rfl rfl rfl rfl (fun hi=>peW ⟨trivial,⟨rfl,.refl _,rfl⟩,trivial⟩ rfl hi)
  exact g' [0] ((ih15 _ _ hx1).ok) rfl rfl rfl rfl rfl rfl (D0.nf hC rfl (D0.s hC rfl (n' (bk' (fw' (ih14 _ _ _ hh) rfl rfl rfl)))))
 ·intro g14 g15 ih14 ih15 o0 o3 res hh
  obtain ⟨x2,hx2,hh⟩:=bs' hh
  refine P0.unroll (bk' (p' 1 rfl (g' [1,0] (Di hx2) rfl rfl rfl rfl rfl rfl (e' rfl (S' (t' rfl (ci' rfl hh (fun hh=>?_) (fun hh=>?_))))))))
  ·cases hh
   exact p' 1 rfl (D0.s hC rfl (n' (re' (rt' rfl rfl rfl))))
  refine sk' ?_
  rcases bp' hh with ⟨nn,hx3,⟨⟩⟩ | ⟨x3,hx3,hh⟩
  ·refine AEx.drawE hC ?_
   refine C0.step rfl (j0:=0) (js:=[1,2]) (by kernel_rfl) ⟨⟨_,rfl,?_⟩,⟨_,rfl,?_⟩,⟨_,rfl,?_⟩,trivial⟩
   ·refine e' rfl ?_
    refine C0.step rfl (j0:=1) (js:=[2]) (by kernel_rfl) ⟨⟨_,rfl,?_⟩,⟨_,rfl,?_⟩,trivial⟩
    ·refine e' rfl ?_
     refine C0.step rfl (j0:=2) (js:=[]) (by kernel_rfl) ⟨⟨_,rfl,?_⟩,trivial⟩
     refine e' rfl ?_
     refine C0.step rfl (j0:=3) (js:=[]) (by kernel_rfl) ⟨⟨_,rfl,?_⟩,trivial⟩
     exact gn' [0] (ih15 _ _ hx3) rfl rfl rfl rfl rfl (fun hi=>peW ⟨trivial,⟨rfl,.refl _,rfl⟩,trivial⟩ rfl hi)
    ·refine e' rfl ?_
     refine C0.step rfl (j0:=1) (js:=[3]) (by kernel_rfl) ⟨⟨_,rfl,?_⟩,⟨_,rfl,?_⟩,trivial⟩
     ·refine e' rfl ?_
      refine C0.step rfl (j0:=3) (js:=[]) (by kernel_rfl) ⟨⟨_,rfl,?_⟩,trivial⟩
      exact gn' [0] (ih15 _ _ hx3) rfl rfl rfl rfl rfl (fun hi=>peW ⟨trivial,⟨rfl,.refl _,rfl⟩,trivial⟩ rfl hi)
     ·exact gn' [0] (ih15 _ _ hx3) rfl rfl rfl rfl rfl (fun hi=>peW ⟨trivial,⟨rfl,.refl _,rfl⟩,trivial⟩ rfl hi)
   ·refine e' rfl ?_
    refine C0.step rfl (j0:=0) (js:=[2]) (by kernel_rfl) ⟨⟨_,rfl,?_⟩,⟨_,rfl,?_⟩,trivial⟩
    ·refine e' rfl ?_
     refine C0.step rfl (j0:=2) (js:=[]) (by kernel_rfl) ⟨⟨_,rfl,?_⟩,trivial⟩
     refine e' rfl ?_
     refine C0.step rfl (j0:=3) (js:=[]) (by kernel_rfl) ⟨⟨_,rfl,?_⟩,trivial⟩
     exact gn' [0] (ih15 _ _ hx3) rfl rfl rfl rfl rfl (fun hi=>peW ⟨trivial,⟨rfl,.refl _,rfl⟩,trivial⟩ rfl hi)
    ·refine e' rfl ?_
     refine C0.step rfl (j0:=0) (js:=[3]) (by kernel_rfl) ⟨⟨_,rfl,?_⟩,⟨_,rfl,?_⟩,trivial⟩
     ·refine e' rfl ?_
      refine C0.step rfl (j0:=3) (js:=[]) (by kernel_rfl) ⟨⟨_,rfl,?_⟩,trivial⟩
      exact gn' [0] (ih15 _ _ hx3) rfl rfl rfl rfl rfl (fun hi=>peW ⟨trivial,⟨rfl,.refl _,rfl⟩,trivial⟩ rfl hi)
     ·exact gn' [0] (ih15 _ _ hx3) rfl rfl rfl rfl rfl (fun hi=>peW ⟨trivial,⟨rfl,.refl _,rfl⟩,trivial⟩ rfl hi)
   ·refine e' rfl ?_
    refine C0.step rfl (j0:=0) (js:=[1,3]) (by kernel_rfl) ⟨⟨_,rfl,?_⟩,⟨_,rfl,?_⟩,⟨_,rfl,?_⟩,trivial⟩
    ·refine e' rfl ?_
     refine C0.step rfl (j0:=1) (js:=[3]) (by kernel_rfl) ⟨⟨_,rfl,?_⟩,⟨_,rfl,?_⟩,trivial⟩
     ·refine e' rfl ?_
      refine C0.step rfl (j0:=3) (js:=[]) (by kernel_rfl) ⟨⟨_,rfl,?_⟩,trivial⟩
      exact gn' [0] (ih15 _ _ hx3) rfl rfl rfl rfl rfl (fun hi=>peW ⟨trivial,⟨rfl,.refl _,rfl⟩,trivial⟩ rfl hi)
     ·exact gn' [0] (ih15 _ _ hx3) rfl rfl rfl rfl rfl (fun hi=>peW ⟨trivial,⟨rfl,.refl _,rfl⟩,trivial⟩ rfl hi)
    ·refine e' rfl ?_
     refine C0.step rfl (j0:=0) (js:=[3]) (by kernel_rfl) ⟨⟨_,rfl,?_⟩,⟨_,rfl,?_⟩,trivial⟩
     ·refine e' rfl ?_
      refine C0.step rfl (j0:=3) (js:=[]) (by kernel_rfl) ⟨⟨_,rfl,?_⟩,trivial⟩
      exact gn' [0] (ih15 _ _ hx3) rfl rfl rfl rfl rfl (fun hi=>peW ⟨trivial,⟨rfl,.refl _,rfl⟩,trivial⟩ rfl hi)
     ·exact gn' [0] (ih15 _ _ hx3) rfl rfl rfl rfl rfl (fun hi=>peW ⟨trivial,⟨rfl,.refl _,rfl⟩,trivial⟩ rfl hi)
    ·exact gn' [0] (ih15 _ _ hx3) rfl rfl rfl rfl rfl (fun hi=>peW ⟨trivial,⟨rfl,.refl _,rfl⟩,trivial⟩ rfl hi)
  refine AEx.drawE hC ?_
  refine C0.step rfl (j0:=0) (js:=[1,2]) (by kernel_rfl) ⟨⟨_,rfl,?_⟩,⟨_,rfl,?_⟩,⟨_,rfl,?_⟩,trivial⟩
  ·refine e' rfl ?_
   refine C0.step rfl (j0:=1) (js:=[2]) (by kernel_rfl) ⟨⟨_,rfl,?_⟩,⟨_,rfl,?_⟩,trivial⟩
   ·refine e' rfl ?_
    refine C0.step rfl (j0:=2) (js:=[]) (by kernel_rfl) ⟨⟨_,rfl,?_⟩,trivial⟩
    refine e' rfl ?_
    refine C0.step rfl (j0:=3) (js:=[]) (by kernel_rfl) ⟨⟨_,rfl,?_⟩,trivial⟩
    refine g' [0] ((ih15 _ _ hx3).ok) rfl rfl rfl rfl rfl rfl (n' ?_)
    refine C0.step rfl (j0:=4) (js:=[]) (by kernel_rfl) ⟨⟨_,rfl,?_⟩,trivial⟩
    refine D0.be hC rfl (A0.rows_map [o3,x3.1]).symm (n' ?_)
    refine C0.step rfl (j0:=5) (js:=[]) (by kernel_rfl) ⟨⟨_,rfl,?_⟩,trivial⟩
    refine e' rfl ?_
    refine C0.step rfl (j0:=6) (js:=[]) (by kernel_rfl) ⟨⟨_,rfl,?_⟩,trivial⟩
    refine D0.s hC rfl (n' (C0.nil (by kernel_rfl) ?_))
    refine P0.wk ?_ (ih14 _ _ _ hh)
    exact ⟨⟨⟨.rfl,rfl⟩,⟨.rfl,rfl⟩,⟨.rfl,rfl⟩,⟨.rfl,rfl⟩,trivial⟩,⟨⟨rfl,.refl _,rfl⟩,⟨rfl,.refl _,rfl⟩,⟨rfl,.refl _,rfl⟩,⟨rfl,⟨.rfl,.rfl,.rfl,.full,trivial⟩,rfl⟩,trivial⟩,rfl⟩
   ·refine e' rfl ?_
    refine C0.step rfl (j0:=1) (js:=[3]) (by kernel_rfl) ⟨⟨_,rfl,?_⟩,⟨_,rfl,?_⟩,trivial⟩
    ·refine e' rfl ?_
     refine C0.step rfl (j0:=3) (js:=[]) (by kernel_rfl) ⟨⟨_,rfl,?_⟩,trivial⟩
     refine g' [0] ((ih15 _ _ hx3).ok) rfl rfl rfl rfl rfl rfl (n' ?_)
     refine C0.step rfl (j0:=4) (js:=[]) (by kernel_rfl) ⟨⟨_,rfl,?_⟩,trivial⟩
     refine D0.be hC rfl (A0.rows_map [o3,x3.1]).symm (n' ?_)
     refine C0.step rfl (j0:=5) (js:=[]) (by kernel_rfl) ⟨⟨_,rfl,?_⟩,trivial⟩
     refine e' rfl ?_
     refine C0.step rfl (j0:=6) (js:=[]) (by kernel_rfl) ⟨⟨_,rfl,?_⟩,trivial⟩
     refine D0.s hC rfl (n' (C0.nil (by kernel_rfl) ?_))
     refine P0.wk ?_ (ih14 _ _ _ hh)
     exact ⟨⟨⟨.rfl,rfl⟩,⟨.rfl,rfl⟩,⟨.rfl,rfl⟩,⟨.rfl,rfl⟩,trivial⟩,⟨⟨rfl,.refl _,rfl⟩,⟨rfl,.refl _,rfl⟩,⟨rfl,.refl _,rfl⟩,⟨rfl,⟨.rfl,.rfl,.rfl,.full,trivial⟩,rfl⟩,trivial⟩,rfl⟩
    ·refine g' [0] ((ih15 _ _ hx3).ok) rfl rfl rfl rfl rfl rfl (n' ?_)
     refine C0.step rfl (j0:=1) (js:=[]) (by kernel_rfl) ⟨⟨_,rfl,?_⟩,trivial⟩
     refine e' rfl ?_
     refine C0.step rfl (j0:=4) (js:=[]) (by kernel_rfl) ⟨⟨_,rfl,?_⟩,trivial⟩
     refine D0.be hC rfl (A0.rows_map [o3,x3.1]).symm (n' ?_)
     refine C0.step rfl (j0:=5) (js:=[]) (by kernel_rfl) ⟨⟨_,rfl,?_⟩,trivial⟩
     refine e' rfl ?_
     refine C0.step rfl (j0:=6) (js:=[]) (by kernel_rfl) ⟨⟨_,rfl,?_⟩,trivial⟩
     refine D0.s hC rfl (n' (C0.nil (by kernel_rfl) ?_))
     refine P0.wk ?_ (ih14 _ _ _ hh)
     exact ⟨⟨⟨.rfl,rfl⟩,⟨.rfl,rfl⟩,⟨.rfl,rfl⟩,⟨.rfl,rfl⟩,trivial⟩,⟨⟨rfl,.refl _,rfl⟩,⟨rfl,.refl _,rfl⟩,⟨rfl,.refl _,rfl⟩,⟨rfl,⟨.rfl,.rfl,.rfl,.full,trivial⟩,rfl⟩,trivial⟩,rfl⟩
  ·refine e' rfl ?_
   refine C0.step rfl (j0:=0) (js:=[2]) (by kernel_rfl) ⟨⟨_,rfl,?_⟩,⟨_,rfl,?_⟩,trivial⟩
   ·refine e' rfl ?_
    refine C0.step rfl (j0:=2) (js:=[]) (by kernel_rfl) ⟨⟨_,rfl,?_⟩,trivial⟩
    refine e' rfl ?_
    refine C0.step rfl (j0:=3) (js:=[]) (by kernel_rfl) ⟨⟨_,rfl,?_⟩,trivial⟩
    refine g' [0] ((ih15 _ _ hx3).ok) rfl rfl rfl rfl rfl rfl (n' ?_)
    refine C0.step rfl (j0:=4) (js:=[]) (by kernel_rfl) ⟨⟨_,rfl,?_⟩,trivial⟩
    refine D0.be hC rfl (A0.rows_map [o3,x3.1]).symm (n' ?_)
    refine C0.step rfl (j0:=5) (js:=[]) (by kernel_rfl) ⟨⟨_,rfl,?_⟩,trivial⟩
    refine e' rfl ?_
    refine C0.step rfl (j0:=6) (js:=[]) (by kernel_rfl) ⟨⟨_,rfl,?_⟩,trivial⟩
    refine D0.s hC rfl (n' (C0.nil (by kernel_rfl) ?_))
    refine P0.wk ?_ (ih14 _ _ _ hh)
    exact ⟨⟨⟨.rfl,rfl⟩,⟨.rfl,rfl⟩,⟨.rfl,rfl⟩,⟨.rfl,rfl⟩,trivial⟩,⟨⟨rfl,.refl _,rfl⟩,⟨rfl,.refl _,rfl⟩,⟨rfl,.refl _,rfl⟩,⟨rfl,⟨.rfl,.rfl,.rfl,.full,trivial⟩,rfl⟩,trivial⟩,rfl⟩
   ·refine e' rfl ?_
    refine C0.step rfl (j0:=0) (js:=[3]) (by kernel_rfl) ⟨⟨_,rfl,?_⟩,⟨_,rfl,?_⟩,trivial⟩
    ·refine e' rfl ?_
     refine C0.step rfl (j0:=3) (js:=[]) (by kernel_rfl) ⟨⟨_,rfl,?_⟩,trivial⟩
     refine g' [0] ((ih15 _ _ hx3).ok) rfl rfl rfl rfl rfl rfl (n' ?_)
     refine C0.step rfl (j0:=4) (js:=[]) (by kernel_rfl) ⟨⟨_,rfl,?_⟩,trivial⟩
     refine D0.be hC rfl (A0.rows_map [o3,x3.1]).symm (n' ?_)
     refine C0.step rfl (j0:=5) (js:=[]) (by kernel_rfl) ⟨⟨_,rfl,?_⟩,trivial⟩
     refine e' rfl ?_
     refine C0.step rfl (j0:=6) (js:=[]) (by kernel_rfl) ⟨⟨_,rfl,?_⟩,trivial⟩
     refine D0.s hC rfl (n' (C0.nil (by kernel_rfl) ?_))
     refine P0.wk ?_ (ih14 _ _ _ hh)
     exact ⟨⟨⟨.rfl,rfl⟩,⟨.rfl,rfl⟩,⟨.rfl,rfl⟩,⟨.rfl,rfl⟩,trivial⟩,⟨⟨rfl,.refl _,rfl⟩,⟨rfl,.refl _,rfl⟩,⟨rfl,.refl _,rfl⟩,⟨rfl,⟨.rfl,.rfl,.rfl,.full,trivial⟩,rfl⟩,trivial⟩,rfl⟩
    ·refine g' [0] ((ih15 _ _ hx3).ok) rfl rfl rfl rfl rfl rfl (n' ?_)
     refine C0.step rfl (j0:=0) (js:=[4]) (by kernel_rfl) ⟨⟨_,rfl,?_⟩,⟨_,rfl,?_⟩,trivial⟩
     ·refine e' rfl ?_
      refine C0.step rfl (j0:=4) (js:=[]) (by kernel_rfl) ⟨⟨_,rfl,?_⟩,trivial⟩
      refine D0.be hC rfl (A0.rows_map [o3,x3.1]).symm (n' ?_)
      refine C0.step rfl (j0:=5) (js:=[]) (by kernel_rfl) ⟨⟨_,rfl,?_⟩,trivial⟩
      refine e' rfl ?_
      refine C0.step rfl (j0:=6) (js:=[]) (by kernel_rfl) ⟨⟨_,rfl,?_⟩,trivial⟩
      refine D0.s hC rfl (n' (C0.nil (by kernel_rfl) ?_))
      refine P0.wk ?_ (ih14 _ _ _ hh)
      exact ⟨⟨⟨.rfl,rfl⟩,⟨.rfl,rfl⟩,⟨.rfl,rfl⟩,⟨.rfl,rfl⟩,trivial⟩,⟨⟨rfl,.refl _,rfl⟩,⟨rfl,.refl _,rfl⟩,⟨rfl,.refl _,rfl⟩,⟨rfl,⟨.rfl,.rfl,.rfl,.full,trivial⟩,rfl⟩,trivial⟩,rfl⟩
     ·refine D0.be hC rfl (A0.rows_map [o3,x3.1]).symm (n' ?_)
      refine C0.step rfl (j0:=0) (js:=[]) (by kernel_rfl) ⟨⟨_,rfl,?_⟩,trivial⟩
      refine e' rfl ?_
      refine C0.step rfl (j0:=5) (js:=[]) (by kernel_rfl) ⟨⟨_,rfl,?_⟩,trivial⟩
      refine e' rfl ?_
      refine C0.step rfl (j0:=6) (js:=[]) (by kernel_rfl) ⟨⟨_,rfl,?_⟩,trivial⟩
      refine D0.s hC rfl (n' (C0.nil (by kernel_rfl) ?_))
      refine P0.wk ?_ (ih14 _ _ _ hh)
      exact ⟨⟨⟨.rfl,rfl⟩,⟨.rfl,rfl⟩,⟨.rfl,rfl⟩,⟨.rfl,rfl⟩,trivial⟩,⟨⟨rfl,.refl _,rfl⟩,⟨rfl,.refl _,rfl⟩,⟨rfl,.refl _,rfl⟩,⟨rfl,⟨.rfl,.rfl,.rfl,.full,trivial⟩,rfl⟩,trivial⟩,rfl⟩
  ·refine e' rfl ?_
   refine C0.step rfl (j0:=0) (js:=[1,3]) (by kernel_rfl) ⟨⟨_,rfl,?_⟩,⟨_,rfl,?_⟩,⟨_,rfl,?_⟩,trivial⟩
   ·refine e' rfl ?_
    refine C0.step rfl (j0:=1) (js:=[3]) (by kernel_rfl) ⟨⟨_,rfl,?_⟩,⟨_,rfl,?_⟩,trivial⟩
    ·refine e' rfl ?_
     refine C0.step rfl (j0:=3) (js:=[]) (by kernel_rfl) ⟨⟨_,rfl,?_⟩,trivial⟩
     refine g' [0] ((ih15 _ _ hx3).ok) rfl rfl rfl rfl rfl rfl (n' ?_)
     refine C0.step rfl (j0:=4) (js:=[]) (by kernel_rfl) ⟨⟨_,rfl,?_⟩,trivial⟩
     refine D0.be hC rfl (A0.rows_map [o3,x3.1]).symm (n' ?_)
     refine C0.step rfl (j0:=5) (js:=[]) (by kernel_rfl) ⟨⟨_,rfl,?_⟩,trivial⟩
     refine e' rfl ?_
     refine C0.step rfl (j0:=6) (js:=[]) (by kernel_rfl) ⟨⟨_,rfl,?_⟩,trivial⟩
     refine D0.s hC rfl (n' (C0.nil (by kernel_rfl) ?_))
     refine P0.wk ?_ (ih14 _ _ _ hh)
     exact ⟨⟨⟨.rfl,rfl⟩,⟨.rfl,rfl⟩,⟨.rfl,rfl⟩,⟨.rfl,rfl⟩,trivial⟩,⟨⟨rfl,.refl _,rfl⟩,⟨rfl,.refl _,rfl⟩,⟨rfl,.refl _,rfl⟩,⟨rfl,⟨.rfl,.rfl,.rfl,.full,trivial⟩,rfl⟩,trivial⟩,rfl⟩
    ·refine g' [0] ((ih15 _ _ hx3).ok) rfl rfl rfl rfl rfl rfl (n' ?_)
     refine C0.step rfl (j0:=1) (js:=[]) (by kernel_rfl) ⟨⟨_,rfl,?_⟩,trivial⟩
     refine e' rfl ?_
     refine C0.step rfl (j0:=4) (js:=[]) (by kernel_rfl) ⟨⟨_,rfl,?_⟩,trivial⟩
     refine D0.be hC rfl (A0.rows_map [o3,x3.1]).symm (n' ?_)
     refine C0.step rfl (j0:=5) (js:=[]) (by kernel_rfl) ⟨⟨_,rfl,?_⟩,trivial⟩
     refine e' rfl ?_
     refine C0.step rfl (j0:=6) (js:=[]) (by kernel_rfl) ⟨⟨_,rfl,?_⟩,trivial⟩
     refine D0.s hC rfl (n' (C0.nil (by kernel_rfl) ?_))
     refine P0.wk ?_ (ih14 _ _ _ hh)
     exact ⟨⟨⟨.rfl,rfl⟩,⟨.rfl,rfl⟩,⟨.rfl,rfl⟩,⟨.rfl,rfl⟩,trivial⟩,⟨⟨rfl,.refl _,rfl⟩,⟨rfl,.refl _,rfl⟩,⟨rfl,.refl _,rfl⟩,⟨rfl,⟨.rfl,.rfl,.rfl,.full,trivial⟩,rfl⟩,trivial⟩,rfl⟩
   ·refine e' rfl ?_
    refine C0.step rfl (j0:=0) (js:=[3]) (by kernel_rfl) ⟨⟨_,rfl,?_⟩,⟨_,rfl,?_⟩,trivial⟩
    ·refine e' rfl ?_
     refine C0.step rfl (j0:=3) (js:=[]) (by kernel_rfl) ⟨⟨_,rfl,?_⟩,trivial⟩
     refine g' [0] ((ih15 _ _ hx3).ok) rfl rfl rfl rfl rfl rfl (n' ?_)
     refine C0.step rfl (j0:=4) (js:=[]) (by kernel_rfl) ⟨⟨_,rfl,?_⟩,trivial⟩
     refine D0.be hC rfl (A0.rows_map [o3,x3.1]).symm (n' ?_)
     refine C0.step rfl (j0:=5) (js:=[]) (by kernel_rfl) ⟨⟨_,rfl,?_⟩,trivial⟩
     refine e' rfl ?_
     refine C0.step rfl (j0:=6) (js:=[]) (by kernel_rfl) ⟨⟨_,rfl,?_⟩,trivial⟩
     refine D0.s hC rfl (n' (C0.nil (by kernel_rfl) ?_))
     refine P0.wk ?_ (ih14 _ _ _ hh)
     exact ⟨⟨⟨.rfl,rfl⟩,⟨.rfl,rfl⟩,⟨.rfl,rfl⟩,⟨.rfl,rfl⟩,trivial⟩,⟨⟨rfl,.refl _,rfl⟩,⟨rfl,.refl _,rfl⟩,⟨rfl,.refl _,rfl⟩,⟨rfl,⟨.rfl,.rfl,.rfl,.full,trivial⟩,rfl⟩,trivial⟩,rfl⟩
    ·refine g' [0] ((ih15 _ _ hx3).ok) rfl rfl rfl rfl rfl rfl (n' ?_)
     refine C0.step rfl (j0:=0) (js:=[4]) (by kernel_rfl) ⟨⟨_,rfl,?_⟩,⟨_,rfl,?_⟩,trivial⟩
     ·refine e' rfl ?_
      refine C0.step rfl (j0:=4) (js:=[]) (by kernel_rfl) ⟨⟨_,rfl,?_⟩,trivial⟩
      refine D0.be hC rfl (A0.rows_map [o3,x3.1]).symm (n' ?_)
      refine C0.step rfl (j0:=5) (js:=[]) (by kernel_rfl) ⟨⟨_,rfl,?_⟩,trivial⟩
      refine e' rfl ?_
      refine C0.step rfl (j0:=6) (js:=[]) (by kernel_rfl) ⟨⟨_,rfl,?_⟩,trivial⟩
      refine D0.s hC rfl (n' (C0.nil (by kernel_rfl) ?_))
      refine P0.wk ?_ (ih14 _ _ _ hh)
      exact ⟨⟨⟨.rfl,rfl⟩,⟨.rfl,rfl⟩,⟨.rfl,rfl⟩,⟨.rfl,rfl⟩,trivial⟩,⟨⟨rfl,.refl _,rfl⟩,⟨rfl,.refl _,rfl⟩,⟨rfl,.refl _,rfl⟩,⟨rfl,⟨.rfl,.rfl,.rfl,.full,trivial⟩,rfl⟩,trivial⟩,rfl⟩
     ·refine D0.be hC rfl (A0.rows_map [o3,x3.1]).symm (n' ?_)
      refine C0.step rfl (j0:=0) (js:=[]) (by kernel_rfl) ⟨⟨_,rfl,?_⟩,trivial⟩
      refine e' rfl ?_
      refine C0.step rfl (j0:=5) (js:=[]) (by kernel_rfl) ⟨⟨_,rfl,?_⟩,trivial⟩
      refine e' rfl ?_
      refine C0.step rfl (j0:=6) (js:=[]) (by kernel_rfl) ⟨⟨_,rfl,?_⟩,trivial⟩
      refine D0.s hC rfl (n' (C0.nil (by kernel_rfl) ?_))
      refine P0.wk ?_ (ih14 _ _ _ hh)
      exact ⟨⟨⟨.rfl,rfl⟩,⟨.rfl,rfl⟩,⟨.rfl,rfl⟩,⟨.rfl,rfl⟩,trivial⟩,⟨⟨rfl,.refl _,rfl⟩,⟨rfl,.refl _,rfl⟩,⟨rfl,.refl _,rfl⟩,⟨rfl,⟨.rfl,.rfl,.rfl,.full,trivial⟩,rfl⟩,trivial⟩,rfl⟩
   ·refine g' [0] ((ih15 _ _ hx3).ok) rfl rfl rfl rfl rfl rfl (n' ?_)
    refine C0.step rfl (j0:=0) (js:=[1]) (by kernel_rfl) ⟨⟨_,rfl,?_⟩,⟨_,rfl,?_⟩,trivial⟩
    ·refine e' rfl ?_
     refine C0.step rfl (j0:=1) (js:=[]) (by kernel_rfl) ⟨⟨_,rfl,?_⟩,trivial⟩
     refine e' rfl ?_
     refine C0.step rfl (j0:=4) (js:=[]) (by kernel_rfl) ⟨⟨_,rfl,?_⟩,trivial⟩
     refine D0.be hC rfl (A0.rows_map [o3,x3.1]).symm (n' ?_)
     refine C0.step rfl (j0:=5) (js:=[]) (by kernel_rfl) ⟨⟨_,rfl,?_⟩,trivial⟩
     refine e' rfl ?_
     refine C0.step rfl (j0:=6) (js:=[]) (by kernel_rfl) ⟨⟨_,rfl,?_⟩,trivial⟩
     refine D0.s hC rfl (n' (C0.nil (by kernel_rfl) ?_))
     refine P0.wk ?_ (ih14 _ _ _ hh)
     exact ⟨⟨⟨.rfl,rfl⟩,⟨.rfl,rfl⟩,⟨.rfl,rfl⟩,⟨.rfl,rfl⟩,trivial⟩,⟨⟨rfl,.refl _,rfl⟩,⟨rfl,.refl _,rfl⟩,⟨rfl,.refl _,rfl⟩,⟨rfl,⟨.rfl,.rfl,.rfl,.full,trivial⟩,rfl⟩,trivial⟩,rfl⟩
    ·refine e' rfl ?_
     refine C0.step rfl (j0:=0) (js:=[4]) (by kernel_rfl) ⟨⟨_,rfl,?_⟩,⟨_,rfl,?_⟩,trivial⟩
     ·refine e' rfl ?_
      refine C0.step rfl (j0:=4) (js:=[]) (by kernel_rfl) ⟨⟨_,rfl,?_⟩,trivial⟩
      refine D0.be hC rfl (A0.rows_map [o3,x3.1]).symm (n' ?_)
      refine C0.step rfl (j0:=5) (js:=[]) (by kernel_rfl) ⟨⟨_,rfl,?_⟩,trivial⟩
      refine e' rfl ?_
      refine C0.step rfl (j0:=6) (js:=[]) (by kernel_rfl) ⟨⟨_,rfl,?_⟩,trivial⟩
      refine D0.s hC rfl (n' (C0.nil (by kernel_rfl) ?_))
      refine P0.wk ?_ (ih14 _ _ _ hh)
      exact ⟨⟨⟨.rfl,rfl⟩,⟨.rfl,rfl⟩,⟨.rfl,rfl⟩,⟨.rfl,rfl⟩,trivial⟩,⟨⟨rfl,.refl _,rfl⟩,⟨rfl,.refl _,rfl⟩,⟨rfl,.refl _,rfl⟩,⟨rfl,⟨.rfl,.rfl,.rfl,.full,trivial⟩,rfl⟩,trivial⟩,rfl⟩
     ·refine D0.be hC rfl (A0.rows_map [o3,x3.1]).symm (n' ?_)
      refine C0.step rfl (j0:=0) (js:=[]) (by kernel_rfl) ⟨⟨_,rfl,?_⟩,trivial⟩
      refine e' rfl ?_
      refine C0.step rfl (j0:=5) (js:=[]) (by kernel_rfl) ⟨⟨_,rfl,?_⟩,trivial⟩
      refine e' rfl ?_
      refine C0.step rfl (j0:=6) (js:=[]) (by kernel_rfl) ⟨⟨_,rfl,?_⟩,trivial⟩
      refine D0.s hC rfl (n' (C0.nil (by kernel_rfl) ?_))
      refine P0.wk ?_ (ih14 _ _ _ hh)
      exact ⟨⟨⟨.rfl,rfl⟩,⟨.rfl,rfl⟩,⟨.rfl,rfl⟩,⟨.rfl,rfl⟩,trivial⟩,⟨⟨rfl,.refl _,rfl⟩,⟨rfl,.refl _,rfl⟩,⟨rfl,.refl _,rfl⟩,⟨rfl,⟨.rfl,.rfl,.rfl,.full,trivial⟩,rfl⟩,trivial⟩,rfl⟩
 ·intro g15 g16 ih15 ih16 parserParser res hh
  obtain ⟨x1,hx1,hh⟩:=bs' hh
  refine I2.intro hC Tryz.func214 rfl rfl rfl (s' rfl rfl (D0.nf hC rfl (n' (S' (bk' (p' 1 rfl (g' [0] (V0 hx1) rfl rfl rfl rfl rfl rfl (e' rfl (ci' rfl hh (fun hh=>?_) (fun hh=>?_))))))))))
  ·refine p' 1 rfl ?_
   rcases bp' hh with ⟨nn,hx4,⟨⟩⟩ | ⟨x4,hx4,hh⟩
   ·exact gn' [0] (ih15 _ _ hx4) rfl rfl rfl rfl rfl (fun hi=>peW ⟨trivial,trivial⟩ rfl hi)
   refine g' [0] ((ih15 _ _ hx4).ok) rfl rfl rfl rfl rfl rfl (D0.be hC rfl (A0.rows_map [x4.1]).symm (q' rfl (D0.s hC rfl (n' (re' ?_)))))
   obtain rfl:=oi' hh
   exact ⟨_,.agg [.d (.int .i64 6),.d (.int .i64 0),.d (.str []),.d (.sl (A0.rows [x4.1]))],[.row (B0.cells x4.2) 99],rfl,(.aggL ⟨.rfl,.rfl,.rfl,.full,trivial⟩),⟨⟨rfl,.refl _,rfl⟩,trivial⟩,rfl,rfl,rpq rfl rfl⟩
  obtain ⟨x2,hx2,hh⟩:=bs' hh
  refine p' 1 rfl (g' [0] (V0 hx2) rfl rfl rfl rfl rfl rfl (e' rfl (ci' rfl hh (fun hh=>?_) (fun hh=>?_))))
  ·refine p' 1 rfl ?_
   rcases bp' hh with ⟨nn,hx5,⟨⟩⟩ | ⟨x5,hx5,hh⟩
   ·exact gn' [0] (ih15 _ _ hx5) rfl rfl rfl rfl rfl (fun hi=>peW ⟨trivial,trivial⟩ rfl hi)
   refine g' [0] ((ih15 _ _ hx5).ok) rfl rfl rfl rfl rfl rfl (D0.be hC rfl (A0.rows_map [x5.1]).symm (q' rfl (D0.s hC rfl (n' (re' ?_)))))
   obtain rfl:=oi' hh
   exact ⟨_,.agg [.d (.int .i64 7),.d (.int .i64 0),.d (.str []),.d (.sl (A0.rows [x5.1]))],[.row (B0.cells x5.2) 99],rfl,(.aggL ⟨.rfl,.rfl,.rfl,.full,trivial⟩),⟨⟨rfl,.refl _,rfl⟩,trivial⟩,rfl,rfl,rpq rfl rfl⟩
  refine sk' (p' 1 rfl ?_)
  rcases bp' hh with ⟨nn,hx3,⟨⟩⟩ | ⟨x3,hx3,hh⟩
  ·exact gn' [0] (ih16 _ _ hx3) rfl rfl rfl rfl rfl (fun hi=>peW ⟨trivial,trivial⟩ rfl hi)
  cases hh
  exact g' [0] ((ih16 _ _ hx3).ok) rfl rfl rfl rfl rfl rfl (D0.s hC rfl (n' (re' (rt' rfl rfl rfl))))
 ·intro g0 g17 g18 ih0 ih17 ih18 parserParser res hh
  obtain ⟨x1,hx1,hh⟩:=bs' hh
  refine I2.intro hC Tryz.func223 rfl rfl rfl (s' rfl rfl (D0.nf hC rfl (n' (S' (bk' (p' 1 rfl (g' [0] (Mk hx1) rfl rfl rfl rfl rfl rfl (e' rfl (ci' rfl hh (fun hh=>?_) (fun hh=>?_))))))))))
  ·refine p' 1 rfl ?_
   rcases bp' hh with ⟨nn,hx2,⟨⟩⟩ | ⟨x2,hx2,hh⟩
   ·exact gn' [0] (ih18 _ _ hx2) rfl rfl rfl rfl rfl (fun hi=>peW ⟨trivial,trivial⟩ rfl hi)
   cases hh
   exact g' [0] ((ih18 _ _ hx2).ok) rfl rfl rfl rfl rfl rfl (D0.s hC rfl (n' (re' (rt' rfl rfl rfl))))
  obtain ⟨x3,hx3,hh⟩:=bs' hh
  refine p' 1 rfl (g' [0] (V0 hx3) rfl rfl rfl rfl rfl rfl (e' rfl (ci' rfl hh (fun hh=>?_) (fun hh=>?_))))
  ·cases hh
   exact p' 1 rfl (D0.s hC rfl (n' (re' (rt' rfl rfl rfl))))
  obtain ⟨x4,hx4,hh⟩:=bs' hh
  refine p' 1 rfl (g' [0] (V0 hx4) rfl rfl rfl rfl rfl rfl (e' rfl (ci' rfl hh (fun hh=>?_) (fun hh=>?_))))
  ·cases hh
   exact p' 1 rfl (D0.s hC rfl (n' (re' (rt' rfl rfl rfl))))
  obtain ⟨x5,hx5,hh⟩:=bs' hh
  refine p' 1 rfl (g' [0] (V0 hx5) rfl rfl rfl rfl rfl rfl (e' rfl (ci' rfl hh (fun hh=>?_) (fun hh=>?_))))
  ·refine p' 1 rfl ?_
   rcases bp' hh with ⟨nn,hx11,⟨⟩⟩ | ⟨x11,hx11,hh⟩
   ·exact gn' [0] (ih17 _ _ _ hx11) rfl rfl rfl rfl rfl (fun hi=>peW ⟨trivial,trivial⟩ rfl hi)
   cases hh
   exact g' [0] ((ih17 _ _ _ hx11).ok) rfl rfl rfl rfl rfl rfl (D0.s hC rfl (n' (re' (rt' rfl rfl rfl))))
  obtain ⟨x6,hx6,hh⟩:=bs' hh
  refine p' 1 rfl (g' [0] (V0 hx6) rfl rfl rfl rfl rfl rfl (e' rfl (ci' rfl hh (fun hh=>?_) (fun hh=>?_))))
  ·refine p' 1 rfl ?_
   rcases bp' hh with ⟨nn,hx12,⟨⟩⟩ | ⟨x12,hx12,hh⟩
   ·exact gn' [0] (ih17 _ _ _ hx12) rfl rfl rfl rfl rfl (fun hi=>peW ⟨trivial,trivial⟩ rfl hi)
   cases hh
   exact g' [0] ((ih17 _ _ _ hx12).ok) rfl rfl rfl rfl rfl rfl (D0.s hC rfl (n' (re' (rt' rfl rfl rfl))))
  obtain ⟨x7,hx7,hh⟩:=bs' hh
  refine p' 1 rfl (g' [0] (V0 hx7) rfl rfl rfl rfl rfl rfl (e' rfl (ci' rfl hh (fun hh=>?_) (fun hh=>?_))))
  ·refine p' 1 rfl ?_
   rcases bp' hh with ⟨nn,hx9,⟨⟩⟩ | ⟨x9,hx9,hh⟩
   ·exact gn' [0] (ih0 _ _ hx9) rfl rfl rfl rfl rfl (fun hi=>peW ⟨trivial,trivial⟩ rfl hi)
   refine g' [0] ((ih0 _ _ hx9).ok) rfl rfl rfl rfl rfl rfl (D0.nf hC rfl (D0.s hC rfl (n' (p' 1 rfl ?_))))
   rcases bp' hh with ⟨nn,hx10,⟨⟩⟩ | ⟨x10,hx10,hh⟩
   ·exact gn' [0] (C2 hx10) rfl rfl rfl rfl rfl (fun hi=>peW ⟨trivial,trivial⟩ rfl hi)
   cases hh
   exact g' [0] ((C2 hx10).ok) rfl rfl rfl rfl rfl rfl (n' (p' 1 rfl (D0.s hC rfl (n' (re' (rt' rfl rfl rfl))))))
  refine sk' (p' 1 rfl ?_)
  rcases bp' hh with ⟨nn,hx8,⟨⟩⟩ | ⟨x8,hx8,hh⟩
  ·exact gn' [0] (Ee hx8) rfl rfl rfl rfl rfl (fun hi=>peW ⟨trivial,trivial⟩ rfl hi)
  cases hh
  exact g' [0] ((Ee hx8).ok) rfl rfl rfl rfl rfl rfl (q' rfl (D0.s hC rfl (n' (re' (rt' rfl rfl rfl)))))
 ·intro g0 ih0 op parserParser res hh
  refine I2.intro hC Tryz.func228 rfl rfl rfl (s' rfl rfl (D0.nf hC rfl (n' (p' 1 rfl ?_))))
  rcases bp' hh with ⟨nn,hx1,⟨⟩⟩ | ⟨x1,hx1,hh⟩
  ·exact gn' [0] (C2 hx1) rfl rfl rfl rfl rfl (fun hi=>peW ⟨trivial,trivial⟩ rfl hi)
  refine g' [0] ((C2 hx1).ok) rfl rfl rfl rfl rfl rfl (n' (p' 1 rfl ?_))
  rcases bp' hh with ⟨nn,hx2,⟨⟩⟩ | ⟨x2,hx2,hh⟩
  ·exact gn' [0] (ih0 _ _ hx2) rfl rfl rfl rfl rfl (fun hi=>peW ⟨trivial,trivial⟩ rfl hi)
  refine g' [0] ((ih0 _ _ hx2).ok) rfl rfl rfl rfl rfl rfl (D0.nf hC rfl (D0.s hC rfl (n' (p' 1 rfl ?_))))
  rcases bp' hh with ⟨nn,hx3,⟨⟩⟩ | ⟨x3,hx3,hh⟩
  ·exact gn' [0] (C2 hx3) rfl rfl rfl rfl rfl (fun hi=>peW ⟨trivial,trivial⟩ rfl hi)
  refine g' [0] ((C2 hx3).ok) rfl rfl rfl rfl rfl rfl (n' (p' 1 rfl ?_))
  rcases bp' hh with ⟨nn,hx4,⟨⟩⟩ | ⟨x4,hx4,hh⟩
  ·exact gn' [0] (ih0 _ _ hx4) rfl rfl rfl rfl rfl (fun hi=>peW ⟨trivial,trivial⟩ rfl hi)
  refine g' [0] ((ih0 _ _ hx4).ok) rfl rfl rfl rfl rfl rfl (D0.nf hC rfl (D0.s hC rfl (n' (p' 1 rfl ?_))))
  rcases bp' hh with ⟨nn,hx5,⟨⟩⟩ | ⟨x5,hx5,hh⟩
  ·exact gn' [0] (C2 hx5) rfl rfl rfl rfl rfl (fun hi=>peW ⟨trivial,trivial⟩ rfl hi)
  refine g' [0] ((C2 hx5).ok) rfl rfl rfl rfl rfl rfl (n' (p' 3 rfl (D0.be hC rfl (A0.rows_map [x2.1,x4.1]).symm (q' rfl (D0.s hC rfl (n' (re' ?_)))))))
  obtain rfl:=oi' hh
  exact ⟨_,.agg [.d (.int .i64 op),.d (.int .i64 0),.d (.str []),.d (.sl (A0.rows [x2.1,x4.1]))],[.row (B0.cells x5) 99],rfl,(.aggL ⟨.rfl,.rfl,.rfl,.full,trivial⟩),⟨⟨rfl,.refl _,rfl⟩,trivial⟩,rfl,rfl,rpq rfl rfl⟩
 ·intro g19 ih19 parserParser res hh
  refine I2.intro hC Tryz.func195 rfl rfl rfl (s' rfl rfl (D0.nf hC rfl (n' (p' 1 rfl ?_))))
  rcases bp' hh with ⟨nn,hx1,⟨⟩⟩ | ⟨x1,hx1,hh⟩
  ·exact gn' [0] (R1 hx1) rfl rfl rfl rfl rfl (fun hi=>peW ⟨trivial,trivial⟩ rfl hi)
  exact g' [0] ((R1 hx1).ok) rfl rfl rfl rfl rfl rfl (q' rfl (D0.nf hC rfl (D0.s hC rfl (n' (bk' (fw' (ih19 _ _ _ _ _ hh) rfl rfl rfl))))))
 ·intro g0 g19 ih0 ih19 o0 o2_Op o2_Name o2_Kids res hh
  obtain ⟨x2,hx2,hh⟩:=bs' hh
  refine P0.unroll (bk' (bk' (p' 1 rfl (g' [0] (V0 hx2) rfl rfl rfl rfl rfl rfl (e' rfl (ci' rfl hh (fun hh=>?_) (fun hh=>?_)))))))
  ·rcases bp' hh with ⟨nn,hx3,⟨⟩⟩ | ⟨x3,hx3,hh⟩
   ·refine AEx.drawE hC ?_
    refine C0.step rfl (j0:=0) (js:=[2]) (by kernel_rfl) ⟨⟨_,rfl,?_⟩,⟨_,rfl,?_⟩,trivial⟩
    ·refine e' rfl ?_
     refine C0.step rfl (j0:=1) (js:=[2]) (by kernel_rfl) ⟨⟨_,rfl,?_⟩,⟨_,rfl,?_⟩,trivial⟩
     ·exact gn' [0] (R1 hx3) rfl rfl rfl rfl rfl (fun hi=>peW ⟨trivial,trivial⟩ rfl hi)
     ·refine e' rfl ?_
      refine C0.step rfl (j0:=1) (js:=[3]) (by kernel_rfl) ⟨⟨_,rfl,?_⟩,⟨_,rfl,?_⟩,trivial⟩
      ·exact gn' [0] (R1 hx3) rfl rfl rfl rfl rfl (fun hi=>peW ⟨trivial,trivial⟩ rfl hi)
      ·refine D0.be hC rfl (A0.rows_map [(A0.mk o2_Op 0 o2_Name o2_Kids)]).symm (n' ?_)
       refine C0.step rfl (j0:=1) (js:=[]) (by kernel_rfl) ⟨⟨_,rfl,?_⟩,trivial⟩
       exact gn' [0] (R1 hx3) rfl rfl rfl rfl rfl (fun hi=>peW ⟨trivial,trivial⟩ rfl hi)
    ·refine e' rfl ?_
     refine C0.step rfl (j0:=0) (js:=[3]) (by kernel_rfl) ⟨⟨_,rfl,?_⟩,⟨_,rfl,?_⟩,trivial⟩
     ·refine e' rfl ?_
      refine C0.step rfl (j0:=1) (js:=[3]) (by kernel_rfl) ⟨⟨_,rfl,?_⟩,⟨_,rfl,?_⟩,trivial⟩
      ·exact gn' [0] (R1 hx3) rfl rfl rfl rfl rfl (fun hi=>peW ⟨trivial,trivial⟩ rfl hi)
      ·refine D0.be hC rfl (A0.rows_map [(A0.mk o2_Op 0 o2_Name o2_Kids)]).symm (n' ?_)
       refine C0.step rfl (j0:=1) (js:=[]) (by kernel_rfl) ⟨⟨_,rfl,?_⟩,trivial⟩
       exact gn' [0] (R1 hx3) rfl rfl rfl rfl rfl (fun hi=>peW ⟨trivial,trivial⟩ rfl hi)
     ·refine D0.be hC rfl (A0.rows_map [(A0.mk o2_Op 0 o2_Name o2_Kids)]).symm (n' ?_)
      refine C0.step rfl (j0:=0) (js:=[]) (by kernel_rfl) ⟨⟨_,rfl,?_⟩,trivial⟩
      refine e' rfl ?_
      refine C0.step rfl (j0:=1) (js:=[]) (by kernel_rfl) ⟨⟨_,rfl,?_⟩,trivial⟩
      exact gn' [0] (R1 hx3) rfl rfl rfl rfl rfl (fun hi=>peW ⟨trivial,trivial⟩ rfl hi)
   refine AEx.drawE hC ?_
   refine C0.step rfl (j0:=0) (js:=[2]) (by kernel_rfl) ⟨⟨_,rfl,?_⟩,⟨_,rfl,?_⟩,trivial⟩
   ·refine e' rfl ?_
    refine C0.step rfl (j0:=1) (js:=[2]) (by kernel_rfl) ⟨⟨_,rfl,?_⟩,⟨_,rfl,?_⟩,trivial⟩
    ·refine g' [0] ((R1 hx3).ok) rfl rfl rfl rfl rfl rfl (n' ?_)
     refine C0.step rfl (j0:=2) (js:=[]) (by kernel_rfl) ⟨⟨_,rfl,?_⟩,trivial⟩
     refine e' rfl ?_
     refine C0.step rfl (j0:=3) (js:=[]) (by kernel_rfl) ⟨⟨_,rfl,?_⟩,trivial⟩
     refine D0.be hC rfl (A0.rows_map [(A0.mk o2_Op 0 o2_Name o2_Kids)]).symm (n' ?_)
     refine C0.step rfl (j0:=4) (js:=[]) (by kernel_rfl) ⟨⟨_,rfl,?_⟩,trivial⟩
     refine e' rfl ?_
     refine C0.step rfl (j0:=5) (js:=[]) (by kernel_rfl) ⟨⟨_,rfl,?_⟩,trivial⟩
     refine D0.s hC rfl (n' (C0.nil (by kernel_rfl) ?_))
     refine P0.wk ?_ (ih19 _ _ _ _ _ hh)
     exact ⟨⟨⟨.rfl,rfl⟩,⟨.rfl,rfl⟩,⟨.rfl,rfl⟩,trivial⟩,⟨⟨rfl,.refl _,rfl⟩,⟨rfl,.refl _,rfl⟩,⟨rfl,⟨.rfl,.rfl,.rfl,.full,trivial⟩,rfl⟩,trivial⟩,rfl⟩
    ·refine e' rfl ?_
     refine C0.step rfl (j0:=1) (js:=[3]) (by kernel_rfl) ⟨⟨_,rfl,?_⟩,⟨_,rfl,?_⟩,trivial⟩
     ·refine g' [0] ((R1 hx3).ok) rfl rfl rfl rfl rfl rfl (n' ?_)
      refine C0.step rfl (j0:=3) (js:=[]) (by kernel_rfl) ⟨⟨_,rfl,?_⟩,trivial⟩
      refine D0.be hC rfl (A0.rows_map [(A0.mk o2_Op 0 o2_Name o2_Kids)]).symm (n' ?_)
      refine C0.step rfl (j0:=4) (js:=[]) (by kernel_rfl) ⟨⟨_,rfl,?_⟩,trivial⟩
      refine e' rfl ?_
      refine C0.step rfl (j0:=5) (js:=[]) (by kernel_rfl) ⟨⟨_,rfl,?_⟩,trivial⟩
      refine D0.s hC rfl (n' (C0.nil (by kernel_rfl) ?_))
      refine P0.wk ?_ (ih19 _ _ _ _ _ hh)
      exact ⟨⟨⟨.rfl,rfl⟩,⟨.rfl,rfl⟩,⟨.rfl,rfl⟩,trivial⟩,⟨⟨rfl,.refl _,rfl⟩,⟨rfl,.refl _,rfl⟩,⟨rfl,⟨.rfl,.rfl,.rfl,.full,trivial⟩,rfl⟩,trivial⟩,rfl⟩
     ·refine D0.be hC rfl (A0.rows_map [(A0.mk o2_Op 0 o2_Name o2_Kids)]).symm (n' ?_)
      refine C0.step rfl (j0:=1) (js:=[]) (by kernel_rfl) ⟨⟨_,rfl,?_⟩,trivial⟩
      refine g' [0] ((R1 hx3).ok) rfl rfl rfl rfl rfl rfl (n' ?_)
      refine C0.step rfl (j0:=4) (js:=[]) (by kernel_rfl) ⟨⟨_,rfl,?_⟩,trivial⟩
      refine e' rfl ?_
      refine C0.step rfl (j0:=5) (js:=[]) (by kernel_rfl) ⟨⟨_,rfl,?_⟩,trivial⟩
      refine D0.s hC rfl (n' (C0.nil (by kernel_rfl) ?_))
      refine P0.wk ?_ (ih19 _ _ _ _ _ hh)
      exact ⟨⟨⟨.rfl,rfl⟩,⟨.rfl,rfl⟩,⟨.rfl,rfl⟩,trivial⟩,⟨⟨rfl,.refl _,rfl⟩,⟨rfl,.refl _,rfl⟩,⟨rfl,⟨.rfl,.rfl,.rfl,.full,trivial⟩,rfl⟩,trivial⟩,rfl⟩
   ·refine e' rfl ?_
    refine C0.step rfl (j0:=0) (js:=[3]) (by kernel_rfl) ⟨⟨_,rfl,?_⟩,⟨_,rfl,?_⟩,trivial⟩
    ·refine e' rfl ?_
     refine C0.step rfl (j0:=1) (js:=[3]) (by kernel_rfl) ⟨⟨_,rfl,?_⟩,⟨_,rfl,?_⟩,trivial⟩
     ·refine g' [0] ((R1 hx3).ok) rfl rfl rfl rfl rfl rfl (n' ?_)
      refine C0.step rfl (j0:=3) (js:=[]) (by kernel_rfl) ⟨⟨_,rfl,?_⟩,trivial⟩
      refine D0.be hC rfl (A0.rows_map [(A0.mk o2_Op 0 o2_Name o2_Kids)]).symm (n' ?_)
      refine C0.step rfl (j0:=4) (js:=[]) (by kernel_rfl) ⟨⟨_,rfl,?_⟩,trivial⟩
      refine e' rfl ?_
      refine C0.step rfl (j0:=5) (js:=[]) (by kernel_rfl) ⟨⟨_,rfl,?_⟩,trivial⟩
      refine D0.s hC rfl (n' (C0.nil (by kernel_rfl) ?_))
      refine P0.wk ?_ (ih19 _ _ _ _ _ hh)
      exact ⟨⟨⟨.rfl,rfl⟩,⟨.rfl,rfl⟩,⟨.rfl,rfl⟩,trivial⟩,⟨⟨rfl,.refl _,rfl⟩,⟨rfl,.refl _,rfl⟩,⟨rfl,⟨.rfl,.rfl,.rfl,.full,trivial⟩,rfl⟩,trivial⟩,rfl⟩
     ·refine D0.be hC rfl (A0.rows_map [(A0.mk o2_Op 0 o2_Name o2_Kids)]).symm (n' ?_)
      refine C0.step rfl (j0:=1) (js:=[]) (by kernel_rfl) ⟨⟨_,rfl,?_⟩,trivial⟩
      refine g' [0] ((R1 hx3).ok) rfl rfl rfl rfl rfl rfl (n' ?_)
      refine C0.step rfl (j0:=4) (js:=[]) (by kernel_rfl) ⟨⟨_,rfl,?_⟩,trivial⟩
      refine e' rfl ?_
      refine C0.step rfl (j0:=5) (js:=[]) (by kernel_rfl) ⟨⟨_,rfl,?_⟩,trivial⟩
      refine D0.s hC rfl (n' (C0.nil (by kernel_rfl) ?_))
      refine P0.wk ?_ (ih19 _ _ _ _ _ hh)
      exact ⟨⟨⟨.rfl,rfl⟩,⟨.rfl,rfl⟩,⟨.rfl,rfl⟩,trivial⟩,⟨⟨rfl,.refl _,rfl⟩,⟨rfl,.refl _,rfl⟩,⟨rfl,⟨.rfl,.rfl,.rfl,.full,trivial⟩,rfl⟩,trivial⟩,rfl⟩
    ·refine D0.be hC rfl (A0.rows_map [(A0.mk o2_Op 0 o2_Name o2_Kids)]).symm (n' ?_)
     refine C0.step rfl (j0:=0) (js:=[]) (by kernel_rfl) ⟨⟨_,rfl,?_⟩,trivial⟩
     refine e' rfl ?_
     refine C0.step rfl (j0:=1) (js:=[]) (by kernel_rfl) ⟨⟨_,rfl,?_⟩,trivial⟩
     refine g' [0] ((R1 hx3).ok) rfl rfl rfl rfl rfl rfl (n' ?_)
     refine C0.step rfl (j0:=4) (js:=[]) (by kernel_rfl) ⟨⟨_,rfl,?_⟩,trivial⟩
     refine e' rfl ?_
     refine C0.step rfl (j0:=5) (js:=[]) (by kernel_rfl) ⟨⟨_,rfl,?_⟩,trivial⟩
     refine D0.s hC rfl (n' (C0.nil (by kernel_rfl) ?_))
     refine P0.wk ?_ (ih19 _ _ _ _ _ hh)
     exact ⟨⟨⟨.rfl,rfl⟩,⟨.rfl,rfl⟩,⟨.rfl,rfl⟩,trivial⟩,⟨⟨rfl,.refl _,rfl⟩,⟨rfl,.refl _,rfl⟩,⟨rfl,⟨.rfl,.rfl,.rfl,.full,trivial⟩,rfl⟩,trivial⟩,rfl⟩
  obtain ⟨x4,hx4,hh⟩:=bs' hh
  refine p' 1 rfl (g' [0] (V0 hx4) rfl rfl rfl rfl rfl rfl (e' rfl (ci' rfl hh (fun hh=>?_) (fun hh=>?_))))
  ·refine p' 1 rfl ?_
   rcases bp' hh with ⟨nn,hx5,⟨⟩⟩ | ⟨x5,hx5,hh⟩
   ·exact gn' [0] (ih0 _ _ hx5) rfl rfl rfl rfl rfl (fun hi=>peW ⟨trivial,trivial⟩ rfl hi)
   refine g' [0] ((ih0 _ _ hx5).ok) rfl rfl rfl rfl rfl rfl (D0.nf hC rfl (D0.s hC rfl (n' (p' 1 rfl ?_))))
   rcases bp' hh with ⟨nn,hx6,⟨⟩⟩ | ⟨x6,hx6,hh⟩
   ·exact gn' [0] (C2 hx6) rfl rfl rfl rfl rfl (fun hi=>peW ⟨trivial,trivial⟩ rfl hi)
   refine g' [0] ((C2 hx6).ok) rfl rfl rfl rfl rfl rfl (n' (P' 2 rfl (D0.be hC rfl (A0.rows_map [(A0.mk o2_Op 0 o2_Name o2_Kids),x5.1]).symm (q' rfl (D0.s hC rfl (n' ?_))))))
   refine P0.wk ?_ (ih19 _ _ _ _ _ hh)
   exact ⟨⟨⟨.rfl,rfl⟩,⟨.rfl,rfl⟩,⟨.rfl,rfl⟩,trivial⟩,⟨⟨rfl,.refl _,rfl⟩,⟨rfl,.refl _,rfl⟩,⟨rfl,⟨.rfl,.rfl,.rfl,.full,trivial⟩,rfl⟩,trivial⟩,rfl⟩
  cases hh
  exact p' 1 rfl (D0.s hC rfl (n' (re' (rt' rfl rfl rfl))))
theorem Sb {parserParser res}(hh:O0 parserParser=some res):Mc parserParser res:=(Pg).1 _ _ hh
end Go.Proofs.YtmnhfbekncjnfaaGreatDoor

set_option maxRecDepth 100000
set_option maxHeartbeats 4000000
set_option synthInstance.maxSize 20000
set_option linter.unusedVariables false
namespace Go.Proofs.YtmnhfbekncjnfaaGreatDoor
open Go.Am
def L6 (parserParser:B0)(apiExpr:A0):Option (Pn (B0×A0)):=
 O0 parserParser>>=fun x1=>match x1 with
 | .pn nn=>
 some (.pn nn)
 | .ok x1=>
 some (.ok (x1.2,x1.1))
theorem Ff {parserParser apiExpr res}(hh:L6 parserParser apiExpr=some res):I2 C 29 [.ref 0 0,.ref 1 0] [.row (B0.cells parserParser) 99,.row [.d (.int .i64 apiExpr.Op),.d (.int .i64 apiExpr.NV),.d (.str apiExpr.Name),.full (A0.rows apiExpr.Kids)] 26] (V6 res (fun rr=>[.row (B0.cells rr.1) 99,.row (A0.cells rr.2) 26]) (fun rr=>.tup [])) (G6 res G4 [.dead,.row [.d (.int .i64 apiExpr.Op),.d (.int .i64 apiExpr.NV),.d (.str apiExpr.Name),.full (A0.rows apiExpr.Kids)] 26]):=by
 unfold L6 at hh
 refine I2.intro hC Tryz.func29 rfl rfl rfl (P' 1 rfl ?_)
 rcases bp' hh with ⟨nn,hx1,⟨⟩⟩ | ⟨x1,hx1,hh⟩
 ·exact gn' [0] (Sb hx1) rfl rfl rfl rfl rfl (fun hi=>peW ⟨trivial,⟨rfl,.refl _,rfl⟩,trivial⟩ rfl hi)
 cases hh
 exact g' [0] ((Sb hx1).ok) rfl rfl rfl rfl rfl rfl (D0.s hC rfl (n' (rn' rfl rfl rfl)))
def Uc (text:Str)(apiExpr:A0):Option (Int×Int×A0):=
 Md text>>=fun x1=>
 if (x1.2.2 != 0)=true then
  some (x1.2.1,x1.2.2,apiExpr)
 else
  L6 (B0.mk x1.1 0 ((text).length:Int)) apiExpr>>=fun x2=>match x2 with
  | .pn nn=>
  some (nn,6,apiExpr)
  | .ok x2=>
  if (decide (x2.1.next < ((x2.1.tokens).length:Int)))=true then
   O3 x2.1>>=fun x3=>match x3 with
   | .pn nn=>
   some (nn,6,x2.2)
   | .ok x3=>
   some (0,0,x2.2)
  else
   some (0,0,x2.2)
theorem Lw {text apiExpr res}(hh:Uc text apiExpr=some res):K0 C 28 [.d (.str text),.clo 29 [.ref 0 0]] [.row [.d (.int .i64 apiExpr.Op),.d (.int .i64 apiExpr.NV),.d (.str apiExpr.Name),.full (A0.rows apiExpr.Kids)] 26] (Ret [.row (A0.cells res.2.2) 26] (.tup [.d (.int .i64 res.1),.d (.int .i64 res.2.1)])):=by
 unfold Uc at hh
 obtain ⟨x1,hx1,hh⟩:=bs' hh
 refine K0.introD hC Tryz.func28 rfl rfl rfl (s' rfl rfl (D0.n hC rfl (D0.n hC rfl (n' (p' 1 rfl (c' (Vz hx1) rfl rfl (o' 5 rfl (D0.s hC rfl (D0.s hC rfl (n' (S' (t' rfl (ci' rfl hh (fun hh=>?_) (fun hh=>?_))))))))))))))
 ·refine S' ?_
  refine AEx.drawL hC 3 [2] [] [[.row [.d (.int .i64 apiExpr.Op),.d (.int .i64 apiExpr.NV),.d (.str apiExpr.Name),.full (A0.rows apiExpr.Kids)] 26,.row [.d (.int .i64 x1.2.1)] 3,.row [.d (.int .i64 x1.2.2)] 27],[.row [.d (.int .i64 apiExpr.Op),.d (.int .i64 apiExpr.NV),.d (.str apiExpr.Name),.full (A0.rows apiExpr.Kids)] 26,.row [.d (.int .i64 x1.2.1)] 3,.row [.d (.int .i64 x1.2.2)] 27]] rfl rfl rfl rfl rfl rfl rfl rfl rfl rfl ?_
  refine AS.q hC rfl rfl rfl rfl (AS.q hC rfl rfl rfl rfl (AS.s hC rfl rfl rfl rfl rfl rfl rfl (AS.nil (D0.s hC rfl (n' (re' ?_))))))
  obtain rfl:=oi' hh
  exact ⟨_,_,[.row (A0.cells apiExpr) 26],rfl,.rfl,⟨⟨rfl,⟨.rfl,.rfl,.rfl,.full,trivial⟩,rfl⟩,trivial⟩,rfl,rfl,rfl,rfl⟩
 refine sk' (AEx.dfr hC Z12 S14 rfl rfl rfl rfl rfl rfl fun _=>(p' 4 rfl (D0.n hC rfl (e' rfl (p' 2 rfl ?_)))))
 rcases bp' hh with ⟨nn,hx2,hh⟩ | ⟨x2,hx2,hh⟩
 ·obtain rfl:=oi' hh
  exact gn' [3,0] (Ff hx2) rfl rfl rfl rfl rfl (fun hi=>dfk hi rfl rfl rfl (⟨_,_,[.row (A0.cells apiExpr) 26],rfl,.rfl,⟨⟨rfl,⟨.rfl,.rfl,.rfl,.full,trivial⟩,rfl⟩,trivial⟩,rfl,rfl,rfl,rfl⟩))
 refine g' [3,0] ((Ff hx2).ok) rfl rfl rfl rfl rfl rfl (n' (S' (S' (AEx.draw hC 10 rfl rfl rfl (O' 8 rfl (AQ.qe hC rfl trivial (E0.lenA _) (E' rfl (n' (ci' rfl hh (fun hh=>?_) (fun hh=>?_))))))))))
 ·refine P' 1 rfl ?_
  rcases bp' hh with ⟨nn,hx3,hh⟩ | ⟨x3,hx3,hh⟩
  ·cases hh
   exact gn' [3] (S4 hx3) rfl rfl rfl rfl rfl (fun hi=>dfk hi rfl rfl rfl (rt' rfl rfl rfl))
  cases hh
  exact g' [3] ((S4 hx3).ok) rfl rfl rfl rfl rfl rfl (n' (s' rfl rfl (D0.s hC rfl (D0.s hC rfl (n' (re' (rt' rfl rfl rfl)))))))
 cases hh
 exact sk' (s' rfl rfl (D0.s hC rfl (D0.s hC rfl (n' (re' (rt' rfl rfl rfl))))))
def M6 (d:Int)(syntaxReport:I0):Option I0:=
 some (I0.mk syntaxReport.nodes (max syntaxReport.depth d) syntaxReport.badForm syntaxReport.badName syntaxReport.badNumber)
theorem Pm {d syntaxReport res}(hh:M6 d syntaxReport=some res):K0 C 114 [.ref 0 0,.d (.int .i64 d)] [.row (I0.cells syntaxReport) 103] (Ret [.row (I0.cells res) 103] (.tup [])):=by
 unfold M6 at hh
 cases hh
 exact K0.intro hC Tryz.func114 rfl rfl rfl (P' 9 rfl (D0.s hC rfl (n' (rn' rfl rfl rfl))))
def N5 (op:Int)(v9:Bool):Option Int:=
 if v9=true then
  some 1
 else
  if (op == 5)=true then
   some 2
  else
   if (op == 23)=true then
    some 3
   else
    if (bif (decide (op≥8)) then (decide (op≤22)) else false)=true then
     some 2
    else
     some (-1)
theorem Od {op v9 res}(hh:N5 op v9=some res):JM C 23 0 Tryz.f116 [1,0,1,4,1,3,1] [(0,.d (.int .i64 op)),(3,.d (.int .i64 op)),(9,.d (.bool v9))] [] (Ret [] (.d (.int .i64 res))):=by
 unfold N5 at hh
 refine ci' rfl hh (fun hh=>?_) (fun hh=>?_)
 ·cases hh
  exact t' rfl (re' (rt' rfl rfl rfl))
 refine t' rfl (ci' rfl hh (fun hh=>?_) (fun hh=>?_))
 ·cases hh
  exact t' rfl (re' (rt' rfl rfl rfl))
 refine t' rfl (ci' rfl hh (fun hh=>?_) (fun hh=>?_))
 ·cases hh
  exact t' rfl (re' (rt' rfl rfl rfl))
 refine sk' (S' (sg' 6 rfl (G' 4 rfl (a1' rfl (pa' rfl (an' (n' (ci' rfl hh (fun hh=>?_) (fun hh=>?_)))))))))
 ·cases hh
  exact t' rfl (re' (rt' rfl rfl rfl))
 cases hh
 exact sk' (t' rfl (re' (rt' rfl rfl rfl)))
def O4 (op:Int)(v4:Bool):Option Int:=
 if v4=true then
  some 0
 else
  if (op == 4)=true then
   N5 op (op == 4)
  else
   if (op == 6)=true then
    N5 op (op == 6)
   else
    N5 op (op == 7)
theorem Ha {op v4 res}(hh:O4 op v4=some res):JM C 23 0 Tryz.f116 [1,0,1,4,1] [(0,.d (.int .i64 op)),(3,.d (.int .i64 op)),(4,.d (.bool v4))] [] (Ret [] (.d (.int .i64 res))):=by
 unfold O4 at hh
 refine ci' rfl hh (fun hh=>?_) (fun hh=>?_)
 ·cases hh
  exact t' rfl (re' (rt' rfl rfl rfl))
 refine S' (t' rfl (ci' rfl hh (fun hh=>?_) (fun hh=>?_)))
 ·exact sk' (ew' (Od hh) rfl rfl rfl)
 refine t' rfl (ci' rfl hh (fun hh=>?_) (fun hh=>?_))
 ·exact sk' (ew' (Od hh) rfl rfl rfl)
 exact T' rfl (ew' (Od hh) rfl rfl rfl)
def M9 (op:Int):Option Int:=
 if (op == 0)=true then
  O4 op (op == 0)
 else
  if (op == 1)=true then
   O4 op (op == 1)
  else
   if (op == 2)=true then
    O4 op (op == 2)
   else
    O4 op (op == 3)
theorem Yu {op res}(hh:M9 op=some res):K0 C 116 [.d (.int .i64 op)] [] (Ret [] (.d (.int .i64 res))):=by
 unfold M9 at hh
 refine K0.intro hC Tryz.func116 rfl rfl rfl (t' rfl (S' (t' rfl (bk' (S' (t' rfl (ci' rfl hh (fun hh=>?_) (fun hh=>?_))))))))
 ·exact sk' (ew' (Ha hh) rfl rfl rfl)
 refine t' rfl (ci' rfl hh (fun hh=>?_) (fun hh=>?_))
 ·exact sk' (ew' (Ha hh) rfl rfl rfl)
 refine t' rfl (ci' rfl hh (fun hh=>?_) (fun hh=>?_))
 ·exact sk' (ew' (Ha hh) rfl rfl rfl)
 exact T' rfl (ew' (Ha hh) rfl rfl rfl)
def E3 (ok:Bool)(syntaxReport:I0):Option I0:=
 some (I0.mk syntaxReport.nodes syntaxReport.depth (bif syntaxReport.badForm then true else (!ok)) syntaxReport.badName syntaxReport.badNumber)
theorem H8 {ok syntaxReport res}(hh:E3 ok syntaxReport=some res):K0 C 115 [.ref 0 0,.d (.bool ok)] [.row (I0.cells syntaxReport) 103] (Ret [.row (I0.cells res) 103] (.tup [])):=by
 unfold E3 at hh
 cases hh
 exact K0.intro hC Tryz.func115 rfl rfl rfl (AEx.regionG 11 rfl (G' 7 rfl (a1' rfl (po' rfl (G' 2 rfl (an' (D0.s hC rfl (n' (rn' rfl rfl rfl)))))))))
def P4 (o0:A0):Option Bool:=
 if (bif (o0.Op == 4) then true else (o0.Op == 5))=true then
  if (((o0.Kids).length:Int) == 0)=true then
   some false
  else
   idx o0.Kids 0>>=fun x1=>
   P4 x1
 else
  some (o0.Op == 3)
 partial_fixpoint
abbrev Ni (o0:A0)(res:Bool):Prop:=LM C 22 0 Tryz.f117 [1,0,4] [(1,.ref 0 0)] [.row (A0.cells o0) 26] (Ret [] (.d (.bool res)))
theorem To:(∀ o0 res,P4 o0=some res→Ni o0 res):=by
 refine P4.partial_correctness _ ?_
 ·intro g0 ih0 o0 res hh
  refine P0.unroll (S' (sg' 8 rfl (G' 5 rfl (a1' rfl (a1' rfl (po' rfl (an' (n' (ci' rfl hh (fun hh=>?_) (fun hh=>?_))))))))))
  ·refine sk' (bk' (S' (p' 2 rfl (qe' rfl trivial (A0.lenA _) (e' rfl (ci' rfl hh (fun hh=>?_) (fun hh=>?_)))))))
   ·cases hh
    exact t' rfl (re' (rt' rfl rfl rfl))
   obtain ⟨x1,hx1,hh⟩:=bs' hh
   exact sk' (P' 2 rfl (i' rfl (I1 hx1) (A0.idx hx1) rfl (q' rfl (D0.s hC rfl (n' (lw' (ih0 _ _ hh) rfl rfl rfl))))))
  cases hh
  exact ex' (t' rfl (re' (rt' rfl rfl rfl)))
theorem Eq {o0 res}(hh:P4 o0=some res):Ni o0 res:=(To) _ _ hh
def N9 (e:A0):Option Bool:=
 P4 e
theorem Zu {e res}(hh:N9 e=some res):K0 C 117 [.agg (A0.cells e)] [] (Ret [] (.d (.bool res))):=by
 unfold N9 at hh
 exact K0.intro hC Tryz.func117 rfl rfl rfl (s' rfl rfl (D0.n hC rfl (e' rfl (S' (bk' (fw' (Eq hh) rfl rfl rfl))))))
def P3 (s:Str)(v6:Int):Option Bool:=
 if (decide (v6 < ((s).length:Int)))=true then
  idx s v6>>=fun x1=>
  K6 (x1.toNat:Int)>>=fun x2=>
  (if ((!x2)&&(!(v6 == 0)))=true then idx s v6 else some default)>>=fun x3=>
  (if ((!x2)&&(!(v6 == 0)))=true then H5 (x3.toNat:Int) else some default)>>=fun x4=>
  if (bif (!x2) then (bif (v6 == 0) then true else (!x4)) else false)=true then
   some false
  else
   P3 s (IntKind.i64.wrap (v6+1))
 else
  some (!(s == []))
 partial_fixpoint
abbrev Oi (s:Str)(v6:Int)(res:Bool):Prop:=LM C 28 0 Tryz.f205 [1,0,1,4] [(0,.d (.str s)),(5,.d (.int .i64 ((s).length:Int))),(6,.d (.int .i64 v6))] [] (Ret [] (.d (.bool res)))
theorem Uo (s:Str):(∀ v6 res,P3 s v6=some res→Oi s v6 res):=by
 refine P3.partial_correctness s _ ?_
 ·intro g0 ih0 v6 res hh
  refine P0.unroll (t' rfl (S' (ci' rfl hh (fun hh=>?_) (fun hh=>?_))))
  ·obtain ⟨x1,hx1,hh⟩:=bs' hh
   obtain ⟨x2,hx2,hh⟩:=bs' hh
   obtain ⟨x3,hx3,hh⟩:=bs' hh
   obtain ⟨x4,hx4,hh⟩:=bs' hh
   refine sk' (S' (bk' (t' rfl (sg' 16 rfl (G' 2 rfl (AG.x hC rfl rfl (fun _=>trivial) (fun hw=>⟨I1 hx1,F3 hx1⟩) (AG.c rfl rfl (fun _=>trivial) (fun _=>Ge hx2) (G' 3 rfl (a1' rfl (a1' rfl (G' 2 rfl (AG.x hC rfl rfl (fun hg=>⟨hg,hg,trivial⟩) (fun hw=>⟨I1 (Y1 hw hx3),F3 (Y1 hw hx3)⟩) (AG.c rfl rfl (fun hg=>⟨hg,trivial⟩) (fun hw=>Bc (Y1 hw hx4)) ?_)))))))))))))
   refine a1' rfl (pO' rfl (pa' rfl (an' (n' (ci' rfl hh (fun hh=>?_) (fun hh=>?_))))))
   ·cases hh
    exact t' rfl (re' (rt' rfl rfl rfl))
   exact sk' (T' rfl (lw' (ih0 _ _ hh) rfl rfl rfl))
  cases hh
  exact ex' (t' rfl (re' (rt' rfl rfl rfl)))
theorem Fq {s v6 res}(hh:P3 s v6=some res):Oi s v6 res:=(Uo s) _ _ hh
def Gb (s:Str):Option Bool:=
 P3 s 0
theorem Av {s res}(hh:Gb s=some res):K0 C 205 [.d (.str s)] [] (Ret [] (.d (.bool res))):=by
 unfold Gb at hh
 exact K0.intro hC Tryz.func205 rfl rfl rfl (t' rfl (S' (t' rfl (bk' (fw' (Fq hh) rfl rfl rfl)))))
def Hb (s:Str):Option Bool:=
 (if (decide (((s).length:Int)≤12))=true then Gb s else some default)>>=fun x1=>
 (if (bif (decide (((s).length:Int)≤12)) then x1 else false)=true then I5 s else some default)>>=fun x2=>
 some (bif (bif (decide (((s).length:Int)≤12)) then x1 else false) then (!x2) else false)
theorem Bv {s res}(hh:Hb s=some res):K0 C 190 [.d (.str s)] [] (Ret [] (.d (.bool res))):=by
 unfold Hb at hh
 obtain ⟨x1,hx1,hh⟩:=bs' hh
 obtain ⟨x2,hx2,hh⟩:=bs' hh
 cases hh
 exact K0.intro hC Tryz.func190 rfl rfl rfl (t' rfl (sg' 13 rfl (G' 5 rfl (AG.c rfl rfl (fun hg=>⟨hg,trivial⟩) (fun hw=>Av (Y1 hw hx1)) (pa' rfl (G' 2 rfl (AG.c rfl rfl (fun hg=>⟨hg,trivial⟩) (fun hw=>Li (Y1 hw hx2)) (a1' rfl (pa' rfl (a0' rfl (an' (n' (re' (rt' rfl rfl rfl))))))))))))))
def M8 (s:Str):Option Bool:=
 Hb s>>=fun x1=>
 some x1
theorem Bt {s res}(hh:M8 s=some res):K0 C 168 [.d (.str s)] [] (Ret [] (.d (.bool res))):=by
 unfold M8 at hh
 obtain ⟨x1,hx1,hh⟩:=bs' hh
 cases hh
 exact K0.intro hC Tryz.func168 rfl rfl rfl (t' rfl (p' 1 rfl (c' (Bv hx1) rfl rfl (e' rfl (re' (rt' rfl rfl rfl))))))
def C5 (s:Str)(syntaxReport:I0):Option I0:=
 (if (!syntaxReport.badName)=true then M8 s else some default)>>=fun x1=>
 some (I0.mk syntaxReport.nodes syntaxReport.depth syntaxReport.badForm (bif syntaxReport.badName then true else (!x1)) syntaxReport.badNumber)
theorem Qm {s syntaxReport res}(hh:C5 s syntaxReport=some res):K0 C 118 [.ref 0 0,.d (.str s)] [.row (I0.cells syntaxReport) 103] (Ret [.row (I0.cells res) 103] (.tup [])):=by
 unfold C5 at hh
 obtain ⟨x1,hx1,hh⟩:=bs' hh
 cases hh
 exact K0.intro hC Tryz.func118 rfl rfl rfl (AEx.regionG 12 rfl (G' 7 rfl (AG.c rfl rfl (fun hg=>⟨hg,trivial⟩) (fun hw=>Bt (Y1 hw hx1)) (a1' rfl (po' rfl (G' 2 rfl (an' (D0.s hC rfl (n' (rn' rfl rfl rfl))))))))))
def Da (n:Int)(low:Int)(high:Int):Option Bool:=
 some (bif (decide (n≥low)) then (decide (n≤high)) else false)
theorem Ct {n low high res}(hh:Da n low high=some res):K0 C 120 [.d (.int .i64 n),.d (.int .i64 low),.d (.int .i64 high)] [] (Ret [] (.d (.bool res))):=by
 unfold Da at hh
 cases hh
 exact K0.intro hC Tryz.func120 rfl rfl rfl (t' rfl (sg' 9 rfl (G' 6 rfl (a2' rfl (pa' rfl (a0' rfl (an' (n' (re' (rt' rfl rfl rfl))))))))))
def E4 (ok:Bool)(syntaxReport:I0):Option I0:=
 some (I0.mk syntaxReport.nodes syntaxReport.depth syntaxReport.badForm syntaxReport.badName (bif syntaxReport.badNumber then true else (!ok)))
theorem Rk {ok syntaxReport res}(hh:E4 ok syntaxReport=some res):K0 C 119 [.ref 0 0,.d (.bool ok)] [.row (I0.cells syntaxReport) 103] (Ret [.row (I0.cells res) 103] (.tup [])):=by
 unfold E4 at hh
 cases hh
 exact K0.intro hC Tryz.func119 rfl rfl rfl (AEx.regionG 11 rfl (G' 7 rfl (a1' rfl (po' rfl (G' 2 rfl (an' (D0.s hC rfl (n' (rn' rfl rfl rfl)))))))))
mutual
def V2 (e:A0)(depth:Int)(syntaxReport:I0):Option I0:=
 M6 depth (I0.mk (IntKind.i64.wrap (syntaxReport.nodes+1)) syntaxReport.depth syntaxReport.badForm syntaxReport.badName syntaxReport.badNumber)>>=fun x1=>
 M9 e.Op>>=fun x2=>
 E3 (x2 == ((e.Kids).length:Int)) x1>>=fun x3=>
 E3 (bif (e.NV == 0) then true else (e.Op == 0)) x3>>=fun x4=>
 E3 (bif (e.Name == []) then true else (bif (e.Op == 3) then true else (e.Op == 4))) x4>>=fun x5=>
 if (bif (e.Op == 4) then true else (e.Op == 5))=true then
  N9 e>>=fun x6=>
  E3 x6 x5>>=fun x7=>
  X3 e depth x7
 else
  X3 e depth x5
 partial_fixpoint
def X3 (e:A0)(depth:Int)(o0:I0):Option I0:=
 if (bif (e.Op == 3) then true else (e.Op == 4))=true then
  C5 e.Name o0>>=fun x8=>
  U4 e depth x8
 else
  U4 e depth o0
 partial_fixpoint
def U4 (e:A0)(depth:Int)(o01:I0):Option I0:=
 if (e.Op == 0)=true then
  Da e.NV 0 1048576>>=fun x9=>
  E4 x9 o01>>=fun x10=>
  V4 e depth x10
 else
  V4 e depth o01
 partial_fixpoint
def V4 (e:A0)(depth:Int)(o02:I0):Option I0:=
 P2 e depth o02 0
 partial_fixpoint
def P2 (e:A0)(depth:Int)(o03:I0)(v82:Int):Option I0:=
 if (decide (v82 < ((e.Kids).length:Int)))=true then
  idx e.Kids v82>>=fun x11=>
  V2 x11 (IntKind.i64.wrap (depth+1)) o03>>=fun x12=>
  P2 e depth x12 (IntKind.i64.wrap (v82+1))
 else
  some o03
 partial_fixpoint
end
abbrev Uf (e:A0)(depth:Int)(syntaxReport:I0)(res:I0):Prop:=K0 C 63 [.ref 0 0,.agg (A0.cells e),.d (.int .i64 depth)] [.row (I0.cells syntaxReport) 103] (Ret [.row (I0.cells res) 103] (.tup []))
abbrev Sk (e:A0)(depth:Int)(o0:I0)(res:I0):Prop:=JM C 92 1 Tryz.f63 [1,1,1,1,1,1,1,1] [(0,.ref 0 0),(2,.d (.int .i64 depth)),(4,.ref 1 0),(6,.d (.bool (bif (e.Op == 3) then true else (e.Op == 4))))] [.row (I0.cells o0) 103,.row (A0.cells e) 26] (Ret [.row (I0.cells res) 103] (.tup []))
abbrev Tk (e:A0)(depth:Int)(o01:I0)(res:I0):Prop:=JM C 92 1 Tryz.f63 [1,1,1,1,1,1,1,1,1] [(0,.ref 0 0),(2,.d (.int .i64 depth)),(4,.ref 1 0)] [.row (I0.cells o01) 103,.row (A0.cells e) 26] (Ret [.row (I0.cells res) 103] (.tup []))
abbrev Uk (e:A0)(depth:Int)(o02:I0)(res:I0):Prop:=JM C 92 1 Tryz.f63 [1,1,1,1,1,1,1,1,1,1] [(0,.ref 0 0),(2,.d (.int .i64 depth)),(4,.ref 1 0)] [.row (I0.cells o02) 103,.row (A0.cells e) 26] (Ret [.row (I0.cells res) 103] (.tup []))
abbrev Vk (e:A0)(depth:Int)(o03:I0)(v82:Int)(res:I0):Prop:=LM C 92 1 Tryz.f63 [1,1,1,1,1,1,1,1,1,1,1,4] [(0,.ref 0 0),(2,.d (.int .i64 depth)),(80,.d (.sl (A0.rows e.Kids))),(81,.d (.int .i64 ((e.Kids).length:Int))),(82,.d (.int .i64 v82))] [.row (I0.cells o03) 103] (Ret [.row (I0.cells res) 103] (.tup []))
theorem Ol:(∀ e depth syntaxReport res,V2 e depth syntaxReport=some res→Uf e depth syntaxReport res)∧(∀ e depth o0 res,X3 e depth o0=some res→Sk e depth o0 res)∧(∀ e depth o01 res,U4 e depth o01=some res→Tk e depth o01 res)∧(∀ e depth o02 res,V4 e depth o02=some res→Uk e depth o02 res)∧(∀ e depth o03 v82 res,P2 e depth o03 v82=some res→Vk e depth o03 v82 res):=by
 refine V2.mutual_partial_correctness _ _ _ _ _ ?_ ?_ ?_ ?_ ?_
 ·intro g1 ih1 e depth syntaxReport res hh
  obtain ⟨x1,hx1,hh⟩:=bs' hh
  obtain ⟨x2,hx2,hh⟩:=bs' hh
  obtain ⟨x3,hx3,hh⟩:=bs' hh
  obtain ⟨x4,hx4,hh⟩:=bs' hh
  obtain ⟨x5,hx5,hh⟩:=bs' hh
  refine K0.intro hC Tryz.func63 rfl rfl rfl (s' rfl rfl (D0.n hC rfl (n' (p' 7 rfl (D0.s hC rfl (n' (p' 2 rfl (g' [0] (Pm hx1) rfl rfl rfl rfl rfl rfl (n' (S' (AEx.draw hC 8 rfl rfl rfl (O' 3 rfl (Qc' (Yu hx2) rfl rfl ?_)))))))))))))
  refine O' 2 rfl (AQ.qe hC rfl trivial (A0.lenA _) (E' rfl (g' [0] (H8 hx3) rfl rfl rfl rfl rfl rfl (n' (sg' 9 rfl (G' 6 rfl (a1' rfl (a1' rfl (po' rfl (an' (g' [0] (H8 hx4) rfl rfl rfl rfl rfl rfl (n' (sg' 9 rfl ?_)))))))))))))
  refine G' 5 rfl (a1' rfl (a1' rfl (po' rfl (a0' rfl (an' (n' (sg' 7 rfl (G' 6 rfl (po' rfl (an' (g' [0] (H8 hx5) rfl rfl rfl rfl rfl rfl (n' (S' ?_)))))))))))))
  refine sg' 8 rfl (G' 5 rfl (a1' rfl (a1' rfl (po' rfl (an' (n' (ci' rfl hh (fun hh=>?_) (fun hh=>?_))))))))
  ·obtain ⟨x6,hx6,hh⟩:=bs' hh
   obtain ⟨x7,hx7,hh⟩:=bs' hh
   exact P' 2 rfl (c' (Zu hx6) rfl rfl (g' [0] (H8 hx7) rfl rfl rfl rfl rfl rfl (n' (ew' (ih1 _ _ _ _ hh) rfl rfl rfl))))
  exact sk' (ew' (ih1 _ _ _ _ hh) rfl rfl rfl)
 ·intro g2 ih2 e depth o0 res hh
  refine S' (t' rfl (ci' rfl hh (fun hh=>?_) (fun hh=>?_)))
  ·obtain ⟨x8,hx8,hh⟩:=bs' hh
   exact P' 3 rfl (g' [0] (Qm hx8) rfl rfl rfl rfl rfl rfl (n' (ew' (ih2 _ _ _ _ hh) rfl rfl rfl)))
  exact sk' (ew' (ih2 _ _ _ _ hh) rfl rfl rfl)
 ·intro g3 ih3 e depth o01 res hh
  refine S' (t' rfl (ci' rfl hh (fun hh=>?_) (fun hh=>?_)))
  ·obtain ⟨x9,hx9,hh⟩:=bs' hh
   obtain ⟨x10,hx10,hh⟩:=bs' hh
   exact P' 3 rfl (c' (Ct hx9) rfl rfl (g' [0] (Rk hx10) rfl rfl rfl rfl rfl rfl (n' (ew' (ih3 _ _ _ _ hh) rfl rfl rfl))))
  exact sk' (ew' (ih3 _ _ _ _ hh) rfl rfl rfl)
 ·intro g4 ih4 e depth o02 res hh
  exact p' 2 rfl (qe' rfl trivial (A0.lenA _) (e' rfl (bk' (fw' (ih4 _ _ _ _ _ hh) rfl rfl rfl))))
 ·intro g0 g4 ih0 ih4 e depth o03 v82 res hh
  refine P0.unroll (t' rfl (S' (ci' rfl hh (fun hh=>?_) (fun hh=>?_))))
  ·obtain ⟨x11,hx11,hh⟩:=bs' hh
   obtain ⟨x12,hx12,hh⟩:=bs' hh
   exact sk' (S' (bk' (s' rfl rfl (i' rfl (I1 hx11) (A0.idx hx11) rfl (q' rfl (D0.nf hC rfl (D0.s hC rfl (n' (P' 4 rfl (g' [0] (ih0 _ _ _ _ hx12) rfl rfl rfl rfl rfl rfl (n' (T' rfl (lw' (ih4 _ _ _ _ _ hh) rfl rfl rfl)))))))))))))
  cases hh
  exact ex' (rn' rfl rfl rfl)
theorem Rm {e depth syntaxReport res}(hh:V2 e depth syntaxReport=some res):Uf e depth syntaxReport res:=(Ol).1 _ _ _ _ hh
def D5 (syntaxReport:I0):Option Int:=
 if (bif (decide (syntaxReport.nodes > 1024)) then true else (decide (syntaxReport.depth > 12)))=true then
  some 4
 else
  if syntaxReport.badForm=true then
   some 1
  else
   if syntaxReport.badName=true then
    some 7
   else
    if syntaxReport.badNumber=true then
     some 3
    else
     some 0
theorem Sm {syntaxReport res}(hh:D5 syntaxReport=some res):K0 C 64 [.ref 0 0] [.row (I0.cells syntaxReport) 103] (Ret [.row (I0.cells syntaxReport) 103] (.d (.int .i64 res))):=by
 unfold D5 at hh
 refine K0.intro hC Tryz.func64 rfl rfl rfl (t' rfl (S' (bk' (sg' 13 rfl (G' 7 rfl (a1' rfl (a1' rfl (a1' rfl (a1' rfl (po' rfl (a0' rfl (an' (n' (ci' rfl hh (fun hh=>?_) (fun hh=>?_)))))))))))))))
 ·cases hh
  exact t' rfl (re' (rt' rfl rfl rfl))
 refine t' rfl (ci' rfl hh (fun hh=>?_) (fun hh=>?_))
 ·cases hh
  exact t' rfl (re' (rt' rfl rfl rfl))
 refine t' rfl (ci' rfl hh (fun hh=>?_) (fun hh=>?_))
 ·cases hh
  exact t' rfl (re' (rt' rfl rfl rfl))
 refine t' rfl (ci' rfl hh (fun hh=>?_) (fun hh=>?_))
 ·cases hh
  exact t' rfl (re' (rt' rfl rfl rfl))
 cases hh
 exact sk' (t' rfl (re' (rt' rfl rfl rfl)))
def I6 (e:A0):Option Int:=
 V2 e 1 (I0.mk 0 0 false false false)>>=fun x1=>
 D5 x1>>=fun x2=>
 some x2
theorem Vo {e res}(hh:I6 e=some res):K0 C 31 [.agg (A0.cells e)] [] (Ret [] (.d (.int .i64 res))):=by
 unfold I6 at hh
 obtain ⟨x1,hx1,hh⟩:=bs' hh
 obtain ⟨x2,hx2,hh⟩:=bs' hh
 cases hh
 exact K0.intro hC Tryz.func31 rfl rfl rfl (s' rfl rfl (D0.n hC rfl (e' rfl (p' 1 rfl (D0.n hC rfl (e' rfl (p' 2 rfl (g' [1] (Rm hx1) rfl rfl rfl rfl rfl rfl (n' (p' 1 rfl (g' [1] (Sm hx2) rfl rfl rfl rfl rfl rfl (e' rfl (re' (rt' rfl rfl rfl))))))))))))))
def F4 (text:Str):Option (A0×Int×Int):=
 Uc text (A0.mk 0 0 [] [])>>=fun x1=>
 if (x1.2.1 != 0)=true then
  some ((A0.mk 0 0 [] []),x1.1,x1.2.1)
 else
  I6 x1.2.2>>=fun x2=>
  if (x2 != 0)=true then
   some ((A0.mk 0 0 [] []),0,x2)
  else
   some (x1.2.2,0,0)
theorem Zc {text res}(hh:F4 text=some res):K0 C 11 [.d (.str text)] [] (Ret [] (.tup [.agg (A0.cells res.1),.d (.int .i64 res.2.1),.d (.int .i64 res.2.2)])):=by
 unfold F4 at hh
 obtain ⟨x1,hx1,hh⟩:=bs' hh
 refine K0.intro hC Tryz.func11 rfl rfl rfl (s' rfl rfl (D0.nf hC rfl (e' rfl (s' rfl rfl (D0.nf hC rfl (n' (p' 2 rfl (g' [1] (Lw hx1) rfl rfl rfl rfl rfl rfl (e' rfl (S' (t' rfl (ci' rfl hh (fun hh=>?_) (fun hh=>?_)))))))))))))
 ·cases hh
  exact p' 3 rfl (D0.s hC rfl (e' rfl (re' (rt' rfl rfl rfl))))
 obtain ⟨x2,hx2,hh⟩:=bs' hh
 refine sk' (S' (p' 1 rfl (c' (Vo hx2) rfl rfl (e' rfl (t' rfl (ci' rfl hh (fun hh=>?_) (fun hh=>?_)))))))
 ·cases hh
  exact p' 2 rfl (D0.s hC rfl (e' rfl (re' (rt' rfl rfl rfl))))
 cases hh
 exact sk' (p' 1 rfl (D0.s hC rfl (e' rfl (re' (rt' rfl rfl rfl)))))
def Cc (s:Str):Option A0:=
 some (A0.mk 3 0 s [])
theorem Fi {s res}(hh:Cc s=some res):K0 C 27 [.d (.str s)] [] (Ret [] (.agg (A0.cells res))):=by
 unfold Cc at hh
 cases hh
 exact K0.intro hC Tryz.func27 rfl rfl rfl (s' rfl rfl (D0.nf hC rfl (n' (p' 2 rfl (D0.s hC rfl (n' (re' (rt' rfl rfl rfl))))))))
mutual
def Y2 (a:A0)(b:A0):Option Bool:=
 if (bif (bif (bif (a.Op != b.Op) then true else (a.NV != b.NV)) then true else (!(a.Name == b.Name))) then true else (((a.Kids).length:Int) != ((b.Kids).length:Int)))=true then
  some false
 else
  D4 a b 0
 partial_fixpoint
def D4 (a:A0)(b:A0)(i:Int):Option Bool:=
 if (decide (i < ((a.Kids).length:Int)))=true then
  idx a.Kids i>>=fun x1=>
  idx b.Kids i>>=fun x2=>
  Y2 x1 x2>>=fun x3=>
  if (!x3)=true then
   some false
  else
   D4 a b (IntKind.i64.wrap (i+1))
 else
  some true
 partial_fixpoint
end
abbrev Pi (a:A0)(b:A0)(res:Bool):Prop:=K0 C 13 [.agg (A0.cells a),.agg (A0.cells b)] [] (Ret [] (.d (.bool res)))
abbrev Un (a:A0)(b:A0)(i:Int)(res:Bool):Prop:=LM C 53 0 Tryz.f13 [1,1,0,1,4] [(2,.ref 0 0),(3,.ref 1 0),(5,.d (.int .i64 i))] [.row (A0.cells a) 26,.row (A0.cells b) 26] (Ret [] (.d (.bool res)))
theorem Wo:(∀ a b res,Y2 a b=some res→Pi a b res)∧(∀ a b i res,D4 a b i=some res→Un a b i res):=by
 refine Y2.mutual_partial_correctness _ _ ?_ ?_
 ·intro g1 ih1 a b res hh
  refine K0.intro hC Tryz.func13 rfl rfl rfl (s' rfl rfl (D0.n hC rfl (D0.n hC rfl (e' rfl (S' (sg' 28 rfl (G' 7 rfl (a1' rfl (a0' rfl (a1' rfl (a2' rfl (po' rfl (G' 2 rfl ?_)))))))))))))
  refine a1' rfl (a0' rfl (a1' rfl (a2' rfl (po' rfl (G' 2 rfl (a1' rfl (AG.qe hC rfl (fun hg=>⟨⟨hg,trivial⟩,trivial⟩) (A0.lenA _) (a0' rfl (a1' rfl (AG.qe hC rfl (fun hg=>⟨⟨hg,trivial⟩,trivial⟩) (A0.lenA _) (a2' rfl (po' rfl (an' ?_)))))))))))))
  refine n' (ci' rfl hh (fun hh=>?_) (fun hh=>?_))
  ·cases hh
   exact t' rfl (re' (rt' rfl rfl rfl))
  exact sk' (S' (t' rfl (bk' (fw' (ih1 _ _ _ _ hh) rfl rfl rfl))))
 ·intro g0 g1 ih0 ih1 a b i res hh
  refine P0.unroll (S' (p' 3 rfl (qe' rfl trivial (A0.lenA _) (e' rfl (ci' rfl hh (fun hh=>?_) (fun hh=>?_))))))
  ·obtain ⟨x1,hx1,hh⟩:=bs' hh
   obtain ⟨x2,hx2,hh⟩:=bs' hh
   obtain ⟨x3,hx3,hh⟩:=bs' hh
   refine sk' (S' (bk' (S' (AEx.draw hC 12 rfl rfl rfl (O' 3 rfl (AQ.i hC rfl (I1 hx1) (A0.idx hx1) rfl (O' 4 rfl (AQ.i hC rfl (I1 hx2) (A0.idx hx2) rfl (Q' rfl (Qc' (ih0 _ _ _ hx3) rfl rfl (E' rfl (n' (ci' rfl hh (fun hh=>?_) (fun hh=>?_))))))))))))))
   ·cases hh
    exact t' rfl (re' (rt' rfl rfl rfl))
   exact sk' (T' rfl (lw' (ih1 _ _ _ _ hh) rfl rfl rfl))
  cases hh
  exact ex' (t' rfl (re' (rt' rfl rfl rfl)))
theorem Pd {a b res}(hh:Y2 a b=some res):Pi a b res:=(Wo).1 _ _ _ hh
def Ua:Option Bool:=
 F4 [97,32,45,32,98,32,45,32,99,91,49,93,46,100]>>=fun x1=>
 Cc [99]>>=fun x2=>
 Cc [97]>>=fun x3=>
 Cc [98]>>=fun x4=>
 F4 [97,32,61,61,32,98,32,61,61,32,99]>>=fun x5=>
 (if (x1.2.2 == 0)=true then Y2 x1.1 (A0.mk 9 0 [] [(A0.mk 9 0 [] [x3,x4]),(A0.mk 4 0 [100] [(A0.mk 5 0 [] [x2,(A0.mk 0 1 [] [])])])]) else some default)>>=fun x6=>
 some (bif (bif (bif (x1.2.2 == 0) then x6 else false) then (x5.2.2 == 6) else false) then (x5.2.1 == 7) else false)
theorem Mw {res}(hh:Ua=some res):K0 C 10 [] [] (Ret [] (.d (.bool res))):=by
 unfold Ua at hh
 obtain ⟨x1,hx1,hh⟩:=bs' hh
 obtain ⟨x2,hx2,hh⟩:=bs' hh
 obtain ⟨x3,hx3,hh⟩:=bs' hh
 obtain ⟨x4,hx4,hh⟩:=bs' hh
 obtain ⟨x5,hx5,hh⟩:=bs' hh
 obtain ⟨x6,hx6,hh⟩:=bs' hh
 cases hh
 refine K0.intro hC Tryz.func10 rfl rfl rfl (t' rfl (s' rfl rfl (c' (Zc hx1) rfl rfl (o' 4 rfl (D0.nf hC rfl (D0.s hC rfl (e' rfl (s' rfl rfl (c' (Fi hx2) rfl rfl (q' rfl (D0.be hC rfl (A0.rows_map [x2,(A0.mk 0 1 [] [])]).symm (q' rfl (D0.be hC rfl (A0.rows_map [(A0.mk 5 0 [] [x2,(A0.mk 0 1 [] [])])]).symm ?_)))))))))))))
 refine q' rfl (D0.nf hC rfl (D0.s hC rfl (n' (S' (AEx.drawL hC 8 [] [(7,2)] [[.row (A0.cells x1.1) 26,.row [.d (.int .i64 4),.d (.int .i64 0),.d (.str [100]),.full (A0.rows [(A0.mk 5 0 [] [x2,(A0.mk 0 1 [] [])])])] 26,.row [.d (.int .i64 0),.d (.int .i64 0),.d (.str []),.full (A0.rows [])] 26]] rfl rfl rfl rfl rfl rfl rfl rfl rfl rfl (AS.c (Fi hx3) rfl rfl rfl rfl ?_))))))
 refine AS.c (Fi hx4) rfl rfl rfl rfl (AS.a rfl (fun H=>AQ.be hC rfl (A0.rows_map [x3,x4]).symm (AQ.nil rfl)) rfl rfl (AS.q hC rfl rfl rfl rfl (AS.q hC rfl rfl rfl rfl (AS.a rfl (fun H=>AQ.be hC rfl (A0.rows_map [(A0.mk 9 0 [] [x3,x4]),(A0.mk 4 0 [100] [(A0.mk 5 0 [] [x2,(A0.mk 0 1 [] [])])])]).symm (AQ.nil rfl)) rfl rfl (AS.q hC rfl rfl rfl rfl ?_)))))
 refine AS.n hC rfl rfl rfl rfl (AS.nil (D0.s hC rfl (n' (s' rfl rfl (c' (Zc hx5) rfl rfl (o' 4 rfl (D0.nf hC rfl (D0.s hC rfl (e' rfl (sg' 16 rfl (G' 5 rfl (AG.cl rfl (fun hw=>Pd (Y1 hw hx6)) ⟨.rfl,(.aggL ⟨.rfl,.rfl,.rfl,.full,trivial⟩),trivial⟩ rfl (fun hg=>⟨hg,hg,trivial⟩) (pa' rfl ?_)))))))))))))
 exact G' 2 rfl (a1' rfl (pa' rfl (G' 2 rfl (a1' rfl (pa' rfl (a0' rfl (an' (n' (re' (rt' rfl rfl rfl))))))))))
mutual
def Y3 (s:Str)(atV1:Int):Option Int:=
 if (decide (atV1 < ((s).length:Int)))=true then
  idx s atV1>>=fun x1=>
  if ((x1.toNat:Int) == 35)=true then
   N6 s atV1
  else
   idx s atV1>>=fun x2=>
   (if (!((x2.toNat:Int) == 32))=true then idx s atV1 else some default)>>=fun x3=>
   (if (!(bif ((x2.toNat:Int) == 32) then true else ((x3.toNat:Int) == 9)))=true then idx s atV1 else some default)>>=fun x4=>
   if (bif (bif ((x2.toNat:Int) == 32) then true else ((x3.toNat:Int) == 9)) then true else ((x4.toNat:Int) == 10))=true then
    Y3 s (IntKind.i64.wrap (atV1+1))
   else
    some atV1
 else
  some atV1
 partial_fixpoint
def N6 (s:Str)(atV2:Int):Option Int:=
 (if (decide (atV2 < ((s).length:Int)))=true then idx s atV2 else some default)>>=fun x5=>
 if (bif (decide (atV2 < ((s).length:Int))) then ((x5.toNat:Int) != 10) else false)=true then
  N6 s (IntKind.i64.wrap (atV2+1))
 else
  Y3 s atV2
 partial_fixpoint
end
abbrev Zj (s:Str)(atV1:Int)(res:Int):Prop:=LM C 45 0 Tryz.f55 [1,0,4] [(0,.d (.str s)),(1,.d (.int .i64 atV1))] [] (Ret [] (.d (.int .i64 res)))
abbrev Dt (s:Str)(atV2:Int)(res:Int):Prop:=LM C 45 0 Tryz.f55 [1,0,4,5,1,4,1,2,4] [(0,.d (.str s)),(1,.d (.int .i64 atV2))] [] (Ret [] (.d (.int .i64 res)))
theorem Gq (s:Str):(∀ atV1 res,Y3 s atV1=some res→Zj s atV1 res)∧(∀ atV2 res,N6 s atV2=some res→Dt s atV2 res):=by
 refine Y3.mutual_partial_correctness s _ _ ?_ ?_
 ·intro g0 g1 ih0 ih1 atV1 res hh
  refine P0.unroll (S' (t' rfl (ci' rfl hh (fun hh=>?_) (fun hh=>?_))))
  ·obtain ⟨x1,hx1,hh⟩:=bs' hh
   refine sk' (bk' (p' 2 rfl (x' rfl (I1 hx1) (F3 hx1) (e' rfl (ci' rfl hh (fun hh=>?_) (fun hh=>?_))))))
   ·exact bk' (fw' (ih1 _ _ hh) rfl rfl rfl)
   obtain ⟨x2,hx2,hh⟩:=bs' hh
   obtain ⟨x3,hx3,hh⟩:=bs' hh
   obtain ⟨x4,hx4,hh⟩:=bs' hh
   refine sg' 16 rfl (G' 2 rfl (AG.x hC rfl rfl (fun _=>trivial) (fun hw=>⟨I1 hx2,F3 hx2⟩) (G' 4 rfl (AG.x hC rfl rfl (fun hg=>⟨hg,hg,trivial⟩) (fun hw=>⟨I1 (Y1 hw hx3),F3 (Y1 hw hx3)⟩) (a1' rfl (po' rfl (G' 3 rfl (AG.x hC rfl rfl (fun hg=>⟨hg,hg,trivial⟩) (fun hw=>⟨I1 (Y1 hw hx4),F3 (Y1 hw hx4)⟩) (a1' rfl (po' rfl (an' (n' (ci' rfl hh (fun hh=>?_) (fun hh=>?_))))))))))))))
   ·exact T' rfl (lw' (ih0 _ _ hh) rfl rfl rfl)
   cases hh
   exact t' rfl (re' (rt' rfl rfl rfl))
  cases hh
  exact ex' (t' rfl (re' (rt' rfl rfl rfl)))
 ·intro g0 g1 ih0 ih1 atV2 res hh
  obtain ⟨x5,hx5,hh⟩:=bs' hh
  refine P0.unroll (S' (sg' 10 rfl (G' 7 rfl (AG.x hC rfl rfl (fun hg=>⟨hg,hg,trivial⟩) (fun hw=>⟨I1 (Y1 hw hx5),F3 (Y1 hw hx5)⟩) (a1' rfl (pa' rfl (an' (n' (ci' rfl hh (fun hh=>?_) (fun hh=>?_))))))))))
  ·exact sk' (bk' (T' rfl (lw' (ih1 _ _ hh) rfl rfl rfl)))
  exact ex' (lw' (ih0 _ _ hh) rfl rfl rfl)
theorem Ur {s atV1 res}(hh:Y3 s atV1=some res):Zj s atV1 res:=(Gq s).1 _ _ hh
def Vc (s:Str)(atV:Int):Option Int:=
 Y3 s atV
theorem Tm {s atV res}(hh:Vc s atV=some res):K0 C 55 [.d (.str s),.d (.int .i64 atV)] [] (Ret [] (.d (.int .i64 res))):=by
 unfold Vc at hh
 exact K0.intro hC Tryz.func55 rfl rfl rfl (t' rfl (S' (bk' (fw' (Ur hh) rfl rfl rfl))))
def O9 (c:Int):Option Bool:=
 some (bif (decide (c≥97)) then (decide (c≤122)) else false)
theorem Fd {c res}(hh:O9 c=some res):K0 C 104 [.d (.int .u8 c)] [] (Ret [] (.d (.bool res))):=by
 unfold O9 at hh
 cases hh
 exact K0.intro hC Tryz.func104 rfl rfl rfl (t' rfl (sg' 7 rfl (G' 4 rfl (a1' rfl (pa' rfl (a0' rfl (an' (n' (re' (rt' rfl rfl rfl))))))))))
def Wc (c:Int):Option Bool:=
 some (bif (decide (c≥48)) then (decide (c≤57)) else false)
theorem Qg {c res}(hh:Wc c=some res):K0 C 106 [.d (.int .u8 c)] [] (Ret [] (.d (.bool res))):=by
 unfold Wc at hh
 cases hh
 exact K0.intro hC Tryz.func106 rfl rfl rfl (t' rfl (sg' 7 rfl (G' 4 rfl (a1' rfl (pa' rfl (a0' rfl (an' (n' (re' (rt' rfl rfl rfl))))))))))
def D8 (s:Str)(atV1:Int):Option Int:=
 (if (decide (atV1 < ((s).length:Int)))=true then idx s atV1 else some default)>>=fun x1=>
 (if (decide (atV1 < ((s).length:Int)))=true then O9 (x1.toNat:Int) else some default)>>=fun x2=>
 (if ((decide (atV1 < ((s).length:Int)))&&(!x2))=true then idx s atV1 else some default)>>=fun x3=>
 (if ((decide (atV1 < ((s).length:Int)))&&(!x2))=true then Wc (x3.toNat:Int) else some default)>>=fun x4=>
 if (bif (decide (atV1 < ((s).length:Int))) then (bif x2 then true else x4) else false)=true then
  D8 s (IntKind.i64.wrap (atV1+1))
 else
  some atV1
 partial_fixpoint
abbrev Um (s:Str)(atV1:Int)(res:Int):Prop:=LM C 24 0 Tryz.f103 [1,0,4] [(0,.d (.str s)),(1,.d (.int .i64 atV1))] [] (Ret [] (.d (.int .i64 res)))
theorem Et (s:Str):(∀ atV1 res,D8 s atV1=some res→Um s atV1 res):=by
 refine D8.partial_correctness s _ ?_
 ·intro g0 ih0 atV1 res hh
  obtain ⟨x1,hx1,hh⟩:=bs' hh
  obtain ⟨x2,hx2,hh⟩:=bs' hh
  obtain ⟨x3,hx3,hh⟩:=bs' hh
  obtain ⟨x4,hx4,hh⟩:=bs' hh
  refine P0.unroll (S' (sg' 16 rfl (G' 7 rfl (AG.x hC rfl rfl (fun hg=>⟨hg,hg,trivial⟩) (fun hw=>⟨I1 (Y1 hw hx1),F3 (Y1 hw hx1)⟩) (AG.c rfl rfl (fun hg=>⟨hg,trivial⟩) (fun hw=>Fd (Y1 hw hx2)) (a1' rfl (G' 2 rfl (AG.x hC rfl rfl (fun hg=>⟨hg,hg,trivial⟩) (fun hw=>⟨I1 (Y1 hw hx3),F3 (Y1 hw hx3)⟩) ?_))))))))
  refine AG.c rfl rfl (fun hg=>⟨hg,trivial⟩) (fun hw=>Qg (Y1 hw hx4)) (pO' rfl (pa' rfl (an' (n' (ci' rfl hh (fun hh=>?_) (fun hh=>?_))))))
  ·exact sk' (bk' (T' rfl (lw' (ih0 _ _ hh) rfl rfl rfl)))
  cases hh
  exact ex' (t' rfl (re' (rt' rfl rfl rfl)))
theorem Cv {s atV1 res}(hh:D8 s atV1=some res):Um s atV1 res:=(Et s) _ _ hh
def Qd (s:Str)(atV:Int):Option Int:=
 D8 s atV
theorem Hq {s atV res}(hh:Qd s atV=some res):K0 C 103 [.d (.str s),.d (.int .i64 atV)] [] (Ret [] (.d (.int .i64 res))):=by
 unfold Qd at hh
 exact K0.intro hC Tryz.func103 rfl rfl rfl (t' rfl (S' (bk' (fw' (Cv hh) rfl rfl rfl))))
def I4 (s:Str)(i1:Int):Option Bool:=
 if (decide ((IntKind.i64.wrap ((IntKind.i64.wrap (i1+((s).length:Int)))+2))≤162))=true then
  slc [32,116,121,112,101,32,115,101,99,114,101,116,32,112,117,98,108,105,99,32,114,97,110,100,111,109,32,118,97,114,32,104,97,116,99,104,32,102,117,110,99,32,114,101,116,117,114,110,32,98,101,103,105,110,32,101,110,100,32,98,111,111,108,32,105,110,116,32,97,114,114,97,121,32,111,102,32,114,101,99,111,114,100,32,116,114,117,101,32,102,97,108,115,101,32,99,97,108,108,32,114,101,108,101,97,115,101,32,111,117,116,112,117,116,32,119,97,105,116,32,105,102,32,101,108,115,101,32,119,104,105,108,101,32,108,105,109,105,116,32,102,111,114,32,116,111,32,115,101,116,116,108,101,32,109,105,110,32,109,97,120,32] i1 (IntKind.i64.wrap ((IntKind.i64.wrap (i1+((s).length:Int)))+2))>>=fun x3=>
  if (decide (1+s.length≤maxLen))=true then
   if (decide (([32]++s).length+1≤maxLen))=true then
    if (x3 == (([32]++s)++[32]))=true then
     some true
    else
     I4 s (IntKind.i64.wrap (i1+1))
   else none
  else none
 else
  some false
 partial_fixpoint
abbrev Dg (s:Str)(i1:Int)(res:Bool):Prop:=LM C 38 0 Tryz.f105 [1,1,1,0,1,4] [(0,.d (.str s)),(4,.d (.int .i64 i1))] [] (Ret [] (.d (.bool res)))
theorem Vm (s:Str):(∀ i1 res,I4 s i1=some res→Dg s i1 res):=by
 refine I4.partial_correctness s _ ?_
 ·intro g0 ih0 i1 res hh
  refine P0.unroll (S' (t' rfl (ci' rfl hh (fun hh=>?_) (fun hh=>?_))))
  ·obtain ⟨x3,hx3,hh⟩:=bs' hh
   obtain ⟨c9,hh⟩:=Ef hh
   obtain ⟨c10,hh⟩:=Ef hh
   refine sk' (S' (bk' (p' 6 rfl (D0.lx hC rfl hx3 (q' rfl (qc' rfl c9 (qc' rfl c10 (e' rfl (ci' rfl hh (fun hh=>?_) (fun hh=>?_))))))))))
   ·cases hh
    exact t' rfl (re' (rt' rfl rfl rfl))
   exact sk' (T' rfl (lw' (ih0 _ _ hh) rfl rfl rfl))
  cases hh
  exact ex' (t' rfl (re' (rt' rfl rfl rfl)))
theorem Vn {s i1 res}(hh:I4 s i1=some res):Dg s i1 res:=(Vm s) _ _ hh
def J4 (s:Str)(i:Int):Option Bool:=
 if (decide (i < ((s).length:Int)))=true then
  idx s i>>=fun x1=>
  O9 (x1.toNat:Int)>>=fun x2=>
  if (!x2)=true then
   some false
  else
   J4 s (IntKind.i64.wrap (i+1))
 else
  I4 s 0
 partial_fixpoint
abbrev Eg (s:Str)(i:Int)(res:Bool):Prop:=LM C 38 0 Tryz.f105 [1,1,0,1,4] [(0,.d (.str s)),(3,.d (.int .i64 i))] [] (Ret [] (.d (.bool res)))
theorem Wm (s:Str):(∀ i res,J4 s i=some res→Eg s i res):=by
 refine J4.partial_correctness s _ ?_
 ·intro g0 ih0 i res hh
  refine P0.unroll (S' (t' rfl (ci' rfl hh (fun hh=>?_) (fun hh=>?_))))
  ·obtain ⟨x1,hx1,hh⟩:=bs' hh
   obtain ⟨x2,hx2,hh⟩:=bs' hh
   refine sk' (S' (bk' (p' 2 rfl (x' rfl (I1 hx1) (F3 hx1) (c' (Fd hx2) rfl rfl (e' rfl (ci' rfl hh (fun hh=>?_) (fun hh=>?_))))))))
   ·cases hh
    exact t' rfl (re' (rt' rfl rfl rfl))
   exact sk' (T' rfl (lw' (ih0 _ _ hh) rfl rfl rfl))
  exact ex' (S' (t' rfl (bk' (fw' (Vn hh) rfl rfl rfl))))
theorem Wn {s i res}(hh:J4 s i=some res):Eg s i res:=(Wm s) _ _ hh
def G9 (s:Str):Option Bool:=
 if (((s).length:Int) == 0)=true then
  some false
 else
  J4 s 0
theorem Qi {s res}(hh:G9 s=some res):K0 C 105 [.d (.str s)] [] (Ret [] (.d (.bool res))):=by
 unfold G9 at hh
 refine K0.intro hC Tryz.func105 rfl rfl rfl (t' rfl (S' (t' rfl (ci' rfl hh (fun hh=>?_) (fun hh=>?_)))))
 ·cases hh
  exact t' rfl (re' (rt' rfl rfl rfl))
 exact sk' (S' (t' rfl (bk' (fw' (Wn hh) rfl rfl rfl))))
def Z3 (s:Str)(n:Int)(i1:Int):Option Int:=
 if (decide (i1 < ((s).length:Int)))=true then
  idx s i1>>=fun x4=>
  if (decide ((IntKind.i64.wrap ((IntKind.i64.wrap (n * 10))+(IntKind.i64.wrap (IntKind.u8.wrap ((x4.toNat:Int) - 48))))) > 1048576))=true then
   some 3
  else
   Z3 s (IntKind.i64.wrap ((IntKind.i64.wrap (n * 10))+(IntKind.i64.wrap (IntKind.u8.wrap ((x4.toNat:Int) - 48))))) (IntKind.i64.wrap (i1+1))
 else
  some 0
 partial_fixpoint
abbrev Ri (s:Str)(n:Int)(i1:Int)(res:Int):Prop:=LM C 41 0 Tryz.f107 [1,1,1,1,0,1,4] [(0,.d (.str s)),(3,.d (.int .i64 n)),(5,.d (.int .i64 i1))] [] (Ret [] (.d (.int .i64 res)))
theorem Xo (s:Str):(∀ n i1 res,Z3 s n i1=some res→Ri s n i1 res):=by
 refine Z3.partial_correctness s _ ?_
 ·intro g0 ih0 n i1 res hh
  refine P0.unroll (S' (t' rfl (ci' rfl hh (fun hh=>?_) (fun hh=>?_))))
  ·obtain ⟨x4,hx4,hh⟩:=bs' hh
   refine sk' (S' (bk' (p' 4 rfl (x' rfl (I1 hx4) (F3 hx4) (e' rfl (t' rfl (ci' rfl hh (fun hh=>?_) (fun hh=>?_))))))))
   ·cases hh
    exact t' rfl (re' (rt' rfl rfl rfl))
   exact sk' (T' rfl (lw' (ih0 _ _ _ hh) rfl rfl rfl))
  cases hh
  exact ex' (t' rfl (re' (rt' rfl rfl rfl)))
theorem Iq {s n i1 res}(hh:Z3 s n i1=some res):Ri s n i1 res:=(Xo s) _ _ _ hh
def O5 (s:Str)(i:Int):Option Int:=
 if (decide (i < ((s).length:Int)))=true then
  idx s i>>=fun x2=>
  Wc (x2.toNat:Int)>>=fun x3=>
  if (!x3)=true then
   some 6
  else
   O5 s (IntKind.i64.wrap (i+1))
 else
  Z3 s 0 0
 partial_fixpoint
abbrev Si (s:Str)(i:Int)(res:Int):Prop:=LM C 41 0 Tryz.f107 [1,1,1,0,1,4] [(0,.d (.str s)),(3,.d (.int .i64 0)),(4,.d (.int .i64 i))] [] (Ret [] (.d (.int .i64 res)))
theorem Yo (s:Str):(∀ i res,O5 s i=some res→Si s i res):=by
 refine O5.partial_correctness s _ ?_
 ·intro g0 ih0 i res hh
  refine P0.unroll (S' (t' rfl (ci' rfl hh (fun hh=>?_) (fun hh=>?_))))
  ·obtain ⟨x2,hx2,hh⟩:=bs' hh
   obtain ⟨x3,hx3,hh⟩:=bs' hh
   refine sk' (S' (bk' (p' 2 rfl (x' rfl (I1 hx2) (F3 hx2) (c' (Qg hx3) rfl rfl (e' rfl (ci' rfl hh (fun hh=>?_) (fun hh=>?_))))))))
   ·cases hh
    exact t' rfl (re' (rt' rfl rfl rfl))
   exact sk' (T' rfl (lw' (ih0 _ _ hh) rfl rfl rfl))
  exact ex' (S' (t' rfl (bk' (fw' (Iq hh) rfl rfl rfl))))
theorem Jq {s i res}(hh:O5 s i=some res):Si s i res:=(Yo s) _ _ hh
def Sd (s:Str):Option Int:=
 (if (decide (((s).length:Int) > 1))=true then idx s 0 else some default)>>=fun x1=>
 if (bif (decide (((s).length:Int) > 1)) then ((x1.toNat:Int) == 48) else false)=true then
  some 6
 else
  O5 s 0
theorem Dv {s res}(hh:Sd s=some res):K0 C 107 [.d (.str s)] [] (Ret [] (.d (.int .i64 res))):=by
 unfold Sd at hh
 obtain ⟨x1,hx1,hh⟩:=bs' hh
 refine K0.intro hC Tryz.func107 rfl rfl rfl (t' rfl (S' (sg' 8 rfl (G' 5 rfl (AG.x hC rfl rfl (fun hg=>⟨hg,trivial⟩) (fun hw=>⟨I1 (Y1 hw hx1),F3 (Y1 hw hx1)⟩) (a1' rfl (pa' rfl (an' (n' (ci' rfl hh (fun hh=>?_) (fun hh=>?_)))))))))))
 ·cases hh
  exact t' rfl (re' (rt' rfl rfl rfl))
 exact sk' (t' rfl (S' (t' rfl (bk' (fw' (Jq hh) rfl rfl rfl)))))
def A4 (s:Str)(v4:Bool):Option Bool:=
 if v4=true then
  some true
 else
  if (s == [59])=true then
   if (s == [59])=true then
    some true
   else
    some false
  else
   if (s == [58])=true then
    if (s == [58])=true then
     some true
    else
     some false
   else
    if (s == [44])=true then
     if (s == [44])=true then
      some true
     else
      some false
    else
     if (s == [46])=true then
      if (s == [46])=true then
       some true
      else
       some false
     else
      if (s == [61])=true then
       if (s == [61])=true then
        some true
       else
        some false
      else
       if (s == [43])=true then
        if (s == [43])=true then
         some true
        else
         some false
       else
        if (s == [45])=true then
         if (s == [45])=true then
          some true
         else
          some false
        else
         if (s == [42])=true then
          if (s == [42])=true then
           some true
          else
           some false
         else
          if (s == [47])=true then
           if (s == [47])=true then
            some true
           else
            some false
          else
           if (s == [37])=true then
            if (s == [37])=true then
             some true
            else
             some false
           else
            if (s == [60])=true then
             if (s == [60])=true then
              some true
             else
              some false
            else
             if (s == [62])=true then
              if (s == [62])=true then
               some true
              else
               some false
             else
              if (s == [33])=true then
               if (s == [33])=true then
                some true
               else
                some false
              else
               if (s == [63])=true then
                if (s == [63])=true then
                 some true
                else
                 some false
               else
                if (s == [40])=true then
                 if (s == [40])=true then
                  some true
                 else
                  some false
                else
                 if (s == [41])=true then
                  if (s == [41])=true then
                   some true
                  else
                   some false
                 else
                  if (s == [91])=true then
                   if (s == [91])=true then
                    some true
                   else
                    some false
                  else
                   if (s == [93])=true then
                    if (s == [93])=true then
                     some true
                    else
                     some false
                   else
                    if (s == [123])=true then
                     if (s == [123])=true then
                      some true
                     else
                      some false
                    else
                     if (s == [125])=true then
                      some true
                     else
                      some false
theorem E5 {s v4 res}(hh:A4 s v4=some res):JM C 33 0 Tryz.f108 [1,0,1,4,1] [(3,.d (.str s)),(4,.d (.bool v4))] [] (Ret [] (.d (.bool res))):=by
 unfold A4 at hh
 refine ci' rfl hh (fun hh=>?_) (fun hh=>?_)
 ·cases hh
  exact t' rfl (re' (rt' rfl rfl rfl))
 refine S' (t' rfl (ci' rfl hh (fun hh=>?_) (fun hh=>?_)))
 ·refine sk' (ci' rfl hh (fun hh=>?_) (fun hh=>?_))
  ·cases hh
   exact t' rfl (re' (rt' rfl rfl rfl))
  cases hh
  exact sk' (t' rfl (re' (rt' rfl rfl rfl)))
 refine t' rfl (ci' rfl hh (fun hh=>?_) (fun hh=>?_))
 ·refine sk' (ci' rfl hh (fun hh=>?_) (fun hh=>?_))
  ·cases hh
   exact t' rfl (re' (rt' rfl rfl rfl))
  cases hh
  exact sk' (t' rfl (re' (rt' rfl rfl rfl)))
 refine t' rfl (ci' rfl hh (fun hh=>?_) (fun hh=>?_))
 ·refine sk' (ci' rfl hh (fun hh=>?_) (fun hh=>?_))
  ·cases hh
   exact t' rfl (re' (rt' rfl rfl rfl))
  cases hh
  exact sk' (t' rfl (re' (rt' rfl rfl rfl)))
 refine t' rfl (ci' rfl hh (fun hh=>?_) (fun hh=>?_))
 ·refine sk' (ci' rfl hh (fun hh=>?_) (fun hh=>?_))
  ·cases hh
   exact t' rfl (re' (rt' rfl rfl rfl))
  cases hh
  exact sk' (t' rfl (re' (rt' rfl rfl rfl)))
 refine t' rfl (ci' rfl hh (fun hh=>?_) (fun hh=>?_))
 ·refine sk' (ci' rfl hh (fun hh=>?_) (fun hh=>?_))
  ·cases hh
   exact t' rfl (re' (rt' rfl rfl rfl))
  cases hh
  exact sk' (t' rfl (re' (rt' rfl rfl rfl)))
 refine t' rfl (ci' rfl hh (fun hh=>?_) (fun hh=>?_))
 ·refine sk' (ci' rfl hh (fun hh=>?_) (fun hh=>?_))
  ·cases hh
   exact t' rfl (re' (rt' rfl rfl rfl))
  cases hh
  exact sk' (t' rfl (re' (rt' rfl rfl rfl)))
 refine t' rfl (ci' rfl hh (fun hh=>?_) (fun hh=>?_))
 ·refine sk' (ci' rfl hh (fun hh=>?_) (fun hh=>?_))
  ·cases hh
   exact t' rfl (re' (rt' rfl rfl rfl))
  cases hh
  exact sk' (t' rfl (re' (rt' rfl rfl rfl)))
 refine t' rfl (ci' rfl hh (fun hh=>?_) (fun hh=>?_))
 ·refine sk' (ci' rfl hh (fun hh=>?_) (fun hh=>?_))
  ·cases hh
   exact t' rfl (re' (rt' rfl rfl rfl))
  cases hh
  exact sk' (t' rfl (re' (rt' rfl rfl rfl)))
 refine t' rfl (ci' rfl hh (fun hh=>?_) (fun hh=>?_))
 ·refine sk' (ci' rfl hh (fun hh=>?_) (fun hh=>?_))
  ·cases hh
   exact t' rfl (re' (rt' rfl rfl rfl))
  cases hh
  exact sk' (t' rfl (re' (rt' rfl rfl rfl)))
 refine t' rfl (ci' rfl hh (fun hh=>?_) (fun hh=>?_))
 ·refine sk' (ci' rfl hh (fun hh=>?_) (fun hh=>?_))
  ·cases hh
   exact t' rfl (re' (rt' rfl rfl rfl))
  cases hh
  exact sk' (t' rfl (re' (rt' rfl rfl rfl)))
 refine t' rfl (ci' rfl hh (fun hh=>?_) (fun hh=>?_))
 ·refine sk' (ci' rfl hh (fun hh=>?_) (fun hh=>?_))
  ·cases hh
   exact t' rfl (re' (rt' rfl rfl rfl))
  cases hh
  exact sk' (t' rfl (re' (rt' rfl rfl rfl)))
 refine t' rfl (ci' rfl hh (fun hh=>?_) (fun hh=>?_))
 ·refine sk' (ci' rfl hh (fun hh=>?_) (fun hh=>?_))
  ·cases hh
   exact t' rfl (re' (rt' rfl rfl rfl))
  cases hh
  exact sk' (t' rfl (re' (rt' rfl rfl rfl)))
 refine t' rfl (ci' rfl hh (fun hh=>?_) (fun hh=>?_))
 ·refine sk' (ci' rfl hh (fun hh=>?_) (fun hh=>?_))
  ·cases hh
   exact t' rfl (re' (rt' rfl rfl rfl))
  cases hh
  exact sk' (t' rfl (re' (rt' rfl rfl rfl)))
 refine t' rfl (ci' rfl hh (fun hh=>?_) (fun hh=>?_))
 ·refine sk' (ci' rfl hh (fun hh=>?_) (fun hh=>?_))
  ·cases hh
   exact t' rfl (re' (rt' rfl rfl rfl))
  cases hh
  exact sk' (t' rfl (re' (rt' rfl rfl rfl)))
 refine t' rfl (ci' rfl hh (fun hh=>?_) (fun hh=>?_))
 ·refine sk' (ci' rfl hh (fun hh=>?_) (fun hh=>?_))
  ·cases hh
   exact t' rfl (re' (rt' rfl rfl rfl))
  cases hh
  exact sk' (t' rfl (re' (rt' rfl rfl rfl)))
 refine t' rfl (ci' rfl hh (fun hh=>?_) (fun hh=>?_))
 ·refine sk' (ci' rfl hh (fun hh=>?_) (fun hh=>?_))
  ·cases hh
   exact t' rfl (re' (rt' rfl rfl rfl))
  cases hh
  exact sk' (t' rfl (re' (rt' rfl rfl rfl)))
 refine t' rfl (ci' rfl hh (fun hh=>?_) (fun hh=>?_))
 ·refine sk' (ci' rfl hh (fun hh=>?_) (fun hh=>?_))
  ·cases hh
   exact t' rfl (re' (rt' rfl rfl rfl))
  cases hh
  exact sk' (t' rfl (re' (rt' rfl rfl rfl)))
 refine t' rfl (ci' rfl hh (fun hh=>?_) (fun hh=>?_))
 ·refine sk' (ci' rfl hh (fun hh=>?_) (fun hh=>?_))
  ·cases hh
   exact t' rfl (re' (rt' rfl rfl rfl))
  cases hh
  exact sk' (t' rfl (re' (rt' rfl rfl rfl)))
 refine t' rfl (ci' rfl hh (fun hh=>?_) (fun hh=>?_))
 ·refine sk' (ci' rfl hh (fun hh=>?_) (fun hh=>?_))
  ·cases hh
   exact t' rfl (re' (rt' rfl rfl rfl))
  cases hh
  exact sk' (t' rfl (re' (rt' rfl rfl rfl)))
 refine T' rfl (ci' rfl hh (fun hh=>?_) (fun hh=>?_))
 ·cases hh
  exact t' rfl (re' (rt' rfl rfl rfl))
 cases hh
 exact sk' (t' rfl (re' (rt' rfl rfl rfl)))
def Y6 (s:Str):Option Bool:=
 if (s == [46,46])=true then
  A4 s (s == [46,46])
 else
  if (s == [61,61])=true then
   A4 s (s == [61,61])
  else
   if (s == [33,61])=true then
    A4 s (s == [33,61])
   else
    if (s == [60,61])=true then
     A4 s (s == [60,61])
    else
     if (s == [62,61])=true then
      A4 s (s == [62,61])
     else
      if (s == [38,38])=true then
       A4 s (s == [38,38])
      else
       A4 s (s == [124,124])
theorem Hl {s res}(hh:Y6 s=some res):K0 C 108 [.d (.str s)] [] (Ret [] (.d (.bool res))):=by
 unfold Y6 at hh
 refine K0.intro hC Tryz.func108 rfl rfl rfl (t' rfl (S' (t' rfl (bk' (S' (t' rfl (ci' rfl hh (fun hh=>?_) (fun hh=>?_))))))))
 ·exact sk' (ew' (E5 hh) rfl rfl rfl)
 refine t' rfl (ci' rfl hh (fun hh=>?_) (fun hh=>?_))
 ·exact sk' (ew' (E5 hh) rfl rfl rfl)
 refine t' rfl (ci' rfl hh (fun hh=>?_) (fun hh=>?_))
 ·exact sk' (ew' (E5 hh) rfl rfl rfl)
 refine t' rfl (ci' rfl hh (fun hh=>?_) (fun hh=>?_))
 ·exact sk' (ew' (E5 hh) rfl rfl rfl)
 refine t' rfl (ci' rfl hh (fun hh=>?_) (fun hh=>?_))
 ·exact sk' (ew' (E5 hh) rfl rfl rfl)
 refine t' rfl (ci' rfl hh (fun hh=>?_) (fun hh=>?_))
 ·exact sk' (ew' (E5 hh) rfl rfl rfl)
 exact T' rfl (ew' (E5 hh) rfl rfl rfl)
end Go.Proofs.YtmnhfbekncjnfaaGreatDoor

