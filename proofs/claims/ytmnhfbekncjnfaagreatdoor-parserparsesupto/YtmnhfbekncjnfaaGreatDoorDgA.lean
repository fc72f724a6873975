/- A part of the proof of ParserParses. -/
import Derived.Test.YtmnhfbekncjnfaaGreatDoorXxA
import Derived.Test.YtmnhfbekncjnfaaGreatDoorAmF
set_option maxRecDepth 100000
set_option maxHeartbeats 4000000
set_option synthInstance.maxSize 20000
set_option linter.unusedVariables false
namespace Go.Proofs.YtmnhfbekncjnfaaGreatDoor
open Go.Am
instance:Nonempty (O3 C):=⟨hC⟩
def estr.row (x:Str):Row:=[.str x]
def estr.rows (l:List Str):List Row:=l.map estr.row
theorem estr.rows_map (l:List Str):estr.rows l=l.map estr.row:=rfl
theorem estr.idx {l:List Str}{n:Int}{x:Str}(h:idx l n=some x):(estr.rows l)[n.toNat]?=some (estr.row x):=Eo estr.rows_map h
theorem estr.app (l m:List Str):estr.rows (l++m)=estr.rows l++estr.rows m:=Fo estr.rows_map l m
theorem estr.len (l:List Str):(estr.rows l).length=l.length:=Ho estr.rows_map l
theorem estr.lenA (l:List Str):A.d (.int .i64 ((estr.rows l).length:Nat))=A.d (.int .i64 (l.length:Nat)):=Sl estr.rows_map l
theorem estr.sz (l:List Str):∀ r∈estr.rows l,r.length=1:=Kr estr.rows_map (fun _=>rfl) l
def ei64.row (x:Int):Row:=[.int .i64 x]
def ei64.rows (l:List Int):List Row:=l.map ei64.row
theorem ei64.rows_map (l:List Int):ei64.rows l=l.map ei64.row:=rfl
theorem ei64.idx {l:List Int}{n:Int}{x:Int}(h:idx l n=some x):(ei64.rows l)[n.toNat]?=some (ei64.row x):=Eo ei64.rows_map h
theorem ei64.app (l m:List Int):ei64.rows (l++m)=ei64.rows l++ei64.rows m:=Fo ei64.rows_map l m
theorem ei64.len (l:List Int):(ei64.rows l).length=l.length:=Ho ei64.rows_map l
theorem ei64.lenA (l:List Int):A.d (.int .i64 ((ei64.rows l).length:Nat))=A.d (.int .i64 (l.length:Nat)):=Sl ei64.rows_map l
theorem ei64.sz (l:List Int):∀ r∈ei64.rows l,r.length=1:=Kr ei64.rows_map (fun _=>rfl) l
structure A0 where
 Op:Int
 NV:Int
 Name:Str
 Kids:List A0
def A0.zero:A0:=⟨0,0,[],[]⟩
instance:Inhabited A0:=⟨A0.zero⟩
mutual
def A0.rowX:A0→Row
 | .mk y0 y1 y2 y3=>[.int .i64 y0,.int .i64 y1,.str y2,.sl (A0.rowsX y3)]
def A0.rowsX:List A0→List Row
 | []=>[]
 | x::r=>A0.rowX x::A0.rowsX r
end
def A0.rows (l:List A0):List Row:=A0.rowsX l
def A0.row (x:A0):Row:=[.int .i64 x.Op,.int .i64 x.NV,.str x.Name,.sl (A0.rows x.Kids)]
theorem A0.rows_map:∀ l,A0.rows l=l.map A0.row
 | []=>rfl
 | x::r=>by
  show A0.rowX x::A0.rows r=A0.row x::r.map A0.row
  rw [A0.rows_map r]
  cases x
  rfl
def A0.cells (x:A0):List A:=[.d (.int .i64 x.Op),.d (.int .i64 x.NV),.d (.str x.Name),.d (.sl (A0.rows x.Kids))]
theorem A0.idx {l:List A0}{n:Int}{x:A0}(h:idx l n=some x):(A0.rows l)[n.toNat]?=some (A0.row x):=Eo A0.rows_map h
theorem A0.app (l m:List A0):A0.rows (l++m)=A0.rows l++A0.rows m:=Fo A0.rows_map l m
theorem A0.len (l:List A0):(A0.rows l).length=l.length:=Ho A0.rows_map l
theorem A0.lenA (l:List A0):A.d (.int .i64 ((A0.rows l).length:Nat))=A.d (.int .i64 (l.length:Nat)):=Sl A0.rows_map l
theorem A0.sz (l:List A0):∀ r∈A0.rows l,r.length=4:=Kr A0.rows_map (fun _=>rfl) l
structure K0 where
 Kind:Int
 Text:Str
 At:Int
def K0.zero:K0:=⟨0,[],0⟩
instance:Inhabited K0:=⟨K0.zero⟩
def K0.row (x:K0):Row:=[.int .i64 x.Kind,.str x.Text,.int .i64 x.At]
def K0.rows (l:List K0):List Row:=l.map K0.row
theorem K0.rows_map (l:List K0):K0.rows l=l.map K0.row:=rfl
def K0.cells (x:K0):List A:=[.d (.int .i64 x.Kind),.d (.str x.Text),.d (.int .i64 x.At)]
theorem K0.idx {l:List K0}{n:Int}{x:K0}(h:idx l n=some x):(K0.rows l)[n.toNat]?=some (K0.row x):=Eo K0.rows_map h
theorem K0.app (l m:List K0):K0.rows (l++m)=K0.rows l++K0.rows m:=Fo K0.rows_map l m
theorem K0.len (l:List K0):(K0.rows l).length=l.length:=Ho K0.rows_map l
theorem K0.lenA (l:List K0):A.d (.int .i64 ((K0.rows l).length:Nat))=A.d (.int .i64 (l.length:Nat)):=Sl K0.rows_map l
theorem K0.sz (l:List K0):∀ r∈K0.rows l,r.length=3:=Kr K0.rows_map (fun _=>rfl) l
structure B0 where
 tokens:List K0
 next:Int
 endV:Int
def B0.zero:B0:=⟨[],0,0⟩
instance:Inhabited B0:=⟨B0.zero⟩
def B0.cells (x:B0):List A:=[.d (.sl (K0.rows x.tokens)),.d (.int .i64 x.next),.d (.int .i64 x.endV)]
structure J0 where
 nodes:Int
 depth:Int
 badForm:Bool
 badName:Bool
 badNumber:Bool
def J0.zero:J0:=⟨0,0,false,false,false⟩
instance:Inhabited J0:=⟨J0.zero⟩
def J0.cells (x:J0):List A:=[.d (.int .i64 x.nodes),.d (.int .i64 x.depth),.d (.bool x.badForm),.d (.bool x.badName),.d (.bool x.badNumber)]
structure P0 where
 nodes:Int
 depth:Int
def P0.zero:P0:=⟨0,0⟩
instance:Inhabited P0:=⟨P0.zero⟩
def P0.cells (x:P0):List A:=[.d (.int .i64 x.nodes),.d (.int .i64 x.depth)]
structure I0 where
 Kind:Int
 Low:Int
 High:Int
 Size:Int
 Name:Str
 Names:List Str
 Of:List I0
def I0.zero:I0:=⟨0,0,0,0,[],[],[]⟩
instance:Inhabited I0:=⟨I0.zero⟩
mutual
def I0.rowX:I0→Row
 | .mk y0 y1 y2 y3 y4 y5 y6=>[.int .i64 y0,.int .i64 y1,.int .i64 y2,.int .i64 y3,.str y4,.sl (estr.rows y5),.sl (I0.rowsX y6)]
def I0.rowsX:List I0→List Row
 | []=>[]
 | x::r=>I0.rowX x::I0.rowsX r
end
def I0.rows (l:List I0):List Row:=I0.rowsX l
def I0.row (x:I0):Row:=[.int .i64 x.Kind,.int .i64 x.Low,.int .i64 x.High,.int .i64 x.Size,.str x.Name,.sl (estr.rows x.Names),.sl (I0.rows x.Of)]
theorem I0.rows_map:∀ l,I0.rows l=l.map I0.row
 | []=>rfl
 | x::r=>by
  show I0.rowX x::I0.rows r=I0.row x::r.map I0.row
  rw [I0.rows_map r]
  cases x
  rfl
def I0.cells (x:I0):List A:=[.d (.int .i64 x.Kind),.d (.int .i64 x.Low),.d (.int .i64 x.High),.d (.int .i64 x.Size),.d (.str x.Name),.d (.sl (estr.rows x.Names)),.d (.sl (I0.rows x.Of))]
theorem I0.idx {l:List I0}{n:Int}{x:I0}(h:idx l n=some x):(I0.rows l)[n.toNat]?=some (I0.row x):=Eo I0.rows_map h
theorem I0.app (l m:List I0):I0.rows (l++m)=I0.rows l++I0.rows m:=Fo I0.rows_map l m
theorem I0.len (l:List I0):(I0.rows l).length=l.length:=Ho I0.rows_map l
theorem I0.lenA (l:List I0):A.d (.int .i64 ((I0.rows l).length:Nat))=A.d (.int .i64 (l.length:Nat)):=Sl I0.rows_map l
theorem I0.sz (l:List I0):∀ r∈I0.rows l,r.length=7:=Kr I0.rows_map (fun _=>rfl) l
structure D0 where
 Verb:Int
 Place:A0
 Value:A0
 Name:Str
 Args:List A0
 NV:Int
 Low:Int
 High:Int
 Numbers:List Int
 Then:List D0
 Else:List D0
def D0.zero:D0:=⟨0,⟨0,0,[],[]⟩,⟨0,0,[],[]⟩,[],[],0,0,0,[],[],[]⟩
instance:Inhabited D0:=⟨D0.zero⟩
mutual
def D0.rowX:D0→Row
 | .mk y0 y1 y2 y3 y4 y5 y6 y7 y8 y9 y10=>[.int .i64 y0,.int .i64 y1.Op,.int .i64 y1.NV,.str y1.Name,.sl (A0.rows y1.Kids),.int .i64 y2.Op,.int .i64 y2.NV,.str y2.Name,.sl (A0.rows y2.Kids),.str y3,.sl (A0.rows y4),.int .i64 y5,.int .i64 y6,.int .i64 y7,.sl (ei64.rows y8),.sl (D0.rowsX y9),.sl (D0.rowsX y10)]
def D0.rowsX:List D0→List Row
 | []=>[]
 | x::r=>D0.rowX x::D0.rowsX r
end
def D0.rows (l:List D0):List Row:=D0.rowsX l
def D0.row (x:D0):Row:=[.int .i64 x.Verb,.int .i64 x.Place.Op,.int .i64 x.Place.NV,.str x.Place.Name,.sl (A0.rows x.Place.Kids),.int .i64 x.Value.Op,.int .i64 x.Value.NV,.str x.Value.Name,.sl (A0.rows x.Value.Kids),.str x.Name,.sl (A0.rows x.Args),.int .i64 x.NV,.int .i64 x.Low,.int .i64 x.High,.sl (ei64.rows x.Numbers),.sl (D0.rows x.Then),.sl (D0.rows x.Else)]
theorem D0.rows_map:∀ l,D0.rows l=l.map D0.row
 | []=>rfl
 | x::r=>by
  show D0.rowX x::D0.rows r=D0.row x::r.map D0.row
  rw [D0.rows_map r]
  cases x
  rfl
def D0.cells (x:D0):List A:=[.d (.int .i64 x.Verb),.d (.int .i64 x.Place.Op),.d (.int .i64 x.Place.NV),.d (.str x.Place.Name),.d (.sl (A0.rows x.Place.Kids)),.d (.int .i64 x.Value.Op),.d (.int .i64 x.Value.NV),.d (.str x.Value.Name),.d (.sl (A0.rows x.Value.Kids)),.d (.str x.Name),.d (.sl (A0.rows x.Args)),.d (.int .i64 x.NV),.d (.int .i64 x.Low),.d (.int .i64 x.High),.d (.sl (ei64.rows x.Numbers)),.d (.sl (D0.rows x.Then)),.d (.sl (D0.rows x.Else))]
theorem D0.idx {l:List D0}{n:Int}{x:D0}(h:idx l n=some x):(D0.rows l)[n.toNat]?=some (D0.row x):=Eo D0.rows_map h
theorem D0.app (l m:List D0):D0.rows (l++m)=D0.rows l++D0.rows m:=Fo D0.rows_map l m
theorem D0.len (l:List D0):(D0.rows l).length=l.length:=Ho D0.rows_map l
theorem D0.lenA (l:List D0):A.d (.int .i64 ((D0.rows l).length:Nat))=A.d (.int .i64 (l.length:Nat)):=Sl D0.rows_map l
theorem D0.sz (l:List D0):∀ r∈D0.rows l,r.length=17:=Kr D0.rows_map (fun _=>rfl) l
structure C0 where
 Kind:Int
 Name:Str
 TypeV:I0
 Init:Int
 Value:A0
 Params:List C0
 Vars:List C0
 Body:List D0
def C0.zero:C0:=⟨0,[],⟨0,0,0,0,[],[],[]⟩,0,⟨0,0,[],[]⟩,[],[],[]⟩
instance:Inhabited C0:=⟨C0.zero⟩
mutual
def C0.rowX:C0→Row
 | .mk y0 y1 y2 y3 y4 y5 y6 y7=>[.int .i64 y0,.str y1,.int .i64 y2.Kind,.int .i64 y2.Low,.int .i64 y2.High,.int .i64 y2.Size,.str y2.Name,.sl (estr.rows y2.Names),.sl (I0.rows y2.Of),.int .i64 y3,.int .i64 y4.Op,.int .i64 y4.NV,.str y4.Name,.sl (A0.rows y4.Kids),.sl (C0.rowsX y5),.sl (C0.rowsX y6),.sl (D0.rows y7)]
def C0.rowsX:List C0→List Row
 | []=>[]
 | x::r=>C0.rowX x::C0.rowsX r
end
def C0.rows (l:List C0):List Row:=C0.rowsX l
def C0.row (x:C0):Row:=[.int .i64 x.Kind,.str x.Name,.int .i64 x.TypeV.Kind,.int .i64 x.TypeV.Low,.int .i64 x.TypeV.High,.int .i64 x.TypeV.Size,.str x.TypeV.Name,.sl (estr.rows x.TypeV.Names),.sl (I0.rows x.TypeV.Of),.int .i64 x.Init,.int .i64 x.Value.Op,.int .i64 x.Value.NV,.str x.Value.Name,.sl (A0.rows x.Value.Kids),.sl (C0.rows x.Params),.sl (C0.rows x.Vars),.sl (D0.rows x.Body)]
theorem C0.rows_map:∀ l,C0.rows l=l.map C0.row
 | []=>rfl
 | x::r=>by
  show C0.rowX x::C0.rows r=C0.row x::r.map C0.row
  rw [C0.rows_map r]
  cases x
  rfl
def C0.cells (x:C0):List A:=[.d (.int .i64 x.Kind),.d (.str x.Name),.d (.int .i64 x.TypeV.Kind),.d (.int .i64 x.TypeV.Low),.d (.int .i64 x.TypeV.High),.d (.int .i64 x.TypeV.Size),.d (.str x.TypeV.Name),.d (.sl (estr.rows x.TypeV.Names)),.d (.sl (I0.rows x.TypeV.Of)),.d (.int .i64 x.Init),.d (.int .i64 x.Value.Op),.d (.int .i64 x.Value.NV),.d (.str x.Value.Name),.d (.sl (A0.rows x.Value.Kids)),.d (.sl (C0.rows x.Params)),.d (.sl (C0.rows x.Vars)),.d (.sl (D0.rows x.Body))]
theorem C0.idx {l:List C0}{n:Int}{x:C0}(h:idx l n=some x):(C0.rows l)[n.toNat]?=some (C0.row x):=Eo C0.rows_map h
theorem C0.app (l m:List C0):C0.rows (l++m)=C0.rows l++C0.rows m:=Fo C0.rows_map l m
theorem C0.len (l:List C0):(C0.rows l).length=l.length:=Ho C0.rows_map l
theorem C0.lenA (l:List C0):A.d (.int .i64 ((C0.rows l).length:Nat))=A.d (.int .i64 (l.length:Nat)):=Sl C0.rows_map l
theorem C0.sz (l:List C0):∀ r∈C0.rows l,r.length=17:=Kr C0.rows_map (fun _=>rfl) l
structure A1 where
 Decls:List C0
 Body:List D0
def A1.zero:A1:=⟨[],[]⟩
instance:Inhabited A1:=⟨A1.zero⟩
def A1.cells (x:A1):List A:=[.d (.sl (C0.rows x.Decls)),.d (.sl (D0.rows x.Body))]
structure A3 where
 place:Bool
 value:Bool
 name:Bool
 args:Bool
 n:Bool
 bounds:Bool
 numbers:Bool
 thenV:Bool
 other:Bool
def A3.zero:A3:=⟨false,false,false,false,false,false,false,false,false⟩
instance:Inhabited A3:=⟨A3.zero⟩
def A3.cells (x:A3):List A:=[.d (.bool x.place),.d (.bool x.value),.d (.bool x.name),.d (.bool x.args),.d (.bool x.n),.d (.bool x.bounds),.d (.bool x.numbers),.d (.bool x.thenV),.d (.bool x.other)]
end Go.Proofs.YtmnhfbekncjnfaaGreatDoor

set_option maxRecDepth 100000
set_option maxHeartbeats 4000000
set_option synthInstance.maxSize 20000
set_option linter.unusedVariables false
namespace Go.Proofs.YtmnhfbekncjnfaaGreatDoor
open Go.Am
def Sb (c:Int):Option Bool:=
 some (bif (decide (c≥97)) then (decide (c≤122)) else false)
theorem Fn {c res}(hh:Sb c=some res):O0 C 160 [.d (.int .u8 c)] [] (Ret [] (.d (.bool res))):=by
 unfold Sb at hh
 cases hh
 exact O0.intro hC Tryz.func160 rfl rfl rfl (t' rfl (sg' 7 rfl (G' 4 rfl (a1' rfl (pa' rfl (a0' rfl (an' (n' (re' (rt' rfl rfl rfl))))))))))
def M9 (c:Int):Option Bool:=
 some (bif (decide (c≥48)) then (decide (c≤57)) else false)
theorem Dk {c res}(hh:M9 c=some res):O0 C 163 [.d (.int .u8 c)] [] (Ret [] (.d (.bool res))):=by
 unfold M9 at hh
 cases hh
 exact O0.intro hC Tryz.func163 rfl rfl rfl (t' rfl (sg' 7 rfl (G' 4 rfl (a1' rfl (pa' rfl (a0' rfl (an' (n' (re' (rt' rfl rfl rfl))))))))))
def W8 (s:Str)(i1:Int):Option Int:=
 (if (decide (i1 < ((s).length:Int)))=true then idx s i1 else some default)>>=fun x1=>
 (if (decide (i1 < ((s).length:Int)))=true then Sb (x1.toNat:Int) else some default)>>=fun x2=>
 (if ((decide (i1 < ((s).length:Int)))&&(!x2))=true then idx s i1 else some default)>>=fun x3=>
 (if ((decide (i1 < ((s).length:Int)))&&(!x2))=true then M9 (x3.toNat:Int) else some default)>>=fun x4=>
 if (bif (decide (i1 < ((s).length:Int))) then (bif x2 then true else x4) else false)=true then
  W8 s (IntKind.i64.wrap (i1+1))
 else
  some i1
 partial_fixpoint
abbrev J10 (s:Str)(i1:Int)(res:Int):Prop:=LM C 24 0 Tryz.f161 [1,0,4] [(0,.d (.str s)),(1,.d (.int .i64 i1))] [] (Ret [] (.d (.int .i64 res)))
theorem U19 (s:Str):(∀ i1 res,W8 s i1=some res→J10 s i1 res):=by
 refine W8.partial_correctness s _ ?_
 ·intro g0 ih0 i1 res hh
  obtain ⟨x1,hx1,hh⟩:=bs' hh
  obtain ⟨x2,hx2,hh⟩:=bs' hh
  obtain ⟨x3,hx3,hh⟩:=bs' hh
  obtain ⟨x4,hx4,hh⟩:=bs' hh
  refine W0.unroll (S' (sg' 16 rfl (G' 7 rfl (AG.x hC rfl rfl (fun hg=>⟨hg,hg,trivial⟩) (fun hw=>⟨C1 (E1 hw hx1),H5 (E1 hw hx1)⟩) (AG.c rfl rfl (fun hg=>⟨hg,trivial⟩) (fun hw=>Fn (E1 hw hx2)) (a1' rfl (G' 2 rfl (AG.x hC rfl rfl (fun hg=>⟨hg,hg,trivial⟩) (fun hw=>⟨C1 (E1 hw hx3),H5 (E1 hw hx3)⟩) ?_))))))))
  refine AG.c rfl rfl (fun hg=>⟨hg,trivial⟩) (fun hw=>Dk (E1 hw hx4)) (pO' rfl (pa' rfl (an' (n' (ci' rfl hh (fun hh=>?_) (fun hh=>?_))))))
  ·exact sk' (bk' (T' rfl (lw' (ih0 _ _ hh) rfl rfl rfl)))
  cases hh
  exact ex' (t' rfl (re' (rt' rfl rfl rfl)))
theorem U1b {s i1 res}(hh:W8 s i1=some res):J10 s i1 res:=(U19 s) _ _ hh
def Tl (s:Str)(i:Int):Option Int:=
 W8 s i
theorem I16 {s i res}(hh:Tl s i=some res):O0 C 161 [.d (.str s),.d (.int .i64 i)] [] (Ret [] (.d (.int .i64 res))):=by
 unfold Tl at hh
 exact O0.intro hC Tryz.func161 rfl rfl rfl (t' rfl (S' (bk' (fw' (U1b hh) rfl rfl rfl))))
def Q9 (word:Str):Option Bool:=
 (if (!(word == []))=true then Ck word [32] else some default)>>=fun x1=>
 if (!(bif (!(word == [])) then (!x1) else false)||(decide (1+word.length≤maxLen)))=true then
  if (!(bif (!(word == [])) then (!x1) else false)||(decide (([32]++word).length+1≤maxLen)))=true then
   (if (bif (!(word == [])) then (!x1) else false)=true then Ck [32,116,121,112,101,32,115,101,99,114,101,116,32,112,117,98,108,105,99,32,114,97,110,100,111,109,32,118,97,114,32,104,97,116,99,104,32,102,117,110,99,32,114,101,116,117,114,110,32,98,101,103,105,110,32,101,110,100,32,98,111,111,108,32,105,110,116,32,97,114,114,97,121,32,111,102,32,114,101,99,111,114,100,32,116,114,117,101,32,102,97,108,115,101,32,99,97,108,108,32,114,101,108,101,97,115,101,32,111,117,116,112,117,116,32,119,97,105,116,32,105,102,32,101,108,115,101,32,119,104,105,108,101,32,108,105,109,105,116,32,102,111,114,32,116,111,32,115,101,116,116,108,101,32,109,105,110,32,109,97,120,32] (([32]++word)++[32]) else some default)>>=fun x2=>
   some (bif (bif (!(word == [])) then (!x1) else false) then x2 else false)
  else none
 else none
theorem Ru {word res}(hh:Q9 word=some res):O0 C 162 [.d (.str word)] [] (Ret [] (.d (.bool res))):=by
 unfold Q9 at hh
 obtain ⟨x1,hx1,hh⟩:=bs' hh
 obtain ⟨c7,hh⟩:=D1h hh
 obtain ⟨c8,hh⟩:=D1h hh
 obtain ⟨x2,hx2,hh⟩:=bs' hh
 cases hh
 refine O0.intro hC Tryz.func162 rfl rfl rfl (t' rfl (sg' 14 rfl (G' 4 rfl (AG.c rfl rfl (fun hg=>⟨hg,trivial⟩) (fun hw=>Z13 (E1 hw hx1)) (a1' rfl (pa' rfl (G' 2 rfl (ag' rfl (fun hg=>⟨⟨hg,trivial⟩,(c7 hg)⟩) (ag' rfl (fun hg=>⟨⟨hg,trivial⟩,(c8 hg)⟩) (AG.c rfl rfl (fun hg=>⟨hg,trivial⟩) (fun hw=>Z13 (E1 hw hx2)) (pa' rfl (a0' rfl (an' ?_)))))))))))))
 exact n' (re' (rt' rfl rfl rfl))
def I5 (s:Str)(n:Int)(v7:Int):Option Int:=
 if (decide (v7 < ((s).length:Int)))=true then
  idx s v7>>=fun x1=>
  M9 (x1.toNat:Int)>>=fun x2=>
  if (!x2)=true then
   some 6
  else
   idx s v7>>=fun x3=>
   I5 s (min (IntKind.i64.wrap ((IntKind.i64.wrap (10 * n))+(IntKind.i64.wrap (IntKind.u8.wrap ((x3.toNat:Int) - 48))))) 1048577) (IntKind.i64.wrap (v7+1))
 else
  idx s 0>>=fun x4=>
  if (bif ((x4.toNat:Int) == 48) then (decide (((s).length:Int) > 1)) else false)=true then
   some 6
  else
   if (decide (n > 1048576))=true then
    some 3
   else
    some 0
 partial_fixpoint
abbrev Su (s:Str)(n:Int)(v7:Int)(res:Int):Prop:=LM C 37 0 Tryz.f164 [1,1,0,1,4] [(0,.d (.str s)),(3,.d (.int .i64 n)),(6,.d (.int .i64 ((s).length:Int))),(7,.d (.int .i64 v7))] [] (Ret [] (.d (.int .i64 res)))
theorem H14 (s:Str):(∀ n v7 res,I5 s n v7=some res→Su s n v7 res):=by
 refine I5.partial_correctness s _ ?_
 ·intro g0 ih0 n v7 res hh
  refine W0.unroll (t' rfl (S' (ci' rfl hh (fun hh=>?_) (fun hh=>?_))))
  ·obtain ⟨x1,hx1,hh⟩:=bs' hh
   obtain ⟨x2,hx2,hh⟩:=bs' hh
   refine sk' (S' (bk' (t' rfl (S' (p' 2 rfl (x' rfl (C1 hx1) (H5 hx1) (c' (Dk hx2) rfl rfl (e' rfl (ci' rfl hh (fun hh=>?_) (fun hh=>?_))))))))))
   ·cases hh
    exact t' rfl (re' (rt' rfl rfl rfl))
   obtain ⟨x3,hx3,hh⟩:=bs' hh
   exact sk' (P' 4 rfl (x' rfl (C1 hx3) (H5 hx3) (e' rfl (T' rfl (lw' (ih0 _ _ _ hh) rfl rfl rfl)))))
  obtain ⟨x4,hx4,hh⟩:=bs' hh
  refine ex' (S' (bk' (sg' 9 rfl (a0' rfl (AG.x hC rfl rfl (fun _=>trivial) (fun hw=>⟨C1 hx4,H5 hx4⟩) (G' 3 rfl (a1' rfl (a1' rfl (pa' rfl (a0' rfl (an' (n' (ci' rfl hh (fun hh=>?_) (fun hh=>?_))))))))))))))
  ·cases hh
   exact t' rfl (re' (rt' rfl rfl rfl))
  refine t' rfl (ci' rfl hh (fun hh=>?_) (fun hh=>?_))
  ·cases hh
   exact t' rfl (re' (rt' rfl rfl rfl))
  cases hh
  exact sk' (t' rfl (re' (rt' rfl rfl rfl)))
theorem J16 {s n v7 res}(hh:I5 s n v7=some res):Su s n v7 res:=(H14 s) _ _ _ hh
def Qi (s:Str):Option Int:=
 I5 s 0 0
theorem V1b {s res}(hh:Qi s=some res):O0 C 164 [.d (.str s)] [] (Ret [] (.d (.int .i64 res))):=by
 unfold Qi at hh
 exact O0.intro hC Tryz.func164 rfl rfl rfl (t' rfl (t' rfl (S' (t' rfl (bk' (fw' (J16 hh) rfl rfl rfl))))))
def Gd (s:Str):Option Str:=
 idx s 0>>=fun x3=>
 Ms [59,58,44,46,61,43,45,42,47,37,60,62,33,63,40,41,91,93,123,125] (x3.toNat:Int)>>=fun x4=>
 if (decide (x4≥0))=true then
  slc s 0 1>>=fun x5=>
  some x5
 else
  some []
theorem Kw {s res}(hh:Gd s=some res):JM C 24 0 Tryz.f165 [1,1] [(0,.d (.str s))] [] (Ret [] (.d (.str res))):=by
 unfold Gd at hh
 obtain ⟨x3,hx3,hh⟩:=bs' hh
 obtain ⟨x4,hx4,hh⟩:=bs' hh
 refine S' (p' 1 rfl (x' rfl (C1 hx3) (H5 hx3) (c' (N1d hx4) rfl rfl (e' rfl (ci' rfl hh (fun hh=>?_) (fun hh=>?_))))))
 ·obtain ⟨x5,hx5,hh⟩:=bs' hh
  cases hh
  exact p' 1 rfl (F0.lx hC rfl hx5 (e' rfl (re' (rt' rfl rfl rfl))))
 cases hh
 exact sk' (t' rfl (re' (rt' rfl rfl rfl)))
def O6 (s:Str)(v8:Bool):Option Str:=
 if v8=true then
  slc s 0 2>>=fun x2=>
  some x2
 else
  Gd s
theorem Mb {s v8 res}(hh:O6 s v8=some res):JM C 24 0 Tryz.f165 [1,0,1,2,1,4,1] [(0,.d (.str s)),(8,.d (.bool v8))] [] (Ret [] (.d (.str res))):=by
 unfold O6 at hh
 refine ci' rfl hh (fun hh=>?_) (fun hh=>?_)
 ·obtain ⟨x2,hx2,hh⟩:=bs' hh
  cases hh
  exact p' 1 rfl (F0.lx hC rfl hx2 (e' rfl (re' (rt' rfl rfl rfl))))
 exact sk' (ew' (Kw hh) rfl rfl rfl)
def Qf (s:Str):Option Str:=
 if (decide (((s).length:Int)≥2))=true then
  slc s 0 2>>=fun x1=>
  if (x1 == [46,46])=true then
   O6 s (x1 == [46,46])
  else
   if (x1 == [61,61])=true then
    O6 s (x1 == [61,61])
   else
    if (x1 == [33,61])=true then
     O6 s (x1 == [33,61])
    else
     if (x1 == [60,61])=true then
      O6 s (x1 == [60,61])
     else
      if (x1 == [62,61])=true then
       O6 s (x1 == [62,61])
      else
       if (x1 == [38,38])=true then
        O6 s (x1 == [38,38])
       else
        O6 s (x1 == [124,124])
 else
  Gd s
theorem Y1f {s res}(hh:Qf s=some res):O0 C 165 [.d (.str s)] [] (Ret [] (.d (.str res))):=by
 unfold Qf at hh
 refine O0.intro hC Tryz.func165 rfl rfl rfl (t' rfl (S' (t' rfl (ci' rfl hh (fun hh=>?_) (fun hh=>?_)))))
 ·obtain ⟨x1,hx1,hh⟩:=bs' hh
  refine p' 1 rfl (F0.lx hC rfl hx1 (n' (bk' (S' (t' rfl (ci' rfl hh (fun hh=>?_) (fun hh=>?_)))))))
  ·exact sk' (ew' (Mb hh) rfl rfl rfl)
  refine t' rfl (ci' rfl hh (fun hh=>?_) (fun hh=>?_))
  ·exact sk' (ew' (Mb hh) rfl rfl rfl)
  refine t' rfl (ci' rfl hh (fun hh=>?_) (fun hh=>?_))
  ·exact sk' (ew' (Mb hh) rfl rfl rfl)
  refine t' rfl (ci' rfl hh (fun hh=>?_) (fun hh=>?_))
  ·exact sk' (ew' (Mb hh) rfl rfl rfl)
  refine t' rfl (ci' rfl hh (fun hh=>?_) (fun hh=>?_))
  ·exact sk' (ew' (Mb hh) rfl rfl rfl)
  refine t' rfl (ci' rfl hh (fun hh=>?_) (fun hh=>?_))
  ·exact sk' (ew' (Mb hh) rfl rfl rfl)
  exact T' rfl (ew' (Mb hh) rfl rfl rfl)
 exact sk' (ew' (Kw hh) rfl rfl rfl)
def Mh (s:Str)(i:Int):Option (K0×Int):=
 idx s i>>=fun x1=>
 Sb (x1.toNat:Int)>>=fun x2=>
 if x2=true then
  Tl s i>>=fun x3=>
  slc s i x3>>=fun x4=>
  Q9 x4>>=fun x5=>
  if x5=true then
   some ((K0.mk 2 x4 i),0)
  else
   if (decide (((x4).length:Int) > 12))=true then
    some ((K0.mk 0 x4 i),7)
   else
    some ((K0.mk 0 x4 i),0)
 else
  M9 (x1.toNat:Int)>>=fun x6=>
  if x6=true then
   Tl s i>>=fun x7=>
   slc s i x7>>=fun x8=>
   Qi x8>>=fun x9=>
   some ((K0.mk 1 x8 i),x9)
  else
   slc s i ((s).length:Int)>>=fun x10=>
   Qf x10>>=fun x11=>
   if (x11 == [])=true then
    some ((K0.mk 3 x11 i),6)
   else
    some ((K0.mk 3 x11 i),0)
theorem Z1f {s i res}(hh:Mh s i=some res):O0 C 109 [.d (.str s),.d (.int .i64 i)] [] (Ret [] (.tup [.agg (K0.cells res.1),.d (.int .i64 res.2)])):=by
 unfold Mh at hh
 obtain ⟨x1,hx1,hh⟩:=bs' hh
 obtain ⟨x2,hx2,hh⟩:=bs' hh
 refine O0.intro hC Tryz.func109 rfl rfl rfl (s' rfl rfl (F0.n hC rfl (e' rfl (p' 2 rfl (F0.n hC rfl (F0.s hC rfl (n' (S' (p' 2 rfl (x' rfl (C1 hx1) (H5 hx1) (e' rfl (bk' (p' 1 rfl ?_)))))))))))))
 refine c' (Fn hx2) rfl rfl (e' rfl (ci' rfl hh (fun hh=>?_) (fun hh=>?_)))
 ·obtain ⟨x3,hx3,hh⟩:=bs' hh
  obtain ⟨x4,hx4,hh⟩:=bs' hh
  obtain ⟨x5,hx5,hh⟩:=bs' hh
  refine p' 4 rfl (c' (I16 hx3) rfl rfl (F0.lx hC rfl hx4 (q' rfl (F0.s hC rfl (n' (p' 2 rfl (c' (Ru hx5) rfl rfl (n' (ci' rfl hh (fun hh=>?_) (fun hh=>?_))))))))))
  ·cases hh
   exact P' 1 rfl (F0.s hC rfl (n' (p' 1 rfl (F0.s hC rfl (e' rfl (re' (rt' rfl rfl rfl)))))))
  refine t' rfl (ci' rfl hh (fun hh=>?_) (fun hh=>?_))
  ·cases hh
   exact p' 1 rfl (F0.s hC rfl (e' rfl (re' (rt' rfl rfl rfl))))
  cases hh
  exact sk' (p' 1 rfl (F0.s hC rfl (e' rfl (re' (rt' rfl rfl rfl)))))
 obtain ⟨x6,hx6,hh⟩:=bs' hh
 refine p' 1 rfl (c' (Dk hx6) rfl rfl (e' rfl (ci' rfl hh (fun hh=>?_) (fun hh=>?_))))
 ·obtain ⟨x7,hx7,hh⟩:=bs' hh
  obtain ⟨x8,hx8,hh⟩:=bs' hh
  obtain ⟨x9,hx9,hh⟩:=bs' hh
  cases hh
  refine p' 4 rfl (c' (I16 hx7) rfl rfl (F0.lx hC rfl hx8 (q' rfl (F0.s hC rfl (q' rfl (F0.s hC rfl (n' (S' (AEx.draw hC 4 rfl rfl rfl (O' 3 rfl (Qc' (V1b hx9) rfl rfl (Qn' (F0.s hC rfl ?_)))))))))))))
  exact e' rfl (re' (rt' rfl rfl rfl))
 obtain ⟨x10,hx10,hh⟩:=bs' hh
 obtain ⟨x11,hx11,hh⟩:=bs' hh
 refine p' 2 rfl (F0.lx hC rfl hx10 (c' (Y1f hx11) rfl rfl (q' rfl (F0.s hC rfl (q' rfl (F0.s hC rfl (n' (t' rfl (ci' rfl hh (fun hh=>?_) (fun hh=>?_))))))))))
 ·cases hh
  exact p' 1 rfl (F0.s hC rfl (e' rfl (re' (rt' rfl rfl rfl))))
 cases hh
 exact sk' (p' 1 rfl (F0.s hC rfl (e' rfl (re' (rt' rfl rfl rfl)))))
mutual
def F4 (s:Str)(out:List K0)(i:Int):Option (List K0×Int×Int):=
 if (decide (i < ((s).length:Int)))=true then
  idx s i>>=fun x1=>
  if ((x1.toNat:Int) == 32)=true then
   Ie s out i x1 ((x1.toNat:Int) == 32)
  else
   if ((x1.toNat:Int) == 9)=true then
    Ie s out i x1 ((x1.toNat:Int) == 9)
   else
    Ie s out i x1 ((x1.toNat:Int) == 10)
 else
  some (out,0,0)
 partial_fixpoint
def Ie (s:Str)(out1:List K0)(i1:Int)(x1:UInt8)(v19:Bool):Option (List K0×Int×Int):=
 if v19=true then
  F4 s out1 (IntKind.i64.wrap (i1+1))
 else
  if ((x1.toNat:Int) == 35)=true then
   Ab s out1 i1
  else
   Mh s i1>>=fun x2=>
   if (x2.2 != 0)=true then
    some ([],i1,x2.2)
   else
    if (decide ((out1.length+1) * 33≤140737488355328))=true then
     F4 s (out1++[x2.1]) (IntKind.i64.wrap (i1+((x2.1.Text).length:Int)))
    else none
 partial_fixpoint
def Ab (s:Str)(out2:List K0)(i2:Int):Option (List K0×Int×Int):=
 (if (decide (i2 < ((s).length:Int)))=true then idx s i2 else some default)>>=fun x3=>
 if (bif (decide (i2 < ((s).length:Int))) then ((x3.toNat:Int) != 10) else false)=true then
  Ab s out2 (IntKind.i64.wrap (i2+1))
 else
  F4 s out2 i2
 partial_fixpoint
end
abbrev K10 (s:Str)(out:List K0)(i:Int)(res:List K0×Int×Int):Prop:=LM C 59 0 Tryz.f57 [1,1,1,0,1,4] [(0,.d (.str s)),(5,.osl 0 (K0.rows out)),(6,.d (.int .i64 i))] [.tok 62 3] (Ret [] (.tup [.d (.sl (K0.rows res.1)),.d (.int .i64 res.2.1),.d (.int .i64 res.2.2)]))
abbrev O1d (s:Str)(out1:List K0)(i1:Int)(x1:UInt8)(v19:Bool)(res:List K0×Int×Int):Prop:=JM C 59 0 Tryz.f57 [1,1,1,0,1,4,5,1,4,0,1,4,1] [(0,.d (.str s)),(5,.osl 0 (K0.rows out1)),(6,.d (.int .i64 i1)),(18,.d (.int .u8 (x1.toNat:Int))),(19,.d (.bool v19))] [.tok 62 3] (Ret [] (.tup [.d (.sl (K0.rows res.1)),.d (.int .i64 res.2.1),.d (.int .i64 res.2.2)]))
abbrev P1d (s:Str)(out2:List K0)(i2:Int)(res:List K0×Int×Int):Prop:=LM C 59 0 Tryz.f57 [1,1,1,0,1,4,5,1,4,0,1,4,1,3,1,2,0,4] [(0,.d (.str s)),(5,.osl 0 (K0.rows out2)),(6,.d (.int .i64 i2))] [.tok 62 3] (Ret [] (.tup [.d (.sl (K0.rows res.1)),.d (.int .i64 res.2.1),.d (.int .i64 res.2.2)]))
theorem V19 (s:Str):(∀ out i res,F4 s out i=some res→K10 s out i res)∧(∀ out1 i1 x1 v19 res,Ie s out1 i1 x1 v19=some res→O1d s out1 i1 x1 v19 res)∧(∀ out2 i2 res,Ab s out2 i2=some res→P1d s out2 i2 res):=by
 refine F4.mutual_partial_correctness s _ _ _ ?_ ?_ ?_
 ·intro g1 ih1 out i res hh
  refine W0.unroll (S' (t' rfl (ci' rfl hh (fun hh=>?_) (fun hh=>?_))))
  ·obtain ⟨x1,hx1,hh⟩:=bs' hh
   refine sk' (bk' (S' (p' 2 rfl (x' rfl (C1 hx1) (H5 hx1) (n' (bk' (S' (t' rfl (ci' rfl hh (fun hh=>?_) (fun hh=>?_))))))))))
   ·exact sk' (ew' (ih1 _ _ _ _ _ hh) rfl rfl rfl)
   refine t' rfl (ci' rfl hh (fun hh=>?_) (fun hh=>?_))
   ·exact sk' (ew' (ih1 _ _ _ _ _ hh) rfl rfl rfl)
   exact T' rfl (ew' (ih1 _ _ _ _ _ hh) rfl rfl rfl)
  refine ex' (t' rfl (re' ?_))
  obtain rfl:=oi' hh
  exact ⟨_,.tup [.d (.sl (K0.rows out)),.d (.int .i64 0),.d (.int .i64 0)],[],rfl,(.tupL ⟨.osl,.rfl,.rfl,trivial⟩),trivial,rfl,rfl,rfl,rfl⟩
 ·intro g0 g2 ih0 ih2 out1 i1 x1 v19 res hh
  refine ci' rfl hh (fun hh=>?_) (fun hh=>?_)
  ·exact t' rfl (ex' (lw' (ih0 _ _ _ hh) rfl rfl rfl))
  refine t' rfl (ci' rfl hh (fun hh=>?_) (fun hh=>?_))
  ·exact S' (bk' (fw' (ih2 _ _ _ hh) rfl rfl rfl))
  obtain ⟨x2,hx2,hh⟩:=bs' hh
  refine sk' (p' 2 rfl (c' (Z1f hx2) rfl rfl (o' 3 rfl (F0.n hC rfl (F0.s hC rfl (e' rfl (S' (t' rfl (ci' rfl hh (fun hh=>?_) (fun hh=>?_))))))))))
  ·refine t' rfl (re' ?_)
   obtain rfl:=oi' hh
   exact ⟨_,.tup [.d (.sl (K0.rows [])),.d (.int .i64 i1),.d (.int .i64 x2.2)],[],rfl,(.tupL ⟨.full,.rfl,.rfl,trivial⟩),trivial,rfl,rfl,rfl,rfl⟩
  obtain ⟨c9,hh⟩:=I4 hh
  exact sk' (p' 2 rfl (F0.be hC rfl (K0.rows_map [x2.1]).symm (F0.ap hC rfl (rs:=K0.rows (out1++[x2.1])) (K0.app out1 [x2.1]) (K0.sz out1) (K0.sz [x2.1]) (P1 (K0.len out1) (K0.len [x2.1]) c9) (e' rfl (T' rfl (lw' (ih0 _ _ _ hh) rfl rfl rfl))))))
 ·intro g0 g2 ih0 ih2 out2 i2 res hh
  obtain ⟨x3,hx3,hh⟩:=bs' hh
  refine W0.unroll (S' (sg' 10 rfl (G' 7 rfl (AG.x hC rfl rfl (fun hg=>⟨hg,hg,trivial⟩) (fun hw=>⟨C1 (E1 hw hx3),H5 (E1 hw hx3)⟩) (a1' rfl (pa' rfl (an' (n' (ci' rfl hh (fun hh=>?_) (fun hh=>?_))))))))))
  ·exact sk' (bk' (T' rfl (lw' (ih2 _ _ _ hh) rfl rfl rfl)))
  exact ex' (ex' (lw' (ih0 _ _ _ hh) rfl rfl rfl))
theorem W1b {s out i res}(hh:F4 s out i=some res):K10 s out i res:=(V19 s).1 _ _ _ hh
def Qj (s:Str):Option (List K0×Int×Int):=
 if (decide (((s).length:Int) > 8192))=true then
  some ([],0,5)
 else
  F4 s [] 0
theorem K16 {s res}(hh:Qj s=some res):O0 C 57 [.d (.str s)] [] (Ret [] (.tup [.d (.sl (K0.rows res.1)),.d (.int .i64 res.2.1),.d (.int .i64 res.2.2)])):=by
 unfold Qj at hh
 refine O0.intro hC Tryz.func57 rfl rfl rfl (t' rfl (S' (t' rfl (ci' rfl hh (fun hh=>?_) (fun hh=>?_)))))
 ·refine t' rfl (re' ?_)
  obtain rfl:=oi' hh
  exact ⟨_,.tup [.d (.sl (K0.rows [])),.d (.int .i64 0),.d (.int .i64 5)],[],rfl,(.tupL ⟨.full,.rfl,.rfl,trivial⟩),trivial,rfl,rfl,rfl,rfl⟩
 exact sk' (p' 1 rfl (F0.tokE 5 62 3 rfl (n' (S' (t' rfl (bk' (fw' (W1b hh) rfl rfl rfl)))))))
def X8 (text:Str)(parserParser:B0):Option Bool:=
 if (decide (parserParser.next≥((parserParser.tokens).length:Int)))=true then
  some false
 else
  idx parserParser.tokens parserParser.next>>=fun x1=>
  some (bif (x1.Text == text) then (bif (x1.Kind == 2) then true else (x1.Kind == 3)) else false)
theorem Nq {text parserParser res}(hh:X8 text parserParser=some res):O0 C 113 [.ref 0 0,.d (.str text)] [.row (B0.cells parserParser) 99] (Ret [.row (B0.cells parserParser) 99] (.d (.bool res))):=by
 unfold X8 at hh
 refine O0.intro hC Tryz.func113 rfl rfl rfl (t' rfl (S' (S' (AEx.draw hC 10 rfl rfl rfl (O' 8 rfl (AQ.qe hC rfl trivial (K0.lenA _) (E' rfl (n' (ci' rfl hh (fun hh=>?_) (fun hh=>?_))))))))))
 ·cases hh
  exact t' rfl (re' (rt' rfl rfl rfl))
 obtain ⟨x1,hx1,hh⟩:=bs' hh
 cases hh
 refine sk' (S' (AEx.drawL hC 11 [] [(10,1)] [[.row (B0.cells parserParser) 99,.row [.d (.int .i64 0),.d (.str []),.d (.int .i64 0)] 62]] rfl rfl rfl rfl rfl rfl rfl rfl rfl rfl (AS.q hC rfl rfl rfl rfl (AS.q hC rfl rfl rfl rfl (AS.q hC rfl rfl rfl rfl (AS.q hC rfl rfl rfl rfl (AS.q hC rfl rfl rfl rfl (AS.q hC rfl rfl rfl rfl (AS.q hC rfl rfl rfl rfl (AS.q hC rfl rfl rfl rfl ?_))))))))))
 refine AS.ix hC rfl (C1 hx1) (K0.idx hx1) rfl rfl rfl (AS.q hC rfl rfl rfl rfl (AS.n hC rfl rfl rfl rfl (AS.nil (F0.s hC rfl (n' (sg' 15 rfl (G' 6 rfl (a1' rfl (a1' rfl (a1' rfl (a0' rfl (a1' rfl (a1' rfl ?_)))))))))))))
 exact pO' rfl (pa' rfl (a0' rfl (an' (n' (re' (rt' rfl rfl rfl))))))
def R0 (text:Str)(parserParser:B0):Option (Bool×B0):=
 X8 text parserParser>>=fun x1=>
 if (!x1)=true then
  some (false,parserParser)
 else
  some (true,(B0.mk parserParser.tokens (IntKind.i64.wrap (parserParser.next+1)) parserParser.endV))
theorem S0 {text parserParser res}(hh:R0 text parserParser=some res):O0 C 61 [.ref 0 0,.d (.str text)] [.row (B0.cells parserParser) 99] (Ret [.row (B0.cells res.2) 99] (.d (.bool res.1))):=by
 unfold R0 at hh
 obtain ⟨x1,hx1,hh⟩:=bs' hh
 refine O0.intro hC Tryz.func61 rfl rfl rfl (t' rfl (S' (p' 2 rfl (g' [0] (Nq hx1) rfl rfl rfl rfl rfl rfl (e' rfl (ci' rfl hh (fun hh=>?_) (fun hh=>?_)))))))
 ·cases hh
  exact t' rfl (re' (rt' rfl rfl rfl))
 cases hh
 exact sk' (p' 7 rfl (F0.s hC rfl (n' (t' rfl (re' (rt' rfl rfl rfl))))))
def Z4 (parserParser:B0):Option Bool:=
 (if (decide (parserParser.next < ((parserParser.tokens).length:Int)))=true then idx parserParser.tokens parserParser.next else some default)>>=fun x1=>
 some (bif (decide (parserParser.next < ((parserParser.tokens).length:Int))) then (x1.Kind == 0) else false)
theorem Gh {parserParser res}(hh:Z4 parserParser=some res):O0 C 172 [.ref 0 0] [.row (B0.cells parserParser) 99] (Ret [.row (B0.cells parserParser) 99] (.d (.bool res))):=by
 unfold Z4 at hh
 obtain ⟨x1,hx1,hh⟩:=bs' hh
 cases hh
 refine O0.intro hC Tryz.func172 rfl rfl rfl (t' rfl (S' (AEx.drawG hC 25 rfl rfl rfl (G' 8 rfl (AG.qe hC rfl (fun hg=>⟨trivial,trivial⟩) (K0.lenA _) (G' 3 rfl (a1' rfl (a1' rfl (a1' rfl (a0' rfl (a1' rfl (a1' rfl (a1' rfl ?_)))))))))))))
 exact AG.i hC rfl rfl (fun hg=>⟨hg,hg,trivial⟩) (fun hw=>⟨C1 (E1 hw hx1),K0.idx (E1 hw hx1),rfl⟩) (a1' rfl (a1' rfl (a1' rfl (pa' rfl (a0' rfl (an' (n' (re' (rt' rfl rfl rfl)))))))))
def F5 (parserParser:B0):Option (Pn Unit):=
 if (decide (parserParser.next < ((parserParser.tokens).length:Int)))=true then
  idx parserParser.tokens parserParser.next>>=fun x1=>
  some (.pn x1.At)
 else
  some (.pn parserParser.endV)
theorem O5 {parserParser res}(hh:F5 parserParser=some res):E2 C 59 [.ref 0 0] [.row (B0.cells parserParser) 99] (R4 res (fun rr=>[.row (B0.cells parserParser) 99]) (fun rr=>.tup [])) (N4 res L3 [.row (B0.cells parserParser) 99]):=by
 unfold F5 at hh
 refine E2.intro hC Tryz.func59 rfl rfl rfl (t' rfl (S' (S' (AEx.draw hC 10 rfl rfl rfl (O' 8 rfl (AQ.qe hC rfl trivial (K0.lenA _) (E' rfl (n' (ci' rfl hh (fun hh=>?_) (fun hh=>?_))))))))))
 ·obtain ⟨x1,hx1,hh⟩:=bs' hh
  cases hh
  exact AEx.draw hC 12 rfl rfl rfl (O' 8 rfl (AQ.i hC rfl (C1 hx1) (K0.idx hx1) rfl (E' rfl (n' (P' 2 rfl (pn' hC rfl ((fun hi=>pe' rfl rfl hi))))))))
 cases hh
 exact sk' (P' 2 rfl (pn' hC rfl ((fun hi=>pe' rfl rfl hi))))
def P6 (parserParser:B0):Option (Pn (Str×B0)):=
 idx parserParser.tokens (IntKind.i64.wrap ((IntKind.i64.wrap (parserParser.next+1)) - 1))>>=fun x3=>
 some (.ok (x3.Text,(B0.mk parserParser.tokens (IntKind.i64.wrap (parserParser.next+1)) parserParser.endV)))
theorem Ul {parserParser res}(hh:P6 parserParser=some res):JMp C 51 1 Tryz.f132 [1,1] [(0,.ref 0 0)] [.row (B0.cells parserParser) 99] (R4 res (fun rr=>[.row (B0.cells rr.2) 99]) (fun rr=>.d (.str rr.1))) (N4 res L3 [.row (B0.cells parserParser) 99]):=by
 unfold P6 at hh
 obtain ⟨x3,hx3,hh⟩:=bs' hh
 cases hh
 exact p' 7 rfl (F0.s hC rfl (n' (S' (AEx.draw hC 13 rfl rfl rfl (O' 9 rfl (AQ.i hC rfl (C1 hx3) (K0.idx hx3) rfl (E' rfl (n' (re' (rt' rfl rfl rfl))))))))))
def Y6 (k:Int)(parserParser:B0):Option (Pn (Str×B0)):=
 (if (!(decide (parserParser.next≥((parserParser.tokens).length:Int))))=true then idx parserParser.tokens parserParser.next else some default)>>=fun x1=>
 if (bif (decide (parserParser.next≥((parserParser.tokens).length:Int))) then true else (x1.Kind != k))=true then
  F5 parserParser>>=fun x2=>match x2 with
  | .pn nn=>
  some (.pn nn)
  | .ok x2=>
  P6 parserParser
 else
  P6 parserParser
theorem Te {k parserParser res}(hh:Y6 k parserParser=some res):E2 C 132 [.ref 0 0,.d (.int .i64 k)] [.row (B0.cells parserParser) 99] (R4 res (fun rr=>[.row (B0.cells rr.2) 99]) (fun rr=>.d (.str rr.1))) (N4 res L3 [.row (B0.cells parserParser) 99]):=by
 unfold Y6 at hh
 obtain ⟨x1,hx1,hh⟩:=bs' hh
 refine E2.intro hC Tryz.func132 rfl rfl rfl (t' rfl (S' (S' (AEx.drawG hC 25 rfl rfl rfl (G' 8 rfl (AG.qe hC rfl (fun hg=>⟨trivial,trivial⟩) (K0.lenA _) (G' 3 rfl (a1' rfl (a1' rfl (a1' rfl (a0' rfl (a1' rfl (a1' rfl ?_)))))))))))))
 refine a1' rfl (AG.i hC rfl rfl (fun hg=>⟨hg,hg,trivial⟩) (fun hw=>⟨C1 (E1 hw hx1),K0.idx (E1 hw hx1),rfl⟩) (a1' rfl (a1' rfl (a0' rfl (a2' rfl (po' rfl (an' (n' (ci' rfl hh (fun hh=>?_) (fun hh=>?_))))))))))
 ·refine P' 1 rfl ?_
  rcases bp' hh with ⟨nn,hx2,⟨⟩⟩ | ⟨x2,hx2,hh⟩
  ·exact gn' [0] (O5 hx2) rfl rfl rfl rfl rfl (fun hi=>pe' rfl rfl hi)
  exact g' [0] ((O5 hx2).ok) rfl rfl rfl rfl rfl rfl (n' (ew' (Ul hh) rfl rfl rfl))
 exact sk' (ew' (Ul hh) rfl rfl rfl)
def X2 (parserParser:B0):Option (Pn (Str×B0)):=
 Y6 0 parserParser>>=fun x1=>match x1 with
 | .pn nn=>
 some (.pn nn)
 | .ok x1=>
 some (.ok (x1.1,x1.2))
theorem F1 {parserParser res}(hh:X2 parserParser=some res):E2 C 73 [.ref 0 0] [.row (B0.cells parserParser) 99] (R4 res (fun rr=>[.row (B0.cells rr.2) 99]) (fun rr=>.d (.str rr.1))) (N4 res L3 [.row (B0.cells parserParser) 99]):=by
 unfold X2 at hh
 refine E2.intro hC Tryz.func73 rfl rfl rfl (t' rfl (p' 1 rfl ?_))
 rcases bp' hh with ⟨nn,hx1,⟨⟩⟩ | ⟨x1,hx1,hh⟩
 ·exact gn' [0] (Te hx1) rfl rfl rfl rfl rfl (fun hi=>pe' rfl rfl hi)
 cases hh
 exact g' [0] ((Te hx1).ok) rfl rfl rfl rfl rfl rfl (e' rfl (re' (rt' rfl rfl rfl)))
def T0 (text:Str)(parserParser:B0):Option (Pn B0):=
 R0 text parserParser>>=fun x1=>
 if (!x1.1)=true then
  F5 x1.2>>=fun x2=>match x2 with
  | .pn nn=>
  some (.pn nn)
  | .ok x2=>
  some (.ok x1.2)
 else
  some (.ok x1.2)
theorem L0 {text parserParser res}(hh:T0 text parserParser=some res):E2 C 62 [.ref 0 0,.d (.str text)] [.row (B0.cells parserParser) 99] (R4 res (fun rr=>[.row (B0.cells rr) 99]) (fun rr=>.tup [])) (N4 res L3 [.dead]):=by
 unfold T0 at hh
 obtain ⟨x1,hx1,hh⟩:=bs' hh
 refine E2.intro hC Tryz.func62 rfl rfl rfl (p' 2 rfl (g' [0] (S0 hx1) rfl rfl rfl rfl rfl rfl (e' rfl (ci' rfl hh (fun hh=>?_) (fun hh=>?_)))))
 ·refine P' 1 rfl ?_
  rcases bp' hh with ⟨nn,hx2,⟨⟩⟩ | ⟨x2,hx2,hh⟩
  ·exact gn' [0] (O5 hx2) rfl rfl rfl rfl rfl (fun hi=>peW ⟨trivial,trivial⟩ rfl hi)
  cases hh
  exact g' [0] ((O5 hx2).ok) rfl rfl rfl rfl rfl rfl (n' (rn' rfl rfl rfl))
 cases hh
 exact sk' (rn' rfl rfl rfl)
def A5 (parserParser:B0):Option (Pn (Int×B0)):=
 Y6 1 parserParser>>=fun x1=>match x1 with
 | .pn nn=>
 some (.pn nn)
 | .ok x1=>
 I10 x1.1>>=fun x2=>
 some (.ok (x2,x1.2))
theorem F7 {parserParser res}(hh:A5 parserParser=some res):E2 C 131 [.ref 0 0] [.row (B0.cells parserParser) 99] (R4 res (fun rr=>[.row (B0.cells rr.2) 99]) (fun rr=>.d (.int .i64 rr.1))) (N4 res L3 [.row (B0.cells parserParser) 99]):=by
 unfold A5 at hh
 refine E2.intro hC Tryz.func131 rfl rfl rfl (t' rfl (p' 1 rfl ?_))
 rcases bp' hh with ⟨nn,hx1,⟨⟩⟩ | ⟨x1,hx1,hh⟩
 ·exact gn' [0] (Te hx1) rfl rfl rfl rfl rfl (fun hi=>pe' rfl rfl hi)
 obtain ⟨x2,hx2,hh⟩:=bs' hh
 cases hh
 exact g' [0] ((Te hx1).ok) rfl rfl rfl rfl rfl rfl (c' (K1n hx2) rfl rfl (e' rfl (t' rfl (re' (rt' rfl rfl rfl)))))
def R5 (parserParser:B0):Option (Int×Bool×B0):=
 R0 [42] parserParser>>=fun x1=>
 if x1.1=true then
  some (10,true,x1.2)
 else
  R0 [47] x1.2>>=fun x2=>
  if x2.1=true then
   some (11,true,x2.2)
  else
   R0 [37] x2.2>>=fun x3=>
   some (12,x3.1,x3.2)
theorem Ju {parserParser res}(hh:R5 parserParser=some res):O0 C 215 [.ref 0 0] [.row [.ref 1 0] 68,.row (B0.cells parserParser) 99] (Ret [.row [.ref 1 0] 68,.row (B0.cells res.2.2) 99] (.tup [.d (.int .i64 res.1),.d (.bool res.2.1)])):=by
 unfold R5 at hh
 obtain ⟨x1,hx1,hh⟩:=bs' hh
 refine O0.intro hC Tryz.func215 rfl rfl rfl (t' rfl (S' (bk' (p' 1 rfl (g' [1] (S0 hx1) rfl rfl rfl rfl rfl rfl (e' rfl (ci' rfl hh (fun hh=>?_) (fun hh=>?_))))))))
 ·cases hh
  exact t' rfl (re' (rt' rfl rfl rfl))
 obtain ⟨x2,hx2,hh⟩:=bs' hh
 refine p' 1 rfl (g' [1] (S0 hx2) rfl rfl rfl rfl rfl rfl (e' rfl (ci' rfl hh (fun hh=>?_) (fun hh=>?_))))
 ·cases hh
  exact t' rfl (re' (rt' rfl rfl rfl))
 obtain ⟨x3,hx3,hh⟩:=bs' hh
 cases hh
 exact sk' (p' 1 rfl (g' [1] (S0 hx3) rfl rfl rfl rfl rfl rfl (e' rfl (re' (rt' rfl rfl rfl)))))
def C8 (parserParser:B0):Option (Int×Bool×B0):=
 R0 [43] parserParser>>=fun x1=>
 if x1.1=true then
  some (8,true,x1.2)
 else
  R0 [45] x1.2>>=fun x2=>
  some (9,x2.1,x2.2)
theorem Zy {parserParser res}(hh:C8 parserParser=some res):O0 C 204 [.ref 0 0] [.row [.ref 1 0] 68,.row (B0.cells parserParser) 99] (Ret [.row [.ref 1 0] 68,.row (B0.cells res.2.2) 99] (.tup [.d (.int .i64 res.1),.d (.bool res.2.1)])):=by
 unfold C8 at hh
 obtain ⟨x1,hx1,hh⟩:=bs' hh
 refine O0.intro hC Tryz.func204 rfl rfl rfl (t' rfl (S' (p' 1 rfl (g' [1] (S0 hx1) rfl rfl rfl rfl rfl rfl (n' (ci' rfl hh (fun hh=>?_) (fun hh=>?_)))))))
 ·cases hh
  exact t' rfl (re' (rt' rfl rfl rfl))
 obtain ⟨x2,hx2,hh⟩:=bs' hh
 cases hh
 exact sk' (p' 1 rfl (g' [1] (S0 hx2) rfl rfl rfl rfl rfl rfl (e' rfl (re' (rt' rfl rfl rfl)))))
def D8 (parserParser:B0):Option (Int×Bool×B0):=
 R0 [38,38] parserParser>>=fun x1=>
 some (19,x1.1,x1.2)
theorem Az {parserParser res}(hh:D8 parserParser=some res):O0 C 167 [.ref 0 0] [.row [.ref 1 0] 68,.row (B0.cells parserParser) 99] (Ret [.row [.ref 1 0] 68,.row (B0.cells res.2.2) 99] (.tup [.d (.int .i64 res.1),.d (.bool res.2.1)])):=by
 unfold D8 at hh
 obtain ⟨x1,hx1,hh⟩:=bs' hh
 cases hh
 exact O0.intro hC Tryz.func167 rfl rfl rfl (t' rfl (p' 1 rfl (g' [1] (S0 hx1) rfl rfl rfl rfl rfl rfl (e' rfl (re' (rt' rfl rfl rfl))))))
def Y8 (parserParser:B0):Option (Int×Bool×B0):=
 R0 [124,124] parserParser>>=fun x1=>
 some (20,x1.1,x1.2)
theorem L10 {parserParser res}(hh:Y8 parserParser=some res):O0 C 112 [.ref 0 0] [.row [.ref 1 0] 68,.row (B0.cells parserParser) 99] (Ret [.row [.ref 1 0] 68,.row (B0.cells res.2.2) 99] (.tup [.d (.int .i64 res.1),.d (.bool res.2.1)])):=by
 unfold Y8 at hh
 obtain ⟨x1,hx1,hh⟩:=bs' hh
 cases hh
 exact O0.intro hC Tryz.func112 rfl rfl rfl (t' rfl (p' 1 rfl (g' [1] (S0 hx1) rfl rfl rfl rfl rfl rfl (e' rfl (re' (rt' rfl rfl rfl))))))
mutual
def G1 (parserParser:B0):Option (Pn (A0×B0)):=
 Z8 parserParser>>=fun x1=>match x1 with
 | .pn nn=>
 some (.pn nn)
 | .ok x1=>
 R0 [63] x1.2>>=fun x2=>
 if (!x2.1)=true then
  some (.ok (x1.1,x2.2))
 else
  G1 x2.2>>=fun x3=>match x3 with
  | .pn nn=>
  some (.pn nn)
  | .ok x3=>
  T0 [58] x3.2>>=fun x4=>match x4 with
  | .pn nn=>
  some (.pn nn)
  | .ok x4=>
  G1 x4>>=fun x5=>match x5 with
  | .pn nn=>
  some (.pn nn)
  | .ok x5=>
  some (.ok ((A0.mk 23 0 [] [x1.1,x3.1,x5.1]),x5.2))
 partial_fixpoint
def Z8 (parserParser:B0):Option (Pn (A0×B0)):=
 Qd parserParser>>=fun x1=>match x1 with
 | .pn nn=>
 some (.pn nn)
 | .ok x1=>
 some (.ok (x1.1,x1.2))
 partial_fixpoint
def Qd (parserParser:B0):Option (Pn (A0×B0)):=
 K6 parserParser>>=fun x1=>match x1 with
 | .pn nn=>
 some (.pn nn)
 | .ok x1=>
 Y3 x1.2 x1.1
 partial_fixpoint
def Y3 (o0:B0)(o3:A0):Option (Pn (A0×B0)):=
 Y8 o0>>=fun x2=>
 if (!x2.2.1)=true then
  some (.ok (o3,x2.2.2))
 else
  K6 x2.2.2>>=fun x3=>match x3 with
  | .pn nn=>
  some (.pn nn)
  | .ok x3=>
  Y3 x3.2 (A0.mk x2.1 0 [] [o3,x3.1])
 partial_fixpoint
def K6 (parserParser:B0):Option (Pn (A0×B0)):=
 Bb parserParser>>=fun x1=>match x1 with
 | .pn nn=>
 some (.pn nn)
 | .ok x1=>
 some (.ok (x1.1,x1.2))
 partial_fixpoint
def Bb (parserParser:B0):Option (Pn (A0×B0)):=
 Z3 parserParser>>=fun x1=>match x1 with
 | .pn nn=>
 some (.pn nn)
 | .ok x1=>
 E3 x1.2 x1.1
 partial_fixpoint
def E3 (o0:B0)(o3:A0):Option (Pn (A0×B0)):=
 D8 o0>>=fun x2=>
 if (!x2.2.1)=true then
  some (.ok (o3,x2.2.2))
 else
  Z3 x2.2.2>>=fun x3=>match x3 with
  | .pn nn=>
  some (.pn nn)
  | .ok x3=>
  E3 x3.2 (A0.mk x2.1 0 [] [o3,x3.1])
 partial_fixpoint
def Z3 (parserParser:B0):Option (Pn (A0×B0)):=
 Q5 parserParser>>=fun x1=>match x1 with
 | .pn nn=>
 some (.pn nn)
 | .ok x1=>
 R0 [61,61] x1.2>>=fun x2=>
 if x2.1=true then
  Q1 x2.2 x1 13
 else
  R0 [33,61] x2.2>>=fun x4=>
  if x4.1=true then
   Q1 x4.2 x1 14
  else
   R0 [60] x4.2>>=fun x5=>
   if x5.1=true then
    Q1 x5.2 x1 15
   else
    R0 [60,61] x5.2>>=fun x6=>
    if x6.1=true then
     Q1 x6.2 x1 16
    else
     R0 [62] x6.2>>=fun x7=>
     if x7.1=true then
      Q1 x7.2 x1 17
     else
      R0 [62,61] x7.2>>=fun x8=>
      if x8.1=true then
       Q1 x8.2 x1 18
      else
       some (.ok (x1.1,x8.2))
 partial_fixpoint
def Q1 (o0:B0)(x1:A0×B0)(op:Int):Option (Pn (A0×B0)):=
 Q5 o0>>=fun x3=>match x3 with
 | .pn nn=>
 some (.pn nn)
 | .ok x3=>
 some (.ok ((A0.mk op 0 [] [x1.1,x3.1]),x3.2))
 partial_fixpoint
def Q5 (parserParser:B0):Option (Pn (A0×B0)):=
 Cb parserParser>>=fun x1=>match x1 with
 | .pn nn=>
 some (.pn nn)
 | .ok x1=>
 some (.ok (x1.1,x1.2))
 partial_fixpoint
def Cb (parserParser:B0):Option (Pn (A0×B0)):=
 S4 parserParser>>=fun x1=>match x1 with
 | .pn nn=>
 some (.pn nn)
 | .ok x1=>
 F3 x1.2 x1.1
 partial_fixpoint
def F3 (o0:B0)(o3:A0):Option (Pn (A0×B0)):=
 C8 o0>>=fun x2=>
 if (!x2.2.1)=true then
  some (.ok (o3,x2.2.2))
 else
  S4 x2.2.2>>=fun x3=>match x3 with
  | .pn nn=>
  some (.pn nn)
  | .ok x3=>
  F3 x3.2 (A0.mk x2.1 0 [] [o3,x3.1])
 partial_fixpoint
def S4 (parserParser:B0):Option (Pn (A0×B0)):=
 Db parserParser>>=fun x1=>match x1 with
 | .pn nn=>
 some (.pn nn)
 | .ok x1=>
 some (.ok (x1.1,x1.2))
 partial_fixpoint
def Db (parserParser:B0):Option (Pn (A0×B0)):=
 W3 parserParser>>=fun x1=>match x1 with
 | .pn nn=>
 some (.pn nn)
 | .ok x1=>
 H3 x1.2 x1.1
 partial_fixpoint
def H3 (o0:B0)(o3:A0):Option (Pn (A0×B0)):=
 R5 o0>>=fun x2=>
 if (!x2.2.1)=true then
  some (.ok (o3,x2.2.2))
 else
  W3 x2.2.2>>=fun x3=>match x3 with
  | .pn nn=>
  some (.pn nn)
  | .ok x3=>
  H3 x3.2 (A0.mk x2.1 0 [] [o3,x3.1])
 partial_fixpoint
def W3 (parserParser:B0):Option (Pn (A0×B0)):=
 R0 [45] parserParser>>=fun x1=>
 if x1.1=true then
  W3 x1.2>>=fun x4=>match x4 with
  | .pn nn=>
  some (.pn nn)
  | .ok x4=>
  some (.ok ((A0.mk 6 0 [] [x4.1]),x4.2))
 else
  R0 [33] x1.2>>=fun x2=>
  if x2.1=true then
   W3 x2.2>>=fun x5=>match x5 with
   | .pn nn=>
   some (.pn nn)
   | .ok x5=>
   some (.ok ((A0.mk 7 0 [] [x5.1]),x5.2))
  else
   N8 x2.2>>=fun x3=>match x3 with
   | .pn nn=>
   some (.pn nn)
   | .ok x3=>
   some (.ok (x3.1,x3.2))
 partial_fixpoint
def N8 (parserParser:B0):Option (Pn (A0×B0)):=
 Z4 parserParser>>=fun x1=>
 if x1=true then
  H6 parserParser>>=fun x2=>match x2 with
  | .pn nn=>
  some (.pn nn)
  | .ok x2=>
  some (.ok (x2.1,x2.2))
 else
  R0 [116,114,117,101] parserParser>>=fun x3=>
  if x3.1=true then
   some (.ok ((A0.mk 1 0 [] []),x3.2))
  else
   R0 [102,97,108,115,101] x3.2>>=fun x4=>
   if x4.1=true then
    some (.ok ((A0.mk 2 0 [] []),x4.2))
   else
    R0 [109,105,110] x4.2>>=fun x5=>
    if x5.1=true then
     A9 21 x5.2>>=fun x11=>match x11 with
     | .pn nn=>
     some (.pn nn)
     | .ok x11=>
     some (.ok (x11.1,x11.2))
    else
     R0 [109,97,120] x5.2>>=fun x6=>
     if x6.1=true then
      A9 22 x6.2>>=fun x12=>match x12 with
      | .pn nn=>
      some (.pn nn)
      | .ok x12=>
      some (.ok (x12.1,x12.2))
     else
      R0 [40] x6.2>>=fun x7=>
      if x7.1=true then
       G1 x7.2>>=fun x9=>match x9 with
       | .pn nn=>
       some (.pn nn)
       | .ok x9=>
       T0 [41] x9.2>>=fun x10=>match x10 with
       | .pn nn=>
       some (.pn nn)
       | .ok x10=>
       some (.ok (x9.1,x10))
      else
       A5 x7.2>>=fun x8=>match x8 with
       | .pn nn=>
       some (.pn nn)
       | .ok x8=>
       some (.ok ((A0.mk 0 x8.1 [] []),x8.2))
 partial_fixpoint
def A9 (op:Int)(parserParser:B0):Option (Pn (A0×B0)):=
 T0 [40] parserParser>>=fun x1=>match x1 with
 | .pn nn=>
 some (.pn nn)
 | .ok x1=>
 G1 x1>>=fun x2=>match x2 with
 | .pn nn=>
 some (.pn nn)
 | .ok x2=>
 T0 [44] x2.2>>=fun x3=>match x3 with
 | .pn nn=>
 some (.pn nn)
 | .ok x3=>
 G1 x3>>=fun x4=>match x4 with
 | .pn nn=>
 some (.pn nn)
 | .ok x4=>
 T0 [41] x4.2>>=fun x5=>match x5 with
 | .pn nn=>
 some (.pn nn)
 | .ok x5=>
 some (.ok ((A0.mk op 0 [] [x2.1,x4.1]),x5))
 partial_fixpoint
def H6 (parserParser:B0):Option (Pn (A0×B0)):=
 X2 parserParser>>=fun x1=>match x1 with
 | .pn nn=>
 some (.pn nn)
 | .ok x1=>
 K4 x1.2 3 x1.1 []
 partial_fixpoint
def K4 (o0:B0)(o2_Op:Int)(o2_Name:Str)(o2_Kids:List A0):Option (Pn (A0×B0)):=
 R0 [46] o0>>=fun x2=>
 if x2.1=true then
  X2 x2.2>>=fun x3=>match x3 with
  | .pn nn=>
  some (.pn nn)
  | .ok x3=>
  K4 x3.2 4 x3.1 [(A0.mk o2_Op 0 o2_Name o2_Kids)]
 else
  R0 [91] x2.2>>=fun x4=>
  if x4.1=true then
   G1 x4.2>>=fun x5=>match x5 with
   | .pn nn=>
   some (.pn nn)
   | .ok x5=>
   T0 [93] x5.2>>=fun x6=>match x6 with
   | .pn nn=>
   some (.pn nn)
   | .ok x6=>
   K4 x6 5 [] [(A0.mk o2_Op 0 o2_Name o2_Kids),x5.1]
  else
   some (.ok ((A0.mk o2_Op 0 o2_Name o2_Kids),x4.2))
 partial_fixpoint
end
abbrev Vk (parserParser:B0)(res:Pn (A0×B0)):Prop:=E2 C 30 [.ref 0 0] [.row (B0.cells parserParser) 99] (R4 res (fun rr=>[.row (B0.cells rr.2) 99]) (fun rr=>.agg (A0.cells rr.1))) (N4 res L3 [.dead])
abbrev L16 (parserParser:B0)(res:Pn (A0×B0)):Prop:=E2 C 60 [.ref 0 0] [.row (B0.cells parserParser) 99] (R4 res (fun rr=>[.row (B0.cells rr.2) 99]) (fun rr=>.agg (A0.cells rr.1))) (N4 res L3 [.dead])
abbrev M10 (parserParser:B0)(res:Pn (A0×B0)):Prop:=E2 C 110 [.ref 0 0,.bnd 111 [.ref 0 0],.clo 112 [.ref 1 0]] [.row (B0.cells parserParser) 99,.row [.ref 0 0] 68] (R4 res (fun rr=>[.row (B0.cells rr.2) 99,.row [.ref 0 0] 68]) (fun rr=>.agg (A0.cells rr.1))) (N4 res L3 [.dead,.row [.ref 0 0] 68])
abbrev Lw (o0:B0)(o3:A0)(res:Pn (A0×B0)):Prop:=LMp C 26 2 Tryz.f110 [1,1,4] [(1,.bnd 111 [.ref 0 0]),(2,.clo 112 [.ref 1 0]),(6,.ref 2 0),(7,.ref 3 0)] [.row (B0.cells o0) 99,.row [.ref 0 0] 68,.row [.d (.int .i64 0),.d (.int .i64 0),.d (.str []),.full (A0.rows [])] 26,.row (A0.cells o3) 26] (R4 res (fun rr=>[.row (B0.cells rr.2) 99,.row [.ref 0 0] 68]) (fun rr=>.agg (A0.cells rr.1))) (N4 res L3 [.dead,.row [.ref 0 0] 68])
abbrev I14 (parserParser:B0)(res:Pn (A0×B0)):Prop:=E2 C 111 [.ref 0 0] [.row (B0.cells parserParser) 99] (R4 res (fun rr=>[.row (B0.cells rr.2) 99]) (fun rr=>.agg (A0.cells rr.1))) (N4 res L3 [.dead])
abbrev Mw (parserParser:B0)(res:Pn (A0×B0)):Prop:=E2 C 110 [.ref 0 0,.bnd 166 [.ref 0 0],.clo 167 [.ref 1 0]] [.row (B0.cells parserParser) 99,.row [.ref 0 0] 68] (R4 res (fun rr=>[.row (B0.cells rr.2) 99,.row [.ref 0 0] 68]) (fun rr=>.agg (A0.cells rr.1))) (N4 res L3 [.dead,.row [.ref 0 0] 68])
abbrev Jt (o0:B0)(o3:A0)(res:Pn (A0×B0)):Prop:=LMp C 26 2 Tryz.f110 [1,1,4] [(1,.bnd 166 [.ref 0 0]),(2,.clo 167 [.ref 1 0]),(6,.ref 2 0),(7,.ref 3 0)] [.row (B0.cells o0) 99,.row [.ref 0 0] 68,.row [.d (.int .i64 0),.d (.int .i64 0),.d (.str []),.full (A0.rows [])] 26,.row (A0.cells o3) 26] (R4 res (fun rr=>[.row (B0.cells rr.2) 99,.row [.ref 0 0] 68]) (fun rr=>.agg (A0.cells rr.1))) (N4 res L3 [.dead,.row [.ref 0 0] 68])
abbrev Ku (parserParser:B0)(res:Pn (A0×B0)):Prop:=E2 C 166 [.ref 0 0] [.row (B0.cells parserParser) 99] (R4 res (fun rr=>[.row (B0.cells rr.2) 99]) (fun rr=>.agg (A0.cells rr.1))) (N4 res L3 [.dead])
abbrev Hq (o0:B0)(x1:A0×B0)(op:Int)(res:Pn (A0×B0)):Prop:=JMp C 32 1 Tryz.f166 [1,1,1,1] [(0,.ref 0 0),(2,.ref 1 0),(3,.ref 2 0),(4,.d (.int .i64 op))] [.row (B0.cells o0) 99,.row [.d (.int .i64 0),.d (.int .i64 0),.d (.str []),.full (A0.rows [])] 26,.row (A0.cells x1.1) 26] (R4 res (fun rr=>[.row (B0.cells rr.2) 99]) (fun rr=>.agg (A0.cells rr.1))) (N4 res L3 [.dead])
abbrev J14 (parserParser:B0)(res:Pn (A0×B0)):Prop:=E2 C 189 [.ref 0 0] [.row (B0.cells parserParser) 99] (R4 res (fun rr=>[.row (B0.cells rr.2) 99]) (fun rr=>.agg (A0.cells rr.1))) (N4 res L3 [.dead])
abbrev Nw (parserParser:B0)(res:Pn (A0×B0)):Prop:=E2 C 110 [.ref 0 0,.bnd 203 [.ref 0 0],.clo 204 [.ref 1 0]] [.row (B0.cells parserParser) 99,.row [.ref 0 0] 68] (R4 res (fun rr=>[.row (B0.cells rr.2) 99,.row [.ref 0 0] 68]) (fun rr=>.agg (A0.cells rr.1))) (N4 res L3 [.dead,.row [.ref 0 0] 68])
abbrev Kt (o0:B0)(o3:A0)(res:Pn (A0×B0)):Prop:=LMp C 26 2 Tryz.f110 [1,1,4] [(1,.bnd 203 [.ref 0 0]),(2,.clo 204 [.ref 1 0]),(6,.ref 2 0),(7,.ref 3 0)] [.row (B0.cells o0) 99,.row [.ref 0 0] 68,.row [.d (.int .i64 0),.d (.int .i64 0),.d (.str []),.full (A0.rows [])] 26,.row (A0.cells o3) 26] (R4 res (fun rr=>[.row (B0.cells rr.2) 99,.row [.ref 0 0] 68]) (fun rr=>.agg (A0.cells rr.1))) (N4 res L3 [.dead,.row [.ref 0 0] 68])
abbrev Vx (parserParser:B0)(res:Pn (A0×B0)):Prop:=E2 C 203 [.ref 0 0] [.row (B0.cells parserParser) 99] (R4 res (fun rr=>[.row (B0.cells rr.2) 99]) (fun rr=>.agg (A0.cells rr.1))) (N4 res L3 [.dead])
abbrev Ow (parserParser:B0)(res:Pn (A0×B0)):Prop:=E2 C 110 [.ref 0 0,.bnd 214 [.ref 0 0],.clo 215 [.ref 1 0]] [.row (B0.cells parserParser) 99,.row [.ref 0 0] 68] (R4 res (fun rr=>[.row (B0.cells rr.2) 99,.row [.ref 0 0] 68]) (fun rr=>.agg (A0.cells rr.1))) (N4 res L3 [.dead,.row [.ref 0 0] 68])
abbrev Lt (o0:B0)(o3:A0)(res:Pn (A0×B0)):Prop:=LMp C 26 2 Tryz.f110 [1,1,4] [(1,.bnd 214 [.ref 0 0]),(2,.clo 215 [.ref 1 0]),(6,.ref 2 0),(7,.ref 3 0)] [.row (B0.cells o0) 99,.row [.ref 0 0] 68,.row [.d (.int .i64 0),.d (.int .i64 0),.d (.str []),.full (A0.rows [])] 26,.row (A0.cells o3) 26] (R4 res (fun rr=>[.row (B0.cells rr.2) 99,.row [.ref 0 0] 68]) (fun rr=>.agg (A0.cells rr.1))) (N4 res L3 [.dead,.row [.ref 0 0] 68])
abbrev N10 (parserParser:B0)(res:Pn (A0×B0)):Prop:=E2 C 214 [.ref 0 0] [.row (B0.cells parserParser) 99] (R4 res (fun rr=>[.row (B0.cells rr.2) 99]) (fun rr=>.agg (A0.cells rr.1))) (N4 res L3 [.dead])
abbrev Wx (parserParser:B0)(res:Pn (A0×B0)):Prop:=E2 C 223 [.ref 0 0] [.row (B0.cells parserParser) 99] (R4 res (fun rr=>[.row (B0.cells rr.2) 99]) (fun rr=>.agg (A0.cells rr.1))) (N4 res L3 [.dead])
abbrev F12 (op:Int)(parserParser:B0)(res:Pn (A0×B0)):Prop:=E2 C 228 [.ref 0 0,.d (.int .i64 op)] [.row (B0.cells parserParser) 99] (R4 res (fun rr=>[.row (B0.cells rr.2) 99]) (fun rr=>.agg (A0.cells rr.1))) (N4 res L3 [.dead])
abbrev Ro (parserParser:B0)(res:Pn (A0×B0)):Prop:=E2 C 195 [.ref 0 0] [.row (B0.cells parserParser) 99] (R4 res (fun rr=>[.row (B0.cells rr.2) 99]) (fun rr=>.agg (A0.cells rr.1))) (N4 res L3 [.dead])
abbrev Pw (o0:B0)(o2_Op:Int)(o2_Name:Str)(o2_Kids:List A0)(res:Pn (A0×B0)):Prop:=LMp C 28 1 Tryz.f195 [1,1,4] [(0,.ref 0 0),(2,.ref 1 0),(3,.ref 2 0)] [.row (B0.cells o0) 99,.row [.d (.int .i64 0),.d (.int .i64 0),.d (.str []),.full (A0.rows [])] 26,.row [.d (.int .i64 o2_Op),.d (.int .i64 0),.d (.str o2_Name),.d (.sl (A0.rows o2_Kids))] 26] (R4 res (fun rr=>[.row (B0.cells rr.2) 99]) (fun rr=>.agg (A0.cells rr.1))) (N4 res L3 [.dead])
theorem Ri:(∀ parserParser res,G1 parserParser=some res→Vk parserParser res)∧(∀ parserParser res,Z8 parserParser=some res→L16 parserParser res)∧(∀ parserParser res,Qd parserParser=some res→M10 parserParser res)∧(∀ o0 o3 res,Y3 o0 o3=some res→Lw o0 o3 res)∧(∀ parserParser res,K6 parserParser=some res→I14 parserParser res)∧(∀ parserParser res,Bb parserParser=some res→Mw parserParser res)∧(∀ o0 o3 res,E3 o0 o3=some res→Jt o0 o3 res)∧(∀ parserParser res,Z3 parserParser=some res→Ku parserParser res)∧(∀ o0 x1 op res,Q1 o0 x1 op=some res→Hq o0 x1 op res)∧(∀ parserParser res,Q5 parserParser=some res→J14 parserParser res)∧(∀ parserParser res,Cb parserParser=some res→Nw parserParser res)∧(∀ o0 o3 res,F3 o0 o3=some res→Kt o0 o3 res)∧(∀ parserParser res,S4 parserParser=some res→Vx parserParser res)∧(∀ parserParser res,Db parserParser=some res→Ow parserParser res)∧(∀ o0 o3 res,H3 o0 o3=some res→Lt o0 o3 res)∧(∀ parserParser res,W3 parserParser=some res→N10 parserParser res)∧(∀ parserParser res,N8 parserParser=some res→Wx parserParser res)∧(∀ op parserParser res,A9 op parserParser=some res→F12 op parserParser res)∧(∀ parserParser res,H6 parserParser=some res→Ro parserParser res)∧(∀ o0 o2_Op o2_Name o2_Kids res,K4 o0 o2_Op o2_Name o2_Kids=some res→Pw o0 o2_Op o2_Name o2_Kids res):=by
 refine G1.mutual_partial_correctness _ _ _ _ _ _ _ _ _ _ _ _ _ _ _ _ _ _ _ _ ?_ ?_ ?_ ?_ ?_ ?_ ?_ ?_ ?_ ?_ ?_ ?_ ?_ ?_ ?_ ?_ ?_ ?_ ?_ ?_
 ·intro g0 g1 ih0 ih1 parserParser res hh
  refine E2.intro hC Tryz.func30 rfl rfl rfl (s' rfl rfl (F0.nf hC rfl (n' (p' 1 rfl ?_))))
  rcases bp' hh with ⟨nn,hx1,⟨⟩⟩ | ⟨x1,hx1,hh⟩
  ·exact gn' [0] (ih1 _ _ hx1) rfl rfl rfl rfl rfl (fun hi=>peW ⟨trivial,trivial⟩ rfl hi)
  obtain ⟨x2,hx2,hh⟩:=bs' hh
  refine g' [0] ((ih1 _ _ hx1).ok) rfl rfl rfl rfl rfl rfl (F0.nf hC rfl (F0.s hC rfl (n' (S' (p' 1 rfl (g' [0] (S0 hx2) rfl rfl rfl rfl rfl rfl (e' rfl (ci' rfl hh (fun hh=>?_) (fun hh=>?_)))))))))
  ·cases hh
   exact p' 1 rfl (F0.s hC rfl (n' (re' (rt' rfl rfl rfl))))
  refine sk' (p' 1 rfl ?_)
  rcases bp' hh with ⟨nn,hx3,⟨⟩⟩ | ⟨x3,hx3,hh⟩
  ·exact gn' [0] (ih0 _ _ hx3) rfl rfl rfl rfl rfl (fun hi=>peW ⟨trivial,trivial⟩ rfl hi)
  refine g' [0] ((ih0 _ _ hx3).ok) rfl rfl rfl rfl rfl rfl (F0.nf hC rfl (F0.s hC rfl (n' (p' 1 rfl ?_))))
  rcases bp' hh with ⟨nn,hx4,⟨⟩⟩ | ⟨x4,hx4,hh⟩
  ·exact gn' [0] (L0 hx4) rfl rfl rfl rfl rfl (fun hi=>peW ⟨trivial,trivial⟩ rfl hi)
  refine g' [0] ((L0 hx4).ok) rfl rfl rfl rfl rfl rfl (n' (S' ?_))
  rcases bp' hh with ⟨nn,hx5,⟨⟩⟩ | ⟨x5,hx5,hh⟩
  ·refine AEx.drawE hC ?_
   refine E0.step rfl (j0:=0) (js:=[1,2]) (by kernel_rfl) ⟨⟨_,rfl,?_⟩,⟨_,rfl,?_⟩,⟨_,rfl,?_⟩,trivial⟩
   ·refine e' rfl ?_
    refine E0.step rfl (j0:=1) (js:=[2]) (by kernel_rfl) ⟨⟨_,rfl,?_⟩,⟨_,rfl,?_⟩,trivial⟩
    ·refine e' rfl ?_
     refine E0.step rfl (j0:=2) (js:=[]) (by kernel_rfl) ⟨⟨_,rfl,?_⟩,trivial⟩
     refine e' rfl ?_
     refine E0.step rfl (j0:=3) (js:=[]) (by kernel_rfl) ⟨⟨_,rfl,?_⟩,trivial⟩
     exact gn' [0] (ih0 _ _ hx5) rfl rfl rfl rfl rfl (fun hi=>peW ⟨trivial,trivial⟩ rfl hi)
    ·refine e' rfl ?_
     refine E0.step rfl (j0:=1) (js:=[3]) (by kernel_rfl) ⟨⟨_,rfl,?_⟩,⟨_,rfl,?_⟩,trivial⟩
     ·refine e' rfl ?_
      refine E0.step rfl (j0:=3) (js:=[]) (by kernel_rfl) ⟨⟨_,rfl,?_⟩,trivial⟩
      exact gn' [0] (ih0 _ _ hx5) rfl rfl rfl rfl rfl (fun hi=>peW ⟨trivial,trivial⟩ rfl hi)
     ·exact gn' [0] (ih0 _ _ hx5) rfl rfl rfl rfl rfl (fun hi=>peW ⟨trivial,trivial⟩ rfl hi)
   ·refine e' rfl ?_
    refine E0.step rfl (j0:=0) (js:=[2]) (by kernel_rfl) ⟨⟨_,rfl,?_⟩,⟨_,rfl,?_⟩,trivial⟩
    ·refine e' rfl ?_
     refine E0.step rfl (j0:=2) (js:=[]) (by kernel_rfl) ⟨⟨_,rfl,?_⟩,trivial⟩
     refine e' rfl ?_
     refine E0.step rfl (j0:=3) (js:=[]) (by kernel_rfl) ⟨⟨_,rfl,?_⟩,trivial⟩
     exact gn' [0] (ih0 _ _ hx5) rfl rfl rfl rfl rfl (fun hi=>peW ⟨trivial,trivial⟩ rfl hi)
    ·refine e' rfl ?_
     refine E0.step rfl (j0:=0) (js:=[3]) (by kernel_rfl) ⟨⟨_,rfl,?_⟩,⟨_,rfl,?_⟩,trivial⟩
     ·refine e' rfl ?_
      refine E0.step rfl (j0:=3) (js:=[]) (by kernel_rfl) ⟨⟨_,rfl,?_⟩,trivial⟩
      exact gn' [0] (ih0 _ _ hx5) rfl rfl rfl rfl rfl (fun hi=>peW ⟨trivial,trivial⟩ rfl hi)
     ·exact gn' [0] (ih0 _ _ hx5) rfl rfl rfl rfl rfl (fun hi=>peW ⟨trivial,trivial⟩ rfl hi)
   ·refine e' rfl ?_
    refine E0.step rfl (j0:=0) (js:=[1,3]) (by kernel_rfl) ⟨⟨_,rfl,?_⟩,⟨_,rfl,?_⟩,⟨_,rfl,?_⟩,trivial⟩
    ·refine e' rfl ?_
     refine E0.step rfl (j0:=1) (js:=[3]) (by kernel_rfl) ⟨⟨_,rfl,?_⟩,⟨_,rfl,?_⟩,trivial⟩
     ·refine e' rfl ?_
      refine E0.step rfl (j0:=3) (js:=[]) (by kernel_rfl) ⟨⟨_,rfl,?_⟩,trivial⟩
      exact gn' [0] (ih0 _ _ hx5) rfl rfl rfl rfl rfl (fun hi=>peW ⟨trivial,trivial⟩ rfl hi)
     ·exact gn' [0] (ih0 _ _ hx5) rfl rfl rfl rfl rfl (fun hi=>peW ⟨trivial,trivial⟩ rfl hi)
    ·refine e' rfl ?_
     refine E0.step rfl (j0:=0) (js:=[3]) (by kernel_rfl) ⟨⟨_,rfl,?_⟩,⟨_,rfl,?_⟩,trivial⟩
     ·refine e' rfl ?_
      refine E0.step rfl (j0:=3) (js:=[]) (by kernel_rfl) ⟨⟨_,rfl,?_⟩,trivial⟩
      exact gn' [0] (ih0 _ _ hx5) rfl rfl rfl rfl rfl (fun hi=>peW ⟨trivial,trivial⟩ rfl hi)
     ·exact gn' [0] (ih0 _ _ hx5) rfl rfl rfl rfl rfl (fun hi=>peW ⟨trivial,trivial⟩ rfl hi)
    ·exact gn' [0] (ih0 _ _ hx5) rfl rfl rfl rfl rfl (fun hi=>peW ⟨trivial,trivial⟩ rfl hi)
  refine AEx.drawE hC ?_
  refine E0.step rfl (j0:=0) (js:=[1,2]) (by kernel_rfl) ⟨⟨_,rfl,?_⟩,⟨_,rfl,?_⟩,⟨_,rfl,?_⟩,trivial⟩
  ·refine e' rfl ?_
   refine E0.step rfl (j0:=1) (js:=[2]) (by kernel_rfl) ⟨⟨_,rfl,?_⟩,⟨_,rfl,?_⟩,trivial⟩
   ·refine e' rfl ?_
    refine E0.step rfl (j0:=2) (js:=[]) (by kernel_rfl) ⟨⟨_,rfl,?_⟩,trivial⟩
    refine e' rfl ?_
    refine E0.step rfl (j0:=3) (js:=[]) (by kernel_rfl) ⟨⟨_,rfl,?_⟩,trivial⟩
    refine g' [0] ((ih0 _ _ hx5).ok) rfl rfl rfl rfl rfl rfl (n' ?_)
    refine E0.step rfl (j0:=4) (js:=[]) (by kernel_rfl) ⟨⟨_,rfl,?_⟩,trivial⟩
    refine F0.be hC rfl (A0.rows_map [x1.1,x3.1,x5.1]).symm (n' ?_)
    refine E0.step rfl (j0:=5) (js:=[]) (by kernel_rfl) ⟨⟨_,rfl,?_⟩,trivial⟩
    refine e' rfl ?_
    refine E0.step rfl (j0:=6) (js:=[]) (by kernel_rfl) ⟨⟨_,rfl,?_⟩,trivial⟩
    refine F0.s hC rfl (n' (E0.nil (by kernel_rfl) (re' ?_)))
    obtain rfl:=oi' hh
    exact ⟨_,.agg [.d (.int .i64 23),.d (.int .i64 0),.d (.str []),.d (.sl (A0.rows [x1.1,x3.1,x5.1]))],[.row (B0.cells x5.2) 99],rfl,(.aggL ⟨.rfl,.rfl,.rfl,.full,trivial⟩),⟨⟨rfl,.refl _,rfl⟩,trivial⟩,rfl,rfl,rpq rfl rfl⟩
   ·refine e' rfl ?_
    refine E0.step rfl (j0:=1) (js:=[3]) (by kernel_rfl) ⟨⟨_,rfl,?_⟩,⟨_,rfl,?_⟩,trivial⟩
    ·refine e' rfl ?_
     refine E0.step rfl (j0:=3) (js:=[]) (by kernel_rfl) ⟨⟨_,rfl,?_⟩,trivial⟩
     refine g' [0] ((ih0 _ _ hx5).ok) rfl rfl rfl rfl rfl rfl (n' ?_)
     refine E0.step rfl (j0:=4) (js:=[]) (by kernel_rfl) ⟨⟨_,rfl,?_⟩,trivial⟩
     refine F0.be hC rfl (A0.rows_map [x1.1,x3.1,x5.1]).symm (n' ?_)
     refine E0.step rfl (j0:=5) (js:=[]) (by kernel_rfl) ⟨⟨_,rfl,?_⟩,trivial⟩
     refine e' rfl ?_
     refine E0.step rfl (j0:=6) (js:=[]) (by kernel_rfl) ⟨⟨_,rfl,?_⟩,trivial⟩
     refine F0.s hC rfl (n' (E0.nil (by kernel_rfl) (re' ?_)))
     obtain rfl:=oi' hh
     exact ⟨_,.agg [.d (.int .i64 23),.d (.int .i64 0),.d (.str []),.d (.sl (A0.rows [x1.1,x3.1,x5.1]))],[.row (B0.cells x5.2) 99],rfl,(.aggL ⟨.rfl,.rfl,.rfl,.full,trivial⟩),⟨⟨rfl,.refl _,rfl⟩,trivial⟩,rfl,rfl,rpq rfl rfl⟩
    ·refine g' [0] ((ih0 _ _ hx5).ok) rfl rfl rfl rfl rfl rfl (n' ?_)
     refine E0.step rfl (j0:=1) (js:=[]) (by kernel_rfl) ⟨⟨_,rfl,?_⟩,trivial⟩
     refine e' rfl ?_
     refine E0.step rfl (j0:=4) (js:=[]) (by kernel_rfl) ⟨⟨_,rfl,?_⟩,trivial⟩
     refine F0.be hC rfl (A0.rows_map [x1.1,x3.1,x5.1]).symm (n' ?_)
     refine E0.step rfl (j0:=5) (js:=[]) (by kernel_rfl) ⟨⟨_,rfl,?_⟩,trivial⟩
     refine e' rfl ?_
     refine E0.step rfl (j0:=6) (js:=[]) (by kernel_rfl) ⟨⟨_,rfl,?_⟩,trivial⟩
     refine F0.s hC rfl (n' (E0.nil (by kernel_rfl) (re' ?_)))
     obtain rfl:=oi' hh
     exact ⟨_,.agg [.d (.int .i64 23),.d (.int .i64 0),.d (.str []),.d (.sl (A0.rows [x1.1,x3.1,x5.1]))],[.row (B0.cells x5.2) 99],rfl,(.aggL ⟨.rfl,.rfl,.rfl,.full,trivial⟩),⟨⟨rfl,.refl _,rfl⟩,trivial⟩,rfl,rfl,rpq rfl rfl⟩
  ·refine e' rfl ?_
   refine E0.step rfl (j0:=0) (js:=[2]) (by kernel_rfl) ⟨⟨_,rfl,?_⟩,⟨_,rfl,?_⟩,trivial⟩
   ·refine e' rfl ?_
    refine E0.step rfl (j0:=2) (js:=[]) (by kernel_rfl) ⟨⟨_,rfl,?_⟩,trivial⟩
    refine e' rfl ?_
    refine E0.step rfl (j0:=3) (js:=[]) (by kernel_rfl) ⟨⟨_,rfl,?_⟩,trivial⟩
    refine g' [0] ((ih0 _ _ hx5).ok) rfl rfl rfl rfl rfl rfl (n' ?_)
    refine E0.step rfl (j0:=4) (js:=[]) (by kernel_rfl) ⟨⟨_,rfl,?_⟩,trivial⟩
    refine F0.be hC rfl (A0.rows_map [x1.1,x3.1,x5.1]).symm (n' ?_)
    refine E0.step rfl (j0:=5) (js:=[]) (by kernel_rfl) ⟨⟨_,rfl,?_⟩,trivial⟩
    refine e' rfl ?_
    refine E0.step rfl (j0:=6) (js:=[]) (by kernel_rfl) ⟨⟨_,rfl,?_⟩,trivial⟩
    refine F0.s hC rfl (n' (E0.nil (by kernel_rfl) (re' ?_)))
    obtain rfl:=oi' hh
    exact ⟨_,.agg [.d (.int .i64 23),.d (.int .i64 0),.d (.str []),.d (.sl (A0.rows [x1.1,x3.1,x5.1]))],[.row (B0.cells x5.2) 99],rfl,(.aggL ⟨.rfl,.rfl,.rfl,.full,trivial⟩),⟨⟨rfl,.refl _,rfl⟩,trivial⟩,rfl,rfl,rpq rfl rfl⟩
   ·refine e' rfl ?_
    refine E0.step rfl (j0:=0) (js:=[3]) (by kernel_rfl) ⟨⟨_,rfl,?_⟩,⟨_,rfl,?_⟩,trivial⟩
    ·refine e' rfl ?_
     refine E0.step rfl (j0:=3) (js:=[]) (by kernel_rfl) ⟨⟨_,rfl,?_⟩,trivial⟩
     refine g' [0] ((ih0 _ _ hx5).ok) rfl rfl rfl rfl rfl rfl (n' ?_)
     refine E0.step rfl (j0:=4) (js:=[]) (by kernel_rfl) ⟨⟨_,rfl,?_⟩,trivial⟩
     refine F0.be hC rfl (A0.rows_map [x1.1,x3.1,x5.1]).symm (n' ?_)
     refine E0.step rfl (j0:=5) (js:=[]) (by kernel_rfl) ⟨⟨_,rfl,?_⟩,trivial⟩
     refine e' rfl ?_
     refine E0.step rfl (j0:=6) (js:=[]) (by kernel_rfl) ⟨⟨_,rfl,?_⟩,trivial⟩
     refine F0.s hC rfl (n' (E0.nil (by kernel_rfl) (re' ?_)))
     obtain rfl:=oi' hh
     exact ⟨_,.agg [.d (.int .i64 23),.d (.int .i64 0),.d (.str []),.d (.sl (A0.rows [x1.1,x3.1,x5.1]))],[.row (B0.cells x5.2) 99],rfl,(.aggL ⟨.rfl,.rfl,.rfl,.full,trivial⟩),⟨⟨rfl,.refl _,rfl⟩,trivial⟩,rfl,rfl,rpq rfl rfl⟩
    ·refine g' [0] ((ih0 _ _ hx5).ok) rfl rfl rfl rfl rfl rfl (n' ?_)
     refine E0.step rfl (j0:=0) (js:=[]) (by kernel_rfl) ⟨⟨_,rfl,?_⟩,trivial⟩
     refine e' rfl ?_
     refine E0.step rfl (j0:=4) (js:=[]) (by kernel_rfl) ⟨⟨_,rfl,?_⟩,trivial⟩
     refine F0.be hC rfl (A0.rows_map [x1.1,x3.1,x5.1]).symm (n' ?_)
     refine E0.step rfl (j0:=5) (js:=[]) (by kernel_rfl) ⟨⟨_,rfl,?_⟩,trivial⟩
     refine e' rfl ?_
     refine E0.step rfl (j0:=6) (js:=[]) (by kernel_rfl) ⟨⟨_,rfl,?_⟩,trivial⟩
     refine F0.s hC rfl (n' (E0.nil (by kernel_rfl) (re' ?_)))
     obtain rfl:=oi' hh
     exact ⟨_,.agg [.d (.int .i64 23),.d (.int .i64 0),.d (.str []),.d (.sl (A0.rows [x1.1,x3.1,x5.1]))],[.row (B0.cells x5.2) 99],rfl,(.aggL ⟨.rfl,.rfl,.rfl,.full,trivial⟩),⟨⟨rfl,.refl _,rfl⟩,trivial⟩,rfl,rfl,rpq rfl rfl⟩
  ·refine e' rfl ?_
   refine E0.step rfl (j0:=0) (js:=[1,3]) (by kernel_rfl) ⟨⟨_,rfl,?_⟩,⟨_,rfl,?_⟩,⟨_,rfl,?_⟩,trivial⟩
   ·refine e' rfl ?_
    refine E0.step rfl (j0:=1) (js:=[3]) (by kernel_rfl) ⟨⟨_,rfl,?_⟩,⟨_,rfl,?_⟩,trivial⟩
    ·refine e' rfl ?_
     refine E0.step rfl (j0:=3) (js:=[]) (by kernel_rfl) ⟨⟨_,rfl,?_⟩,trivial⟩
     refine g' [0] ((ih0 _ _ hx5).ok) rfl rfl rfl rfl rfl rfl (n' ?_)
     refine E0.step rfl (j0:=4) (js:=[]) (by kernel_rfl) ⟨⟨_,rfl,?_⟩,trivial⟩
     refine F0.be hC rfl (A0.rows_map [x1.1,x3.1,x5.1]).symm (n' ?_)
     refine E0.step rfl (j0:=5) (js:=[]) (by kernel_rfl) ⟨⟨_,rfl,?_⟩,trivial⟩
     refine e' rfl ?_
     refine E0.step rfl (j0:=6) (js:=[]) (by kernel_rfl) ⟨⟨_,rfl,?_⟩,trivial⟩
     refine F0.s hC rfl (n' (E0.nil (by kernel_rfl) (re' ?_)))
     obtain rfl:=oi' hh
     exact ⟨_,.agg [.d (.int .i64 23),.d (.int .i64 0),.d (.str []),.d (.sl (A0.rows [x1.1,x3.1,x5.1]))],[.row (B0.cells x5.2) 99],rfl,(.aggL ⟨.rfl,.rfl,.rfl,.full,trivial⟩),⟨⟨rfl,.refl _,rfl⟩,trivial⟩,rfl,rfl,rpq rfl rfl⟩
    ·refine g' [0] ((ih0 _ _ hx5).ok) rfl rfl rfl rfl rfl rfl (n' ?_)
     refine E0.step rfl (j0:=1) (js:=[]) (by kernel_rfl) ⟨⟨_,rfl,?_⟩,trivial⟩
     refine e' rfl ?_
     refine E0.step rfl (j0:=4) (js:=[]) (by kernel_rfl) ⟨⟨_,rfl,?_⟩,trivial⟩
     refine F0.be hC rfl (A0.rows_map [x1.1,x3.1,x5.1]).symm (n' ?_)
     refine E0.step rfl (j0:=5) (js:=[]) (by kernel_rfl) ⟨⟨_,rfl,?_⟩,trivial⟩
     refine e' rfl ?_
     refine E0.step rfl (j0:=6) (js:=[]) (by kernel_rfl) ⟨⟨_,rfl,?_⟩,trivial⟩
     refine F0.s hC rfl (n' (E0.nil (by kernel_rfl) (re' ?_)))
     obtain rfl:=oi' hh
     exact ⟨_,.agg [.d (.int .i64 23),.d (.int .i64 0),.d (.str []),.d (.sl (A0.rows [x1.1,x3.1,x5.1]))],[.row (B0.cells x5.2) 99],rfl,(.aggL ⟨.rfl,.rfl,.rfl,.full,trivial⟩),⟨⟨rfl,.refl _,rfl⟩,trivial⟩,rfl,rfl,rpq rfl rfl⟩
   ·refine e' rfl ?_
    refine E0.step rfl (j0:=0) (js:=[3]) (by kernel_rfl) ⟨⟨_,rfl,?_⟩,⟨_,rfl,?_⟩,trivial⟩
    ·refine e' rfl ?_
     refine E0.step rfl (j0:=3) (js:=[]) (by kernel_rfl) ⟨⟨_,rfl,?_⟩,trivial⟩
     refine g' [0] ((ih0 _ _ hx5).ok) rfl rfl rfl rfl rfl rfl (n' ?_)
     refine E0.step rfl (j0:=4) (js:=[]) (by kernel_rfl) ⟨⟨_,rfl,?_⟩,trivial⟩
     refine F0.be hC rfl (A0.rows_map [x1.1,x3.1,x5.1]).symm (n' ?_)
     refine E0.step rfl (j0:=5) (js:=[]) (by kernel_rfl) ⟨⟨_,rfl,?_⟩,trivial⟩
     refine e' rfl ?_
     refine E0.step rfl (j0:=6) (js:=[]) (by kernel_rfl) ⟨⟨_,rfl,?_⟩,trivial⟩
     refine F0.s hC rfl (n' (E0.nil (by kernel_rfl) (re' ?_)))
     obtain rfl:=oi' hh
     exact ⟨_,.agg [.d (.int .i64 23),.d (.int .i64 0),.d (.str []),.d (.sl (A0.rows [x1.1,x3.1,x5.1]))],[.row (B0.cells x5.2) 99],rfl,(.aggL ⟨.rfl,.rfl,.rfl,.full,trivial⟩),⟨⟨rfl,.refl _,rfl⟩,trivial⟩,rfl,rfl,rpq rfl rfl⟩
    ·refine g' [0] ((ih0 _ _ hx5).ok) rfl rfl rfl rfl rfl rfl (n' ?_)
     refine E0.step rfl (j0:=0) (js:=[]) (by kernel_rfl) ⟨⟨_,rfl,?_⟩,trivial⟩
     refine e' rfl ?_
     refine E0.step rfl (j0:=4) (js:=[]) (by kernel_rfl) ⟨⟨_,rfl,?_⟩,trivial⟩
     refine F0.be hC rfl (A0.rows_map [x1.1,x3.1,x5.1]).symm (n' ?_)
     refine E0.step rfl (j0:=5) (js:=[]) (by kernel_rfl) ⟨⟨_,rfl,?_⟩,trivial⟩
     refine e' rfl ?_
     refine E0.step rfl (j0:=6) (js:=[]) (by kernel_rfl) ⟨⟨_,rfl,?_⟩,trivial⟩
     refine F0.s hC rfl (n' (E0.nil (by kernel_rfl) (re' ?_)))
     obtain rfl:=oi' hh
     exact ⟨_,.agg [.d (.int .i64 23),.d (.int .i64 0),.d (.str []),.d (.sl (A0.rows [x1.1,x3.1,x5.1]))],[.row (B0.cells x5.2) 99],rfl,(.aggL ⟨.rfl,.rfl,.rfl,.full,trivial⟩),⟨⟨rfl,.refl _,rfl⟩,trivial⟩,rfl,rfl,rpq rfl rfl⟩
   ·refine g' [0] ((ih0 _ _ hx5).ok) rfl rfl rfl rfl rfl rfl (n' ?_)
    refine E0.step rfl (j0:=0) (js:=[1]) (by kernel_rfl) ⟨⟨_,rfl,?_⟩,⟨_,rfl,?_⟩,trivial⟩
    ·refine e' rfl ?_
     refine E0.step rfl (j0:=1) (js:=[]) (by kernel_rfl) ⟨⟨_,rfl,?_⟩,trivial⟩
     refine e' rfl ?_
     refine E0.step rfl (j0:=4) (js:=[]) (by kernel_rfl) ⟨⟨_,rfl,?_⟩,trivial⟩
     refine F0.be hC rfl (A0.rows_map [x1.1,x3.1,x5.1]).symm (n' ?_)
     refine E0.step rfl (j0:=5) (js:=[]) (by kernel_rfl) ⟨⟨_,rfl,?_⟩,trivial⟩
     refine e' rfl ?_
     refine E0.step rfl (j0:=6) (js:=[]) (by kernel_rfl) ⟨⟨_,rfl,?_⟩,trivial⟩
     refine F0.s hC rfl (n' (E0.nil (by kernel_rfl) (re' ?_)))
     obtain rfl:=oi' hh
     exact ⟨_,.agg [.d (.int .i64 23),.d (.int .i64 0),.d (.str []),.d (.sl (A0.rows [x1.1,x3.1,x5.1]))],[.row (B0.cells x5.2) 99],rfl,(.aggL ⟨.rfl,.rfl,.rfl,.full,trivial⟩),⟨⟨rfl,.refl _,rfl⟩,trivial⟩,rfl,rfl,rpq rfl rfl⟩
    ·refine e' rfl ?_
     refine E0.step rfl (j0:=0) (js:=[]) (by kernel_rfl) ⟨⟨_,rfl,?_⟩,trivial⟩
     refine e' rfl ?_
     refine E0.step rfl (j0:=4) (js:=[]) (by kernel_rfl) ⟨⟨_,rfl,?_⟩,trivial⟩
     refine F0.be hC rfl (A0.rows_map [x1.1,x3.1,x5.1]).symm (n' ?_)
     refine E0.step rfl (j0:=5) (js:=[]) (by kernel_rfl) ⟨⟨_,rfl,?_⟩,trivial⟩
     refine e' rfl ?_
     refine E0.step rfl (j0:=6) (js:=[]) (by kernel_rfl) ⟨⟨_,rfl,?_⟩,trivial⟩
     refine F0.s hC rfl (n' (E0.nil (by kernel_rfl) (re' ?_)))
     obtain rfl:=oi' hh
     exact ⟨_,.agg [.d (.int .i64 23),.d (.int .i64 0),.d (.str []),.d (.sl (A0.rows [x1.1,x3.1,x5.1]))],[.row (B0.cells x5.2) 99],rfl,(.aggL ⟨.rfl,.rfl,.rfl,.full,trivial⟩),⟨⟨rfl,.refl _,rfl⟩,trivial⟩,rfl,rfl,rpq rfl rfl⟩
 ·intro g2 ih2 parserParser res hh
  refine E2.intro hC Tryz.func60 rfl rfl rfl (s' rfl rfl (F0.n hC rfl (F0.nf hC rfl (n' (p' 4 rfl ?_)))))
  rcases bp' hh with ⟨nn,hx1,⟨⟩⟩ | ⟨x1,hx1,hh⟩
  ·exact gn' [0,1] (ih2 _ _ hx1) rfl rfl rfl rfl rfl (fun hi=>peW ⟨trivial,trivial⟩ rfl hi)
  cases hh
  exact g' [0,1] ((ih2 _ _ hx1).ok) rfl rfl rfl rfl rfl rfl (F0.s hC rfl (n' (re' (rt' rfl rfl rfl))))
 ·intro g3 g4 ih3 ih4 parserParser res hh
  refine E2.intro hC Tryz.func110 rfl rfl rfl (s' rfl rfl (F0.nf hC rfl (n' (p' 1 rfl ?_))))
  rcases bp' hh with ⟨nn,hx1,⟨⟩⟩ | ⟨x1,hx1,hh⟩
  ·exact gn' [0] (ih4 _ _ hx1) rfl rfl rfl rfl rfl (fun hi=>peW ⟨trivial,⟨rfl,.refl _,rfl⟩,trivial⟩ rfl hi)
  exact g' [0] ((ih4 _ _ hx1).ok) rfl rfl rfl rfl rfl rfl (F0.nf hC rfl (F0.s hC rfl (n' (bk' (fw' (ih3 _ _ _ hh) rfl rfl rfl)))))
 ·intro g3 g4 ih3 ih4 o0 o3 res hh
  obtain ⟨x2,hx2,hh⟩:=bs' hh
  refine W0.unroll (bk' (p' 1 rfl (g' [1,0] (L10 hx2) rfl rfl rfl rfl rfl rfl (e' rfl (S' (t' rfl (ci' rfl hh (fun hh=>?_) (fun hh=>?_))))))))
  ·cases hh
   exact p' 1 rfl (F0.s hC rfl (n' (re' (rt' rfl rfl rfl))))
  refine sk' ?_
  rcases bp' hh with ⟨nn,hx3,⟨⟩⟩ | ⟨x3,hx3,hh⟩
  ·refine AEx.drawE hC ?_
   refine E0.step rfl (j0:=0) (js:=[1,2]) (by kernel_rfl) ⟨⟨_,rfl,?_⟩,⟨_,rfl,?_⟩,⟨_,rfl,?_⟩,trivial⟩
   ·refine e' rfl ?_
    refine E0.step rfl (j0:=1) (js:=[2]) (by kernel_rfl) ⟨⟨_,rfl,?_⟩,⟨_,rfl,?_⟩,trivial⟩
    ·refine e' rfl ?_
     refine E0.step rfl (j0:=2) (js:=[]) (by kernel_rfl) ⟨⟨_,rfl,?_⟩,trivial⟩
     refine e' rfl ?_
     refine E0.step rfl (j0:=3) (js:=[]) (by kernel_rfl) ⟨⟨_,rfl,?_⟩,trivial⟩
     exact gn' [0] (ih4 _ _ hx3) rfl rfl rfl rfl rfl (fun hi=>peW ⟨trivial,⟨rfl,.refl _,rfl⟩,trivial⟩ rfl hi)
    ·refine e' rfl ?_
     refine E0.step rfl (j0:=1) (js:=[3]) (by kernel_rfl) ⟨⟨_,rfl,?_⟩,⟨_,rfl,?_⟩,trivial⟩
     ·refine e' rfl ?_
      refine E0.step rfl (j0:=3) (js:=[]) (by kernel_rfl) ⟨⟨_,rfl,?_⟩,trivial⟩
      exact gn' [0] (ih4 _ _ hx3) rfl rfl rfl rfl rfl (fun hi=>peW ⟨trivial,⟨rfl,.refl _,rfl⟩,trivial⟩ rfl hi)
     ·exact gn' [0] (ih4 _ _ hx3) rfl rfl rfl rfl rfl (fun hi=>peW ⟨trivial,⟨rfl,.refl _,rfl⟩,trivial⟩ rfl hi)
   ·refine e' rfl ?_
    refine E0.step rfl (j0:=0) (js:=[2]) (by kernel_rfl) ⟨⟨_,rfl,?_⟩,⟨_,rfl,?_⟩,trivial⟩
    ·refine e' rfl ?_
     refine E0.step rfl (j0:=2) (js:=[]) (by kernel_rfl) ⟨⟨_,rfl,?_⟩,trivial⟩
     refine e' rfl ?_
     refine E0.step rfl (j0:=3) (js:=[]) (by kernel_rfl) ⟨⟨_,rfl,?_⟩,trivial⟩
     exact gn' [0] (ih4 _ _ hx3) rfl rfl rfl rfl rfl (fun hi=>peW ⟨trivial,⟨rfl,.refl _,rfl⟩,trivial⟩ rfl hi)
    ·refine e' rfl ?_
     refine E0.step rfl (j0:=0) (js:=[3]) (by kernel_rfl) ⟨⟨_,rfl,?_⟩,⟨_,rfl,?_⟩,trivial⟩
     ·refine e' rfl ?_
      refine E0.step rfl (j0:=3) (js:=[]) (by kernel_rfl) ⟨⟨_,rfl,?_⟩,trivial⟩
      exact gn' [0] (ih4 _ _ hx3) rfl rfl rfl rfl rfl (fun hi=>peW ⟨trivial,⟨rfl,.refl _,rfl⟩,trivial⟩ rfl hi)
     ·exact gn' [0] (ih4 _ _ hx3) rfl rfl rfl rfl rfl (fun hi=>peW ⟨trivial,⟨rfl,.refl _,rfl⟩,trivial⟩ rfl hi)
   ·refine e' rfl ?_
    refine E0.step rfl (j0:=0) (js:=[1,3]) (by kernel_rfl) ⟨⟨_,rfl,?_⟩,⟨_,rfl,?_⟩,⟨_,rfl,?_⟩,trivial⟩
    ·refine e' rfl ?_
     refine E0.step rfl (j0:=1) (js:=[3]) (by kernel_rfl) ⟨⟨_,rfl,?_⟩,⟨_,rfl,?_⟩,trivial⟩
     ·refine e' rfl ?_
      refine E0.step rfl (j0:=3) (js:=[]) (by kernel_rfl) ⟨⟨_,rfl,?_⟩,trivial⟩
      exact gn' [0] (ih4 _ _ hx3) rfl rfl rfl rfl rfl (fun hi=>peW ⟨trivial,⟨rfl,.refl _,rfl⟩,trivial⟩ rfl hi)
     ·exact gn' [0] (ih4 _ _ hx3) rfl rfl rfl rfl rfl (fun hi=>peW ⟨trivial,⟨rfl,.refl _,rfl⟩,trivial⟩ rfl hi)
    ·refine e' rfl ?_
     refine E0.step rfl (j0:=0) (js:=[3]) (by kernel_rfl) ⟨⟨_,rfl,?_⟩,⟨_,rfl,?_⟩,trivial⟩
     ·refine e' rfl ?_
      refine E0.step rfl (j0:=3) (js:=[]) (by kernel_rfl) ⟨⟨_,rfl,?_⟩,trivial⟩
      exact gn' [0] (ih4 _ _ hx3) rfl rfl rfl rfl rfl (fun hi=>peW ⟨trivial,⟨rfl,.refl _,rfl⟩,trivial⟩ rfl hi)
     ·exact gn' [0] (ih4 _ _ hx3) rfl rfl rfl rfl rfl (fun hi=>peW ⟨trivial,⟨rfl,.refl _,rfl⟩,trivial⟩ rfl hi)
    ·exact gn' [0] (ih4 _ _ hx3) rfl rfl rfl rfl rfl (fun hi=>peW ⟨trivial,⟨rfl,.refl _,rfl⟩,trivial⟩ rfl hi)
  refine AEx.drawE hC ?_
  refine E0.step rfl (j0:=0) (js:=[1,2]) (by kernel_rfl) ⟨⟨_,rfl,?_⟩,⟨_,rfl,?_⟩,⟨_,rfl,?_⟩,trivial⟩
  ·refine e' rfl ?_
   refine E0.step rfl (j0:=1) (js:=[2]) (by kernel_rfl) ⟨⟨_,rfl,?_⟩,⟨_,rfl,?_⟩,trivial⟩
   ·refine e' rfl ?_
    refine E0.step rfl (j0:=2) (js:=[]) (by kernel_rfl) ⟨⟨_,rfl,?_⟩,trivial⟩
    refine e' rfl ?_
    refine E0.step rfl (j0:=3) (js:=[]) (by kernel_rfl) ⟨⟨_,rfl,?_⟩,trivial⟩
    refine g' [0] ((ih4 _ _ hx3).ok) rfl rfl rfl rfl rfl rfl (n' ?_)
    refine E0.step rfl (j0:=4) (js:=[]) (by kernel_rfl) ⟨⟨_,rfl,?_⟩,trivial⟩
    refine F0.be hC rfl (A0.rows_map [o3,x3.1]).symm (n' ?_)
    refine E0.step rfl (j0:=5) (js:=[]) (by kernel_rfl) ⟨⟨_,rfl,?_⟩,trivial⟩
    refine e' rfl ?_
    refine E0.step rfl (j0:=6) (js:=[]) (by kernel_rfl) ⟨⟨_,rfl,?_⟩,trivial⟩
    refine F0.s hC rfl (n' (E0.nil (by kernel_rfl) ?_))
    refine W0.wk ?_ (ih3 _ _ _ hh)
    exact ⟨⟨⟨.rfl,rfl⟩,⟨.rfl,rfl⟩,⟨.rfl,rfl⟩,⟨.rfl,rfl⟩,trivial⟩,⟨⟨rfl,.refl _,rfl⟩,⟨rfl,.refl _,rfl⟩,⟨rfl,.refl _,rfl⟩,⟨rfl,⟨.rfl,.rfl,.rfl,.full,trivial⟩,rfl⟩,trivial⟩,rfl⟩
   ·refine e' rfl ?_
    refine E0.step rfl (j0:=1) (js:=[3]) (by kernel_rfl) ⟨⟨_,rfl,?_⟩,⟨_,rfl,?_⟩,trivial⟩
    ·refine e' rfl ?_
     refine E0.step rfl (j0:=3) (js:=[]) (by kernel_rfl) ⟨⟨_,rfl,?_⟩,trivial⟩
     refine g' [0] ((ih4 _ _ hx3).ok) rfl rfl rfl rfl rfl rfl (n' ?_)
     refine E0.step rfl (j0:=4) (js:=[]) (by kernel_rfl) ⟨⟨_,rfl,?_⟩,trivial⟩
     refine F0.be hC rfl (A0.rows_map [o3,x3.1]).symm (n' ?_)
     refine E0.step rfl (j0:=5) (js:=[]) (by kernel_rfl) ⟨⟨_,rfl,?_⟩,trivial⟩
     refine e' rfl ?_
     refine E0.step rfl (j0:=6) (js:=[]) (by kernel_rfl) ⟨⟨_,rfl,?_⟩,trivial⟩
     refine F0.s hC rfl (n' (E0.nil (by kernel_rfl) ?_))
     refine W0.wk ?_ (ih3 _ _ _ hh)
     exact ⟨⟨⟨.rfl,rfl⟩,⟨.rfl,rfl⟩,⟨.rfl,rfl⟩,⟨.rfl,rfl⟩,trivial⟩,⟨⟨rfl,.refl _,rfl⟩,⟨rfl,.refl _,rfl⟩,⟨rfl,.refl _,rfl⟩,⟨rfl,⟨.rfl,.rfl,.rfl,.full,trivial⟩,rfl⟩,trivial⟩,rfl⟩
    ·refine g' [0] ((ih4 _ _ hx3).ok) rfl rfl rfl rfl rfl rfl (n' ?_)
     refine E0.step rfl (j0:=1) (js:=[]) (by kernel_rfl) ⟨⟨_,rfl,?_⟩,trivial⟩
     refine e' rfl ?_
     refine E0.step rfl (j0:=4) (js:=[]) (by kernel_rfl) ⟨⟨_,rfl,?_⟩,trivial⟩
     refine F0.be hC rfl (A0.rows_map [o3,x3.1]).symm (n' ?_)
     refine E0.step rfl (j0:=5) (js:=[]) (by kernel_rfl) ⟨⟨_,rfl,?_⟩,trivial⟩
     refine e' rfl ?_
     refine E0.step rfl (j0:=6) (js:=[]) (by kernel_rfl) ⟨⟨_,rfl,?_⟩,trivial⟩
     refine F0.s hC rfl (n' (E0.nil (by kernel_rfl) ?_))
     refine W0.wk ?_ (ih3 _ _ _ hh)
     exact ⟨⟨⟨.rfl,rfl⟩,⟨.rfl,rfl⟩,⟨.rfl,rfl⟩,⟨.rfl,rfl⟩,trivial⟩,⟨⟨rfl,.refl _,rfl⟩,⟨rfl,.refl _,rfl⟩,⟨rfl,.refl _,rfl⟩,⟨rfl,⟨.rfl,.rfl,.rfl,.full,trivial⟩,rfl⟩,trivial⟩,rfl⟩
  ·refine e' rfl ?_
   refine E0.step rfl (j0:=0) (js:=[2]) (by kernel_rfl) ⟨⟨_,rfl,?_⟩,⟨_,rfl,?_⟩,trivial⟩
   ·refine e' rfl ?_
    refine E0.step rfl (j0:=2) (js:=[]) (by kernel_rfl) ⟨⟨_,rfl,?_⟩,trivial⟩
    refine e' rfl ?_
    refine E0.step rfl (j0:=3) (js:=[]) (by kernel_rfl) ⟨⟨_,rfl,?_⟩,trivial⟩
    refine g' [0] ((ih4 _ _ hx3).ok) rfl rfl rfl rfl rfl rfl (n' ?_)
    refine E0.step rfl (j0:=4) (js:=[]) (by kernel_rfl) ⟨⟨_,rfl,?_⟩,trivial⟩
    refine F0.be hC rfl (A0.rows_map [o3,x3.1]).symm (n' ?_)
    refine E0.step rfl (j0:=5) (js:=[]) (by kernel_rfl) ⟨⟨_,rfl,?_⟩,trivial⟩
    refine e' rfl ?_
    refine E0.step rfl (j0:=6) (js:=[]) (by kernel_rfl) ⟨⟨_,rfl,?_⟩,trivial⟩
    refine F0.s hC rfl (n' (E0.nil (by kernel_rfl) ?_))
    refine W0.wk ?_ (ih3 _ _ _ hh)
    exact ⟨⟨⟨.rfl,rfl⟩,⟨.rfl,rfl⟩,⟨.rfl,rfl⟩,⟨.rfl,rfl⟩,trivial⟩,⟨⟨rfl,.refl _,rfl⟩,⟨rfl,.refl _,rfl⟩,⟨rfl,.refl _,rfl⟩,⟨rfl,⟨.rfl,.rfl,.rfl,.full,trivial⟩,rfl⟩,trivial⟩,rfl⟩
   ·refine e' rfl ?_
    refine E0.step rfl (j0:=0) (js:=[3]) (by kernel_rfl) ⟨⟨_,rfl,?_⟩,⟨_,rfl,?_⟩,trivial⟩
    ·refine e' rfl ?_
     refine E0.step rfl (j0:=3) (js:=[]) (by kernel_rfl) ⟨⟨_,rfl,?_⟩,trivial⟩
     refine g' [0] ((ih4 _ _ hx3).ok) rfl rfl rfl rfl rfl rfl (n' ?_)
     refine E0.step rfl (j0:=4) (js:=[]) (by kernel_rfl) ⟨⟨_,rfl,?_⟩,trivial⟩
     refine F0.be hC rfl (A0.rows_map [o3,x3.1]).symm (n' ?_)
     refine E0.step rfl (j0:=5) (js:=[]) (by kernel_rfl) ⟨⟨_,rfl,?_⟩,trivial⟩
     refine e' rfl ?_
     refine E0.step rfl (j0:=6) (js:=[]) (by kernel_rfl) ⟨⟨_,rfl,?_⟩,trivial⟩
     refine F0.s hC rfl (n' (E0.nil (by kernel_rfl) ?_))
     refine W0.wk ?_ (ih3 _ _ _ hh)
     exact ⟨⟨⟨.rfl,rfl⟩,⟨.rfl,rfl⟩,⟨.rfl,rfl⟩,⟨.rfl,rfl⟩,trivial⟩,⟨⟨rfl,.refl _,rfl⟩,⟨rfl,.refl _,rfl⟩,⟨rfl,.refl _,rfl⟩,⟨rfl,⟨.rfl,.rfl,.rfl,.full,trivial⟩,rfl⟩,trivial⟩,rfl⟩
    ·refine g' [0] ((ih4 _ _ hx3).ok) rfl rfl rfl rfl rfl rfl (n' ?_)
     refine E0.step rfl (j0:=0) (js:=[4]) (by kernel_rfl) ⟨⟨_,rfl,?_⟩,⟨_,rfl,?_⟩,trivial⟩
     ·refine e' rfl ?_
      refine E0.step rfl (j0:=4) (js:=[]) (by kernel_rfl) ⟨⟨_,rfl,?_⟩,trivial⟩
      refine F0.be hC rfl (A0.rows_map [o3,x3.1]).symm (n' ?_)
      refine E0.step rfl (j0:=5) (js:=[]) (by kernel_rfl) ⟨⟨_,rfl,?_⟩,trivial⟩
      refine e' rfl ?_
      refine E0.step rfl (j0:=6) (js:=[]) (by kernel_rfl) ⟨⟨_,rfl,?_⟩,trivial⟩
      refine F0.s hC rfl (n' (E0.nil (by kernel_rfl) ?_))
      refine W0.wk ?_ (ih3 _ _ _ hh)
      exact ⟨⟨⟨.rfl,rfl⟩,⟨.rfl,rfl⟩,⟨.rfl,rfl⟩,⟨.rfl,rfl⟩,trivial⟩,⟨⟨rfl,.refl _,rfl⟩,⟨rfl,.refl _,rfl⟩,⟨rfl,.refl _,rfl⟩,⟨rfl,⟨.rfl,.rfl,.rfl,.full,trivial⟩,rfl⟩,trivial⟩,rfl⟩
     ·refine F0.be hC rfl (A0.rows_map [o3,x3.1]).symm (n' ?_)
      refine E0.step rfl (j0:=0) (js:=[]) (by kernel_rfl) ⟨⟨_,rfl,?_⟩,trivial⟩
      refine e' rfl ?_
      refine E0.step rfl (j0:=5) (js:=[]) (by kernel_rfl) ⟨⟨_,rfl,?_⟩,trivial⟩
      refine e' rfl ?_
      refine E0.step rfl (j0:=6) (js:=[]) (by kernel_rfl) ⟨⟨_,rfl,?_⟩,trivial⟩
      refine F0.s hC rfl (n' (E0.nil (by kernel_rfl) ?_))
      refine W0.wk ?_ (ih3 _ _ _ hh)
      exact ⟨⟨⟨.rfl,rfl⟩,⟨.rfl,rfl⟩,⟨.rfl,rfl⟩,⟨.rfl,rfl⟩,trivial⟩,⟨⟨rfl,.refl _,rfl⟩,⟨rfl,.refl _,rfl⟩,⟨rfl,.refl _,rfl⟩,⟨rfl,⟨.rfl,.rfl,.rfl,.full,trivial⟩,rfl⟩,trivial⟩,rfl⟩
  ·refine e' rfl ?_
   refine E0.step rfl (j0:=0) (js:=[1,3]) (by kernel_rfl) ⟨⟨_,rfl,?_⟩,⟨_,rfl,?_⟩,⟨_,rfl,?_⟩,trivial⟩
   ·refine e' rfl ?_
    refine E0.step rfl (j0:=1) (js:=[3]) (by kernel_rfl) ⟨⟨_,rfl,?_⟩,⟨_,rfl,?_⟩,trivial⟩
    ·refine e' rfl ?_
     refine E0.step rfl (j0:=3) (js:=[]) (by kernel_rfl) ⟨⟨_,rfl,?_⟩,trivial⟩
     refine g' [0] ((ih4 _ _ hx3).ok) rfl rfl rfl rfl rfl rfl (n' ?_)
     refine E0.step rfl (j0:=4) (js:=[]) (by kernel_rfl) ⟨⟨_,rfl,?_⟩,trivial⟩
     refine F0.be hC rfl (A0.rows_map [o3,x3.1]).symm (n' ?_)
     refine E0.step rfl (j0:=5) (js:=[]) (by kernel_rfl) ⟨⟨_,rfl,?_⟩,trivial⟩
     refine e' rfl ?_
     refine E0.step rfl (j0:=6) (js:=[]) (by kernel_rfl) ⟨⟨_,rfl,?_⟩,trivial⟩
     refine F0.s hC rfl (n' (E0.nil (by kernel_rfl) ?_))
     refine W0.wk ?_ (ih3 _ _ _ hh)
     exact ⟨⟨⟨.rfl,rfl⟩,⟨.rfl,rfl⟩,⟨.rfl,rfl⟩,⟨.rfl,rfl⟩,trivial⟩,⟨⟨rfl,.refl _,rfl⟩,⟨rfl,.refl _,rfl⟩,⟨rfl,.refl _,rfl⟩,⟨rfl,⟨.rfl,.rfl,.rfl,.full,trivial⟩,rfl⟩,trivial⟩,rfl⟩
    ·refine g' [0] ((ih4 _ _ hx3).ok) rfl rfl rfl rfl rfl rfl (n' ?_)
     refine E0.step rfl (j0:=1) (js:=[]) (by kernel_rfl) ⟨⟨_,rfl,?_⟩,trivial⟩
     refine e' rfl ?_
     refine E0.step rfl (j0:=4) (js:=[]) (by kernel_rfl) ⟨⟨_,rfl,?_⟩,trivial⟩
     refine F0.be hC rfl (A0.rows_map [o3,x3.1]).symm (n' ?_)
     refine E0.step rfl (j0:=5) (js:=[]) (by kernel_rfl) ⟨⟨_,rfl,?_⟩,trivial⟩
     refine e' rfl ?_
     refine E0.step rfl (j0:=6) (js:=[]) (by kernel_rfl) ⟨⟨_,rfl,?_⟩,trivial⟩
     refine F0.s hC rfl (n' (E0.nil (by kernel_rfl) ?_))
     refine W0.wk ?_ (ih3 _ _ _ hh)
     exact ⟨⟨⟨.rfl,rfl⟩,⟨.rfl,rfl⟩,⟨.rfl,rfl⟩,⟨.rfl,rfl⟩,trivial⟩,⟨⟨rfl,.refl _,rfl⟩,⟨rfl,.refl _,rfl⟩,⟨rfl,.refl _,rfl⟩,⟨rfl,⟨.rfl,.rfl,.rfl,.full,trivial⟩,rfl⟩,trivial⟩,rfl⟩
   ·refine e' rfl ?_
    refine E0.step rfl (j0:=0) (js:=[3]) (by kernel_rfl) ⟨⟨_,rfl,?_⟩,⟨_,rfl,?_⟩,trivial⟩
    ·refine e' rfl ?_
     refine E0.step rfl (j0:=3) (js:=[]) (by kernel_rfl) ⟨⟨_,rfl,?_⟩,trivial⟩
     refine g' [0] ((ih4 _ _ hx3).ok) rfl rfl rfl rfl rfl rfl (n' ?_)
     refine E0.step rfl (j0:=4) (js:=[]) (by kernel_rfl) ⟨⟨_,rfl,?_⟩,trivial⟩
     refine F0.be hC rfl (A0.rows_map [o3,x3.1]).symm (n' ?_)
     refine E0.step rfl (j0:=5) (js:=[]) (by kernel_rfl) ⟨⟨_,rfl,?_⟩,trivial⟩
     refine e' rfl ?_
     refine E0.step rfl (j0:=6) (js:=[]) (by kernel_rfl) ⟨⟨_,rfl,?_⟩,trivial⟩
     refine F0.s hC rfl (n' (E0.nil (by kernel_rfl) ?_))
     refine W0.wk ?_ (ih3 _ _ _ hh)
     exact ⟨⟨⟨.rfl,rfl⟩,⟨.rfl,rfl⟩,⟨.rfl,rfl⟩,⟨.rfl,rfl⟩,trivial⟩,⟨⟨rfl,.refl _,rfl⟩,⟨rfl,.refl _,rfl⟩,⟨rfl,.refl _,rfl⟩,⟨rfl,⟨.rfl,.rfl,.rfl,.full,trivial⟩,rfl⟩,trivial⟩,rfl⟩
    ·refine g' [0] ((ih4 _ _ hx3).ok) rfl rfl rfl rfl rfl rfl (n' ?_)
     refine E0.step rfl (j0:=0) (js:=[4]) (by kernel_rfl) ⟨⟨_,rfl,?_⟩,⟨_,rfl,?_⟩,trivial⟩
     ·refine e' rfl ?_
      refine E0.step rfl (j0:=4) (js:=[]) (by kernel_rfl) ⟨⟨_,rfl,?_⟩,trivial⟩
      refine F0.be hC rfl (A0.rows_map [o3,x3.1]).symm (n' ?_)
      refine E0.step rfl (j0:=5) (js:=[]) (by kernel_rfl) ⟨⟨_,rfl,?_⟩,trivial⟩
      refine e' rfl ?_
      refine E0.step rfl (j0:=6) (js:=[]) (by kernel_rfl) ⟨⟨_,rfl,?_⟩,trivial⟩
      refine F0.s hC rfl (n' (E0.nil (by kernel_rfl) ?_))
      refine W0.wk ?_ (ih3 _ _ _ hh)
      exact ⟨⟨⟨.rfl,rfl⟩,⟨.rfl,rfl⟩,⟨.rfl,rfl⟩,⟨.rfl,rfl⟩,trivial⟩,⟨⟨rfl,.refl _,rfl⟩,⟨rfl,.refl _,rfl⟩,⟨rfl,.refl _,rfl⟩,⟨rfl,⟨.rfl,.rfl,.rfl,.full,trivial⟩,rfl⟩,trivial⟩,rfl⟩
     ·refine F0.be hC rfl (A0.rows_map [o3,x3.1]).symm (n' ?_)
      refine E0.step rfl (j0:=0) (js:=[]) (by kernel_rfl) ⟨⟨_,rfl,?_⟩,trivial⟩
      refine e' rfl ?_
      refine E0.step rfl (j0:=5) (js:=[]) (by kernel_rfl) ⟨⟨_,rfl,?_⟩,trivial⟩
      refine e' rfl ?_
      refine E0.step rfl (j0:=6) (js:=[]) (by kernel_rfl) ⟨⟨_,rfl,?_⟩,trivial⟩
      refine F0.s hC rfl (n' (E0.nil (by kernel_rfl) ?_))
      refine W0.wk ?_ (ih3 _ _ _ hh)
      exact ⟨⟨⟨.rfl,rfl⟩,⟨.rfl,rfl⟩,⟨.rfl,rfl⟩,⟨.rfl,rfl⟩,trivial⟩,⟨⟨rfl,.refl _,rfl⟩,⟨rfl,.refl _,rfl⟩,⟨rfl,.refl _,rfl⟩,⟨rfl,⟨.rfl,.rfl,.rfl,.full,trivial⟩,rfl⟩,trivial⟩,rfl⟩
   ·refine g' [0] ((ih4 _ _ hx3).ok) rfl rfl rfl rfl rfl rfl (n' ?_)
    refine E0.step rfl (j0:=0) (js:=[1]) (by kernel_rfl) ⟨⟨_,rfl,?_⟩,⟨_,rfl,?_⟩,trivial⟩
    ·refine e' rfl ?_
     refine E0.step rfl (j0:=1) (js:=[]) (by kernel_rfl) ⟨⟨_,rfl,?_⟩,trivial⟩
     refine e' rfl ?_
     refine E0.step rfl (j0:=4) (js:=[]) (by kernel_rfl) ⟨⟨_,rfl,?_⟩,trivial⟩
     refine F0.be hC rfl (A0.rows_map [o3,x3.1]).symm (n' ?_)
     refine E0.step rfl (j0:=5) (js:=[]) (by kernel_rfl) ⟨⟨_,rfl,?_⟩,trivial⟩
     refine e' rfl ?_
     refine E0.step rfl (j0:=6) (js:=[]) (by kernel_rfl) ⟨⟨_,rfl,?_⟩,trivial⟩
     refine F0.s hC rfl (n' (E0.nil (by kernel_rfl) ?_))
     refine W0.wk ?_ (ih3 _ _ _ hh)
     exact ⟨⟨⟨.rfl,rfl⟩,⟨.rfl,rfl⟩,⟨.rfl,rfl⟩,⟨.rfl,rfl⟩,trivial⟩,⟨⟨rfl,.refl _,rfl⟩,⟨rfl,.refl _,rfl⟩,⟨rfl,.refl _,rfl⟩,⟨rfl,⟨.rfl,.rfl,.rfl,.full,trivial⟩,rfl⟩,trivial⟩,rfl⟩
    ·refine e' rfl ?_
     refine E0.step rfl (j0:=0) (js:=[4]) (by kernel_rfl) ⟨⟨_,rfl,?_⟩,⟨_,rfl,?_⟩,trivial⟩
     ·refine e' rfl ?_
      refine E0.step rfl (j0:=4) (js:=[]) (by kernel_rfl) ⟨⟨_,rfl,?_⟩,trivial⟩
      refine F0.be hC rfl (A0.rows_map [o3,x3.1]).symm (n' ?_)
      refine E0.step rfl (j0:=5) (js:=[]) (by kernel_rfl) ⟨⟨_,rfl,?_⟩,trivial⟩
      refine e' rfl ?_
      refine E0.step rfl (j0:=6) (js:=[]) (by kernel_rfl) ⟨⟨_,rfl,?_⟩,trivial⟩
      refine F0.s hC rfl (n' (E0.nil (by kernel_rfl) ?_))
      refine W0.wk ?_ (ih3 _ _ _ hh)
      exact ⟨⟨⟨.rfl,rfl⟩,⟨.rfl,rfl⟩,⟨.rfl,rfl⟩,⟨.rfl,rfl⟩,trivial⟩,⟨⟨rfl,.refl _,rfl⟩,⟨rfl,.refl _,rfl⟩,⟨rfl,.refl _,rfl⟩,⟨rfl,⟨.rfl,.rfl,.rfl,.full,trivial⟩,rfl⟩,trivial⟩,rfl⟩
     ·refine F0.be hC rfl (A0.rows_map [o3,x3.1]).symm (n' ?_)
      refine E0.step rfl (j0:=0) (js:=[]) (by kernel_rfl) ⟨⟨_,rfl,?_⟩,trivial⟩
      refine e' rfl ?_
      refine E0.step rfl (j0:=5) (js:=[]) (by kernel_rfl) ⟨⟨_,rfl,?_⟩,trivial⟩
      refine e' rfl ?_
      refine E0.step rfl (j0:=6) (js:=[]) (by kernel_rfl) ⟨⟨_,rfl,?_⟩,trivial⟩
      refine F0.s hC rfl (n' (E0.nil (by kernel_rfl) ?_))
      refine W0.wk ?_ (ih3 _ _ _ hh)
      exact ⟨⟨⟨.rfl,rfl⟩,⟨.rfl,rfl⟩,⟨.rfl,rfl⟩,⟨.rfl,rfl⟩,trivial⟩,⟨⟨rfl,.refl _,rfl⟩,⟨rfl,.refl _,rfl⟩,⟨rfl,.refl _,rfl⟩,⟨rfl,⟨.rfl,.rfl,.rfl,.full,trivial⟩,rfl⟩,trivial⟩,rfl⟩
 ·intro g5 ih5 parserParser res hh
  refine E2.intro hC Tryz.func111 rfl rfl rfl (s' rfl rfl (F0.n hC rfl (F0.nf hC rfl (n' (p' 4 rfl ?_)))))
  rcases bp' hh with ⟨nn,hx1,⟨⟩⟩ | ⟨x1,hx1,hh⟩
  ·exact gn' [0,1] (ih5 _ _ hx1) rfl rfl rfl rfl rfl (fun hi=>peW ⟨trivial,trivial⟩ rfl hi)
  cases hh
  exact g' [0,1] ((ih5 _ _ hx1).ok) rfl rfl rfl rfl rfl rfl (F0.s hC rfl (n' (re' (rt' rfl rfl rfl))))
 ·intro g6 g7 ih6 ih7 parserParser res hh
  refine E2.intro hC Tryz.func110 rfl rfl rfl (s' rfl rfl (F0.nf hC rfl (n' (p' 1 rfl ?_))))
  rcases bp' hh with ⟨nn,hx1,⟨⟩⟩ | ⟨x1,hx1,hh⟩
  ·exact gn' [0] (ih7 _ _ hx1) rfl rfl rfl rfl rfl (fun hi=>peW ⟨trivial,⟨rfl,.refl _,rfl⟩,trivial⟩ rfl hi)
  exact g' [0] ((ih7 _ _ hx1).ok) rfl rfl rfl rfl rfl rfl (F0.nf hC rfl (F0.s hC rfl (n' (bk' (fw' (ih6 _ _ _ hh) rfl rfl rfl)))))
 ·intro g6 g7 ih6 ih7 o0 o3 res hh
  obtain ⟨x2,hx2,hh⟩:=bs' hh
  refine W0.unroll (bk' (p' 1 rfl (g' [1,0] (Az hx2) rfl rfl rfl rfl rfl rfl (e' rfl (S' (t' rfl (ci' rfl hh (fun hh=>?_) (fun hh=>?_))))))))
  ·cases hh
   exact p' 1 rfl (F0.s hC rfl (n' (re' (rt' rfl rfl rfl))))
  refine sk' ?_
  rcases bp' hh with ⟨nn,hx3,⟨⟩⟩ | ⟨x3,hx3,hh⟩
  ·refine AEx.drawE hC ?_
   refine E0.step rfl (j0:=0) (js:=[1,2]) (by kernel_rfl) ⟨⟨_,rfl,?_⟩,⟨_,rfl,?_⟩,⟨_,rfl,?_⟩,trivial⟩
   ·refine e' rfl ?_
    refine E0.step rfl (j0:=1) (js:=[2]) (by kernel_rfl) ⟨⟨_,rfl,?_⟩,⟨_,rfl,?_⟩,trivial⟩
    ·refine e' rfl ?_
     refine E0.step rfl (j0:=2) (js:=[]) (by kernel_rfl) ⟨⟨_,rfl,?_⟩,trivial⟩
     refine e' rfl ?_
     refine E0.step rfl (j0:=3) (js:=[]) (by kernel_rfl) ⟨⟨_,rfl,?_⟩,trivial⟩
     exact gn' [0] (ih7 _ _ hx3) rfl rfl rfl rfl rfl (fun hi=>peW ⟨trivial,⟨rfl,.refl _,rfl⟩,trivial⟩ rfl hi)
    ·refine e' rfl ?_
     refine E0.step rfl (j0:=1) (js:=[3]) (by kernel_rfl) ⟨⟨_,rfl,?_⟩,⟨_,rfl,?_⟩,trivial⟩
     ·refine e' rfl ?_
      refine E0.step rfl (j0:=3) (js:=[]) (by kernel_rfl) ⟨⟨_,rfl,?_⟩,trivial⟩
      exact gn' [0] (ih7 _ _ hx3) rfl rfl rfl rfl rfl (fun hi=>peW ⟨trivial,⟨rfl,.refl _,rfl⟩,trivial⟩ rfl hi)
     ·exact gn' [0] (ih7 _ _ hx3) rfl rfl rfl rfl rfl (fun hi=>peW ⟨trivial,⟨rfl,.refl _,rfl⟩,trivial⟩ rfl hi)
   ·refine e' rfl ?_
    refine E0.step rfl (j0:=0) (js:=[2]) (by kernel_rfl) ⟨⟨_,rfl,?_⟩,⟨_,rfl,?_⟩,trivial⟩
    ·refine e' rfl ?_
     refine E0.step rfl (j0:=2) (js:=[]) (by kernel_rfl) ⟨⟨_,rfl,?_⟩,trivial⟩
     refine e' rfl ?_
     refine E0.step rfl (j0:=3) (js:=[]) (by kernel_rfl) ⟨⟨_,rfl,?_⟩,trivial⟩
     exact gn' [0] (ih7 _ _ hx3) rfl rfl rfl rfl rfl (fun hi=>peW ⟨trivial,⟨rfl,.refl _,rfl⟩,trivial⟩ rfl hi)
    ·refine e' rfl ?_
     refine E0.step rfl (j0:=0) (js:=[3]) (by kernel_rfl) ⟨⟨_,rfl,?_⟩,⟨_,rfl,?_⟩,trivial⟩
     ·refine e' rfl ?_
      refine E0.step rfl (j0:=3) (js:=[]) (by kernel_rfl) ⟨⟨_,rfl,?_⟩,trivial⟩
      exact gn' [0] (ih7 _ _ hx3) rfl rfl rfl rfl rfl (fun hi=>peW ⟨trivial,⟨rfl,.refl _,rfl⟩,trivial⟩ rfl hi)
     ·exact gn' [0] (ih7 _ _ hx3) rfl rfl rfl rfl rfl (fun hi=>peW ⟨trivial,⟨rfl,.refl _,rfl⟩,trivial⟩ rfl hi)
   ·refine e' rfl ?_
    refine E0.step rfl (j0:=0) (js:=[1,3]) (by kernel_rfl) ⟨⟨_,rfl,?_⟩,⟨_,rfl,?_⟩,⟨_,rfl,?_⟩,trivial⟩
    ·refine e' rfl ?_
     refine E0.step rfl (j0:=1) (js:=[3]) (by kernel_rfl) ⟨⟨_,rfl,?_⟩,⟨_,rfl,?_⟩,trivial⟩
     ·refine e' rfl ?_
      refine E0.step rfl (j0:=3) (js:=[]) (by kernel_rfl) ⟨⟨_,rfl,?_⟩,trivial⟩
      exact gn' [0] (ih7 _ _ hx3) rfl rfl rfl rfl rfl (fun hi=>peW ⟨trivial,⟨rfl,.refl _,rfl⟩,trivial⟩ rfl hi)
     ·exact gn' [0] (ih7 _ _ hx3) rfl rfl rfl rfl rfl (fun hi=>peW ⟨trivial,⟨rfl,.refl _,rfl⟩,trivial⟩ rfl hi)
    ·refine e' rfl ?_
     refine E0.step rfl (j0:=0) (js:=[3]) (by kernel_rfl) ⟨⟨_,rfl,?_⟩,⟨_,rfl,?_⟩,trivial⟩
     ·refine e' rfl ?_
      refine E0.step rfl (j0:=3) (js:=[]) (by kernel_rfl) ⟨⟨_,rfl,?_⟩,trivial⟩
      exact gn' [0] (ih7 _ _ hx3) rfl rfl rfl rfl rfl (fun hi=>peW ⟨trivial,⟨rfl,.refl _,rfl⟩,trivial⟩ rfl hi)
     ·exact gn' [0] (ih7 _ _ hx3) rfl rfl rfl rfl rfl (fun hi=>peW ⟨trivial,⟨rfl,.refl _,rfl⟩,trivial⟩ rfl hi)
    ·exact gn' [0] (ih7 _ _ hx3) rfl rfl rfl rfl rfl (fun hi=>peW ⟨trivial,⟨rfl,.refl _,rfl⟩,trivial⟩ rfl hi)
  refine AEx.drawE hC ?_
  refine E0.step rfl (j0:=0) (js:=[1,2]) (by kernel_rfl) ⟨⟨_,rfl,?_⟩,⟨_,rfl,?_⟩,⟨_,rfl,?_⟩,trivial⟩
  ·refine e' rfl ?_
   refine E0.step rfl (j0:=1) (js:=[2]) (by kernel_rfl) ⟨⟨_,rfl,?_⟩,⟨_,rfl,?_⟩,trivial⟩
   ·refine e' rfl ?_
    refine E0.step rfl (j0:=2) (js:=[]) (by kernel_rfl) ⟨⟨_,rfl,?_⟩,trivial⟩
    refine e' rfl ?_
    refine E0.step rfl (j0:=3) (js:=[]) (by kernel_rfl) ⟨⟨_,rfl,?_⟩,trivial⟩
    refine g' [0] ((ih7 _ _ hx3).ok) rfl rfl rfl rfl rfl rfl (n' ?_)
    refine E0.step rfl (j0:=4) (js:=[]) (by kernel_rfl) ⟨⟨_,rfl,?_⟩,trivial⟩
    refine F0.be hC rfl (A0.rows_map [o3,x3.1]).symm (n' ?_)
    refine E0.step rfl (j0:=5) (js:=[]) (by kernel_rfl) ⟨⟨_,rfl,?_⟩,trivial⟩
    refine e' rfl ?_
    refine E0.step rfl (j0:=6) (js:=[]) (by kernel_rfl) ⟨⟨_,rfl,?_⟩,trivial⟩
    refine F0.s hC rfl (n' (E0.nil (by kernel_rfl) ?_))
    refine W0.wk ?_ (ih6 _ _ _ hh)
    exact ⟨⟨⟨.rfl,rfl⟩,⟨.rfl,rfl⟩,⟨.rfl,rfl⟩,⟨.rfl,rfl⟩,trivial⟩,⟨⟨rfl,.refl _,rfl⟩,⟨rfl,.refl _,rfl⟩,⟨rfl,.refl _,rfl⟩,⟨rfl,⟨.rfl,.rfl,.rfl,.full,trivial⟩,rfl⟩,trivial⟩,rfl⟩
   ·refine e' rfl ?_
    refine E0.step rfl (j0:=1) (js:=[3]) (by kernel_rfl) ⟨⟨_,rfl,?_⟩,⟨_,rfl,?_⟩,trivial⟩
    ·refine e' rfl ?_
     refine E0.step rfl (j0:=3) (js:=[]) (by kernel_rfl) ⟨⟨_,rfl,?_⟩,trivial⟩
     refine g' [0] ((ih7 _ _ hx3).ok) rfl rfl rfl rfl rfl rfl (n' ?_)
     refine E0.step rfl (j0:=4) (js:=[]) (by kernel_rfl) ⟨⟨_,rfl,?_⟩,trivial⟩
     refine F0.be hC rfl (A0.rows_map [o3,x3.1]).symm (n' ?_)
     refine E0.step rfl (j0:=5) (js:=[]) (by kernel_rfl) ⟨⟨_,rfl,?_⟩,trivial⟩
     refine e' rfl ?_
     refine E0.step rfl (j0:=6) (js:=[]) (by kernel_rfl) ⟨⟨_,rfl,?_⟩,trivial⟩
     refine F0.s hC rfl (n' (E0.nil (by kernel_rfl) ?_))
     refine W0.wk ?_ (ih6 _ _ _ hh)
     exact ⟨⟨⟨.rfl,rfl⟩,⟨.rfl,rfl⟩,⟨.rfl,rfl⟩,⟨.rfl,rfl⟩,trivial⟩,⟨⟨rfl,.refl _,rfl⟩,⟨rfl,.refl _,rfl⟩,⟨rfl,.refl _,rfl⟩,⟨rfl,⟨.rfl,.rfl,.rfl,.full,trivial⟩,rfl⟩,trivial⟩,rfl⟩
    ·refine g' [0] ((ih7 _ _ hx3).ok) rfl rfl rfl rfl rfl rfl (n' ?_)
     refine E0.step rfl (j0:=1) (js:=[]) (by kernel_rfl) ⟨⟨_,rfl,?_⟩,trivial⟩
     refine e' rfl ?_
     refine E0.step rfl (j0:=4) (js:=[]) (by kernel_rfl) ⟨⟨_,rfl,?_⟩,trivial⟩
     refine F0.be hC rfl (A0.rows_map [o3,x3.1]).symm (n' ?_)
     refine E0.step rfl (j0:=5) (js:=[]) (by kernel_rfl) ⟨⟨_,rfl,?_⟩,trivial⟩
     refine e' rfl ?_
     refine E0.step rfl (j0:=6) (js:=[]) (by kernel_rfl) ⟨⟨_,rfl,?_⟩,trivial⟩
     refine F0.s hC rfl (n' (E0.nil (by kernel_rfl) ?_))
     refine W0.wk ?_ (ih6 _ _ _ hh)
     exact ⟨⟨⟨.rfl,rfl⟩,⟨.rfl,rfl⟩,⟨.rfl,rfl⟩,⟨.rfl,rfl⟩,trivial⟩,⟨⟨rfl,.refl _,rfl⟩,⟨rfl,.refl _,rfl⟩,⟨rfl,.refl _,rfl⟩,⟨rfl,⟨.rfl,.rfl,.rfl,.full,trivial⟩,rfl⟩,trivial⟩,rfl⟩
  ·refine e' rfl ?_
   refine E0.step rfl (j0:=0) (js:=[2]) (by kernel_rfl) ⟨⟨_,rfl,?_⟩,⟨_,rfl,?_⟩,trivial⟩
   ·refine e' rfl ?_
    refine E0.step rfl (j0:=2) (js:=[]) (by kernel_rfl) ⟨⟨_,rfl,?_⟩,trivial⟩
    refine e' rfl ?_
    refine E0.step rfl (j0:=3) (js:=[]) (by kernel_rfl) ⟨⟨_,rfl,?_⟩,trivial⟩
    refine g' [0] ((ih7 _ _ hx3).ok) rfl rfl rfl rfl rfl rfl (n' ?_)
    refine E0.step rfl (j0:=4) (js:=[]) (by kernel_rfl) ⟨⟨_,rfl,?_⟩,trivial⟩
    refine F0.be hC rfl (A0.rows_map [o3,x3.1]).symm (n' ?_)
    refine E0.step rfl (j0:=5) (js:=[]) (by kernel_rfl) ⟨⟨_,rfl,?_⟩,trivial⟩
    refine e' rfl ?_
    refine E0.step rfl (j0:=6) (js:=[]) (by kernel_rfl) ⟨⟨_,rfl,?_⟩,trivial⟩
    refine F0.s hC rfl (n' (E0.nil (by kernel_rfl) ?_))
    refine W0.wk ?_ (ih6 _ _ _ hh)
    exact ⟨⟨⟨.rfl,rfl⟩,⟨.rfl,rfl⟩,⟨.rfl,rfl⟩,⟨.rfl,rfl⟩,trivial⟩,⟨⟨rfl,.refl _,rfl⟩,⟨rfl,.refl _,rfl⟩,⟨rfl,.refl _,rfl⟩,⟨rfl,⟨.rfl,.rfl,.rfl,.full,trivial⟩,rfl⟩,trivial⟩,rfl⟩
   ·refine e' rfl ?_
    refine E0.step rfl (j0:=0) (js:=[3]) (by kernel_rfl) ⟨⟨_,rfl,?_⟩,⟨_,rfl,?_⟩,trivial⟩
    ·refine e' rfl ?_
     refine E0.step rfl (j0:=3) (js:=[]) (by kernel_rfl) ⟨⟨_,rfl,?_⟩,trivial⟩
     refine g' [0] ((ih7 _ _ hx3).ok) rfl rfl rfl rfl rfl rfl (n' ?_)
     refine E0.step rfl (j0:=4) (js:=[]) (by kernel_rfl) ⟨⟨_,rfl,?_⟩,trivial⟩
     refine F0.be hC rfl (A0.rows_map [o3,x3.1]).symm (n' ?_)
     refine E0.step rfl (j0:=5) (js:=[]) (by kernel_rfl) ⟨⟨_,rfl,?_⟩,trivial⟩
     refine e' rfl ?_
     refine E0.step rfl (j0:=6) (js:=[]) (by kernel_rfl) ⟨⟨_,rfl,?_⟩,trivial⟩
     refine F0.s hC rfl (n' (E0.nil (by kernel_rfl) ?_))
     refine W0.wk ?_ (ih6 _ _ _ hh)
     exact ⟨⟨⟨.rfl,rfl⟩,⟨.rfl,rfl⟩,⟨.rfl,rfl⟩,⟨.rfl,rfl⟩,trivial⟩,⟨⟨rfl,.refl _,rfl⟩,⟨rfl,.refl _,rfl⟩,⟨rfl,.refl _,rfl⟩,⟨rfl,⟨.rfl,.rfl,.rfl,.full,trivial⟩,rfl⟩,trivial⟩,rfl⟩
    ·refine g' [0] ((ih7 _ _ hx3).ok) rfl rfl rfl rfl rfl rfl (n' ?_)
     refine E0.step rfl (j0:=0) (js:=[4]) (by kernel_rfl) ⟨⟨_,rfl,?_⟩,⟨_,rfl,?_⟩,trivial⟩
     ·refine e' rfl ?_
      refine E0.step rfl (j0:=4) (js:=[]) (by kernel_rfl) ⟨⟨_,rfl,?_⟩,trivial⟩
      refine F0.be hC rfl (A0.rows_map [o3,x3.1]).symm (n' ?_)
      refine E0.step rfl (j0:=5) (js:=[]) (by kernel_rfl) ⟨⟨_,rfl,?_⟩,trivial⟩
      refine e' rfl ?_
      refine E0.step rfl (j0:=6) (js:=[]) (by kernel_rfl) ⟨⟨_,rfl,?_⟩,trivial⟩
      refine F0.s hC rfl (n' (E0.nil (by kernel_rfl) ?_))
      refine W0.wk ?_ (ih6 _ _ _ hh)
      exact ⟨⟨⟨.rfl,rfl⟩,⟨.rfl,rfl⟩,⟨.rfl,rfl⟩,⟨.rfl,rfl⟩,trivial⟩,⟨⟨rfl,.refl _,rfl⟩,⟨rfl,.refl _,rfl⟩,⟨rfl,.refl _,rfl⟩,⟨rfl,⟨.rfl,.rfl,.rfl,.full,trivial⟩,rfl⟩,trivial⟩,rfl⟩
     ·refine F0.be hC rfl (A0.rows_map [o3,x3.1]).symm (n' ?_)
      refine E0.step rfl (j0:=0) (js:=[]) (by kernel_rfl) ⟨⟨_,rfl,?_⟩,trivial⟩
      refine e' rfl ?_
      refine E0.step rfl (j0:=5) (js:=[]) (by kernel_rfl) ⟨⟨_,rfl,?_⟩,trivial⟩
      refine e' rfl ?_
      refine E0.step rfl (j0:=6) (js:=[]) (by kernel_rfl) ⟨⟨_,rfl,?_⟩,trivial⟩
      refine F0.s hC rfl (n' (E0.nil (by kernel_rfl) ?_))
      refine W0.wk ?_ (ih6 _ _ _ hh)
      exact ⟨⟨⟨.rfl,rfl⟩,⟨.rfl,rfl⟩,⟨.rfl,rfl⟩,⟨.rfl,rfl⟩,trivial⟩,⟨⟨rfl,.refl _,rfl⟩,⟨rfl,.refl _,rfl⟩,⟨rfl,.refl _,rfl⟩,⟨rfl,⟨.rfl,.rfl,.rfl,.full,trivial⟩,rfl⟩,trivial⟩,rfl⟩
  ·refine e' rfl ?_
   refine E0.step rfl (j0:=0) (js:=[1,3]) (by kernel_rfl) ⟨⟨_,rfl,?_⟩,⟨_,rfl,?_⟩,⟨_,rfl,?_⟩,trivial⟩
   ·refine e' rfl ?_
    refine E0.step rfl (j0:=1) (js:=[3]) (by kernel_rfl) ⟨⟨_,rfl,?_⟩,⟨_,rfl,?_⟩,trivial⟩
    ·refine e' rfl ?_
     refine E0.step rfl (j0:=3) (js:=[]) (by kernel_rfl) ⟨⟨_,rfl,?_⟩,trivial⟩
     refine g' [0] ((ih7 _ _ hx3).ok) rfl rfl rfl rfl rfl rfl (n' ?_)
     refine E0.step rfl (j0:=4) (js:=[]) (by kernel_rfl) ⟨⟨_,rfl,?_⟩,trivial⟩
     refine F0.be hC rfl (A0.rows_map [o3,x3.1]).symm (n' ?_)
     refine E0.step rfl (j0:=5) (js:=[]) (by kernel_rfl) ⟨⟨_,rfl,?_⟩,trivial⟩
     refine e' rfl ?_
     refine E0.step rfl (j0:=6) (js:=[]) (by kernel_rfl) ⟨⟨_,rfl,?_⟩,trivial⟩
     refine F0.s hC rfl (n' (E0.nil (by kernel_rfl) ?_))
     refine W0.wk ?_ (ih6 _ _ _ hh)
     exact ⟨⟨⟨.rfl,rfl⟩,⟨.rfl,rfl⟩,⟨.rfl,rfl⟩,⟨.rfl,rfl⟩,trivial⟩,⟨⟨rfl,.refl _,rfl⟩,⟨rfl,.refl _,rfl⟩,⟨rfl,.refl _,rfl⟩,⟨rfl,⟨.rfl,.rfl,.rfl,.full,trivial⟩,rfl⟩,trivial⟩,rfl⟩
    ·refine g' [0] ((ih7 _ _ hx3).ok) rfl rfl rfl rfl rfl rfl (n' ?_)
     refine E0.step rfl (j0:=1) (js:=[]) (by kernel_rfl) ⟨⟨_,rfl,?_⟩,trivial⟩
     refine e' rfl ?_
     refine E0.step rfl (j0:=4) (js:=[]) (by kernel_rfl) ⟨⟨_,rfl,?_⟩,trivial⟩
     refine F0.be hC rfl (A0.rows_map [o3,x3.1]).symm (n' ?_)
     refine E0.step rfl (j0:=5) (js:=[]) (by kernel_rfl) ⟨⟨_,rfl,?_⟩,trivial⟩
     refine e' rfl ?_
     refine E0.step rfl (j0:=6) (js:=[]) (by kernel_rfl) ⟨⟨_,rfl,?_⟩,trivial⟩
     refine F0.s hC rfl (n' (E0.nil (by kernel_rfl) ?_))
     refine W0.wk ?_ (ih6 _ _ _ hh)
     exact ⟨⟨⟨.rfl,rfl⟩,⟨.rfl,rfl⟩,⟨.rfl,rfl⟩,⟨.rfl,rfl⟩,trivial⟩,⟨⟨rfl,.refl _,rfl⟩,⟨rfl,.refl _,rfl⟩,⟨rfl,.refl _,rfl⟩,⟨rfl,⟨.rfl,.rfl,.rfl,.full,trivial⟩,rfl⟩,trivial⟩,rfl⟩
   ·refine e' rfl ?_
    refine E0.step rfl (j0:=0) (js:=[3]) (by kernel_rfl) ⟨⟨_,rfl,?_⟩,⟨_,rfl,?_⟩,trivial⟩
    ·refine e' rfl ?_
     refine E0.step rfl (j0:=3) (js:=[]) (by kernel_rfl) ⟨⟨_,rfl,?_⟩,trivial⟩
     refine g' [0] ((ih7 _ _ hx3).ok) rfl rfl rfl rfl rfl rfl (n' ?_)
     refine E0.step rfl (j0:=4) (js:=[]) (by kernel_rfl) ⟨⟨_,rfl,?_⟩,trivial⟩
     refine F0.be hC rfl (A0.rows_map [o3,x3.1]).symm (n' ?_)
     refine E0.step rfl (j0:=5) (js:=[]) (by kernel_rfl) ⟨⟨_,rfl,?_⟩,trivial⟩
     refine e' rfl ?_
     refine E0.step rfl (j0:=6) (js:=[]) (by kernel_rfl) ⟨⟨_,rfl,?_⟩,trivial⟩
     refine F0.s hC rfl (n' (E0.nil (by kernel_rfl) ?_))
     refine W0.wk ?_ (ih6 _ _ _ hh)
     exact ⟨⟨⟨.rfl,rfl⟩,⟨.rfl,rfl⟩,⟨.rfl,rfl⟩,⟨.rfl,rfl⟩,trivial⟩,⟨⟨rfl,.refl _,rfl⟩,⟨rfl,.refl _,rfl⟩,⟨rfl,.refl _,rfl⟩,⟨rfl,⟨.rfl,.rfl,.rfl,.full,trivial⟩,rfl⟩,trivial⟩,rfl⟩
    ·refine g' [0] ((ih7 _ _ hx3).ok) rfl rfl rfl rfl rfl rfl (n' ?_)
     refine E0.step rfl (j0:=0) (js:=[4]) (by kernel_rfl) ⟨⟨_,rfl,?_⟩,⟨_,rfl,?_⟩,trivial⟩
     ·refine e' rfl ?_
      refine E0.step rfl (j0:=4) (js:=[]) (by kernel_rfl) ⟨⟨_,rfl,?_⟩,trivial⟩
      refine F0.be hC rfl (A0.rows_map [o3,x3.1]).symm (n' ?_)
      refine E0.step rfl (j0:=5) (js:=[]) (by kernel_rfl) ⟨⟨_,rfl,?_⟩,trivial⟩
      refine e' rfl ?_
      refine E0.step rfl (j0:=6) (js:=[]) (by kernel_rfl) ⟨⟨_,rfl,?_⟩,trivial⟩
      refine F0.s hC rfl (n' (E0.nil (by kernel_rfl) ?_))
      refine W0.wk ?_ (ih6 _ _ _ hh)
      exact ⟨⟨⟨.rfl,rfl⟩,⟨.rfl,rfl⟩,⟨.rfl,rfl⟩,⟨.rfl,rfl⟩,trivial⟩,⟨⟨rfl,.refl _,rfl⟩,⟨rfl,.refl _,rfl⟩,⟨rfl,.refl _,rfl⟩,⟨rfl,⟨.rfl,.rfl,.rfl,.full,trivial⟩,rfl⟩,trivial⟩,rfl⟩
     ·refine F0.be hC rfl (A0.rows_map [o3,x3.1]).symm (n' ?_)
      refine E0.step rfl (j0:=0) (js:=[]) (by kernel_rfl) ⟨⟨_,rfl,?_⟩,trivial⟩
      refine e' rfl ?_
      refine E0.step rfl (j0:=5) (js:=[]) (by kernel_rfl) ⟨⟨_,rfl,?_⟩,trivial⟩
      refine e' rfl ?_
      refine E0.step rfl (j0:=6) (js:=[]) (by kernel_rfl) ⟨⟨_,rfl,?_⟩,trivial⟩
      refine F0.s hC rfl (n' (E0.nil (by kernel_rfl) ?_))
      refine W0.wk ?_ (ih6 _ _ _ hh)
      exact ⟨⟨⟨.rfl,rfl⟩,⟨.rfl,rfl⟩,⟨.rfl,rfl⟩,⟨.rfl,rfl⟩,trivial⟩,⟨⟨rfl,.refl _,rfl⟩,⟨rfl,.refl _,rfl⟩,⟨rfl,.refl _,rfl⟩,⟨rfl,⟨.rfl,.rfl,.rfl,.full,trivial⟩,rfl⟩,trivial⟩,rfl⟩
   ·refine g' [0] ((ih7 _ _ hx3).ok) rfl rfl rfl rfl rfl rfl (n' ?_)
    refine E0.step rfl (j0:=0) (js:=[1]) (by kernel_rfl) ⟨⟨_,rfl,?_⟩,⟨_,rfl,?_⟩,trivial⟩
    ·refine e' rfl ?_
     refine E0.step rfl (j0:=1) (js:=[]) (by kernel_rfl) ⟨⟨_,rfl,?_⟩,trivial⟩
     refine e' rfl ?_
     refine E0.step rfl (j0:=4) (js:=[]) (by kernel_rfl) ⟨⟨_,rfl,?_⟩,trivial⟩
     refine F0.be hC rfl (A0.rows_map [o3,x3.1]).symm (n' ?_)
     refine E0.step rfl (j0:=5) (js:=[]) (by kernel_rfl) ⟨⟨_,rfl,?_⟩,trivial⟩
     refine e' rfl ?_
     refine E0.step rfl (j0:=6) (js:=[]) (by kernel_rfl) ⟨⟨_,rfl,?_⟩,trivial⟩
     refine F0.s hC rfl (n' (E0.nil (by kernel_rfl) ?_))
     refine W0.wk ?_ (ih6 _ _ _ hh)
     exact ⟨⟨⟨.rfl,rfl⟩,⟨.rfl,rfl⟩,⟨.rfl,rfl⟩,⟨.rfl,rfl⟩,trivial⟩,⟨⟨rfl,.refl _,rfl⟩,⟨rfl,.refl _,rfl⟩,⟨rfl,.refl _,rfl⟩,⟨rfl,⟨.rfl,.rfl,.rfl,.full,trivial⟩,rfl⟩,trivial⟩,rfl⟩
    ·refine e' rfl ?_
     refine E0.step rfl (j0:=0) (js:=[4]) (by kernel_rfl) ⟨⟨_,rfl,?_⟩,⟨_,rfl,?_⟩,trivial⟩
     ·refine e' rfl ?_
      refine E0.step rfl (j0:=4) (js:=[]) (by kernel_rfl) ⟨⟨_,rfl,?_⟩,trivial⟩
      refine F0.be hC rfl (A0.rows_map [o3,x3.1]).symm (n' ?_)
      refine E0.step rfl (j0:=5) (js:=[]) (by kernel_rfl) ⟨⟨_,rfl,?_⟩,trivial⟩
      refine e' rfl ?_
      refine E0.step rfl (j0:=6) (js:=[]) (by kernel_rfl) ⟨⟨_,rfl,?_⟩,trivial⟩
      refine F0.s hC rfl (n' (E0.nil (by kernel_rfl) ?_))
      refine W0.wk ?_ (ih6 _ _ _ hh)
      exact ⟨⟨⟨.rfl,rfl⟩,⟨.rfl,rfl⟩,⟨.rfl,rfl⟩,⟨.rfl,rfl⟩,trivial⟩,⟨⟨rfl,.refl _,rfl⟩,⟨rfl,.refl _,rfl⟩,⟨rfl,.refl _,rfl⟩,⟨rfl,⟨.rfl,.rfl,.rfl,.full,trivial⟩,rfl⟩,trivial⟩,rfl⟩
     ·refine F0.be hC rfl (A0.rows_map [o3,x3.1]).symm (n' ?_)
      refine E0.step rfl (j0:=0) (js:=[]) (by kernel_rfl) ⟨⟨_,rfl,?_⟩,trivial⟩
      refine e' rfl ?_
      refine E0.step rfl (j0:=5) (js:=[]) (by kernel_rfl) ⟨⟨_,rfl,?_⟩,trivial⟩
      refine e' rfl ?_
      refine E0.step rfl (j0:=6) (js:=[]) (by kernel_rfl) ⟨⟨_,rfl,?_⟩,trivial⟩
      refine F0.s hC rfl (n' (E0.nil (by kernel_rfl) ?_))
      refine W0.wk ?_ (ih6 _ _ _ hh)
      exact ⟨⟨⟨.rfl,rfl⟩,⟨.rfl,rfl⟩,⟨.rfl,rfl⟩,⟨.rfl,rfl⟩,trivial⟩,⟨⟨rfl,.refl _,rfl⟩,⟨rfl,.refl _,rfl⟩,⟨rfl,.refl _,rfl⟩,⟨rfl,⟨.rfl,.rfl,.rfl,.full,trivial⟩,rfl⟩,trivial⟩,rfl⟩
 ·intro g8 g9 ih8 ih9 parserParser res hh
  refine E2.intro hC Tryz.func166 rfl rfl rfl (s' rfl rfl (F0.nf hC rfl (n' (p' 1 rfl ?_))))
  rcases bp' hh with ⟨nn,hx1,⟨⟩⟩ | ⟨x1,hx1,hh⟩
  ·exact gn' [0] (ih9 _ _ hx1) rfl rfl rfl rfl rfl (fun hi=>peW ⟨trivial,trivial⟩ rfl hi)
  obtain ⟨x2,hx2,hh⟩:=bs' hh
  refine g' [0] ((ih9 _ _ hx1).ok) rfl rfl rfl rfl rfl rfl (F0.nf hC rfl (F0.s hC rfl (n' (t' rfl (S' (bk' (p' 1 rfl (g' [0] (S0 hx2) rfl rfl rfl rfl rfl rfl (e' rfl (ci' rfl hh (fun hh=>?_) (fun hh=>?_)))))))))))
  ·exact sk' (ew' (ih8 _ _ _ _ hh) rfl rfl rfl)
  obtain ⟨x4,hx4,hh⟩:=bs' hh
  refine p' 1 rfl (g' [0] (S0 hx4) rfl rfl rfl rfl rfl rfl (e' rfl (ci' rfl hh (fun hh=>?_) (fun hh=>?_))))
  ·exact T' rfl (ew' (ih8 _ _ _ _ hh) rfl rfl rfl)
  obtain ⟨x5,hx5,hh⟩:=bs' hh
  refine p' 1 rfl (g' [0] (S0 hx5) rfl rfl rfl rfl rfl rfl (e' rfl (ci' rfl hh (fun hh=>?_) (fun hh=>?_))))
  ·exact T' rfl (ew' (ih8 _ _ _ _ hh) rfl rfl rfl)
  obtain ⟨x6,hx6,hh⟩:=bs' hh
  refine p' 1 rfl (g' [0] (S0 hx6) rfl rfl rfl rfl rfl rfl (e' rfl (ci' rfl hh (fun hh=>?_) (fun hh=>?_))))
  ·exact T' rfl (ew' (ih8 _ _ _ _ hh) rfl rfl rfl)
  obtain ⟨x7,hx7,hh⟩:=bs' hh
  refine p' 1 rfl (g' [0] (S0 hx7) rfl rfl rfl rfl rfl rfl (e' rfl (ci' rfl hh (fun hh=>?_) (fun hh=>?_))))
  ·exact T' rfl (ew' (ih8 _ _ _ _ hh) rfl rfl rfl)
  obtain ⟨x8,hx8,hh⟩:=bs' hh
  refine p' 1 rfl (g' [0] (S0 hx8) rfl rfl rfl rfl rfl rfl (e' rfl (ci' rfl hh (fun hh=>?_) (fun hh=>?_))))
  ·exact T' rfl (ew' (ih8 _ _ _ _ hh) rfl rfl rfl)
  cases hh
  exact p' 1 rfl (F0.s hC rfl (n' (re' (rt' rfl rfl rfl))))
 ·intro g9 ih9 o0 x1 op res hh
  refine S' ?_
  rcases bp' hh with ⟨nn,hx3,⟨⟩⟩ | ⟨x3,hx3,hh⟩
  ·refine AEx.drawE hC ?_
   refine E0.step rfl (j0:=0) (js:=[1,2]) (by kernel_rfl) ⟨⟨_,rfl,?_⟩,⟨_,rfl,?_⟩,⟨_,rfl,?_⟩,trivial⟩
   ·refine e' rfl ?_
    refine E0.step rfl (j0:=1) (js:=[2]) (by kernel_rfl) ⟨⟨_,rfl,?_⟩,⟨_,rfl,?_⟩,trivial⟩
    ·refine e' rfl ?_
     refine E0.step rfl (j0:=2) (js:=[]) (by kernel_rfl) ⟨⟨_,rfl,?_⟩,trivial⟩
     refine e' rfl ?_
     refine E0.step rfl (j0:=3) (js:=[]) (by kernel_rfl) ⟨⟨_,rfl,?_⟩,trivial⟩
     exact gn' [0] (ih9 _ _ hx3) rfl rfl rfl rfl rfl (fun hi=>peW ⟨trivial,trivial⟩ rfl hi)
    ·refine e' rfl ?_
     refine E0.step rfl (j0:=1) (js:=[3]) (by kernel_rfl) ⟨⟨_,rfl,?_⟩,⟨_,rfl,?_⟩,trivial⟩
     ·refine e' rfl ?_
      refine E0.step rfl (j0:=3) (js:=[]) (by kernel_rfl) ⟨⟨_,rfl,?_⟩,trivial⟩
      exact gn' [0] (ih9 _ _ hx3) rfl rfl rfl rfl rfl (fun hi=>peW ⟨trivial,trivial⟩ rfl hi)
     ·exact gn' [0] (ih9 _ _ hx3) rfl rfl rfl rfl rfl (fun hi=>peW ⟨trivial,trivial⟩ rfl hi)
   ·refine e' rfl ?_
    refine E0.step rfl (j0:=0) (js:=[2]) (by kernel_rfl) ⟨⟨_,rfl,?_⟩,⟨_,rfl,?_⟩,trivial⟩
    ·refine e' rfl ?_
     refine E0.step rfl (j0:=2) (js:=[]) (by kernel_rfl) ⟨⟨_,rfl,?_⟩,trivial⟩
     refine e' rfl ?_
     refine E0.step rfl (j0:=3) (js:=[]) (by kernel_rfl) ⟨⟨_,rfl,?_⟩,trivial⟩
     exact gn' [0] (ih9 _ _ hx3) rfl rfl rfl rfl rfl (fun hi=>peW ⟨trivial,trivial⟩ rfl hi)
    ·refine e' rfl ?_
     refine E0.step rfl (j0:=0) (js:=[3]) (by kernel_rfl) ⟨⟨_,rfl,?_⟩,⟨_,rfl,?_⟩,trivial⟩
     ·refine e' rfl ?_
      refine E0.step rfl (j0:=3) (js:=[]) (by kernel_rfl) ⟨⟨_,rfl,?_⟩,trivial⟩
      exact gn' [0] (ih9 _ _ hx3) rfl rfl rfl rfl rfl (fun hi=>peW ⟨trivial,trivial⟩ rfl hi)
     ·exact gn' [0] (ih9 _ _ hx3) rfl rfl rfl rfl rfl (fun hi=>peW ⟨trivial,trivial⟩ rfl hi)
   ·refine e' rfl ?_
    refine E0.step rfl (j0:=0) (js:=[1,3]) (by kernel_rfl) ⟨⟨_,rfl,?_⟩,⟨_,rfl,?_⟩,⟨_,rfl,?_⟩,trivial⟩
    ·refine e' rfl ?_
     refine E0.step rfl (j0:=1) (js:=[3]) (by kernel_rfl) ⟨⟨_,rfl,?_⟩,⟨_,rfl,?_⟩,trivial⟩
     ·refine e' rfl ?_
      refine E0.step rfl (j0:=3) (js:=[]) (by kernel_rfl) ⟨⟨_,rfl,?_⟩,trivial⟩
      exact gn' [0] (ih9 _ _ hx3) rfl rfl rfl rfl rfl (fun hi=>peW ⟨trivial,trivial⟩ rfl hi)
     ·exact gn' [0] (ih9 _ _ hx3) rfl rfl rfl rfl rfl (fun hi=>peW ⟨trivial,trivial⟩ rfl hi)
    ·refine e' rfl ?_
     refine E0.step rfl (j0:=0) (js:=[3]) (by kernel_rfl) ⟨⟨_,rfl,?_⟩,⟨_,rfl,?_⟩,trivial⟩
     ·refine e' rfl ?_
      refine E0.step rfl (j0:=3) (js:=[]) (by kernel_rfl) ⟨⟨_,rfl,?_⟩,trivial⟩
      exact gn' [0] (ih9 _ _ hx3) rfl rfl rfl rfl rfl (fun hi=>peW ⟨trivial,trivial⟩ rfl hi)
     ·exact gn' [0] (ih9 _ _ hx3) rfl rfl rfl rfl rfl (fun hi=>peW ⟨trivial,trivial⟩ rfl hi)
    ·exact gn' [0] (ih9 _ _ hx3) rfl rfl rfl rfl rfl (fun hi=>peW ⟨trivial,trivial⟩ rfl hi)
  refine AEx.drawE hC ?_
  refine E0.step rfl (j0:=0) (js:=[1,2]) (by kernel_rfl) ⟨⟨_,rfl,?_⟩,⟨_,rfl,?_⟩,⟨_,rfl,?_⟩,trivial⟩
  ·refine e' rfl ?_
   refine E0.step rfl (j0:=1) (js:=[2]) (by kernel_rfl) ⟨⟨_,rfl,?_⟩,⟨_,rfl,?_⟩,trivial⟩
   ·refine e' rfl ?_
    refine E0.step rfl (j0:=2) (js:=[]) (by kernel_rfl) ⟨⟨_,rfl,?_⟩,trivial⟩
    refine e' rfl ?_
    refine E0.step rfl (j0:=3) (js:=[]) (by kernel_rfl) ⟨⟨_,rfl,?_⟩,trivial⟩
    refine g' [0] ((ih9 _ _ hx3).ok) rfl rfl rfl rfl rfl rfl (n' ?_)
    refine E0.step rfl (j0:=4) (js:=[]) (by kernel_rfl) ⟨⟨_,rfl,?_⟩,trivial⟩
    refine F0.be hC rfl (A0.rows_map [x1.1,x3.1]).symm (n' ?_)
    refine E0.step rfl (j0:=5) (js:=[]) (by kernel_rfl) ⟨⟨_,rfl,?_⟩,trivial⟩
    refine e' rfl ?_
    refine E0.step rfl (j0:=6) (js:=[]) (by kernel_rfl) ⟨⟨_,rfl,?_⟩,trivial⟩
    refine F0.s hC rfl (n' (E0.nil (by kernel_rfl) (re' ?_)))
    obtain rfl:=oi' hh
    exact ⟨_,.agg [.d (.int .i64 op),.d (.int .i64 0),.d (.str []),.d (.sl (A0.rows [x1.1,x3.1]))],[.row (B0.cells x3.2) 99],rfl,(.aggL ⟨.rfl,.rfl,.rfl,.full,trivial⟩),⟨⟨rfl,.refl _,rfl⟩,trivial⟩,rfl,rfl,rpq rfl rfl⟩
   ·refine e' rfl ?_
    refine E0.step rfl (j0:=1) (js:=[3]) (by kernel_rfl) ⟨⟨_,rfl,?_⟩,⟨_,rfl,?_⟩,trivial⟩
    ·refine e' rfl ?_
     refine E0.step rfl (j0:=3) (js:=[]) (by kernel_rfl) ⟨⟨_,rfl,?_⟩,trivial⟩
     refine g' [0] ((ih9 _ _ hx3).ok) rfl rfl rfl rfl rfl rfl (n' ?_)
     refine E0.step rfl (j0:=4) (js:=[]) (by kernel_rfl) ⟨⟨_,rfl,?_⟩,trivial⟩
     refine F0.be hC rfl (A0.rows_map [x1.1,x3.1]).symm (n' ?_)
     refine E0.step rfl (j0:=5) (js:=[]) (by kernel_rfl) ⟨⟨_,rfl,?_⟩,trivial⟩
     refine e' rfl ?_
     refine E0.step rfl (j0:=6) (js:=[]) (by kernel_rfl) ⟨⟨_,rfl,?_⟩,trivial⟩
     refine F0.s hC rfl (n' (E0.nil (by kernel_rfl) (re' ?_)))
     obtain rfl:=oi' hh
     exact ⟨_,.agg [.d (.int .i64 op),.d (.int .i64 0),.d (.str []),.d (.sl (A0.rows [x1.1,x3.1]))],[.row (B0.cells x3.2) 99],rfl,(.aggL ⟨.rfl,.rfl,.rfl,.full,trivial⟩),⟨⟨rfl,.refl _,rfl⟩,trivial⟩,rfl,rfl,rpq rfl rfl⟩
    ·refine g' [0] ((ih9 _ _ hx3).ok) rfl rfl rfl rfl rfl rfl (n' ?_)
     refine E0.step rfl (j0:=1) (js:=[]) (by kernel_rfl) ⟨⟨_,rfl,?_⟩,trivial⟩
     refine e' rfl ?_
     refine E0.step rfl (j0:=4) (js:=[]) (by kernel_rfl) ⟨⟨_,rfl,?_⟩,trivial⟩
     refine F0.be hC rfl (A0.rows_map [x1.1,x3.1]).symm (n' ?_)
     refine E0.step rfl (j0:=5) (js:=[]) (by kernel_rfl) ⟨⟨_,rfl,?_⟩,trivial⟩
     refine e' rfl ?_
     refine E0.step rfl (j0:=6) (js:=[]) (by kernel_rfl) ⟨⟨_,rfl,?_⟩,trivial⟩
     refine F0.s hC rfl (n' (E0.nil (by kernel_rfl) (re' ?_)))
     obtain rfl:=oi' hh
     exact ⟨_,.agg [.d (.int .i64 op),.d (.int .i64 0),.d (.str []),.d (.sl (A0.rows [x1.1,x3.1]))],[.row (B0.cells x3.2) 99],rfl,(.aggL ⟨.rfl,.rfl,.rfl,.full,trivial⟩),⟨⟨rfl,.refl _,rfl⟩,trivial⟩,rfl,rfl,rpq rfl rfl⟩
  ·refine e' rfl ?_
   refine E0.step rfl (j0:=0) (js:=[2]) (by kernel_rfl) ⟨⟨_,rfl,?_⟩,⟨_,rfl,?_⟩,trivial⟩
   ·refine e' rfl ?_
    refine E0.step rfl (j0:=2) (js:=[]) (by kernel_rfl) ⟨⟨_,rfl,?_⟩,trivial⟩
    refine e' rfl ?_
    refine E0.step rfl (j0:=3) (js:=[]) (by kernel_rfl) ⟨⟨_,rfl,?_⟩,trivial⟩
    refine g' [0] ((ih9 _ _ hx3).ok) rfl rfl rfl rfl rfl rfl (n' ?_)
    refine E0.step rfl (j0:=4) (js:=[]) (by kernel_rfl) ⟨⟨_,rfl,?_⟩,trivial⟩
    refine F0.be hC rfl (A0.rows_map [x1.1,x3.1]).symm (n' ?_)
    refine E0.step rfl (j0:=5) (js:=[]) (by kernel_rfl) ⟨⟨_,rfl,?_⟩,trivial⟩
    refine e' rfl ?_
    refine E0.step rfl (j0:=6) (js:=[]) (by kernel_rfl) ⟨⟨_,rfl,?_⟩,trivial⟩
    refine F0.s hC rfl (n' (E0.nil (by kernel_rfl) (re' ?_)))
    obtain rfl:=oi' hh
    exact ⟨_,.agg [.d (.int .i64 op),.d (.int .i64 0),.d (.str []),.d (.sl (A0.rows [x1.1,x3.1]))],[.row (B0.cells x3.2) 99],rfl,(.aggL ⟨.rfl,.rfl,.rfl,.full,trivial⟩),⟨⟨rfl,.refl _,rfl⟩,trivial⟩,rfl,rfl,rpq rfl rfl⟩
   ·refine e' rfl ?_
    refine E0.step rfl (j0:=0) (js:=[3]) (by kernel_rfl) ⟨⟨_,rfl,?_⟩,⟨_,rfl,?_⟩,trivial⟩
    ·refine e' rfl ?_
     refine E0.step rfl (j0:=3) (js:=[]) (by kernel_rfl) ⟨⟨_,rfl,?_⟩,trivial⟩
     refine g' [0] ((ih9 _ _ hx3).ok) rfl rfl rfl rfl rfl rfl (n' ?_)
     refine E0.step rfl (j0:=4) (js:=[]) (by kernel_rfl) ⟨⟨_,rfl,?_⟩,trivial⟩
     refine F0.be hC rfl (A0.rows_map [x1.1,x3.1]).symm (n' ?_)
     refine E0.step rfl (j0:=5) (js:=[]) (by kernel_rfl) ⟨⟨_,rfl,?_⟩,trivial⟩
     refine e' rfl ?_
     refine E0.step rfl (j0:=6) (js:=[]) (by kernel_rfl) ⟨⟨_,rfl,?_⟩,trivial⟩
     refine F0.s hC rfl (n' (E0.nil (by kernel_rfl) (re' ?_)))
     obtain rfl:=oi' hh
     exact ⟨_,.agg [.d (.int .i64 op),.d (.int .i64 0),.d (.str []),.d (.sl (A0.rows [x1.1,x3.1]))],[.row (B0.cells x3.2) 99],rfl,(.aggL ⟨.rfl,.rfl,.rfl,.full,trivial⟩),⟨⟨rfl,.refl _,rfl⟩,trivial⟩,rfl,rfl,rpq rfl rfl⟩
    ·refine g' [0] ((ih9 _ _ hx3).ok) rfl rfl rfl rfl rfl rfl (n' ?_)
     refine E0.step rfl (j0:=0) (js:=[4]) (by kernel_rfl) ⟨⟨_,rfl,?_⟩,⟨_,rfl,?_⟩,trivial⟩
     ·refine e' rfl ?_
      refine E0.step rfl (j0:=4) (js:=[]) (by kernel_rfl) ⟨⟨_,rfl,?_⟩,trivial⟩
      refine F0.be hC rfl (A0.rows_map [x1.1,x3.1]).symm (n' ?_)
      refine E0.step rfl (j0:=5) (js:=[]) (by kernel_rfl) ⟨⟨_,rfl,?_⟩,trivial⟩
      refine e' rfl ?_
      refine E0.step rfl (j0:=6) (js:=[]) (by kernel_rfl) ⟨⟨_,rfl,?_⟩,trivial⟩
      refine F0.s hC rfl (n' (E0.nil (by kernel_rfl) (re' ?_)))
      obtain rfl:=oi' hh
      exact ⟨_,.agg [.d (.int .i64 op),.d (.int .i64 0),.d (.str []),.d (.sl (A0.rows [x1.1,x3.1]))],[.row (B0.cells x3.2) 99],rfl,(.aggL ⟨.rfl,.rfl,.rfl,.full,trivial⟩),⟨⟨rfl,.refl _,rfl⟩,trivial⟩,rfl,rfl,rpq rfl rfl⟩
     ·refine F0.be hC rfl (A0.rows_map [x1.1,x3.1]).symm (n' ?_)
      refine E0.step rfl (j0:=0) (js:=[]) (by kernel_rfl) ⟨⟨_,rfl,?_⟩,trivial⟩
      refine e' rfl ?_
      refine E0.step rfl (j0:=5) (js:=[]) (by kernel_rfl) ⟨⟨_,rfl,?_⟩,trivial⟩
      refine e' rfl ?_
      refine E0.step rfl (j0:=6) (js:=[]) (by kernel_rfl) ⟨⟨_,rfl,?_⟩,trivial⟩
      refine F0.s hC rfl (n' (E0.nil (by kernel_rfl) (re' ?_)))
      obtain rfl:=oi' hh
      exact ⟨_,.agg [.d (.int .i64 op),.d (.int .i64 0),.d (.str []),.d (.sl (A0.rows [x1.1,x3.1]))],[.row (B0.cells x3.2) 99],rfl,(.aggL ⟨.rfl,.rfl,.rfl,.full,trivial⟩),⟨⟨rfl,.refl _,rfl⟩,trivial⟩,rfl,rfl,rpq rfl rfl⟩
  ·refine e' rfl ?_
   refine E0.step rfl (j0:=0) (js:=[1,3]) (by kernel_rfl) ⟨⟨_,rfl,?_⟩,⟨_,rfl,?_⟩,⟨_,rfl,?_⟩,trivial⟩
   ·refine e' rfl ?_
    refine E0.step rfl (j0:=1) (js:=[3]) (by kernel_rfl) ⟨⟨_,rfl,?_⟩,⟨_,rfl,?_⟩,trivial⟩
    ·refine e' rfl ?_
     refine E0.step rfl (j0:=3) (js:=[]) (by kernel_rfl) ⟨⟨_,rfl,?_⟩,trivial⟩
     refine g' [0] ((ih9 _ _ hx3).ok) rfl rfl rfl rfl rfl rfl (n' ?_)
     refine E0.step rfl (j0:=4) (js:=[]) (by kernel_rfl) ⟨⟨_,rfl,?_⟩,trivial⟩
     refine F0.be hC rfl (A0.rows_map [x1.1,x3.1]).symm (n' ?_)
     refine E0.step rfl (j0:=5) (js:=[]) (by kernel_rfl) ⟨⟨_,rfl,?_⟩,trivial⟩
     refine e' rfl ?_
     refine E0.step rfl (j0:=6) (js:=[]) (by kernel_rfl) ⟨⟨_,rfl,?_⟩,trivial⟩
     refine F0.s hC rfl (n' (E0.nil (by kernel_rfl) (re' ?_)))
     obtain rfl:=oi' hh
     exact ⟨_,.agg [.d (.int .i64 op),.d (.int .i64 0),.d (.str []),.d (.sl (A0.rows [x1.1,x3.1]))],[.row (B0.cells x3.2) 99],rfl,(.aggL ⟨.rfl,.rfl,.rfl,.full,trivial⟩),⟨⟨rfl,.refl _,rfl⟩,trivial⟩,rfl,rfl,rpq rfl rfl⟩
    ·refine g' [0] ((ih9 _ _ hx3).ok) rfl rfl rfl rfl rfl rfl (n' ?_)
     refine E0.step rfl (j0:=1) (js:=[]) (by kernel_rfl) ⟨⟨_,rfl,?_⟩,trivial⟩
     refine e' rfl ?_
     refine E0.step rfl (j0:=4) (js:=[]) (by kernel_rfl) ⟨⟨_,rfl,?_⟩,trivial⟩
     refine F0.be hC rfl (A0.rows_map [x1.1,x3.1]).symm (n' ?_)
     refine E0.step rfl (j0:=5) (js:=[]) (by kernel_rfl) ⟨⟨_,rfl,?_⟩,trivial⟩
     refine e' rfl ?_
     refine E0.step rfl (j0:=6) (js:=[]) (by kernel_rfl) ⟨⟨_,rfl,?_⟩,trivial⟩
     refine F0.s hC rfl (n' (E0.nil (by kernel_rfl) (re' ?_)))
     obtain rfl:=oi' hh
     exact ⟨_,.agg [.d (.int .i64 op),.d (.int .i64 0),.d (.str []),.d (.sl (A0.rows [x1.1,x3.1]))],[.row (B0.cells x3.2) 99],rfl,(.aggL ⟨.rfl,.rfl,.rfl,.full,trivial⟩),⟨⟨rfl,.refl _,rfl⟩,trivial⟩,rfl,rfl,rpq rfl rfl⟩
   ·refine e' rfl ?_
    refine E0.step rfl (j0:=0) (js:=[3]) (by kernel_rfl) ⟨⟨_,rfl,?_⟩,⟨_,rfl,?_⟩,trivial⟩
    ·refine e' rfl ?_
     refine E0.step rfl (j0:=3) (js:=[]) (by kernel_rfl) ⟨⟨_,rfl,?_⟩,trivial⟩
     refine g' [0] ((ih9 _ _ hx3).ok) rfl rfl rfl rfl rfl rfl (n' ?_)
     refine E0.step rfl (j0:=4) (js:=[]) (by kernel_rfl) ⟨⟨_,rfl,?_⟩,trivial⟩
     refine F0.be hC rfl (A0.rows_map [x1.1,x3.1]).symm (n' ?_)
     refine E0.step rfl (j0:=5) (js:=[]) (by kernel_rfl) ⟨⟨_,rfl,?_⟩,trivial⟩
     refine e' rfl ?_
     refine E0.step rfl (j0:=6) (js:=[]) (by kernel_rfl) ⟨⟨_,rfl,?_⟩,trivial⟩
     refine F0.s hC rfl (n' (E0.nil (by kernel_rfl) (re' ?_)))
     obtain rfl:=oi' hh
     exact ⟨_,.agg [.d (.int .i64 op),.d (.int .i64 0),.d (.str []),.d (.sl (A0.rows [x1.1,x3.1]))],[.row (B0.cells x3.2) 99],rfl,(.aggL ⟨.rfl,.rfl,.rfl,.full,trivial⟩),⟨⟨rfl,.refl _,rfl⟩,trivial⟩,rfl,rfl,rpq rfl rfl⟩
    ·refine g' [0] ((ih9 _ _ hx3).ok) rfl rfl rfl rfl rfl rfl (n' ?_)
     refine E0.step rfl (j0:=0) (js:=[4]) (by kernel_rfl) ⟨⟨_,rfl,?_⟩,⟨_,rfl,?_⟩,trivial⟩
     ·refine e' rfl ?_
      refine E0.step rfl (j0:=4) (js:=[]) (by kernel_rfl) ⟨⟨_,rfl,?_⟩,trivial⟩
      refine F0.be hC rfl (A0.rows_map [x1.1,x3.1]).symm (n' ?_)
      refine E0.step rfl (j0:=5) (js:=[]) (by kernel_rfl) ⟨⟨_,rfl,?_⟩,trivial⟩
      refine e' rfl ?_
      refine E0.step rfl (j0:=6) (js:=[]) (by kernel_rfl) ⟨⟨_,rfl,?_⟩,trivial⟩
      refine F0.s hC rfl (n' (E0.nil (by kernel_rfl) (re' ?_)))
      obtain rfl:=oi' hh
      exact ⟨_,.agg [.d (.int .i64 op),.d (.int .i64 0),.d (.str []),.d (.sl (A0.rows [x1.1,x3.1]))],[.row (B0.cells x3.2) 99],rfl,(.aggL ⟨.rfl,.rfl,.rfl,.full,trivial⟩),⟨⟨rfl,.refl _,rfl⟩,trivial⟩,rfl,rfl,rpq rfl rfl⟩
     ·refine F0.be hC rfl (A0.rows_map [x1.1,x3.1]).symm (n' ?_)
      refine E0.step rfl (j0:=0) (js:=[]) (by kernel_rfl) ⟨⟨_,rfl,?_⟩,trivial⟩
      refine e' rfl ?_
      refine E0.step rfl (j0:=5) (js:=[]) (by kernel_rfl) ⟨⟨_,rfl,?_⟩,trivial⟩
      refine e' rfl ?_
      refine E0.step rfl (j0:=6) (js:=[]) (by kernel_rfl) ⟨⟨_,rfl,?_⟩,trivial⟩
      refine F0.s hC rfl (n' (E0.nil (by kernel_rfl) (re' ?_)))
      obtain rfl:=oi' hh
      exact ⟨_,.agg [.d (.int .i64 op),.d (.int .i64 0),.d (.str []),.d (.sl (A0.rows [x1.1,x3.1]))],[.row (B0.cells x3.2) 99],rfl,(.aggL ⟨.rfl,.rfl,.rfl,.full,trivial⟩),⟨⟨rfl,.refl _,rfl⟩,trivial⟩,rfl,rfl,rpq rfl rfl⟩
   ·refine g' [0] ((ih9 _ _ hx3).ok) rfl rfl rfl rfl rfl rfl (n' ?_)
    refine E0.step rfl (j0:=0) (js:=[1]) (by kernel_rfl) ⟨⟨_,rfl,?_⟩,⟨_,rfl,?_⟩,trivial⟩
    ·refine e' rfl ?_
     refine E0.step rfl (j0:=1) (js:=[]) (by kernel_rfl) ⟨⟨_,rfl,?_⟩,trivial⟩
     refine e' rfl ?_
     refine E0.step rfl (j0:=4) (js:=[]) (by kernel_rfl) ⟨⟨_,rfl,?_⟩,trivial⟩
     refine F0.be hC rfl (A0.rows_map [x1.1,x3.1]).symm (n' ?_)
     refine E0.step rfl (j0:=5) (js:=[]) (by kernel_rfl) ⟨⟨_,rfl,?_⟩,trivial⟩
     refine e' rfl ?_
     refine E0.step rfl (j0:=6) (js:=[]) (by kernel_rfl) ⟨⟨_,rfl,?_⟩,trivial⟩
     refine F0.s hC rfl (n' (E0.nil (by kernel_rfl) (re' ?_)))
     obtain rfl:=oi' hh
     exact ⟨_,.agg [.d (.int .i64 op),.d (.int .i64 0),.d (.str []),.d (.sl (A0.rows [x1.1,x3.1]))],[.row (B0.cells x3.2) 99],rfl,(.aggL ⟨.rfl,.rfl,.rfl,.full,trivial⟩),⟨⟨rfl,.refl _,rfl⟩,trivial⟩,rfl,rfl,rpq rfl rfl⟩
    ·refine e' rfl ?_
     refine E0.step rfl (j0:=0) (js:=[4]) (by kernel_rfl) ⟨⟨_,rfl,?_⟩,⟨_,rfl,?_⟩,trivial⟩
     ·refine e' rfl ?_
      refine E0.step rfl (j0:=4) (js:=[]) (by kernel_rfl) ⟨⟨_,rfl,?_⟩,trivial⟩
      refine F0.be hC rfl (A0.rows_map [x1.1,x3.1]).symm (n' ?_)
      refine E0.step rfl (j0:=5) (js:=[]) (by kernel_rfl) ⟨⟨_,rfl,?_⟩,trivial⟩
      refine e' rfl ?_
      refine E0.step rfl (j0:=6) (js:=[]) (by kernel_rfl) ⟨⟨_,rfl,?_⟩,trivial⟩
      refine F0.s hC rfl (n' (E0.nil (by kernel_rfl) (re' ?_)))
      obtain rfl:=oi' hh
      exact ⟨_,.agg [.d (.int .i64 op),.d (.int .i64 0),.d (.str []),.d (.sl (A0.rows [x1.1,x3.1]))],[.row (B0.cells x3.2) 99],rfl,(.aggL ⟨.rfl,.rfl,.rfl,.full,trivial⟩),⟨⟨rfl,.refl _,rfl⟩,trivial⟩,rfl,rfl,rpq rfl rfl⟩
     ·refine F0.be hC rfl (A0.rows_map [x1.1,x3.1]).symm (n' ?_)
      refine E0.step rfl (j0:=0) (js:=[]) (by kernel_rfl) ⟨⟨_,rfl,?_⟩,trivial⟩
      refine e' rfl ?_
      refine E0.step rfl (j0:=5) (js:=[]) (by kernel_rfl) ⟨⟨_,rfl,?_⟩,trivial⟩
      refine e' rfl ?_
      refine E0.step rfl (j0:=6) (js:=[]) (by kernel_rfl) ⟨⟨_,rfl,?_⟩,trivial⟩
      refine F0.s hC rfl (n' (E0.nil (by kernel_rfl) (re' ?_)))
      obtain rfl:=oi' hh
      exact ⟨_,.agg [.d (.int .i64 op),.d (.int .i64 0),.d (.str []),.d (.sl (A0.rows [x1.1,x3.1]))],[.row (B0.cells x3.2) 99],rfl,(.aggL ⟨.rfl,.rfl,.rfl,.full,trivial⟩),⟨⟨rfl,.refl _,rfl⟩,trivial⟩,rfl,rfl,rpq rfl rfl⟩
 ·intro g10 ih10 parserParser res hh
  refine E2.intro hC Tryz.func189 rfl rfl rfl (s' rfl rfl (F0.n hC rfl (F0.nf hC rfl (n' (p' 4 rfl ?_)))))
  rcases bp' hh with ⟨nn,hx1,⟨⟩⟩ | ⟨x1,hx1,hh⟩
  ·exact gn' [0,1] (ih10 _ _ hx1) rfl rfl rfl rfl rfl (fun hi=>peW ⟨trivial,trivial⟩ rfl hi)
  cases hh
  exact g' [0,1] ((ih10 _ _ hx1).ok) rfl rfl rfl rfl rfl rfl (F0.s hC rfl (n' (re' (rt' rfl rfl rfl))))
 ·intro g11 g12 ih11 ih12 parserParser res hh
  refine E2.intro hC Tryz.func110 rfl rfl rfl (s' rfl rfl (F0.nf hC rfl (n' (p' 1 rfl ?_))))
  rcases bp' hh with ⟨nn,hx1,⟨⟩⟩ | ⟨x1,hx1,hh⟩
  ·exact gn' [0] (ih12 _ _ hx1) rfl rfl rfl rfl rfl (fun hi=>peW ⟨trivial,⟨rfl,.refl _,rfl⟩,trivial⟩ rfl hi)
  exact g' [0] ((ih12 _ _ hx1).ok) rfl rfl rfl rfl rfl rfl (F0.nf hC rfl (F0.s hC rfl (n' (bk' (fw' (ih11 _ _ _ hh) rfl rfl rfl)))))
 ·intro g11 g12 ih11 ih12 o0 o3 res hh
  obtain ⟨x2,hx2,hh⟩:=bs' hh
  refine W0.unroll (bk' (p' 1 rfl (g' [1,0] (Zy hx2) rfl rfl rfl rfl rfl rfl (e' rfl (S' (t' rfl (ci' rfl hh (fun hh=>?_) (fun hh=>?_))))))))
  ·cases hh
   exact p' 1 rfl (F0.s hC rfl (n' (re' (rt' rfl rfl rfl))))
  refine sk' ?_
  rcases bp' hh with ⟨nn,hx3,⟨⟩⟩ | ⟨x3,hx3,hh⟩
  ·refine AEx.drawE hC ?_
   refine E0.step rfl (j0:=0) (js:=[1,2]) (by kernel_rfl) ⟨⟨_,rfl,?_⟩,⟨_,rfl,?_⟩,⟨_,rfl,?_⟩,trivial⟩
   ·refine e' rfl ?_
    refine E0.step rfl (j0:=1) (js:=[2]) (by kernel_rfl) ⟨⟨_,rfl,?_⟩,⟨_,rfl,?_⟩,trivial⟩
    ·refine e' rfl ?_
     refine E0.step rfl (j0:=2) (js:=[]) (by kernel_rfl) ⟨⟨_,rfl,?_⟩,trivial⟩
     refine e' rfl ?_
     refine E0.step rfl (j0:=3) (js:=[]) (by kernel_rfl) ⟨⟨_,rfl,?_⟩,trivial⟩
     exact gn' [0] (ih12 _ _ hx3) rfl rfl rfl rfl rfl (fun hi=>peW ⟨trivial,⟨rfl,.refl _,rfl⟩,trivial⟩ rfl hi)
    ·refine e' rfl ?_
     refine E0.step rfl (j0:=1) (js:=[3]) (by kernel_rfl) ⟨⟨_,rfl,?_⟩,⟨_,rfl,?_⟩,trivial⟩
     ·refine e' rfl ?_
      refine E0.step rfl (j0:=3) (js:=[]) (by kernel_rfl) ⟨⟨_,rfl,?_⟩,trivial⟩
      exact gn' [0] (ih12 _ _ hx3) rfl rfl rfl rfl rfl (fun hi=>peW ⟨trivial,⟨rfl,.refl _,rfl⟩,trivial⟩ rfl hi)
     ·exact gn' [0] (ih12 _ _ hx3) rfl rfl rfl rfl rfl (fun hi=>peW ⟨trivial,⟨rfl,.refl _,rfl⟩,trivial⟩ rfl hi)
   ·refine e' rfl ?_
    refine E0.step rfl (j0:=0) (js:=[2]) (by kernel_rfl) ⟨⟨_,rfl,?_⟩,⟨_,rfl,?_⟩,trivial⟩
    ·refine e' rfl ?_
     refine E0.step rfl (j0:=2) (js:=[]) (by kernel_rfl) ⟨⟨_,rfl,?_⟩,trivial⟩
     refine e' rfl ?_
     refine E0.step rfl (j0:=3) (js:=[]) (by kernel_rfl) ⟨⟨_,rfl,?_⟩,trivial⟩
     exact gn' [0] (ih12 _ _ hx3) rfl rfl rfl rfl rfl (fun hi=>peW ⟨trivial,⟨rfl,.refl _,rfl⟩,trivial⟩ rfl hi)
    ·refine e' rfl ?_
     refine E0.step rfl (j0:=0) (js:=[3]) (by kernel_rfl) ⟨⟨_,rfl,?_⟩,⟨_,rfl,?_⟩,trivial⟩
     ·refine e' rfl ?_
      refine E0.step rfl (j0:=3) (js:=[]) (by kernel_rfl) ⟨⟨_,rfl,?_⟩,trivial⟩
      exact gn' [0] (ih12 _ _ hx3) rfl rfl rfl rfl rfl (fun hi=>peW ⟨trivial,⟨rfl,.refl _,rfl⟩,trivial⟩ rfl hi)
     ·exact gn' [0] (ih12 _ _ hx3) rfl rfl rfl rfl rfl (fun hi=>peW ⟨trivial,⟨rfl,.refl _,rfl⟩,trivial⟩ rfl hi)
   ·refine e' rfl ?_
    refine E0.step rfl (j0:=0) (js:=[1,3]) (by kernel_rfl) ⟨⟨_,rfl,?_⟩,⟨_,rfl,?_⟩,⟨_,rfl,?_⟩,trivial⟩
    ·refine e' rfl ?_
     refine E0.step rfl (j0:=1) (js:=[3]) (by kernel_rfl) ⟨⟨_,rfl,?_⟩,⟨_,rfl,?_⟩,trivial⟩
     ·refine e' rfl ?_
      refine E0.step rfl (j0:=3) (js:=[]) (by kernel_rfl) ⟨⟨_,rfl,?_⟩,trivial⟩
      exact gn' [0] (ih12 _ _ hx3) rfl rfl rfl rfl rfl (fun hi=>peW ⟨trivial,⟨rfl,.refl _,rfl⟩,trivial⟩ rfl hi)
     ·exact gn' [0] (ih12 _ _ hx3) rfl rfl rfl rfl rfl (fun hi=>peW ⟨trivial,⟨rfl,.refl _,rfl⟩,trivial⟩ rfl hi)
    ·refine e' rfl ?_
     refine E0.step rfl (j0:=0) (js:=[3]) (by kernel_rfl) ⟨⟨_,rfl,?_⟩,⟨_,rfl,?_⟩,trivial⟩
     ·refine e' rfl ?_
      refine E0.step rfl (j0:=3) (js:=[]) (by kernel_rfl) ⟨⟨_,rfl,?_⟩,trivial⟩
      exact gn' [0] (ih12 _ _ hx3) rfl rfl rfl rfl rfl (fun hi=>peW ⟨trivial,⟨rfl,.refl _,rfl⟩,trivial⟩ rfl hi)
     ·exact gn' [0] (ih12 _ _ hx3) rfl rfl rfl rfl rfl (fun hi=>peW ⟨trivial,⟨rfl,.refl _,rfl⟩,trivial⟩ rfl hi)
    ·exact gn' [0] (ih12 _ _ hx3) rfl rfl rfl rfl rfl (fun hi=>peW ⟨trivial,⟨rfl,.refl _,rfl⟩,trivial⟩ rfl hi)
  refine AEx.drawE hC ?_
  refine E0.step rfl (j0:=0) (js:=[1,2]) (by kernel_rfl) ⟨⟨_,rfl,?_⟩,⟨_,rfl,?_⟩,⟨_,rfl,?_⟩,trivial⟩
  ·refine e' rfl ?_
   refine E0.step rfl (j0:=1) (js:=[2]) (by kernel_rfl) ⟨⟨_,rfl,?_⟩,⟨_,rfl,?_⟩,trivial⟩
   ·refine e' rfl ?_
    refine E0.step rfl (j0:=2) (js:=[]) (by kernel_rfl) ⟨⟨_,rfl,?_⟩,trivial⟩
    refine e' rfl ?_
    refine E0.step rfl (j0:=3) (js:=[]) (by kernel_rfl) ⟨⟨_,rfl,?_⟩,trivial⟩
    refine g' [0] ((ih12 _ _ hx3).ok) rfl rfl rfl rfl rfl rfl (n' ?_)
    refine E0.step rfl (j0:=4) (js:=[]) (by kernel_rfl) ⟨⟨_,rfl,?_⟩,trivial⟩
    refine F0.be hC rfl (A0.rows_map [o3,x3.1]).symm (n' ?_)
    refine E0.step rfl (j0:=5) (js:=[]) (by kernel_rfl) ⟨⟨_,rfl,?_⟩,trivial⟩
    refine e' rfl ?_
    refine E0.step rfl (j0:=6) (js:=[]) (by kernel_rfl) ⟨⟨_,rfl,?_⟩,trivial⟩
    refine F0.s hC rfl (n' (E0.nil (by kernel_rfl) ?_))
    refine W0.wk ?_ (ih11 _ _ _ hh)
    exact ⟨⟨⟨.rfl,rfl⟩,⟨.rfl,rfl⟩,⟨.rfl,rfl⟩,⟨.rfl,rfl⟩,trivial⟩,⟨⟨rfl,.refl _,rfl⟩,⟨rfl,.refl _,rfl⟩,⟨rfl,.refl _,rfl⟩,⟨rfl,⟨.rfl,.rfl,.rfl,.full,trivial⟩,rfl⟩,trivial⟩,rfl⟩
   ·refine e' rfl ?_
    refine E0.step rfl (j0:=1) (js:=[3]) (by kernel_rfl) ⟨⟨_,rfl,?_⟩,⟨_,rfl,?_⟩,trivial⟩
    ·refine e' rfl ?_
     refine E0.step rfl (j0:=3) (js:=[]) (by kernel_rfl) ⟨⟨_,rfl,?_⟩,trivial⟩
     refine g' [0] ((ih12 _ _ hx3).ok) rfl rfl rfl rfl rfl rfl (n' ?_)
     refine E0.step rfl (j0:=4) (js:=[]) (by kernel_rfl) ⟨⟨_,rfl,?_⟩,trivial⟩
     refine F0.be hC rfl (A0.rows_map [o3,x3.1]).symm (n' ?_)
     refine E0.step rfl (j0:=5) (js:=[]) (by kernel_rfl) ⟨⟨_,rfl,?_⟩,trivial⟩
     refine e' rfl ?_
     refine E0.step rfl (j0:=6) (js:=[]) (by kernel_rfl) ⟨⟨_,rfl,?_⟩,trivial⟩
     refine F0.s hC rfl (n' (E0.nil (by kernel_rfl) ?_))
     refine W0.wk ?_ (ih11 _ _ _ hh)
     exact ⟨⟨⟨.rfl,rfl⟩,⟨.rfl,rfl⟩,⟨.rfl,rfl⟩,⟨.rfl,rfl⟩,trivial⟩,⟨⟨rfl,.refl _,rfl⟩,⟨rfl,.refl _,rfl⟩,⟨rfl,.refl _,rfl⟩,⟨rfl,⟨.rfl,.rfl,.rfl,.full,trivial⟩,rfl⟩,trivial⟩,rfl⟩
    ·refine g' [0] ((ih12 _ _ hx3).ok) rfl rfl rfl rfl rfl rfl (n' ?_)
     refine E0.step rfl (j0:=1) (js:=[]) (by kernel_rfl) ⟨⟨_,rfl,?_⟩,trivial⟩
     refine e' rfl ?_
     refine E0.step rfl (j0:=4) (js:=[]) (by kernel_rfl) ⟨⟨_,rfl,?_⟩,trivial⟩
     refine F0.be hC rfl (A0.rows_map [o3,x3.1]).symm (n' ?_)
     refine E0.step rfl (j0:=5) (js:=[]) (by kernel_rfl) ⟨⟨_,rfl,?_⟩,trivial⟩
     refine e' rfl ?_
     refine E0.step rfl (j0:=6) (js:=[]) (by kernel_rfl) ⟨⟨_,rfl,?_⟩,trivial⟩
     refine F0.s hC rfl (n' (E0.nil (by kernel_rfl) ?_))
     refine W0.wk ?_ (ih11 _ _ _ hh)
     exact ⟨⟨⟨.rfl,rfl⟩,⟨.rfl,rfl⟩,⟨.rfl,rfl⟩,⟨.rfl,rfl⟩,trivial⟩,⟨⟨rfl,.refl _,rfl⟩,⟨rfl,.refl _,rfl⟩,⟨rfl,.refl _,rfl⟩,⟨rfl,⟨.rfl,.rfl,.rfl,.full,trivial⟩,rfl⟩,trivial⟩,rfl⟩
  ·refine e' rfl ?_
   refine E0.step rfl (j0:=0) (js:=[2]) (by kernel_rfl) ⟨⟨_,rfl,?_⟩,⟨_,rfl,?_⟩,trivial⟩
   ·refine e' rfl ?_
    refine E0.step rfl (j0:=2) (js:=[]) (by kernel_rfl) ⟨⟨_,rfl,?_⟩,trivial⟩
    refine e' rfl ?_
    refine E0.step rfl (j0:=3) (js:=[]) (by kernel_rfl) ⟨⟨_,rfl,?_⟩,trivial⟩
    refine g' [0] ((ih12 _ _ hx3).ok) rfl rfl rfl rfl rfl rfl (n' ?_)
    refine E0.step rfl (j0:=4) (js:=[]) (by kernel_rfl) ⟨⟨_,rfl,?_⟩,trivial⟩
    refine F0.be hC rfl (A0.rows_map [o3,x3.1]).symm (n' ?_)
    refine E0.step rfl (j0:=5) (js:=[]) (by kernel_rfl) ⟨⟨_,rfl,?_⟩,trivial⟩
    refine e' rfl ?_
    refine E0.step rfl (j0:=6) (js:=[]) (by kernel_rfl) ⟨⟨_,rfl,?_⟩,trivial⟩
    refine F0.s hC rfl (n' (E0.nil (by kernel_rfl) ?_))
    refine W0.wk ?_ (ih11 _ _ _ hh)
    exact ⟨⟨⟨.rfl,rfl⟩,⟨.rfl,rfl⟩,⟨.rfl,rfl⟩,⟨.rfl,rfl⟩,trivial⟩,⟨⟨rfl,.refl _,rfl⟩,⟨rfl,.refl _,rfl⟩,⟨rfl,.refl _,rfl⟩,⟨rfl,⟨.rfl,.rfl,.rfl,.full,trivial⟩,rfl⟩,trivial⟩,rfl⟩
   ·refine e' rfl ?_
    refine E0.step rfl (j0:=0) (js:=[3]) (by kernel_rfl) ⟨⟨_,rfl,?_⟩,⟨_,rfl,?_⟩,trivial⟩
    ·refine e' rfl ?_
     refine E0.step rfl (j0:=3) (js:=[]) (by kernel_rfl) ⟨⟨_,rfl,?_⟩,trivial⟩
     refine g' [0] ((ih12 _ _ hx3).ok) rfl rfl rfl rfl rfl rfl (n' ?_)
     refine E0.step rfl (j0:=4) (js:=[]) (by kernel_rfl) ⟨⟨_,rfl,?_⟩,trivial⟩
     refine F0.be hC rfl (A0.rows_map [o3,x3.1]).symm (n' ?_)
     refine E0.step rfl (j0:=5) (js:=[]) (by kernel_rfl) ⟨⟨_,rfl,?_⟩,trivial⟩
     refine e' rfl ?_
     refine E0.step rfl (j0:=6) (js:=[]) (by kernel_rfl) ⟨⟨_,rfl,?_⟩,trivial⟩
     refine F0.s hC rfl (n' (E0.nil (by kernel_rfl) ?_))
     refine W0.wk ?_ (ih11 _ _ _ hh)
     exact ⟨⟨⟨.rfl,rfl⟩,⟨.rfl,rfl⟩,⟨.rfl,rfl⟩,⟨.rfl,rfl⟩,trivial⟩,⟨⟨rfl,.refl _,rfl⟩,⟨rfl,.refl _,rfl⟩,⟨rfl,.refl _,rfl⟩,⟨rfl,⟨.rfl,.rfl,.rfl,.full,trivial⟩,rfl⟩,trivial⟩,rfl⟩
    ·refine g' [0] ((ih12 _ _ hx3).ok) rfl rfl rfl rfl rfl rfl (n' ?_)
     refine E0.step rfl (j0:=0) (js:=[4]) (by kernel_rfl) ⟨⟨_,rfl,?_⟩,⟨_,rfl,?_⟩,trivial⟩
     ·refine e' rfl ?_
      refine E0.step rfl (j0:=4) (js:=[]) (by kernel_rfl) ⟨⟨_,rfl,?_⟩,trivial⟩
      refine F0.be hC rfl (A0.rows_map [o3,x3.1]).symm (n' ?_)
      refine E0.step rfl (j0:=5) (js:=[]) (by kernel_rfl) ⟨⟨_,rfl,?_⟩,trivial⟩
      refine e' rfl ?_
      refine E0.step rfl (j0:=6) (js:=[]) (by kernel_rfl) ⟨⟨_,rfl,?_⟩,trivial⟩
      refine F0.s hC rfl (n' (E0.nil (by kernel_rfl) ?_))
      refine W0.wk ?_ (ih11 _ _ _ hh)
      exact ⟨⟨⟨.rfl,rfl⟩,⟨.rfl,rfl⟩,⟨.rfl,rfl⟩,⟨.rfl,rfl⟩,trivial⟩,⟨⟨rfl,.refl _,rfl⟩,⟨rfl,.refl _,rfl⟩,⟨rfl,.refl _,rfl⟩,⟨rfl,⟨.rfl,.rfl,.rfl,.full,trivial⟩,rfl⟩,trivial⟩,rfl⟩
     ·refine F0.be hC rfl (A0.rows_map [o3,x3.1]).symm (n' ?_)
      refine E0.step rfl (j0:=0) (js:=[]) (by kernel_rfl) ⟨⟨_,rfl,?_⟩,trivial⟩
      refine e' rfl ?_
      refine E0.step rfl (j0:=5) (js:=[]) (by kernel_rfl) ⟨⟨_,rfl,?_⟩,trivial⟩
      refine e' rfl ?_
      refine E0.step rfl (j0:=6) (js:=[]) (by kernel_rfl) ⟨⟨_,rfl,?_⟩,trivial⟩
      refine F0.s hC rfl (n' (E0.nil (by kernel_rfl) ?_))
      refine W0.wk ?_ (ih11 _ _ _ hh)
      exact ⟨⟨⟨.rfl,rfl⟩,⟨.rfl,rfl⟩,⟨.rfl,rfl⟩,⟨.rfl,rfl⟩,trivial⟩,⟨⟨rfl,.refl _,rfl⟩,⟨rfl,.refl _,rfl⟩,⟨rfl,.refl _,rfl⟩,⟨rfl,⟨.rfl,.rfl,.rfl,.full,trivial⟩,rfl⟩,trivial⟩,rfl⟩
  ·refine e' rfl ?_
   refine E0.step rfl (j0:=0) (js:=[1,3]) (by kernel_rfl) ⟨⟨_,rfl,?_⟩,⟨_,rfl,?_⟩,⟨_,rfl,?_⟩,trivial⟩
   ·refine e' rfl ?_
    refine E0.step rfl (j0:=1) (js:=[3]) (by kernel_rfl) ⟨⟨_,rfl,?_⟩,⟨_,rfl,?_⟩,trivial⟩
    ·refine e' rfl ?_
     refine E0.step rfl (j0:=3) (js:=[]) (by kernel_rfl) ⟨⟨_,rfl,?_⟩,trivial⟩
     refine g' [0] ((ih12 _ _ hx3).ok) rfl rfl rfl rfl rfl rfl (n' ?_)
     refine E0.step rfl (j0:=4) (js:=[]) (by kernel_rfl) ⟨⟨_,rfl,?_⟩,trivial⟩
     refine F0.be hC rfl (A0.rows_map [o3,x3.1]).symm (n' ?_)
     refine E0.step rfl (j0:=5) (js:=[]) (by kernel_rfl) ⟨⟨_,rfl,?_⟩,trivial⟩
     refine e' rfl ?_
     refine E0.step rfl (j0:=6) (js:=[]) (by kernel_rfl) ⟨⟨_,rfl,?_⟩,trivial⟩
     refine F0.s hC rfl (n' (E0.nil (by kernel_rfl) ?_))
     refine W0.wk ?_ (ih11 _ _ _ hh)
     exact ⟨⟨⟨.rfl,rfl⟩,⟨.rfl,rfl⟩,⟨.rfl,rfl⟩,⟨.rfl,rfl⟩,trivial⟩,⟨⟨rfl,.refl _,rfl⟩,⟨rfl,.refl _,rfl⟩,⟨rfl,.refl _,rfl⟩,⟨rfl,⟨.rfl,.rfl,.rfl,.full,trivial⟩,rfl⟩,trivial⟩,rfl⟩
    ·refine g' [0] ((ih12 _ _ hx3).ok) rfl rfl rfl rfl rfl rfl (n' ?_)
     refine E0.step rfl (j0:=1) (js:=[]) (by kernel_rfl) ⟨⟨_,rfl,?_⟩,trivial⟩
     refine e' rfl ?_
     refine E0.step rfl (j0:=4) (js:=[]) (by kernel_rfl) ⟨⟨_,rfl,?_⟩,trivial⟩
     refine F0.be hC rfl (A0.rows_map [o3,x3.1]).symm (n' ?_)
     refine E0.step rfl (j0:=5) (js:=[]) (by kernel_rfl) ⟨⟨_,rfl,?_⟩,trivial⟩
     refine e' rfl ?_
     refine E0.step rfl (j0:=6) (js:=[]) (by kernel_rfl) ⟨⟨_,rfl,?_⟩,trivial⟩
     refine F0.s hC rfl (n' (E0.nil (by kernel_rfl) ?_))
     refine W0.wk ?_ (ih11 _ _ _ hh)
     exact ⟨⟨⟨.rfl,rfl⟩,⟨.rfl,rfl⟩,⟨.rfl,rfl⟩,⟨.rfl,rfl⟩,trivial⟩,⟨⟨rfl,.refl _,rfl⟩,⟨rfl,.refl _,rfl⟩,⟨rfl,.refl _,rfl⟩,⟨rfl,⟨.rfl,.rfl,.rfl,.full,trivial⟩,rfl⟩,trivial⟩,rfl⟩
   ·refine e' rfl ?_
    refine E0.step rfl (j0:=0) (js:=[3]) (by kernel_rfl) ⟨⟨_,rfl,?_⟩,⟨_,rfl,?_⟩,trivial⟩
    ·refine e' rfl ?_
     refine E0.step rfl (j0:=3) (js:=[]) (by kernel_rfl) ⟨⟨_,rfl,?_⟩,trivial⟩
     refine g' [0] ((ih12 _ _ hx3).ok) rfl rfl rfl rfl rfl rfl (n' ?_)
     refine E0.step rfl (j0:=4) (js:=[]) (by kernel_rfl) ⟨⟨_,rfl,?_⟩,trivial⟩
     refine F0.be hC rfl (A0.rows_map [o3,x3.1]).symm (n' ?_)
     refine E0.step rfl (j0:=5) (js:=[]) (by kernel_rfl) ⟨⟨_,rfl,?_⟩,trivial⟩
     refine e' rfl ?_
     refine E0.step rfl (j0:=6) (js:=[]) (by kernel_rfl) ⟨⟨_,rfl,?_⟩,trivial⟩
     refine F0.s hC rfl (n' (E0.nil (by kernel_rfl) ?_))
     refine W0.wk ?_ (ih11 _ _ _ hh)
     exact ⟨⟨⟨.rfl,rfl⟩,⟨.rfl,rfl⟩,⟨.rfl,rfl⟩,⟨.rfl,rfl⟩,trivial⟩,⟨⟨rfl,.refl _,rfl⟩,⟨rfl,.refl _,rfl⟩,⟨rfl,.refl _,rfl⟩,⟨rfl,⟨.rfl,.rfl,.rfl,.full,trivial⟩,rfl⟩,trivial⟩,rfl⟩
    ·refine g' [0] ((ih12 _ _ hx3).ok) rfl rfl rfl rfl rfl rfl (n' ?_)
     refine E0.step rfl (j0:=0) (js:=[4]) (by kernel_rfl) ⟨⟨_,rfl,?_⟩,⟨_,rfl,?_⟩,trivial⟩
     ·refine e' rfl ?_
      refine E0.step rfl (j0:=4) (js:=[]) (by kernel_rfl) ⟨⟨_,rfl,?_⟩,trivial⟩
      refine F0.be hC rfl (A0.rows_map [o3,x3.1]).symm (n' ?_)
      refine E0.step rfl (j0:=5) (js:=[]) (by kernel_rfl) ⟨⟨_,rfl,?_⟩,trivial⟩
      refine e' rfl ?_
      refine E0.step rfl (j0:=6) (js:=[]) (by kernel_rfl) ⟨⟨_,rfl,?_⟩,trivial⟩
      refine F0.s hC rfl (n' (E0.nil (by kernel_rfl) ?_))
      refine W0.wk ?_ (ih11 _ _ _ hh)
      exact ⟨⟨⟨.rfl,rfl⟩,⟨.rfl,rfl⟩,⟨.rfl,rfl⟩,⟨.rfl,rfl⟩,trivial⟩,⟨⟨rfl,.refl _,rfl⟩,⟨rfl,.refl _,rfl⟩,⟨rfl,.refl _,rfl⟩,⟨rfl,⟨.rfl,.rfl,.rfl,.full,trivial⟩,rfl⟩,trivial⟩,rfl⟩
     ·refine F0.be hC rfl (A0.rows_map [o3,x3.1]).symm (n' ?_)
      refine E0.step rfl (j0:=0) (js:=[]) (by kernel_rfl) ⟨⟨_,rfl,?_⟩,trivial⟩
      refine e' rfl ?_
      refine E0.step rfl (j0:=5) (js:=[]) (by kernel_rfl) ⟨⟨_,rfl,?_⟩,trivial⟩
      refine e' rfl ?_
      refine E0.step rfl (j0:=6) (js:=[]) (by kernel_rfl) ⟨⟨_,rfl,?_⟩,trivial⟩
      refine F0.s hC rfl (n' (E0.nil (by kernel_rfl) ?_))
      refine W0.wk ?_ (ih11 _ _ _ hh)
      exact ⟨⟨⟨.rfl,rfl⟩,⟨.rfl,rfl⟩,⟨.rfl,rfl⟩,⟨.rfl,rfl⟩,trivial⟩,⟨⟨rfl,.refl _,rfl⟩,⟨rfl,.refl _,rfl⟩,⟨rfl,.refl _,rfl⟩,⟨rfl,⟨.rfl,.rfl,.rfl,.full,trivial⟩,rfl⟩,trivial⟩,rfl⟩
   ·refine g' [0] ((ih12 _ _ hx3).ok) rfl rfl rfl rfl rfl rfl (n' ?_)
    refine E0.step rfl (j0:=0) (js:=[1]) (by kernel_rfl) ⟨⟨_,rfl,?_⟩,⟨_,rfl,?_⟩,trivial⟩
    ·refine e' rfl ?_
     refine E0.step rfl (j0:=1) (js:=[]) (by kernel_rfl) ⟨⟨_,rfl,?_⟩,trivial⟩
     refine e' rfl ?_
     refine E0.step rfl (j0:=4) (js:=[]) (by kernel_rfl) ⟨⟨_,rfl,?_⟩,trivial⟩
     refine F0.be hC rfl (A0.rows_map [o3,x3.1]).symm (n' ?_)
     refine E0.step rfl (j0:=5) (js:=[]) (by kernel_rfl) ⟨⟨_,rfl,?_⟩,trivial⟩
     refine e' rfl ?_
     refine E0.step rfl (j0:=6) (js:=[]) (by kernel_rfl) ⟨⟨_,rfl,?_⟩,trivial⟩
     refine F0.s hC rfl (n' (E0.nil (by kernel_rfl) ?_))
     refine W0.wk ?_ (ih11 _ _ _ hh)
     exact ⟨⟨⟨.rfl,rfl⟩,⟨.rfl,rfl⟩,⟨.rfl,rfl⟩,⟨.rfl,rfl⟩,trivial⟩,⟨⟨rfl,.refl _,rfl⟩,⟨rfl,.refl _,rfl⟩,⟨rfl,.refl _,rfl⟩,⟨rfl,⟨.rfl,.rfl,.rfl,.full,trivial⟩,rfl⟩,trivial⟩,rfl⟩
    ·refine e' rfl ?_
     refine E0.step rfl (j0:=0) (js:=[4]) (by kernel_rfl) ⟨⟨_,rfl,?_⟩,⟨_,rfl,?_⟩,trivial⟩
     ·refine e' rfl ?_
      refine E0.step rfl (j0:=4) (js:=[]) (by kernel_rfl) ⟨⟨_,rfl,?_⟩,trivial⟩
      refine F0.be hC rfl (A0.rows_map [o3,x3.1]).symm (n' ?_)
      refine E0.step rfl (j0:=5) (js:=[]) (by kernel_rfl) ⟨⟨_,rfl,?_⟩,trivial⟩
      refine e' rfl ?_
      refine E0.step rfl (j0:=6) (js:=[]) (by kernel_rfl) ⟨⟨_,rfl,?_⟩,trivial⟩
      refine F0.s hC rfl (n' (E0.nil (by kernel_rfl) ?_))
      refine W0.wk ?_ (ih11 _ _ _ hh)
      exact ⟨⟨⟨.rfl,rfl⟩,⟨.rfl,rfl⟩,⟨.rfl,rfl⟩,⟨.rfl,rfl⟩,trivial⟩,⟨⟨rfl,.refl _,rfl⟩,⟨rfl,.refl _,rfl⟩,⟨rfl,.refl _,rfl⟩,⟨rfl,⟨.rfl,.rfl,.rfl,.full,trivial⟩,rfl⟩,trivial⟩,rfl⟩
     ·refine F0.be hC rfl (A0.rows_map [o3,x3.1]).symm (n' ?_)
      refine E0.step rfl (j0:=0) (js:=[]) (by kernel_rfl) ⟨⟨_,rfl,?_⟩,trivial⟩
      refine e' rfl ?_
      refine E0.step rfl (j0:=5) (js:=[]) (by kernel_rfl) ⟨⟨_,rfl,?_⟩,trivial⟩
      refine e' rfl ?_
      refine E0.step rfl (j0:=6) (js:=[]) (by kernel_rfl) ⟨⟨_,rfl,?_⟩,trivial⟩
      refine F0.s hC rfl (n' (E0.nil (by kernel_rfl) ?_))
      refine W0.wk ?_ (ih11 _ _ _ hh)
      exact ⟨⟨⟨.rfl,rfl⟩,⟨.rfl,rfl⟩,⟨.rfl,rfl⟩,⟨.rfl,rfl⟩,trivial⟩,⟨⟨rfl,.refl _,rfl⟩,⟨rfl,.refl _,rfl⟩,⟨rfl,.refl _,rfl⟩,⟨rfl,⟨.rfl,.rfl,.rfl,.full,trivial⟩,rfl⟩,trivial⟩,rfl⟩
 ·intro g13 ih13 parserParser res hh
  refine E2.intro hC Tryz.func203 rfl rfl rfl (s' rfl rfl (F0.n hC rfl (F0.nf hC rfl (n' (p' 4 rfl ?_)))))
  rcases bp' hh with ⟨nn,hx1,⟨⟩⟩ | ⟨x1,hx1,hh⟩
  ·exact gn' [0,1] (ih13 _ _ hx1) rfl rfl rfl rfl rfl (fun hi=>peW ⟨trivial,trivial⟩ rfl hi)
  cases hh
  exact g' [0,1] ((ih13 _ _ hx1).ok) rfl rfl rfl rfl rfl rfl (F0.s hC rfl (n' (re' (rt' rfl rfl rfl))))
 ·intro g14 g15 ih14 ih15 parserParser res hh
  refine E2.intro hC Tryz.func110 rfl rfl rfl (s' rfl rfl (F0.nf hC rfl (n' (p' 1 rfl ?_))))
  rcases bp' hh with ⟨nn,hx1,⟨⟩⟩ | ⟨x1,hx1,hh⟩
  ·exact gn' [0] (ih15 _ _ hx1) rfl rfl rfl rfl rfl (fun hi=>peW ⟨trivial,⟨rfl,.refl _,rfl⟩,trivial⟩ rfl hi)
  exact g' [0] ((ih15 _ _ hx1).ok) rfl rfl rfl rfl rfl rfl (F0.nf hC rfl (F0.s hC rfl (n' (bk' (fw' (ih14 _ _ _ hh) rfl rfl rfl)))))
 ·intro g14 g15 ih14 ih15 o0 o3 res hh
  obtain ⟨x2,hx2,hh⟩:=bs' hh
  refine W0.unroll (bk' (p' 1 rfl (g' [1,0] (Ju hx2) rfl rfl rfl rfl rfl rfl (e' rfl (S' (t' rfl (ci' rfl hh (fun hh=>?_) (fun hh=>?_))))))))
  ·cases hh
   exact p' 1 rfl (F0.s hC rfl (n' (re' (rt' rfl rfl rfl))))
  refine sk' ?_
  rcases bp' hh with ⟨nn,hx3,⟨⟩⟩ | ⟨x3,hx3,hh⟩
  ·refine AEx.drawE hC ?_
   refine E0.step rfl (j0:=0) (js:=[1,2]) (by kernel_rfl) ⟨⟨_,rfl,?_⟩,⟨_,rfl,?_⟩,⟨_,rfl,?_⟩,trivial⟩
   ·refine e' rfl ?_
    refine E0.step rfl (j0:=1) (js:=[2]) (by kernel_rfl) ⟨⟨_,rfl,?_⟩,⟨_,rfl,?_⟩,trivial⟩
    ·refine e' rfl ?_
     refine E0.step rfl (j0:=2) (js:=[]) (by kernel_rfl) ⟨⟨_,rfl,?_⟩,trivial⟩
     refine e' rfl ?_
     refine E0.step rfl (j0:=3) (js:=[]) (by kernel_rfl) ⟨⟨_,rfl,?_⟩,trivial⟩
     exact gn' [0] (ih15 _ _ hx3) rfl rfl rfl rfl rfl (fun hi=>peW ⟨trivial,⟨rfl,.refl _,rfl⟩,trivial⟩ rfl hi)
    ·refine e' rfl ?_
     refine E0.step rfl (j0:=1) (js:=[3]) (by kernel_rfl) ⟨⟨_,rfl,?_⟩,⟨_,rfl,?_⟩,trivial⟩
     ·refine e' rfl ?_
      refine E0.step rfl (j0:=3) (js:=[]) (by kernel_rfl) ⟨⟨_,rfl,?_⟩,trivial⟩
      exact gn' [0] (ih15 _ _ hx3) rfl rfl rfl rfl rfl (fun hi=>peW ⟨trivial,⟨rfl,.refl _,rfl⟩,trivial⟩ rfl hi)
     ·exact gn' [0] (ih15 _ _ hx3) rfl rfl rfl rfl rfl (fun hi=>peW ⟨trivial,⟨rfl,.refl _,rfl⟩,trivial⟩ rfl hi)
   ·refine e' rfl ?_
    refine E0.step rfl (j0:=0) (js:=[2]) (by kernel_rfl) ⟨⟨_,rfl,?_⟩,⟨_,rfl,?_⟩,trivial⟩
    ·refine e' rfl ?_
     refine E0.step rfl (j0:=2) (js:=[]) (by kernel_rfl) ⟨⟨_,rfl,?_⟩,trivial⟩
     refine e' rfl ?_
     refine E0.step rfl (j0:=3) (js:=[]) (by kernel_rfl) ⟨⟨_,rfl,?_⟩,trivial⟩
     exact gn' [0] (ih15 _ _ hx3) rfl rfl rfl rfl rfl (fun hi=>peW ⟨trivial,⟨rfl,.refl _,rfl⟩,trivial⟩ rfl hi)
    ·refine e' rfl ?_
     refine E0.step rfl (j0:=0) (js:=[3]) (by kernel_rfl) ⟨⟨_,rfl,?_⟩,⟨_,rfl,?_⟩,trivial⟩
     ·refine e' rfl ?_
      refine E0.step rfl (j0:=3) (js:=[]) (by kernel_rfl) ⟨⟨_,rfl,?_⟩,trivial⟩
      exact gn' [0] (ih15 _ _ hx3) rfl rfl rfl rfl rfl (fun hi=>peW ⟨trivial,⟨rfl,.refl _,rfl⟩,trivial⟩ rfl hi)
     ·exact gn' [0] (ih15 _ _ hx3) rfl rfl rfl rfl rfl (fun hi=>peW ⟨trivial,⟨rfl,.refl _,rfl⟩,trivial⟩ rfl hi)
   ·refine e' rfl ?_
    refine E0.step rfl (j0:=0) (js:=[1,3]) (by kernel_rfl) ⟨⟨_,rfl,?_⟩,⟨_,rfl,?_⟩,⟨_,rfl,?_⟩,trivial⟩
    ·refine e' rfl ?_
     refine E0.step rfl (j0:=1) (js:=[3]) (by kernel_rfl) ⟨⟨_,rfl,?_⟩,⟨_,rfl,?_⟩,trivial⟩
     ·refine e' rfl ?_
      refine E0.step rfl (j0:=3) (js:=[]) (by kernel_rfl) ⟨⟨_,rfl,?_⟩,trivial⟩
      exact gn' [0] (ih15 _ _ hx3) rfl rfl rfl rfl rfl (fun hi=>peW ⟨trivial,⟨rfl,.refl _,rfl⟩,trivial⟩ rfl hi)
     ·exact gn' [0] (ih15 _ _ hx3) rfl rfl rfl rfl rfl (fun hi=>peW ⟨trivial,⟨rfl,.refl _,rfl⟩,trivial⟩ rfl hi)
    ·refine e' rfl ?_
     refine E0.step rfl (j0:=0) (js:=[3]) (by kernel_rfl) ⟨⟨_,rfl,?_⟩,⟨_,rfl,?_⟩,trivial⟩
     ·refine e' rfl ?_
      refine E0.step rfl (j0:=3) (js:=[]) (by kernel_rfl) ⟨⟨_,rfl,?_⟩,trivial⟩
      exact gn' [0] (ih15 _ _ hx3) rfl rfl rfl rfl rfl (fun hi=>peW ⟨trivial,⟨rfl,.refl _,rfl⟩,trivial⟩ rfl hi)
     ·exact gn' [0] (ih15 _ _ hx3) rfl rfl rfl rfl rfl (fun hi=>peW ⟨trivial,⟨rfl,.refl _,rfl⟩,trivial⟩ rfl hi)
    ·exact gn' [0] (ih15 _ _ hx3) rfl rfl rfl rfl rfl (fun hi=>peW ⟨trivial,⟨rfl,.refl _,rfl⟩,trivial⟩ rfl hi)
  refine AEx.drawE hC ?_
  refine E0.step rfl (j0:=0) (js:=[1,2]) (by kernel_rfl) ⟨⟨_,rfl,?_⟩,⟨_,rfl,?_⟩,⟨_,rfl,?_⟩,trivial⟩
  ·refine e' rfl ?_
   refine E0.step rfl (j0:=1) (js:=[2]) (by kernel_rfl) ⟨⟨_,rfl,?_⟩,⟨_,rfl,?_⟩,trivial⟩
   ·refine e' rfl ?_
    refine E0.step rfl (j0:=2) (js:=[]) (by kernel_rfl) ⟨⟨_,rfl,?_⟩,trivial⟩
    refine e' rfl ?_
    refine E0.step rfl (j0:=3) (js:=[]) (by kernel_rfl) ⟨⟨_,rfl,?_⟩,trivial⟩
    refine g' [0] ((ih15 _ _ hx3).ok) rfl rfl rfl rfl rfl rfl (n' ?_)
    refine E0.step rfl (j0:=4) (js:=[]) (by kernel_rfl) ⟨⟨_,rfl,?_⟩,trivial⟩
    refine F0.be hC rfl (A0.rows_map [o3,x3.1]).symm (n' ?_)
    refine E0.step rfl (j0:=5) (js:=[]) (by kernel_rfl) ⟨⟨_,rfl,?_⟩,trivial⟩
    refine e' rfl ?_
    refine E0.step rfl (j0:=6) (js:=[]) (by kernel_rfl) ⟨⟨_,rfl,?_⟩,trivial⟩
    refine F0.s hC rfl (n' (E0.nil (by kernel_rfl) ?_))
    refine W0.wk ?_ (ih14 _ _ _ hh)
    exact ⟨⟨⟨.rfl,rfl⟩,⟨.rfl,rfl⟩,⟨.rfl,rfl⟩,⟨.rfl,rfl⟩,trivial⟩,⟨⟨rfl,.refl _,rfl⟩,⟨rfl,.refl _,rfl⟩,⟨rfl,.refl _,rfl⟩,⟨rfl,⟨.rfl,.rfl,.rfl,.full,trivial⟩,rfl⟩,trivial⟩,rfl⟩
   ·refine e' rfl ?_
    refine E0.step rfl (j0:=1) (js:=[3]) (by kernel_rfl) ⟨⟨_,rfl,?_⟩,⟨_,rfl,?_⟩,trivial⟩
    ·refine e' rfl ?_
     refine E0.step rfl (j0:=3) (js:=[]) (by kernel_rfl) ⟨⟨_,rfl,?_⟩,trivial⟩
     refine g' [0] ((ih15 _ _ hx3).ok) rfl rfl rfl rfl rfl rfl (n' ?_)
     refine E0.step rfl (j0:=4) (js:=[]) (by kernel_rfl) ⟨⟨_,rfl,?_⟩,trivial⟩
     refine F0.be hC rfl (A0.rows_map [o3,x3.1]).symm (n' ?_)
     refine E0.step rfl (j0:=5) (js:=[]) (by kernel_rfl) ⟨⟨_,rfl,?_⟩,trivial⟩
     refine e' rfl ?_
     refine E0.step rfl (j0:=6) (js:=[]) (by kernel_rfl) ⟨⟨_,rfl,?_⟩,trivial⟩
     refine F0.s hC rfl (n' (E0.nil (by kernel_rfl) ?_))
     refine W0.wk ?_ (ih14 _ _ _ hh)
     exact ⟨⟨⟨.rfl,rfl⟩,⟨.rfl,rfl⟩,⟨.rfl,rfl⟩,⟨.rfl,rfl⟩,trivial⟩,⟨⟨rfl,.refl _,rfl⟩,⟨rfl,.refl _,rfl⟩,⟨rfl,.refl _,rfl⟩,⟨rfl,⟨.rfl,.rfl,.rfl,.full,trivial⟩,rfl⟩,trivial⟩,rfl⟩
    ·refine g' [0] ((ih15 _ _ hx3).ok) rfl rfl rfl rfl rfl rfl (n' ?_)
     refine E0.step rfl (j0:=1) (js:=[]) (by kernel_rfl) ⟨⟨_,rfl,?_⟩,trivial⟩
     refine e' rfl ?_
     refine E0.step rfl (j0:=4) (js:=[]) (by kernel_rfl) ⟨⟨_,rfl,?_⟩,trivial⟩
     refine F0.be hC rfl (A0.rows_map [o3,x3.1]).symm (n' ?_)
     refine E0.step rfl (j0:=5) (js:=[]) (by kernel_rfl) ⟨⟨_,rfl,?_⟩,trivial⟩
     refine e' rfl ?_
     refine E0.step rfl (j0:=6) (js:=[]) (by kernel_rfl) ⟨⟨_,rfl,?_⟩,trivial⟩
     refine F0.s hC rfl (n' (E0.nil (by kernel_rfl) ?_))
     refine W0.wk ?_ (ih14 _ _ _ hh)
     exact ⟨⟨⟨.rfl,rfl⟩,⟨.rfl,rfl⟩,⟨.rfl,rfl⟩,⟨.rfl,rfl⟩,trivial⟩,⟨⟨rfl,.refl _,rfl⟩,⟨rfl,.refl _,rfl⟩,⟨rfl,.refl _,rfl⟩,⟨rfl,⟨.rfl,.rfl,.rfl,.full,trivial⟩,rfl⟩,trivial⟩,rfl⟩
  ·refine e' rfl ?_
   refine E0.step rfl (j0:=0) (js:=[2]) (by kernel_rfl) ⟨⟨_,rfl,?_⟩,⟨_,rfl,?_⟩,trivial⟩
   ·refine e' rfl ?_
    refine E0.step rfl (j0:=2) (js:=[]) (by kernel_rfl) ⟨⟨_,rfl,?_⟩,trivial⟩
    refine e' rfl ?_
    refine E0.step rfl (j0:=3) (js:=[]) (by kernel_rfl) ⟨⟨_,rfl,?_⟩,trivial⟩
    refine g' [0] ((ih15 _ _ hx3).ok) rfl rfl rfl rfl rfl rfl (n' ?_)
    refine E0.step rfl (j0:=4) (js:=[]) (by kernel_rfl) ⟨⟨_,rfl,?_⟩,trivial⟩
    refine F0.be hC rfl (A0.rows_map [o3,x3.1]).symm (n' ?_)
    refine E0.step rfl (j0:=5) (js:=[]) (by kernel_rfl) ⟨⟨_,rfl,?_⟩,trivial⟩
    refine e' rfl ?_
    refine E0.step rfl (j0:=6) (js:=[]) (by kernel_rfl) ⟨⟨_,rfl,?_⟩,trivial⟩
    refine F0.s hC rfl (n' (E0.nil (by kernel_rfl) ?_))
    refine W0.wk ?_ (ih14 _ _ _ hh)
    exact ⟨⟨⟨.rfl,rfl⟩,⟨.rfl,rfl⟩,⟨.rfl,rfl⟩,⟨.rfl,rfl⟩,trivial⟩,⟨⟨rfl,.refl _,rfl⟩,⟨rfl,.refl _,rfl⟩,⟨rfl,.refl _,rfl⟩,⟨rfl,⟨.rfl,.rfl,.rfl,.full,trivial⟩,rfl⟩,trivial⟩,rfl⟩
   ·refine e' rfl ?_
    refine E0.step rfl (j0:=0) (js:=[3]) (by kernel_rfl) ⟨⟨_,rfl,?_⟩,⟨_,rfl,?_⟩,trivial⟩
    ·refine e' rfl ?_
     refine E0.step rfl (j0:=3) (js:=[]) (by kernel_rfl) ⟨⟨_,rfl,?_⟩,trivial⟩
     refine g' [0] ((ih15 _ _ hx3).ok) rfl rfl rfl rfl rfl rfl (n' ?_)
     refine E0.step rfl (j0:=4) (js:=[]) (by kernel_rfl) ⟨⟨_,rfl,?_⟩,trivial⟩
     refine F0.be hC rfl (A0.rows_map [o3,x3.1]).symm (n' ?_)
     refine E0.step rfl (j0:=5) (js:=[]) (by kernel_rfl) ⟨⟨_,rfl,?_⟩,trivial⟩
     refine e' rfl ?_
     refine E0.step rfl (j0:=6) (js:=[]) (by kernel_rfl) ⟨⟨_,rfl,?_⟩,trivial⟩
     refine F0.s hC rfl (n' (E0.nil (by kernel_rfl) ?_))
     refine W0.wk ?_ (ih14 _ _ _ hh)
     exact ⟨⟨⟨.rfl,rfl⟩,⟨.rfl,rfl⟩,⟨.rfl,rfl⟩,⟨.rfl,rfl⟩,trivial⟩,⟨⟨rfl,.refl _,rfl⟩,⟨rfl,.refl _,rfl⟩,⟨rfl,.refl _,rfl⟩,⟨rfl,⟨.rfl,.rfl,.rfl,.full,trivial⟩,rfl⟩,trivial⟩,rfl⟩
    ·refine g' [0] ((ih15 _ _ hx3).ok) rfl rfl rfl rfl rfl rfl (n' ?_)
     refine E0.step rfl (j0:=0) (js:=[4]) (by kernel_rfl) ⟨⟨_,rfl,?_⟩,⟨_,rfl,?_⟩,trivial⟩
     ·refine e' rfl ?_
      refine E0.step rfl (j0:=4) (js:=[]) (by kernel_rfl) ⟨⟨_,rfl,?_⟩,trivial⟩
      refine F0.be hC rfl (A0.rows_map [o3,x3.1]).symm (n' ?_)
      refine E0.step rfl (j0:=5) (js:=[]) (by kernel_rfl) ⟨⟨_,rfl,?_⟩,trivial⟩
      refine e' rfl ?_
      refine E0.step rfl (j0:=6) (js:=[]) (by kernel_rfl) ⟨⟨_,rfl,?_⟩,trivial⟩
      refine F0.s hC rfl (n' (E0.nil (by kernel_rfl) ?_))
      refine W0.wk ?_ (ih14 _ _ _ hh)
      exact ⟨⟨⟨.rfl,rfl⟩,⟨.rfl,rfl⟩,⟨.rfl,rfl⟩,⟨.rfl,rfl⟩,trivial⟩,⟨⟨rfl,.refl _,rfl⟩,⟨rfl,.refl _,rfl⟩,⟨rfl,.refl _,rfl⟩,⟨rfl,⟨.rfl,.rfl,.rfl,.full,trivial⟩,rfl⟩,trivial⟩,rfl⟩
     ·refine F0.be hC rfl (A0.rows_map [o3,x3.1]).symm (n' ?_)
      refine E0.step rfl (j0:=0) (js:=[]) (by kernel_rfl) ⟨⟨_,rfl,?_⟩,trivial⟩
      refine e' rfl ?_
      refine E0.step rfl (j0:=5) (js:=[]) (by kernel_rfl) ⟨⟨_,rfl,?_⟩,trivial⟩
      refine e' rfl ?_
      refine E0.step rfl (j0:=6) (js:=[]) (by kernel_rfl) ⟨⟨_,rfl,?_⟩,trivial⟩
      refine F0.s hC rfl (n' (E0.nil (by kernel_rfl) ?_))
      refine W0.wk ?_ (ih14 _ _ _ hh)
      exact ⟨⟨⟨.rfl,rfl⟩,⟨.rfl,rfl⟩,⟨.rfl,rfl⟩,⟨.rfl,rfl⟩,trivial⟩,⟨⟨rfl,.refl _,rfl⟩,⟨rfl,.refl _,rfl⟩,⟨rfl,.refl _,rfl⟩,⟨rfl,⟨.rfl,.rfl,.rfl,.full,trivial⟩,rfl⟩,trivial⟩,rfl⟩
  ·refine e' rfl ?_
   refine E0.step rfl (j0:=0) (js:=[1,3]) (by kernel_rfl) ⟨⟨_,rfl,?_⟩,⟨_,rfl,?_⟩,⟨_,rfl,?_⟩,trivial⟩
   ·refine e' rfl ?_
    refine E0.step rfl (j0:=1) (js:=[3]) (by kernel_rfl) ⟨⟨_,rfl,?_⟩,⟨_,rfl,?_⟩,trivial⟩
    ·refine e' rfl ?_
     refine E0.step rfl (j0:=3) (js:=[]) (by kernel_rfl) ⟨⟨_,rfl,?_⟩,trivial⟩
     refine g' [0] ((ih15 _ _ hx3).ok) rfl rfl rfl rfl rfl rfl (n' ?_)
     refine E0.step rfl (j0:=4) (js:=[]) (by kernel_rfl) ⟨⟨_,rfl,?_⟩,trivial⟩
     refine F0.be hC rfl (A0.rows_map [o3,x3.1]).symm (n' ?_)
     refine E0.step rfl (j0:=5) (js:=[]) (by kernel_rfl) ⟨⟨_,rfl,?_⟩,trivial⟩
     refine e' rfl ?_
     refine E0.step rfl (j0:=6) (js:=[]) (by kernel_rfl) ⟨⟨_,rfl,?_⟩,trivial⟩
     refine F0.s hC rfl (n' (E0.nil (by kernel_rfl) ?_))
     refine W0.wk ?_ (ih14 _ _ _ hh)
     exact ⟨⟨⟨.rfl,rfl⟩,⟨.rfl,rfl⟩,⟨.rfl,rfl⟩,⟨.rfl,rfl⟩,trivial⟩,⟨⟨rfl,.refl _,rfl⟩,⟨rfl,.refl _,rfl⟩,⟨rfl,.refl _,rfl⟩,⟨rfl,⟨.rfl,.rfl,.rfl,.full,trivial⟩,rfl⟩,trivial⟩,rfl⟩
    ·refine g' [0] ((ih15 _ _ hx3).ok) rfl rfl rfl rfl rfl rfl (n' ?_)
     refine E0.step rfl (j0:=1) (js:=[]) (by kernel_rfl) ⟨⟨_,rfl,?_⟩,trivial⟩
     refine e' rfl ?_
     refine E0.step rfl (j0:=4) (js:=[]) (by kernel_rfl) ⟨⟨_,rfl,?_⟩,trivial⟩
     refine F0.be hC rfl (A0.rows_map [o3,x3.1]).symm (n' ?_)
     refine E0.step rfl (j0:=5) (js:=[]) (by kernel_rfl) ⟨⟨_,rfl,?_⟩,trivial⟩
     refine e' rfl ?_
     refine E0.step rfl (j0:=6) (js:=[]) (by kernel_rfl) ⟨⟨_,rfl,?_⟩,trivial⟩
     refine F0.s hC rfl (n' (E0.nil (by kernel_rfl) ?_))
     refine W0.wk ?_ (ih14 _ _ _ hh)
     exact ⟨⟨⟨.rfl,rfl⟩,⟨.rfl,rfl⟩,⟨.rfl,rfl⟩,⟨.rfl,rfl⟩,trivial⟩,⟨⟨rfl,.refl _,rfl⟩,⟨rfl,.refl _,rfl⟩,⟨rfl,.refl _,rfl⟩,⟨rfl,⟨.rfl,.rfl,.rfl,.full,trivial⟩,rfl⟩,trivial⟩,rfl⟩
   ·refine e' rfl ?_
    refine E0.step rfl (j0:=0) (js:=[3]) (by kernel_rfl) ⟨⟨_,rfl,?_⟩,⟨_,rfl,?_⟩,trivial⟩
    ·refine e' rfl ?_
     refine E0.step rfl (j0:=3) (js:=[]) (by kernel_rfl) ⟨⟨_,rfl,?_⟩,trivial⟩
     refine g' [0] ((ih15 _ _ hx3).ok) rfl rfl rfl rfl rfl rfl (n' ?_)
     refine E0.step rfl (j0:=4) (js:=[]) (by kernel_rfl) ⟨⟨_,rfl,?_⟩,trivial⟩
     refine F0.be hC rfl (A0.rows_map [o3,x3.1]).symm (n' ?_)
     refine E0.step rfl (j0:=5) (js:=[]) (by kernel_rfl) ⟨⟨_,rfl,?_⟩,trivial⟩
     refine e' rfl ?_
     refine E0.step rfl (j0:=6) (js:=[]) (by kernel_rfl) ⟨⟨_,rfl,?_⟩,trivial⟩
     refine F0.s hC rfl (n' (E0.nil (by kernel_rfl) ?_))
     refine W0.wk ?_ (ih14 _ _ _ hh)
     exact ⟨⟨⟨.rfl,rfl⟩,⟨.rfl,rfl⟩,⟨.rfl,rfl⟩,⟨.rfl,rfl⟩,trivial⟩,⟨⟨rfl,.refl _,rfl⟩,⟨rfl,.refl _,rfl⟩,⟨rfl,.refl _,rfl⟩,⟨rfl,⟨.rfl,.rfl,.rfl,.full,trivial⟩,rfl⟩,trivial⟩,rfl⟩
    ·refine g' [0] ((ih15 _ _ hx3).ok) rfl rfl rfl rfl rfl rfl (n' ?_)
     refine E0.step rfl (j0:=0) (js:=[4]) (by kernel_rfl) ⟨⟨_,rfl,?_⟩,⟨_,rfl,?_⟩,trivial⟩
     ·refine e' rfl ?_
      refine E0.step rfl (j0:=4) (js:=[]) (by kernel_rfl) ⟨⟨_,rfl,?_⟩,trivial⟩
      refine F0.be hC rfl (A0.rows_map [o3,x3.1]).symm (n' ?_)
      refine E0.step rfl (j0:=5) (js:=[]) (by kernel_rfl) ⟨⟨_,rfl,?_⟩,trivial⟩
      refine e' rfl ?_
      refine E0.step rfl (j0:=6) (js:=[]) (by kernel_rfl) ⟨⟨_,rfl,?_⟩,trivial⟩
      refine F0.s hC rfl (n' (E0.nil (by kernel_rfl) ?_))
      refine W0.wk ?_ (ih14 _ _ _ hh)
      exact ⟨⟨⟨.rfl,rfl⟩,⟨.rfl,rfl⟩,⟨.rfl,rfl⟩,⟨.rfl,rfl⟩,trivial⟩,⟨⟨rfl,.refl _,rfl⟩,⟨rfl,.refl _,rfl⟩,⟨rfl,.refl _,rfl⟩,⟨rfl,⟨.rfl,.rfl,.rfl,.full,trivial⟩,rfl⟩,trivial⟩,rfl⟩
     ·refine F0.be hC rfl (A0.rows_map [o3,x3.1]).symm (n' ?_)
      refine E0.step rfl (j0:=0) (js:=[]) (by kernel_rfl) ⟨⟨_,rfl,?_⟩,trivial⟩
      refine e' rfl ?_
      refine E0.step rfl (j0:=5) (js:=[]) (by kernel_rfl) ⟨⟨_,rfl,?_⟩,trivial⟩
      refine e' rfl ?_
      refine E0.step rfl (j0:=6) (js:=[]) (by kernel_rfl) ⟨⟨_,rfl,?_⟩,trivial⟩
      refine F0.s hC rfl (n' (E0.nil (by kernel_rfl) ?_))
      refine W0.wk ?_ (ih14 _ _ _ hh)
      exact ⟨⟨⟨.rfl,rfl⟩,⟨.rfl,rfl⟩,⟨.rfl,rfl⟩,⟨.rfl,rfl⟩,trivial⟩,⟨⟨rfl,.refl _,rfl⟩,⟨rfl,.refl _,rfl⟩,⟨rfl,.refl _,rfl⟩,⟨rfl,⟨.rfl,.rfl,.rfl,.full,trivial⟩,rfl⟩,trivial⟩,rfl⟩
   ·refine g' [0] ((ih15 _ _ hx3).ok) rfl rfl rfl rfl rfl rfl (n' ?_)
    refine E0.step rfl (j0:=0) (js:=[1]) (by kernel_rfl) ⟨⟨_,rfl,?_⟩,⟨_,rfl,?_⟩,trivial⟩
    ·refine e' rfl ?_
     refine E0.step rfl (j0:=1) (js:=[]) (by kernel_rfl) ⟨⟨_,rfl,?_⟩,trivial⟩
     refine e' rfl ?_
     refine E0.step rfl (j0:=4) (js:=[]) (by kernel_rfl) ⟨⟨_,rfl,?_⟩,trivial⟩
     refine F0.be hC rfl (A0.rows_map [o3,x3.1]).symm (n' ?_)
     refine E0.step rfl (j0:=5) (js:=[]) (by kernel_rfl) ⟨⟨_,rfl,?_⟩,trivial⟩
     refine e' rfl ?_
     refine E0.step rfl (j0:=6) (js:=[]) (by kernel_rfl) ⟨⟨_,rfl,?_⟩,trivial⟩
     refine F0.s hC rfl (n' (E0.nil (by kernel_rfl) ?_))
     refine W0.wk ?_ (ih14 _ _ _ hh)
     exact ⟨⟨⟨.rfl,rfl⟩,⟨.rfl,rfl⟩,⟨.rfl,rfl⟩,⟨.rfl,rfl⟩,trivial⟩,⟨⟨rfl,.refl _,rfl⟩,⟨rfl,.refl _,rfl⟩,⟨rfl,.refl _,rfl⟩,⟨rfl,⟨.rfl,.rfl,.rfl,.full,trivial⟩,rfl⟩,trivial⟩,rfl⟩
    ·refine e' rfl ?_
     refine E0.step rfl (j0:=0) (js:=[4]) (by kernel_rfl) ⟨⟨_,rfl,?_⟩,⟨_,rfl,?_⟩,trivial⟩
     ·refine e' rfl ?_
      refine E0.step rfl (j0:=4) (js:=[]) (by kernel_rfl) ⟨⟨_,rfl,?_⟩,trivial⟩
      refine F0.be hC rfl (A0.rows_map [o3,x3.1]).symm (n' ?_)
      refine E0.step rfl (j0:=5) (js:=[]) (by kernel_rfl) ⟨⟨_,rfl,?_⟩,trivial⟩
      refine e' rfl ?_
      refine E0.step rfl (j0:=6) (js:=[]) (by kernel_rfl) ⟨⟨_,rfl,?_⟩,trivial⟩
      refine F0.s hC rfl (n' (E0.nil (by kernel_rfl) ?_))
      refine W0.wk ?_ (ih14 _ _ _ hh)
      exact ⟨⟨⟨.rfl,rfl⟩,⟨.rfl,rfl⟩,⟨.rfl,rfl⟩,⟨.rfl,rfl⟩,trivial⟩,⟨⟨rfl,.refl _,rfl⟩,⟨rfl,.refl _,rfl⟩,⟨rfl,.refl _,rfl⟩,⟨rfl,⟨.rfl,.rfl,.rfl,.full,trivial⟩,rfl⟩,trivial⟩,rfl⟩
     ·refine F0.be hC rfl (A0.rows_map [o3,x3.1]).symm (n' ?_)
      refine E0.step rfl (j0:=0) (js:=[]) (by kernel_rfl) ⟨⟨_,rfl,?_⟩,trivial⟩
      refine e' rfl ?_
      refine E0.step rfl (j0:=5) (js:=[]) (by kernel_rfl) ⟨⟨_,rfl,?_⟩,trivial⟩
      refine e' rfl ?_
      refine E0.step rfl (j0:=6) (js:=[]) (by kernel_rfl) ⟨⟨_,rfl,?_⟩,trivial⟩
      refine F0.s hC rfl (n' (E0.nil (by kernel_rfl) ?_))
      refine W0.wk ?_ (ih14 _ _ _ hh)
      exact ⟨⟨⟨.rfl,rfl⟩,⟨.rfl,rfl⟩,⟨.rfl,rfl⟩,⟨.rfl,rfl⟩,trivial⟩,⟨⟨rfl,.refl _,rfl⟩,⟨rfl,.refl _,rfl⟩,⟨rfl,.refl _,rfl⟩,⟨rfl,⟨.rfl,.rfl,.rfl,.full,trivial⟩,rfl⟩,trivial⟩,rfl⟩
 ·intro g15 g16 ih15 ih16 parserParser res hh
  obtain ⟨x1,hx1,hh⟩:=bs' hh
  refine E2.intro hC Tryz.func214 rfl rfl rfl (s' rfl rfl (F0.nf hC rfl (n' (S' (bk' (p' 1 rfl (g' [0] (S0 hx1) rfl rfl rfl rfl rfl rfl (e' rfl (ci' rfl hh (fun hh=>?_) (fun hh=>?_))))))))))
  ·refine p' 1 rfl ?_
   rcases bp' hh with ⟨nn,hx4,⟨⟩⟩ | ⟨x4,hx4,hh⟩
   ·exact gn' [0] (ih15 _ _ hx4) rfl rfl rfl rfl rfl (fun hi=>peW ⟨trivial,trivial⟩ rfl hi)
   refine g' [0] ((ih15 _ _ hx4).ok) rfl rfl rfl rfl rfl rfl (F0.be hC rfl (A0.rows_map [x4.1]).symm (q' rfl (F0.s hC rfl (n' (re' ?_)))))
   obtain rfl:=oi' hh
   exact ⟨_,.agg [.d (.int .i64 6),.d (.int .i64 0),.d (.str []),.d (.sl (A0.rows [x4.1]))],[.row (B0.cells x4.2) 99],rfl,(.aggL ⟨.rfl,.rfl,.rfl,.full,trivial⟩),⟨⟨rfl,.refl _,rfl⟩,trivial⟩,rfl,rfl,rpq rfl rfl⟩
  obtain ⟨x2,hx2,hh⟩:=bs' hh
  refine p' 1 rfl (g' [0] (S0 hx2) rfl rfl rfl rfl rfl rfl (e' rfl (ci' rfl hh (fun hh=>?_) (fun hh=>?_))))
  ·refine p' 1 rfl ?_
   rcases bp' hh with ⟨nn,hx5,⟨⟩⟩ | ⟨x5,hx5,hh⟩
   ·exact gn' [0] (ih15 _ _ hx5) rfl rfl rfl rfl rfl (fun hi=>peW ⟨trivial,trivial⟩ rfl hi)
   refine g' [0] ((ih15 _ _ hx5).ok) rfl rfl rfl rfl rfl rfl (F0.be hC rfl (A0.rows_map [x5.1]).symm (q' rfl (F0.s hC rfl (n' (re' ?_)))))
   obtain rfl:=oi' hh
   exact ⟨_,.agg [.d (.int .i64 7),.d (.int .i64 0),.d (.str []),.d (.sl (A0.rows [x5.1]))],[.row (B0.cells x5.2) 99],rfl,(.aggL ⟨.rfl,.rfl,.rfl,.full,trivial⟩),⟨⟨rfl,.refl _,rfl⟩,trivial⟩,rfl,rfl,rpq rfl rfl⟩
  refine sk' (p' 1 rfl ?_)
  rcases bp' hh with ⟨nn,hx3,⟨⟩⟩ | ⟨x3,hx3,hh⟩
  ·exact gn' [0] (ih16 _ _ hx3) rfl rfl rfl rfl rfl (fun hi=>peW ⟨trivial,trivial⟩ rfl hi)
  cases hh
  exact g' [0] ((ih16 _ _ hx3).ok) rfl rfl rfl rfl rfl rfl (F0.s hC rfl (n' (re' (rt' rfl rfl rfl))))
 ·intro g0 g17 g18 ih0 ih17 ih18 parserParser res hh
  obtain ⟨x1,hx1,hh⟩:=bs' hh
  refine E2.intro hC Tryz.func223 rfl rfl rfl (s' rfl rfl (F0.nf hC rfl (n' (S' (bk' (p' 1 rfl (g' [0] (Gh hx1) rfl rfl rfl rfl rfl rfl (e' rfl (ci' rfl hh (fun hh=>?_) (fun hh=>?_))))))))))
  ·refine p' 1 rfl ?_
   rcases bp' hh with ⟨nn,hx2,⟨⟩⟩ | ⟨x2,hx2,hh⟩
   ·exact gn' [0] (ih18 _ _ hx2) rfl rfl rfl rfl rfl (fun hi=>peW ⟨trivial,trivial⟩ rfl hi)
   cases hh
   exact g' [0] ((ih18 _ _ hx2).ok) rfl rfl rfl rfl rfl rfl (F0.s hC rfl (n' (re' (rt' rfl rfl rfl))))
  obtain ⟨x3,hx3,hh⟩:=bs' hh
  refine p' 1 rfl (g' [0] (S0 hx3) rfl rfl rfl rfl rfl rfl (e' rfl (ci' rfl hh (fun hh=>?_) (fun hh=>?_))))
  ·cases hh
   exact p' 1 rfl (F0.s hC rfl (n' (re' (rt' rfl rfl rfl))))
  obtain ⟨x4,hx4,hh⟩:=bs' hh
  refine p' 1 rfl (g' [0] (S0 hx4) rfl rfl rfl rfl rfl rfl (e' rfl (ci' rfl hh (fun hh=>?_) (fun hh=>?_))))
  ·cases hh
   exact p' 1 rfl (F0.s hC rfl (n' (re' (rt' rfl rfl rfl))))
  obtain ⟨x5,hx5,hh⟩:=bs' hh
  refine p' 1 rfl (g' [0] (S0 hx5) rfl rfl rfl rfl rfl rfl (e' rfl (ci' rfl hh (fun hh=>?_) (fun hh=>?_))))
  ·refine p' 1 rfl ?_
   rcases bp' hh with ⟨nn,hx11,⟨⟩⟩ | ⟨x11,hx11,hh⟩
   ·exact gn' [0] (ih17 _ _ _ hx11) rfl rfl rfl rfl rfl (fun hi=>peW ⟨trivial,trivial⟩ rfl hi)
   cases hh
   exact g' [0] ((ih17 _ _ _ hx11).ok) rfl rfl rfl rfl rfl rfl (F0.s hC rfl (n' (re' (rt' rfl rfl rfl))))
  obtain ⟨x6,hx6,hh⟩:=bs' hh
  refine p' 1 rfl (g' [0] (S0 hx6) rfl rfl rfl rfl rfl rfl (e' rfl (ci' rfl hh (fun hh=>?_) (fun hh=>?_))))
  ·refine p' 1 rfl ?_
   rcases bp' hh with ⟨nn,hx12,⟨⟩⟩ | ⟨x12,hx12,hh⟩
   ·exact gn' [0] (ih17 _ _ _ hx12) rfl rfl rfl rfl rfl (fun hi=>peW ⟨trivial,trivial⟩ rfl hi)
   cases hh
   exact g' [0] ((ih17 _ _ _ hx12).ok) rfl rfl rfl rfl rfl rfl (F0.s hC rfl (n' (re' (rt' rfl rfl rfl))))
  obtain ⟨x7,hx7,hh⟩:=bs' hh
  refine p' 1 rfl (g' [0] (S0 hx7) rfl rfl rfl rfl rfl rfl (e' rfl (ci' rfl hh (fun hh=>?_) (fun hh=>?_))))
  ·refine p' 1 rfl ?_
   rcases bp' hh with ⟨nn,hx9,⟨⟩⟩ | ⟨x9,hx9,hh⟩
   ·exact gn' [0] (ih0 _ _ hx9) rfl rfl rfl rfl rfl (fun hi=>peW ⟨trivial,trivial⟩ rfl hi)
   refine g' [0] ((ih0 _ _ hx9).ok) rfl rfl rfl rfl rfl rfl (F0.nf hC rfl (F0.s hC rfl (n' (p' 1 rfl ?_))))
   rcases bp' hh with ⟨nn,hx10,⟨⟩⟩ | ⟨x10,hx10,hh⟩
   ·exact gn' [0] (L0 hx10) rfl rfl rfl rfl rfl (fun hi=>peW ⟨trivial,trivial⟩ rfl hi)
   cases hh
   exact g' [0] ((L0 hx10).ok) rfl rfl rfl rfl rfl rfl (n' (p' 1 rfl (F0.s hC rfl (n' (re' (rt' rfl rfl rfl))))))
  refine sk' (p' 1 rfl ?_)
  rcases bp' hh with ⟨nn,hx8,⟨⟩⟩ | ⟨x8,hx8,hh⟩
  ·exact gn' [0] (F7 hx8) rfl rfl rfl rfl rfl (fun hi=>peW ⟨trivial,trivial⟩ rfl hi)
  cases hh
  exact g' [0] ((F7 hx8).ok) rfl rfl rfl rfl rfl rfl (q' rfl (F0.s hC rfl (n' (re' (rt' rfl rfl rfl)))))
 ·intro g0 ih0 op parserParser res hh
  refine E2.intro hC Tryz.func228 rfl rfl rfl (s' rfl rfl (F0.nf hC rfl (n' (p' 1 rfl ?_))))
  rcases bp' hh with ⟨nn,hx1,⟨⟩⟩ | ⟨x1,hx1,hh⟩
  ·exact gn' [0] (L0 hx1) rfl rfl rfl rfl rfl (fun hi=>peW ⟨trivial,trivial⟩ rfl hi)
  refine g' [0] ((L0 hx1).ok) rfl rfl rfl rfl rfl rfl (n' (p' 1 rfl ?_))
  rcases bp' hh with ⟨nn,hx2,⟨⟩⟩ | ⟨x2,hx2,hh⟩
  ·exact gn' [0] (ih0 _ _ hx2) rfl rfl rfl rfl rfl (fun hi=>peW ⟨trivial,trivial⟩ rfl hi)
  refine g' [0] ((ih0 _ _ hx2).ok) rfl rfl rfl rfl rfl rfl (F0.nf hC rfl (F0.s hC rfl (n' (p' 1 rfl ?_))))
  rcases bp' hh with ⟨nn,hx3,⟨⟩⟩ | ⟨x3,hx3,hh⟩
  ·exact gn' [0] (L0 hx3) rfl rfl rfl rfl rfl (fun hi=>peW ⟨trivial,trivial⟩ rfl hi)
  refine g' [0] ((L0 hx3).ok) rfl rfl rfl rfl rfl rfl (n' (p' 1 rfl ?_))
  rcases bp' hh with ⟨nn,hx4,⟨⟩⟩ | ⟨x4,hx4,hh⟩
  ·exact gn' [0] (ih0 _ _ hx4) rfl rfl rfl rfl rfl (fun hi=>peW ⟨trivial,trivial⟩ rfl hi)
  refine g' [0] ((ih0 _ _ hx4).ok) rfl rfl rfl rfl rfl rfl (F0.nf hC rfl (F0.s hC rfl (n' (p' 1 rfl ?_))))
  rcases bp' hh with ⟨nn,hx5,⟨⟩⟩ | ⟨x5,hx5,hh⟩
  ·exact gn' [0] (L0 hx5) rfl rfl rfl rfl rfl (fun hi=>peW ⟨trivial,trivial⟩ rfl hi)
  refine g' [0] ((L0 hx5).ok) rfl rfl rfl rfl rfl rfl (n' (p' 3 rfl (F0.be hC rfl (A0.rows_map [x2.1,x4.1]).symm (q' rfl (F0.s hC rfl (n' (re' ?_)))))))
  obtain rfl:=oi' hh
  exact ⟨_,.agg [.d (.int .i64 op),.d (.int .i64 0),.d (.str []),.d (.sl (A0.rows [x2.1,x4.1]))],[.row (B0.cells x5) 99],rfl,(.aggL ⟨.rfl,.rfl,.rfl,.full,trivial⟩),⟨⟨rfl,.refl _,rfl⟩,trivial⟩,rfl,rfl,rpq rfl rfl⟩
 ·intro g19 ih19 parserParser res hh
  refine E2.intro hC Tryz.func195 rfl rfl rfl (s' rfl rfl (F0.nf hC rfl (n' (p' 1 rfl ?_))))
  rcases bp' hh with ⟨nn,hx1,⟨⟩⟩ | ⟨x1,hx1,hh⟩
  ·exact gn' [0] (F1 hx1) rfl rfl rfl rfl rfl (fun hi=>peW ⟨trivial,trivial⟩ rfl hi)
  exact g' [0] ((F1 hx1).ok) rfl rfl rfl rfl rfl rfl (q' rfl (F0.nf hC rfl (F0.s hC rfl (n' (bk' (fw' (ih19 _ _ _ _ _ hh) rfl rfl rfl))))))
 ·intro g0 g19 ih0 ih19 o0 o2_Op o2_Name o2_Kids res hh
  obtain ⟨x2,hx2,hh⟩:=bs' hh
  refine W0.unroll (bk' (bk' (p' 1 rfl (g' [0] (S0 hx2) rfl rfl rfl rfl rfl rfl (e' rfl (ci' rfl hh (fun hh=>?_) (fun hh=>?_)))))))
  ·rcases bp' hh with ⟨nn,hx3,⟨⟩⟩ | ⟨x3,hx3,hh⟩
   ·refine AEx.drawE hC ?_
    refine E0.step rfl (j0:=0) (js:=[2]) (by kernel_rfl) ⟨⟨_,rfl,?_⟩,⟨_,rfl,?_⟩,trivial⟩
    ·refine e' rfl ?_
     refine E0.step rfl (j0:=1) (js:=[2]) (by kernel_rfl) ⟨⟨_,rfl,?_⟩,⟨_,rfl,?_⟩,trivial⟩
     ·exact gn' [0] (F1 hx3) rfl rfl rfl rfl rfl (fun hi=>peW ⟨trivial,trivial⟩ rfl hi)
     ·refine e' rfl ?_
      refine E0.step rfl (j0:=1) (js:=[3]) (by kernel_rfl) ⟨⟨_,rfl,?_⟩,⟨_,rfl,?_⟩,trivial⟩
      ·exact gn' [0] (F1 hx3) rfl rfl rfl rfl rfl (fun hi=>peW ⟨trivial,trivial⟩ rfl hi)
      ·refine F0.be hC rfl (A0.rows_map [(A0.mk o2_Op 0 o2_Name o2_Kids)]).symm (n' ?_)
       refine E0.step rfl (j0:=1) (js:=[]) (by kernel_rfl) ⟨⟨_,rfl,?_⟩,trivial⟩
       exact gn' [0] (F1 hx3) rfl rfl rfl rfl rfl (fun hi=>peW ⟨trivial,trivial⟩ rfl hi)
    ·refine e' rfl ?_
     refine E0.step rfl (j0:=0) (js:=[3]) (by kernel_rfl) ⟨⟨_,rfl,?_⟩,⟨_,rfl,?_⟩,trivial⟩
     ·refine e' rfl ?_
      refine E0.step rfl (j0:=1) (js:=[3]) (by kernel_rfl) ⟨⟨_,rfl,?_⟩,⟨_,rfl,?_⟩,trivial⟩
      ·exact gn' [0] (F1 hx3) rfl rfl rfl rfl rfl (fun hi=>peW ⟨trivial,trivial⟩ rfl hi)
      ·refine F0.be hC rfl (A0.rows_map [(A0.mk o2_Op 0 o2_Name o2_Kids)]).symm (n' ?_)
       refine E0.step rfl (j0:=1) (js:=[]) (by kernel_rfl) ⟨⟨_,rfl,?_⟩,trivial⟩
       exact gn' [0] (F1 hx3) rfl rfl rfl rfl rfl (fun hi=>peW ⟨trivial,trivial⟩ rfl hi)
     ·refine F0.be hC rfl (A0.rows_map [(A0.mk o2_Op 0 o2_Name o2_Kids)]).symm (n' ?_)
      refine E0.step rfl (j0:=0) (js:=[]) (by kernel_rfl) ⟨⟨_,rfl,?_⟩,trivial⟩
      refine e' rfl ?_
      refine E0.step rfl (j0:=1) (js:=[]) (by kernel_rfl) ⟨⟨_,rfl,?_⟩,trivial⟩
      exact gn' [0] (F1 hx3) rfl rfl rfl rfl rfl (fun hi=>peW ⟨trivial,trivial⟩ rfl hi)
   refine AEx.drawE hC ?_
   refine E0.step rfl (j0:=0) (js:=[2]) (by kernel_rfl) ⟨⟨_,rfl,?_⟩,⟨_,rfl,?_⟩,trivial⟩
   ·refine e' rfl ?_
    refine E0.step rfl (j0:=1) (js:=[2]) (by kernel_rfl) ⟨⟨_,rfl,?_⟩,⟨_,rfl,?_⟩,trivial⟩
    ·refine g' [0] ((F1 hx3).ok) rfl rfl rfl rfl rfl rfl (n' ?_)
     refine E0.step rfl (j0:=2) (js:=[]) (by kernel_rfl) ⟨⟨_,rfl,?_⟩,trivial⟩
     refine e' rfl ?_
     refine E0.step rfl (j0:=3) (js:=[]) (by kernel_rfl) ⟨⟨_,rfl,?_⟩,trivial⟩
     refine F0.be hC rfl (A0.rows_map [(A0.mk o2_Op 0 o2_Name o2_Kids)]).symm (n' ?_)
     refine E0.step rfl (j0:=4) (js:=[]) (by kernel_rfl) ⟨⟨_,rfl,?_⟩,trivial⟩
     refine e' rfl ?_
     refine E0.step rfl (j0:=5) (js:=[]) (by kernel_rfl) ⟨⟨_,rfl,?_⟩,trivial⟩
     refine F0.s hC rfl (n' (E0.nil (by kernel_rfl) ?_))
     refine W0.wk ?_ (ih19 _ _ _ _ _ hh)
     exact ⟨⟨⟨.rfl,rfl⟩,⟨.rfl,rfl⟩,⟨.rfl,rfl⟩,trivial⟩,⟨⟨rfl,.refl _,rfl⟩,⟨rfl,.refl _,rfl⟩,⟨rfl,⟨.rfl,.rfl,.rfl,.full,trivial⟩,rfl⟩,trivial⟩,rfl⟩
    ·refine e' rfl ?_
     refine E0.step rfl (j0:=1) (js:=[3]) (by kernel_rfl) ⟨⟨_,rfl,?_⟩,⟨_,rfl,?_⟩,trivial⟩
     ·refine g' [0] ((F1 hx3).ok) rfl rfl rfl rfl rfl rfl (n' ?_)
      refine E0.step rfl (j0:=3) (js:=[]) (by kernel_rfl) ⟨⟨_,rfl,?_⟩,trivial⟩
      refine F0.be hC rfl (A0.rows_map [(A0.mk o2_Op 0 o2_Name o2_Kids)]).symm (n' ?_)
      refine E0.step rfl (j0:=4) (js:=[]) (by kernel_rfl) ⟨⟨_,rfl,?_⟩,trivial⟩
      refine e' rfl ?_
      refine E0.step rfl (j0:=5) (js:=[]) (by kernel_rfl) ⟨⟨_,rfl,?_⟩,trivial⟩
      refine F0.s hC rfl (n' (E0.nil (by kernel_rfl) ?_))
      refine W0.wk ?_ (ih19 _ _ _ _ _ hh)
      exact ⟨⟨⟨.rfl,rfl⟩,⟨.rfl,rfl⟩,⟨.rfl,rfl⟩,trivial⟩,⟨⟨rfl,.refl _,rfl⟩,⟨rfl,.refl _,rfl⟩,⟨rfl,⟨.rfl,.rfl,.rfl,.full,trivial⟩,rfl⟩,trivial⟩,rfl⟩
     ·refine F0.be hC rfl (A0.rows_map [(A0.mk o2_Op 0 o2_Name o2_Kids)]).symm (n' ?_)
      refine E0.step rfl (j0:=1) (js:=[]) (by kernel_rfl) ⟨⟨_,rfl,?_⟩,trivial⟩
      refine g' [0] ((F1 hx3).ok) rfl rfl rfl rfl rfl rfl (n' ?_)
      refine E0.step rfl (j0:=4) (js:=[]) (by kernel_rfl) ⟨⟨_,rfl,?_⟩,trivial⟩
      refine e' rfl ?_
      refine E0.step rfl (j0:=5) (js:=[]) (by kernel_rfl) ⟨⟨_,rfl,?_⟩,trivial⟩
      refine F0.s hC rfl (n' (E0.nil (by kernel_rfl) ?_))
      refine W0.wk ?_ (ih19 _ _ _ _ _ hh)
      exact ⟨⟨⟨.rfl,rfl⟩,⟨.rfl,rfl⟩,⟨.rfl,rfl⟩,trivial⟩,⟨⟨rfl,.refl _,rfl⟩,⟨rfl,.refl _,rfl⟩,⟨rfl,⟨.rfl,.rfl,.rfl,.full,trivial⟩,rfl⟩,trivial⟩,rfl⟩
   ·refine e' rfl ?_
    refine E0.step rfl (j0:=0) (js:=[3]) (by kernel_rfl) ⟨⟨_,rfl,?_⟩,⟨_,rfl,?_⟩,trivial⟩
    ·refine e' rfl ?_
     refine E0.step rfl (j0:=1) (js:=[3]) (by kernel_rfl) ⟨⟨_,rfl,?_⟩,⟨_,rfl,?_⟩,trivial⟩
     ·refine g' [0] ((F1 hx3).ok) rfl rfl rfl rfl rfl rfl (n' ?_)
      refine E0.step rfl (j0:=3) (js:=[]) (by kernel_rfl) ⟨⟨_,rfl,?_⟩,trivial⟩
      refine F0.be hC rfl (A0.rows_map [(A0.mk o2_Op 0 o2_Name o2_Kids)]).symm (n' ?_)
      refine E0.step rfl (j0:=4) (js:=[]) (by kernel_rfl) ⟨⟨_,rfl,?_⟩,trivial⟩
      refine e' rfl ?_
      refine E0.step rfl (j0:=5) (js:=[]) (by kernel_rfl) ⟨⟨_,rfl,?_⟩,trivial⟩
      refine F0.s hC rfl (n' (E0.nil (by kernel_rfl) ?_))
      refine W0.wk ?_ (ih19 _ _ _ _ _ hh)
      exact ⟨⟨⟨.rfl,rfl⟩,⟨.rfl,rfl⟩,⟨.rfl,rfl⟩,trivial⟩,⟨⟨rfl,.refl _,rfl⟩,⟨rfl,.refl _,rfl⟩,⟨rfl,⟨.rfl,.rfl,.rfl,.full,trivial⟩,rfl⟩,trivial⟩,rfl⟩
     ·refine F0.be hC rfl (A0.rows_map [(A0.mk o2_Op 0 o2_Name o2_Kids)]).symm (n' ?_)
      refine E0.step rfl (j0:=1) (js:=[]) (by kernel_rfl) ⟨⟨_,rfl,?_⟩,trivial⟩
      refine g' [0] ((F1 hx3).ok) rfl rfl rfl rfl rfl rfl (n' ?_)
      refine E0.step rfl (j0:=4) (js:=[]) (by kernel_rfl) ⟨⟨_,rfl,?_⟩,trivial⟩
      refine e' rfl ?_
      refine E0.step rfl (j0:=5) (js:=[]) (by kernel_rfl) ⟨⟨_,rfl,?_⟩,trivial⟩
      refine F0.s hC rfl (n' (E0.nil (by kernel_rfl) ?_))
      refine W0.wk ?_ (ih19 _ _ _ _ _ hh)
      exact ⟨⟨⟨.rfl,rfl⟩,⟨.rfl,rfl⟩,⟨.rfl,rfl⟩,trivial⟩,⟨⟨rfl,.refl _,rfl⟩,⟨rfl,.refl _,rfl⟩,⟨rfl,⟨.rfl,.rfl,.rfl,.full,trivial⟩,rfl⟩,trivial⟩,rfl⟩
    ·refine F0.be hC rfl (A0.rows_map [(A0.mk o2_Op 0 o2_Name o2_Kids)]).symm (n' ?_)
     refine E0.step rfl (j0:=0) (js:=[]) (by kernel_rfl) ⟨⟨_,rfl,?_⟩,trivial⟩
     refine e' rfl ?_
     refine E0.step rfl (j0:=1) (js:=[]) (by kernel_rfl) ⟨⟨_,rfl,?_⟩,trivial⟩
     refine g' [0] ((F1 hx3).ok) rfl rfl rfl rfl rfl rfl (n' ?_)
     refine E0.step rfl (j0:=4) (js:=[]) (by kernel_rfl) ⟨⟨_,rfl,?_⟩,trivial⟩
     refine e' rfl ?_
     refine E0.step rfl (j0:=5) (js:=[]) (by kernel_rfl) ⟨⟨_,rfl,?_⟩,trivial⟩
     refine F0.s hC rfl (n' (E0.nil (by kernel_rfl) ?_))
     refine W0.wk ?_ (ih19 _ _ _ _ _ hh)
     exact ⟨⟨⟨.rfl,rfl⟩,⟨.rfl,rfl⟩,⟨.rfl,rfl⟩,trivial⟩,⟨⟨rfl,.refl _,rfl⟩,⟨rfl,.refl _,rfl⟩,⟨rfl,⟨.rfl,.rfl,.rfl,.full,trivial⟩,rfl⟩,trivial⟩,rfl⟩
  obtain ⟨x4,hx4,hh⟩:=bs' hh
  refine p' 1 rfl (g' [0] (S0 hx4) rfl rfl rfl rfl rfl rfl (e' rfl (ci' rfl hh (fun hh=>?_) (fun hh=>?_))))
  ·refine p' 1 rfl ?_
   rcases bp' hh with ⟨nn,hx5,⟨⟩⟩ | ⟨x5,hx5,hh⟩
   ·exact gn' [0] (ih0 _ _ hx5) rfl rfl rfl rfl rfl (fun hi=>peW ⟨trivial,trivial⟩ rfl hi)
   refine g' [0] ((ih0 _ _ hx5).ok) rfl rfl rfl rfl rfl rfl (F0.nf hC rfl (F0.s hC rfl (n' (p' 1 rfl ?_))))
   rcases bp' hh with ⟨nn,hx6,⟨⟩⟩ | ⟨x6,hx6,hh⟩
   ·exact gn' [0] (L0 hx6) rfl rfl rfl rfl rfl (fun hi=>peW ⟨trivial,trivial⟩ rfl hi)
   refine g' [0] ((L0 hx6).ok) rfl rfl rfl rfl rfl rfl (n' (P' 2 rfl (F0.be hC rfl (A0.rows_map [(A0.mk o2_Op 0 o2_Name o2_Kids),x5.1]).symm (q' rfl (F0.s hC rfl (n' ?_))))))
   refine W0.wk ?_ (ih19 _ _ _ _ _ hh)
   exact ⟨⟨⟨.rfl,rfl⟩,⟨.rfl,rfl⟩,⟨.rfl,rfl⟩,trivial⟩,⟨⟨rfl,.refl _,rfl⟩,⟨rfl,.refl _,rfl⟩,⟨rfl,⟨.rfl,.rfl,.rfl,.full,trivial⟩,rfl⟩,trivial⟩,rfl⟩
  cases hh
  exact p' 1 rfl (F0.s hC rfl (n' (re' (rt' rfl rfl rfl))))
theorem U0 {parserParser res}(hh:G1 parserParser=some res):Vk parserParser res:=(Ri).1 _ _ hh
theorem Mn {parserParser res}(hh:H6 parserParser=some res):Ro parserParser res:=(Ri).2.2.2.2.2.2.2.2.2.2.2.2.2.2.2.2.2.2.1 _ _ hh
end Go.Proofs.YtmnhfbekncjnfaaGreatDoor

set_option maxRecDepth 100000
set_option maxHeartbeats 4000000
set_option synthInstance.maxSize 20000
set_option linter.unusedVariables false
namespace Go.Proofs.YtmnhfbekncjnfaaGreatDoor
open Go.Am
def Je (parserParser:B0)(apiExpr:A0):Option (Pn (B0×A0)):=
 G1 parserParser>>=fun x1=>match x1 with
 | .pn nn=>
 some (.pn nn)
 | .ok x1=>
 some (.ok (x1.2,x1.1))
theorem So {parserParser apiExpr res}(hh:Je parserParser apiExpr=some res):E2 C 29 [.ref 0 0,.ref 1 0] [.row (B0.cells parserParser) 99,.row [.d (.int .i64 apiExpr.Op),.d (.int .i64 apiExpr.NV),.d (.str apiExpr.Name),.full (A0.rows apiExpr.Kids)] 26] (R4 res (fun rr=>[.row (B0.cells rr.1) 99,.row (A0.cells rr.2) 26]) (fun rr=>.tup [])) (N4 res L3 [.dead,.row [.d (.int .i64 apiExpr.Op),.d (.int .i64 apiExpr.NV),.d (.str apiExpr.Name),.full (A0.rows apiExpr.Kids)] 26]):=by
 unfold Je at hh
 refine E2.intro hC Tryz.func29 rfl rfl rfl (P' 1 rfl ?_)
 rcases bp' hh with ⟨nn,hx1,⟨⟩⟩ | ⟨x1,hx1,hh⟩
 ·exact gn' [0] (U0 hx1) rfl rfl rfl rfl rfl (fun hi=>peW ⟨trivial,⟨rfl,.refl _,rfl⟩,trivial⟩ rfl hi)
 cases hh
 exact g' [0] ((U0 hx1).ok) rfl rfl rfl rfl rfl rfl (F0.s hC rfl (n' (rn' rfl rfl rfl)))
def Nn (text:Str)(apiExpr:A0):Option (Int×Int×A0):=
 Qj text>>=fun x1=>
 if (x1.2.2 != 0)=true then
  some (x1.2.1,x1.2.2,apiExpr)
 else
  Je (B0.mk x1.1 0 ((text).length:Int)) apiExpr>>=fun x2=>match x2 with
  | .pn nn=>
  some (nn,6,apiExpr)
  | .ok x2=>
  if (decide (x2.1.next < ((x2.1.tokens).length:Int)))=true then
   F5 x2.1>>=fun x3=>match x3 with
   | .pn nn=>
   some (nn,6,x2.2)
   | .ok x3=>
   some (0,0,x2.2)
  else
   some (0,0,x2.2)
theorem Q1d {text apiExpr res}(hh:Nn text apiExpr=some res):O0 C 28 [.d (.str text),.clo 29 [.ref 0 0]] [.row [.d (.int .i64 apiExpr.Op),.d (.int .i64 apiExpr.NV),.d (.str apiExpr.Name),.full (A0.rows apiExpr.Kids)] 26] (Ret [.row (A0.cells res.2.2) 26] (.tup [.d (.int .i64 res.1),.d (.int .i64 res.2.1)])):=by
 unfold Nn at hh
 obtain ⟨x1,hx1,hh⟩:=bs' hh
 refine O0.introD hC Tryz.func28 rfl rfl rfl (s' rfl rfl (F0.n hC rfl (F0.n hC rfl (n' (p' 1 rfl (c' (K16 hx1) rfl rfl (o' 5 rfl (F0.s hC rfl (F0.s hC rfl (n' (S' (t' rfl (ci' rfl hh (fun hh=>?_) (fun hh=>?_))))))))))))))
 ·refine S' ?_
  refine AEx.drawL hC 3 [2] [] [[.row [.d (.int .i64 apiExpr.Op),.d (.int .i64 apiExpr.NV),.d (.str apiExpr.Name),.full (A0.rows apiExpr.Kids)] 26,.row [.d (.int .i64 x1.2.1)] 3,.row [.d (.int .i64 x1.2.2)] 27],[.row [.d (.int .i64 apiExpr.Op),.d (.int .i64 apiExpr.NV),.d (.str apiExpr.Name),.full (A0.rows apiExpr.Kids)] 26,.row [.d (.int .i64 x1.2.1)] 3,.row [.d (.int .i64 x1.2.2)] 27]] rfl rfl rfl rfl rfl rfl rfl rfl rfl rfl ?_
  refine AS.q hC rfl rfl rfl rfl (AS.q hC rfl rfl rfl rfl (AS.s hC rfl rfl rfl rfl rfl rfl rfl (AS.nil (F0.s hC rfl (n' (re' ?_))))))
  obtain rfl:=oi' hh
  exact ⟨_,_,[.row (A0.cells apiExpr) 26],rfl,.rfl,⟨⟨rfl,⟨.rfl,.rfl,.rfl,.full,trivial⟩,rfl⟩,trivial⟩,rfl,rfl,rfl,rfl⟩
 refine sk' (AEx.dfr hC R1b C1f rfl rfl rfl rfl rfl rfl fun _=>(p' 4 rfl (F0.n hC rfl (e' rfl (p' 2 rfl ?_)))))
 rcases bp' hh with ⟨nn,hx2,hh⟩ | ⟨x2,hx2,hh⟩
 ·obtain rfl:=oi' hh
  exact gn' [3,0] (So hx2) rfl rfl rfl rfl rfl (fun hi=>dfk hi rfl rfl rfl (⟨_,_,[.row (A0.cells apiExpr) 26],rfl,.rfl,⟨⟨rfl,⟨.rfl,.rfl,.rfl,.full,trivial⟩,rfl⟩,trivial⟩,rfl,rfl,rfl,rfl⟩))
 refine g' [3,0] ((So hx2).ok) rfl rfl rfl rfl rfl rfl (n' (S' (S' (AEx.draw hC 10 rfl rfl rfl (O' 8 rfl (AQ.qe hC rfl trivial (K0.lenA _) (E' rfl (n' (ci' rfl hh (fun hh=>?_) (fun hh=>?_))))))))))
 ·refine P' 1 rfl ?_
  rcases bp' hh with ⟨nn,hx3,hh⟩ | ⟨x3,hx3,hh⟩
  ·cases hh
   exact gn' [3] (O5 hx3) rfl rfl rfl rfl rfl (fun hi=>dfk hi rfl rfl rfl (rt' rfl rfl rfl))
  cases hh
  exact g' [3] ((O5 hx3).ok) rfl rfl rfl rfl rfl rfl (n' (s' rfl rfl (F0.s hC rfl (F0.s hC rfl (n' (re' (rt' rfl rfl rfl)))))))
 cases hh
 exact sk' (s' rfl rfl (F0.s hC rfl (F0.s hC rfl (n' (re' (rt' rfl rfl rfl))))))
def V5 (d:Int)(syntaxReport:J0):Option J0:=
 some (J0.mk syntaxReport.nodes (max syntaxReport.depth d) syntaxReport.badForm syntaxReport.badName syntaxReport.badNumber)
theorem Si {d syntaxReport res}(hh:V5 d syntaxReport=some res):O0 C 114 [.ref 0 0,.d (.int .i64 d)] [.row (J0.cells syntaxReport) 103] (Ret [.row (J0.cells res) 103] (.tup [])):=by
 unfold V5 at hh
 cases hh
 exact O0.intro hC Tryz.func114 rfl rfl rfl (P' 9 rfl (F0.s hC rfl (n' (rn' rfl rfl rfl))))
def Ea (op:Int)(v9:Bool):Option Int:=
 if v9=true then
  some 1
 else
  if (op == 5)=true then
   some 2
  else
   if (op == 23)=true then
    some 3
   else
    if (bif (decide (op≥8)) then (decide (op≤22)) else false)=true then
     some 2
    else
     some (-1)
theorem Vl {op v9 res}(hh:Ea op v9=some res):JM C 23 0 Tryz.f116 [1,0,1,4,1,3,1] [(0,.d (.int .i64 op)),(3,.d (.int .i64 op)),(9,.d (.bool v9))] [] (Ret [] (.d (.int .i64 res))):=by
 unfold Ea at hh
 refine ci' rfl hh (fun hh=>?_) (fun hh=>?_)
 ·cases hh
  exact t' rfl (re' (rt' rfl rfl rfl))
 refine t' rfl (ci' rfl hh (fun hh=>?_) (fun hh=>?_))
 ·cases hh
  exact t' rfl (re' (rt' rfl rfl rfl))
 refine t' rfl (ci' rfl hh (fun hh=>?_) (fun hh=>?_))
 ·cases hh
  exact t' rfl (re' (rt' rfl rfl rfl))
 refine sk' (S' (sg' 6 rfl (G' 4 rfl (a1' rfl (pa' rfl (an' (n' (ci' rfl hh (fun hh=>?_) (fun hh=>?_)))))))))
 ·cases hh
  exact t' rfl (re' (rt' rfl rfl rfl))
 cases hh
 exact sk' (t' rfl (re' (rt' rfl rfl rfl)))
def G8 (op:Int)(v4:Bool):Option Int:=
 if v4=true then
  some 0
 else
  if (op == 4)=true then
   Ea op (op == 4)
  else
   if (op == 6)=true then
    Ea op (op == 6)
   else
    Ea op (op == 7)
theorem Nh {op v4 res}(hh:G8 op v4=some res):JM C 23 0 Tryz.f116 [1,0,1,4,1] [(0,.d (.int .i64 op)),(3,.d (.int .i64 op)),(4,.d (.bool v4))] [] (Ret [] (.d (.int .i64 res))):=by
 unfold G8 at hh
 refine ci' rfl hh (fun hh=>?_) (fun hh=>?_)
 ·cases hh
  exact t' rfl (re' (rt' rfl rfl rfl))
 refine S' (t' rfl (ci' rfl hh (fun hh=>?_) (fun hh=>?_)))
 ·exact sk' (ew' (Vl hh) rfl rfl rfl)
 refine t' rfl (ci' rfl hh (fun hh=>?_) (fun hh=>?_))
 ·exact sk' (ew' (Vl hh) rfl rfl rfl)
 exact T' rfl (ew' (Vl hh) rfl rfl rfl)
def Mg (op:Int):Option Int:=
 if (op == 0)=true then
  G8 op (op == 0)
 else
  if (op == 1)=true then
   G8 op (op == 1)
  else
   if (op == 2)=true then
    G8 op (op == 2)
   else
    G8 op (op == 3)
theorem X1b {op res}(hh:Mg op=some res):O0 C 116 [.d (.int .i64 op)] [] (Ret [] (.d (.int .i64 res))):=by
 unfold Mg at hh
 refine O0.intro hC Tryz.func116 rfl rfl rfl (t' rfl (S' (t' rfl (bk' (S' (t' rfl (ci' rfl hh (fun hh=>?_) (fun hh=>?_))))))))
 ·exact sk' (ew' (Nh hh) rfl rfl rfl)
 refine t' rfl (ci' rfl hh (fun hh=>?_) (fun hh=>?_))
 ·exact sk' (ew' (Nh hh) rfl rfl rfl)
 refine t' rfl (ci' rfl hh (fun hh=>?_) (fun hh=>?_))
 ·exact sk' (ew' (Nh hh) rfl rfl rfl)
 exact T' rfl (ew' (Nh hh) rfl rfl rfl)
def Z0 (ok:Bool)(syntaxReport:J0):Option J0:=
 some (J0.mk syntaxReport.nodes syntaxReport.depth (bif syntaxReport.badForm then true else (!ok)) syntaxReport.badName syntaxReport.badNumber)
theorem I1 {ok syntaxReport res}(hh:Z0 ok syntaxReport=some res):O0 C 115 [.ref 0 0,.d (.bool ok)] [.row (J0.cells syntaxReport) 103] (Ret [.row (J0.cells res) 103] (.tup [])):=by
 unfold Z0 at hh
 cases hh
 exact O0.intro hC Tryz.func115 rfl rfl rfl (AEx.regionG 11 rfl (G' 7 rfl (a1' rfl (po' rfl (G' 2 rfl (an' (F0.s hC rfl (n' (rn' rfl rfl rfl)))))))))
def H8 (o0:A0):Option Bool:=
 if (bif (o0.Op == 4) then true else (o0.Op == 5))=true then
  if (((o0.Kids).length:Int) == 0)=true then
   some false
  else
   idx o0.Kids 0>>=fun x1=>
   H8 x1
 else
  some (o0.Op == 3)
 partial_fixpoint
abbrev Tu (o0:A0)(res:Bool):Prop:=LM C 22 0 Tryz.f117 [1,0,4] [(1,.ref 0 0)] [.row (A0.cells o0) 26] (Ret [] (.d (.bool res)))
theorem K14:(∀ o0 res,H8 o0=some res→Tu o0 res):=by
 refine H8.partial_correctness _ ?_
 ·intro g0 ih0 o0 res hh
  refine W0.unroll (S' (sg' 8 rfl (G' 5 rfl (a1' rfl (a1' rfl (po' rfl (an' (n' (ci' rfl hh (fun hh=>?_) (fun hh=>?_))))))))))
  ·refine sk' (bk' (S' (p' 2 rfl (qe' rfl trivial (A0.lenA _) (e' rfl (ci' rfl hh (fun hh=>?_) (fun hh=>?_)))))))
   ·cases hh
    exact t' rfl (re' (rt' rfl rfl rfl))
   obtain ⟨x1,hx1,hh⟩:=bs' hh
   exact sk' (P' 2 rfl (i' rfl (C1 hx1) (A0.idx hx1) rfl (q' rfl (F0.s hC rfl (n' (lw' (ih0 _ _ hh) rfl rfl rfl))))))
  cases hh
  exact ex' (t' rfl (re' (rt' rfl rfl rfl)))
theorem M16 {o0 res}(hh:H8 o0=some res):Tu o0 res:=(K14) _ _ hh
def Ke (e:A0):Option Bool:=
 H8 e
theorem Oy {e res}(hh:Ke e=some res):O0 C 117 [.agg (A0.cells e)] [] (Ret [] (.d (.bool res))):=by
 unfold Ke at hh
 exact O0.intro hC Tryz.func117 rfl rfl rfl (s' rfl rfl (F0.n hC rfl (e' rfl (S' (bk' (fw' (M16 hh) rfl rfl rfl))))))
def W5 (s:Str)(v6:Int):Option Bool:=
 if (decide (v6 < ((s).length:Int)))=true then
  idx s v6>>=fun x1=>
  Sb (x1.toNat:Int)>>=fun x2=>
  (if ((!x2)&&(!(v6 == 0)))=true then idx s v6 else some default)>>=fun x3=>
  (if ((!x2)&&(!(v6 == 0)))=true then M9 (x3.toNat:Int) else some default)>>=fun x4=>
  if (bif (!x2) then (bif (v6 == 0) then true else (!x4)) else false)=true then
   some false
  else
   W5 s (IntKind.i64.wrap (v6+1))
 else
  some (!(s == []))
 partial_fixpoint
abbrev Uu (s:Str)(v6:Int)(res:Bool):Prop:=LM C 28 0 Tryz.f205 [1,0,1,4] [(0,.d (.str s)),(5,.d (.int .i64 ((s).length:Int))),(6,.d (.int .i64 v6))] [] (Ret [] (.d (.bool res)))
theorem L14 (s:Str):(∀ v6 res,W5 s v6=some res→Uu s v6 res):=by
 refine W5.partial_correctness s _ ?_
 ·intro g0 ih0 v6 res hh
  refine W0.unroll (t' rfl (S' (ci' rfl hh (fun hh=>?_) (fun hh=>?_))))
  ·obtain ⟨x1,hx1,hh⟩:=bs' hh
   obtain ⟨x2,hx2,hh⟩:=bs' hh
   obtain ⟨x3,hx3,hh⟩:=bs' hh
   obtain ⟨x4,hx4,hh⟩:=bs' hh
   refine sk' (S' (bk' (t' rfl (sg' 16 rfl (G' 2 rfl (AG.x hC rfl rfl (fun _=>trivial) (fun hw=>⟨C1 hx1,H5 hx1⟩) (AG.c rfl rfl (fun _=>trivial) (fun _=>Fn hx2) (G' 3 rfl (a1' rfl (a1' rfl (G' 2 rfl (AG.x hC rfl rfl (fun hg=>⟨hg,hg,trivial⟩) (fun hw=>⟨C1 (E1 hw hx3),H5 (E1 hw hx3)⟩) (AG.c rfl rfl (fun hg=>⟨hg,trivial⟩) (fun hw=>Dk (E1 hw hx4)) ?_)))))))))))))
   refine a1' rfl (pO' rfl (pa' rfl (an' (n' (ci' rfl hh (fun hh=>?_) (fun hh=>?_))))))
   ·cases hh
    exact t' rfl (re' (rt' rfl rfl rfl))
   exact sk' (T' rfl (lw' (ih0 _ _ hh) rfl rfl rfl))
  cases hh
  exact ex' (t' rfl (re' (rt' rfl rfl rfl)))
theorem N16 {s v6 res}(hh:W5 s v6=some res):Uu s v6 res:=(L14 s) _ _ hh
def Ti (s:Str):Option Bool:=
 W5 s 0
theorem Y1b {s res}(hh:Ti s=some res):O0 C 205 [.d (.str s)] [] (Ret [] (.d (.bool res))):=by
 unfold Ti at hh
 exact O0.intro hC Tryz.func205 rfl rfl rfl (t' rfl (S' (t' rfl (bk' (fw' (N16 hh) rfl rfl rfl)))))
def Ui (s:Str):Option Bool:=
 (if (decide (((s).length:Int)≤12))=true then Ti s else some default)>>=fun x1=>
 (if (bif (decide (((s).length:Int)≤12)) then x1 else false)=true then Q9 s else some default)>>=fun x2=>
 some (bif (bif (decide (((s).length:Int)≤12)) then x1 else false) then (!x2) else false)
theorem Z1b {s res}(hh:Ui s=some res):O0 C 190 [.d (.str s)] [] (Ret [] (.d (.bool res))):=by
 unfold Ui at hh
 obtain ⟨x1,hx1,hh⟩:=bs' hh
 obtain ⟨x2,hx2,hh⟩:=bs' hh
 cases hh
 exact O0.intro hC Tryz.func190 rfl rfl rfl (t' rfl (sg' 13 rfl (G' 5 rfl (AG.c rfl rfl (fun hg=>⟨hg,trivial⟩) (fun hw=>Y1b (E1 hw hx1)) (pa' rfl (G' 2 rfl (AG.c rfl rfl (fun hg=>⟨hg,trivial⟩) (fun hw=>Ru (E1 hw hx2)) (a1' rfl (pa' rfl (a0' rfl (an' (n' (re' (rt' rfl rfl rfl))))))))))))))
def Bf (s:Str):Option Bool:=
 Ui s>>=fun x1=>
 some x1
theorem W19 {s res}(hh:Bf s=some res):O0 C 168 [.d (.str s)] [] (Ret [] (.d (.bool res))):=by
 unfold Bf at hh
 obtain ⟨x1,hx1,hh⟩:=bs' hh
 cases hh
 exact O0.intro hC Tryz.func168 rfl rfl rfl (t' rfl (p' 1 rfl (c' (Z1b hx1) rfl rfl (e' rfl (re' (rt' rfl rfl rfl))))))
def C4 (s:Str)(syntaxReport:J0):Option J0:=
 (if (!syntaxReport.badName)=true then Bf s else some default)>>=fun x1=>
 some (J0.mk syntaxReport.nodes syntaxReport.depth syntaxReport.badForm (bif syntaxReport.badName then true else (!x1)) syntaxReport.badNumber)
theorem Tb {s syntaxReport res}(hh:C4 s syntaxReport=some res):O0 C 118 [.ref 0 0,.d (.str s)] [.row (J0.cells syntaxReport) 103] (Ret [.row (J0.cells res) 103] (.tup [])):=by
 unfold C4 at hh
 obtain ⟨x1,hx1,hh⟩:=bs' hh
 cases hh
 exact O0.intro hC Tryz.func118 rfl rfl rfl (AEx.regionG 12 rfl (G' 7 rfl (AG.c rfl rfl (fun hg=>⟨hg,trivial⟩) (fun hw=>W19 (E1 hw hx1)) (a1' rfl (po' rfl (G' 2 rfl (an' (F0.s hC rfl (n' (rn' rfl rfl rfl))))))))))
def X3 (n:Int)(low:Int)(high:Int):Option Bool:=
 some (bif (decide (n≥low)) then (decide (n≤high)) else false)
theorem U4 {n low high res}(hh:X3 n low high=some res):O0 C 120 [.d (.int .i64 n),.d (.int .i64 low),.d (.int .i64 high)] [] (Ret [] (.d (.bool res))):=by
 unfold X3 at hh
 cases hh
 exact O0.intro hC Tryz.func120 rfl rfl rfl (t' rfl (sg' 9 rfl (G' 6 rfl (a2' rfl (pa' rfl (a0' rfl (an' (n' (re' (rt' rfl rfl rfl))))))))))
def I2 (ok:Bool)(syntaxReport:J0):Option J0:=
 some (J0.mk syntaxReport.nodes syntaxReport.depth syntaxReport.badForm syntaxReport.badName (bif syntaxReport.badNumber then true else (!ok)))
theorem V3 {ok syntaxReport res}(hh:I2 ok syntaxReport=some res):O0 C 119 [.ref 0 0,.d (.bool ok)] [.row (J0.cells syntaxReport) 103] (Ret [.row (J0.cells res) 103] (.tup [])):=by
 unfold I2 at hh
 cases hh
 exact O0.intro hC Tryz.func119 rfl rfl rfl (AEx.regionG 11 rfl (G' 7 rfl (a1' rfl (po' rfl (G' 2 rfl (an' (F0.s hC rfl (n' (rn' rfl rfl rfl)))))))))
mutual
def B3 (e:A0)(depth:Int)(syntaxReport:J0):Option J0:=
 V5 depth (J0.mk (IntKind.i64.wrap (syntaxReport.nodes+1)) syntaxReport.depth syntaxReport.badForm syntaxReport.badName syntaxReport.badNumber)>>=fun x1=>
 Mg e.Op>>=fun x2=>
 Z0 (x2 == ((e.Kids).length:Int)) x1>>=fun x3=>
 Z0 (bif (e.NV == 0) then true else (e.Op == 0)) x3>>=fun x4=>
 Z0 (bif (e.Name == []) then true else (bif (e.Op == 3) then true else (e.Op == 4))) x4>>=fun x5=>
 if (bif (e.Op == 4) then true else (e.Op == 5))=true then
  Ke e>>=fun x6=>
  Z0 x6 x5>>=fun x7=>
  Q6 e depth x7
 else
  Q6 e depth x5
 partial_fixpoint
def Q6 (e:A0)(depth:Int)(o0:J0):Option J0:=
 if (bif (e.Op == 3) then true else (e.Op == 4))=true then
  C4 e.Name o0>>=fun x8=>
  O8 e depth x8
 else
  O8 e depth o0
 partial_fixpoint
def O8 (e:A0)(depth:Int)(o01:J0):Option J0:=
 if (e.Op == 0)=true then
  X3 e.NV 0 1048576>>=fun x9=>
  I2 x9 o01>>=fun x10=>
  P8 e depth x10
 else
  P8 e depth o01
 partial_fixpoint
def P8 (e:A0)(depth:Int)(o02:J0):Option J0:=
 E4 e depth o02 0
 partial_fixpoint
def E4 (e:A0)(depth:Int)(o03:J0)(v82:Int):Option J0:=
 if (decide (v82 < ((e.Kids).length:Int)))=true then
  idx e.Kids v82>>=fun x11=>
  B3 x11 (IntKind.i64.wrap (depth+1)) o03>>=fun x12=>
  E4 e depth x12 (IntKind.i64.wrap (v82+1))
 else
  some o03
 partial_fixpoint
end
abbrev Lp (e:A0)(depth:Int)(syntaxReport:J0)(res:J0):Prop:=O0 C 63 [.ref 0 0,.agg (A0.cells e),.d (.int .i64 depth)] [.row (J0.cells syntaxReport) 103] (Ret [.row (J0.cells res) 103] (.tup []))
abbrev Xx (e:A0)(depth:Int)(o0:J0)(res:J0):Prop:=JM C 92 1 Tryz.f63 [1,1,1,1,1,1,1,1] [(0,.ref 0 0),(2,.d (.int .i64 depth)),(4,.ref 1 0),(6,.d (.bool (bif (e.Op == 3) then true else (e.Op == 4))))] [.row (J0.cells o0) 103,.row (A0.cells e) 26] (Ret [.row (J0.cells res) 103] (.tup []))
abbrev Yx (e:A0)(depth:Int)(o01:J0)(res:J0):Prop:=JM C 92 1 Tryz.f63 [1,1,1,1,1,1,1,1,1] [(0,.ref 0 0),(2,.d (.int .i64 depth)),(4,.ref 1 0)] [.row (J0.cells o01) 103,.row (A0.cells e) 26] (Ret [.row (J0.cells res) 103] (.tup []))
abbrev Zx (e:A0)(depth:Int)(o02:J0)(res:J0):Prop:=JM C 92 1 Tryz.f63 [1,1,1,1,1,1,1,1,1,1] [(0,.ref 0 0),(2,.d (.int .i64 depth)),(4,.ref 1 0)] [.row (J0.cells o02) 103,.row (A0.cells e) 26] (Ret [.row (J0.cells res) 103] (.tup []))
abbrev Ay (e:A0)(depth:Int)(o03:J0)(v82:Int)(res:J0):Prop:=LM C 92 1 Tryz.f63 [1,1,1,1,1,1,1,1,1,1,1,4] [(0,.ref 0 0),(2,.d (.int .i64 depth)),(80,.d (.sl (A0.rows e.Kids))),(81,.d (.int .i64 ((e.Kids).length:Int))),(82,.d (.int .i64 v82))] [.row (J0.cells o03) 103] (Ret [.row (J0.cells res) 103] (.tup []))
theorem Bz:(∀ e depth syntaxReport res,B3 e depth syntaxReport=some res→Lp e depth syntaxReport res)∧(∀ e depth o0 res,Q6 e depth o0=some res→Xx e depth o0 res)∧(∀ e depth o01 res,O8 e depth o01=some res→Yx e depth o01 res)∧(∀ e depth o02 res,P8 e depth o02=some res→Zx e depth o02 res)∧(∀ e depth o03 v82 res,E4 e depth o03 v82=some res→Ay e depth o03 v82 res):=by
 refine B3.mutual_partial_correctness _ _ _ _ _ ?_ ?_ ?_ ?_ ?_
 ·intro g1 ih1 e depth syntaxReport res hh
  obtain ⟨x1,hx1,hh⟩:=bs' hh
  obtain ⟨x2,hx2,hh⟩:=bs' hh
  obtain ⟨x3,hx3,hh⟩:=bs' hh
  obtain ⟨x4,hx4,hh⟩:=bs' hh
  obtain ⟨x5,hx5,hh⟩:=bs' hh
  refine O0.intro hC Tryz.func63 rfl rfl rfl (s' rfl rfl (F0.n hC rfl (n' (p' 7 rfl (F0.s hC rfl (n' (p' 2 rfl (g' [0] (Si hx1) rfl rfl rfl rfl rfl rfl (n' (S' (AEx.draw hC 8 rfl rfl rfl (O' 3 rfl (Qc' (X1b hx2) rfl rfl ?_)))))))))))))
  refine O' 2 rfl (AQ.qe hC rfl trivial (A0.lenA _) (E' rfl (g' [0] (I1 hx3) rfl rfl rfl rfl rfl rfl (n' (sg' 9 rfl (G' 6 rfl (a1' rfl (a1' rfl (po' rfl (an' (g' [0] (I1 hx4) rfl rfl rfl rfl rfl rfl (n' (sg' 9 rfl ?_)))))))))))))
  refine G' 5 rfl (a1' rfl (a1' rfl (po' rfl (a0' rfl (an' (n' (sg' 7 rfl (G' 6 rfl (po' rfl (an' (g' [0] (I1 hx5) rfl rfl rfl rfl rfl rfl (n' (S' ?_)))))))))))))
  refine sg' 8 rfl (G' 5 rfl (a1' rfl (a1' rfl (po' rfl (an' (n' (ci' rfl hh (fun hh=>?_) (fun hh=>?_))))))))
  ·obtain ⟨x6,hx6,hh⟩:=bs' hh
   obtain ⟨x7,hx7,hh⟩:=bs' hh
   exact P' 2 rfl (c' (Oy hx6) rfl rfl (g' [0] (I1 hx7) rfl rfl rfl rfl rfl rfl (n' (ew' (ih1 _ _ _ _ hh) rfl rfl rfl))))
  exact sk' (ew' (ih1 _ _ _ _ hh) rfl rfl rfl)
 ·intro g2 ih2 e depth o0 res hh
  refine S' (t' rfl (ci' rfl hh (fun hh=>?_) (fun hh=>?_)))
  ·obtain ⟨x8,hx8,hh⟩:=bs' hh
   exact P' 3 rfl (g' [0] (Tb hx8) rfl rfl rfl rfl rfl rfl (n' (ew' (ih2 _ _ _ _ hh) rfl rfl rfl)))
  exact sk' (ew' (ih2 _ _ _ _ hh) rfl rfl rfl)
 ·intro g3 ih3 e depth o01 res hh
  refine S' (t' rfl (ci' rfl hh (fun hh=>?_) (fun hh=>?_)))
  ·obtain ⟨x9,hx9,hh⟩:=bs' hh
   obtain ⟨x10,hx10,hh⟩:=bs' hh
   exact P' 3 rfl (c' (U4 hx9) rfl rfl (g' [0] (V3 hx10) rfl rfl rfl rfl rfl rfl (n' (ew' (ih3 _ _ _ _ hh) rfl rfl rfl))))
  exact sk' (ew' (ih3 _ _ _ _ hh) rfl rfl rfl)
 ·intro g4 ih4 e depth o02 res hh
  exact p' 2 rfl (qe' rfl trivial (A0.lenA _) (e' rfl (bk' (fw' (ih4 _ _ _ _ _ hh) rfl rfl rfl))))
 ·intro g0 g4 ih0 ih4 e depth o03 v82 res hh
  refine W0.unroll (t' rfl (S' (ci' rfl hh (fun hh=>?_) (fun hh=>?_))))
  ·obtain ⟨x11,hx11,hh⟩:=bs' hh
   obtain ⟨x12,hx12,hh⟩:=bs' hh
   exact sk' (S' (bk' (s' rfl rfl (i' rfl (C1 hx11) (A0.idx hx11) rfl (q' rfl (F0.nf hC rfl (F0.s hC rfl (n' (P' 4 rfl (g' [0] (ih0 _ _ _ _ hx12) rfl rfl rfl rfl rfl rfl (n' (T' rfl (lw' (ih4 _ _ _ _ _ hh) rfl rfl rfl)))))))))))))
  cases hh
  exact ex' (rn' rfl rfl rfl)
theorem Vi {e depth syntaxReport res}(hh:B3 e depth syntaxReport=some res):Lp e depth syntaxReport res:=(Bz).1 _ _ _ _ hh
def X5 (syntaxReport:J0):Option Int:=
 if (bif (decide (syntaxReport.nodes > 1024)) then true else (decide (syntaxReport.depth > 12)))=true then
  some 4
 else
  if syntaxReport.badForm=true then
   some 1
  else
   if syntaxReport.badName=true then
    some 7
   else
    if syntaxReport.badNumber=true then
     some 3
    else
     some 0
theorem To {syntaxReport res}(hh:X5 syntaxReport=some res):O0 C 64 [.ref 0 0] [.row (J0.cells syntaxReport) 103] (Ret [.row (J0.cells syntaxReport) 103] (.d (.int .i64 res))):=by
 unfold X5 at hh
 refine O0.intro hC Tryz.func64 rfl rfl rfl (t' rfl (S' (bk' (sg' 13 rfl (G' 7 rfl (a1' rfl (a1' rfl (a1' rfl (a1' rfl (po' rfl (a0' rfl (an' (n' (ci' rfl hh (fun hh=>?_) (fun hh=>?_)))))))))))))))
 ·cases hh
  exact t' rfl (re' (rt' rfl rfl rfl))
 refine t' rfl (ci' rfl hh (fun hh=>?_) (fun hh=>?_))
 ·cases hh
  exact t' rfl (re' (rt' rfl rfl rfl))
 refine t' rfl (ci' rfl hh (fun hh=>?_) (fun hh=>?_))
 ·cases hh
  exact t' rfl (re' (rt' rfl rfl rfl))
 refine t' rfl (ci' rfl hh (fun hh=>?_) (fun hh=>?_))
 ·cases hh
  exact t' rfl (re' (rt' rfl rfl rfl))
 cases hh
 exact sk' (t' rfl (re' (rt' rfl rfl rfl)))
def Ng (e:A0):Option Int:=
 B3 e 1 (J0.mk 0 0 false false false)>>=fun x1=>
 X5 x1>>=fun x2=>
 some x2
theorem M14 {e res}(hh:Ng e=some res):O0 C 31 [.agg (A0.cells e)] [] (Ret [] (.d (.int .i64 res))):=by
 unfold Ng at hh
 obtain ⟨x1,hx1,hh⟩:=bs' hh
 obtain ⟨x2,hx2,hh⟩:=bs' hh
 cases hh
 exact O0.intro hC Tryz.func31 rfl rfl rfl (s' rfl rfl (F0.n hC rfl (e' rfl (p' 1 rfl (F0.n hC rfl (e' rfl (p' 2 rfl (g' [1] (Vi hx1) rfl rfl rfl rfl rfl rfl (n' (p' 1 rfl (g' [1] (To hx2) rfl rfl rfl rfl rfl rfl (e' rfl (re' (rt' rfl rfl rfl))))))))))))))
def Xd (text:Str):Option (A0×Int×Int):=
 Nn text (A0.mk 0 0 [] [])>>=fun x1=>
 if (x1.2.1 != 0)=true then
  some ((A0.mk 0 0 [] []),x1.1,x1.2.1)
 else
  Ng x1.2.2>>=fun x2=>
  if (x2 != 0)=true then
   some ((A0.mk 0 0 [] []),0,x2)
  else
   some (x1.2.2,0,0)
theorem Oq {text res}(hh:Xd text=some res):O0 C 11 [.d (.str text)] [] (Ret [] (.tup [.agg (A0.cells res.1),.d (.int .i64 res.2.1),.d (.int .i64 res.2.2)])):=by
 unfold Xd at hh
 obtain ⟨x1,hx1,hh⟩:=bs' hh
 refine O0.intro hC Tryz.func11 rfl rfl rfl (s' rfl rfl (F0.nf hC rfl (e' rfl (s' rfl rfl (F0.nf hC rfl (n' (p' 2 rfl (g' [1] (Q1d hx1) rfl rfl rfl rfl rfl rfl (e' rfl (S' (t' rfl (ci' rfl hh (fun hh=>?_) (fun hh=>?_)))))))))))))
 ·cases hh
  exact p' 3 rfl (F0.s hC rfl (e' rfl (re' (rt' rfl rfl rfl))))
 obtain ⟨x2,hx2,hh⟩:=bs' hh
 refine sk' (S' (p' 1 rfl (c' (M14 hx2) rfl rfl (e' rfl (t' rfl (ci' rfl hh (fun hh=>?_) (fun hh=>?_)))))))
 ·cases hh
  exact p' 2 rfl (F0.s hC rfl (e' rfl (re' (rt' rfl rfl rfl))))
 cases hh
 exact sk' (p' 1 rfl (F0.s hC rfl (e' rfl (re' (rt' rfl rfl rfl)))))
def Ek (s:Str):Option A0:=
 some (A0.mk 3 0 s [])
theorem Lu {s res}(hh:Ek s=some res):O0 C 27 [.d (.str s)] [] (Ret [] (.agg (A0.cells res))):=by
 unfold Ek at hh
 cases hh
 exact O0.intro hC Tryz.func27 rfl rfl rfl (s' rfl rfl (F0.nf hC rfl (n' (p' 2 rfl (F0.s hC rfl (n' (re' (rt' rfl rfl rfl))))))))
mutual
def U3 (a:A0)(b:A0):Option Bool:=
 if (bif (bif (bif (a.Op != b.Op) then true else (a.NV != b.NV)) then true else (!(a.Name == b.Name))) then true else (((a.Kids).length:Int) != ((b.Kids).length:Int)))=true then
  some false
 else
  Z6 a b 0
 partial_fixpoint
def Z6 (a:A0)(b:A0)(i:Int):Option Bool:=
 if (decide (i < ((a.Kids).length:Int)))=true then
  idx a.Kids i>>=fun x1=>
  idx b.Kids i>>=fun x2=>
  U3 x1 x2>>=fun x3=>
  if (!x3)=true then
   some false
  else
   Z6 a b (IntKind.i64.wrap (i+1))
 else
  some true
 partial_fixpoint
end
abbrev Vu (a:A0)(b:A0)(res:Bool):Prop:=O0 C 13 [.agg (A0.cells a),.agg (A0.cells b)] [] (Ret [] (.d (.bool res)))
abbrev G12 (a:A0)(b:A0)(i:Int)(res:Bool):Prop:=LM C 53 0 Tryz.f13 [1,1,0,1,4] [(2,.ref 0 0),(3,.ref 1 0),(5,.d (.int .i64 i))] [.row (A0.cells a) 26,.row (A0.cells b) 26] (Ret [] (.d (.bool res)))
theorem N14:(∀ a b res,U3 a b=some res→Vu a b res)∧(∀ a b i res,Z6 a b i=some res→G12 a b i res):=by
 refine U3.mutual_partial_correctness _ _ ?_ ?_
 ·intro g1 ih1 a b res hh
  refine O0.intro hC Tryz.func13 rfl rfl rfl (s' rfl rfl (F0.n hC rfl (F0.n hC rfl (e' rfl (S' (sg' 28 rfl (G' 7 rfl (a1' rfl (a0' rfl (a1' rfl (a2' rfl (po' rfl (G' 2 rfl ?_)))))))))))))
  refine a1' rfl (a0' rfl (a1' rfl (a2' rfl (po' rfl (G' 2 rfl (a1' rfl (AG.qe hC rfl (fun hg=>⟨⟨hg,trivial⟩,trivial⟩) (A0.lenA _) (a0' rfl (a1' rfl (AG.qe hC rfl (fun hg=>⟨⟨hg,trivial⟩,trivial⟩) (A0.lenA _) (a2' rfl (po' rfl (an' ?_)))))))))))))
  refine n' (ci' rfl hh (fun hh=>?_) (fun hh=>?_))
  ·cases hh
   exact t' rfl (re' (rt' rfl rfl rfl))
  exact sk' (S' (t' rfl (bk' (fw' (ih1 _ _ _ _ hh) rfl rfl rfl))))
 ·intro g0 g1 ih0 ih1 a b i res hh
  refine W0.unroll (S' (p' 3 rfl (qe' rfl trivial (A0.lenA _) (e' rfl (ci' rfl hh (fun hh=>?_) (fun hh=>?_))))))
  ·obtain ⟨x1,hx1,hh⟩:=bs' hh
   obtain ⟨x2,hx2,hh⟩:=bs' hh
   obtain ⟨x3,hx3,hh⟩:=bs' hh
   refine sk' (S' (bk' (S' (AEx.draw hC 12 rfl rfl rfl (O' 3 rfl (AQ.i hC rfl (C1 hx1) (A0.idx hx1) rfl (O' 4 rfl (AQ.i hC rfl (C1 hx2) (A0.idx hx2) rfl (Q' rfl (Qc' (ih0 _ _ _ hx3) rfl rfl (E' rfl (n' (ci' rfl hh (fun hh=>?_) (fun hh=>?_))))))))))))))
   ·cases hh
    exact t' rfl (re' (rt' rfl rfl rfl))
   exact sk' (T' rfl (lw' (ih1 _ _ _ _ hh) rfl rfl rfl))
  cases hh
  exact ex' (t' rfl (re' (rt' rfl rfl rfl)))
theorem Ub {a b res}(hh:U3 a b=some res):Vu a b res:=(N14).1 _ _ _ hh
def Ci:Option Bool:=
 Xd [97,32,45,32,98,32,45,32,99,91,49,93,46,100]>>=fun x1=>
 Ek [99]>>=fun x2=>
 Ek [97]>>=fun x3=>
 Ek [98]>>=fun x4=>
 Xd [97,32,61,61,32,98,32,61,61,32,99]>>=fun x5=>
 (if (x1.2.2 == 0)=true then U3 x1.1 (A0.mk 9 0 [] [(A0.mk 9 0 [] [x3,x4]),(A0.mk 4 0 [100] [(A0.mk 5 0 [] [x2,(A0.mk 0 1 [] [])])])]) else some default)>>=fun x6=>
 some (bif (bif (bif (x1.2.2 == 0) then x6 else false) then (x5.2.2 == 6) else false) then (x5.2.1 == 7) else false)
theorem R1d {res}(hh:Ci=some res):O0 C 10 [] [] (Ret [] (.d (.bool res))):=by
 unfold Ci at hh
 obtain ⟨x1,hx1,hh⟩:=bs' hh
 obtain ⟨x2,hx2,hh⟩:=bs' hh
 obtain ⟨x3,hx3,hh⟩:=bs' hh
 obtain ⟨x4,hx4,hh⟩:=bs' hh
 obtain ⟨x5,hx5,hh⟩:=bs' hh
 obtain ⟨x6,hx6,hh⟩:=bs' hh
 cases hh
 refine O0.intro hC Tryz.func10 rfl rfl rfl (t' rfl (s' rfl rfl (c' (Oq hx1) rfl rfl (o' 4 rfl (F0.nf hC rfl (F0.s hC rfl (e' rfl (s' rfl rfl (c' (Lu hx2) rfl rfl (q' rfl (F0.be hC rfl (A0.rows_map [x2,(A0.mk 0 1 [] [])]).symm (q' rfl (F0.be hC rfl (A0.rows_map [(A0.mk 5 0 [] [x2,(A0.mk 0 1 [] [])])]).symm ?_)))))))))))))
 refine q' rfl (F0.nf hC rfl (F0.s hC rfl (n' (S' (AEx.drawL hC 8 [] [(7,2)] [[.row (A0.cells x1.1) 26,.row [.d (.int .i64 4),.d (.int .i64 0),.d (.str [100]),.full (A0.rows [(A0.mk 5 0 [] [x2,(A0.mk 0 1 [] [])])])] 26,.row [.d (.int .i64 0),.d (.int .i64 0),.d (.str []),.full (A0.rows [])] 26]] rfl rfl rfl rfl rfl rfl rfl rfl rfl rfl (AS.c (Lu hx3) rfl rfl rfl rfl ?_))))))
 refine AS.c (Lu hx4) rfl rfl rfl rfl (AS.a rfl (fun H=>AQ.be hC rfl (A0.rows_map [x3,x4]).symm (AQ.nil rfl)) rfl rfl (AS.q hC rfl rfl rfl rfl (AS.q hC rfl rfl rfl rfl (AS.a rfl (fun H=>AQ.be hC rfl (A0.rows_map [(A0.mk 9 0 [] [x3,x4]),(A0.mk 4 0 [100] [(A0.mk 5 0 [] [x2,(A0.mk 0 1 [] [])])])]).symm (AQ.nil rfl)) rfl rfl (AS.q hC rfl rfl rfl rfl ?_)))))
 refine AS.n hC rfl rfl rfl rfl (AS.nil (F0.s hC rfl (n' (s' rfl rfl (c' (Oq hx5) rfl rfl (o' 4 rfl (F0.nf hC rfl (F0.s hC rfl (e' rfl (sg' 16 rfl (G' 5 rfl (AG.cl rfl (fun hw=>Ub (E1 hw hx6)) ⟨.rfl,(.aggL ⟨.rfl,.rfl,.rfl,.full,trivial⟩),trivial⟩ rfl (fun hg=>⟨hg,hg,trivial⟩) (pa' rfl ?_)))))))))))))
 exact G' 2 rfl (a1' rfl (pa' rfl (G' 2 rfl (a1' rfl (pa' rfl (a0' rfl (an' (n' (re' (rt' rfl rfl rfl))))))))))
mutual
def R6 (s:Str)(atV1:Int):Option Int:=
 if (decide (atV1 < ((s).length:Int)))=true then
  idx s atV1>>=fun x1=>
  if ((x1.toNat:Int) == 35)=true then
   Vb s atV1
  else
   idx s atV1>>=fun x2=>
   (if (!((x2.toNat:Int) == 32))=true then idx s atV1 else some default)>>=fun x3=>
   (if (!(bif ((x2.toNat:Int) == 32) then true else ((x3.toNat:Int) == 9)))=true then idx s atV1 else some default)>>=fun x4=>
   if (bif (bif ((x2.toNat:Int) == 32) then true else ((x3.toNat:Int) == 9)) then true else ((x4.toNat:Int) == 10))=true then
    R6 s (IntKind.i64.wrap (atV1+1))
   else
    some atV1
 else
  some atV1
 partial_fixpoint
def Vb (s:Str)(atV2:Int):Option Int:=
 (if (decide (atV2 < ((s).length:Int)))=true then idx s atV2 else some default)>>=fun x5=>
 if (bif (decide (atV2 < ((s).length:Int))) then ((x5.toNat:Int) != 10) else false)=true then
  Vb s (IntKind.i64.wrap (atV2+1))
 else
  R6 s atV2
 partial_fixpoint
end
abbrev Rw (s:Str)(atV1:Int)(res:Int):Prop:=LM C 45 0 Tryz.f55 [1,0,4] [(0,.d (.str s)),(1,.d (.int .i64 atV1))] [] (Ret [] (.d (.int .i64 res)))
abbrev X19 (s:Str)(atV2:Int)(res:Int):Prop:=LM C 45 0 Tryz.f55 [1,0,4,5,1,4,1,2,4] [(0,.d (.str s)),(1,.d (.int .i64 atV2))] [] (Ret [] (.d (.int .i64 res)))
theorem O16 (s:Str):(∀ atV1 res,R6 s atV1=some res→Rw s atV1 res)∧(∀ atV2 res,Vb s atV2=some res→X19 s atV2 res):=by
 refine R6.mutual_partial_correctness s _ _ ?_ ?_
 ·intro g0 g1 ih0 ih1 atV1 res hh
  refine W0.unroll (S' (t' rfl (ci' rfl hh (fun hh=>?_) (fun hh=>?_))))
  ·obtain ⟨x1,hx1,hh⟩:=bs' hh
   refine sk' (bk' (p' 2 rfl (x' rfl (C1 hx1) (H5 hx1) (e' rfl (ci' rfl hh (fun hh=>?_) (fun hh=>?_))))))
   ·exact bk' (fw' (ih1 _ _ hh) rfl rfl rfl)
   obtain ⟨x2,hx2,hh⟩:=bs' hh
   obtain ⟨x3,hx3,hh⟩:=bs' hh
   obtain ⟨x4,hx4,hh⟩:=bs' hh
   refine sg' 16 rfl (G' 2 rfl (AG.x hC rfl rfl (fun _=>trivial) (fun hw=>⟨C1 hx2,H5 hx2⟩) (G' 4 rfl (AG.x hC rfl rfl (fun hg=>⟨hg,hg,trivial⟩) (fun hw=>⟨C1 (E1 hw hx3),H5 (E1 hw hx3)⟩) (a1' rfl (po' rfl (G' 3 rfl (AG.x hC rfl rfl (fun hg=>⟨hg,hg,trivial⟩) (fun hw=>⟨C1 (E1 hw hx4),H5 (E1 hw hx4)⟩) (a1' rfl (po' rfl (an' (n' (ci' rfl hh (fun hh=>?_) (fun hh=>?_))))))))))))))
   ·exact T' rfl (lw' (ih0 _ _ hh) rfl rfl rfl)
   cases hh
   exact t' rfl (re' (rt' rfl rfl rfl))
  cases hh
  exact ex' (t' rfl (re' (rt' rfl rfl rfl)))
 ·intro g0 g1 ih0 ih1 atV2 res hh
  obtain ⟨x5,hx5,hh⟩:=bs' hh
  refine W0.unroll (S' (sg' 10 rfl (G' 7 rfl (AG.x hC rfl rfl (fun hg=>⟨hg,hg,trivial⟩) (fun hw=>⟨C1 (E1 hw hx5),H5 (E1 hw hx5)⟩) (a1' rfl (pa' rfl (an' (n' (ci' rfl hh (fun hh=>?_) (fun hh=>?_))))))))))
  ·exact sk' (bk' (T' rfl (lw' (ih1 _ _ hh) rfl rfl rfl)))
  exact ex' (lw' (ih0 _ _ hh) rfl rfl rfl)
theorem K18 {s atV1 res}(hh:R6 s atV1=some res):Rw s atV1 res:=(O16 s).1 _ _ hh
def Dl (s:Str)(atV:Int):Option Int:=
 R6 s atV
theorem O10 {s atV res}(hh:Dl s atV=some res):O0 C 55 [.d (.str s),.d (.int .i64 atV)] [] (Ret [] (.d (.int .i64 res))):=by
 unfold Dl at hh
 exact O0.intro hC Tryz.func55 rfl rfl rfl (t' rfl (S' (bk' (fw' (K18 hh) rfl rfl rfl))))
def Og (c:Int):Option Bool:=
 some (bif (decide (c≥97)) then (decide (c≤122)) else false)
theorem Jl {c res}(hh:Og c=some res):O0 C 104 [.d (.int .u8 c)] [] (Ret [] (.d (.bool res))):=by
 unfold Og at hh
 cases hh
 exact O0.intro hC Tryz.func104 rfl rfl rfl (t' rfl (sg' 7 rfl (G' 4 rfl (a1' rfl (pa' rfl (a0' rfl (an' (n' (re' (rt' rfl rfl rfl))))))))))
def El (c:Int):Option Bool:=
 some (bif (decide (c≥48)) then (decide (c≤57)) else false)
theorem Mr {c res}(hh:El c=some res):O0 C 106 [.d (.int .u8 c)] [] (Ret [] (.d (.bool res))):=by
 unfold El at hh
 cases hh
 exact O0.intro hC Tryz.func106 rfl rfl rfl (t' rfl (sg' 7 rfl (G' 4 rfl (a1' rfl (pa' rfl (a0' rfl (an' (n' (re' (rt' rfl rfl rfl))))))))))
def Me (s:Str)(atV1:Int):Option Int:=
 (if (decide (atV1 < ((s).length:Int)))=true then idx s atV1 else some default)>>=fun x1=>
 (if (decide (atV1 < ((s).length:Int)))=true then Og (x1.toNat:Int) else some default)>>=fun x2=>
 (if ((decide (atV1 < ((s).length:Int)))&&(!x2))=true then idx s atV1 else some default)>>=fun x3=>
 (if ((decide (atV1 < ((s).length:Int)))&&(!x2))=true then El (x3.toNat:Int) else some default)>>=fun x4=>
 if (bif (decide (atV1 < ((s).length:Int))) then (bif x2 then true else x4) else false)=true then
  Me s (IntKind.i64.wrap (atV1+1))
 else
  some atV1
 partial_fixpoint
abbrev P10 (s:Str)(atV1:Int)(res:Int):Prop:=LM C 24 0 Tryz.f103 [1,0,4] [(0,.d (.str s)),(1,.d (.int .i64 atV1))] [] (Ret [] (.d (.int .i64 res)))
theorem Y19 (s:Str):(∀ atV1 res,Me s atV1=some res→P10 s atV1 res):=by
 refine Me.partial_correctness s _ ?_
 ·intro g0 ih0 atV1 res hh
  obtain ⟨x1,hx1,hh⟩:=bs' hh
  obtain ⟨x2,hx2,hh⟩:=bs' hh
  obtain ⟨x3,hx3,hh⟩:=bs' hh
  obtain ⟨x4,hx4,hh⟩:=bs' hh
  refine W0.unroll (S' (sg' 16 rfl (G' 7 rfl (AG.x hC rfl rfl (fun hg=>⟨hg,hg,trivial⟩) (fun hw=>⟨C1 (E1 hw hx1),H5 (E1 hw hx1)⟩) (AG.c rfl rfl (fun hg=>⟨hg,trivial⟩) (fun hw=>Jl (E1 hw hx2)) (a1' rfl (G' 2 rfl (AG.x hC rfl rfl (fun hg=>⟨hg,hg,trivial⟩) (fun hw=>⟨C1 (E1 hw hx3),H5 (E1 hw hx3)⟩) ?_))))))))
  refine AG.c rfl rfl (fun hg=>⟨hg,trivial⟩) (fun hw=>Mr (E1 hw hx4)) (pO' rfl (pa' rfl (an' (n' (ci' rfl hh (fun hh=>?_) (fun hh=>?_))))))
  ·exact sk' (bk' (T' rfl (lw' (ih0 _ _ hh) rfl rfl rfl)))
  cases hh
  exact ex' (t' rfl (re' (rt' rfl rfl rfl)))
theorem A1c {s atV1 res}(hh:Me s atV1=some res):P10 s atV1 res:=(Y19 s) _ _ hh
def Wl (s:Str)(atV:Int):Option Int:=
 Me s atV
theorem P16 {s atV res}(hh:Wl s atV=some res):O0 C 103 [.d (.str s),.d (.int .i64 atV)] [] (Ret [] (.d (.int .i64 res))):=by
 unfold Wl at hh
 exact O0.intro hC Tryz.func103 rfl rfl rfl (t' rfl (S' (bk' (fw' (A1c hh) rfl rfl rfl))))
def W7 (s:Str)(i1:Int):Option Bool:=
 if (decide ((IntKind.i64.wrap ((IntKind.i64.wrap (i1+((s).length:Int)))+2))≤162))=true then
  slc [32,116,121,112,101,32,115,101,99,114,101,116,32,112,117,98,108,105,99,32,114,97,110,100,111,109,32,118,97,114,32,104,97,116,99,104,32,102,117,110,99,32,114,101,116,117,114,110,32,98,101,103,105,110,32,101,110,100,32,98,111,111,108,32,105,110,116,32,97,114,114,97,121,32,111,102,32,114,101,99,111,114,100,32,116,114,117,101,32,102,97,108,115,101,32,99,97,108,108,32,114,101,108,101,97,115,101,32,111,117,116,112,117,116,32,119,97,105,116,32,105,102,32,101,108,115,101,32,119,104,105,108,101,32,108,105,109,105,116,32,102,111,114,32,116,111,32,115,101,116,116,108,101,32,109,105,110,32,109,97,120,32] i1 (IntKind.i64.wrap ((IntKind.i64.wrap (i1+((s).length:Int)))+2))>>=fun x3=>
  if (decide (1+s.length≤maxLen))=true then
   if (decide (([32]++s).length+1≤maxLen))=true then
    if (x3 == (([32]++s)++[32]))=true then
     some true
    else
     W7 s (IntKind.i64.wrap (i1+1))
   else none
  else none
 else
  some false
 partial_fixpoint
abbrev Pq (s:Str)(i1:Int)(res:Bool):Prop:=LM C 38 0 Tryz.f105 [1,1,1,0,1,4] [(0,.d (.str s)),(4,.d (.int .i64 i1))] [] (Ret [] (.d (.bool res)))
theorem Q10 (s:Str):(∀ i1 res,W7 s i1=some res→Pq s i1 res):=by
 refine W7.partial_correctness s _ ?_
 ·intro g0 ih0 i1 res hh
  refine W0.unroll (S' (t' rfl (ci' rfl hh (fun hh=>?_) (fun hh=>?_))))
  ·obtain ⟨x3,hx3,hh⟩:=bs' hh
   obtain ⟨c9,hh⟩:=I4 hh
   obtain ⟨c10,hh⟩:=I4 hh
   refine sk' (S' (bk' (p' 6 rfl (F0.lx hC rfl hx3 (q' rfl (qc' rfl c9 (qc' rfl c10 (e' rfl (ci' rfl hh (fun hh=>?_) (fun hh=>?_))))))))))
   ·cases hh
    exact t' rfl (re' (rt' rfl rfl rfl))
   exact sk' (T' rfl (lw' (ih0 _ _ hh) rfl rfl rfl))
  cases hh
  exact ex' (t' rfl (re' (rt' rfl rfl rfl)))
theorem H12 {s i1 res}(hh:W7 s i1=some res):Pq s i1 res:=(Q10 s) _ _ hh
def X7 (s:Str)(i:Int):Option Bool:=
 if (decide (i < ((s).length:Int)))=true then
  idx s i>>=fun x1=>
  Og (x1.toNat:Int)>>=fun x2=>
  if (!x2)=true then
   some false
  else
   X7 s (IntKind.i64.wrap (i+1))
 else
  W7 s 0
 partial_fixpoint
abbrev Qq (s:Str)(i:Int)(res:Bool):Prop:=LM C 38 0 Tryz.f105 [1,1,0,1,4] [(0,.d (.str s)),(3,.d (.int .i64 i))] [] (Ret [] (.d (.bool res)))
theorem R10 (s:Str):(∀ i res,X7 s i=some res→Qq s i res):=by
 refine X7.partial_correctness s _ ?_
 ·intro g0 ih0 i res hh
  refine W0.unroll (S' (t' rfl (ci' rfl hh (fun hh=>?_) (fun hh=>?_))))
  ·obtain ⟨x1,hx1,hh⟩:=bs' hh
   obtain ⟨x2,hx2,hh⟩:=bs' hh
   refine sk' (S' (bk' (p' 2 rfl (x' rfl (C1 hx1) (H5 hx1) (c' (Jl hx2) rfl rfl (e' rfl (ci' rfl hh (fun hh=>?_) (fun hh=>?_))))))))
   ·cases hh
    exact t' rfl (re' (rt' rfl rfl rfl))
   exact sk' (T' rfl (lw' (ih0 _ _ hh) rfl rfl rfl))
  exact ex' (S' (t' rfl (bk' (fw' (H12 hh) rfl rfl rfl))))
theorem I12 {s i res}(hh:X7 s i=some res):Qq s i res:=(R10 s) _ _ hh
def Eg (s:Str):Option Bool:=
 if (((s).length:Int) == 0)=true then
  some false
 else
  X7 s 0
theorem Wu {s res}(hh:Eg s=some res):O0 C 105 [.d (.str s)] [] (Ret [] (.d (.bool res))):=by
 unfold Eg at hh
 refine O0.intro hC Tryz.func105 rfl rfl rfl (t' rfl (S' (t' rfl (ci' rfl hh (fun hh=>?_) (fun hh=>?_)))))
 ·cases hh
  exact t' rfl (re' (rt' rfl rfl rfl))
 exact sk' (S' (t' rfl (bk' (fw' (I12 hh) rfl rfl rfl))))
def T6 (s:Str)(n:Int)(i1:Int):Option Int:=
 if (decide (i1 < ((s).length:Int)))=true then
  idx s i1>>=fun x4=>
  if (decide ((IntKind.i64.wrap ((IntKind.i64.wrap (n * 10))+(IntKind.i64.wrap (IntKind.u8.wrap ((x4.toNat:Int) - 48))))) > 1048576))=true then
   some 3
  else
   T6 s (IntKind.i64.wrap ((IntKind.i64.wrap (n * 10))+(IntKind.i64.wrap (IntKind.u8.wrap ((x4.toNat:Int) - 48))))) (IntKind.i64.wrap (i1+1))
 else
  some 0
 partial_fixpoint
abbrev Xu (s:Str)(n:Int)(i1:Int)(res:Int):Prop:=LM C 41 0 Tryz.f107 [1,1,1,1,0,1,4] [(0,.d (.str s)),(3,.d (.int .i64 n)),(5,.d (.int .i64 i1))] [] (Ret [] (.d (.int .i64 res)))
theorem O14 (s:Str):(∀ n i1 res,T6 s n i1=some res→Xu s n i1 res):=by
 refine T6.partial_correctness s _ ?_
 ·intro g0 ih0 n i1 res hh
  refine W0.unroll (S' (t' rfl (ci' rfl hh (fun hh=>?_) (fun hh=>?_))))
  ·obtain ⟨x4,hx4,hh⟩:=bs' hh
   refine sk' (S' (bk' (p' 4 rfl (x' rfl (C1 hx4) (H5 hx4) (e' rfl (t' rfl (ci' rfl hh (fun hh=>?_) (fun hh=>?_))))))))
   ·cases hh
    exact t' rfl (re' (rt' rfl rfl rfl))
   exact sk' (T' rfl (lw' (ih0 _ _ _ hh) rfl rfl rfl))
  cases hh
  exact ex' (t' rfl (re' (rt' rfl rfl rfl)))
theorem Q16 {s n i1 res}(hh:T6 s n i1=some res):Xu s n i1 res:=(O14 s) _ _ _ hh
def Fa (s:Str)(i:Int):Option Int:=
 if (decide (i < ((s).length:Int)))=true then
  idx s i>>=fun x2=>
  El (x2.toNat:Int)>>=fun x3=>
  if (!x3)=true then
   some 6
  else
   Fa s (IntKind.i64.wrap (i+1))
 else
  T6 s 0 0
 partial_fixpoint
abbrev Yu (s:Str)(i:Int)(res:Int):Prop:=LM C 41 0 Tryz.f107 [1,1,1,0,1,4] [(0,.d (.str s)),(3,.d (.int .i64 0)),(4,.d (.int .i64 i))] [] (Ret [] (.d (.int .i64 res)))
theorem P14 (s:Str):(∀ i res,Fa s i=some res→Yu s i res):=by
 refine Fa.partial_correctness s _ ?_
 ·intro g0 ih0 i res hh
  refine W0.unroll (S' (t' rfl (ci' rfl hh (fun hh=>?_) (fun hh=>?_))))
  ·obtain ⟨x2,hx2,hh⟩:=bs' hh
   obtain ⟨x3,hx3,hh⟩:=bs' hh
   refine sk' (S' (bk' (p' 2 rfl (x' rfl (C1 hx2) (H5 hx2) (c' (Mr hx3) rfl rfl (e' rfl (ci' rfl hh (fun hh=>?_) (fun hh=>?_))))))))
   ·cases hh
    exact t' rfl (re' (rt' rfl rfl rfl))
   exact sk' (T' rfl (lw' (ih0 _ _ hh) rfl rfl rfl))
  exact ex' (S' (t' rfl (bk' (fw' (Q16 hh) rfl rfl rfl))))
theorem R16 {s i res}(hh:Fa s i=some res):Yu s i res:=(P14 s) _ _ hh
def Xl (s:Str):Option Int:=
 (if (decide (((s).length:Int) > 1))=true then idx s 0 else some default)>>=fun x1=>
 if (bif (decide (((s).length:Int) > 1)) then ((x1.toNat:Int) == 48) else false)=true then
  some 6
 else
  Fa s 0
theorem B1c {s res}(hh:Xl s=some res):O0 C 107 [.d (.str s)] [] (Ret [] (.d (.int .i64 res))):=by
 unfold Xl at hh
 obtain ⟨x1,hx1,hh⟩:=bs' hh
 refine O0.intro hC Tryz.func107 rfl rfl rfl (t' rfl (S' (sg' 8 rfl (G' 5 rfl (AG.x hC rfl rfl (fun hg=>⟨hg,trivial⟩) (fun hw=>⟨C1 (E1 hw hx1),H5 (E1 hw hx1)⟩) (a1' rfl (pa' rfl (an' (n' (ci' rfl hh (fun hh=>?_) (fun hh=>?_)))))))))))
 ·cases hh
  exact t' rfl (re' (rt' rfl rfl rfl))
 exact sk' (t' rfl (S' (t' rfl (bk' (fw' (R16 hh) rfl rfl rfl)))))
def U6 (s:Str)(v4:Bool):Option Bool:=
 if v4=true then
  some true
 else
  if (s == [59])=true then
   if (s == [59])=true then
    some true
   else
    some false
  else
   if (s == [58])=true then
    if (s == [58])=true then
     some true
    else
     some false
   else
    if (s == [44])=true then
     if (s == [44])=true then
      some true
     else
      some false
    else
     if (s == [46])=true then
      if (s == [46])=true then
       some true
      else
       some false
     else
      if (s == [61])=true then
       if (s == [61])=true then
        some true
       else
        some false
      else
       if (s == [43])=true then
        if (s == [43])=true then
         some true
        else
         some false
       else
        if (s == [45])=true then
         if (s == [45])=true then
          some true
         else
          some false
        else
         if (s == [42])=true then
          if (s == [42])=true then
           some true
          else
           some false
         else
          if (s == [47])=true then
           if (s == [47])=true then
            some true
           else
            some false
          else
           if (s == [37])=true then
            if (s == [37])=true then
             some true
            else
             some false
           else
            if (s == [60])=true then
             if (s == [60])=true then
              some true
             else
              some false
            else
             if (s == [62])=true then
              if (s == [62])=true then
               some true
              else
               some false
             else
              if (s == [33])=true then
               if (s == [33])=true then
                some true
               else
                some false
              else
               if (s == [63])=true then
                if (s == [63])=true then
                 some true
                else
                 some false
               else
                if (s == [40])=true then
                 if (s == [40])=true then
                  some true
                 else
                  some false
                else
                 if (s == [41])=true then
                  if (s == [41])=true then
                   some true
                  else
                   some false
                 else
                  if (s == [91])=true then
                   if (s == [91])=true then
                    some true
                   else
                    some false
                  else
                   if (s == [93])=true then
                    if (s == [93])=true then
                     some true
                    else
                     some false
                   else
                    if (s == [123])=true then
                     if (s == [123])=true then
                      some true
                     else
                      some false
                    else
                     if (s == [125])=true then
                      some true
                     else
                      some false
theorem B9 {s v4 res}(hh:U6 s v4=some res):JM C 33 0 Tryz.f108 [1,0,1,4,1] [(3,.d (.str s)),(4,.d (.bool v4))] [] (Ret [] (.d (.bool res))):=by
 unfold U6 at hh
 refine ci' rfl hh (fun hh=>?_) (fun hh=>?_)
 ·cases hh
  exact t' rfl (re' (rt' rfl rfl rfl))
 refine S' (t' rfl (ci' rfl hh (fun hh=>?_) (fun hh=>?_)))
 ·refine sk' (ci' rfl hh (fun hh=>?_) (fun hh=>?_))
  ·cases hh
   exact t' rfl (re' (rt' rfl rfl rfl))
  cases hh
  exact sk' (t' rfl (re' (rt' rfl rfl rfl)))
 refine t' rfl (ci' rfl hh (fun hh=>?_) (fun hh=>?_))
 ·refine sk' (ci' rfl hh (fun hh=>?_) (fun hh=>?_))
  ·cases hh
   exact t' rfl (re' (rt' rfl rfl rfl))
  cases hh
  exact sk' (t' rfl (re' (rt' rfl rfl rfl)))
 refine t' rfl (ci' rfl hh (fun hh=>?_) (fun hh=>?_))
 ·refine sk' (ci' rfl hh (fun hh=>?_) (fun hh=>?_))
  ·cases hh
   exact t' rfl (re' (rt' rfl rfl rfl))
  cases hh
  exact sk' (t' rfl (re' (rt' rfl rfl rfl)))
 refine t' rfl (ci' rfl hh (fun hh=>?_) (fun hh=>?_))
 ·refine sk' (ci' rfl hh (fun hh=>?_) (fun hh=>?_))
  ·cases hh
   exact t' rfl (re' (rt' rfl rfl rfl))
  cases hh
  exact sk' (t' rfl (re' (rt' rfl rfl rfl)))
 refine t' rfl (ci' rfl hh (fun hh=>?_) (fun hh=>?_))
 ·refine sk' (ci' rfl hh (fun hh=>?_) (fun hh=>?_))
  ·cases hh
   exact t' rfl (re' (rt' rfl rfl rfl))
  cases hh
  exact sk' (t' rfl (re' (rt' rfl rfl rfl)))
 refine t' rfl (ci' rfl hh (fun hh=>?_) (fun hh=>?_))
 ·refine sk' (ci' rfl hh (fun hh=>?_) (fun hh=>?_))
  ·cases hh
   exact t' rfl (re' (rt' rfl rfl rfl))
  cases hh
  exact sk' (t' rfl (re' (rt' rfl rfl rfl)))
 refine t' rfl (ci' rfl hh (fun hh=>?_) (fun hh=>?_))
 ·refine sk' (ci' rfl hh (fun hh=>?_) (fun hh=>?_))
  ·cases hh
   exact t' rfl (re' (rt' rfl rfl rfl))
  cases hh
  exact sk' (t' rfl (re' (rt' rfl rfl rfl)))
 refine t' rfl (ci' rfl hh (fun hh=>?_) (fun hh=>?_))
 ·refine sk' (ci' rfl hh (fun hh=>?_) (fun hh=>?_))
  ·cases hh
   exact t' rfl (re' (rt' rfl rfl rfl))
  cases hh
  exact sk' (t' rfl (re' (rt' rfl rfl rfl)))
 refine t' rfl (ci' rfl hh (fun hh=>?_) (fun hh=>?_))
 ·refine sk' (ci' rfl hh (fun hh=>?_) (fun hh=>?_))
  ·cases hh
   exact t' rfl (re' (rt' rfl rfl rfl))
  cases hh
  exact sk' (t' rfl (re' (rt' rfl rfl rfl)))
 refine t' rfl (ci' rfl hh (fun hh=>?_) (fun hh=>?_))
 ·refine sk' (ci' rfl hh (fun hh=>?_) (fun hh=>?_))
  ·cases hh
   exact t' rfl (re' (rt' rfl rfl rfl))
  cases hh
  exact sk' (t' rfl (re' (rt' rfl rfl rfl)))
 refine t' rfl (ci' rfl hh (fun hh=>?_) (fun hh=>?_))
 ·refine sk' (ci' rfl hh (fun hh=>?_) (fun hh=>?_))
  ·cases hh
   exact t' rfl (re' (rt' rfl rfl rfl))
  cases hh
  exact sk' (t' rfl (re' (rt' rfl rfl rfl)))
 refine t' rfl (ci' rfl hh (fun hh=>?_) (fun hh=>?_))
 ·refine sk' (ci' rfl hh (fun hh=>?_) (fun hh=>?_))
  ·cases hh
   exact t' rfl (re' (rt' rfl rfl rfl))
  cases hh
  exact sk' (t' rfl (re' (rt' rfl rfl rfl)))
 refine t' rfl (ci' rfl hh (fun hh=>?_) (fun hh=>?_))
 ·refine sk' (ci' rfl hh (fun hh=>?_) (fun hh=>?_))
  ·cases hh
   exact t' rfl (re' (rt' rfl rfl rfl))
  cases hh
  exact sk' (t' rfl (re' (rt' rfl rfl rfl)))
 refine t' rfl (ci' rfl hh (fun hh=>?_) (fun hh=>?_))
 ·refine sk' (ci' rfl hh (fun hh=>?_) (fun hh=>?_))
  ·cases hh
   exact t' rfl (re' (rt' rfl rfl rfl))
  cases hh
  exact sk' (t' rfl (re' (rt' rfl rfl rfl)))
 refine t' rfl (ci' rfl hh (fun hh=>?_) (fun hh=>?_))
 ·refine sk' (ci' rfl hh (fun hh=>?_) (fun hh=>?_))
  ·cases hh
   exact t' rfl (re' (rt' rfl rfl rfl))
  cases hh
  exact sk' (t' rfl (re' (rt' rfl rfl rfl)))
 refine t' rfl (ci' rfl hh (fun hh=>?_) (fun hh=>?_))
 ·refine sk' (ci' rfl hh (fun hh=>?_) (fun hh=>?_))
  ·cases hh
   exact t' rfl (re' (rt' rfl rfl rfl))
  cases hh
  exact sk' (t' rfl (re' (rt' rfl rfl rfl)))
 refine t' rfl (ci' rfl hh (fun hh=>?_) (fun hh=>?_))
 ·refine sk' (ci' rfl hh (fun hh=>?_) (fun hh=>?_))
  ·cases hh
   exact t' rfl (re' (rt' rfl rfl rfl))
  cases hh
  exact sk' (t' rfl (re' (rt' rfl rfl rfl)))
 refine t' rfl (ci' rfl hh (fun hh=>?_) (fun hh=>?_))
 ·refine sk' (ci' rfl hh (fun hh=>?_) (fun hh=>?_))
  ·cases hh
   exact t' rfl (re' (rt' rfl rfl rfl))
  cases hh
  exact sk' (t' rfl (re' (rt' rfl rfl rfl)))
 refine t' rfl (ci' rfl hh (fun hh=>?_) (fun hh=>?_))
 ·refine sk' (ci' rfl hh (fun hh=>?_) (fun hh=>?_))
  ·cases hh
   exact t' rfl (re' (rt' rfl rfl rfl))
  cases hh
  exact sk' (t' rfl (re' (rt' rfl rfl rfl)))
 refine T' rfl (ci' rfl hh (fun hh=>?_) (fun hh=>?_))
 ·cases hh
  exact t' rfl (re' (rt' rfl rfl rfl))
 cases hh
 exact sk' (t' rfl (re' (rt' rfl rfl rfl)))
def Sc (s:Str):Option Bool:=
 if (s == [46,46])=true then
  U6 s (s == [46,46])
 else
  if (s == [61,61])=true then
   U6 s (s == [61,61])
  else
   if (s == [33,61])=true then
    U6 s (s == [33,61])
   else
    if (s == [60,61])=true then
     U6 s (s == [60,61])
    else
     if (s == [62,61])=true then
      U6 s (s == [62,61])
     else
      if (s == [38,38])=true then
       U6 s (s == [38,38])
      else
       U6 s (s == [124,124])
theorem Py {s res}(hh:Sc s=some res):O0 C 108 [.d (.str s)] [] (Ret [] (.d (.bool res))):=by
 unfold Sc at hh
 refine O0.intro hC Tryz.func108 rfl rfl rfl (t' rfl (S' (t' rfl (bk' (S' (t' rfl (ci' rfl hh (fun hh=>?_) (fun hh=>?_))))))))
 ·exact sk' (ew' (B9 hh) rfl rfl rfl)
 refine t' rfl (ci' rfl hh (fun hh=>?_) (fun hh=>?_))
 ·exact sk' (ew' (B9 hh) rfl rfl rfl)
 refine t' rfl (ci' rfl hh (fun hh=>?_) (fun hh=>?_))
 ·exact sk' (ew' (B9 hh) rfl rfl rfl)
 refine t' rfl (ci' rfl hh (fun hh=>?_) (fun hh=>?_))
 ·exact sk' (ew' (B9 hh) rfl rfl rfl)
 refine t' rfl (ci' rfl hh (fun hh=>?_) (fun hh=>?_))
 ·exact sk' (ew' (B9 hh) rfl rfl rfl)
 refine t' rfl (ci' rfl hh (fun hh=>?_) (fun hh=>?_))
 ·exact sk' (ew' (B9 hh) rfl rfl rfl)
 exact T' rfl (ew' (B9 hh) rfl rfl rfl)
end Go.Proofs.YtmnhfbekncjnfaaGreatDoor

