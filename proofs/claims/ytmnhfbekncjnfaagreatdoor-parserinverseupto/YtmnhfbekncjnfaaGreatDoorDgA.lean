/- A part of the proof of ParserInverse. -/
import Derived.Test.YtmnhfbekncjnfaaGreatDoorXxA
import Derived.Test.YtmnhfbekncjnfaaGreatDoorAmF
set_option maxRecDepth 100000
set_option maxHeartbeats 4000000
set_option synthInstance.maxSize 20000
set_option linter.unusedVariables false
namespace Go.Proofs.YtmnhfbekncjnfaaGreatDoor
open Go.Am
instance:Nonempty (C3 C):=⟨hC⟩
def estr.row (x:Str):Row:=[.str x]
def estr.rows (l:List Str):List Row:=l.map estr.row
theorem estr.rows_map (l:List Str):estr.rows l=l.map estr.row:=rfl
theorem estr.idx {l:List Str}{n:Int}{x:Str}(h:idx l n=some x):(estr.rows l)[n.toNat]?=some (estr.row x):=On estr.rows_map h
theorem estr.app (l m:List Str):estr.rows (l++m)=estr.rows l++estr.rows m:=Qn estr.rows_map l m
theorem estr.len (l:List Str):(estr.rows l).length=l.length:=Rn estr.rows_map l
theorem estr.lenA (l:List Str):A.d (.int .i64 ((estr.rows l).length:Nat))=A.d (.int .i64 (l.length:Nat)):=Gl estr.rows_map l
theorem estr.sz (l:List Str):∀ r∈estr.rows l,r.length=1:=Vq estr.rows_map (fun _=>rfl) l
def ei64.row (x:Int):Row:=[.int .i64 x]
def ei64.rows (l:List Int):List Row:=l.map ei64.row
theorem ei64.rows_map (l:List Int):ei64.rows l=l.map ei64.row:=rfl
theorem ei64.idx {l:List Int}{n:Int}{x:Int}(h:idx l n=some x):(ei64.rows l)[n.toNat]?=some (ei64.row x):=On ei64.rows_map h
theorem ei64.app (l m:List Int):ei64.rows (l++m)=ei64.rows l++ei64.rows m:=Qn ei64.rows_map l m
theorem ei64.len (l:List Int):(ei64.rows l).length=l.length:=Rn ei64.rows_map l
theorem ei64.lenA (l:List Int):A.d (.int .i64 ((ei64.rows l).length:Nat))=A.d (.int .i64 (l.length:Nat)):=Gl ei64.rows_map l
theorem ei64.sz (l:List Int):∀ r∈ei64.rows l,r.length=1:=Vq ei64.rows_map (fun _=>rfl) l
def eu8.row (x:Int):Row:=[.int .u8 x]
def eu8.rows (l:List Int):List Row:=l.map eu8.row
theorem eu8.rows_map (l:List Int):eu8.rows l=l.map eu8.row:=rfl
structure A0 where
 Op:Int
 NV:Int
 Name:Str
 Kids:List A0
def A0.zero:A0:=⟨0,0,[],[]⟩
instance:Inhabited A0:=⟨A0.zero⟩
mutual
def A0.rowX:A0→Row
 | .mk y0 y1 y2 y3=>[.int .i64 y0,.int .i64 y1,.str y2,.sl (A0.rowsX y3)]
def A0.rowsX:List A0→List Row
 | []=>[]
 | x::r=>A0.rowX x::A0.rowsX r
end
def A0.rows (l:List A0):List Row:=A0.rowsX l
def A0.row (x:A0):Row:=[.int .i64 x.Op,.int .i64 x.NV,.str x.Name,.sl (A0.rows x.Kids)]
theorem A0.rows_map:∀ l,A0.rows l=l.map A0.row
 | []=>rfl
 | x::r=>by
  show A0.rowX x::A0.rows r=A0.row x::r.map A0.row
  rw [A0.rows_map r]
  cases x
  rfl
def A0.cells (x:A0):List A:=[.d (.int .i64 x.Op),.d (.int .i64 x.NV),.d (.str x.Name),.d (.sl (A0.rows x.Kids))]
theorem A0.idx {l:List A0}{n:Int}{x:A0}(h:idx l n=some x):(A0.rows l)[n.toNat]?=some (A0.row x):=On A0.rows_map h
theorem A0.app (l m:List A0):A0.rows (l++m)=A0.rows l++A0.rows m:=Qn A0.rows_map l m
theorem A0.len (l:List A0):(A0.rows l).length=l.length:=Rn A0.rows_map l
theorem A0.lenA (l:List A0):A.d (.int .i64 ((A0.rows l).length:Nat))=A.d (.int .i64 (l.length:Nat)):=Gl A0.rows_map l
theorem A0.sz (l:List A0):∀ r∈A0.rows l,r.length=4:=Vq A0.rows_map (fun _=>rfl) l
structure K0 where
 Kind:Int
 Text:Str
 At:Int
def K0.zero:K0:=⟨0,[],0⟩
instance:Inhabited K0:=⟨K0.zero⟩
def K0.row (x:K0):Row:=[.int .i64 x.Kind,.str x.Text,.int .i64 x.At]
def K0.rows (l:List K0):List Row:=l.map K0.row
theorem K0.rows_map (l:List K0):K0.rows l=l.map K0.row:=rfl
def K0.cells (x:K0):List A:=[.d (.int .i64 x.Kind),.d (.str x.Text),.d (.int .i64 x.At)]
theorem K0.idx {l:List K0}{n:Int}{x:K0}(h:idx l n=some x):(K0.rows l)[n.toNat]?=some (K0.row x):=On K0.rows_map h
theorem K0.app (l m:List K0):K0.rows (l++m)=K0.rows l++K0.rows m:=Qn K0.rows_map l m
theorem K0.len (l:List K0):(K0.rows l).length=l.length:=Rn K0.rows_map l
theorem K0.lenA (l:List K0):A.d (.int .i64 ((K0.rows l).length:Nat))=A.d (.int .i64 (l.length:Nat)):=Gl K0.rows_map l
theorem K0.sz (l:List K0):∀ r∈K0.rows l,r.length=3:=Vq K0.rows_map (fun _=>rfl) l
structure D0 where
 tokens:List K0
 next:Int
 endV:Int
def D0.zero:D0:=⟨[],0,0⟩
instance:Inhabited D0:=⟨D0.zero⟩
def D0.cells (x:D0):List A:=[.d (.sl (K0.rows x.tokens)),.d (.int .i64 x.next),.d (.int .i64 x.endV)]
structure I0 where
 nodes:Int
 depth:Int
 badForm:Bool
 badName:Bool
 badNumber:Bool
def I0.zero:I0:=⟨0,0,false,false,false⟩
instance:Inhabited I0:=⟨I0.zero⟩
def I0.cells (x:I0):List A:=[.d (.int .i64 x.nodes),.d (.int .i64 x.depth),.d (.bool x.badForm),.d (.bool x.badName),.d (.bool x.badNumber)]
structure R0 where
 nodes:Int
 depth:Int
def R0.zero:R0:=⟨0,0⟩
instance:Inhabited R0:=⟨R0.zero⟩
def R0.cells (x:R0):List A:=[.d (.int .i64 x.nodes),.d (.int .i64 x.depth)]
structure E0 where
 Kind:Int
 Low:Int
 High:Int
 Size:Int
 Name:Str
 Names:List Str
 Of:List E0
def E0.zero:E0:=⟨0,0,0,0,[],[],[]⟩
instance:Inhabited E0:=⟨E0.zero⟩
mutual
def E0.rowX:E0→Row
 | .mk y0 y1 y2 y3 y4 y5 y6=>[.int .i64 y0,.int .i64 y1,.int .i64 y2,.int .i64 y3,.str y4,.sl (estr.rows y5),.sl (E0.rowsX y6)]
def E0.rowsX:List E0→List Row
 | []=>[]
 | x::r=>E0.rowX x::E0.rowsX r
end
def E0.rows (l:List E0):List Row:=E0.rowsX l
def E0.row (x:E0):Row:=[.int .i64 x.Kind,.int .i64 x.Low,.int .i64 x.High,.int .i64 x.Size,.str x.Name,.sl (estr.rows x.Names),.sl (E0.rows x.Of)]
theorem E0.rows_map:∀ l,E0.rows l=l.map E0.row
 | []=>rfl
 | x::r=>by
  show E0.rowX x::E0.rows r=E0.row x::r.map E0.row
  rw [E0.rows_map r]
  cases x
  rfl
def E0.cells (x:E0):List A:=[.d (.int .i64 x.Kind),.d (.int .i64 x.Low),.d (.int .i64 x.High),.d (.int .i64 x.Size),.d (.str x.Name),.d (.sl (estr.rows x.Names)),.d (.sl (E0.rows x.Of))]
theorem E0.idx {l:List E0}{n:Int}{x:E0}(h:idx l n=some x):(E0.rows l)[n.toNat]?=some (E0.row x):=On E0.rows_map h
theorem E0.app (l m:List E0):E0.rows (l++m)=E0.rows l++E0.rows m:=Qn E0.rows_map l m
theorem E0.len (l:List E0):(E0.rows l).length=l.length:=Rn E0.rows_map l
theorem E0.lenA (l:List E0):A.d (.int .i64 ((E0.rows l).length:Nat))=A.d (.int .i64 (l.length:Nat)):=Gl E0.rows_map l
theorem E0.sz (l:List E0):∀ r∈E0.rows l,r.length=7:=Vq E0.rows_map (fun _=>rfl) l
structure B0 where
 Verb:Int
 Place:A0
 Value:A0
 Name:Str
 Args:List A0
 NV:Int
 Low:Int
 High:Int
 Numbers:List Int
 Then:List B0
 Else:List B0
def B0.zero:B0:=⟨0,⟨0,0,[],[]⟩,⟨0,0,[],[]⟩,[],[],0,0,0,[],[],[]⟩
instance:Inhabited B0:=⟨B0.zero⟩
mutual
def B0.rowX:B0→Row
 | .mk y0 y1 y2 y3 y4 y5 y6 y7 y8 y9 y10=>[.int .i64 y0,.int .i64 y1.Op,.int .i64 y1.NV,.str y1.Name,.sl (A0.rows y1.Kids),.int .i64 y2.Op,.int .i64 y2.NV,.str y2.Name,.sl (A0.rows y2.Kids),.str y3,.sl (A0.rows y4),.int .i64 y5,.int .i64 y6,.int .i64 y7,.sl (ei64.rows y8),.sl (B0.rowsX y9),.sl (B0.rowsX y10)]
def B0.rowsX:List B0→List Row
 | []=>[]
 | x::r=>B0.rowX x::B0.rowsX r
end
def B0.rows (l:List B0):List Row:=B0.rowsX l
def B0.row (x:B0):Row:=[.int .i64 x.Verb,.int .i64 x.Place.Op,.int .i64 x.Place.NV,.str x.Place.Name,.sl (A0.rows x.Place.Kids),.int .i64 x.Value.Op,.int .i64 x.Value.NV,.str x.Value.Name,.sl (A0.rows x.Value.Kids),.str x.Name,.sl (A0.rows x.Args),.int .i64 x.NV,.int .i64 x.Low,.int .i64 x.High,.sl (ei64.rows x.Numbers),.sl (B0.rows x.Then),.sl (B0.rows x.Else)]
theorem B0.rows_map:∀ l,B0.rows l=l.map B0.row
 | []=>rfl
 | x::r=>by
  show B0.rowX x::B0.rows r=B0.row x::r.map B0.row
  rw [B0.rows_map r]
  cases x
  rfl
def B0.cells (x:B0):List A:=[.d (.int .i64 x.Verb),.d (.int .i64 x.Place.Op),.d (.int .i64 x.Place.NV),.d (.str x.Place.Name),.d (.sl (A0.rows x.Place.Kids)),.d (.int .i64 x.Value.Op),.d (.int .i64 x.Value.NV),.d (.str x.Value.Name),.d (.sl (A0.rows x.Value.Kids)),.d (.str x.Name),.d (.sl (A0.rows x.Args)),.d (.int .i64 x.NV),.d (.int .i64 x.Low),.d (.int .i64 x.High),.d (.sl (ei64.rows x.Numbers)),.d (.sl (B0.rows x.Then)),.d (.sl (B0.rows x.Else))]
theorem B0.idx {l:List B0}{n:Int}{x:B0}(h:idx l n=some x):(B0.rows l)[n.toNat]?=some (B0.row x):=On B0.rows_map h
theorem B0.app (l m:List B0):B0.rows (l++m)=B0.rows l++B0.rows m:=Qn B0.rows_map l m
theorem B0.len (l:List B0):(B0.rows l).length=l.length:=Rn B0.rows_map l
theorem B0.lenA (l:List B0):A.d (.int .i64 ((B0.rows l).length:Nat))=A.d (.int .i64 (l.length:Nat)):=Gl B0.rows_map l
theorem B0.sz (l:List B0):∀ r∈B0.rows l,r.length=17:=Vq B0.rows_map (fun _=>rfl) l
structure C0 where
 Kind:Int
 Name:Str
 TypeV:E0
 Init:Int
 Value:A0
 Params:List C0
 Vars:List C0
 Body:List B0
def C0.zero:C0:=⟨0,[],⟨0,0,0,0,[],[],[]⟩,0,⟨0,0,[],[]⟩,[],[],[]⟩
instance:Inhabited C0:=⟨C0.zero⟩
mutual
def C0.rowX:C0→Row
 | .mk y0 y1 y2 y3 y4 y5 y6 y7=>[.int .i64 y0,.str y1,.int .i64 y2.Kind,.int .i64 y2.Low,.int .i64 y2.High,.int .i64 y2.Size,.str y2.Name,.sl (estr.rows y2.Names),.sl (E0.rows y2.Of),.int .i64 y3,.int .i64 y4.Op,.int .i64 y4.NV,.str y4.Name,.sl (A0.rows y4.Kids),.sl (C0.rowsX y5),.sl (C0.rowsX y6),.sl (B0.rows y7)]
def C0.rowsX:List C0→List Row
 | []=>[]
 | x::r=>C0.rowX x::C0.rowsX r
end
def C0.rows (l:List C0):List Row:=C0.rowsX l
def C0.row (x:C0):Row:=[.int .i64 x.Kind,.str x.Name,.int .i64 x.TypeV.Kind,.int .i64 x.TypeV.Low,.int .i64 x.TypeV.High,.int .i64 x.TypeV.Size,.str x.TypeV.Name,.sl (estr.rows x.TypeV.Names),.sl (E0.rows x.TypeV.Of),.int .i64 x.Init,.int .i64 x.Value.Op,.int .i64 x.Value.NV,.str x.Value.Name,.sl (A0.rows x.Value.Kids),.sl (C0.rows x.Params),.sl (C0.rows x.Vars),.sl (B0.rows x.Body)]
theorem C0.rows_map:∀ l,C0.rows l=l.map C0.row
 | []=>rfl
 | x::r=>by
  show C0.rowX x::C0.rows r=C0.row x::r.map C0.row
  rw [C0.rows_map r]
  cases x
  rfl
def C0.cells (x:C0):List A:=[.d (.int .i64 x.Kind),.d (.str x.Name),.d (.int .i64 x.TypeV.Kind),.d (.int .i64 x.TypeV.Low),.d (.int .i64 x.TypeV.High),.d (.int .i64 x.TypeV.Size),.d (.str x.TypeV.Name),.d (.sl (estr.rows x.TypeV.Names)),.d (.sl (E0.rows x.TypeV.Of)),.d (.int .i64 x.Init),.d (.int .i64 x.Value.Op),.d (.int .i64 x.Value.NV),.d (.str x.Value.Name),.d (.sl (A0.rows x.Value.Kids)),.d (.sl (C0.rows x.Params)),.d (.sl (C0.rows x.Vars)),.d (.sl (B0.rows x.Body))]
theorem C0.idx {l:List C0}{n:Int}{x:C0}(h:idx l n=some x):(C0.rows l)[n.toNat]?=some (C0.row x):=On C0.rows_map h
theorem C0.app (l m:List C0):C0.rows (l++m)=C0.rows l++C0.rows m:=Qn C0.rows_map l m
theorem C0.len (l:List C0):(C0.rows l).length=l.length:=Rn C0.rows_map l
theorem C0.lenA (l:List C0):A.d (.int .i64 ((C0.rows l).length:Nat))=A.d (.int .i64 (l.length:Nat)):=Gl C0.rows_map l
theorem C0.sz (l:List C0):∀ r∈C0.rows l,r.length=17:=Vq C0.rows_map (fun _=>rfl) l
structure O0 where
 Decls:List C0
 Body:List B0
def O0.zero:O0:=⟨[],[]⟩
instance:Inhabited O0:=⟨O0.zero⟩
def O0.row (x:O0):Row:=[.sl (C0.rows x.Decls),.sl (B0.rows x.Body)]
def O0.rows (l:List O0):List Row:=l.map O0.row
theorem O0.rows_map (l:List O0):O0.rows l=l.map O0.row:=rfl
def O0.cells (x:O0):List A:=[.d (.sl (C0.rows x.Decls)),.d (.sl (B0.rows x.Body))]
structure U2 where
 place:Bool
 value:Bool
 name:Bool
 args:Bool
 n:Bool
 bounds:Bool
 numbers:Bool
 thenV:Bool
 other:Bool
def U2.zero:U2:=⟨false,false,false,false,false,false,false,false,false⟩
instance:Inhabited U2:=⟨U2.zero⟩
def U2.cells (x:U2):List A:=[.d (.bool x.place),.d (.bool x.value),.d (.bool x.name),.d (.bool x.args),.d (.bool x.n),.d (.bool x.bounds),.d (.bool x.numbers),.d (.bool x.thenV),.d (.bool x.other)]
def Eg (c:Int):Option Bool:=
 some (bif (decide (c≥97)) then (decide (c≤122)) else false)
theorem Pm {c res}(hh:Eg c=some res):P0 C 160 [.d (.int .u8 c)] [] (Ret [] (.d (.bool res))):=by
 unfold Eg at hh
 cases hh
 exact P0.intro hC Tryz.func160 rfl rfl rfl (t' rfl (sg' 7 rfl (G' 4 rfl (a1' rfl (pa' rfl (a0' rfl (an' (n' (re' (rq rfl))))))))))
def Nd (c:Int):Option Bool:=
 some (bif (decide (c≥48)) then (decide (c≤57)) else false)
theorem Uj {c res}(hh:Nd c=some res):P0 C 163 [.d (.int .u8 c)] [] (Ret [] (.d (.bool res))):=by
 unfold Nd at hh
 cases hh
 exact P0.intro hC Tryz.func163 rfl rfl rfl (t' rfl (sg' 7 rfl (G' 4 rfl (a1' rfl (pa' rfl (a0' rfl (an' (n' (re' (rq rfl))))))))))
def Oe (s:Str)(i1:Int):Option Int:=
 (if (decide (i1 < ((s).length:Int)))=true then idx s i1 else some default)>>=fun x1=>
 (if (decide (i1 < ((s).length:Int)))=true then Eg (x1.toNat:Int) else some default)>>=fun x2=>
 (if ((decide (i1 < ((s).length:Int)))&&(!x2))=true then idx s i1 else some default)>>=fun x3=>
 (if ((decide (i1 < ((s).length:Int)))&&(!x2))=true then Nd (x3.toNat:Int) else some default)>>=fun x4=>
 if (bif (decide (i1 < ((s).length:Int))) then (bif x2 then true else x4) else false)=true then
  Oe s (IntKind.i64.wrap (i1+1))
 else
  some i1
 partial_fixpoint
abbrev Vz (s:Str)(i1:Int)(res:Int):Prop:=LM C 24 0 Tryz.f161 [1,0,4] [(0,.d (.str s)),(1,.d (.int .i64 i1))] [] (Ret [] (.d (.int .i64 res)))
theorem I19 (s:Str):(∀ i1 res,Oe s i1=some res→Vz s i1 res):=by
 refine Oe.partial_correctness s _ ?_
 ·intro g0 ih0 i1 res hh
  obtain ⟨x1,hx1,hh⟩:=bs' hh
  obtain ⟨x2,hx2,hh⟩:=bs' hh
  obtain ⟨x3,hx3,hh⟩:=bs' hh
  obtain ⟨x4,hx4,hh⟩:=bs' hh
  refine X0.unroll (S' (sg' 16 rfl (G' 7 rfl (AG.x hC rfl rfl (fun hg=>⟨hg,hg,trivial⟩) (fun hw=>⟨Z0 (V1 hw hx1),Ed (V1 hw hx1)⟩) (AG.c rfl rfl (fun hg=>⟨hg,trivial⟩) (fun hw=>Pm (V1 hw hx2)) (a1' rfl (G' 2 rfl (AG.x hC rfl rfl (fun hg=>⟨hg,hg,trivial⟩) (fun hw=>⟨Z0 (V1 hw hx3),Ed (V1 hw hx3)⟩) ?_))))))))
  refine AG.c rfl rfl (fun hg=>⟨hg,trivial⟩) (fun hw=>Uj (V1 hw hx4)) (pO' rfl (pa' rfl (an' (n' (ci' rfl hh (fun hh=>?_) (fun hh=>?_))))))
  ·exact sk' (bk' (T' rfl (lq (ih0 _ _ hh) rfl)))
  cases hh
  exact ex' (t' rfl (re' (rq rfl)))
theorem I1b {s i1 res}(hh:Oe s i1=some res):Vz s i1 res:=(I19 s) _ _ hh
def Ps (s:Str)(i:Int):Option Int:=
 Oe s i
theorem O15 {s i res}(hh:Ps s i=some res):P0 C 161 [.d (.str s),.d (.int .i64 i)] [] (Ret [] (.d (.int .i64 res))):=by
 unfold Ps at hh
 exact P0.intro hC Tryz.func161 rfl rfl rfl (t' rfl (S' (bk' (fq (I1b hh) rfl))))
def Zd (word:Str):Option Bool:=
 (if (!(word == []))=true then Bp word [32] else some default)>>=fun x1=>
 if (!(bif (!(word == [])) then (!x1) else false)||(decide (1+word.length≤maxLen)))=true then
  if (!(bif (!(word == [])) then (!x1) else false)||(decide (([32]++word).length+1≤maxLen)))=true then
   (if (bif (!(word == [])) then (!x1) else false)=true then Bp [32,116,121,112,101,32,115,101,99,114,101,116,32,112,117,98,108,105,99,32,114,97,110,100,111,109,32,118,97,114,32,104,97,116,99,104,32,102,117,110,99,32,114,101,116,117,114,110,32,98,101,103,105,110,32,101,110,100,32,98,111,111,108,32,105,110,116,32,97,114,114,97,121,32,111,102,32,114,101,99,111,114,100,32,116,114,117,101,32,102,97,108,115,101,32,99,97,108,108,32,114,101,108,101,97,115,101,32,111,117,116,112,117,116,32,119,97,105,116,32,105,102,32,101,108,115,101,32,119,104,105,108,101,32,108,105,109,105,116,32,102,111,114,32,116,111,32,115,101,116,116,108,101,32,109,105,110,32,109,97,120,32] (([32]++word)++[32]) else some default)>>=fun x2=>
   some (bif (bif (!(word == [])) then (!x1) else false) then x2 else false)
  else none
 else none
theorem Tt {word res}(hh:Zd word=some res):P0 C 162 [.d (.str word)] [] (Ret [] (.d (.bool res))):=by
 unfold Zd at hh
 obtain ⟨x1,hx1,hh⟩:=bs' hh
 obtain ⟨c7,hh⟩:=S1g hh
 obtain ⟨c8,hh⟩:=S1g hh
 obtain ⟨x2,hx2,hh⟩:=bs' hh
 cases hh
 refine P0.intro hC Tryz.func162 rfl rfl rfl (t' rfl (sg' 14 rfl (G' 4 rfl (AG.c rfl rfl (fun hg=>⟨hg,trivial⟩) (fun hw=>L13 (V1 hw hx1)) (a1' rfl (pa' rfl (G' 2 rfl (ag' rfl (fun hg=>⟨⟨hg,trivial⟩,(c7 hg)⟩) (ag' rfl (fun hg=>⟨⟨hg,trivial⟩,(c8 hg)⟩) (AG.c rfl rfl (fun hg=>⟨hg,trivial⟩) (fun hw=>L13 (V1 hw hx2)) (pa' rfl (a0' rfl (an' ?_)))))))))))))
 exact n' (re' (rq rfl))
def L8 (s:Str)(n:Int)(v7:Int):Option Int:=
 if (decide (v7 < ((s).length:Int)))=true then
  idx s v7>>=fun x1=>
  Nd (x1.toNat:Int)>>=fun x2=>
  if (!x2)=true then
   some 6
  else
   idx s v7>>=fun x3=>
   L8 s (min (IntKind.i64.wrap ((IntKind.i64.wrap (10 * n))+(IntKind.i64.wrap (IntKind.u8.wrap ((x3.toNat:Int) - 48))))) 1048577) (IntKind.i64.wrap (v7+1))
 else
  idx s 0>>=fun x4=>
  if (bif ((x4.toNat:Int) == 48) then (decide (((s).length:Int) > 1)) else false)=true then
   some 6
  else
   if (decide (n > 1048576))=true then
    some 3
   else
    some 0
 partial_fixpoint
abbrev Ut (s:Str)(n:Int)(v7:Int)(res:Int):Prop:=LM C 37 0 Tryz.f164 [1,1,0,1,4] [(0,.d (.str s)),(3,.d (.int .i64 n)),(6,.d (.int .i64 ((s).length:Int))),(7,.d (.int .i64 v7))] [] (Ret [] (.d (.int .i64 res)))
theorem R13 (s:Str):(∀ n v7 res,L8 s n v7=some res→Ut s n v7 res):=by
 refine L8.partial_correctness s _ ?_
 ·intro g0 ih0 n v7 res hh
  refine X0.unroll (t' rfl (S' (ci' rfl hh (fun hh=>?_) (fun hh=>?_))))
  ·obtain ⟨x1,hx1,hh⟩:=bs' hh
   obtain ⟨x2,hx2,hh⟩:=bs' hh
   refine sk' (S' (bk' (t' rfl (S' (p' 2 rfl (x' rfl (Z0 hx1) (Ed hx1) (cq (Uj hx2) rfl (e' rfl (ci' rfl hh (fun hh=>?_) (fun hh=>?_))))))))))
   ·cases hh
    exact t' rfl (re' (rq rfl))
   obtain ⟨x3,hx3,hh⟩:=bs' hh
   exact sk' (P' 4 rfl (x' rfl (Z0 hx3) (Ed hx3) (e' rfl (T' rfl (lq (ih0 _ _ _ hh) rfl)))))
  obtain ⟨x4,hx4,hh⟩:=bs' hh
  refine ex' (S' (bk' (sg' 9 rfl (a0' rfl (AG.x hC rfl rfl (fun _=>trivial) (fun hw=>⟨Z0 hx4,Ed hx4⟩) (G' 3 rfl (a1' rfl (a1' rfl (pa' rfl (a0' rfl (an' (n' (ci' rfl hh (fun hh=>?_) (fun hh=>?_))))))))))))))
  ·cases hh
   exact t' rfl (re' (rq rfl))
  refine t' rfl (ci' rfl hh (fun hh=>?_) (fun hh=>?_))
  ·cases hh
   exact t' rfl (re' (rq rfl))
  cases hh
  exact sk' (t' rfl (re' (rq rfl)))
theorem P15 {s n v7 res}(hh:L8 s n v7=some res):Ut s n v7 res:=(R13 s) _ _ _ hh
def Cp (s:Str):Option Int:=
 L8 s 0 0
theorem J1b {s res}(hh:Cp s=some res):P0 C 164 [.d (.str s)] [] (Ret [] (.d (.int .i64 res))):=by
 unfold Cp at hh
 exact P0.intro hC Tryz.func164 rfl rfl rfl (t' rfl (t' rfl (S' (t' rfl (bk' (fq (P15 hh) rfl))))))
def Eh (s:Str):Option Str:=
 idx s 0>>=fun x3=>
 Oy [59,58,44,46,61,43,45,42,47,37,60,62,33,63,40,41,91,93,123,125] (x3.toNat:Int)>>=fun x4=>
 if (decide (x4≥0))=true then
  slc s 0 1>>=fun x5=>
  some x5
 else
  some []
theorem Rv {s res}(hh:Eh s=some res):JM C 24 0 Tryz.f165 [1,1] [(0,.d (.str s))] [] (Ret [] (.d (.str res))):=by
 unfold Eh at hh
 obtain ⟨x3,hx3,hh⟩:=bs' hh
 obtain ⟨x4,hx4,hh⟩:=bs' hh
 refine S' (p' 1 rfl (x' rfl (Z0 hx3) (Ed hx3) (cq (X1c hx4) rfl (e' rfl (ci' rfl hh (fun hh=>?_) (fun hh=>?_))))))
 ·obtain ⟨x5,hx5,hh⟩:=bs' hh
  cases hh
  exact p' 1 rfl (F0.lx hC rfl hx5 (e' rfl (re' (rq rfl))))
 cases hh
 exact sk' (t' rfl (re' (rq rfl)))
def Q9 (s:Str)(v8:Bool):Option Str:=
 if v8=true then
  slc s 0 2>>=fun x2=>
  some x2
 else
  Eh s
theorem Rb {s v8 res}(hh:Q9 s v8=some res):JM C 24 0 Tryz.f165 [1,0,1,2,1,4,1] [(0,.d (.str s)),(8,.d (.bool v8))] [] (Ret [] (.d (.str res))):=by
 unfold Q9 at hh
 refine ci' rfl hh (fun hh=>?_) (fun hh=>?_)
 ·obtain ⟨x2,hx2,hh⟩:=bs' hh
  cases hh
  exact p' 1 rfl (F0.lx hC rfl hx2 (e' rfl (re' (rq rfl))))
 exact sk' (eq' (Rv hh) rfl)
def Vj (s:Str):Option Str:=
 if (decide (((s).length:Int)≥2))=true then
  slc s 0 2>>=fun x1=>
  if (x1 == [46,46])=true then
   Q9 s (x1 == [46,46])
  else
   if (x1 == [61,61])=true then
    Q9 s (x1 == [61,61])
   else
    if (x1 == [33,61])=true then
     Q9 s (x1 == [33,61])
    else
     if (x1 == [60,61])=true then
      Q9 s (x1 == [60,61])
     else
      if (x1 == [62,61])=true then
       Q9 s (x1 == [62,61])
      else
       if (x1 == [38,38])=true then
        Q9 s (x1 == [38,38])
       else
        Q9 s (x1 == [124,124])
 else
  Eh s
theorem Q1f {s res}(hh:Vj s=some res):P0 C 165 [.d (.str s)] [] (Ret [] (.d (.str res))):=by
 unfold Vj at hh
 refine P0.intro hC Tryz.func165 rfl rfl rfl (t' rfl (S' (t' rfl (ci' rfl hh (fun hh=>?_) (fun hh=>?_)))))
 ·obtain ⟨x1,hx1,hh⟩:=bs' hh
  refine p' 1 rfl (F0.lx hC rfl hx1 (n' (bk' (S' (t' rfl (ci' rfl hh (fun hh=>?_) (fun hh=>?_)))))))
  ·exact sk' (eq' (Rb hh) rfl)
  refine t' rfl (ci' rfl hh (fun hh=>?_) (fun hh=>?_))
  ·exact sk' (eq' (Rb hh) rfl)
  refine t' rfl (ci' rfl hh (fun hh=>?_) (fun hh=>?_))
  ·exact sk' (eq' (Rb hh) rfl)
  refine t' rfl (ci' rfl hh (fun hh=>?_) (fun hh=>?_))
  ·exact sk' (eq' (Rb hh) rfl)
  refine t' rfl (ci' rfl hh (fun hh=>?_) (fun hh=>?_))
  ·exact sk' (eq' (Rb hh) rfl)
  refine t' rfl (ci' rfl hh (fun hh=>?_) (fun hh=>?_))
  ·exact sk' (eq' (Rb hh) rfl)
  exact T' rfl (eq' (Rb hh) rfl)
 exact sk' (eq' (Rv hh) rfl)
def Em (s:Str)(i:Int):Option (K0×Int):=
 idx s i>>=fun x1=>
 Eg (x1.toNat:Int)>>=fun x2=>
 if x2=true then
  Ps s i>>=fun x3=>
  slc s i x3>>=fun x4=>
  Zd x4>>=fun x5=>
  if x5=true then
   some ((K0.mk 2 x4 i),0)
  else
   if (decide (((x4).length:Int) > 12))=true then
    some ((K0.mk 0 x4 i),7)
   else
    some ((K0.mk 0 x4 i),0)
 else
  Nd (x1.toNat:Int)>>=fun x6=>
  if x6=true then
   Ps s i>>=fun x7=>
   slc s i x7>>=fun x8=>
   Cp x8>>=fun x9=>
   some ((K0.mk 1 x8 i),x9)
  else
   slc s i ((s).length:Int)>>=fun x10=>
   Vj x10>>=fun x11=>
   if (x11 == [])=true then
    some ((K0.mk 3 x11 i),6)
   else
    some ((K0.mk 3 x11 i),0)
theorem R1f {s i res}(hh:Em s i=some res):P0 C 109 [.d (.str s),.d (.int .i64 i)] [] (Ret [] (.tup [.agg (K0.cells res.1),.d (.int .i64 res.2)])):=by
 unfold Em at hh
 obtain ⟨x1,hx1,hh⟩:=bs' hh
 obtain ⟨x2,hx2,hh⟩:=bs' hh
 refine P0.intro hC Tryz.func109 rfl rfl rfl (s' rfl rfl (F0.n hC rfl (e' rfl (p' 2 rfl (F0.n hC rfl (F0.s hC rfl (n' (S' (p' 2 rfl (x' rfl (Z0 hx1) (Ed hx1) (e' rfl (bk' (p' 1 rfl ?_)))))))))))))
 refine cq (Pm hx2) rfl (e' rfl (ci' rfl hh (fun hh=>?_) (fun hh=>?_)))
 ·obtain ⟨x3,hx3,hh⟩:=bs' hh
  obtain ⟨x4,hx4,hh⟩:=bs' hh
  obtain ⟨x5,hx5,hh⟩:=bs' hh
  refine p' 4 rfl (cq (O15 hx3) rfl (F0.lx hC rfl hx4 (q' rfl (F0.s hC rfl (n' (p' 2 rfl (cq (Tt hx5) rfl (n' (ci' rfl hh (fun hh=>?_) (fun hh=>?_))))))))))
  ·cases hh
   exact P' 1 rfl (F0.s hC rfl (n' (p' 1 rfl (F0.s hC rfl (e' rfl (re' (rq rfl)))))))
  refine t' rfl (ci' rfl hh (fun hh=>?_) (fun hh=>?_))
  ·cases hh
   exact p' 1 rfl (F0.s hC rfl (e' rfl (re' (rq rfl))))
  cases hh
  exact sk' (p' 1 rfl (F0.s hC rfl (e' rfl (re' (rq rfl)))))
 obtain ⟨x6,hx6,hh⟩:=bs' hh
 refine p' 1 rfl (cq (Uj hx6) rfl (e' rfl (ci' rfl hh (fun hh=>?_) (fun hh=>?_))))
 ·obtain ⟨x7,hx7,hh⟩:=bs' hh
  obtain ⟨x8,hx8,hh⟩:=bs' hh
  obtain ⟨x9,hx9,hh⟩:=bs' hh
  cases hh
  refine p' 4 rfl (cq (O15 hx7) rfl (F0.lx hC rfl hx8 (q' rfl (F0.s hC rfl (q' rfl (F0.s hC rfl (n' (S' (AEx.draw hC 4 rfl rfl rfl (O' 3 rfl (Qc' (J1b hx9) rfl rfl (Qn' (F0.s hC rfl ?_)))))))))))))
  exact e' rfl (re' (rq rfl))
 obtain ⟨x10,hx10,hh⟩:=bs' hh
 obtain ⟨x11,hx11,hh⟩:=bs' hh
 refine p' 2 rfl (F0.lx hC rfl hx10 (cq (Q1f hx11) rfl (q' rfl (F0.s hC rfl (q' rfl (F0.s hC rfl (n' (t' rfl (ci' rfl hh (fun hh=>?_) (fun hh=>?_))))))))))
 ·cases hh
  exact p' 1 rfl (F0.s hC rfl (e' rfl (re' (rq rfl))))
 cases hh
 exact sk' (p' 1 rfl (F0.s hC rfl (e' rfl (re' (rq rfl)))))
mutual
def J5 (s:Str)(out:List K0)(i:Int):Option (List K0×Int×Int):=
 if (decide (i < ((s).length:Int)))=true then
  idx s i>>=fun x1=>
  if ((x1.toNat:Int) == 32)=true then
   Ki s out i x1 ((x1.toNat:Int) == 32)
  else
   if ((x1.toNat:Int) == 9)=true then
    Ki s out i x1 ((x1.toNat:Int) == 9)
   else
    Ki s out i x1 ((x1.toNat:Int) == 10)
 else
  some (out,0,0)
 partial_fixpoint
def Ki (s:Str)(out1:List K0)(i1:Int)(x1:UInt8)(v19:Bool):Option (List K0×Int×Int):=
 if v19=true then
  J5 s out1 (IntKind.i64.wrap (i1+1))
 else
  if ((x1.toNat:Int) == 35)=true then
   Pe s out1 i1
  else
   Em s i1>>=fun x2=>
   if (x2.2 != 0)=true then
    some ([],i1,x2.2)
   else
    if (decide ((out1.length+1) * 33≤140737488355328))=true then
     J5 s (out1++[x2.1]) (IntKind.i64.wrap (i1+((x2.1.Text).length:Int)))
    else none
 partial_fixpoint
def Pe (s:Str)(out2:List K0)(i2:Int):Option (List K0×Int×Int):=
 (if (decide (i2 < ((s).length:Int)))=true then idx s i2 else some default)>>=fun x3=>
 if (bif (decide (i2 < ((s).length:Int))) then ((x3.toNat:Int) != 10) else false)=true then
  Pe s out2 (IntKind.i64.wrap (i2+1))
 else
  J5 s out2 i2
 partial_fixpoint
end
abbrev Wz (s:Str)(out:List K0)(i:Int)(res:List K0×Int×Int):Prop:=LM C 59 0 Tryz.f57 [1,1,1,0,1,4] [(0,.d (.str s)),(5,.osl 0 (K0.rows out)),(6,.d (.int .i64 i))] [.tok 62 3] (Ret [] (.tup [.d (.sl (K0.rows res.1)),.d (.int .i64 res.2.1),.d (.int .i64 res.2.2)]))
abbrev Y1c (s:Str)(out1:List K0)(i1:Int)(x1:UInt8)(v19:Bool)(res:List K0×Int×Int):Prop:=JM C 59 0 Tryz.f57 [1,1,1,0,1,4,5,1,4,0,1,4,1] [(0,.d (.str s)),(5,.osl 0 (K0.rows out1)),(6,.d (.int .i64 i1)),(18,.d (.int .u8 (x1.toNat:Int))),(19,.d (.bool v19))] [.tok 62 3] (Ret [] (.tup [.d (.sl (K0.rows res.1)),.d (.int .i64 res.2.1),.d (.int .i64 res.2.2)]))
abbrev Z1c (s:Str)(out2:List K0)(i2:Int)(res:List K0×Int×Int):Prop:=LM C 59 0 Tryz.f57 [1,1,1,0,1,4,5,1,4,0,1,4,1,3,1,2,0,4] [(0,.d (.str s)),(5,.osl 0 (K0.rows out2)),(6,.d (.int .i64 i2))] [.tok 62 3] (Ret [] (.tup [.d (.sl (K0.rows res.1)),.d (.int .i64 res.2.1),.d (.int .i64 res.2.2)]))
theorem J19 (s:Str):(∀ out i res,J5 s out i=some res→Wz s out i res)∧(∀ out1 i1 x1 v19 res,Ki s out1 i1 x1 v19=some res→Y1c s out1 i1 x1 v19 res)∧(∀ out2 i2 res,Pe s out2 i2=some res→Z1c s out2 i2 res):=by
 refine J5.mutual_partial_correctness s _ _ _ ?_ ?_ ?_
 ·intro g1 ih1 out i res hh
  refine X0.unroll (S' (t' rfl (ci' rfl hh (fun hh=>?_) (fun hh=>?_))))
  ·obtain ⟨x1,hx1,hh⟩:=bs' hh
   refine sk' (bk' (S' (p' 2 rfl (x' rfl (Z0 hx1) (Ed hx1) (n' (bk' (S' (t' rfl (ci' rfl hh (fun hh=>?_) (fun hh=>?_))))))))))
   ·exact sk' (eq' (ih1 _ _ _ _ _ hh) rfl)
   refine t' rfl (ci' rfl hh (fun hh=>?_) (fun hh=>?_))
   ·exact sk' (eq' (ih1 _ _ _ _ _ hh) rfl)
   exact T' rfl (eq' (ih1 _ _ _ _ _ hh) rfl)
  refine ex' (t' rfl (re' ?_))
  obtain rfl:=oi' hh
  exact ⟨_,.tup [.d (.sl (K0.rows out)),.d (.int .i64 0),.d (.int .i64 0)],[],rfl,(.tupL ⟨.osl,.rfl,.rfl,trivial⟩),trivial,rfl,rfl,rfl,rfl⟩
 ·intro g0 g2 ih0 ih2 out1 i1 x1 v19 res hh
  refine ci' rfl hh (fun hh=>?_) (fun hh=>?_)
  ·exact t' rfl (ex' (lq (ih0 _ _ _ hh) rfl))
  refine t' rfl (ci' rfl hh (fun hh=>?_) (fun hh=>?_))
  ·exact S' (bk' (fq (ih2 _ _ _ hh) rfl))
  obtain ⟨x2,hx2,hh⟩:=bs' hh
  refine sk' (p' 2 rfl (cq (R1f hx2) rfl (o' 3 rfl (F0.n hC rfl (F0.s hC rfl (e' rfl (S' (t' rfl (ci' rfl hh (fun hh=>?_) (fun hh=>?_))))))))))
  ·refine t' rfl (re' ?_)
   obtain rfl:=oi' hh
   exact ⟨_,.tup [.d (.sl (K0.rows [])),.d (.int .i64 i1),.d (.int .i64 x2.2)],[],rfl,(.tupL ⟨.full,.rfl,.rfl,trivial⟩),trivial,rfl,rfl,rfl,rfl⟩
  obtain ⟨c9,hh⟩:=N0 hh
  exact sk' (p' 2 rfl (F0.be hC rfl (K0.rows_map [x2.1]).symm (F0.ap hC rfl (rs:=K0.rows (out1++[x2.1])) (K0.app out1 [x2.1]) (K0.sz out1) (K0.sz [x2.1]) (Q1 (K0.len out1) (K0.len [x2.1]) c9) (e' rfl (T' rfl (lq (ih0 _ _ _ hh) rfl))))))
 ·intro g0 g2 ih0 ih2 out2 i2 res hh
  obtain ⟨x3,hx3,hh⟩:=bs' hh
  refine X0.unroll (S' (sg' 10 rfl (G' 7 rfl (AG.x hC rfl rfl (fun hg=>⟨hg,hg,trivial⟩) (fun hw=>⟨Z0 (V1 hw hx3),Ed (V1 hw hx3)⟩) (a1' rfl (pa' rfl (an' (n' (ci' rfl hh (fun hh=>?_) (fun hh=>?_))))))))))
  ·exact sk' (bk' (T' rfl (lq (ih2 _ _ _ hh) rfl)))
  exact ex' (ex' (lq (ih0 _ _ _ hh) rfl))
theorem K1b {s out i res}(hh:J5 s out i=some res):Wz s out i res:=(J19 s).1 _ _ _ hh
def Co (s:Str):Option (List K0×Int×Int):=
 if (decide (((s).length:Int) > 8192))=true then
  some ([],0,5)
 else
  J5 s [] 0
theorem Q15 {s res}(hh:Co s=some res):P0 C 57 [.d (.str s)] [] (Ret [] (.tup [.d (.sl (K0.rows res.1)),.d (.int .i64 res.2.1),.d (.int .i64 res.2.2)])):=by
 unfold Co at hh
 refine P0.intro hC Tryz.func57 rfl rfl rfl (t' rfl (S' (t' rfl (ci' rfl hh (fun hh=>?_) (fun hh=>?_)))))
 ·refine t' rfl (re' ?_)
  obtain rfl:=oi' hh
  exact ⟨_,.tup [.d (.sl (K0.rows [])),.d (.int .i64 0),.d (.int .i64 5)],[],rfl,(.tupL ⟨.full,.rfl,.rfl,trivial⟩),trivial,rfl,rfl,rfl,rfl⟩
 exact sk' (p' 1 rfl (F0.tokE 5 62 3 rfl (n' (S' (t' rfl (bk' (fq (K1b hh) rfl)))))))
def Ae (text:Str)(parserParser:D0):Option Bool:=
 if (decide (parserParser.next≥((parserParser.tokens).length:Int)))=true then
  some false
 else
  idx parserParser.tokens parserParser.next>>=fun x1=>
  some (bif (x1.Text == text) then (bif (x1.Kind == 2) then true else (x1.Kind == 3)) else false)
theorem Cq {text parserParser res}(hh:Ae text parserParser=some res):P0 C 113 [.ref 0 0,.d (.str text)] [.row (D0.cells parserParser) 99] (Ret [.row (D0.cells parserParser) 99] (.d (.bool res))):=by
 unfold Ae at hh
 refine P0.intro hC Tryz.func113 rfl rfl rfl (t' rfl (S' (S' (AEx.draw hC 10 rfl rfl rfl (O' 8 rfl (AQ.qe hC rfl trivial (K0.lenA _) (E' rfl (n' (ci' rfl hh (fun hh=>?_) (fun hh=>?_))))))))))
 ·cases hh
  exact t' rfl (re' (rq rfl))
 obtain ⟨x1,hx1,hh⟩:=bs' hh
 cases hh
 refine sk' (S' (AEx.drawL hC 11 [] [(10,1)] [[.row (D0.cells parserParser) 99,.row [.d (.int .i64 0),.d (.str []),.d (.int .i64 0)] 62]] rfl rfl rfl rfl rfl rfl rfl rfl rfl rfl (AS.q hC rfl rfl rfl rfl (AS.q hC rfl rfl rfl rfl (AS.q hC rfl rfl rfl rfl (AS.q hC rfl rfl rfl rfl (AS.q hC rfl rfl rfl rfl (AS.q hC rfl rfl rfl rfl (AS.q hC rfl rfl rfl rfl (AS.q hC rfl rfl rfl rfl ?_))))))))))
 refine AS.ix hC rfl (Z0 hx1) (K0.idx hx1) rfl rfl rfl (AS.q hC rfl rfl rfl rfl (AS.n hC rfl rfl rfl rfl (AS.nil (F0.s hC rfl (n' (sg' 15 rfl (G' 6 rfl (a1' rfl (a1' rfl (a1' rfl (a0' rfl (a1' rfl (a1' rfl ?_)))))))))))))
 exact pO' rfl (pa' rfl (a0' rfl (an' (n' (re' (rq rfl))))))
def S0 (text:Str)(parserParser:D0):Option (Bool×D0):=
 Ae text parserParser>>=fun x1=>
 if (!x1)=true then
  some (false,parserParser)
 else
  some (true,(D0.mk parserParser.tokens (IntKind.i64.wrap (parserParser.next+1)) parserParser.endV))
theorem T0 {text parserParser res}(hh:S0 text parserParser=some res):P0 C 61 [.ref 0 0,.d (.str text)] [.row (D0.cells parserParser) 99] (Ret [.row (D0.cells res.2) 99] (.d (.bool res.1))):=by
 unfold S0 at hh
 obtain ⟨x1,hx1,hh⟩:=bs' hh
 refine P0.intro hC Tryz.func61 rfl rfl rfl (t' rfl (S' (p' 2 rfl (gq [0] (Cq hx1) rfl (e' rfl (ci' rfl hh (fun hh=>?_) (fun hh=>?_)))))))
 ·cases hh
  exact t' rfl (re' (rq rfl))
 cases hh
 exact sk' (p' 7 rfl (F0.s hC rfl (n' (t' rfl (re' (rq rfl))))))
def G7 (parserParser:D0):Option Bool:=
 (if (decide (parserParser.next < ((parserParser.tokens).length:Int)))=true then idx parserParser.tokens parserParser.next else some default)>>=fun x1=>
 some (bif (decide (parserParser.next < ((parserParser.tokens).length:Int))) then (x1.Kind == 0) else false)
theorem Ch {parserParser res}(hh:G7 parserParser=some res):P0 C 172 [.ref 0 0] [.row (D0.cells parserParser) 99] (Ret [.row (D0.cells parserParser) 99] (.d (.bool res))):=by
 unfold G7 at hh
 obtain ⟨x1,hx1,hh⟩:=bs' hh
 cases hh
 refine P0.intro hC Tryz.func172 rfl rfl rfl (t' rfl (S' (AEx.drawG hC 25 rfl rfl rfl (G' 8 rfl (AG.qe hC rfl (fun hg=>⟨trivial,trivial⟩) (K0.lenA _) (G' 3 rfl (a1' rfl (a1' rfl (a1' rfl (a0' rfl (a1' rfl (a1' rfl (a1' rfl ?_)))))))))))))
 exact AG.i hC rfl rfl (fun hg=>⟨hg,hg,trivial⟩) (fun hw=>⟨Z0 (V1 hw hx1),K0.idx (V1 hw hx1),rfl⟩) (a1' rfl (a1' rfl (a1' rfl (pa' rfl (a0' rfl (an' (n' (re' (rq rfl)))))))))
def Y6 (parserParser:D0):Option (Pn Unit):=
 if (decide (parserParser.next < ((parserParser.tokens).length:Int)))=true then
  idx parserParser.tokens parserParser.next>>=fun x1=>
  some (.pn x1.At)
 else
  some (.pn parserParser.endV)
theorem Q5 {parserParser res}(hh:Y6 parserParser=some res):C2 C 59 [.ref 0 0] [.row (D0.cells parserParser) 99] (F4 res (fun rr=>[.row (D0.cells parserParser) 99]) (fun rr=>.tup [])) (D4 res B3 [.row (D0.cells parserParser) 99]):=by
 unfold Y6 at hh
 refine C2.intro hC Tryz.func59 rfl rfl rfl (t' rfl (S' (S' (AEx.draw hC 10 rfl rfl rfl (O' 8 rfl (AQ.qe hC rfl trivial (K0.lenA _) (E' rfl (n' (ci' rfl hh (fun hh=>?_) (fun hh=>?_))))))))))
 ·obtain ⟨x1,hx1,hh⟩:=bs' hh
  cases hh
  exact AEx.draw hC 12 rfl rfl rfl (O' 8 rfl (AQ.i hC rfl (Z0 hx1) (K0.idx hx1) rfl (E' rfl (n' (P' 2 rfl (pn' hC rfl ((fun hi=>pe' rfl rfl hi))))))))
 cases hh
 exact sk' (P' 2 rfl (pn' hC rfl ((fun hi=>pe' rfl rfl hi))))
def Xb (parserParser:D0):Option (Pn (Str×D0)):=
 idx parserParser.tokens (IntKind.i64.wrap ((IntKind.i64.wrap (parserParser.next+1)) - 1))>>=fun x3=>
 some (.ok (x3.Text,(D0.mk parserParser.tokens (IntKind.i64.wrap (parserParser.next+1)) parserParser.endV)))
theorem Hl {parserParser res}(hh:Xb parserParser=some res):JMp C 51 1 Tryz.f132 [1,1] [(0,.ref 0 0)] [.row (D0.cells parserParser) 99] (F4 res (fun rr=>[.row (D0.cells rr.2) 99]) (fun rr=>.d (.str rr.1))) (D4 res B3 [.row (D0.cells parserParser) 99]):=by
 unfold Xb at hh
 obtain ⟨x3,hx3,hh⟩:=bs' hh
 cases hh
 exact p' 7 rfl (F0.s hC rfl (n' (S' (AEx.draw hC 13 rfl rfl rfl (O' 9 rfl (AQ.i hC rfl (Z0 hx3) (K0.idx hx3) rfl (E' rfl (n' (re' (rq rfl))))))))))
def Yb (k:Int)(parserParser:D0):Option (Pn (Str×D0)):=
 (if (!(decide (parserParser.next≥((parserParser.tokens).length:Int))))=true then idx parserParser.tokens parserParser.next else some default)>>=fun x1=>
 if (bif (decide (parserParser.next≥((parserParser.tokens).length:Int))) then true else (x1.Kind != k))=true then
  Y6 parserParser>>=fun x2=>match x2 with
  | .pn nn=>
  some (.pn nn)
  | .ok x2=>
  Xb parserParser
 else
  Xb parserParser
theorem Ze {k parserParser res}(hh:Yb k parserParser=some res):C2 C 132 [.ref 0 0,.d (.int .i64 k)] [.row (D0.cells parserParser) 99] (F4 res (fun rr=>[.row (D0.cells rr.2) 99]) (fun rr=>.d (.str rr.1))) (D4 res B3 [.row (D0.cells parserParser) 99]):=by
 unfold Yb at hh
 obtain ⟨x1,hx1,hh⟩:=bs' hh
 refine C2.intro hC Tryz.func132 rfl rfl rfl (t' rfl (S' (S' (AEx.drawG hC 25 rfl rfl rfl (G' 8 rfl (AG.qe hC rfl (fun hg=>⟨trivial,trivial⟩) (K0.lenA _) (G' 3 rfl (a1' rfl (a1' rfl (a1' rfl (a0' rfl (a1' rfl (a1' rfl ?_)))))))))))))
 refine a1' rfl (AG.i hC rfl rfl (fun hg=>⟨hg,hg,trivial⟩) (fun hw=>⟨Z0 (V1 hw hx1),K0.idx (V1 hw hx1),rfl⟩) (a1' rfl (a1' rfl (a0' rfl (a2' rfl (po' rfl (an' (n' (ci' rfl hh (fun hh=>?_) (fun hh=>?_))))))))))
 ·refine P' 1 rfl ?_
  rcases bp' hh with ⟨nn,hx2,⟨⟩⟩ | ⟨x2,hx2,hh⟩
  ·exact gr [0] (Q5 hx2) rfl (fun hi=>pe' rfl rfl hi)
  exact gq [0] ((Q5 hx2).ok) rfl (n' (eq' (Hl hh) rfl))
 exact sk' (eq' (Hl hh) rfl)
def Y2 (parserParser:D0):Option (Pn (Str×D0)):=
 Yb 0 parserParser>>=fun x1=>match x1 with
 | .pn nn=>
 some (.pn nn)
 | .ok x1=>
 some (.ok (x1.1,x1.2))
theorem E1 {parserParser res}(hh:Y2 parserParser=some res):C2 C 73 [.ref 0 0] [.row (D0.cells parserParser) 99] (F4 res (fun rr=>[.row (D0.cells rr.2) 99]) (fun rr=>.d (.str rr.1))) (D4 res B3 [.row (D0.cells parserParser) 99]):=by
 unfold Y2 at hh
 refine C2.intro hC Tryz.func73 rfl rfl rfl (t' rfl (p' 1 rfl ?_))
 rcases bp' hh with ⟨nn,hx1,⟨⟩⟩ | ⟨x1,hx1,hh⟩
 ·exact gr [0] (Ze hx1) rfl (fun hi=>pe' rfl rfl hi)
 cases hh
 exact gq [0] ((Ze hx1).ok) rfl (e' rfl (re' (rq rfl)))
def U0 (text:Str)(parserParser:D0):Option (Pn D0):=
 S0 text parserParser>>=fun x1=>
 if (!x1.1)=true then
  Y6 x1.2>>=fun x2=>match x2 with
  | .pn nn=>
  some (.pn nn)
  | .ok x2=>
  some (.ok x1.2)
 else
  some (.ok x1.2)
theorem J0 {text parserParser res}(hh:U0 text parserParser=some res):C2 C 62 [.ref 0 0,.d (.str text)] [.row (D0.cells parserParser) 99] (F4 res (fun rr=>[.row (D0.cells rr) 99]) (fun rr=>.tup [])) (D4 res B3 [.dead]):=by
 unfold U0 at hh
 obtain ⟨x1,hx1,hh⟩:=bs' hh
 refine C2.intro hC Tryz.func62 rfl rfl rfl (p' 2 rfl (gq [0] (T0 hx1) rfl (e' rfl (ci' rfl hh (fun hh=>?_) (fun hh=>?_)))))
 ·refine P' 1 rfl ?_
  rcases bp' hh with ⟨nn,hx2,⟨⟩⟩ | ⟨x2,hx2,hh⟩
  ·exact gr [0] (Q5 hx2) rfl (peW ⟨trivial,trivial⟩ rfl)
  cases hh
  exact gq [0] ((Q5 hx2).ok) rfl (n' (rn' rfl rfl rfl))
 cases hh
 exact sk' (rn' rfl rfl rfl)
def H7 (parserParser:D0):Option (Pn (Int×D0)):=
 Yb 1 parserParser>>=fun x1=>match x1 with
 | .pn nn=>
 some (.pn nn)
 | .ok x1=>
 N15 x1.1>>=fun x2=>
 some (.ok (x2,x1.2))
theorem E7 {parserParser res}(hh:H7 parserParser=some res):C2 C 131 [.ref 0 0] [.row (D0.cells parserParser) 99] (F4 res (fun rr=>[.row (D0.cells rr.2) 99]) (fun rr=>.d (.int .i64 rr.1))) (D4 res B3 [.row (D0.cells parserParser) 99]):=by
 unfold H7 at hh
 refine C2.intro hC Tryz.func131 rfl rfl rfl (t' rfl (p' 1 rfl ?_))
 rcases bp' hh with ⟨nn,hx1,⟨⟩⟩ | ⟨x1,hx1,hh⟩
 ·exact gr [0] (Ze hx1) rfl (fun hi=>pe' rfl rfl hi)
 obtain ⟨x2,hx2,hh⟩:=bs' hh
 cases hh
 exact gq [0] ((Ze hx1).ok) rfl (cq (Q1o hx2) rfl (e' rfl (t' rfl (re' (rq rfl)))))
def Ja (parserParser:D0):Option (Int×Bool×D0):=
 S0 [42] parserParser>>=fun x1=>
 if x1.1=true then
  some (10,true,x1.2)
 else
  S0 [47] x1.2>>=fun x2=>
  if x2.1=true then
   some (11,true,x2.2)
  else
   S0 [37] x2.2>>=fun x3=>
   some (12,x3.1,x3.2)
theorem Ot {parserParser res}(hh:Ja parserParser=some res):P0 C 215 [.ref 0 0] [.row [.ref 1 0] 68,.row (D0.cells parserParser) 99] (Ret [.row [.ref 1 0] 68,.row (D0.cells res.2.2) 99] (.tup [.d (.int .i64 res.1),.d (.bool res.2.1)])):=by
 unfold Ja at hh
 obtain ⟨x1,hx1,hh⟩:=bs' hh
 refine P0.intro hC Tryz.func215 rfl rfl rfl (t' rfl (S' (bk' (p' 1 rfl (gq [1] (T0 hx1) rfl (e' rfl (ci' rfl hh (fun hh=>?_) (fun hh=>?_))))))))
 ·cases hh
  exact t' rfl (re' (rq rfl))
 obtain ⟨x2,hx2,hh⟩:=bs' hh
 refine p' 1 rfl (gq [1] (T0 hx2) rfl (e' rfl (ci' rfl hh (fun hh=>?_) (fun hh=>?_))))
 ·cases hh
  exact t' rfl (re' (rq rfl))
 obtain ⟨x3,hx3,hh⟩:=bs' hh
 cases hh
 exact sk' (p' 1 rfl (gq [1] (T0 hx3) rfl (e' rfl (re' (rq rfl)))))
def Sd (parserParser:D0):Option (Int×Bool×D0):=
 S0 [43] parserParser>>=fun x1=>
 if x1.1=true then
  some (8,true,x1.2)
 else
  S0 [45] x1.2>>=fun x2=>
  some (9,x2.1,x2.2)
theorem Py {parserParser res}(hh:Sd parserParser=some res):P0 C 204 [.ref 0 0] [.row [.ref 1 0] 68,.row (D0.cells parserParser) 99] (Ret [.row [.ref 1 0] 68,.row (D0.cells res.2.2) 99] (.tup [.d (.int .i64 res.1),.d (.bool res.2.1)])):=by
 unfold Sd at hh
 obtain ⟨x1,hx1,hh⟩:=bs' hh
 refine P0.intro hC Tryz.func204 rfl rfl rfl (t' rfl (S' (p' 1 rfl (gq [1] (T0 hx1) rfl (n' (ci' rfl hh (fun hh=>?_) (fun hh=>?_)))))))
 ·cases hh
  exact t' rfl (re' (rq rfl))
 obtain ⟨x2,hx2,hh⟩:=bs' hh
 cases hh
 exact sk' (p' 1 rfl (gq [1] (T0 hx2) rfl (e' rfl (re' (rq rfl)))))
def Td (parserParser:D0):Option (Int×Bool×D0):=
 S0 [38,38] parserParser>>=fun x1=>
 some (19,x1.1,x1.2)
theorem Qy {parserParser res}(hh:Td parserParser=some res):P0 C 167 [.ref 0 0] [.row [.ref 1 0] 68,.row (D0.cells parserParser) 99] (Ret [.row [.ref 1 0] 68,.row (D0.cells res.2.2) 99] (.tup [.d (.int .i64 res.1),.d (.bool res.2.1)])):=by
 unfold Td at hh
 obtain ⟨x1,hx1,hh⟩:=bs' hh
 cases hh
 exact P0.intro hC Tryz.func167 rfl rfl rfl (t' rfl (p' 1 rfl (gq [1] (T0 hx1) rfl (e' rfl (re' (rq rfl))))))
def Qe (parserParser:D0):Option (Int×Bool×D0):=
 S0 [124,124] parserParser>>=fun x1=>
 some (20,x1.1,x1.2)
theorem Xz {parserParser res}(hh:Qe parserParser=some res):P0 C 112 [.ref 0 0] [.row [.ref 1 0] 68,.row (D0.cells parserParser) 99] (Ret [.row [.ref 1 0] 68,.row (D0.cells res.2.2) 99] (.tup [.d (.int .i64 res.1),.d (.bool res.2.1)])):=by
 unfold Qe at hh
 obtain ⟨x1,hx1,hh⟩:=bs' hh
 cases hh
 exact P0.intro hC Tryz.func112 rfl rfl rfl (t' rfl (p' 1 rfl (gq [1] (T0 hx1) rfl (e' rfl (re' (rq rfl))))))
mutual
def G1 (parserParser:D0):Option (Pn (A0×D0)):=
 Be parserParser>>=fun x1=>match x1 with
 | .pn nn=>
 some (.pn nn)
 | .ok x1=>
 S0 [63] x1.2>>=fun x2=>
 if (!x2.1)=true then
  some (.ok (x1.1,x2.2))
 else
  G1 x2.2>>=fun x3=>match x3 with
  | .pn nn=>
  some (.pn nn)
  | .ok x3=>
  U0 [58] x3.2>>=fun x4=>match x4 with
  | .pn nn=>
  some (.pn nn)
  | .ok x4=>
  G1 x4>>=fun x5=>match x5 with
  | .pn nn=>
  some (.pn nn)
  | .ok x5=>
  some (.ok ((A0.mk 23 0 [] [x1.1,x3.1,x5.1]),x5.2))
 partial_fixpoint
def Be (parserParser:D0):Option (Pn (A0×D0)):=
 Zk parserParser>>=fun x1=>match x1 with
 | .pn nn=>
 some (.pn nn)
 | .ok x1=>
 some (.ok (x1.1,x1.2))
 partial_fixpoint
def Zk (parserParser:D0):Option (Pn (A0×D0)):=
 Ka parserParser>>=fun x1=>match x1 with
 | .pn nn=>
 some (.pn nn)
 | .ok x1=>
 Z4 x1.2 x1.1
 partial_fixpoint
def Z4 (o0:D0)(o3:A0):Option (Pn (A0×D0)):=
 Qe o0>>=fun x2=>
 if (!x2.2.1)=true then
  some (.ok (o3,x2.2.2))
 else
  Ka x2.2.2>>=fun x3=>match x3 with
  | .pn nn=>
  some (.pn nn)
  | .ok x3=>
  Z4 x3.2 (A0.mk x2.1 0 [] [o3,x3.1])
 partial_fixpoint
def Ka (parserParser:D0):Option (Pn (A0×D0)):=
 Th parserParser>>=fun x1=>match x1 with
 | .pn nn=>
 some (.pn nn)
 | .ok x1=>
 some (.ok (x1.1,x1.2))
 partial_fixpoint
def Th (parserParser:D0):Option (Pn (A0×D0)):=
 K5 parserParser>>=fun x1=>match x1 with
 | .pn nn=>
 some (.pn nn)
 | .ok x1=>
 W3 x1.2 x1.1
 partial_fixpoint
def W3 (o0:D0)(o3:A0):Option (Pn (A0×D0)):=
 Td o0>>=fun x2=>
 if (!x2.2.1)=true then
  some (.ok (o3,x2.2.2))
 else
  K5 x2.2.2>>=fun x3=>match x3 with
  | .pn nn=>
  some (.pn nn)
  | .ok x3=>
  W3 x3.2 (A0.mk x2.1 0 [] [o3,x3.1])
 partial_fixpoint
def K5 (parserParser:D0):Option (Pn (A0×D0)):=
 Z7 parserParser>>=fun x1=>match x1 with
 | .pn nn=>
 some (.pn nn)
 | .ok x1=>
 S0 [61,61] x1.2>>=fun x2=>
 if x2.1=true then
  R1 x2.2 x1 13
 else
  S0 [33,61] x2.2>>=fun x4=>
  if x4.1=true then
   R1 x4.2 x1 14
  else
   S0 [60] x4.2>>=fun x5=>
   if x5.1=true then
    R1 x5.2 x1 15
   else
    S0 [60,61] x5.2>>=fun x6=>
    if x6.1=true then
     R1 x6.2 x1 16
    else
     S0 [62] x6.2>>=fun x7=>
     if x7.1=true then
      R1 x7.2 x1 17
     else
      S0 [62,61] x7.2>>=fun x8=>
      if x8.1=true then
       R1 x8.2 x1 18
      else
       some (.ok (x1.1,x8.2))
 partial_fixpoint
def R1 (o0:D0)(x1:A0×D0)(op:Int):Option (Pn (A0×D0)):=
 Z7 o0>>=fun x3=>match x3 with
 | .pn nn=>
 some (.pn nn)
 | .ok x3=>
 some (.ok ((A0.mk op 0 [] [x1.1,x3.1]),x3.2))
 partial_fixpoint
def Z7 (parserParser:D0):Option (Pn (A0×D0)):=
 Uh parserParser>>=fun x1=>match x1 with
 | .pn nn=>
 some (.pn nn)
 | .ok x1=>
 some (.ok (x1.1,x1.2))
 partial_fixpoint
def Uh (parserParser:D0):Option (Pn (A0×D0)):=
 P6 parserParser>>=fun x1=>match x1 with
 | .pn nn=>
 some (.pn nn)
 | .ok x1=>
 X3 x1.2 x1.1
 partial_fixpoint
def X3 (o0:D0)(o3:A0):Option (Pn (A0×D0)):=
 Sd o0>>=fun x2=>
 if (!x2.2.1)=true then
  some (.ok (o3,x2.2.2))
 else
  P6 x2.2.2>>=fun x3=>match x3 with
  | .pn nn=>
  some (.pn nn)
  | .ok x3=>
  X3 x3.2 (A0.mk x2.1 0 [] [o3,x3.1])
 partial_fixpoint
def P6 (parserParser:D0):Option (Pn (A0×D0)):=
 Vh parserParser>>=fun x1=>match x1 with
 | .pn nn=>
 some (.pn nn)
 | .ok x1=>
 some (.ok (x1.1,x1.2))
 partial_fixpoint
def Vh (parserParser:D0):Option (Pn (A0×D0)):=
 M4 parserParser>>=fun x1=>match x1 with
 | .pn nn=>
 some (.pn nn)
 | .ok x1=>
 Y3 x1.2 x1.1
 partial_fixpoint
def Y3 (o0:D0)(o3:A0):Option (Pn (A0×D0)):=
 Ja o0>>=fun x2=>
 if (!x2.2.1)=true then
  some (.ok (o3,x2.2.2))
 else
  M4 x2.2.2>>=fun x3=>match x3 with
  | .pn nn=>
  some (.pn nn)
  | .ok x3=>
  Y3 x3.2 (A0.mk x2.1 0 [] [o3,x3.1])
 partial_fixpoint
def M4 (parserParser:D0):Option (Pn (A0×D0)):=
 S0 [45] parserParser>>=fun x1=>
 if x1.1=true then
  M4 x1.2>>=fun x4=>match x4 with
  | .pn nn=>
  some (.pn nn)
  | .ok x4=>
  some (.ok ((A0.mk 6 0 [] [x4.1]),x4.2))
 else
  S0 [33] x1.2>>=fun x2=>
  if x2.1=true then
   M4 x2.2>>=fun x5=>match x5 with
   | .pn nn=>
   some (.pn nn)
   | .ok x5=>
   some (.ok ((A0.mk 7 0 [] [x5.1]),x5.2))
  else
   Af x2.2>>=fun x3=>match x3 with
   | .pn nn=>
   some (.pn nn)
   | .ok x3=>
   some (.ok (x3.1,x3.2))
 partial_fixpoint
def Af (parserParser:D0):Option (Pn (A0×D0)):=
 G7 parserParser>>=fun x1=>
 if x1=true then
  Za parserParser>>=fun x2=>match x2 with
  | .pn nn=>
  some (.pn nn)
  | .ok x2=>
  some (.ok (x2.1,x2.2))
 else
  S0 [116,114,117,101] parserParser>>=fun x3=>
  if x3.1=true then
   some (.ok ((A0.mk 1 0 [] []),x3.2))
  else
   S0 [102,97,108,115,101] x3.2>>=fun x4=>
   if x4.1=true then
    some (.ok ((A0.mk 2 0 [] []),x4.2))
   else
    S0 [109,105,110] x4.2>>=fun x5=>
    if x5.1=true then
     Re 21 x5.2>>=fun x11=>match x11 with
     | .pn nn=>
     some (.pn nn)
     | .ok x11=>
     some (.ok (x11.1,x11.2))
    else
     S0 [109,97,120] x5.2>>=fun x6=>
     if x6.1=true then
      Re 22 x6.2>>=fun x12=>match x12 with
      | .pn nn=>
      some (.pn nn)
      | .ok x12=>
      some (.ok (x12.1,x12.2))
     else
      S0 [40] x6.2>>=fun x7=>
      if x7.1=true then
       G1 x7.2>>=fun x9=>match x9 with
       | .pn nn=>
       some (.pn nn)
       | .ok x9=>
       U0 [41] x9.2>>=fun x10=>match x10 with
       | .pn nn=>
       some (.pn nn)
       | .ok x10=>
       some (.ok (x9.1,x10))
      else
       H7 x7.2>>=fun x8=>match x8 with
       | .pn nn=>
       some (.pn nn)
       | .ok x8=>
       some (.ok ((A0.mk 0 x8.1 [] []),x8.2))
 partial_fixpoint
def Re (op:Int)(parserParser:D0):Option (Pn (A0×D0)):=
 U0 [40] parserParser>>=fun x1=>match x1 with
 | .pn nn=>
 some (.pn nn)
 | .ok x1=>
 G1 x1>>=fun x2=>match x2 with
 | .pn nn=>
 some (.pn nn)
 | .ok x2=>
 U0 [44] x2.2>>=fun x3=>match x3 with
 | .pn nn=>
 some (.pn nn)
 | .ok x3=>
 G1 x3>>=fun x4=>match x4 with
 | .pn nn=>
 some (.pn nn)
 | .ok x4=>
 U0 [41] x4.2>>=fun x5=>match x5 with
 | .pn nn=>
 some (.pn nn)
 | .ok x5=>
 some (.ok ((A0.mk op 0 [] [x2.1,x4.1]),x5))
 partial_fixpoint
def Za (parserParser:D0):Option (Pn (A0×D0)):=
 Y2 parserParser>>=fun x1=>match x1 with
 | .pn nn=>
 some (.pn nn)
 | .ok x1=>
 I6 x1.2 3 x1.1 []
 partial_fixpoint
def I6 (o0:D0)(o2_Op:Int)(o2_Name:Str)(o2_Kids:List A0):Option (Pn (A0×D0)):=
 S0 [46] o0>>=fun x2=>
 if x2.1=true then
  Y2 x2.2>>=fun x3=>match x3 with
  | .pn nn=>
  some (.pn nn)
  | .ok x3=>
  I6 x3.2 4 x3.1 [(A0.mk o2_Op 0 o2_Name o2_Kids)]
 else
  S0 [91] x2.2>>=fun x4=>
  if x4.1=true then
   G1 x4.2>>=fun x5=>match x5 with
   | .pn nn=>
   some (.pn nn)
   | .ok x5=>
   U0 [93] x5.2>>=fun x6=>match x6 with
   | .pn nn=>
   some (.pn nn)
   | .ok x6=>
   I6 x6 5 [] [(A0.mk o2_Op 0 o2_Name o2_Kids),x5.1]
  else
   some (.ok ((A0.mk o2_Op 0 o2_Name o2_Kids),x4.2))
 partial_fixpoint
end
abbrev Dk (parserParser:D0)(res:Pn (A0×D0)):Prop:=C2 C 30 [.ref 0 0] [.row (D0.cells parserParser) 99] (F4 res (fun rr=>[.row (D0.cells rr.2) 99]) (fun rr=>.agg (A0.cells rr.1))) (D4 res B3 [.dead])
abbrev R15 (parserParser:D0)(res:Pn (A0×D0)):Prop:=C2 C 60 [.ref 0 0] [.row (D0.cells parserParser) 99] (F4 res (fun rr=>[.row (D0.cells rr.2) 99]) (fun rr=>.agg (A0.cells rr.1))) (D4 res B3 [.dead])
abbrev Yz (parserParser:D0)(res:Pn (A0×D0)):Prop:=C2 C 110 [.ref 0 0,.bnd 111 [.ref 0 0],.clo 112 [.ref 1 0]] [.row (D0.cells parserParser) 99,.row [.ref 0 0] 68] (F4 res (fun rr=>[.row (D0.cells rr.2) 99,.row [.ref 0 0] 68]) (fun rr=>.agg (A0.cells rr.1))) (D4 res B3 [.dead,.row [.ref 0 0] 68])
abbrev Sv (o0:D0)(o3:A0)(res:Pn (A0×D0)):Prop:=LMp C 26 2 Tryz.f110 [1,1,4] [(1,.bnd 111 [.ref 0 0]),(2,.clo 112 [.ref 1 0]),(6,.ref 2 0),(7,.ref 3 0)] [.row (D0.cells o0) 99,.row [.ref 0 0] 68,.row [.d (.int .i64 0),.d (.int .i64 0),.d (.str []),.full (A0.rows [])] 26,.row (A0.cells o3) 26] (F4 res (fun rr=>[.row (D0.cells rr.2) 99,.row [.ref 0 0] 68]) (fun rr=>.agg (A0.cells rr.1))) (D4 res B3 [.dead,.row [.ref 0 0] 68])
abbrev S13 (parserParser:D0)(res:Pn (A0×D0)):Prop:=C2 C 111 [.ref 0 0] [.row (D0.cells parserParser) 99] (F4 res (fun rr=>[.row (D0.cells rr.2) 99]) (fun rr=>.agg (A0.cells rr.1))) (D4 res B3 [.dead])
abbrev Tv (parserParser:D0)(res:Pn (A0×D0)):Prop:=C2 C 110 [.ref 0 0,.bnd 166 [.ref 0 0],.clo 167 [.ref 1 0]] [.row (D0.cells parserParser) 99,.row [.ref 0 0] 68] (F4 res (fun rr=>[.row (D0.cells rr.2) 99,.row [.ref 0 0] 68]) (fun rr=>.agg (A0.cells rr.1))) (D4 res B3 [.dead,.row [.ref 0 0] 68])
abbrev Qs (o0:D0)(o3:A0)(res:Pn (A0×D0)):Prop:=LMp C 26 2 Tryz.f110 [1,1,4] [(1,.bnd 166 [.ref 0 0]),(2,.clo 167 [.ref 1 0]),(6,.ref 2 0),(7,.ref 3 0)] [.row (D0.cells o0) 99,.row [.ref 0 0] 68,.row [.d (.int .i64 0),.d (.int .i64 0),.d (.str []),.full (A0.rows [])] 26,.row (A0.cells o3) 26] (F4 res (fun rr=>[.row (D0.cells rr.2) 99,.row [.ref 0 0] 68]) (fun rr=>.agg (A0.cells rr.1))) (D4 res B3 [.dead,.row [.ref 0 0] 68])
abbrev Pt (parserParser:D0)(res:Pn (A0×D0)):Prop:=C2 C 166 [.ref 0 0] [.row (D0.cells parserParser) 99] (F4 res (fun rr=>[.row (D0.cells rr.2) 99]) (fun rr=>.agg (A0.cells rr.1))) (D4 res B3 [.dead])
abbrev Wp (o0:D0)(x1:A0×D0)(op:Int)(res:Pn (A0×D0)):Prop:=JMp C 32 1 Tryz.f166 [1,1,1,1] [(0,.ref 0 0),(2,.ref 1 0),(3,.ref 2 0),(4,.d (.int .i64 op))] [.row (D0.cells o0) 99,.row [.d (.int .i64 0),.d (.int .i64 0),.d (.str []),.full (A0.rows [])] 26,.row (A0.cells x1.1) 26] (F4 res (fun rr=>[.row (D0.cells rr.2) 99]) (fun rr=>.agg (A0.cells rr.1))) (D4 res B3 [.dead])
abbrev T13 (parserParser:D0)(res:Pn (A0×D0)):Prop:=C2 C 189 [.ref 0 0] [.row (D0.cells parserParser) 99] (F4 res (fun rr=>[.row (D0.cells rr.2) 99]) (fun rr=>.agg (A0.cells rr.1))) (D4 res B3 [.dead])
abbrev Uv (parserParser:D0)(res:Pn (A0×D0)):Prop:=C2 C 110 [.ref 0 0,.bnd 203 [.ref 0 0],.clo 204 [.ref 1 0]] [.row (D0.cells parserParser) 99,.row [.ref 0 0] 68] (F4 res (fun rr=>[.row (D0.cells rr.2) 99,.row [.ref 0 0] 68]) (fun rr=>.agg (A0.cells rr.1))) (D4 res B3 [.dead,.row [.ref 0 0] 68])
abbrev Rs (o0:D0)(o3:A0)(res:Pn (A0×D0)):Prop:=LMp C 26 2 Tryz.f110 [1,1,4] [(1,.bnd 203 [.ref 0 0]),(2,.clo 204 [.ref 1 0]),(6,.ref 2 0),(7,.ref 3 0)] [.row (D0.cells o0) 99,.row [.ref 0 0] 68,.row [.d (.int .i64 0),.d (.int .i64 0),.d (.str []),.full (A0.rows [])] 26,.row (A0.cells o3) 26] (F4 res (fun rr=>[.row (D0.cells rr.2) 99,.row [.ref 0 0] 68]) (fun rr=>.agg (A0.cells rr.1))) (D4 res B3 [.dead,.row [.ref 0 0] 68])
abbrev Ix (parserParser:D0)(res:Pn (A0×D0)):Prop:=C2 C 203 [.ref 0 0] [.row (D0.cells parserParser) 99] (F4 res (fun rr=>[.row (D0.cells rr.2) 99]) (fun rr=>.agg (A0.cells rr.1))) (D4 res B3 [.dead])
abbrev Vv (parserParser:D0)(res:Pn (A0×D0)):Prop:=C2 C 110 [.ref 0 0,.bnd 214 [.ref 0 0],.clo 215 [.ref 1 0]] [.row (D0.cells parserParser) 99,.row [.ref 0 0] 68] (F4 res (fun rr=>[.row (D0.cells rr.2) 99,.row [.ref 0 0] 68]) (fun rr=>.agg (A0.cells rr.1))) (D4 res B3 [.dead,.row [.ref 0 0] 68])
abbrev Ss (o0:D0)(o3:A0)(res:Pn (A0×D0)):Prop:=LMp C 26 2 Tryz.f110 [1,1,4] [(1,.bnd 214 [.ref 0 0]),(2,.clo 215 [.ref 1 0]),(6,.ref 2 0),(7,.ref 3 0)] [.row (D0.cells o0) 99,.row [.ref 0 0] 68,.row [.d (.int .i64 0),.d (.int .i64 0),.d (.str []),.full (A0.rows [])] 26,.row (A0.cells o3) 26] (F4 res (fun rr=>[.row (D0.cells rr.2) 99,.row [.ref 0 0] 68]) (fun rr=>.agg (A0.cells rr.1))) (D4 res B3 [.dead,.row [.ref 0 0] 68])
abbrev Zz (parserParser:D0)(res:Pn (A0×D0)):Prop:=C2 C 214 [.ref 0 0] [.row (D0.cells parserParser) 99] (F4 res (fun rr=>[.row (D0.cells rr.2) 99]) (fun rr=>.agg (A0.cells rr.1))) (D4 res B3 [.dead])
abbrev Jx (parserParser:D0)(res:Pn (A0×D0)):Prop:=C2 C 223 [.ref 0 0] [.row (D0.cells parserParser) 99] (F4 res (fun rr=>[.row (D0.cells rr.2) 99]) (fun rr=>.agg (A0.cells rr.1))) (D4 res B3 [.dead])
abbrev N11 (op:Int)(parserParser:D0)(res:Pn (A0×D0)):Prop:=C2 C 228 [.ref 0 0,.d (.int .i64 op)] [.row (D0.cells parserParser) 99] (F4 res (fun rr=>[.row (D0.cells rr.2) 99]) (fun rr=>.agg (A0.cells rr.1))) (D4 res B3 [.dead])
abbrev Do (parserParser:D0)(res:Pn (A0×D0)):Prop:=C2 C 195 [.ref 0 0] [.row (D0.cells parserParser) 99] (F4 res (fun rr=>[.row (D0.cells rr.2) 99]) (fun rr=>.agg (A0.cells rr.1))) (D4 res B3 [.dead])
abbrev Wv (o0:D0)(o2_Op:Int)(o2_Name:Str)(o2_Kids:List A0)(res:Pn (A0×D0)):Prop:=LMp C 28 1 Tryz.f195 [1,1,4] [(0,.ref 0 0),(2,.ref 1 0),(3,.ref 2 0)] [.row (D0.cells o0) 99,.row [.d (.int .i64 0),.d (.int .i64 0),.d (.str []),.full (A0.rows [])] 26,.row [.d (.int .i64 o2_Op),.d (.int .i64 0),.d (.str o2_Name),.d (.sl (A0.rows o2_Kids))] 26] (F4 res (fun rr=>[.row (D0.cells rr.2) 99]) (fun rr=>.agg (A0.cells rr.1))) (D4 res B3 [.dead])
theorem Li:(∀ parserParser res,G1 parserParser=some res→Dk parserParser res)∧(∀ parserParser res,Be parserParser=some res→R15 parserParser res)∧(∀ parserParser res,Zk parserParser=some res→Yz parserParser res)∧(∀ o0 o3 res,Z4 o0 o3=some res→Sv o0 o3 res)∧(∀ parserParser res,Ka parserParser=some res→S13 parserParser res)∧(∀ parserParser res,Th parserParser=some res→Tv parserParser res)∧(∀ o0 o3 res,W3 o0 o3=some res→Qs o0 o3 res)∧(∀ parserParser res,K5 parserParser=some res→Pt parserParser res)∧(∀ o0 x1 op res,R1 o0 x1 op=some res→Wp o0 x1 op res)∧(∀ parserParser res,Z7 parserParser=some res→T13 parserParser res)∧(∀ parserParser res,Uh parserParser=some res→Uv parserParser res)∧(∀ o0 o3 res,X3 o0 o3=some res→Rs o0 o3 res)∧(∀ parserParser res,P6 parserParser=some res→Ix parserParser res)∧(∀ parserParser res,Vh parserParser=some res→Vv parserParser res)∧(∀ o0 o3 res,Y3 o0 o3=some res→Ss o0 o3 res)∧(∀ parserParser res,M4 parserParser=some res→Zz parserParser res)∧(∀ parserParser res,Af parserParser=some res→Jx parserParser res)∧(∀ op parserParser res,Re op parserParser=some res→N11 op parserParser res)∧(∀ parserParser res,Za parserParser=some res→Do parserParser res)∧(∀ o0 o2_Op o2_Name o2_Kids res,I6 o0 o2_Op o2_Name o2_Kids=some res→Wv o0 o2_Op o2_Name o2_Kids res):=by
 refine G1.mutual_partial_correctness _ _ _ _ _ _ _ _ _ _ _ _ _ _ _ _ _ _ _ _ ?_ ?_ ?_ ?_ ?_ ?_ ?_ ?_ ?_ ?_ ?_ ?_ ?_ ?_ ?_ ?_ ?_ ?_ ?_ ?_
 ·intro g0 g1 ih0 ih1 parserParser res hh
  refine C2.intro hC Tryz.func30 rfl rfl rfl (s' rfl rfl (F0.nf hC rfl (n' (p' 1 rfl ?_))))
  rcases bp' hh with ⟨nn,hx1,⟨⟩⟩ | ⟨x1,hx1,hh⟩
  ·exact gr [0] (ih1 _ _ hx1) rfl (peW ⟨trivial,trivial⟩ rfl)
  obtain ⟨x2,hx2,hh⟩:=bs' hh
  refine gq [0] ((ih1 _ _ hx1).ok) rfl (F0.nf hC rfl (F0.s hC rfl (n' (S' (p' 1 rfl (gq [0] (T0 hx2) rfl (e' rfl (ci' rfl hh (fun hh=>?_) (fun hh=>?_)))))))))
  ·cases hh
   exact p' 1 rfl (F0.s hC rfl (n' (re' (rq rfl))))
  refine sk' (p' 1 rfl ?_)
  rcases bp' hh with ⟨nn,hx3,⟨⟩⟩ | ⟨x3,hx3,hh⟩
  ·exact gr [0] (ih0 _ _ hx3) rfl (peW ⟨trivial,trivial⟩ rfl)
  refine gq [0] ((ih0 _ _ hx3).ok) rfl (F0.nf hC rfl (F0.s hC rfl (n' (p' 1 rfl ?_))))
  rcases bp' hh with ⟨nn,hx4,⟨⟩⟩ | ⟨x4,hx4,hh⟩
  ·exact gr [0] (J0 hx4) rfl (peW ⟨trivial,trivial⟩ rfl)
  refine gq [0] ((J0 hx4).ok) rfl (n' (S' ?_))
  rcases bp' hh with ⟨nn,hx5,⟨⟩⟩ | ⟨x5,hx5,hh⟩
  ·refine AEx.drawE hC ?_
   refine W0.step rfl (j0:=0) (js:=[1,2]) (by kernel_rfl) ⟨⟨_,rfl,?_⟩,⟨_,rfl,?_⟩,⟨_,rfl,?_⟩,trivial⟩
   ·refine e' rfl ?_
    refine st2 1 2 rfl (by kernel_rfl) rfl rfl ?_ ?_
    ·refine e' rfl ?_
     refine st1 2 rfl (by kernel_rfl) rfl ?_
     refine e' rfl ?_
     refine st1 3 rfl (by kernel_rfl) rfl ?_
     exact gr [0] (ih0 _ _ hx5) rfl (peW ⟨trivial,trivial⟩ rfl)
    ·refine e' rfl ?_
     refine st2 1 3 rfl (by kernel_rfl) rfl rfl ?_ ?_
     ·refine e' rfl ?_
      refine st1 3 rfl (by kernel_rfl) rfl ?_
      exact gr [0] (ih0 _ _ hx5) rfl (peW ⟨trivial,trivial⟩ rfl)
     ·exact gr [0] (ih0 _ _ hx5) rfl (peW ⟨trivial,trivial⟩ rfl)
   ·refine e' rfl ?_
    refine st2 0 2 rfl (by kernel_rfl) rfl rfl ?_ ?_
    ·refine e' rfl ?_
     refine st1 2 rfl (by kernel_rfl) rfl ?_
     refine e' rfl ?_
     refine st1 3 rfl (by kernel_rfl) rfl ?_
     exact gr [0] (ih0 _ _ hx5) rfl (peW ⟨trivial,trivial⟩ rfl)
    ·refine e' rfl ?_
     refine st2 0 3 rfl (by kernel_rfl) rfl rfl ?_ ?_
     ·refine e' rfl ?_
      refine st1 3 rfl (by kernel_rfl) rfl ?_
      exact gr [0] (ih0 _ _ hx5) rfl (peW ⟨trivial,trivial⟩ rfl)
     ·exact gr [0] (ih0 _ _ hx5) rfl (peW ⟨trivial,trivial⟩ rfl)
   ·refine e' rfl ?_
    refine W0.step rfl (j0:=0) (js:=[1,3]) (by kernel_rfl) ⟨⟨_,rfl,?_⟩,⟨_,rfl,?_⟩,⟨_,rfl,?_⟩,trivial⟩
    ·refine e' rfl ?_
     refine st2 1 3 rfl (by kernel_rfl) rfl rfl ?_ ?_
     ·refine e' rfl ?_
      refine st1 3 rfl (by kernel_rfl) rfl ?_
      exact gr [0] (ih0 _ _ hx5) rfl (peW ⟨trivial,trivial⟩ rfl)
     ·exact gr [0] (ih0 _ _ hx5) rfl (peW ⟨trivial,trivial⟩ rfl)
    ·refine e' rfl ?_
     refine st2 0 3 rfl (by kernel_rfl) rfl rfl ?_ ?_
     ·refine e' rfl ?_
      refine st1 3 rfl (by kernel_rfl) rfl ?_
      exact gr [0] (ih0 _ _ hx5) rfl (peW ⟨trivial,trivial⟩ rfl)
     ·exact gr [0] (ih0 _ _ hx5) rfl (peW ⟨trivial,trivial⟩ rfl)
    ·exact gr [0] (ih0 _ _ hx5) rfl (peW ⟨trivial,trivial⟩ rfl)
  refine AEx.drawE hC ?_
  refine W0.step rfl (j0:=0) (js:=[1,2]) (by kernel_rfl) ⟨⟨_,rfl,?_⟩,⟨_,rfl,?_⟩,⟨_,rfl,?_⟩,trivial⟩
  ·refine e' rfl ?_
   refine st2 1 2 rfl (by kernel_rfl) rfl rfl ?_ ?_
   ·refine e' rfl ?_
    refine st1 2 rfl (by kernel_rfl) rfl ?_
    refine e' rfl ?_
    refine st1 3 rfl (by kernel_rfl) rfl ?_
    refine gq [0] ((ih0 _ _ hx5).ok) rfl (n' ?_)
    refine st1 4 rfl (by kernel_rfl) rfl ?_
    refine F0.be hC rfl (A0.rows_map [x1.1,x3.1,x5.1]).symm (n' ?_)
    refine st1 5 rfl (by kernel_rfl) rfl ?_
    refine e' rfl ?_
    refine st1 6 rfl (by kernel_rfl) rfl ?_
    refine F0.s hC rfl (n' (W0.nil (by kernel_rfl) (re' ?_)))
    obtain rfl:=oi' hh
    exact ⟨_,.agg [.d (.int .i64 23),.d (.int .i64 0),.d (.str []),.d (.sl (A0.rows [x1.1,x3.1,x5.1]))],[.row (D0.cells x5.2) 99],rfl,(.aggL ⟨.rfl,.rfl,.rfl,.full,trivial⟩),⟨⟨rfl,.refl _,rfl⟩,trivial⟩,rfl,rfl,rpq rfl rfl⟩
   ·refine e' rfl ?_
    refine st2 1 3 rfl (by kernel_rfl) rfl rfl ?_ ?_
    ·refine e' rfl ?_
     refine st1 3 rfl (by kernel_rfl) rfl ?_
     refine gq [0] ((ih0 _ _ hx5).ok) rfl (n' ?_)
     refine st1 4 rfl (by kernel_rfl) rfl ?_
     refine F0.be hC rfl (A0.rows_map [x1.1,x3.1,x5.1]).symm (n' ?_)
     refine st1 5 rfl (by kernel_rfl) rfl ?_
     refine e' rfl ?_
     refine st1 6 rfl (by kernel_rfl) rfl ?_
     refine F0.s hC rfl (n' (W0.nil (by kernel_rfl) (re' ?_)))
     obtain rfl:=oi' hh
     exact ⟨_,.agg [.d (.int .i64 23),.d (.int .i64 0),.d (.str []),.d (.sl (A0.rows [x1.1,x3.1,x5.1]))],[.row (D0.cells x5.2) 99],rfl,(.aggL ⟨.rfl,.rfl,.rfl,.full,trivial⟩),⟨⟨rfl,.refl _,rfl⟩,trivial⟩,rfl,rfl,rpq rfl rfl⟩
    ·refine gq [0] ((ih0 _ _ hx5).ok) rfl (n' ?_)
     refine st1 1 rfl (by kernel_rfl) rfl ?_
     refine e' rfl ?_
     refine st1 4 rfl (by kernel_rfl) rfl ?_
     refine F0.be hC rfl (A0.rows_map [x1.1,x3.1,x5.1]).symm (n' ?_)
     refine st1 5 rfl (by kernel_rfl) rfl ?_
     refine e' rfl ?_
     refine st1 6 rfl (by kernel_rfl) rfl ?_
     refine F0.s hC rfl (n' (W0.nil (by kernel_rfl) (re' ?_)))
     obtain rfl:=oi' hh
     exact ⟨_,.agg [.d (.int .i64 23),.d (.int .i64 0),.d (.str []),.d (.sl (A0.rows [x1.1,x3.1,x5.1]))],[.row (D0.cells x5.2) 99],rfl,(.aggL ⟨.rfl,.rfl,.rfl,.full,trivial⟩),⟨⟨rfl,.refl _,rfl⟩,trivial⟩,rfl,rfl,rpq rfl rfl⟩
  ·refine e' rfl ?_
   refine st2 0 2 rfl (by kernel_rfl) rfl rfl ?_ ?_
   ·refine e' rfl ?_
    refine st1 2 rfl (by kernel_rfl) rfl ?_
    refine e' rfl ?_
    refine st1 3 rfl (by kernel_rfl) rfl ?_
    refine gq [0] ((ih0 _ _ hx5).ok) rfl (n' ?_)
    refine st1 4 rfl (by kernel_rfl) rfl ?_
    refine F0.be hC rfl (A0.rows_map [x1.1,x3.1,x5.1]).symm (n' ?_)
    refine st1 5 rfl (by kernel_rfl) rfl ?_
    refine e' rfl ?_
    refine st1 6 rfl (by kernel_rfl) rfl ?_
    refine F0.s hC rfl (n' (W0.nil (by kernel_rfl) (re' ?_)))
    obtain rfl:=oi' hh
    exact ⟨_,.agg [.d (.int .i64 23),.d (.int .i64 0),.d (.str []),.d (.sl (A0.rows [x1.1,x3.1,x5.1]))],[.row (D0.cells x5.2) 99],rfl,(.aggL ⟨.rfl,.rfl,.rfl,.full,trivial⟩),⟨⟨rfl,.refl _,rfl⟩,trivial⟩,rfl,rfl,rpq rfl rfl⟩
   ·refine e' rfl ?_
    refine st2 0 3 rfl (by kernel_rfl) rfl rfl ?_ ?_
    ·refine e' rfl ?_
     refine st1 3 rfl (by kernel_rfl) rfl ?_
     refine gq [0] ((ih0 _ _ hx5).ok) rfl (n' ?_)
     refine st1 4 rfl (by kernel_rfl) rfl ?_
     refine F0.be hC rfl (A0.rows_map [x1.1,x3.1,x5.1]).symm (n' ?_)
     refine st1 5 rfl (by kernel_rfl) rfl ?_
     refine e' rfl ?_
     refine st1 6 rfl (by kernel_rfl) rfl ?_
     refine F0.s hC rfl (n' (W0.nil (by kernel_rfl) (re' ?_)))
     obtain rfl:=oi' hh
     exact ⟨_,.agg [.d (.int .i64 23),.d (.int .i64 0),.d (.str []),.d (.sl (A0.rows [x1.1,x3.1,x5.1]))],[.row (D0.cells x5.2) 99],rfl,(.aggL ⟨.rfl,.rfl,.rfl,.full,trivial⟩),⟨⟨rfl,.refl _,rfl⟩,trivial⟩,rfl,rfl,rpq rfl rfl⟩
    ·refine gq [0] ((ih0 _ _ hx5).ok) rfl (n' ?_)
     refine st1 0 rfl (by kernel_rfl) rfl ?_
     refine e' rfl ?_
     refine st1 4 rfl (by kernel_rfl) rfl ?_
     refine F0.be hC rfl (A0.rows_map [x1.1,x3.1,x5.1]).symm (n' ?_)
     refine st1 5 rfl (by kernel_rfl) rfl ?_
     refine e' rfl ?_
     refine st1 6 rfl (by kernel_rfl) rfl ?_
     refine F0.s hC rfl (n' (W0.nil (by kernel_rfl) (re' ?_)))
     obtain rfl:=oi' hh
     exact ⟨_,.agg [.d (.int .i64 23),.d (.int .i64 0),.d (.str []),.d (.sl (A0.rows [x1.1,x3.1,x5.1]))],[.row (D0.cells x5.2) 99],rfl,(.aggL ⟨.rfl,.rfl,.rfl,.full,trivial⟩),⟨⟨rfl,.refl _,rfl⟩,trivial⟩,rfl,rfl,rpq rfl rfl⟩
  ·refine e' rfl ?_
   refine W0.step rfl (j0:=0) (js:=[1,3]) (by kernel_rfl) ⟨⟨_,rfl,?_⟩,⟨_,rfl,?_⟩,⟨_,rfl,?_⟩,trivial⟩
   ·refine e' rfl ?_
    refine st2 1 3 rfl (by kernel_rfl) rfl rfl ?_ ?_
    ·refine e' rfl ?_
     refine st1 3 rfl (by kernel_rfl) rfl ?_
     refine gq [0] ((ih0 _ _ hx5).ok) rfl (n' ?_)
     refine st1 4 rfl (by kernel_rfl) rfl ?_
     refine F0.be hC rfl (A0.rows_map [x1.1,x3.1,x5.1]).symm (n' ?_)
     refine st1 5 rfl (by kernel_rfl) rfl ?_
     refine e' rfl ?_
     refine st1 6 rfl (by kernel_rfl) rfl ?_
     refine F0.s hC rfl (n' (W0.nil (by kernel_rfl) (re' ?_)))
     obtain rfl:=oi' hh
     exact ⟨_,.agg [.d (.int .i64 23),.d (.int .i64 0),.d (.str []),.d (.sl (A0.rows [x1.1,x3.1,x5.1]))],[.row (D0.cells x5.2) 99],rfl,(.aggL ⟨.rfl,.rfl,.rfl,.full,trivial⟩),⟨⟨rfl,.refl _,rfl⟩,trivial⟩,rfl,rfl,rpq rfl rfl⟩
    ·refine gq [0] ((ih0 _ _ hx5).ok) rfl (n' ?_)
     refine st1 1 rfl (by kernel_rfl) rfl ?_
     refine e' rfl ?_
     refine st1 4 rfl (by kernel_rfl) rfl ?_
     refine F0.be hC rfl (A0.rows_map [x1.1,x3.1,x5.1]).symm (n' ?_)
     refine st1 5 rfl (by kernel_rfl) rfl ?_
     refine e' rfl ?_
     refine st1 6 rfl (by kernel_rfl) rfl ?_
     refine F0.s hC rfl (n' (W0.nil (by kernel_rfl) (re' ?_)))
     obtain rfl:=oi' hh
     exact ⟨_,.agg [.d (.int .i64 23),.d (.int .i64 0),.d (.str []),.d (.sl (A0.rows [x1.1,x3.1,x5.1]))],[.row (D0.cells x5.2) 99],rfl,(.aggL ⟨.rfl,.rfl,.rfl,.full,trivial⟩),⟨⟨rfl,.refl _,rfl⟩,trivial⟩,rfl,rfl,rpq rfl rfl⟩
   ·refine e' rfl ?_
    refine st2 0 3 rfl (by kernel_rfl) rfl rfl ?_ ?_
    ·refine e' rfl ?_
     refine st1 3 rfl (by kernel_rfl) rfl ?_
     refine gq [0] ((ih0 _ _ hx5).ok) rfl (n' ?_)
     refine st1 4 rfl (by kernel_rfl) rfl ?_
     refine F0.be hC rfl (A0.rows_map [x1.1,x3.1,x5.1]).symm (n' ?_)
     refine st1 5 rfl (by kernel_rfl) rfl ?_
     refine e' rfl ?_
     refine st1 6 rfl (by kernel_rfl) rfl ?_
     refine F0.s hC rfl (n' (W0.nil (by kernel_rfl) (re' ?_)))
     obtain rfl:=oi' hh
     exact ⟨_,.agg [.d (.int .i64 23),.d (.int .i64 0),.d (.str []),.d (.sl (A0.rows [x1.1,x3.1,x5.1]))],[.row (D0.cells x5.2) 99],rfl,(.aggL ⟨.rfl,.rfl,.rfl,.full,trivial⟩),⟨⟨rfl,.refl _,rfl⟩,trivial⟩,rfl,rfl,rpq rfl rfl⟩
    ·refine gq [0] ((ih0 _ _ hx5).ok) rfl (n' ?_)
     refine st1 0 rfl (by kernel_rfl) rfl ?_
     refine e' rfl ?_
     refine st1 4 rfl (by kernel_rfl) rfl ?_
     refine F0.be hC rfl (A0.rows_map [x1.1,x3.1,x5.1]).symm (n' ?_)
     refine st1 5 rfl (by kernel_rfl) rfl ?_
     refine e' rfl ?_
     refine st1 6 rfl (by kernel_rfl) rfl ?_
     refine F0.s hC rfl (n' (W0.nil (by kernel_rfl) (re' ?_)))
     obtain rfl:=oi' hh
     exact ⟨_,.agg [.d (.int .i64 23),.d (.int .i64 0),.d (.str []),.d (.sl (A0.rows [x1.1,x3.1,x5.1]))],[.row (D0.cells x5.2) 99],rfl,(.aggL ⟨.rfl,.rfl,.rfl,.full,trivial⟩),⟨⟨rfl,.refl _,rfl⟩,trivial⟩,rfl,rfl,rpq rfl rfl⟩
   ·refine gq [0] ((ih0 _ _ hx5).ok) rfl (n' ?_)
    refine st2 0 1 rfl (by kernel_rfl) rfl rfl ?_ ?_
    ·refine e' rfl ?_
     refine st1 1 rfl (by kernel_rfl) rfl ?_
     refine e' rfl ?_
     refine st1 4 rfl (by kernel_rfl) rfl ?_
     refine F0.be hC rfl (A0.rows_map [x1.1,x3.1,x5.1]).symm (n' ?_)
     refine st1 5 rfl (by kernel_rfl) rfl ?_
     refine e' rfl ?_
     refine st1 6 rfl (by kernel_rfl) rfl ?_
     refine F0.s hC rfl (n' (W0.nil (by kernel_rfl) (re' ?_)))
     obtain rfl:=oi' hh
     exact ⟨_,.agg [.d (.int .i64 23),.d (.int .i64 0),.d (.str []),.d (.sl (A0.rows [x1.1,x3.1,x5.1]))],[.row (D0.cells x5.2) 99],rfl,(.aggL ⟨.rfl,.rfl,.rfl,.full,trivial⟩),⟨⟨rfl,.refl _,rfl⟩,trivial⟩,rfl,rfl,rpq rfl rfl⟩
    ·refine e' rfl ?_
     refine st1 0 rfl (by kernel_rfl) rfl ?_
     refine e' rfl ?_
     refine st1 4 rfl (by kernel_rfl) rfl ?_
     refine F0.be hC rfl (A0.rows_map [x1.1,x3.1,x5.1]).symm (n' ?_)
     refine st1 5 rfl (by kernel_rfl) rfl ?_
     refine e' rfl ?_
     refine st1 6 rfl (by kernel_rfl) rfl ?_
     refine F0.s hC rfl (n' (W0.nil (by kernel_rfl) (re' ?_)))
     obtain rfl:=oi' hh
     exact ⟨_,.agg [.d (.int .i64 23),.d (.int .i64 0),.d (.str []),.d (.sl (A0.rows [x1.1,x3.1,x5.1]))],[.row (D0.cells x5.2) 99],rfl,(.aggL ⟨.rfl,.rfl,.rfl,.full,trivial⟩),⟨⟨rfl,.refl _,rfl⟩,trivial⟩,rfl,rfl,rpq rfl rfl⟩
 ·intro g2 ih2 parserParser res hh
  refine C2.intro hC Tryz.func60 rfl rfl rfl (s' rfl rfl (F0.n hC rfl (F0.nf hC rfl (n' (p' 4 rfl ?_)))))
  rcases bp' hh with ⟨nn,hx1,⟨⟩⟩ | ⟨x1,hx1,hh⟩
  ·exact gr [0,1] (ih2 _ _ hx1) rfl (peW ⟨trivial,trivial⟩ rfl)
  cases hh
  exact gq [0,1] ((ih2 _ _ hx1).ok) rfl (F0.s hC rfl (n' (re' (rq rfl))))
 ·intro g3 g4 ih3 ih4 parserParser res hh
  refine C2.intro hC Tryz.func110 rfl rfl rfl (s' rfl rfl (F0.nf hC rfl (n' (p' 1 rfl ?_))))
  rcases bp' hh with ⟨nn,hx1,⟨⟩⟩ | ⟨x1,hx1,hh⟩
  ·exact gr [0] (ih4 _ _ hx1) rfl (fun hi=>peW ⟨trivial,⟨rfl,.refl _,rfl⟩,trivial⟩ rfl hi)
  exact gq [0] ((ih4 _ _ hx1).ok) rfl (F0.nf hC rfl (F0.s hC rfl (n' (bk' (fq (ih3 _ _ _ hh) rfl)))))
 ·intro g3 g4 ih3 ih4 o0 o3 res hh
  obtain ⟨x2,hx2,hh⟩:=bs' hh
  refine X0.unroll (bk' (p' 1 rfl (gq [1,0] (Xz hx2) rfl (e' rfl (S' (t' rfl (ci' rfl hh (fun hh=>?_) (fun hh=>?_))))))))
  ·cases hh
   exact p' 1 rfl (F0.s hC rfl (n' (re' (rq rfl))))
  refine sk' ?_
  rcases bp' hh with ⟨nn,hx3,⟨⟩⟩ | ⟨x3,hx3,hh⟩
  ·refine AEx.drawE hC ?_
   refine W0.step rfl (j0:=0) (js:=[1,2]) (by kernel_rfl) ⟨⟨_,rfl,?_⟩,⟨_,rfl,?_⟩,⟨_,rfl,?_⟩,trivial⟩
   ·refine e' rfl ?_
    refine st2 1 2 rfl (by kernel_rfl) rfl rfl ?_ ?_
    ·refine e' rfl ?_
     refine st1 2 rfl (by kernel_rfl) rfl ?_
     refine e' rfl ?_
     refine st1 3 rfl (by kernel_rfl) rfl ?_
     exact gr [0] (ih4 _ _ hx3) rfl (fun hi=>peW ⟨trivial,⟨rfl,.refl _,rfl⟩,trivial⟩ rfl hi)
    ·refine e' rfl ?_
     refine st2 1 3 rfl (by kernel_rfl) rfl rfl ?_ ?_
     ·refine e' rfl ?_
      refine st1 3 rfl (by kernel_rfl) rfl ?_
      exact gr [0] (ih4 _ _ hx3) rfl (fun hi=>peW ⟨trivial,⟨rfl,.refl _,rfl⟩,trivial⟩ rfl hi)
     ·exact gr [0] (ih4 _ _ hx3) rfl (fun hi=>peW ⟨trivial,⟨rfl,.refl _,rfl⟩,trivial⟩ rfl hi)
   ·refine e' rfl ?_
    refine st2 0 2 rfl (by kernel_rfl) rfl rfl ?_ ?_
    ·refine e' rfl ?_
     refine st1 2 rfl (by kernel_rfl) rfl ?_
     refine e' rfl ?_
     refine st1 3 rfl (by kernel_rfl) rfl ?_
     exact gr [0] (ih4 _ _ hx3) rfl (fun hi=>peW ⟨trivial,⟨rfl,.refl _,rfl⟩,trivial⟩ rfl hi)
    ·refine e' rfl ?_
     refine st2 0 3 rfl (by kernel_rfl) rfl rfl ?_ ?_
     ·refine e' rfl ?_
      refine st1 3 rfl (by kernel_rfl) rfl ?_
      exact gr [0] (ih4 _ _ hx3) rfl (fun hi=>peW ⟨trivial,⟨rfl,.refl _,rfl⟩,trivial⟩ rfl hi)
     ·exact gr [0] (ih4 _ _ hx3) rfl (fun hi=>peW ⟨trivial,⟨rfl,.refl _,rfl⟩,trivial⟩ rfl hi)
   ·refine e' rfl ?_
    refine W0.step rfl (j0:=0) (js:=[1,3]) (by kernel_rfl) ⟨⟨_,rfl,?_⟩,⟨_,rfl,?_⟩,⟨_,rfl,?_⟩,trivial⟩
    ·refine e' rfl ?_
     refine st2 1 3 rfl (by kernel_rfl) rfl rfl ?_ ?_
     ·refine e' rfl ?_
      refine st1 3 rfl (by kernel_rfl) rfl ?_
      exact gr [0] (ih4 _ _ hx3) rfl (fun hi=>peW ⟨trivial,⟨rfl,.refl _,rfl⟩,trivial⟩ rfl hi)
     ·exact gr [0] (ih4 _ _ hx3) rfl (fun hi=>peW ⟨trivial,⟨rfl,.refl _,rfl⟩,trivial⟩ rfl hi)
    ·refine e' rfl ?_
     refine st2 0 3 rfl (by kernel_rfl) rfl rfl ?_ ?_
     ·refine e' rfl ?_
      refine st1 3 rfl (by kernel_rfl) rfl ?_
      exact gr [0] (ih4 _ _ hx3) rfl (fun hi=>peW ⟨trivial,⟨rfl,.refl _,rfl⟩,trivial⟩ rfl hi)
     ·exact gr [0] (ih4 _ _ hx3) rfl (fun hi=>peW ⟨trivial,⟨rfl,.refl _,rfl⟩,trivial⟩ rfl hi)
    ·exact gr [0] (ih4 _ _ hx3) rfl (fun hi=>peW ⟨trivial,⟨rfl,.refl _,rfl⟩,trivial⟩ rfl hi)
  refine AEx.drawE hC ?_
  refine W0.step rfl (j0:=0) (js:=[1,2]) (by kernel_rfl) ⟨⟨_,rfl,?_⟩,⟨_,rfl,?_⟩,⟨_,rfl,?_⟩,trivial⟩
  ·refine e' rfl ?_
   refine st2 1 2 rfl (by kernel_rfl) rfl rfl ?_ ?_
   ·refine e' rfl ?_
    refine st1 2 rfl (by kernel_rfl) rfl ?_
    refine e' rfl ?_
    refine st1 3 rfl (by kernel_rfl) rfl ?_
    refine gq [0] ((ih4 _ _ hx3).ok) rfl (n' ?_)
    refine st1 4 rfl (by kernel_rfl) rfl ?_
    refine F0.be hC rfl (A0.rows_map [o3,x3.1]).symm (n' ?_)
    refine st1 5 rfl (by kernel_rfl) rfl ?_
    refine e' rfl ?_
    refine st1 6 rfl (by kernel_rfl) rfl ?_
    refine F0.s hC rfl (n' (W0.nil (by kernel_rfl) ?_))
    refine X0.wk ?_ (ih3 _ _ _ hh)
    exact ⟨⟨⟨.rfl,rfl⟩,⟨.rfl,rfl⟩,⟨.rfl,rfl⟩,⟨.rfl,rfl⟩,trivial⟩,⟨⟨rfl,.refl _,rfl⟩,⟨rfl,.refl _,rfl⟩,⟨rfl,.refl _,rfl⟩,⟨rfl,⟨.rfl,.rfl,.rfl,.full,trivial⟩,rfl⟩,trivial⟩,rfl⟩
   ·refine e' rfl ?_
    refine st2 1 3 rfl (by kernel_rfl) rfl rfl ?_ ?_
    ·refine e' rfl ?_
     refine st1 3 rfl (by kernel_rfl) rfl ?_
     refine gq [0] ((ih4 _ _ hx3).ok) rfl (n' ?_)
     refine st1 4 rfl (by kernel_rfl) rfl ?_
     refine F0.be hC rfl (A0.rows_map [o3,x3.1]).symm (n' ?_)
     refine st1 5 rfl (by kernel_rfl) rfl ?_
     refine e' rfl ?_
     refine st1 6 rfl (by kernel_rfl) rfl ?_
     refine F0.s hC rfl (n' (W0.nil (by kernel_rfl) ?_))
     refine X0.wk ?_ (ih3 _ _ _ hh)
     exact ⟨⟨⟨.rfl,rfl⟩,⟨.rfl,rfl⟩,⟨.rfl,rfl⟩,⟨.rfl,rfl⟩,trivial⟩,⟨⟨rfl,.refl _,rfl⟩,⟨rfl,.refl _,rfl⟩,⟨rfl,.refl _,rfl⟩,⟨rfl,⟨.rfl,.rfl,.rfl,.full,trivial⟩,rfl⟩,trivial⟩,rfl⟩
    ·refine gq [0] ((ih4 _ _ hx3).ok) rfl (n' ?_)
     refine st1 1 rfl (by kernel_rfl) rfl ?_
     refine e' rfl ?_
     refine st1 4 rfl (by kernel_rfl) rfl ?_
     refine F0.be hC rfl (A0.rows_map [o3,x3.1]).symm (n' ?_)
     refine st1 5 rfl (by kernel_rfl) rfl ?_
     refine e' rfl ?_
     refine st1 6 rfl (by kernel_rfl) rfl ?_
     refine F0.s hC rfl (n' (W0.nil (by kernel_rfl) ?_))
     refine X0.wk ?_ (ih3 _ _ _ hh)
     exact ⟨⟨⟨.rfl,rfl⟩,⟨.rfl,rfl⟩,⟨.rfl,rfl⟩,⟨.rfl,rfl⟩,trivial⟩,⟨⟨rfl,.refl _,rfl⟩,⟨rfl,.refl _,rfl⟩,⟨rfl,.refl _,rfl⟩,⟨rfl,⟨.rfl,.rfl,.rfl,.full,trivial⟩,rfl⟩,trivial⟩,rfl⟩
  ·refine e' rfl ?_
   refine st2 0 2 rfl (by kernel_rfl) rfl rfl ?_ ?_
   ·refine e' rfl ?_
    refine st1 2 rfl (by kernel_rfl) rfl ?_
    refine e' rfl ?_
    refine st1 3 rfl (by kernel_rfl) rfl ?_
    refine gq [0] ((ih4 _ _ hx3).ok) rfl (n' ?_)
    refine st1 4 rfl (by kernel_rfl) rfl ?_
    refine F0.be hC rfl (A0.rows_map [o3,x3.1]).symm (n' ?_)
    refine st1 5 rfl (by kernel_rfl) rfl ?_
    refine e' rfl ?_
    refine st1 6 rfl (by kernel_rfl) rfl ?_
    refine F0.s hC rfl (n' (W0.nil (by kernel_rfl) ?_))
    refine X0.wk ?_ (ih3 _ _ _ hh)
    exact ⟨⟨⟨.rfl,rfl⟩,⟨.rfl,rfl⟩,⟨.rfl,rfl⟩,⟨.rfl,rfl⟩,trivial⟩,⟨⟨rfl,.refl _,rfl⟩,⟨rfl,.refl _,rfl⟩,⟨rfl,.refl _,rfl⟩,⟨rfl,⟨.rfl,.rfl,.rfl,.full,trivial⟩,rfl⟩,trivial⟩,rfl⟩
   ·refine e' rfl ?_
    refine st2 0 3 rfl (by kernel_rfl) rfl rfl ?_ ?_
    ·refine e' rfl ?_
     refine st1 3 rfl (by kernel_rfl) rfl ?_
     refine gq [0] ((ih4 _ _ hx3).ok) rfl (n' ?_)
     refine st1 4 rfl (by kernel_rfl) rfl ?_
     refine F0.be hC rfl (A0.rows_map [o3,x3.1]).symm (n' ?_)
     refine st1 5 rfl (by kernel_rfl) rfl ?_
     refine e' rfl ?_
     refine st1 6 rfl (by kernel_rfl) rfl ?_
     refine F0.s hC rfl (n' (W0.nil (by kernel_rfl) ?_))
     refine X0.wk ?_ (ih3 _ _ _ hh)
     exact ⟨⟨⟨.rfl,rfl⟩,⟨.rfl,rfl⟩,⟨.rfl,rfl⟩,⟨.rfl,rfl⟩,trivial⟩,⟨⟨rfl,.refl _,rfl⟩,⟨rfl,.refl _,rfl⟩,⟨rfl,.refl _,rfl⟩,⟨rfl,⟨.rfl,.rfl,.rfl,.full,trivial⟩,rfl⟩,trivial⟩,rfl⟩
    ·refine gq [0] ((ih4 _ _ hx3).ok) rfl (n' ?_)
     refine st2 0 4 rfl (by kernel_rfl) rfl rfl ?_ ?_
     ·refine e' rfl ?_
      refine st1 4 rfl (by kernel_rfl) rfl ?_
      refine F0.be hC rfl (A0.rows_map [o3,x3.1]).symm (n' ?_)
      refine st1 5 rfl (by kernel_rfl) rfl ?_
      refine e' rfl ?_
      refine st1 6 rfl (by kernel_rfl) rfl ?_
      refine F0.s hC rfl (n' (W0.nil (by kernel_rfl) ?_))
      refine X0.wk ?_ (ih3 _ _ _ hh)
      exact ⟨⟨⟨.rfl,rfl⟩,⟨.rfl,rfl⟩,⟨.rfl,rfl⟩,⟨.rfl,rfl⟩,trivial⟩,⟨⟨rfl,.refl _,rfl⟩,⟨rfl,.refl _,rfl⟩,⟨rfl,.refl _,rfl⟩,⟨rfl,⟨.rfl,.rfl,.rfl,.full,trivial⟩,rfl⟩,trivial⟩,rfl⟩
     ·refine F0.be hC rfl (A0.rows_map [o3,x3.1]).symm (n' ?_)
      refine st1 0 rfl (by kernel_rfl) rfl ?_
      refine e' rfl ?_
      refine st1 5 rfl (by kernel_rfl) rfl ?_
      refine e' rfl ?_
      refine st1 6 rfl (by kernel_rfl) rfl ?_
      refine F0.s hC rfl (n' (W0.nil (by kernel_rfl) ?_))
      refine X0.wk ?_ (ih3 _ _ _ hh)
      exact ⟨⟨⟨.rfl,rfl⟩,⟨.rfl,rfl⟩,⟨.rfl,rfl⟩,⟨.rfl,rfl⟩,trivial⟩,⟨⟨rfl,.refl _,rfl⟩,⟨rfl,.refl _,rfl⟩,⟨rfl,.refl _,rfl⟩,⟨rfl,⟨.rfl,.rfl,.rfl,.full,trivial⟩,rfl⟩,trivial⟩,rfl⟩
  ·refine e' rfl ?_
   refine W0.step rfl (j0:=0) (js:=[1,3]) (by kernel_rfl) ⟨⟨_,rfl,?_⟩,⟨_,rfl,?_⟩,⟨_,rfl,?_⟩,trivial⟩
   ·refine e' rfl ?_
    refine st2 1 3 rfl (by kernel_rfl) rfl rfl ?_ ?_
    ·refine e' rfl ?_
     refine st1 3 rfl (by kernel_rfl) rfl ?_
     refine gq [0] ((ih4 _ _ hx3).ok) rfl (n' ?_)
     refine st1 4 rfl (by kernel_rfl) rfl ?_
     refine F0.be hC rfl (A0.rows_map [o3,x3.1]).symm (n' ?_)
     refine st1 5 rfl (by kernel_rfl) rfl ?_
     refine e' rfl ?_
     refine st1 6 rfl (by kernel_rfl) rfl ?_
     refine F0.s hC rfl (n' (W0.nil (by kernel_rfl) ?_))
     refine X0.wk ?_ (ih3 _ _ _ hh)
     exact ⟨⟨⟨.rfl,rfl⟩,⟨.rfl,rfl⟩,⟨.rfl,rfl⟩,⟨.rfl,rfl⟩,trivial⟩,⟨⟨rfl,.refl _,rfl⟩,⟨rfl,.refl _,rfl⟩,⟨rfl,.refl _,rfl⟩,⟨rfl,⟨.rfl,.rfl,.rfl,.full,trivial⟩,rfl⟩,trivial⟩,rfl⟩
    ·refine gq [0] ((ih4 _ _ hx3).ok) rfl (n' ?_)
     refine st1 1 rfl (by kernel_rfl) rfl ?_
     refine e' rfl ?_
     refine st1 4 rfl (by kernel_rfl) rfl ?_
     refine F0.be hC rfl (A0.rows_map [o3,x3.1]).symm (n' ?_)
     refine st1 5 rfl (by kernel_rfl) rfl ?_
     refine e' rfl ?_
     refine st1 6 rfl (by kernel_rfl) rfl ?_
     refine F0.s hC rfl (n' (W0.nil (by kernel_rfl) ?_))
     refine X0.wk ?_ (ih3 _ _ _ hh)
     exact ⟨⟨⟨.rfl,rfl⟩,⟨.rfl,rfl⟩,⟨.rfl,rfl⟩,⟨.rfl,rfl⟩,trivial⟩,⟨⟨rfl,.refl _,rfl⟩,⟨rfl,.refl _,rfl⟩,⟨rfl,.refl _,rfl⟩,⟨rfl,⟨.rfl,.rfl,.rfl,.full,trivial⟩,rfl⟩,trivial⟩,rfl⟩
   ·refine e' rfl ?_
    refine st2 0 3 rfl (by kernel_rfl) rfl rfl ?_ ?_
    ·refine e' rfl ?_
     refine st1 3 rfl (by kernel_rfl) rfl ?_
     refine gq [0] ((ih4 _ _ hx3).ok) rfl (n' ?_)
     refine st1 4 rfl (by kernel_rfl) rfl ?_
     refine F0.be hC rfl (A0.rows_map [o3,x3.1]).symm (n' ?_)
     refine st1 5 rfl (by kernel_rfl) rfl ?_
     refine e' rfl ?_
     refine st1 6 rfl (by kernel_rfl) rfl ?_
     refine F0.s hC rfl (n' (W0.nil (by kernel_rfl) ?_))
     refine X0.wk ?_ (ih3 _ _ _ hh)
     exact ⟨⟨⟨.rfl,rfl⟩,⟨.rfl,rfl⟩,⟨.rfl,rfl⟩,⟨.rfl,rfl⟩,trivial⟩,⟨⟨rfl,.refl _,rfl⟩,⟨rfl,.refl _,rfl⟩,⟨rfl,.refl _,rfl⟩,⟨rfl,⟨.rfl,.rfl,.rfl,.full,trivial⟩,rfl⟩,trivial⟩,rfl⟩
    ·refine gq [0] ((ih4 _ _ hx3).ok) rfl (n' ?_)
     refine st2 0 4 rfl (by kernel_rfl) rfl rfl ?_ ?_
     ·refine e' rfl ?_
      refine st1 4 rfl (by kernel_rfl) rfl ?_
      refine F0.be hC rfl (A0.rows_map [o3,x3.1]).symm (n' ?_)
      refine st1 5 rfl (by kernel_rfl) rfl ?_
      refine e' rfl ?_
      refine st1 6 rfl (by kernel_rfl) rfl ?_
      refine F0.s hC rfl (n' (W0.nil (by kernel_rfl) ?_))
      refine X0.wk ?_ (ih3 _ _ _ hh)
      exact ⟨⟨⟨.rfl,rfl⟩,⟨.rfl,rfl⟩,⟨.rfl,rfl⟩,⟨.rfl,rfl⟩,trivial⟩,⟨⟨rfl,.refl _,rfl⟩,⟨rfl,.refl _,rfl⟩,⟨rfl,.refl _,rfl⟩,⟨rfl,⟨.rfl,.rfl,.rfl,.full,trivial⟩,rfl⟩,trivial⟩,rfl⟩
     ·refine F0.be hC rfl (A0.rows_map [o3,x3.1]).symm (n' ?_)
      refine st1 0 rfl (by kernel_rfl) rfl ?_
      refine e' rfl ?_
      refine st1 5 rfl (by kernel_rfl) rfl ?_
      refine e' rfl ?_
      refine st1 6 rfl (by kernel_rfl) rfl ?_
      refine F0.s hC rfl (n' (W0.nil (by kernel_rfl) ?_))
      refine X0.wk ?_ (ih3 _ _ _ hh)
      exact ⟨⟨⟨.rfl,rfl⟩,⟨.rfl,rfl⟩,⟨.rfl,rfl⟩,⟨.rfl,rfl⟩,trivial⟩,⟨⟨rfl,.refl _,rfl⟩,⟨rfl,.refl _,rfl⟩,⟨rfl,.refl _,rfl⟩,⟨rfl,⟨.rfl,.rfl,.rfl,.full,trivial⟩,rfl⟩,trivial⟩,rfl⟩
   ·refine gq [0] ((ih4 _ _ hx3).ok) rfl (n' ?_)
    refine st2 0 1 rfl (by kernel_rfl) rfl rfl ?_ ?_
    ·refine e' rfl ?_
     refine st1 1 rfl (by kernel_rfl) rfl ?_
     refine e' rfl ?_
     refine st1 4 rfl (by kernel_rfl) rfl ?_
     refine F0.be hC rfl (A0.rows_map [o3,x3.1]).symm (n' ?_)
     refine st1 5 rfl (by kernel_rfl) rfl ?_
     refine e' rfl ?_
     refine st1 6 rfl (by kernel_rfl) rfl ?_
     refine F0.s hC rfl (n' (W0.nil (by kernel_rfl) ?_))
     refine X0.wk ?_ (ih3 _ _ _ hh)
     exact ⟨⟨⟨.rfl,rfl⟩,⟨.rfl,rfl⟩,⟨.rfl,rfl⟩,⟨.rfl,rfl⟩,trivial⟩,⟨⟨rfl,.refl _,rfl⟩,⟨rfl,.refl _,rfl⟩,⟨rfl,.refl _,rfl⟩,⟨rfl,⟨.rfl,.rfl,.rfl,.full,trivial⟩,rfl⟩,trivial⟩,rfl⟩
    ·refine e' rfl ?_
     refine st2 0 4 rfl (by kernel_rfl) rfl rfl ?_ ?_
     ·refine e' rfl ?_
      refine st1 4 rfl (by kernel_rfl) rfl ?_
      refine F0.be hC rfl (A0.rows_map [o3,x3.1]).symm (n' ?_)
      refine st1 5 rfl (by kernel_rfl) rfl ?_
      refine e' rfl ?_
      refine st1 6 rfl (by kernel_rfl) rfl ?_
      refine F0.s hC rfl (n' (W0.nil (by kernel_rfl) ?_))
      refine X0.wk ?_ (ih3 _ _ _ hh)
      exact ⟨⟨⟨.rfl,rfl⟩,⟨.rfl,rfl⟩,⟨.rfl,rfl⟩,⟨.rfl,rfl⟩,trivial⟩,⟨⟨rfl,.refl _,rfl⟩,⟨rfl,.refl _,rfl⟩,⟨rfl,.refl _,rfl⟩,⟨rfl,⟨.rfl,.rfl,.rfl,.full,trivial⟩,rfl⟩,trivial⟩,rfl⟩
     ·refine F0.be hC rfl (A0.rows_map [o3,x3.1]).symm (n' ?_)
      refine st1 0 rfl (by kernel_rfl) rfl ?_
      refine e' rfl ?_
      refine st1 5 rfl (by kernel_rfl) rfl ?_
      refine e' rfl ?_
      refine st1 6 rfl (by kernel_rfl) rfl ?_
      refine F0.s hC rfl (n' (W0.nil (by kernel_rfl) ?_))
      refine X0.wk ?_ (ih3 _ _ _ hh)
      exact ⟨⟨⟨.rfl,rfl⟩,⟨.rfl,rfl⟩,⟨.rfl,rfl⟩,⟨.rfl,rfl⟩,trivial⟩,⟨⟨rfl,.refl _,rfl⟩,⟨rfl,.refl _,rfl⟩,⟨rfl,.refl _,rfl⟩,⟨rfl,⟨.rfl,.rfl,.rfl,.full,trivial⟩,rfl⟩,trivial⟩,rfl⟩
 ·intro g5 ih5 parserParser res hh
  refine C2.intro hC Tryz.func111 rfl rfl rfl (s' rfl rfl (F0.n hC rfl (F0.nf hC rfl (n' (p' 4 rfl ?_)))))
  rcases bp' hh with ⟨nn,hx1,⟨⟩⟩ | ⟨x1,hx1,hh⟩
  ·exact gr [0,1] (ih5 _ _ hx1) rfl (peW ⟨trivial,trivial⟩ rfl)
  cases hh
  exact gq [0,1] ((ih5 _ _ hx1).ok) rfl (F0.s hC rfl (n' (re' (rq rfl))))
 ·intro g6 g7 ih6 ih7 parserParser res hh
  refine C2.intro hC Tryz.func110 rfl rfl rfl (s' rfl rfl (F0.nf hC rfl (n' (p' 1 rfl ?_))))
  rcases bp' hh with ⟨nn,hx1,⟨⟩⟩ | ⟨x1,hx1,hh⟩
  ·exact gr [0] (ih7 _ _ hx1) rfl (fun hi=>peW ⟨trivial,⟨rfl,.refl _,rfl⟩,trivial⟩ rfl hi)
  exact gq [0] ((ih7 _ _ hx1).ok) rfl (F0.nf hC rfl (F0.s hC rfl (n' (bk' (fq (ih6 _ _ _ hh) rfl)))))
 ·intro g6 g7 ih6 ih7 o0 o3 res hh
  obtain ⟨x2,hx2,hh⟩:=bs' hh
  refine X0.unroll (bk' (p' 1 rfl (gq [1,0] (Qy hx2) rfl (e' rfl (S' (t' rfl (ci' rfl hh (fun hh=>?_) (fun hh=>?_))))))))
  ·cases hh
   exact p' 1 rfl (F0.s hC rfl (n' (re' (rq rfl))))
  refine sk' ?_
  rcases bp' hh with ⟨nn,hx3,⟨⟩⟩ | ⟨x3,hx3,hh⟩
  ·refine AEx.drawE hC ?_
   refine W0.step rfl (j0:=0) (js:=[1,2]) (by kernel_rfl) ⟨⟨_,rfl,?_⟩,⟨_,rfl,?_⟩,⟨_,rfl,?_⟩,trivial⟩
   ·refine e' rfl ?_
    refine st2 1 2 rfl (by kernel_rfl) rfl rfl ?_ ?_
    ·refine e' rfl ?_
     refine st1 2 rfl (by kernel_rfl) rfl ?_
     refine e' rfl ?_
     refine st1 3 rfl (by kernel_rfl) rfl ?_
     exact gr [0] (ih7 _ _ hx3) rfl (fun hi=>peW ⟨trivial,⟨rfl,.refl _,rfl⟩,trivial⟩ rfl hi)
    ·refine e' rfl ?_
     refine st2 1 3 rfl (by kernel_rfl) rfl rfl ?_ ?_
     ·refine e' rfl ?_
      refine st1 3 rfl (by kernel_rfl) rfl ?_
      exact gr [0] (ih7 _ _ hx3) rfl (fun hi=>peW ⟨trivial,⟨rfl,.refl _,rfl⟩,trivial⟩ rfl hi)
     ·exact gr [0] (ih7 _ _ hx3) rfl (fun hi=>peW ⟨trivial,⟨rfl,.refl _,rfl⟩,trivial⟩ rfl hi)
   ·refine e' rfl ?_
    refine st2 0 2 rfl (by kernel_rfl) rfl rfl ?_ ?_
    ·refine e' rfl ?_
     refine st1 2 rfl (by kernel_rfl) rfl ?_
     refine e' rfl ?_
     refine st1 3 rfl (by kernel_rfl) rfl ?_
     exact gr [0] (ih7 _ _ hx3) rfl (fun hi=>peW ⟨trivial,⟨rfl,.refl _,rfl⟩,trivial⟩ rfl hi)
    ·refine e' rfl ?_
     refine st2 0 3 rfl (by kernel_rfl) rfl rfl ?_ ?_
     ·refine e' rfl ?_
      refine st1 3 rfl (by kernel_rfl) rfl ?_
      exact gr [0] (ih7 _ _ hx3) rfl (fun hi=>peW ⟨trivial,⟨rfl,.refl _,rfl⟩,trivial⟩ rfl hi)
     ·exact gr [0] (ih7 _ _ hx3) rfl (fun hi=>peW ⟨trivial,⟨rfl,.refl _,rfl⟩,trivial⟩ rfl hi)
   ·refine e' rfl ?_
    refine W0.step rfl (j0:=0) (js:=[1,3]) (by kernel_rfl) ⟨⟨_,rfl,?_⟩,⟨_,rfl,?_⟩,⟨_,rfl,?_⟩,trivial⟩
    ·refine e' rfl ?_
     refine st2 1 3 rfl (by kernel_rfl) rfl rfl ?_ ?_
     ·refine e' rfl ?_
      refine st1 3 rfl (by kernel_rfl) rfl ?_
      exact gr [0] (ih7 _ _ hx3) rfl (fun hi=>peW ⟨trivial,⟨rfl,.refl _,rfl⟩,trivial⟩ rfl hi)
     ·exact gr [0] (ih7 _ _ hx3) rfl (fun hi=>peW ⟨trivial,⟨rfl,.refl _,rfl⟩,trivial⟩ rfl hi)
    ·refine e' rfl ?_
     refine st2 0 3 rfl (by kernel_rfl) rfl rfl ?_ ?_
     ·refine e' rfl ?_
      refine st1 3 rfl (by kernel_rfl) rfl ?_
      exact gr [0] (ih7 _ _ hx3) rfl (fun hi=>peW ⟨trivial,⟨rfl,.refl _,rfl⟩,trivial⟩ rfl hi)
     ·exact gr [0] (ih7 _ _ hx3) rfl (fun hi=>peW ⟨trivial,⟨rfl,.refl _,rfl⟩,trivial⟩ rfl hi)
    ·exact gr [0] (ih7 _ _ hx3) rfl (fun hi=>peW ⟨trivial,⟨rfl,.refl _,rfl⟩,trivial⟩ rfl hi)
  refine AEx.drawE hC ?_
  refine W0.step rfl (j0:=0) (js:=[1,2]) (by kernel_rfl) ⟨⟨_,rfl,?_⟩,⟨_,rfl,?_⟩,⟨_,rfl,?_⟩,trivial⟩
  ·refine e' rfl ?_
   refine st2 1 2 rfl (by kernel_rfl) rfl rfl ?_ ?_
   ·refine e' rfl ?_
    refine st1 2 rfl (by kernel_rfl) rfl ?_
    refine e' rfl ?_
    refine st1 3 rfl (by kernel_rfl) rfl ?_
    refine gq [0] ((ih7 _ _ hx3).ok) rfl (n' ?_)
    refine st1 4 rfl (by kernel_rfl) rfl ?_
    refine F0.be hC rfl (A0.rows_map [o3,x3.1]).symm (n' ?_)
    refine st1 5 rfl (by kernel_rfl) rfl ?_
    refine e' rfl ?_
    refine st1 6 rfl (by kernel_rfl) rfl ?_
    refine F0.s hC rfl (n' (W0.nil (by kernel_rfl) ?_))
    refine X0.wk ?_ (ih6 _ _ _ hh)
    exact ⟨⟨⟨.rfl,rfl⟩,⟨.rfl,rfl⟩,⟨.rfl,rfl⟩,⟨.rfl,rfl⟩,trivial⟩,⟨⟨rfl,.refl _,rfl⟩,⟨rfl,.refl _,rfl⟩,⟨rfl,.refl _,rfl⟩,⟨rfl,⟨.rfl,.rfl,.rfl,.full,trivial⟩,rfl⟩,trivial⟩,rfl⟩
   ·refine e' rfl ?_
    refine st2 1 3 rfl (by kernel_rfl) rfl rfl ?_ ?_
    ·refine e' rfl ?_
     refine st1 3 rfl (by kernel_rfl) rfl ?_
     refine gq [0] ((ih7 _ _ hx3).ok) rfl (n' ?_)
     refine st1 4 rfl (by kernel_rfl) rfl ?_
     refine F0.be hC rfl (A0.rows_map [o3,x3.1]).symm (n' ?_)
     refine st1 5 rfl (by kernel_rfl) rfl ?_
     refine e' rfl ?_
     refine st1 6 rfl (by kernel_rfl) rfl ?_
     refine F0.s hC rfl (n' (W0.nil (by kernel_rfl) ?_))
     refine X0.wk ?_ (ih6 _ _ _ hh)
     exact ⟨⟨⟨.rfl,rfl⟩,⟨.rfl,rfl⟩,⟨.rfl,rfl⟩,⟨.rfl,rfl⟩,trivial⟩,⟨⟨rfl,.refl _,rfl⟩,⟨rfl,.refl _,rfl⟩,⟨rfl,.refl _,rfl⟩,⟨rfl,⟨.rfl,.rfl,.rfl,.full,trivial⟩,rfl⟩,trivial⟩,rfl⟩
    ·refine gq [0] ((ih7 _ _ hx3).ok) rfl (n' ?_)
     refine st1 1 rfl (by kernel_rfl) rfl ?_
     refine e' rfl ?_
     refine st1 4 rfl (by kernel_rfl) rfl ?_
     refine F0.be hC rfl (A0.rows_map [o3,x3.1]).symm (n' ?_)
     refine st1 5 rfl (by kernel_rfl) rfl ?_
     refine e' rfl ?_
     refine st1 6 rfl (by kernel_rfl) rfl ?_
     refine F0.s hC rfl (n' (W0.nil (by kernel_rfl) ?_))
     refine X0.wk ?_ (ih6 _ _ _ hh)
     exact ⟨⟨⟨.rfl,rfl⟩,⟨.rfl,rfl⟩,⟨.rfl,rfl⟩,⟨.rfl,rfl⟩,trivial⟩,⟨⟨rfl,.refl _,rfl⟩,⟨rfl,.refl _,rfl⟩,⟨rfl,.refl _,rfl⟩,⟨rfl,⟨.rfl,.rfl,.rfl,.full,trivial⟩,rfl⟩,trivial⟩,rfl⟩
  ·refine e' rfl ?_
   refine st2 0 2 rfl (by kernel_rfl) rfl rfl ?_ ?_
   ·refine e' rfl ?_
    refine st1 2 rfl (by kernel_rfl) rfl ?_
    refine e' rfl ?_
    refine st1 3 rfl (by kernel_rfl) rfl ?_
    refine gq [0] ((ih7 _ _ hx3).ok) rfl (n' ?_)
    refine st1 4 rfl (by kernel_rfl) rfl ?_
    refine F0.be hC rfl (A0.rows_map [o3,x3.1]).symm (n' ?_)
    refine st1 5 rfl (by kernel_rfl) rfl ?_
    refine e' rfl ?_
    refine st1 6 rfl (by kernel_rfl) rfl ?_
    refine F0.s hC rfl (n' (W0.nil (by kernel_rfl) ?_))
    refine X0.wk ?_ (ih6 _ _ _ hh)
    exact ⟨⟨⟨.rfl,rfl⟩,⟨.rfl,rfl⟩,⟨.rfl,rfl⟩,⟨.rfl,rfl⟩,trivial⟩,⟨⟨rfl,.refl _,rfl⟩,⟨rfl,.refl _,rfl⟩,⟨rfl,.refl _,rfl⟩,⟨rfl,⟨.rfl,.rfl,.rfl,.full,trivial⟩,rfl⟩,trivial⟩,rfl⟩
   ·refine e' rfl ?_
    refine st2 0 3 rfl (by kernel_rfl) rfl rfl ?_ ?_
    ·refine e' rfl ?_
     refine st1 3 rfl (by kernel_rfl) rfl ?_
     refine gq [0] ((ih7 _ _ hx3).ok) rfl (n' ?_)
     refine st1 4 rfl (by kernel_rfl) rfl ?_
     refine F0.be hC rfl (A0.rows_map [o3,x3.1]).symm (n' ?_)
     refine st1 5 rfl (by kernel_rfl) rfl ?_
     refine e' rfl ?_
     refine st1 6 rfl (by kernel_rfl) rfl ?_
     refine F0.s hC rfl (n' (W0.nil (by kernel_rfl) ?_))
     refine X0.wk ?_ (ih6 _ _ _ hh)
     exact ⟨⟨⟨.rfl,rfl⟩,⟨.rfl,rfl⟩,⟨.rfl,rfl⟩,⟨.rfl,rfl⟩,trivial⟩,⟨⟨rfl,.refl _,rfl⟩,⟨rfl,.refl _,rfl⟩,⟨rfl,.refl _,rfl⟩,⟨rfl,⟨.rfl,.rfl,.rfl,.full,trivial⟩,rfl⟩,trivial⟩,rfl⟩
    ·refine gq [0] ((ih7 _ _ hx3).ok) rfl (n' ?_)
     refine st2 0 4 rfl (by kernel_rfl) rfl rfl ?_ ?_
     ·refine e' rfl ?_
      refine st1 4 rfl (by kernel_rfl) rfl ?_
      refine F0.be hC rfl (A0.rows_map [o3,x3.1]).symm (n' ?_)
      refine st1 5 rfl (by kernel_rfl) rfl ?_
      refine e' rfl ?_
      refine st1 6 rfl (by kernel_rfl) rfl ?_
      refine F0.s hC rfl (n' (W0.nil (by kernel_rfl) ?_))
      refine X0.wk ?_ (ih6 _ _ _ hh)
      exact ⟨⟨⟨.rfl,rfl⟩,⟨.rfl,rfl⟩,⟨.rfl,rfl⟩,⟨.rfl,rfl⟩,trivial⟩,⟨⟨rfl,.refl _,rfl⟩,⟨rfl,.refl _,rfl⟩,⟨rfl,.refl _,rfl⟩,⟨rfl,⟨.rfl,.rfl,.rfl,.full,trivial⟩,rfl⟩,trivial⟩,rfl⟩
     ·refine F0.be hC rfl (A0.rows_map [o3,x3.1]).symm (n' ?_)
      refine st1 0 rfl (by kernel_rfl) rfl ?_
      refine e' rfl ?_
      refine st1 5 rfl (by kernel_rfl) rfl ?_
      refine e' rfl ?_
      refine st1 6 rfl (by kernel_rfl) rfl ?_
      refine F0.s hC rfl (n' (W0.nil (by kernel_rfl) ?_))
      refine X0.wk ?_ (ih6 _ _ _ hh)
      exact ⟨⟨⟨.rfl,rfl⟩,⟨.rfl,rfl⟩,⟨.rfl,rfl⟩,⟨.rfl,rfl⟩,trivial⟩,⟨⟨rfl,.refl _,rfl⟩,⟨rfl,.refl _,rfl⟩,⟨rfl,.refl _,rfl⟩,⟨rfl,⟨.rfl,.rfl,.rfl,.full,trivial⟩,rfl⟩,trivial⟩,rfl⟩
  ·refine e' rfl ?_
   refine W0.step rfl (j0:=0) (js:=[1,3]) (by kernel_rfl) ⟨⟨_,rfl,?_⟩,⟨_,rfl,?_⟩,⟨_,rfl,?_⟩,trivial⟩
   ·refine e' rfl ?_
    refine st2 1 3 rfl (by kernel_rfl) rfl rfl ?_ ?_
    ·refine e' rfl ?_
     refine st1 3 rfl (by kernel_rfl) rfl ?_
     refine gq [0] ((ih7 _ _ hx3).ok) rfl (n' ?_)
     refine st1 4 rfl (by kernel_rfl) rfl ?_
     refine F0.be hC rfl (A0.rows_map [o3,x3.1]).symm (n' ?_)
     refine st1 5 rfl (by kernel_rfl) rfl ?_
     refine e' rfl ?_
     refine st1 6 rfl (by kernel_rfl) rfl ?_
     refine F0.s hC rfl (n' (W0.nil (by kernel_rfl) ?_))
     refine X0.wk ?_ (ih6 _ _ _ hh)
     exact ⟨⟨⟨.rfl,rfl⟩,⟨.rfl,rfl⟩,⟨.rfl,rfl⟩,⟨.rfl,rfl⟩,trivial⟩,⟨⟨rfl,.refl _,rfl⟩,⟨rfl,.refl _,rfl⟩,⟨rfl,.refl _,rfl⟩,⟨rfl,⟨.rfl,.rfl,.rfl,.full,trivial⟩,rfl⟩,trivial⟩,rfl⟩
    ·refine gq [0] ((ih7 _ _ hx3).ok) rfl (n' ?_)
     refine st1 1 rfl (by kernel_rfl) rfl ?_
     refine e' rfl ?_
     refine st1 4 rfl (by kernel_rfl) rfl ?_
     refine F0.be hC rfl (A0.rows_map [o3,x3.1]).symm (n' ?_)
     refine st1 5 rfl (by kernel_rfl) rfl ?_
     refine e' rfl ?_
     refine st1 6 rfl (by kernel_rfl) rfl ?_
     refine F0.s hC rfl (n' (W0.nil (by kernel_rfl) ?_))
     refine X0.wk ?_ (ih6 _ _ _ hh)
     exact ⟨⟨⟨.rfl,rfl⟩,⟨.rfl,rfl⟩,⟨.rfl,rfl⟩,⟨.rfl,rfl⟩,trivial⟩,⟨⟨rfl,.refl _,rfl⟩,⟨rfl,.refl _,rfl⟩,⟨rfl,.refl _,rfl⟩,⟨rfl,⟨.rfl,.rfl,.rfl,.full,trivial⟩,rfl⟩,trivial⟩,rfl⟩
   ·refine e' rfl ?_
    refine st2 0 3 rfl (by kernel_rfl) rfl rfl ?_ ?_
    ·refine e' rfl ?_
     refine st1 3 rfl (by kernel_rfl) rfl ?_
     refine gq [0] ((ih7 _ _ hx3).ok) rfl (n' ?_)
     refine st1 4 rfl (by kernel_rfl) rfl ?_
     refine F0.be hC rfl (A0.rows_map [o3,x3.1]).symm (n' ?_)
     refine st1 5 rfl (by kernel_rfl) rfl ?_
     refine e' rfl ?_
     refine st1 6 rfl (by kernel_rfl) rfl ?_
     refine F0.s hC rfl (n' (W0.nil (by kernel_rfl) ?_))
     refine X0.wk ?_ (ih6 _ _ _ hh)
     exact ⟨⟨⟨.rfl,rfl⟩,⟨.rfl,rfl⟩,⟨.rfl,rfl⟩,⟨.rfl,rfl⟩,trivial⟩,⟨⟨rfl,.refl _,rfl⟩,⟨rfl,.refl _,rfl⟩,⟨rfl,.refl _,rfl⟩,⟨rfl,⟨.rfl,.rfl,.rfl,.full,trivial⟩,rfl⟩,trivial⟩,rfl⟩
    ·refine gq [0] ((ih7 _ _ hx3).ok) rfl (n' ?_)
     refine st2 0 4 rfl (by kernel_rfl) rfl rfl ?_ ?_
     ·refine e' rfl ?_
      refine st1 4 rfl (by kernel_rfl) rfl ?_
      refine F0.be hC rfl (A0.rows_map [o3,x3.1]).symm (n' ?_)
      refine st1 5 rfl (by kernel_rfl) rfl ?_
      refine e' rfl ?_
      refine st1 6 rfl (by kernel_rfl) rfl ?_
      refine F0.s hC rfl (n' (W0.nil (by kernel_rfl) ?_))
      refine X0.wk ?_ (ih6 _ _ _ hh)
      exact ⟨⟨⟨.rfl,rfl⟩,⟨.rfl,rfl⟩,⟨.rfl,rfl⟩,⟨.rfl,rfl⟩,trivial⟩,⟨⟨rfl,.refl _,rfl⟩,⟨rfl,.refl _,rfl⟩,⟨rfl,.refl _,rfl⟩,⟨rfl,⟨.rfl,.rfl,.rfl,.full,trivial⟩,rfl⟩,trivial⟩,rfl⟩
     ·refine F0.be hC rfl (A0.rows_map [o3,x3.1]).symm (n' ?_)
      refine st1 0 rfl (by kernel_rfl) rfl ?_
      refine e' rfl ?_
      refine st1 5 rfl (by kernel_rfl) rfl ?_
      refine e' rfl ?_
      refine st1 6 rfl (by kernel_rfl) rfl ?_
      refine F0.s hC rfl (n' (W0.nil (by kernel_rfl) ?_))
      refine X0.wk ?_ (ih6 _ _ _ hh)
      exact ⟨⟨⟨.rfl,rfl⟩,⟨.rfl,rfl⟩,⟨.rfl,rfl⟩,⟨.rfl,rfl⟩,trivial⟩,⟨⟨rfl,.refl _,rfl⟩,⟨rfl,.refl _,rfl⟩,⟨rfl,.refl _,rfl⟩,⟨rfl,⟨.rfl,.rfl,.rfl,.full,trivial⟩,rfl⟩,trivial⟩,rfl⟩
   ·refine gq [0] ((ih7 _ _ hx3).ok) rfl (n' ?_)
    refine st2 0 1 rfl (by kernel_rfl) rfl rfl ?_ ?_
    ·refine e' rfl ?_
     refine st1 1 rfl (by kernel_rfl) rfl ?_
     refine e' rfl ?_
     refine st1 4 rfl (by kernel_rfl) rfl ?_
     refine F0.be hC rfl (A0.rows_map [o3,x3.1]).symm (n' ?_)
     refine st1 5 rfl (by kernel_rfl) rfl ?_
     refine e' rfl ?_
     refine st1 6 rfl (by kernel_rfl) rfl ?_
     refine F0.s hC rfl (n' (W0.nil (by kernel_rfl) ?_))
     refine X0.wk ?_ (ih6 _ _ _ hh)
     exact ⟨⟨⟨.rfl,rfl⟩,⟨.rfl,rfl⟩,⟨.rfl,rfl⟩,⟨.rfl,rfl⟩,trivial⟩,⟨⟨rfl,.refl _,rfl⟩,⟨rfl,.refl _,rfl⟩,⟨rfl,.refl _,rfl⟩,⟨rfl,⟨.rfl,.rfl,.rfl,.full,trivial⟩,rfl⟩,trivial⟩,rfl⟩
    ·refine e' rfl ?_
     refine st2 0 4 rfl (by kernel_rfl) rfl rfl ?_ ?_
     ·refine e' rfl ?_
      refine st1 4 rfl (by kernel_rfl) rfl ?_
      refine F0.be hC rfl (A0.rows_map [o3,x3.1]).symm (n' ?_)
      refine st1 5 rfl (by kernel_rfl) rfl ?_
      refine e' rfl ?_
      refine st1 6 rfl (by kernel_rfl) rfl ?_
      refine F0.s hC rfl (n' (W0.nil (by kernel_rfl) ?_))
      refine X0.wk ?_ (ih6 _ _ _ hh)
      exact ⟨⟨⟨.rfl,rfl⟩,⟨.rfl,rfl⟩,⟨.rfl,rfl⟩,⟨.rfl,rfl⟩,trivial⟩,⟨⟨rfl,.refl _,rfl⟩,⟨rfl,.refl _,rfl⟩,⟨rfl,.refl _,rfl⟩,⟨rfl,⟨.rfl,.rfl,.rfl,.full,trivial⟩,rfl⟩,trivial⟩,rfl⟩
     ·refine F0.be hC rfl (A0.rows_map [o3,x3.1]).symm (n' ?_)
      refine st1 0 rfl (by kernel_rfl) rfl ?_
      refine e' rfl ?_
      refine st1 5 rfl (by kernel_rfl) rfl ?_
      refine e' rfl ?_
      refine st1 6 rfl (by kernel_rfl) rfl ?_
      refine F0.s hC rfl (n' (W0.nil (by kernel_rfl) ?_))
      refine X0.wk ?_ (ih6 _ _ _ hh)
      exact ⟨⟨⟨.rfl,rfl⟩,⟨.rfl,rfl⟩,⟨.rfl,rfl⟩,⟨.rfl,rfl⟩,trivial⟩,⟨⟨rfl,.refl _,rfl⟩,⟨rfl,.refl _,rfl⟩,⟨rfl,.refl _,rfl⟩,⟨rfl,⟨.rfl,.rfl,.rfl,.full,trivial⟩,rfl⟩,trivial⟩,rfl⟩
 ·intro g8 g9 ih8 ih9 parserParser res hh
  refine C2.intro hC Tryz.func166 rfl rfl rfl (s' rfl rfl (F0.nf hC rfl (n' (p' 1 rfl ?_))))
  rcases bp' hh with ⟨nn,hx1,⟨⟩⟩ | ⟨x1,hx1,hh⟩
  ·exact gr [0] (ih9 _ _ hx1) rfl (peW ⟨trivial,trivial⟩ rfl)
  obtain ⟨x2,hx2,hh⟩:=bs' hh
  refine gq [0] ((ih9 _ _ hx1).ok) rfl (F0.nf hC rfl (F0.s hC rfl (n' (t' rfl (S' (bk' (p' 1 rfl (gq [0] (T0 hx2) rfl (e' rfl (ci' rfl hh (fun hh=>?_) (fun hh=>?_)))))))))))
  ·exact sk' (eq' (ih8 _ _ _ _ hh) rfl)
  obtain ⟨x4,hx4,hh⟩:=bs' hh
  refine p' 1 rfl (gq [0] (T0 hx4) rfl (e' rfl (ci' rfl hh (fun hh=>?_) (fun hh=>?_))))
  ·exact T' rfl (eq' (ih8 _ _ _ _ hh) rfl)
  obtain ⟨x5,hx5,hh⟩:=bs' hh
  refine p' 1 rfl (gq [0] (T0 hx5) rfl (e' rfl (ci' rfl hh (fun hh=>?_) (fun hh=>?_))))
  ·exact T' rfl (eq' (ih8 _ _ _ _ hh) rfl)
  obtain ⟨x6,hx6,hh⟩:=bs' hh
  refine p' 1 rfl (gq [0] (T0 hx6) rfl (e' rfl (ci' rfl hh (fun hh=>?_) (fun hh=>?_))))
  ·exact T' rfl (eq' (ih8 _ _ _ _ hh) rfl)
  obtain ⟨x7,hx7,hh⟩:=bs' hh
  refine p' 1 rfl (gq [0] (T0 hx7) rfl (e' rfl (ci' rfl hh (fun hh=>?_) (fun hh=>?_))))
  ·exact T' rfl (eq' (ih8 _ _ _ _ hh) rfl)
  obtain ⟨x8,hx8,hh⟩:=bs' hh
  refine p' 1 rfl (gq [0] (T0 hx8) rfl (e' rfl (ci' rfl hh (fun hh=>?_) (fun hh=>?_))))
  ·exact T' rfl (eq' (ih8 _ _ _ _ hh) rfl)
  cases hh
  exact p' 1 rfl (F0.s hC rfl (n' (re' (rq rfl))))
 ·intro g9 ih9 o0 x1 op res hh
  refine S' ?_
  rcases bp' hh with ⟨nn,hx3,⟨⟩⟩ | ⟨x3,hx3,hh⟩
  ·refine AEx.drawE hC ?_
   refine W0.step rfl (j0:=0) (js:=[1,2]) (by kernel_rfl) ⟨⟨_,rfl,?_⟩,⟨_,rfl,?_⟩,⟨_,rfl,?_⟩,trivial⟩
   ·refine e' rfl ?_
    refine st2 1 2 rfl (by kernel_rfl) rfl rfl ?_ ?_
    ·refine e' rfl ?_
     refine st1 2 rfl (by kernel_rfl) rfl ?_
     refine e' rfl ?_
     refine st1 3 rfl (by kernel_rfl) rfl ?_
     exact gr [0] (ih9 _ _ hx3) rfl (peW ⟨trivial,trivial⟩ rfl)
    ·refine e' rfl ?_
     refine st2 1 3 rfl (by kernel_rfl) rfl rfl ?_ ?_
     ·refine e' rfl ?_
      refine st1 3 rfl (by kernel_rfl) rfl ?_
      exact gr [0] (ih9 _ _ hx3) rfl (peW ⟨trivial,trivial⟩ rfl)
     ·exact gr [0] (ih9 _ _ hx3) rfl (peW ⟨trivial,trivial⟩ rfl)
   ·refine e' rfl ?_
    refine st2 0 2 rfl (by kernel_rfl) rfl rfl ?_ ?_
    ·refine e' rfl ?_
     refine st1 2 rfl (by kernel_rfl) rfl ?_
     refine e' rfl ?_
     refine st1 3 rfl (by kernel_rfl) rfl ?_
     exact gr [0] (ih9 _ _ hx3) rfl (peW ⟨trivial,trivial⟩ rfl)
    ·refine e' rfl ?_
     refine st2 0 3 rfl (by kernel_rfl) rfl rfl ?_ ?_
     ·refine e' rfl ?_
      refine st1 3 rfl (by kernel_rfl) rfl ?_
      exact gr [0] (ih9 _ _ hx3) rfl (peW ⟨trivial,trivial⟩ rfl)
     ·exact gr [0] (ih9 _ _ hx3) rfl (peW ⟨trivial,trivial⟩ rfl)
   ·refine e' rfl ?_
    refine W0.step rfl (j0:=0) (js:=[1,3]) (by kernel_rfl) ⟨⟨_,rfl,?_⟩,⟨_,rfl,?_⟩,⟨_,rfl,?_⟩,trivial⟩
    ·refine e' rfl ?_
     refine st2 1 3 rfl (by kernel_rfl) rfl rfl ?_ ?_
     ·refine e' rfl ?_
      refine st1 3 rfl (by kernel_rfl) rfl ?_
      exact gr [0] (ih9 _ _ hx3) rfl (peW ⟨trivial,trivial⟩ rfl)
     ·exact gr [0] (ih9 _ _ hx3) rfl (peW ⟨trivial,trivial⟩ rfl)
    ·refine e' rfl ?_
     refine st2 0 3 rfl (by kernel_rfl) rfl rfl ?_ ?_
     ·refine e' rfl ?_
      refine st1 3 rfl (by kernel_rfl) rfl ?_
      exact gr [0] (ih9 _ _ hx3) rfl (peW ⟨trivial,trivial⟩ rfl)
     ·exact gr [0] (ih9 _ _ hx3) rfl (peW ⟨trivial,trivial⟩ rfl)
    ·exact gr [0] (ih9 _ _ hx3) rfl (peW ⟨trivial,trivial⟩ rfl)
  refine AEx.drawE hC ?_
  refine W0.step rfl (j0:=0) (js:=[1,2]) (by kernel_rfl) ⟨⟨_,rfl,?_⟩,⟨_,rfl,?_⟩,⟨_,rfl,?_⟩,trivial⟩
  ·refine e' rfl ?_
   refine st2 1 2 rfl (by kernel_rfl) rfl rfl ?_ ?_
   ·refine e' rfl ?_
    refine st1 2 rfl (by kernel_rfl) rfl ?_
    refine e' rfl ?_
    refine st1 3 rfl (by kernel_rfl) rfl ?_
    refine gq [0] ((ih9 _ _ hx3).ok) rfl (n' ?_)
    refine st1 4 rfl (by kernel_rfl) rfl ?_
    refine F0.be hC rfl (A0.rows_map [x1.1,x3.1]).symm (n' ?_)
    refine st1 5 rfl (by kernel_rfl) rfl ?_
    refine e' rfl ?_
    refine st1 6 rfl (by kernel_rfl) rfl ?_
    refine F0.s hC rfl (n' (W0.nil (by kernel_rfl) (re' ?_)))
    obtain rfl:=oi' hh
    exact ⟨_,.agg [.d (.int .i64 op),.d (.int .i64 0),.d (.str []),.d (.sl (A0.rows [x1.1,x3.1]))],[.row (D0.cells x3.2) 99],rfl,(.aggL ⟨.rfl,.rfl,.rfl,.full,trivial⟩),⟨⟨rfl,.refl _,rfl⟩,trivial⟩,rfl,rfl,rpq rfl rfl⟩
   ·refine e' rfl ?_
    refine st2 1 3 rfl (by kernel_rfl) rfl rfl ?_ ?_
    ·refine e' rfl ?_
     refine st1 3 rfl (by kernel_rfl) rfl ?_
     refine gq [0] ((ih9 _ _ hx3).ok) rfl (n' ?_)
     refine st1 4 rfl (by kernel_rfl) rfl ?_
     refine F0.be hC rfl (A0.rows_map [x1.1,x3.1]).symm (n' ?_)
     refine st1 5 rfl (by kernel_rfl) rfl ?_
     refine e' rfl ?_
     refine st1 6 rfl (by kernel_rfl) rfl ?_
     refine F0.s hC rfl (n' (W0.nil (by kernel_rfl) (re' ?_)))
     obtain rfl:=oi' hh
     exact ⟨_,.agg [.d (.int .i64 op),.d (.int .i64 0),.d (.str []),.d (.sl (A0.rows [x1.1,x3.1]))],[.row (D0.cells x3.2) 99],rfl,(.aggL ⟨.rfl,.rfl,.rfl,.full,trivial⟩),⟨⟨rfl,.refl _,rfl⟩,trivial⟩,rfl,rfl,rpq rfl rfl⟩
    ·refine gq [0] ((ih9 _ _ hx3).ok) rfl (n' ?_)
     refine st1 1 rfl (by kernel_rfl) rfl ?_
     refine e' rfl ?_
     refine st1 4 rfl (by kernel_rfl) rfl ?_
     refine F0.be hC rfl (A0.rows_map [x1.1,x3.1]).symm (n' ?_)
     refine st1 5 rfl (by kernel_rfl) rfl ?_
     refine e' rfl ?_
     refine st1 6 rfl (by kernel_rfl) rfl ?_
     refine F0.s hC rfl (n' (W0.nil (by kernel_rfl) (re' ?_)))
     obtain rfl:=oi' hh
     exact ⟨_,.agg [.d (.int .i64 op),.d (.int .i64 0),.d (.str []),.d (.sl (A0.rows [x1.1,x3.1]))],[.row (D0.cells x3.2) 99],rfl,(.aggL ⟨.rfl,.rfl,.rfl,.full,trivial⟩),⟨⟨rfl,.refl _,rfl⟩,trivial⟩,rfl,rfl,rpq rfl rfl⟩
  ·refine e' rfl ?_
   refine st2 0 2 rfl (by kernel_rfl) rfl rfl ?_ ?_
   ·refine e' rfl ?_
    refine st1 2 rfl (by kernel_rfl) rfl ?_
    refine e' rfl ?_
    refine st1 3 rfl (by kernel_rfl) rfl ?_
    refine gq [0] ((ih9 _ _ hx3).ok) rfl (n' ?_)
    refine st1 4 rfl (by kernel_rfl) rfl ?_
    refine F0.be hC rfl (A0.rows_map [x1.1,x3.1]).symm (n' ?_)
    refine st1 5 rfl (by kernel_rfl) rfl ?_
    refine e' rfl ?_
    refine st1 6 rfl (by kernel_rfl) rfl ?_
    refine F0.s hC rfl (n' (W0.nil (by kernel_rfl) (re' ?_)))
    obtain rfl:=oi' hh
    exact ⟨_,.agg [.d (.int .i64 op),.d (.int .i64 0),.d (.str []),.d (.sl (A0.rows [x1.1,x3.1]))],[.row (D0.cells x3.2) 99],rfl,(.aggL ⟨.rfl,.rfl,.rfl,.full,trivial⟩),⟨⟨rfl,.refl _,rfl⟩,trivial⟩,rfl,rfl,rpq rfl rfl⟩
   ·refine e' rfl ?_
    refine st2 0 3 rfl (by kernel_rfl) rfl rfl ?_ ?_
    ·refine e' rfl ?_
     refine st1 3 rfl (by kernel_rfl) rfl ?_
     refine gq [0] ((ih9 _ _ hx3).ok) rfl (n' ?_)
     refine st1 4 rfl (by kernel_rfl) rfl ?_
     refine F0.be hC rfl (A0.rows_map [x1.1,x3.1]).symm (n' ?_)
     refine st1 5 rfl (by kernel_rfl) rfl ?_
     refine e' rfl ?_
     refine st1 6 rfl (by kernel_rfl) rfl ?_
     refine F0.s hC rfl (n' (W0.nil (by kernel_rfl) (re' ?_)))
     obtain rfl:=oi' hh
     exact ⟨_,.agg [.d (.int .i64 op),.d (.int .i64 0),.d (.str []),.d (.sl (A0.rows [x1.1,x3.1]))],[.row (D0.cells x3.2) 99],rfl,(.aggL ⟨.rfl,.rfl,.rfl,.full,trivial⟩),⟨⟨rfl,.refl _,rfl⟩,trivial⟩,rfl,rfl,rpq rfl rfl⟩
    ·refine gq [0] ((ih9 _ _ hx3).ok) rfl (n' ?_)
     refine st2 0 4 rfl (by kernel_rfl) rfl rfl ?_ ?_
     ·refine e' rfl ?_
      refine st1 4 rfl (by kernel_rfl) rfl ?_
      refine F0.be hC rfl (A0.rows_map [x1.1,x3.1]).symm (n' ?_)
      refine st1 5 rfl (by kernel_rfl) rfl ?_
      refine e' rfl ?_
      refine st1 6 rfl (by kernel_rfl) rfl ?_
      refine F0.s hC rfl (n' (W0.nil (by kernel_rfl) (re' ?_)))
      obtain rfl:=oi' hh
      exact ⟨_,.agg [.d (.int .i64 op),.d (.int .i64 0),.d (.str []),.d (.sl (A0.rows [x1.1,x3.1]))],[.row (D0.cells x3.2) 99],rfl,(.aggL ⟨.rfl,.rfl,.rfl,.full,trivial⟩),⟨⟨rfl,.refl _,rfl⟩,trivial⟩,rfl,rfl,rpq rfl rfl⟩
     ·refine F0.be hC rfl (A0.rows_map [x1.1,x3.1]).symm (n' ?_)
      refine st1 0 rfl (by kernel_rfl) rfl ?_
      refine e' rfl ?_
      refine st1 5 rfl (by kernel_rfl) rfl ?_
      refine e' rfl ?_
      refine st1 6 rfl (by kernel_rfl) rfl ?_
      refine F0.s hC rfl (n' (W0.nil (by kernel_rfl) (re' ?_)))
      obtain rfl:=oi' hh
      exact ⟨_,.agg [.d (.int .i64 op),.d (.int .i64 0),.d (.str []),.d (.sl (A0.rows [x1.1,x3.1]))],[.row (D0.cells x3.2) 99],rfl,(.aggL ⟨.rfl,.rfl,.rfl,.full,trivial⟩),⟨⟨rfl,.refl _,rfl⟩,trivial⟩,rfl,rfl,rpq rfl rfl⟩
  ·refine e' rfl ?_
   refine W0.step rfl (j0:=0) (js:=[1,3]) (by kernel_rfl) ⟨⟨_,rfl,?_⟩,⟨_,rfl,?_⟩,⟨_,rfl,?_⟩,trivial⟩
   ·refine e' rfl ?_
    refine st2 1 3 rfl (by kernel_rfl) rfl rfl ?_ ?_
    ·refine e' rfl ?_
     refine st1 3 rfl (by kernel_rfl) rfl ?_
     refine gq [0] ((ih9 _ _ hx3).ok) rfl (n' ?_)
     refine st1 4 rfl (by kernel_rfl) rfl ?_
     refine F0.be hC rfl (A0.rows_map [x1.1,x3.1]).symm (n' ?_)
     refine st1 5 rfl (by kernel_rfl) rfl ?_
     refine e' rfl ?_
     refine st1 6 rfl (by kernel_rfl) rfl ?_
     refine F0.s hC rfl (n' (W0.nil (by kernel_rfl) (re' ?_)))
     obtain rfl:=oi' hh
     exact ⟨_,.agg [.d (.int .i64 op),.d (.int .i64 0),.d (.str []),.d (.sl (A0.rows [x1.1,x3.1]))],[.row (D0.cells x3.2) 99],rfl,(.aggL ⟨.rfl,.rfl,.rfl,.full,trivial⟩),⟨⟨rfl,.refl _,rfl⟩,trivial⟩,rfl,rfl,rpq rfl rfl⟩
    ·refine gq [0] ((ih9 _ _ hx3).ok) rfl (n' ?_)
     refine st1 1 rfl (by kernel_rfl) rfl ?_
     refine e' rfl ?_
     refine st1 4 rfl (by kernel_rfl) rfl ?_
     refine F0.be hC rfl (A0.rows_map [x1.1,x3.1]).symm (n' ?_)
     refine st1 5 rfl (by kernel_rfl) rfl ?_
     refine e' rfl ?_
     refine st1 6 rfl (by kernel_rfl) rfl ?_
     refine F0.s hC rfl (n' (W0.nil (by kernel_rfl) (re' ?_)))
     obtain rfl:=oi' hh
     exact ⟨_,.agg [.d (.int .i64 op),.d (.int .i64 0),.d (.str []),.d (.sl (A0.rows [x1.1,x3.1]))],[.row (D0.cells x3.2) 99],rfl,(.aggL ⟨.rfl,.rfl,.rfl,.full,trivial⟩),⟨⟨rfl,.refl _,rfl⟩,trivial⟩,rfl,rfl,rpq rfl rfl⟩
   ·refine e' rfl ?_
    refine st2 0 3 rfl (by kernel_rfl) rfl rfl ?_ ?_
    ·refine e' rfl ?_
     refine st1 3 rfl (by kernel_rfl) rfl ?_
     refine gq [0] ((ih9 _ _ hx3).ok) rfl (n' ?_)
     refine st1 4 rfl (by kernel_rfl) rfl ?_
     refine F0.be hC rfl (A0.rows_map [x1.1,x3.1]).symm (n' ?_)
     refine st1 5 rfl (by kernel_rfl) rfl ?_
     refine e' rfl ?_
     refine st1 6 rfl (by kernel_rfl) rfl ?_
     refine F0.s hC rfl (n' (W0.nil (by kernel_rfl) (re' ?_)))
     obtain rfl:=oi' hh
     exact ⟨_,.agg [.d (.int .i64 op),.d (.int .i64 0),.d (.str []),.d (.sl (A0.rows [x1.1,x3.1]))],[.row (D0.cells x3.2) 99],rfl,(.aggL ⟨.rfl,.rfl,.rfl,.full,trivial⟩),⟨⟨rfl,.refl _,rfl⟩,trivial⟩,rfl,rfl,rpq rfl rfl⟩
    ·refine gq [0] ((ih9 _ _ hx3).ok) rfl (n' ?_)
     refine st2 0 4 rfl (by kernel_rfl) rfl rfl ?_ ?_
     ·refine e' rfl ?_
      refine st1 4 rfl (by kernel_rfl) rfl ?_
      refine F0.be hC rfl (A0.rows_map [x1.1,x3.1]).symm (n' ?_)
      refine st1 5 rfl (by kernel_rfl) rfl ?_
      refine e' rfl ?_
      refine st1 6 rfl (by kernel_rfl) rfl ?_
      refine F0.s hC rfl (n' (W0.nil (by kernel_rfl) (re' ?_)))
      obtain rfl:=oi' hh
      exact ⟨_,.agg [.d (.int .i64 op),.d (.int .i64 0),.d (.str []),.d (.sl (A0.rows [x1.1,x3.1]))],[.row (D0.cells x3.2) 99],rfl,(.aggL ⟨.rfl,.rfl,.rfl,.full,trivial⟩),⟨⟨rfl,.refl _,rfl⟩,trivial⟩,rfl,rfl,rpq rfl rfl⟩
     ·refine F0.be hC rfl (A0.rows_map [x1.1,x3.1]).symm (n' ?_)
      refine st1 0 rfl (by kernel_rfl) rfl ?_
      refine e' rfl ?_
      refine st1 5 rfl (by kernel_rfl) rfl ?_
      refine e' rfl ?_
      refine st1 6 rfl (by kernel_rfl) rfl ?_
      refine F0.s hC rfl (n' (W0.nil (by kernel_rfl) (re' ?_)))
      obtain rfl:=oi' hh
      exact ⟨_,.agg [.d (.int .i64 op),.d (.int .i64 0),.d (.str []),.d (.sl (A0.rows [x1.1,x3.1]))],[.row (D0.cells x3.2) 99],rfl,(.aggL ⟨.rfl,.rfl,.rfl,.full,trivial⟩),⟨⟨rfl,.refl _,rfl⟩,trivial⟩,rfl,rfl,rpq rfl rfl⟩
   ·refine gq [0] ((ih9 _ _ hx3).ok) rfl (n' ?_)
    refine st2 0 1 rfl (by kernel_rfl) rfl rfl ?_ ?_
    ·refine e' rfl ?_
     refine st1 1 rfl (by kernel_rfl) rfl ?_
     refine e' rfl ?_
     refine st1 4 rfl (by kernel_rfl) rfl ?_
     refine F0.be hC rfl (A0.rows_map [x1.1,x3.1]).symm (n' ?_)
     refine st1 5 rfl (by kernel_rfl) rfl ?_
     refine e' rfl ?_
     refine st1 6 rfl (by kernel_rfl) rfl ?_
     refine F0.s hC rfl (n' (W0.nil (by kernel_rfl) (re' ?_)))
     obtain rfl:=oi' hh
     exact ⟨_,.agg [.d (.int .i64 op),.d (.int .i64 0),.d (.str []),.d (.sl (A0.rows [x1.1,x3.1]))],[.row (D0.cells x3.2) 99],rfl,(.aggL ⟨.rfl,.rfl,.rfl,.full,trivial⟩),⟨⟨rfl,.refl _,rfl⟩,trivial⟩,rfl,rfl,rpq rfl rfl⟩
    ·refine e' rfl ?_
     refine st2 0 4 rfl (by kernel_rfl) rfl rfl ?_ ?_
     ·refine e' rfl ?_
      refine st1 4 rfl (by kernel_rfl) rfl ?_
      refine F0.be hC rfl (A0.rows_map [x1.1,x3.1]).symm (n' ?_)
      refine st1 5 rfl (by kernel_rfl) rfl ?_
      refine e' rfl ?_
      refine st1 6 rfl (by kernel_rfl) rfl ?_
      refine F0.s hC rfl (n' (W0.nil (by kernel_rfl) (re' ?_)))
      obtain rfl:=oi' hh
      exact ⟨_,.agg [.d (.int .i64 op),.d (.int .i64 0),.d (.str []),.d (.sl (A0.rows [x1.1,x3.1]))],[.row (D0.cells x3.2) 99],rfl,(.aggL ⟨.rfl,.rfl,.rfl,.full,trivial⟩),⟨⟨rfl,.refl _,rfl⟩,trivial⟩,rfl,rfl,rpq rfl rfl⟩
     ·refine F0.be hC rfl (A0.rows_map [x1.1,x3.1]).symm (n' ?_)
      refine st1 0 rfl (by kernel_rfl) rfl ?_
      refine e' rfl ?_
      refine st1 5 rfl (by kernel_rfl) rfl ?_
      refine e' rfl ?_
      refine st1 6 rfl (by kernel_rfl) rfl ?_
      refine F0.s hC rfl (n' (W0.nil (by kernel_rfl) (re' ?_)))
      obtain rfl:=oi' hh
      exact ⟨_,.agg [.d (.int .i64 op),.d (.int .i64 0),.d (.str []),.d (.sl (A0.rows [x1.1,x3.1]))],[.row (D0.cells x3.2) 99],rfl,(.aggL ⟨.rfl,.rfl,.rfl,.full,trivial⟩),⟨⟨rfl,.refl _,rfl⟩,trivial⟩,rfl,rfl,rpq rfl rfl⟩
 ·intro g10 ih10 parserParser res hh
  refine C2.intro hC Tryz.func189 rfl rfl rfl (s' rfl rfl (F0.n hC rfl (F0.nf hC rfl (n' (p' 4 rfl ?_)))))
  rcases bp' hh with ⟨nn,hx1,⟨⟩⟩ | ⟨x1,hx1,hh⟩
  ·exact gr [0,1] (ih10 _ _ hx1) rfl (peW ⟨trivial,trivial⟩ rfl)
  cases hh
  exact gq [0,1] ((ih10 _ _ hx1).ok) rfl (F0.s hC rfl (n' (re' (rq rfl))))
 ·intro g11 g12 ih11 ih12 parserParser res hh
  refine C2.intro hC Tryz.func110 rfl rfl rfl (s' rfl rfl (F0.nf hC rfl (n' (p' 1 rfl ?_))))
  rcases bp' hh with ⟨nn,hx1,⟨⟩⟩ | ⟨x1,hx1,hh⟩
  ·exact gr [0] (ih12 _ _ hx1) rfl (fun hi=>peW ⟨trivial,⟨rfl,.refl _,rfl⟩,trivial⟩ rfl hi)
  exact gq [0] ((ih12 _ _ hx1).ok) rfl (F0.nf hC rfl (F0.s hC rfl (n' (bk' (fq (ih11 _ _ _ hh) rfl)))))
 ·intro g11 g12 ih11 ih12 o0 o3 res hh
  obtain ⟨x2,hx2,hh⟩:=bs' hh
  refine X0.unroll (bk' (p' 1 rfl (gq [1,0] (Py hx2) rfl (e' rfl (S' (t' rfl (ci' rfl hh (fun hh=>?_) (fun hh=>?_))))))))
  ·cases hh
   exact p' 1 rfl (F0.s hC rfl (n' (re' (rq rfl))))
  refine sk' ?_
  rcases bp' hh with ⟨nn,hx3,⟨⟩⟩ | ⟨x3,hx3,hh⟩
  ·refine AEx.drawE hC ?_
   refine W0.step rfl (j0:=0) (js:=[1,2]) (by kernel_rfl) ⟨⟨_,rfl,?_⟩,⟨_,rfl,?_⟩,⟨_,rfl,?_⟩,trivial⟩
   ·refine e' rfl ?_
    refine st2 1 2 rfl (by kernel_rfl) rfl rfl ?_ ?_
    ·refine e' rfl ?_
     refine st1 2 rfl (by kernel_rfl) rfl ?_
     refine e' rfl ?_
     refine st1 3 rfl (by kernel_rfl) rfl ?_
     exact gr [0] (ih12 _ _ hx3) rfl (fun hi=>peW ⟨trivial,⟨rfl,.refl _,rfl⟩,trivial⟩ rfl hi)
    ·refine e' rfl ?_
     refine st2 1 3 rfl (by kernel_rfl) rfl rfl ?_ ?_
     ·refine e' rfl ?_
      refine st1 3 rfl (by kernel_rfl) rfl ?_
      exact gr [0] (ih12 _ _ hx3) rfl (fun hi=>peW ⟨trivial,⟨rfl,.refl _,rfl⟩,trivial⟩ rfl hi)
     ·exact gr [0] (ih12 _ _ hx3) rfl (fun hi=>peW ⟨trivial,⟨rfl,.refl _,rfl⟩,trivial⟩ rfl hi)
   ·refine e' rfl ?_
    refine st2 0 2 rfl (by kernel_rfl) rfl rfl ?_ ?_
    ·refine e' rfl ?_
     refine st1 2 rfl (by kernel_rfl) rfl ?_
     refine e' rfl ?_
     refine st1 3 rfl (by kernel_rfl) rfl ?_
     exact gr [0] (ih12 _ _ hx3) rfl (fun hi=>peW ⟨trivial,⟨rfl,.refl _,rfl⟩,trivial⟩ rfl hi)
    ·refine e' rfl ?_
     refine st2 0 3 rfl (by kernel_rfl) rfl rfl ?_ ?_
     ·refine e' rfl ?_
      refine st1 3 rfl (by kernel_rfl) rfl ?_
      exact gr [0] (ih12 _ _ hx3) rfl (fun hi=>peW ⟨trivial,⟨rfl,.refl _,rfl⟩,trivial⟩ rfl hi)
     ·exact gr [0] (ih12 _ _ hx3) rfl (fun hi=>peW ⟨trivial,⟨rfl,.refl _,rfl⟩,trivial⟩ rfl hi)
   ·refine e' rfl ?_
    refine W0.step rfl (j0:=0) (js:=[1,3]) (by kernel_rfl) ⟨⟨_,rfl,?_⟩,⟨_,rfl,?_⟩,⟨_,rfl,?_⟩,trivial⟩
    ·refine e' rfl ?_
     refine st2 1 3 rfl (by kernel_rfl) rfl rfl ?_ ?_
     ·refine e' rfl ?_
      refine st1 3 rfl (by kernel_rfl) rfl ?_
      exact gr [0] (ih12 _ _ hx3) rfl (fun hi=>peW ⟨trivial,⟨rfl,.refl _,rfl⟩,trivial⟩ rfl hi)
     ·exact gr [0] (ih12 _ _ hx3) rfl (fun hi=>peW ⟨trivial,⟨rfl,.refl _,rfl⟩,trivial⟩ rfl hi)
    ·refine e' rfl ?_
     refine st2 0 3 rfl (by kernel_rfl) rfl rfl ?_ ?_
     ·refine e' rfl ?_
      refine st1 3 rfl (by kernel_rfl) rfl ?_
      exact gr [0] (ih12 _ _ hx3) rfl (fun hi=>peW ⟨trivial,⟨rfl,.refl _,rfl⟩,trivial⟩ rfl hi)
     ·exact gr [0] (ih12 _ _ hx3) rfl (fun hi=>peW ⟨trivial,⟨rfl,.refl _,rfl⟩,trivial⟩ rfl hi)
    ·exact gr [0] (ih12 _ _ hx3) rfl (fun hi=>peW ⟨trivial,⟨rfl,.refl _,rfl⟩,trivial⟩ rfl hi)
  refine AEx.drawE hC ?_
  refine W0.step rfl (j0:=0) (js:=[1,2]) (by kernel_rfl) ⟨⟨_,rfl,?_⟩,⟨_,rfl,?_⟩,⟨_,rfl,?_⟩,trivial⟩
  ·refine e' rfl ?_
   refine st2 1 2 rfl (by kernel_rfl) rfl rfl ?_ ?_
   ·refine e' rfl ?_
    refine st1 2 rfl (by kernel_rfl) rfl ?_
    refine e' rfl ?_
    refine st1 3 rfl (by kernel_rfl) rfl ?_
    refine gq [0] ((ih12 _ _ hx3).ok) rfl (n' ?_)
    refine st1 4 rfl (by kernel_rfl) rfl ?_
    refine F0.be hC rfl (A0.rows_map [o3,x3.1]).symm (n' ?_)
    refine st1 5 rfl (by kernel_rfl) rfl ?_
    refine e' rfl ?_
    refine st1 6 rfl (by kernel_rfl) rfl ?_
    refine F0.s hC rfl (n' (W0.nil (by kernel_rfl) ?_))
    refine X0.wk ?_ (ih11 _ _ _ hh)
    exact ⟨⟨⟨.rfl,rfl⟩,⟨.rfl,rfl⟩,⟨.rfl,rfl⟩,⟨.rfl,rfl⟩,trivial⟩,⟨⟨rfl,.refl _,rfl⟩,⟨rfl,.refl _,rfl⟩,⟨rfl,.refl _,rfl⟩,⟨rfl,⟨.rfl,.rfl,.rfl,.full,trivial⟩,rfl⟩,trivial⟩,rfl⟩
   ·refine e' rfl ?_
    refine st2 1 3 rfl (by kernel_rfl) rfl rfl ?_ ?_
    ·refine e' rfl ?_
     refine st1 3 rfl (by kernel_rfl) rfl ?_
     refine gq [0] ((ih12 _ _ hx3).ok) rfl (n' ?_)
     refine st1 4 rfl (by kernel_rfl) rfl ?_
     refine F0.be hC rfl (A0.rows_map [o3,x3.1]).symm (n' ?_)
     refine st1 5 rfl (by kernel_rfl) rfl ?_
     refine e' rfl ?_
     refine st1 6 rfl (by kernel_rfl) rfl ?_
     refine F0.s hC rfl (n' (W0.nil (by kernel_rfl) ?_))
     refine X0.wk ?_ (ih11 _ _ _ hh)
     exact ⟨⟨⟨.rfl,rfl⟩,⟨.rfl,rfl⟩,⟨.rfl,rfl⟩,⟨.rfl,rfl⟩,trivial⟩,⟨⟨rfl,.refl _,rfl⟩,⟨rfl,.refl _,rfl⟩,⟨rfl,.refl _,rfl⟩,⟨rfl,⟨.rfl,.rfl,.rfl,.full,trivial⟩,rfl⟩,trivial⟩,rfl⟩
    ·refine gq [0] ((ih12 _ _ hx3).ok) rfl (n' ?_)
     refine st1 1 rfl (by kernel_rfl) rfl ?_
     refine e' rfl ?_
     refine st1 4 rfl (by kernel_rfl) rfl ?_
     refine F0.be hC rfl (A0.rows_map [o3,x3.1]).symm (n' ?_)
     refine st1 5 rfl (by kernel_rfl) rfl ?_
     refine e' rfl ?_
     refine st1 6 rfl (by kernel_rfl) rfl ?_
     refine F0.s hC rfl (n' (W0.nil (by kernel_rfl) ?_))
     refine X0.wk ?_ (ih11 _ _ _ hh)
     exact ⟨⟨⟨.rfl,rfl⟩,⟨.rfl,rfl⟩,⟨.rfl,rfl⟩,⟨.rfl,rfl⟩,trivial⟩,⟨⟨rfl,.refl _,rfl⟩,⟨rfl,.refl _,rfl⟩,⟨rfl,.refl _,rfl⟩,⟨rfl,⟨.rfl,.rfl,.rfl,.full,trivial⟩,rfl⟩,trivial⟩,rfl⟩
  ·refine e' rfl ?_
   refine st2 0 2 rfl (by kernel_rfl) rfl rfl ?_ ?_
   ·refine e' rfl ?_
    refine st1 2 rfl (by kernel_rfl) rfl ?_
    refine e' rfl ?_
    refine st1 3 rfl (by kernel_rfl) rfl ?_
    refine gq [0] ((ih12 _ _ hx3).ok) rfl (n' ?_)
    refine st1 4 rfl (by kernel_rfl) rfl ?_
    refine F0.be hC rfl (A0.rows_map [o3,x3.1]).symm (n' ?_)
    refine st1 5 rfl (by kernel_rfl) rfl ?_
    refine e' rfl ?_
    refine st1 6 rfl (by kernel_rfl) rfl ?_
    refine F0.s hC rfl (n' (W0.nil (by kernel_rfl) ?_))
    refine X0.wk ?_ (ih11 _ _ _ hh)
    exact ⟨⟨⟨.rfl,rfl⟩,⟨.rfl,rfl⟩,⟨.rfl,rfl⟩,⟨.rfl,rfl⟩,trivial⟩,⟨⟨rfl,.refl _,rfl⟩,⟨rfl,.refl _,rfl⟩,⟨rfl,.refl _,rfl⟩,⟨rfl,⟨.rfl,.rfl,.rfl,.full,trivial⟩,rfl⟩,trivial⟩,rfl⟩
   ·refine e' rfl ?_
    refine st2 0 3 rfl (by kernel_rfl) rfl rfl ?_ ?_
    ·refine e' rfl ?_
     refine st1 3 rfl (by kernel_rfl) rfl ?_
     refine gq [0] ((ih12 _ _ hx3).ok) rfl (n' ?_)
     refine st1 4 rfl (by kernel_rfl) rfl ?_
     refine F0.be hC rfl (A0.rows_map [o3,x3.1]).symm (n' ?_)
     refine st1 5 rfl (by kernel_rfl) rfl ?_
     refine e' rfl ?_
     refine st1 6 rfl (by kernel_rfl) rfl ?_
     refine F0.s hC rfl (n' (W0.nil (by kernel_rfl) ?_))
     refine X0.wk ?_ (ih11 _ _ _ hh)
     exact ⟨⟨⟨.rfl,rfl⟩,⟨.rfl,rfl⟩,⟨.rfl,rfl⟩,⟨.rfl,rfl⟩,trivial⟩,⟨⟨rfl,.refl _,rfl⟩,⟨rfl,.refl _,rfl⟩,⟨rfl,.refl _,rfl⟩,⟨rfl,⟨.rfl,.rfl,.rfl,.full,trivial⟩,rfl⟩,trivial⟩,rfl⟩
    ·refine gq [0] ((ih12 _ _ hx3).ok) rfl (n' ?_)
     refine st2 0 4 rfl (by kernel_rfl) rfl rfl ?_ ?_
     ·refine e' rfl ?_
      refine st1 4 rfl (by kernel_rfl) rfl ?_
      refine F0.be hC rfl (A0.rows_map [o3,x3.1]).symm (n' ?_)
      refine st1 5 rfl (by kernel_rfl) rfl ?_
      refine e' rfl ?_
      refine st1 6 rfl (by kernel_rfl) rfl ?_
      refine F0.s hC rfl (n' (W0.nil (by kernel_rfl) ?_))
      refine X0.wk ?_ (ih11 _ _ _ hh)
      exact ⟨⟨⟨.rfl,rfl⟩,⟨.rfl,rfl⟩,⟨.rfl,rfl⟩,⟨.rfl,rfl⟩,trivial⟩,⟨⟨rfl,.refl _,rfl⟩,⟨rfl,.refl _,rfl⟩,⟨rfl,.refl _,rfl⟩,⟨rfl,⟨.rfl,.rfl,.rfl,.full,trivial⟩,rfl⟩,trivial⟩,rfl⟩
     ·refine F0.be hC rfl (A0.rows_map [o3,x3.1]).symm (n' ?_)
      refine st1 0 rfl (by kernel_rfl) rfl ?_
      refine e' rfl ?_
      refine st1 5 rfl (by kernel_rfl) rfl ?_
      refine e' rfl ?_
      refine st1 6 rfl (by kernel_rfl) rfl ?_
      refine F0.s hC rfl (n' (W0.nil (by kernel_rfl) ?_))
      refine X0.wk ?_ (ih11 _ _ _ hh)
      exact ⟨⟨⟨.rfl,rfl⟩,⟨.rfl,rfl⟩,⟨.rfl,rfl⟩,⟨.rfl,rfl⟩,trivial⟩,⟨⟨rfl,.refl _,rfl⟩,⟨rfl,.refl _,rfl⟩,⟨rfl,.refl _,rfl⟩,⟨rfl,⟨.rfl,.rfl,.rfl,.full,trivial⟩,rfl⟩,trivial⟩,rfl⟩
  ·refine e' rfl ?_
   refine W0.step rfl (j0:=0) (js:=[1,3]) (by kernel_rfl) ⟨⟨_,rfl,?_⟩,⟨_,rfl,?_⟩,⟨_,rfl,?_⟩,trivial⟩
   ·refine e' rfl ?_
    refine st2 1 3 rfl (by kernel_rfl) rfl rfl ?_ ?_
    ·refine e' rfl ?_
     refine st1 3 rfl (by kernel_rfl) rfl ?_
     refine gq [0] ((ih12 _ _ hx3).ok) rfl (n' ?_)
     refine st1 4 rfl (by kernel_rfl) rfl ?_
     refine F0.be hC rfl (A0.rows_map [o3,x3.1]).symm (n' ?_)
     refine st1 5 rfl (by kernel_rfl) rfl ?_
     refine e' rfl ?_
     refine st1 6 rfl (by kernel_rfl) rfl ?_
     refine F0.s hC rfl (n' (W0.nil (by kernel_rfl) ?_))
     refine X0.wk ?_ (ih11 _ _ _ hh)
     exact ⟨⟨⟨.rfl,rfl⟩,⟨.rfl,rfl⟩,⟨.rfl,rfl⟩,⟨.rfl,rfl⟩,trivial⟩,⟨⟨rfl,.refl _,rfl⟩,⟨rfl,.refl _,rfl⟩,⟨rfl,.refl _,rfl⟩,⟨rfl,⟨.rfl,.rfl,.rfl,.full,trivial⟩,rfl⟩,trivial⟩,rfl⟩
    ·refine gq [0] ((ih12 _ _ hx3).ok) rfl (n' ?_)
     refine st1 1 rfl (by kernel_rfl) rfl ?_
     refine e' rfl ?_
     refine st1 4 rfl (by kernel_rfl) rfl ?_
     refine F0.be hC rfl (A0.rows_map [o3,x3.1]).symm (n' ?_)
     refine st1 5 rfl (by kernel_rfl) rfl ?_
     refine e' rfl ?_
     refine st1 6 rfl (by kernel_rfl) rfl ?_
     refine F0.s hC rfl (n' (W0.nil (by kernel_rfl) ?_))
     refine X0.wk ?_ (ih11 _ _ _ hh)
     exact ⟨⟨⟨.rfl,rfl⟩,⟨.rfl,rfl⟩,⟨.rfl,rfl⟩,⟨.rfl,rfl⟩,trivial⟩,⟨⟨rfl,.refl _,rfl⟩,⟨rfl,.refl _,rfl⟩,⟨rfl,.refl _,rfl⟩,⟨rfl,⟨.rfl,.rfl,.rfl,.full,trivial⟩,rfl⟩,trivial⟩,rfl⟩
   ·refine e' rfl ?_
    refine st2 0 3 rfl (by kernel_rfl) rfl rfl ?_ ?_
    ·refine e' rfl ?_
     refine st1 3 rfl (by kernel_rfl) rfl ?_
     refine gq [0] ((ih12 _ _ hx3).ok) rfl (n' ?_)
     refine st1 4 rfl (by kernel_rfl) rfl ?_
     refine F0.be hC rfl (A0.rows_map [o3,x3.1]).symm (n' ?_)
     refine st1 5 rfl (by kernel_rfl) rfl ?_
     refine e' rfl ?_
     refine st1 6 rfl (by kernel_rfl) rfl ?_
     refine F0.s hC rfl (n' (W0.nil (by kernel_rfl) ?_))
     refine X0.wk ?_ (ih11 _ _ _ hh)
     exact ⟨⟨⟨.rfl,rfl⟩,⟨.rfl,rfl⟩,⟨.rfl,rfl⟩,⟨.rfl,rfl⟩,trivial⟩,⟨⟨rfl,.refl _,rfl⟩,⟨rfl,.refl _,rfl⟩,⟨rfl,.refl _,rfl⟩,⟨rfl,⟨.rfl,.rfl,.rfl,.full,trivial⟩,rfl⟩,trivial⟩,rfl⟩
    ·refine gq [0] ((ih12 _ _ hx3).ok) rfl (n' ?_)
     refine st2 0 4 rfl (by kernel_rfl) rfl rfl ?_ ?_
     ·refine e' rfl ?_
      refine st1 4 rfl (by kernel_rfl) rfl ?_
      refine F0.be hC rfl (A0.rows_map [o3,x3.1]).symm (n' ?_)
      refine st1 5 rfl (by kernel_rfl) rfl ?_
      refine e' rfl ?_
      refine st1 6 rfl (by kernel_rfl) rfl ?_
      refine F0.s hC rfl (n' (W0.nil (by kernel_rfl) ?_))
      refine X0.wk ?_ (ih11 _ _ _ hh)
      exact ⟨⟨⟨.rfl,rfl⟩,⟨.rfl,rfl⟩,⟨.rfl,rfl⟩,⟨.rfl,rfl⟩,trivial⟩,⟨⟨rfl,.refl _,rfl⟩,⟨rfl,.refl _,rfl⟩,⟨rfl,.refl _,rfl⟩,⟨rfl,⟨.rfl,.rfl,.rfl,.full,trivial⟩,rfl⟩,trivial⟩,rfl⟩
     ·refine F0.be hC rfl (A0.rows_map [o3,x3.1]).symm (n' ?_)
      refine st1 0 rfl (by kernel_rfl) rfl ?_
      refine e' rfl ?_
      refine st1 5 rfl (by kernel_rfl) rfl ?_
      refine e' rfl ?_
      refine st1 6 rfl (by kernel_rfl) rfl ?_
      refine F0.s hC rfl (n' (W0.nil (by kernel_rfl) ?_))
      refine X0.wk ?_ (ih11 _ _ _ hh)
      exact ⟨⟨⟨.rfl,rfl⟩,⟨.rfl,rfl⟩,⟨.rfl,rfl⟩,⟨.rfl,rfl⟩,trivial⟩,⟨⟨rfl,.refl _,rfl⟩,⟨rfl,.refl _,rfl⟩,⟨rfl,.refl _,rfl⟩,⟨rfl,⟨.rfl,.rfl,.rfl,.full,trivial⟩,rfl⟩,trivial⟩,rfl⟩
   ·refine gq [0] ((ih12 _ _ hx3).ok) rfl (n' ?_)
    refine st2 0 1 rfl (by kernel_rfl) rfl rfl ?_ ?_
    ·refine e' rfl ?_
     refine st1 1 rfl (by kernel_rfl) rfl ?_
     refine e' rfl ?_
     refine st1 4 rfl (by kernel_rfl) rfl ?_
     refine F0.be hC rfl (A0.rows_map [o3,x3.1]).symm (n' ?_)
     refine st1 5 rfl (by kernel_rfl) rfl ?_
     refine e' rfl ?_
     refine st1 6 rfl (by kernel_rfl) rfl ?_
     refine F0.s hC rfl (n' (W0.nil (by kernel_rfl) ?_))
     refine X0.wk ?_ (ih11 _ _ _ hh)
     exact ⟨⟨⟨.rfl,rfl⟩,⟨.rfl,rfl⟩,⟨.rfl,rfl⟩,⟨.rfl,rfl⟩,trivial⟩,⟨⟨rfl,.refl _,rfl⟩,⟨rfl,.refl _,rfl⟩,⟨rfl,.refl _,rfl⟩,⟨rfl,⟨.rfl,.rfl,.rfl,.full,trivial⟩,rfl⟩,trivial⟩,rfl⟩
    ·refine e' rfl ?_
     refine st2 0 4 rfl (by kernel_rfl) rfl rfl ?_ ?_
     ·refine e' rfl ?_
      refine st1 4 rfl (by kernel_rfl) rfl ?_
      refine F0.be hC rfl (A0.rows_map [o3,x3.1]).symm (n' ?_)
      refine st1 5 rfl (by kernel_rfl) rfl ?_
      refine e' rfl ?_
      refine st1 6 rfl (by kernel_rfl) rfl ?_
      refine F0.s hC rfl (n' (W0.nil (by kernel_rfl) ?_))
      refine X0.wk ?_ (ih11 _ _ _ hh)
      exact ⟨⟨⟨.rfl,rfl⟩,⟨.rfl,rfl⟩,⟨.rfl,rfl⟩,⟨.rfl,rfl⟩,trivial⟩,⟨⟨rfl,.refl _,rfl⟩,⟨rfl,.refl _,rfl⟩,⟨rfl,.refl _,rfl⟩,⟨rfl,⟨.rfl,.rfl,.rfl,.full,trivial⟩,rfl⟩,trivial⟩,rfl⟩
     ·refine F0.be hC rfl (A0.rows_map [o3,x3.1]).symm (n' ?_)
      refine st1 0 rfl (by kernel_rfl) rfl ?_
      refine e' rfl ?_
      refine st1 5 rfl (by kernel_rfl) rfl ?_
      refine e' rfl ?_
      refine st1 6 rfl (by kernel_rfl) rfl ?_
      refine F0.s hC rfl (n' (W0.nil (by kernel_rfl) ?_))
      refine X0.wk ?_ (ih11 _ _ _ hh)
      exact ⟨⟨⟨.rfl,rfl⟩,⟨.rfl,rfl⟩,⟨.rfl,rfl⟩,⟨.rfl,rfl⟩,trivial⟩,⟨⟨rfl,.refl _,rfl⟩,⟨rfl,.refl _,rfl⟩,⟨rfl,.refl _,rfl⟩,⟨rfl,⟨.rfl,.rfl,.rfl,.full,trivial⟩,rfl⟩,trivial⟩,rfl⟩
 ·intro g13 ih13 parserParser res hh
  refine C2.intro hC Tryz.func203 rfl rfl rfl (s' rfl rfl (F0.n hC rfl (F0.nf hC rfl (n' (p' 4 rfl ?_)))))
  rcases bp' hh with ⟨nn,hx1,⟨⟩⟩ | ⟨x1,hx1,hh⟩
  ·exact gr [0,1] (ih13 _ _ hx1) rfl (peW ⟨trivial,trivial⟩ rfl)
  cases hh
  exact gq [0,1] ((ih13 _ _ hx1).ok) rfl (F0.s hC rfl (n' (re' (rq rfl))))
 ·intro g14 g15 ih14 ih15 parserParser res hh
  refine C2.intro hC Tryz.func110 rfl rfl rfl (s' rfl rfl (F0.nf hC rfl (n' (p' 1 rfl ?_))))
  rcases bp' hh with ⟨nn,hx1,⟨⟩⟩ | ⟨x1,hx1,hh⟩
  ·exact gr [0] (ih15 _ _ hx1) rfl (fun hi=>peW ⟨trivial,⟨rfl,.refl _,rfl⟩,trivial⟩ rfl hi)
  exact gq [0] ((ih15 _ _ hx1).ok) rfl (F0.nf hC rfl (F0.s hC rfl (n' (bk' (fq (ih14 _ _ _ hh) rfl)))))
 ·intro g14 g15 ih14 ih15 o0 o3 res hh
  obtain ⟨x2,hx2,hh⟩:=bs' hh
  refine X0.unroll (bk' (p' 1 rfl (gq [1,0] (Ot hx2) rfl (e' rfl (S' (t' rfl (ci' rfl hh (fun hh=>?_) (fun hh=>?_))))))))
  ·cases hh
   exact p' 1 rfl (F0.s hC rfl (n' (re' (rq rfl))))
  refine sk' ?_
  rcases bp' hh with ⟨nn,hx3,⟨⟩⟩ | ⟨x3,hx3,hh⟩
  ·refine AEx.drawE hC ?_
   refine W0.step rfl (j0:=0) (js:=[1,2]) (by kernel_rfl) ⟨⟨_,rfl,?_⟩,⟨_,rfl,?_⟩,⟨_,rfl,?_⟩,trivial⟩
   ·refine e' rfl ?_
    refine st2 1 2 rfl (by kernel_rfl) rfl rfl ?_ ?_
    ·refine e' rfl ?_
     refine st1 2 rfl (by kernel_rfl) rfl ?_
     refine e' rfl ?_
     refine st1 3 rfl (by kernel_rfl) rfl ?_
     exact gr [0] (ih15 _ _ hx3) rfl (fun hi=>peW ⟨trivial,⟨rfl,.refl _,rfl⟩,trivial⟩ rfl hi)
    ·refine e' rfl ?_
     refine st2 1 3 rfl (by kernel_rfl) rfl rfl ?_ ?_
     ·refine e' rfl ?_
      refine st1 3 rfl (by kernel_rfl) rfl ?_
      exact gr [0] (ih15 _ _ hx3) rfl (fun hi=>peW ⟨trivial,⟨rfl,.refl _,rfl⟩,trivial⟩ rfl hi)
     ·exact gr [0] (ih15 _ _ hx3) rfl (fun hi=>peW ⟨trivial,⟨rfl,.refl _,rfl⟩,trivial⟩ rfl hi)
   ·refine e' rfl ?_
    refine st2 0 2 rfl (by kernel_rfl) rfl rfl ?_ ?_
    ·refine e' rfl ?_
     refine st1 2 rfl (by kernel_rfl) rfl ?_
     refine e' rfl ?_
     refine st1 3 rfl (by kernel_rfl) rfl ?_
     exact gr [0] (ih15 _ _ hx3) rfl (fun hi=>peW ⟨trivial,⟨rfl,.refl _,rfl⟩,trivial⟩ rfl hi)
    ·refine e' rfl ?_
     refine st2 0 3 rfl (by kernel_rfl) rfl rfl ?_ ?_
     ·refine e' rfl ?_
      refine st1 3 rfl (by kernel_rfl) rfl ?_
      exact gr [0] (ih15 _ _ hx3) rfl (fun hi=>peW ⟨trivial,⟨rfl,.refl _,rfl⟩,trivial⟩ rfl hi)
     ·exact gr [0] (ih15 _ _ hx3) rfl (fun hi=>peW ⟨trivial,⟨rfl,.refl _,rfl⟩,trivial⟩ rfl hi)
   ·refine e' rfl ?_
    refine W0.step rfl (j0:=0) (js:=[1,3]) (by kernel_rfl) ⟨⟨_,rfl,?_⟩,⟨_,rfl,?_⟩,⟨_,rfl,?_⟩,trivial⟩
    ·refine e' rfl ?_
     refine st2 1 3 rfl (by kernel_rfl) rfl rfl ?_ ?_
     ·refine e' rfl ?_
      refine st1 3 rfl (by kernel_rfl) rfl ?_
      exact gr [0] (ih15 _ _ hx3) rfl (fun hi=>peW ⟨trivial,⟨rfl,.refl _,rfl⟩,trivial⟩ rfl hi)
     ·exact gr [0] (ih15 _ _ hx3) rfl (fun hi=>peW ⟨trivial,⟨rfl,.refl _,rfl⟩,trivial⟩ rfl hi)
    ·refine e' rfl ?_
     refine st2 0 3 rfl (by kernel_rfl) rfl rfl ?_ ?_
     ·refine e' rfl ?_
      refine st1 3 rfl (by kernel_rfl) rfl ?_
      exact gr [0] (ih15 _ _ hx3) rfl (fun hi=>peW ⟨trivial,⟨rfl,.refl _,rfl⟩,trivial⟩ rfl hi)
     ·exact gr [0] (ih15 _ _ hx3) rfl (fun hi=>peW ⟨trivial,⟨rfl,.refl _,rfl⟩,trivial⟩ rfl hi)
    ·exact gr [0] (ih15 _ _ hx3) rfl (fun hi=>peW ⟨trivial,⟨rfl,.refl _,rfl⟩,trivial⟩ rfl hi)
  refine AEx.drawE hC ?_
  refine W0.step rfl (j0:=0) (js:=[1,2]) (by kernel_rfl) ⟨⟨_,rfl,?_⟩,⟨_,rfl,?_⟩,⟨_,rfl,?_⟩,trivial⟩
  ·refine e' rfl ?_
   refine st2 1 2 rfl (by kernel_rfl) rfl rfl ?_ ?_
   ·refine e' rfl ?_
    refine st1 2 rfl (by kernel_rfl) rfl ?_
    refine e' rfl ?_
    refine st1 3 rfl (by kernel_rfl) rfl ?_
    refine gq [0] ((ih15 _ _ hx3).ok) rfl (n' ?_)
    refine st1 4 rfl (by kernel_rfl) rfl ?_
    refine F0.be hC rfl (A0.rows_map [o3,x3.1]).symm (n' ?_)
    refine st1 5 rfl (by kernel_rfl) rfl ?_
    refine e' rfl ?_
    refine st1 6 rfl (by kernel_rfl) rfl ?_
    refine F0.s hC rfl (n' (W0.nil (by kernel_rfl) ?_))
    refine X0.wk ?_ (ih14 _ _ _ hh)
    exact ⟨⟨⟨.rfl,rfl⟩,⟨.rfl,rfl⟩,⟨.rfl,rfl⟩,⟨.rfl,rfl⟩,trivial⟩,⟨⟨rfl,.refl _,rfl⟩,⟨rfl,.refl _,rfl⟩,⟨rfl,.refl _,rfl⟩,⟨rfl,⟨.rfl,.rfl,.rfl,.full,trivial⟩,rfl⟩,trivial⟩,rfl⟩
   ·refine e' rfl ?_
    refine st2 1 3 rfl (by kernel_rfl) rfl rfl ?_ ?_
    ·refine e' rfl ?_
     refine st1 3 rfl (by kernel_rfl) rfl ?_
     refine gq [0] ((ih15 _ _ hx3).ok) rfl (n' ?_)
     refine st1 4 rfl (by kernel_rfl) rfl ?_
     refine F0.be hC rfl (A0.rows_map [o3,x3.1]).symm (n' ?_)
     refine st1 5 rfl (by kernel_rfl) rfl ?_
     refine e' rfl ?_
     refine st1 6 rfl (by kernel_rfl) rfl ?_
     refine F0.s hC rfl (n' (W0.nil (by kernel_rfl) ?_))
     refine X0.wk ?_ (ih14 _ _ _ hh)
     exact ⟨⟨⟨.rfl,rfl⟩,⟨.rfl,rfl⟩,⟨.rfl,rfl⟩,⟨.rfl,rfl⟩,trivial⟩,⟨⟨rfl,.refl _,rfl⟩,⟨rfl,.refl _,rfl⟩,⟨rfl,.refl _,rfl⟩,⟨rfl,⟨.rfl,.rfl,.rfl,.full,trivial⟩,rfl⟩,trivial⟩,rfl⟩
    ·refine gq [0] ((ih15 _ _ hx3).ok) rfl (n' ?_)
     refine st1 1 rfl (by kernel_rfl) rfl ?_
     refine e' rfl ?_
     refine st1 4 rfl (by kernel_rfl) rfl ?_
     refine F0.be hC rfl (A0.rows_map [o3,x3.1]).symm (n' ?_)
     refine st1 5 rfl (by kernel_rfl) rfl ?_
     refine e' rfl ?_
     refine st1 6 rfl (by kernel_rfl) rfl ?_
     refine F0.s hC rfl (n' (W0.nil (by kernel_rfl) ?_))
     refine X0.wk ?_ (ih14 _ _ _ hh)
     exact ⟨⟨⟨.rfl,rfl⟩,⟨.rfl,rfl⟩,⟨.rfl,rfl⟩,⟨.rfl,rfl⟩,trivial⟩,⟨⟨rfl,.refl _,rfl⟩,⟨rfl,.refl _,rfl⟩,⟨rfl,.refl _,rfl⟩,⟨rfl,⟨.rfl,.rfl,.rfl,.full,trivial⟩,rfl⟩,trivial⟩,rfl⟩
  ·refine e' rfl ?_
   refine st2 0 2 rfl (by kernel_rfl) rfl rfl ?_ ?_
   ·refine e' rfl ?_
    refine st1 2 rfl (by kernel_rfl) rfl ?_
    refine e' rfl ?_
    refine st1 3 rfl (by kernel_rfl) rfl ?_
    refine gq [0] ((ih15 _ _ hx3).ok) rfl (n' ?_)
    refine st1 4 rfl (by kernel_rfl) rfl ?_
    refine F0.be hC rfl (A0.rows_map [o3,x3.1]).symm (n' ?_)
    refine st1 5 rfl (by kernel_rfl) rfl ?_
    refine e' rfl ?_
    refine st1 6 rfl (by kernel_rfl) rfl ?_
    refine F0.s hC rfl (n' (W0.nil (by kernel_rfl) ?_))
    refine X0.wk ?_ (ih14 _ _ _ hh)
    exact ⟨⟨⟨.rfl,rfl⟩,⟨.rfl,rfl⟩,⟨.rfl,rfl⟩,⟨.rfl,rfl⟩,trivial⟩,⟨⟨rfl,.refl _,rfl⟩,⟨rfl,.refl _,rfl⟩,⟨rfl,.refl _,rfl⟩,⟨rfl,⟨.rfl,.rfl,.rfl,.full,trivial⟩,rfl⟩,trivial⟩,rfl⟩
   ·refine e' rfl ?_
    refine st2 0 3 rfl (by kernel_rfl) rfl rfl ?_ ?_
    ·refine e' rfl ?_
     refine st1 3 rfl (by kernel_rfl) rfl ?_
     refine gq [0] ((ih15 _ _ hx3).ok) rfl (n' ?_)
     refine st1 4 rfl (by kernel_rfl) rfl ?_
     refine F0.be hC rfl (A0.rows_map [o3,x3.1]).symm (n' ?_)
     refine st1 5 rfl (by kernel_rfl) rfl ?_
     refine e' rfl ?_
     refine st1 6 rfl (by kernel_rfl) rfl ?_
     refine F0.s hC rfl (n' (W0.nil (by kernel_rfl) ?_))
     refine X0.wk ?_ (ih14 _ _ _ hh)
     exact ⟨⟨⟨.rfl,rfl⟩,⟨.rfl,rfl⟩,⟨.rfl,rfl⟩,⟨.rfl,rfl⟩,trivial⟩,⟨⟨rfl,.refl _,rfl⟩,⟨rfl,.refl _,rfl⟩,⟨rfl,.refl _,rfl⟩,⟨rfl,⟨.rfl,.rfl,.rfl,.full,trivial⟩,rfl⟩,trivial⟩,rfl⟩
    ·refine gq [0] ((ih15 _ _ hx3).ok) rfl (n' ?_)
     refine st2 0 4 rfl (by kernel_rfl) rfl rfl ?_ ?_
     ·refine e' rfl ?_
      refine st1 4 rfl (by kernel_rfl) rfl ?_
      refine F0.be hC rfl (A0.rows_map [o3,x3.1]).symm (n' ?_)
      refine st1 5 rfl (by kernel_rfl) rfl ?_
      refine e' rfl ?_
      refine st1 6 rfl (by kernel_rfl) rfl ?_
      refine F0.s hC rfl (n' (W0.nil (by kernel_rfl) ?_))
      refine X0.wk ?_ (ih14 _ _ _ hh)
      exact ⟨⟨⟨.rfl,rfl⟩,⟨.rfl,rfl⟩,⟨.rfl,rfl⟩,⟨.rfl,rfl⟩,trivial⟩,⟨⟨rfl,.refl _,rfl⟩,⟨rfl,.refl _,rfl⟩,⟨rfl,.refl _,rfl⟩,⟨rfl,⟨.rfl,.rfl,.rfl,.full,trivial⟩,rfl⟩,trivial⟩,rfl⟩
     ·refine F0.be hC rfl (A0.rows_map [o3,x3.1]).symm (n' ?_)
      refine st1 0 rfl (by kernel_rfl) rfl ?_
      refine e' rfl ?_
      refine st1 5 rfl (by kernel_rfl) rfl ?_
      refine e' rfl ?_
      refine st1 6 rfl (by kernel_rfl) rfl ?_
      refine F0.s hC rfl (n' (W0.nil (by kernel_rfl) ?_))
      refine X0.wk ?_ (ih14 _ _ _ hh)
      exact ⟨⟨⟨.rfl,rfl⟩,⟨.rfl,rfl⟩,⟨.rfl,rfl⟩,⟨.rfl,rfl⟩,trivial⟩,⟨⟨rfl,.refl _,rfl⟩,⟨rfl,.refl _,rfl⟩,⟨rfl,.refl _,rfl⟩,⟨rfl,⟨.rfl,.rfl,.rfl,.full,trivial⟩,rfl⟩,trivial⟩,rfl⟩
  ·refine e' rfl ?_
   refine W0.step rfl (j0:=0) (js:=[1,3]) (by kernel_rfl) ⟨⟨_,rfl,?_⟩,⟨_,rfl,?_⟩,⟨_,rfl,?_⟩,trivial⟩
   ·refine e' rfl ?_
    refine st2 1 3 rfl (by kernel_rfl) rfl rfl ?_ ?_
    ·refine e' rfl ?_
     refine st1 3 rfl (by kernel_rfl) rfl ?_
     refine gq [0] ((ih15 _ _ hx3).ok) rfl (n' ?_)
     refine st1 4 rfl (by kernel_rfl) rfl ?_
     refine F0.be hC rfl (A0.rows_map [o3,x3.1]).symm (n' ?_)
     refine st1 5 rfl (by kernel_rfl) rfl ?_
     refine e' rfl ?_
     refine st1 6 rfl (by kernel_rfl) rfl ?_
     refine F0.s hC rfl (n' (W0.nil (by kernel_rfl) ?_))
     refine X0.wk ?_ (ih14 _ _ _ hh)
     exact ⟨⟨⟨.rfl,rfl⟩,⟨.rfl,rfl⟩,⟨.rfl,rfl⟩,⟨.rfl,rfl⟩,trivial⟩,⟨⟨rfl,.refl _,rfl⟩,⟨rfl,.refl _,rfl⟩,⟨rfl,.refl _,rfl⟩,⟨rfl,⟨.rfl,.rfl,.rfl,.full,trivial⟩,rfl⟩,trivial⟩,rfl⟩
    ·refine gq [0] ((ih15 _ _ hx3).ok) rfl (n' ?_)
     refine st1 1 rfl (by kernel_rfl) rfl ?_
     refine e' rfl ?_
     refine st1 4 rfl (by kernel_rfl) rfl ?_
     refine F0.be hC rfl (A0.rows_map [o3,x3.1]).symm (n' ?_)
     refine st1 5 rfl (by kernel_rfl) rfl ?_
     refine e' rfl ?_
     refine st1 6 rfl (by kernel_rfl) rfl ?_
     refine F0.s hC rfl (n' (W0.nil (by kernel_rfl) ?_))
     refine X0.wk ?_ (ih14 _ _ _ hh)
     exact ⟨⟨⟨.rfl,rfl⟩,⟨.rfl,rfl⟩,⟨.rfl,rfl⟩,⟨.rfl,rfl⟩,trivial⟩,⟨⟨rfl,.refl _,rfl⟩,⟨rfl,.refl _,rfl⟩,⟨rfl,.refl _,rfl⟩,⟨rfl,⟨.rfl,.rfl,.rfl,.full,trivial⟩,rfl⟩,trivial⟩,rfl⟩
   ·refine e' rfl ?_
    refine st2 0 3 rfl (by kernel_rfl) rfl rfl ?_ ?_
    ·refine e' rfl ?_
     refine st1 3 rfl (by kernel_rfl) rfl ?_
     refine gq [0] ((ih15 _ _ hx3).ok) rfl (n' ?_)
     refine st1 4 rfl (by kernel_rfl) rfl ?_
     refine F0.be hC rfl (A0.rows_map [o3,x3.1]).symm (n' ?_)
     refine st1 5 rfl (by kernel_rfl) rfl ?_
     refine e' rfl ?_
     refine st1 6 rfl (by kernel_rfl) rfl ?_
     refine F0.s hC rfl (n' (W0.nil (by kernel_rfl) ?_))
     refine X0.wk ?_ (ih14 _ _ _ hh)
     exact ⟨⟨⟨.rfl,rfl⟩,⟨.rfl,rfl⟩,⟨.rfl,rfl⟩,⟨.rfl,rfl⟩,trivial⟩,⟨⟨rfl,.refl _,rfl⟩,⟨rfl,.refl _,rfl⟩,⟨rfl,.refl _,rfl⟩,⟨rfl,⟨.rfl,.rfl,.rfl,.full,trivial⟩,rfl⟩,trivial⟩,rfl⟩
    ·refine gq [0] ((ih15 _ _ hx3).ok) rfl (n' ?_)
     refine st2 0 4 rfl (by kernel_rfl) rfl rfl ?_ ?_
     ·refine e' rfl ?_
      refine st1 4 rfl (by kernel_rfl) rfl ?_
      refine F0.be hC rfl (A0.rows_map [o3,x3.1]).symm (n' ?_)
      refine st1 5 rfl (by kernel_rfl) rfl ?_
      refine e' rfl ?_
      refine st1 6 rfl (by kernel_rfl) rfl ?_
      refine F0.s hC rfl (n' (W0.nil (by kernel_rfl) ?_))
      refine X0.wk ?_ (ih14 _ _ _ hh)
      exact ⟨⟨⟨.rfl,rfl⟩,⟨.rfl,rfl⟩,⟨.rfl,rfl⟩,⟨.rfl,rfl⟩,trivial⟩,⟨⟨rfl,.refl _,rfl⟩,⟨rfl,.refl _,rfl⟩,⟨rfl,.refl _,rfl⟩,⟨rfl,⟨.rfl,.rfl,.rfl,.full,trivial⟩,rfl⟩,trivial⟩,rfl⟩
     ·refine F0.be hC rfl (A0.rows_map [o3,x3.1]).symm (n' ?_)
      refine st1 0 rfl (by kernel_rfl) rfl ?_
      refine e' rfl ?_
      refine st1 5 rfl (by kernel_rfl) rfl ?_
      refine e' rfl ?_
      refine st1 6 rfl (by kernel_rfl) rfl ?_
      refine F0.s hC rfl (n' (W0.nil (by kernel_rfl) ?_))
      refine X0.wk ?_ (ih14 _ _ _ hh)
      exact ⟨⟨⟨.rfl,rfl⟩,⟨.rfl,rfl⟩,⟨.rfl,rfl⟩,⟨.rfl,rfl⟩,trivial⟩,⟨⟨rfl,.refl _,rfl⟩,⟨rfl,.refl _,rfl⟩,⟨rfl,.refl _,rfl⟩,⟨rfl,⟨.rfl,.rfl,.rfl,.full,trivial⟩,rfl⟩,trivial⟩,rfl⟩
   ·refine gq [0] ((ih15 _ _ hx3).ok) rfl (n' ?_)
    refine st2 0 1 rfl (by kernel_rfl) rfl rfl ?_ ?_
    ·refine e' rfl ?_
     refine st1 1 rfl (by kernel_rfl) rfl ?_
     refine e' rfl ?_
     refine st1 4 rfl (by kernel_rfl) rfl ?_
     refine F0.be hC rfl (A0.rows_map [o3,x3.1]).symm (n' ?_)
     refine st1 5 rfl (by kernel_rfl) rfl ?_
     refine e' rfl ?_
     refine st1 6 rfl (by kernel_rfl) rfl ?_
     refine F0.s hC rfl (n' (W0.nil (by kernel_rfl) ?_))
     refine X0.wk ?_ (ih14 _ _ _ hh)
     exact ⟨⟨⟨.rfl,rfl⟩,⟨.rfl,rfl⟩,⟨.rfl,rfl⟩,⟨.rfl,rfl⟩,trivial⟩,⟨⟨rfl,.refl _,rfl⟩,⟨rfl,.refl _,rfl⟩,⟨rfl,.refl _,rfl⟩,⟨rfl,⟨.rfl,.rfl,.rfl,.full,trivial⟩,rfl⟩,trivial⟩,rfl⟩
    ·refine e' rfl ?_
     refine st2 0 4 rfl (by kernel_rfl) rfl rfl ?_ ?_
     ·refine e' rfl ?_
      refine st1 4 rfl (by kernel_rfl) rfl ?_
      refine F0.be hC rfl (A0.rows_map [o3,x3.1]).symm (n' ?_)
      refine st1 5 rfl (by kernel_rfl) rfl ?_
      refine e' rfl ?_
      refine st1 6 rfl (by kernel_rfl) rfl ?_
      refine F0.s hC rfl (n' (W0.nil (by kernel_rfl) ?_))
      refine X0.wk ?_ (ih14 _ _ _ hh)
      exact ⟨⟨⟨.rfl,rfl⟩,⟨.rfl,rfl⟩,⟨.rfl,rfl⟩,⟨.rfl,rfl⟩,trivial⟩,⟨⟨rfl,.refl _,rfl⟩,⟨rfl,.refl _,rfl⟩,⟨rfl,.refl _,rfl⟩,⟨rfl,⟨.rfl,.rfl,.rfl,.full,trivial⟩,rfl⟩,trivial⟩,rfl⟩
     ·refine F0.be hC rfl (A0.rows_map [o3,x3.1]).symm (n' ?_)
      refine st1 0 rfl (by kernel_rfl) rfl ?_
      refine e' rfl ?_
      refine st1 5 rfl (by kernel_rfl) rfl ?_
      refine e' rfl ?_
      refine st1 6 rfl (by kernel_rfl) rfl ?_
      refine F0.s hC rfl (n' (W0.nil (by kernel_rfl) ?_))
      refine X0.wk ?_ (ih14 _ _ _ hh)
      exact ⟨⟨⟨.rfl,rfl⟩,⟨.rfl,rfl⟩,⟨.rfl,rfl⟩,⟨.rfl,rfl⟩,trivial⟩,⟨⟨rfl,.refl _,rfl⟩,⟨rfl,.refl _,rfl⟩,⟨rfl,.refl _,rfl⟩,⟨rfl,⟨.rfl,.rfl,.rfl,.full,trivial⟩,rfl⟩,trivial⟩,rfl⟩
 ·intro g15 g16 ih15 ih16 parserParser res hh
  obtain ⟨x1,hx1,hh⟩:=bs' hh
  refine C2.intro hC Tryz.func214 rfl rfl rfl (s' rfl rfl (F0.nf hC rfl (n' (S' (bk' (p' 1 rfl (gq [0] (T0 hx1) rfl (e' rfl (ci' rfl hh (fun hh=>?_) (fun hh=>?_))))))))))
  ·refine p' 1 rfl ?_
   rcases bp' hh with ⟨nn,hx4,⟨⟩⟩ | ⟨x4,hx4,hh⟩
   ·exact gr [0] (ih15 _ _ hx4) rfl (peW ⟨trivial,trivial⟩ rfl)
   refine gq [0] ((ih15 _ _ hx4).ok) rfl (F0.be hC rfl (A0.rows_map [x4.1]).symm (q' rfl (F0.s hC rfl (n' (re' ?_)))))
   obtain rfl:=oi' hh
   exact ⟨_,.agg [.d (.int .i64 6),.d (.int .i64 0),.d (.str []),.d (.sl (A0.rows [x4.1]))],[.row (D0.cells x4.2) 99],rfl,(.aggL ⟨.rfl,.rfl,.rfl,.full,trivial⟩),⟨⟨rfl,.refl _,rfl⟩,trivial⟩,rfl,rfl,rpq rfl rfl⟩
  obtain ⟨x2,hx2,hh⟩:=bs' hh
  refine p' 1 rfl (gq [0] (T0 hx2) rfl (e' rfl (ci' rfl hh (fun hh=>?_) (fun hh=>?_))))
  ·refine p' 1 rfl ?_
   rcases bp' hh with ⟨nn,hx5,⟨⟩⟩ | ⟨x5,hx5,hh⟩
   ·exact gr [0] (ih15 _ _ hx5) rfl (peW ⟨trivial,trivial⟩ rfl)
   refine gq [0] ((ih15 _ _ hx5).ok) rfl (F0.be hC rfl (A0.rows_map [x5.1]).symm (q' rfl (F0.s hC rfl (n' (re' ?_)))))
   obtain rfl:=oi' hh
   exact ⟨_,.agg [.d (.int .i64 7),.d (.int .i64 0),.d (.str []),.d (.sl (A0.rows [x5.1]))],[.row (D0.cells x5.2) 99],rfl,(.aggL ⟨.rfl,.rfl,.rfl,.full,trivial⟩),⟨⟨rfl,.refl _,rfl⟩,trivial⟩,rfl,rfl,rpq rfl rfl⟩
  refine sk' (p' 1 rfl ?_)
  rcases bp' hh with ⟨nn,hx3,⟨⟩⟩ | ⟨x3,hx3,hh⟩
  ·exact gr [0] (ih16 _ _ hx3) rfl (peW ⟨trivial,trivial⟩ rfl)
  cases hh
  exact gq [0] ((ih16 _ _ hx3).ok) rfl (F0.s hC rfl (n' (re' (rq rfl))))
 ·intro g0 g17 g18 ih0 ih17 ih18 parserParser res hh
  obtain ⟨x1,hx1,hh⟩:=bs' hh
  refine C2.intro hC Tryz.func223 rfl rfl rfl (s' rfl rfl (F0.nf hC rfl (n' (S' (bk' (p' 1 rfl (gq [0] (Ch hx1) rfl (e' rfl (ci' rfl hh (fun hh=>?_) (fun hh=>?_))))))))))
  ·refine p' 1 rfl ?_
   rcases bp' hh with ⟨nn,hx2,⟨⟩⟩ | ⟨x2,hx2,hh⟩
   ·exact gr [0] (ih18 _ _ hx2) rfl (peW ⟨trivial,trivial⟩ rfl)
   cases hh
   exact gq [0] ((ih18 _ _ hx2).ok) rfl (F0.s hC rfl (n' (re' (rq rfl))))
  obtain ⟨x3,hx3,hh⟩:=bs' hh
  refine p' 1 rfl (gq [0] (T0 hx3) rfl (e' rfl (ci' rfl hh (fun hh=>?_) (fun hh=>?_))))
  ·cases hh
   exact p' 1 rfl (F0.s hC rfl (n' (re' (rq rfl))))
  obtain ⟨x4,hx4,hh⟩:=bs' hh
  refine p' 1 rfl (gq [0] (T0 hx4) rfl (e' rfl (ci' rfl hh (fun hh=>?_) (fun hh=>?_))))
  ·cases hh
   exact p' 1 rfl (F0.s hC rfl (n' (re' (rq rfl))))
  obtain ⟨x5,hx5,hh⟩:=bs' hh
  refine p' 1 rfl (gq [0] (T0 hx5) rfl (e' rfl (ci' rfl hh (fun hh=>?_) (fun hh=>?_))))
  ·refine p' 1 rfl ?_
   rcases bp' hh with ⟨nn,hx11,⟨⟩⟩ | ⟨x11,hx11,hh⟩
   ·exact gr [0] (ih17 _ _ _ hx11) rfl (peW ⟨trivial,trivial⟩ rfl)
   cases hh
   exact gq [0] ((ih17 _ _ _ hx11).ok) rfl (F0.s hC rfl (n' (re' (rq rfl))))
  obtain ⟨x6,hx6,hh⟩:=bs' hh
  refine p' 1 rfl (gq [0] (T0 hx6) rfl (e' rfl (ci' rfl hh (fun hh=>?_) (fun hh=>?_))))
  ·refine p' 1 rfl ?_
   rcases bp' hh with ⟨nn,hx12,⟨⟩⟩ | ⟨x12,hx12,hh⟩
   ·exact gr [0] (ih17 _ _ _ hx12) rfl (peW ⟨trivial,trivial⟩ rfl)
   cases hh
   exact gq [0] ((ih17 _ _ _ hx12).ok) rfl (F0.s hC rfl (n' (re' (rq rfl))))
  obtain ⟨x7,hx7,hh⟩:=bs' hh
  refine p' 1 rfl (gq [0] (T0 hx7) rfl (e' rfl (ci' rfl hh (fun hh=>?_) (fun hh=>?_))))
  ·refine p' 1 rfl ?_
   rcases bp' hh with ⟨nn,hx9,⟨⟩⟩ | ⟨x9,hx9,hh⟩
   ·exact gr [0] (ih0 _ _ hx9) rfl (peW ⟨trivial,trivial⟩ rfl)
   refine gq [0] ((ih0 _ _ hx9).ok) rfl (F0.nf hC rfl (F0.s hC rfl (n' (p' 1 rfl ?_))))
   rcases bp' hh with ⟨nn,hx10,⟨⟩⟩ | ⟨x10,hx10,hh⟩
   ·exact gr [0] (J0 hx10) rfl (peW ⟨trivial,trivial⟩ rfl)
   cases hh
   exact gq [0] ((J0 hx10).ok) rfl (n' (p' 1 rfl (F0.s hC rfl (n' (re' (rq rfl))))))
  refine sk' (p' 1 rfl ?_)
  rcases bp' hh with ⟨nn,hx8,⟨⟩⟩ | ⟨x8,hx8,hh⟩
  ·exact gr [0] (E7 hx8) rfl (peW ⟨trivial,trivial⟩ rfl)
  cases hh
  exact gq [0] ((E7 hx8).ok) rfl (q' rfl (F0.s hC rfl (n' (re' (rq rfl)))))
 ·intro g0 ih0 op parserParser res hh
  refine C2.intro hC Tryz.func228 rfl rfl rfl (s' rfl rfl (F0.nf hC rfl (n' (p' 1 rfl ?_))))
  rcases bp' hh with ⟨nn,hx1,⟨⟩⟩ | ⟨x1,hx1,hh⟩
  ·exact gr [0] (J0 hx1) rfl (peW ⟨trivial,trivial⟩ rfl)
  refine gq [0] ((J0 hx1).ok) rfl (n' (p' 1 rfl ?_))
  rcases bp' hh with ⟨nn,hx2,⟨⟩⟩ | ⟨x2,hx2,hh⟩
  ·exact gr [0] (ih0 _ _ hx2) rfl (peW ⟨trivial,trivial⟩ rfl)
  refine gq [0] ((ih0 _ _ hx2).ok) rfl (F0.nf hC rfl (F0.s hC rfl (n' (p' 1 rfl ?_))))
  rcases bp' hh with ⟨nn,hx3,⟨⟩⟩ | ⟨x3,hx3,hh⟩
  ·exact gr [0] (J0 hx3) rfl (peW ⟨trivial,trivial⟩ rfl)
  refine gq [0] ((J0 hx3).ok) rfl (n' (p' 1 rfl ?_))
  rcases bp' hh with ⟨nn,hx4,⟨⟩⟩ | ⟨x4,hx4,hh⟩
  ·exact gr [0] (ih0 _ _ hx4) rfl (peW ⟨trivial,trivial⟩ rfl)
  refine gq [0] ((ih0 _ _ hx4).ok) rfl (F0.nf hC rfl (F0.s hC rfl (n' (p' 1 rfl ?_))))
  rcases bp' hh with ⟨nn,hx5,⟨⟩⟩ | ⟨x5,hx5,hh⟩
  ·exact gr [0] (J0 hx5) rfl (peW ⟨trivial,trivial⟩ rfl)
  refine gq [0] ((J0 hx5).ok) rfl (n' (p' 3 rfl (F0.be hC rfl (A0.rows_map [x2.1,x4.1]).symm (q' rfl (F0.s hC rfl (n' (re' ?_)))))))
  obtain rfl:=oi' hh
  exact ⟨_,.agg [.d (.int .i64 op),.d (.int .i64 0),.d (.str []),.d (.sl (A0.rows [x2.1,x4.1]))],[.row (D0.cells x5) 99],rfl,(.aggL ⟨.rfl,.rfl,.rfl,.full,trivial⟩),⟨⟨rfl,.refl _,rfl⟩,trivial⟩,rfl,rfl,rpq rfl rfl⟩
 ·intro g19 ih19 parserParser res hh
  refine C2.intro hC Tryz.func195 rfl rfl rfl (s' rfl rfl (F0.nf hC rfl (n' (p' 1 rfl ?_))))
  rcases bp' hh with ⟨nn,hx1,⟨⟩⟩ | ⟨x1,hx1,hh⟩
  ·exact gr [0] (E1 hx1) rfl (peW ⟨trivial,trivial⟩ rfl)
  exact gq [0] ((E1 hx1).ok) rfl (q' rfl (F0.nf hC rfl (F0.s hC rfl (n' (bk' (fq (ih19 _ _ _ _ _ hh) rfl))))))
 ·intro g0 g19 ih0 ih19 o0 o2_Op o2_Name o2_Kids res hh
  obtain ⟨x2,hx2,hh⟩:=bs' hh
  refine X0.unroll (bk' (bk' (p' 1 rfl (gq [0] (T0 hx2) rfl (e' rfl (ci' rfl hh (fun hh=>?_) (fun hh=>?_)))))))
  ·rcases bp' hh with ⟨nn,hx3,⟨⟩⟩ | ⟨x3,hx3,hh⟩
   ·refine AEx.drawE hC ?_
    refine st2 0 2 rfl (by kernel_rfl) rfl rfl ?_ ?_
    ·refine e' rfl ?_
     refine st2 1 2 rfl (by kernel_rfl) rfl rfl ?_ ?_
     ·exact gr [0] (E1 hx3) rfl (peW ⟨trivial,trivial⟩ rfl)
     ·refine e' rfl ?_
      refine st2 1 3 rfl (by kernel_rfl) rfl rfl ?_ ?_
      ·exact gr [0] (E1 hx3) rfl (peW ⟨trivial,trivial⟩ rfl)
      ·refine F0.be hC rfl (A0.rows_map [(A0.mk o2_Op 0 o2_Name o2_Kids)]).symm (n' ?_)
       refine st1 1 rfl (by kernel_rfl) rfl ?_
       exact gr [0] (E1 hx3) rfl (peW ⟨trivial,trivial⟩ rfl)
    ·refine e' rfl ?_
     refine st2 0 3 rfl (by kernel_rfl) rfl rfl ?_ ?_
     ·refine e' rfl ?_
      refine st2 1 3 rfl (by kernel_rfl) rfl rfl ?_ ?_
      ·exact gr [0] (E1 hx3) rfl (peW ⟨trivial,trivial⟩ rfl)
      ·refine F0.be hC rfl (A0.rows_map [(A0.mk o2_Op 0 o2_Name o2_Kids)]).symm (n' ?_)
       refine st1 1 rfl (by kernel_rfl) rfl ?_
       exact gr [0] (E1 hx3) rfl (peW ⟨trivial,trivial⟩ rfl)
     ·refine F0.be hC rfl (A0.rows_map [(A0.mk o2_Op 0 o2_Name o2_Kids)]).symm (n' ?_)
      refine st1 0 rfl (by kernel_rfl) rfl ?_
      refine e' rfl ?_
      refine st1 1 rfl (by kernel_rfl) rfl ?_
      exact gr [0] (E1 hx3) rfl (peW ⟨trivial,trivial⟩ rfl)
   refine AEx.drawE hC ?_
   refine st2 0 2 rfl (by kernel_rfl) rfl rfl ?_ ?_
   ·refine e' rfl ?_
    refine st2 1 2 rfl (by kernel_rfl) rfl rfl ?_ ?_
    ·refine gq [0] ((E1 hx3).ok) rfl (n' ?_)
     refine st1 2 rfl (by kernel_rfl) rfl ?_
     refine e' rfl ?_
     refine st1 3 rfl (by kernel_rfl) rfl ?_
     refine F0.be hC rfl (A0.rows_map [(A0.mk o2_Op 0 o2_Name o2_Kids)]).symm (n' ?_)
     refine st1 4 rfl (by kernel_rfl) rfl ?_
     refine e' rfl ?_
     refine st1 5 rfl (by kernel_rfl) rfl ?_
     refine F0.s hC rfl (n' (W0.nil (by kernel_rfl) ?_))
     refine X0.wk ?_ (ih19 _ _ _ _ _ hh)
     exact ⟨⟨⟨.rfl,rfl⟩,⟨.rfl,rfl⟩,⟨.rfl,rfl⟩,trivial⟩,⟨⟨rfl,.refl _,rfl⟩,⟨rfl,.refl _,rfl⟩,⟨rfl,⟨.rfl,.rfl,.rfl,.full,trivial⟩,rfl⟩,trivial⟩,rfl⟩
    ·refine e' rfl ?_
     refine st2 1 3 rfl (by kernel_rfl) rfl rfl ?_ ?_
     ·refine gq [0] ((E1 hx3).ok) rfl (n' ?_)
      refine st1 3 rfl (by kernel_rfl) rfl ?_
      refine F0.be hC rfl (A0.rows_map [(A0.mk o2_Op 0 o2_Name o2_Kids)]).symm (n' ?_)
      refine st1 4 rfl (by kernel_rfl) rfl ?_
      refine e' rfl ?_
      refine st1 5 rfl (by kernel_rfl) rfl ?_
      refine F0.s hC rfl (n' (W0.nil (by kernel_rfl) ?_))
      refine X0.wk ?_ (ih19 _ _ _ _ _ hh)
      exact ⟨⟨⟨.rfl,rfl⟩,⟨.rfl,rfl⟩,⟨.rfl,rfl⟩,trivial⟩,⟨⟨rfl,.refl _,rfl⟩,⟨rfl,.refl _,rfl⟩,⟨rfl,⟨.rfl,.rfl,.rfl,.full,trivial⟩,rfl⟩,trivial⟩,rfl⟩
     ·refine F0.be hC rfl (A0.rows_map [(A0.mk o2_Op 0 o2_Name o2_Kids)]).symm (n' ?_)
      refine st1 1 rfl (by kernel_rfl) rfl ?_
      refine gq [0] ((E1 hx3).ok) rfl (n' ?_)
      refine st1 4 rfl (by kernel_rfl) rfl ?_
      refine e' rfl ?_
      refine st1 5 rfl (by kernel_rfl) rfl ?_
      refine F0.s hC rfl (n' (W0.nil (by kernel_rfl) ?_))
      refine X0.wk ?_ (ih19 _ _ _ _ _ hh)
      exact ⟨⟨⟨.rfl,rfl⟩,⟨.rfl,rfl⟩,⟨.rfl,rfl⟩,trivial⟩,⟨⟨rfl,.refl _,rfl⟩,⟨rfl,.refl _,rfl⟩,⟨rfl,⟨.rfl,.rfl,.rfl,.full,trivial⟩,rfl⟩,trivial⟩,rfl⟩
   ·refine e' rfl ?_
    refine st2 0 3 rfl (by kernel_rfl) rfl rfl ?_ ?_
    ·refine e' rfl ?_
     refine st2 1 3 rfl (by kernel_rfl) rfl rfl ?_ ?_
     ·refine gq [0] ((E1 hx3).ok) rfl (n' ?_)
      refine st1 3 rfl (by kernel_rfl) rfl ?_
      refine F0.be hC rfl (A0.rows_map [(A0.mk o2_Op 0 o2_Name o2_Kids)]).symm (n' ?_)
      refine st1 4 rfl (by kernel_rfl) rfl ?_
      refine e' rfl ?_
      refine st1 5 rfl (by kernel_rfl) rfl ?_
      refine F0.s hC rfl (n' (W0.nil (by kernel_rfl) ?_))
      refine X0.wk ?_ (ih19 _ _ _ _ _ hh)
      exact ⟨⟨⟨.rfl,rfl⟩,⟨.rfl,rfl⟩,⟨.rfl,rfl⟩,trivial⟩,⟨⟨rfl,.refl _,rfl⟩,⟨rfl,.refl _,rfl⟩,⟨rfl,⟨.rfl,.rfl,.rfl,.full,trivial⟩,rfl⟩,trivial⟩,rfl⟩
     ·refine F0.be hC rfl (A0.rows_map [(A0.mk o2_Op 0 o2_Name o2_Kids)]).symm (n' ?_)
      refine st1 1 rfl (by kernel_rfl) rfl ?_
      refine gq [0] ((E1 hx3).ok) rfl (n' ?_)
      refine st1 4 rfl (by kernel_rfl) rfl ?_
      refine e' rfl ?_
      refine st1 5 rfl (by kernel_rfl) rfl ?_
      refine F0.s hC rfl (n' (W0.nil (by kernel_rfl) ?_))
      refine X0.wk ?_ (ih19 _ _ _ _ _ hh)
      exact ⟨⟨⟨.rfl,rfl⟩,⟨.rfl,rfl⟩,⟨.rfl,rfl⟩,trivial⟩,⟨⟨rfl,.refl _,rfl⟩,⟨rfl,.refl _,rfl⟩,⟨rfl,⟨.rfl,.rfl,.rfl,.full,trivial⟩,rfl⟩,trivial⟩,rfl⟩
    ·refine F0.be hC rfl (A0.rows_map [(A0.mk o2_Op 0 o2_Name o2_Kids)]).symm (n' ?_)
     refine st1 0 rfl (by kernel_rfl) rfl ?_
     refine e' rfl ?_
     refine st1 1 rfl (by kernel_rfl) rfl ?_
     refine gq [0] ((E1 hx3).ok) rfl (n' ?_)
     refine st1 4 rfl (by kernel_rfl) rfl ?_
     refine e' rfl ?_
     refine st1 5 rfl (by kernel_rfl) rfl ?_
     refine F0.s hC rfl (n' (W0.nil (by kernel_rfl) ?_))
     refine X0.wk ?_ (ih19 _ _ _ _ _ hh)
     exact ⟨⟨⟨.rfl,rfl⟩,⟨.rfl,rfl⟩,⟨.rfl,rfl⟩,trivial⟩,⟨⟨rfl,.refl _,rfl⟩,⟨rfl,.refl _,rfl⟩,⟨rfl,⟨.rfl,.rfl,.rfl,.full,trivial⟩,rfl⟩,trivial⟩,rfl⟩
  obtain ⟨x4,hx4,hh⟩:=bs' hh
  refine p' 1 rfl (gq [0] (T0 hx4) rfl (e' rfl (ci' rfl hh (fun hh=>?_) (fun hh=>?_))))
  ·refine p' 1 rfl ?_
   rcases bp' hh with ⟨nn,hx5,⟨⟩⟩ | ⟨x5,hx5,hh⟩
   ·exact gr [0] (ih0 _ _ hx5) rfl (peW ⟨trivial,trivial⟩ rfl)
   refine gq [0] ((ih0 _ _ hx5).ok) rfl (F0.nf hC rfl (F0.s hC rfl (n' (p' 1 rfl ?_))))
   rcases bp' hh with ⟨nn,hx6,⟨⟩⟩ | ⟨x6,hx6,hh⟩
   ·exact gr [0] (J0 hx6) rfl (peW ⟨trivial,trivial⟩ rfl)
   refine gq [0] ((J0 hx6).ok) rfl (n' (P' 2 rfl (F0.be hC rfl (A0.rows_map [(A0.mk o2_Op 0 o2_Name o2_Kids),x5.1]).symm (q' rfl (F0.s hC rfl (n' ?_))))))
   refine X0.wk ?_ (ih19 _ _ _ _ _ hh)
   exact ⟨⟨⟨.rfl,rfl⟩,⟨.rfl,rfl⟩,⟨.rfl,rfl⟩,trivial⟩,⟨⟨rfl,.refl _,rfl⟩,⟨rfl,.refl _,rfl⟩,⟨rfl,⟨.rfl,.rfl,.rfl,.full,trivial⟩,rfl⟩,trivial⟩,rfl⟩
  cases hh
  exact p' 1 rfl (F0.s hC rfl (n' (re' (rq rfl))))
theorem V0 {parserParser res}(hh:G1 parserParser=some res):Dk parserParser res:=(Li).1 _ _ hh
theorem Um {parserParser res}(hh:Za parserParser=some res):Do parserParser res:=(Li).2.2.2.2.2.2.2.2.2.2.2.2.2.2.2.2.2.2.1 _ _ hh
def Hh (parserParser:D0)(apiExpr:A0):Option (Pn (D0×A0)):=
 G1 parserParser>>=fun x1=>match x1 with
 | .pn nn=>
 some (.pn nn)
 | .ok x1=>
 some (.ok (x1.2,x1.1))
theorem Eo {parserParser apiExpr res}(hh:Hh parserParser apiExpr=some res):C2 C 29 [.ref 0 0,.ref 1 0] [.row (D0.cells parserParser) 99,.row [.d (.int .i64 apiExpr.Op),.d (.int .i64 apiExpr.NV),.d (.str apiExpr.Name),.full (A0.rows apiExpr.Kids)] 26] (F4 res (fun rr=>[.row (D0.cells rr.1) 99,.row (A0.cells rr.2) 26]) (fun rr=>.tup [])) (D4 res B3 [.dead,.row [.d (.int .i64 apiExpr.Op),.d (.int .i64 apiExpr.NV),.d (.str apiExpr.Name),.full (A0.rows apiExpr.Kids)] 26]):=by
 unfold Hh at hh
 refine C2.intro hC Tryz.func29 rfl rfl rfl (P' 1 rfl ?_)
 rcases bp' hh with ⟨nn,hx1,⟨⟩⟩ | ⟨x1,hx1,hh⟩
 ·exact gr [0] (V0 hx1) rfl (fun hi=>peW ⟨trivial,⟨rfl,.refl _,rfl⟩,trivial⟩ rfl hi)
 cases hh
 exact gq [0] ((V0 hx1).ok) rfl (F0.s hC rfl (n' (rn' rfl rfl rfl)))
def Mr (text:Str)(apiExpr:A0):Option (Int×Int×A0):=
 Co text>>=fun x1=>
 if (x1.2.2 != 0)=true then
  some (x1.2.1,x1.2.2,apiExpr)
 else
  Hh (D0.mk x1.1 0 ((text).length:Int)) apiExpr>>=fun x2=>match x2 with
  | .pn nn=>
  some (nn,6,apiExpr)
  | .ok x2=>
  if (decide (x2.1.next < ((x2.1.tokens).length:Int)))=true then
   Y6 x2.1>>=fun x3=>match x3 with
   | .pn nn=>
   some (nn,6,x2.2)
   | .ok x3=>
   some (0,0,x2.2)
  else
   some (0,0,x2.2)
theorem A1d {text apiExpr res}(hh:Mr text apiExpr=some res):P0 C 28 [.d (.str text),.clo 29 [.ref 0 0]] [.row [.d (.int .i64 apiExpr.Op),.d (.int .i64 apiExpr.NV),.d (.str apiExpr.Name),.full (A0.rows apiExpr.Kids)] 26] (Ret [.row (A0.cells res.2.2) 26] (.tup [.d (.int .i64 res.1),.d (.int .i64 res.2.1)])):=by
 unfold Mr at hh
 obtain ⟨x1,hx1,hh⟩:=bs' hh
 refine P0.introD hC Tryz.func28 rfl rfl rfl (s' rfl rfl (F0.n hC rfl (F0.n hC rfl (n' (p' 1 rfl (cq (Q15 hx1) rfl (o' 5 rfl (F0.s hC rfl (F0.s hC rfl (n' (S' (t' rfl (ci' rfl hh (fun hh=>?_) (fun hh=>?_))))))))))))))
 ·refine S' ?_
  refine AEx.drawL hC 3 [2] [] [[.row [.d (.int .i64 apiExpr.Op),.d (.int .i64 apiExpr.NV),.d (.str apiExpr.Name),.full (A0.rows apiExpr.Kids)] 26,.row [.d (.int .i64 x1.2.1)] 3,.row [.d (.int .i64 x1.2.2)] 27],[.row [.d (.int .i64 apiExpr.Op),.d (.int .i64 apiExpr.NV),.d (.str apiExpr.Name),.full (A0.rows apiExpr.Kids)] 26,.row [.d (.int .i64 x1.2.1)] 3,.row [.d (.int .i64 x1.2.2)] 27]] rfl rfl rfl rfl rfl rfl rfl rfl rfl rfl ?_
  refine AS.q hC rfl rfl rfl rfl (AS.q hC rfl rfl rfl rfl (AS.s hC rfl rfl rfl rfl rfl rfl rfl (AS.nil (F0.s hC rfl (n' (re' ?_))))))
  obtain rfl:=oi' hh
  exact ⟨_,_,[.row (A0.cells apiExpr) 26],rfl,.rfl,⟨⟨rfl,⟨.rfl,.rfl,.rfl,.full,trivial⟩,rfl⟩,trivial⟩,rfl,rfl,rfl,rfl⟩
 refine sk' (AEx.dfr hC F1b R1e rfl rfl rfl rfl rfl rfl fun _=>(p' 4 rfl (F0.n hC rfl (e' rfl (p' 2 rfl ?_)))))
 rcases bp' hh with ⟨nn,hx2,hh⟩ | ⟨x2,hx2,hh⟩
 ·obtain rfl:=oi' hh
  exact gr [3,0] (Eo hx2) rfl (fun hi=>dfk hi rfl rfl rfl (⟨_,_,[.row (A0.cells apiExpr) 26],rfl,.rfl,⟨⟨rfl,⟨.rfl,.rfl,.rfl,.full,trivial⟩,rfl⟩,trivial⟩,rfl,rfl,rfl,rfl⟩))
 refine gq [3,0] ((Eo hx2).ok) rfl (n' (S' (S' (AEx.draw hC 10 rfl rfl rfl (O' 8 rfl (AQ.qe hC rfl trivial (K0.lenA _) (E' rfl (n' (ci' rfl hh (fun hh=>?_) (fun hh=>?_))))))))))
 ·refine P' 1 rfl ?_
  rcases bp' hh with ⟨nn,hx3,hh⟩ | ⟨x3,hx3,hh⟩
  ·cases hh
   exact gr [3] (Q5 hx3) rfl (fun hi=>dfk hi rfl rfl rfl (rq rfl))
  cases hh
  exact gq [3] ((Q5 hx3).ok) rfl (n' (s' rfl rfl (F0.s hC rfl (F0.s hC rfl (n' (re' (rq rfl)))))))
 cases hh
 exact sk' (s' rfl rfl (F0.s hC rfl (F0.s hC rfl (n' (re' (rq rfl))))))
def C9 (d:Int)(syntaxReport:I0):Option I0:=
 some (I0.mk syntaxReport.nodes (max syntaxReport.depth d) syntaxReport.badForm syntaxReport.badName syntaxReport.badNumber)
theorem Mi {d syntaxReport res}(hh:C9 d syntaxReport=some res):P0 C 114 [.ref 0 0,.d (.int .i64 d)] [.row (I0.cells syntaxReport) 103] (Ret [.row (I0.cells res) 103] (.tup [])):=by
 unfold C9 at hh
 cases hh
 exact P0.intro hC Tryz.func114 rfl rfl rfl (P' 9 rfl (F0.s hC rfl (n' (rn' rfl rfl rfl))))
def Bf (op:Int)(v9:Bool):Option Int:=
 if v9=true then
  some 1
 else
  if (op == 5)=true then
   some 2
  else
   if (op == 23)=true then
    some 3
   else
    if (bif (decide (op≥8)) then (decide (op≤22)) else false)=true then
     some 2
    else
     some (-1)
theorem Il {op v9 res}(hh:Bf op v9=some res):JM C 23 0 Tryz.f116 [1,0,1,4,1,3,1] [(0,.d (.int .i64 op)),(3,.d (.int .i64 op)),(9,.d (.bool v9))] [] (Ret [] (.d (.int .i64 res))):=by
 unfold Bf at hh
 refine ci' rfl hh (fun hh=>?_) (fun hh=>?_)
 ·cases hh
  exact t' rfl (re' (rq rfl))
 refine t' rfl (ci' rfl hh (fun hh=>?_) (fun hh=>?_))
 ·cases hh
  exact t' rfl (re' (rq rfl))
 refine t' rfl (ci' rfl hh (fun hh=>?_) (fun hh=>?_))
 ·cases hh
  exact t' rfl (re' (rq rfl))
 refine sk' (S' (sg' 6 rfl (G' 4 rfl (a1' rfl (pa' rfl (an' (n' (ci' rfl hh (fun hh=>?_) (fun hh=>?_)))))))))
 ·cases hh
  exact t' rfl (re' (rq rfl))
 cases hh
 exact sk' (t' rfl (re' (rq rfl)))
def Zc (op:Int)(v4:Bool):Option Int:=
 if v4=true then
  some 0
 else
  if (op == 4)=true then
   Bf op (op == 4)
  else
   if (op == 6)=true then
    Bf op (op == 6)
   else
    Bf op (op == 7)
theorem Ih {op v4 res}(hh:Zc op v4=some res):JM C 23 0 Tryz.f116 [1,0,1,4,1] [(0,.d (.int .i64 op)),(3,.d (.int .i64 op)),(4,.d (.bool v4))] [] (Ret [] (.d (.int .i64 res))):=by
 unfold Zc at hh
 refine ci' rfl hh (fun hh=>?_) (fun hh=>?_)
 ·cases hh
  exact t' rfl (re' (rq rfl))
 refine S' (t' rfl (ci' rfl hh (fun hh=>?_) (fun hh=>?_)))
 ·exact sk' (eq' (Il hh) rfl)
 refine t' rfl (ci' rfl hh (fun hh=>?_) (fun hh=>?_))
 ·exact sk' (eq' (Il hh) rfl)
 exact T' rfl (eq' (Il hh) rfl)
def Jl (op:Int):Option Int:=
 if (op == 0)=true then
  Zc op (op == 0)
 else
  if (op == 1)=true then
   Zc op (op == 1)
  else
   if (op == 2)=true then
    Zc op (op == 2)
   else
    Zc op (op == 3)
theorem L1b {op res}(hh:Jl op=some res):P0 C 116 [.d (.int .i64 op)] [] (Ret [] (.d (.int .i64 res))):=by
 unfold Jl at hh
 refine P0.intro hC Tryz.func116 rfl rfl rfl (t' rfl (S' (t' rfl (bk' (S' (t' rfl (ci' rfl hh (fun hh=>?_) (fun hh=>?_))))))))
 ·exact sk' (eq' (Ih hh) rfl)
 refine t' rfl (ci' rfl hh (fun hh=>?_) (fun hh=>?_))
 ·exact sk' (eq' (Ih hh) rfl)
 refine t' rfl (ci' rfl hh (fun hh=>?_) (fun hh=>?_))
 ·exact sk' (eq' (Ih hh) rfl)
 exact T' rfl (eq' (Ih hh) rfl)
def D1 (ok:Bool)(syntaxReport:I0):Option I0:=
 some (I0.mk syntaxReport.nodes syntaxReport.depth (bif syntaxReport.badForm then true else (!ok)) syntaxReport.badName syntaxReport.badNumber)
theorem F1 {ok syntaxReport res}(hh:D1 ok syntaxReport=some res):P0 C 115 [.ref 0 0,.d (.bool ok)] [.row (I0.cells syntaxReport) 103] (Ret [.row (I0.cells res) 103] (.tup [])):=by
 unfold D1 at hh
 cases hh
 exact P0.intro hC Tryz.func115 rfl rfl rfl (AEx.regionG 11 rfl (G' 7 rfl (a1' rfl (po' rfl (G' 2 rfl (an' (F0.s hC rfl (n' (rn' rfl rfl rfl)))))))))
def Cf (o0:A0):Option Bool:=
 if (bif (o0.Op == 4) then true else (o0.Op == 5))=true then
  if (((o0.Kids).length:Int) == 0)=true then
   some false
  else
   idx o0.Kids 0>>=fun x1=>
   Cf x1
 else
  some (o0.Op == 3)
 partial_fixpoint
abbrev Vt (o0:A0)(res:Bool):Prop:=LM C 22 0 Tryz.f117 [1,0,4] [(1,.ref 0 0)] [.row (A0.cells o0) 26] (Ret [] (.d (.bool res)))
theorem U13:(∀ o0 res,Cf o0=some res→Vt o0 res):=by
 refine Cf.partial_correctness _ ?_
 ·intro g0 ih0 o0 res hh
  refine X0.unroll (S' (sg' 8 rfl (G' 5 rfl (a1' rfl (a1' rfl (po' rfl (an' (n' (ci' rfl hh (fun hh=>?_) (fun hh=>?_))))))))))
  ·refine sk' (bk' (S' (p' 2 rfl (qe' rfl trivial (A0.lenA _) (e' rfl (ci' rfl hh (fun hh=>?_) (fun hh=>?_)))))))
   ·cases hh
    exact t' rfl (re' (rq rfl))
   obtain ⟨x1,hx1,hh⟩:=bs' hh
   exact sk' (P' 2 rfl (i' rfl (Z0 hx1) (A0.idx hx1) rfl (q' rfl (F0.s hC rfl (n' (lq (ih0 _ _ hh) rfl))))))
  cases hh
  exact ex' (t' rfl (re' (rq rfl)))
theorem S15 {o0 res}(hh:Cf o0=some res):Vt o0 res:=(U13) _ _ hh
def Ni (e:A0):Option Bool:=
 Cf e
theorem Ay {e res}(hh:Ni e=some res):P0 C 117 [.agg (A0.cells e)] [] (Ret [] (.d (.bool res))):=by
 unfold Ni at hh
 exact P0.intro hC Tryz.func117 rfl rfl rfl (s' rfl rfl (F0.n hC rfl (e' rfl (S' (bk' (fq (S15 hh) rfl))))))
def Ma (s:Str)(v6:Int):Option Bool:=
 if (decide (v6 < ((s).length:Int)))=true then
  idx s v6>>=fun x1=>
  Eg (x1.toNat:Int)>>=fun x2=>
  (if ((!x2)&&(!(v6 == 0)))=true then idx s v6 else some default)>>=fun x3=>
  (if ((!x2)&&(!(v6 == 0)))=true then Nd (x3.toNat:Int) else some default)>>=fun x4=>
  if (bif (!x2) then (bif (v6 == 0) then true else (!x4)) else false)=true then
   some false
  else
   Ma s (IntKind.i64.wrap (v6+1))
 else
  some (!(s == []))
 partial_fixpoint
abbrev Wt (s:Str)(v6:Int)(res:Bool):Prop:=LM C 28 0 Tryz.f205 [1,0,1,4] [(0,.d (.str s)),(5,.d (.int .i64 ((s).length:Int))),(6,.d (.int .i64 v6))] [] (Ret [] (.d (.bool res)))
theorem V13 (s:Str):(∀ v6 res,Ma s v6=some res→Wt s v6 res):=by
 refine Ma.partial_correctness s _ ?_
 ·intro g0 ih0 v6 res hh
  refine X0.unroll (t' rfl (S' (ci' rfl hh (fun hh=>?_) (fun hh=>?_))))
  ·obtain ⟨x1,hx1,hh⟩:=bs' hh
   obtain ⟨x2,hx2,hh⟩:=bs' hh
   obtain ⟨x3,hx3,hh⟩:=bs' hh
   obtain ⟨x4,hx4,hh⟩:=bs' hh
   refine sk' (S' (bk' (t' rfl (sg' 16 rfl (G' 2 rfl (AG.x hC rfl rfl (fun _=>trivial) (fun hw=>⟨Z0 hx1,Ed hx1⟩) (AG.c rfl rfl (fun _=>trivial) (fun _=>Pm hx2) (G' 3 rfl (a1' rfl (a1' rfl (G' 2 rfl (AG.x hC rfl rfl (fun hg=>⟨hg,hg,trivial⟩) (fun hw=>⟨Z0 (V1 hw hx3),Ed (V1 hw hx3)⟩) (AG.c rfl rfl (fun hg=>⟨hg,trivial⟩) (fun hw=>Uj (V1 hw hx4)) ?_)))))))))))))
   refine a1' rfl (pO' rfl (pa' rfl (an' (n' (ci' rfl hh (fun hh=>?_) (fun hh=>?_))))))
   ·cases hh
    exact t' rfl (re' (rq rfl))
   exact sk' (T' rfl (lq (ih0 _ _ hh) rfl))
  cases hh
  exact ex' (t' rfl (re' (rq rfl)))
theorem T15 {s v6 res}(hh:Ma s v6=some res):Wt s v6 res:=(V13 s) _ _ hh
def Dp (s:Str):Option Bool:=
 Ma s 0
theorem M1b {s res}(hh:Dp s=some res):P0 C 205 [.d (.str s)] [] (Ret [] (.d (.bool res))):=by
 unfold Dp at hh
 exact P0.intro hC Tryz.func205 rfl rfl rfl (t' rfl (S' (t' rfl (bk' (fq (T15 hh) rfl)))))
def Ep (s:Str):Option Bool:=
 (if (decide (((s).length:Int)≤12))=true then Dp s else some default)>>=fun x1=>
 (if (bif (decide (((s).length:Int)≤12)) then x1 else false)=true then Zd s else some default)>>=fun x2=>
 some (bif (bif (decide (((s).length:Int)≤12)) then x1 else false) then (!x2) else false)
theorem N1b {s res}(hh:Ep s=some res):P0 C 190 [.d (.str s)] [] (Ret [] (.d (.bool res))):=by
 unfold Ep at hh
 obtain ⟨x1,hx1,hh⟩:=bs' hh
 obtain ⟨x2,hx2,hh⟩:=bs' hh
 cases hh
 exact P0.intro hC Tryz.func190 rfl rfl rfl (t' rfl (sg' 13 rfl (G' 5 rfl (AG.c rfl rfl (fun hg=>⟨hg,trivial⟩) (fun hw=>M1b (V1 hw hx1)) (pa' rfl (G' 2 rfl (AG.c rfl rfl (fun hg=>⟨hg,trivial⟩) (fun hw=>Tt (V1 hw hx2)) (a1' rfl (pa' rfl (a0' rfl (an' (n' (re' (rq rfl))))))))))))))
def Ek (s:Str):Option Bool:=
 Ep s>>=fun x1=>
 some x1
theorem K19 {s res}(hh:Ek s=some res):P0 C 168 [.d (.str s)] [] (Ret [] (.d (.bool res))):=by
 unfold Ek at hh
 obtain ⟨x1,hx1,hh⟩:=bs' hh
 cases hh
 exact P0.intro hC Tryz.func168 rfl rfl rfl (t' rfl (p' 1 rfl (cq (N1b hx1) rfl (e' rfl (re' (rq rfl))))))
def A5 (s:Str)(syntaxReport:I0):Option I0:=
 (if (!syntaxReport.badName)=true then Ek s else some default)>>=fun x1=>
 some (I0.mk syntaxReport.nodes syntaxReport.depth syntaxReport.badForm (bif syntaxReport.badName then true else (!x1)) syntaxReport.badNumber)
theorem Zb {s syntaxReport res}(hh:A5 s syntaxReport=some res):P0 C 118 [.ref 0 0,.d (.str s)] [.row (I0.cells syntaxReport) 103] (Ret [.row (I0.cells res) 103] (.tup [])):=by
 unfold A5 at hh
 obtain ⟨x1,hx1,hh⟩:=bs' hh
 cases hh
 exact P0.intro hC Tryz.func118 rfl rfl rfl (AEx.regionG 12 rfl (G' 7 rfl (AG.c rfl rfl (fun hg=>⟨hg,trivial⟩) (fun hw=>K19 (V1 hw hx1)) (a1' rfl (po' rfl (G' 2 rfl (an' (F0.s hC rfl (n' (rn' rfl rfl rfl))))))))))
def B4 (n:Int)(low:Int)(high:Int):Option Bool:=
 some (bif (decide (n≥low)) then (decide (n≤high)) else false)
theorem O4 {n low high res}(hh:B4 n low high=some res):P0 C 120 [.d (.int .i64 n),.d (.int .i64 low),.d (.int .i64 high)] [] (Ret [] (.d (.bool res))):=by
 unfold B4 at hh
 cases hh
 exact P0.intro hC Tryz.func120 rfl rfl rfl (t' rfl (sg' 9 rfl (G' 6 rfl (a2' rfl (pa' rfl (a0' rfl (an' (n' (re' (rq rfl))))))))))
def O2 (ok:Bool)(syntaxReport:I0):Option I0:=
 some (I0.mk syntaxReport.nodes syntaxReport.depth syntaxReport.badForm syntaxReport.badName (bif syntaxReport.badNumber then true else (!ok)))
theorem K3 {ok syntaxReport res}(hh:O2 ok syntaxReport=some res):P0 C 119 [.ref 0 0,.d (.bool ok)] [.row (I0.cells syntaxReport) 103] (Ret [.row (I0.cells res) 103] (.tup [])):=by
 unfold O2 at hh
 cases hh
 exact P0.intro hC Tryz.func119 rfl rfl rfl (AEx.regionG 11 rfl (G' 7 rfl (a1' rfl (po' rfl (G' 2 rfl (an' (F0.s hC rfl (n' (rn' rfl rfl rfl)))))))))
mutual
def S3 (e:A0)(depth:Int)(syntaxReport:I0):Option I0:=
 C9 depth (I0.mk (IntKind.i64.wrap (syntaxReport.nodes+1)) syntaxReport.depth syntaxReport.badForm syntaxReport.badName syntaxReport.badNumber)>>=fun x1=>
 Jl e.Op>>=fun x2=>
 D1 (x2 == ((e.Kids).length:Int)) x1>>=fun x3=>
 D1 (bif (e.NV == 0) then true else (e.Op == 0)) x3>>=fun x4=>
 D1 (bif (e.Name == []) then true else (bif (e.Op == 3) then true else (e.Op == 4))) x4>>=fun x5=>
 if (bif (e.Op == 4) then true else (e.Op == 5))=true then
  Ni e>>=fun x6=>
  D1 x6 x5>>=fun x7=>
  Ac e depth x7
 else
  Ac e depth x5
 partial_fixpoint
def Ac (e:A0)(depth:Int)(o0:I0):Option I0:=
 if (bif (e.Op == 3) then true else (e.Op == 4))=true then
  A5 e.Name o0>>=fun x8=>
  Df e depth x8
 else
  Df e depth o0
 partial_fixpoint
def Df (e:A0)(depth:Int)(o01:I0):Option I0:=
 if (e.Op == 0)=true then
  B4 e.NV 0 1048576>>=fun x9=>
  O2 x9 o01>>=fun x10=>
  Ef e depth x10
 else
  Ef e depth o01
 partial_fixpoint
def Ef (e:A0)(depth:Int)(o02:I0):Option I0:=
 R5 e depth o02 0
 partial_fixpoint
def R5 (e:A0)(depth:Int)(o03:I0)(v82:Int):Option I0:=
 if (decide (v82 < ((e.Kids).length:Int)))=true then
  idx e.Kids v82>>=fun x11=>
  S3 x11 (IntKind.i64.wrap (depth+1)) o03>>=fun x12=>
  R5 e depth x12 (IntKind.i64.wrap (v82+1))
 else
  some o03
 partial_fixpoint
end
abbrev Fp (e:A0)(depth:Int)(syntaxReport:I0)(res:I0):Prop:=P0 C 63 [.ref 0 0,.agg (A0.cells e),.d (.int .i64 depth)] [.row (I0.cells syntaxReport) 103] (Ret [.row (I0.cells res) 103] (.tup []))
abbrev Kx (e:A0)(depth:Int)(o0:I0)(res:I0):Prop:=JM C 92 1 Tryz.f63 [1,1,1,1,1,1,1,1] [(0,.ref 0 0),(2,.d (.int .i64 depth)),(4,.ref 1 0),(6,.d (.bool (bif (e.Op == 3) then true else (e.Op == 4))))] [.row (I0.cells o0) 103,.row (A0.cells e) 26] (Ret [.row (I0.cells res) 103] (.tup []))
abbrev Lx (e:A0)(depth:Int)(o01:I0)(res:I0):Prop:=JM C 92 1 Tryz.f63 [1,1,1,1,1,1,1,1,1] [(0,.ref 0 0),(2,.d (.int .i64 depth)),(4,.ref 1 0)] [.row (I0.cells o01) 103,.row (A0.cells e) 26] (Ret [.row (I0.cells res) 103] (.tup []))
abbrev Mx (e:A0)(depth:Int)(o02:I0)(res:I0):Prop:=JM C 92 1 Tryz.f63 [1,1,1,1,1,1,1,1,1,1] [(0,.ref 0 0),(2,.d (.int .i64 depth)),(4,.ref 1 0)] [.row (I0.cells o02) 103,.row (A0.cells e) 26] (Ret [.row (I0.cells res) 103] (.tup []))
abbrev Nx (e:A0)(depth:Int)(o03:I0)(v82:Int)(res:I0):Prop:=LM C 92 1 Tryz.f63 [1,1,1,1,1,1,1,1,1,1,1,4] [(0,.ref 0 0),(2,.d (.int .i64 depth)),(80,.d (.sl (A0.rows e.Kids))),(81,.d (.int .i64 ((e.Kids).length:Int))),(82,.d (.int .i64 v82))] [.row (I0.cells o03) 103] (Ret [.row (I0.cells res) 103] (.tup []))
theorem Ry:(∀ e depth syntaxReport res,S3 e depth syntaxReport=some res→Fp e depth syntaxReport res)∧(∀ e depth o0 res,Ac e depth o0=some res→Kx e depth o0 res)∧(∀ e depth o01 res,Df e depth o01=some res→Lx e depth o01 res)∧(∀ e depth o02 res,Ef e depth o02=some res→Mx e depth o02 res)∧(∀ e depth o03 v82 res,R5 e depth o03 v82=some res→Nx e depth o03 v82 res):=by
 refine S3.mutual_partial_correctness _ _ _ _ _ ?_ ?_ ?_ ?_ ?_
 ·intro g1 ih1 e depth syntaxReport res hh
  obtain ⟨x1,hx1,hh⟩:=bs' hh
  obtain ⟨x2,hx2,hh⟩:=bs' hh
  obtain ⟨x3,hx3,hh⟩:=bs' hh
  obtain ⟨x4,hx4,hh⟩:=bs' hh
  obtain ⟨x5,hx5,hh⟩:=bs' hh
  refine P0.intro hC Tryz.func63 rfl rfl rfl (s' rfl rfl (F0.n hC rfl (n' (p' 7 rfl (F0.s hC rfl (n' (p' 2 rfl (gq [0] (Mi hx1) rfl (n' (S' (AEx.draw hC 8 rfl rfl rfl (O' 3 rfl (Qc' (L1b hx2) rfl rfl ?_)))))))))))))
  refine O' 2 rfl (AQ.qe hC rfl trivial (A0.lenA _) (E' rfl (gq [0] (F1 hx3) rfl (n' (sg' 9 rfl (G' 6 rfl (a1' rfl (a1' rfl (po' rfl (an' (gq [0] (F1 hx4) rfl (n' (sg' 9 rfl ?_)))))))))))))
  refine G' 5 rfl (a1' rfl (a1' rfl (po' rfl (a0' rfl (an' (n' (sg' 7 rfl (G' 6 rfl (po' rfl (an' (gq [0] (F1 hx5) rfl (n' (S' ?_)))))))))))))
  refine sg' 8 rfl (G' 5 rfl (a1' rfl (a1' rfl (po' rfl (an' (n' (ci' rfl hh (fun hh=>?_) (fun hh=>?_))))))))
  ·obtain ⟨x6,hx6,hh⟩:=bs' hh
   obtain ⟨x7,hx7,hh⟩:=bs' hh
   exact P' 2 rfl (cq (Ay hx6) rfl (gq [0] (F1 hx7) rfl (n' (eq' (ih1 _ _ _ _ hh) rfl))))
  exact sk' (eq' (ih1 _ _ _ _ hh) rfl)
 ·intro g2 ih2 e depth o0 res hh
  refine S' (t' rfl (ci' rfl hh (fun hh=>?_) (fun hh=>?_)))
  ·obtain ⟨x8,hx8,hh⟩:=bs' hh
   exact P' 3 rfl (gq [0] (Zb hx8) rfl (n' (eq' (ih2 _ _ _ _ hh) rfl)))
  exact sk' (eq' (ih2 _ _ _ _ hh) rfl)
 ·intro g3 ih3 e depth o01 res hh
  refine S' (t' rfl (ci' rfl hh (fun hh=>?_) (fun hh=>?_)))
  ·obtain ⟨x9,hx9,hh⟩:=bs' hh
   obtain ⟨x10,hx10,hh⟩:=bs' hh
   exact P' 3 rfl (cq (O4 hx9) rfl (gq [0] (K3 hx10) rfl (n' (eq' (ih3 _ _ _ _ hh) rfl))))
  exact sk' (eq' (ih3 _ _ _ _ hh) rfl)
 ·intro g4 ih4 e depth o02 res hh
  exact p' 2 rfl (qe' rfl trivial (A0.lenA _) (e' rfl (bk' (fq (ih4 _ _ _ _ _ hh) rfl))))
 ·intro g0 g4 ih0 ih4 e depth o03 v82 res hh
  refine X0.unroll (t' rfl (S' (ci' rfl hh (fun hh=>?_) (fun hh=>?_))))
  ·obtain ⟨x11,hx11,hh⟩:=bs' hh
   obtain ⟨x12,hx12,hh⟩:=bs' hh
   exact sk' (S' (bk' (s' rfl rfl (i' rfl (Z0 hx11) (A0.idx hx11) rfl (q' rfl (F0.nf hC rfl (F0.s hC rfl (n' (P' 4 rfl (gq [0] (ih0 _ _ _ _ hx12) rfl (n' (T' rfl (lq (ih4 _ _ _ _ _ hh) rfl)))))))))))))
  cases hh
  exact ex' (rn' rfl rfl rfl)
theorem Oi {e depth syntaxReport res}(hh:S3 e depth syntaxReport=some res):Fp e depth syntaxReport res:=(Ry).1 _ _ _ _ hh
def D9 (syntaxReport:I0):Option Int:=
 if (bif (decide (syntaxReport.nodes > 1024)) then true else (decide (syntaxReport.depth > 12)))=true then
  some 4
 else
  if syntaxReport.badForm=true then
   some 1
  else
   if syntaxReport.badName=true then
    some 7
   else
    if syntaxReport.badNumber=true then
     some 3
    else
     some 0
theorem Fo {syntaxReport res}(hh:D9 syntaxReport=some res):P0 C 64 [.ref 0 0] [.row (I0.cells syntaxReport) 103] (Ret [.row (I0.cells syntaxReport) 103] (.d (.int .i64 res))):=by
 unfold D9 at hh
 refine P0.intro hC Tryz.func64 rfl rfl rfl (t' rfl (S' (bk' (sg' 13 rfl (G' 7 rfl (a1' rfl (a1' rfl (a1' rfl (a1' rfl (po' rfl (a0' rfl (an' (n' (ci' rfl hh (fun hh=>?_) (fun hh=>?_)))))))))))))))
 ·cases hh
  exact t' rfl (re' (rq rfl))
 refine t' rfl (ci' rfl hh (fun hh=>?_) (fun hh=>?_))
 ·cases hh
  exact t' rfl (re' (rq rfl))
 refine t' rfl (ci' rfl hh (fun hh=>?_) (fun hh=>?_))
 ·cases hh
  exact t' rfl (re' (rq rfl))
 refine t' rfl (ci' rfl hh (fun hh=>?_) (fun hh=>?_))
 ·cases hh
  exact t' rfl (re' (rq rfl))
 cases hh
 exact sk' (t' rfl (re' (rq rfl)))
def Pg (e:A0):Option Int:=
 S3 e 1 (I0.mk 0 0 false false false)>>=fun x1=>
 D9 x1>>=fun x2=>
 some x2
theorem W13 {e res}(hh:Pg e=some res):P0 C 31 [.agg (A0.cells e)] [] (Ret [] (.d (.int .i64 res))):=by
 unfold Pg at hh
 obtain ⟨x1,hx1,hh⟩:=bs' hh
 obtain ⟨x2,hx2,hh⟩:=bs' hh
 cases hh
 exact P0.intro hC Tryz.func31 rfl rfl rfl (s' rfl rfl (F0.n hC rfl (e' rfl (p' 1 rfl (F0.n hC rfl (e' rfl (p' 2 rfl (gq [1] (Oi hx1) rfl (n' (p' 1 rfl (gq [1] (Fo hx2) rfl (e' rfl (re' (rq rfl))))))))))))))
def E9 (text:Str):Option (A0×Int×Int):=
 Mr text (A0.mk 0 0 [] [])>>=fun x1=>
 if (x1.2.1 != 0)=true then
  some ((A0.mk 0 0 [] []),x1.1,x1.2.1)
 else
  Pg x1.2.2>>=fun x2=>
  if (x2 != 0)=true then
   some ((A0.mk 0 0 [] []),0,x2)
  else
   some (x1.2.2,0,0)
theorem Dq {text res}(hh:E9 text=some res):P0 C 11 [.d (.str text)] [] (Ret [] (.tup [.agg (A0.cells res.1),.d (.int .i64 res.2.1),.d (.int .i64 res.2.2)])):=by
 unfold E9 at hh
 obtain ⟨x1,hx1,hh⟩:=bs' hh
 refine P0.intro hC Tryz.func11 rfl rfl rfl (s' rfl rfl (F0.nf hC rfl (e' rfl (s' rfl rfl (F0.nf hC rfl (n' (p' 2 rfl (gq [1] (A1d hx1) rfl (e' rfl (S' (t' rfl (ci' rfl hh (fun hh=>?_) (fun hh=>?_)))))))))))))
 ·cases hh
  exact p' 3 rfl (F0.s hC rfl (e' rfl (re' (rq rfl))))
 obtain ⟨x2,hx2,hh⟩:=bs' hh
 refine sk' (S' (p' 1 rfl (cq (W13 hx2) rfl (e' rfl (t' rfl (ci' rfl hh (fun hh=>?_) (fun hh=>?_)))))))
 ·cases hh
  exact p' 2 rfl (F0.s hC rfl (e' rfl (re' (rq rfl))))
 cases hh
 exact sk' (p' 1 rfl (F0.s hC rfl (e' rfl (re' (rq rfl)))))
def Fm (s:Str):Option A0:=
 some (A0.mk 3 0 s [])
theorem Qt {s res}(hh:Fm s=some res):P0 C 27 [.d (.str s)] [] (Ret [] (.agg (A0.cells res))):=by
 unfold Fm at hh
 cases hh
 exact P0.intro hC Tryz.func27 rfl rfl rfl (s' rfl rfl (F0.nf hC rfl (n' (p' 2 rfl (F0.s hC rfl (n' (re' (rq rfl))))))))
mutual
def Z3 (a:A0)(b:A0):Option Bool:=
 if (bif (bif (bif (a.Op != b.Op) then true else (a.NV != b.NV)) then true else (!(a.Name == b.Name))) then true else (((a.Kids).length:Int) != ((b.Kids).length:Int)))=true then
  some false
 else
  Bc a b 0
 partial_fixpoint
def Bc (a:A0)(b:A0)(i:Int):Option Bool:=
 if (decide (i < ((a.Kids).length:Int)))=true then
  idx a.Kids i>>=fun x1=>
  idx b.Kids i>>=fun x2=>
  Z3 x1 x2>>=fun x3=>
  if (!x3)=true then
   some false
  else
   Bc a b (IntKind.i64.wrap (i+1))
 else
  some true
 partial_fixpoint
end
abbrev Xt (a:A0)(b:A0)(res:Bool):Prop:=P0 C 13 [.agg (A0.cells a),.agg (A0.cells b)] [] (Ret [] (.d (.bool res)))
abbrev O11 (a:A0)(b:A0)(i:Int)(res:Bool):Prop:=LM C 53 0 Tryz.f13 [1,1,0,1,4] [(2,.ref 0 0),(3,.ref 1 0),(5,.d (.int .i64 i))] [.row (A0.cells a) 26,.row (A0.cells b) 26] (Ret [] (.d (.bool res)))
theorem X13:(∀ a b res,Z3 a b=some res→Xt a b res)∧(∀ a b i res,Bc a b i=some res→O11 a b i res):=by
 refine Z3.mutual_partial_correctness _ _ ?_ ?_
 ·intro g1 ih1 a b res hh
  refine P0.intro hC Tryz.func13 rfl rfl rfl (s' rfl rfl (F0.n hC rfl (F0.n hC rfl (e' rfl (S' (sg' 28 rfl (G' 7 rfl (a1' rfl (a0' rfl (a1' rfl (a2' rfl (po' rfl (G' 2 rfl ?_)))))))))))))
  refine a1' rfl (a0' rfl (a1' rfl (a2' rfl (po' rfl (G' 2 rfl (a1' rfl (AG.qe hC rfl (fun hg=>⟨⟨hg,trivial⟩,trivial⟩) (A0.lenA _) (a0' rfl (a1' rfl (AG.qe hC rfl (fun hg=>⟨⟨hg,trivial⟩,trivial⟩) (A0.lenA _) (a2' rfl (po' rfl (an' ?_)))))))))))))
  refine n' (ci' rfl hh (fun hh=>?_) (fun hh=>?_))
  ·cases hh
   exact t' rfl (re' (rq rfl))
  exact sk' (S' (t' rfl (bk' (fq (ih1 _ _ _ _ hh) rfl))))
 ·intro g0 g1 ih0 ih1 a b i res hh
  refine X0.unroll (S' (p' 3 rfl (qe' rfl trivial (A0.lenA _) (e' rfl (ci' rfl hh (fun hh=>?_) (fun hh=>?_))))))
  ·obtain ⟨x1,hx1,hh⟩:=bs' hh
   obtain ⟨x2,hx2,hh⟩:=bs' hh
   obtain ⟨x3,hx3,hh⟩:=bs' hh
   refine sk' (S' (bk' (S' (AEx.draw hC 12 rfl rfl rfl (O' 3 rfl (AQ.i hC rfl (Z0 hx1) (A0.idx hx1) rfl (O' 4 rfl (AQ.i hC rfl (Z0 hx2) (A0.idx hx2) rfl (Q' rfl (Qc' (ih0 _ _ _ hx3) rfl rfl (E' rfl (n' (ci' rfl hh (fun hh=>?_) (fun hh=>?_))))))))))))))
   ·cases hh
    exact t' rfl (re' (rq rfl))
   exact sk' (T' rfl (lq (ih1 _ _ _ _ hh) rfl))
  cases hh
  exact ex' (t' rfl (re' (rq rfl)))
theorem Cc {a b res}(hh:Z3 a b=some res):Xt a b res:=(X13).1 _ _ _ hh
def Uk:Option Bool:=
 E9 [97,32,45,32,98,32,45,32,99,91,49,93,46,100]>>=fun x1=>
 Fm [99]>>=fun x2=>
 Fm [97]>>=fun x3=>
 Fm [98]>>=fun x4=>
 E9 [97,32,61,61,32,98,32,61,61,32,99]>>=fun x5=>
 (if (x1.2.2 == 0)=true then Z3 x1.1 (A0.mk 9 0 [] [(A0.mk 9 0 [] [x3,x4]),(A0.mk 4 0 [100] [(A0.mk 5 0 [] [x2,(A0.mk 0 1 [] [])])])]) else some default)>>=fun x6=>
 some (bif (bif (bif (x1.2.2 == 0) then x6 else false) then (x5.2.2 == 6) else false) then (x5.2.1 == 7) else false)
theorem B1d {res}(hh:Uk=some res):P0 C 10 [] [] (Ret [] (.d (.bool res))):=by
 unfold Uk at hh
 obtain ⟨x1,hx1,hh⟩:=bs' hh
 obtain ⟨x2,hx2,hh⟩:=bs' hh
 obtain ⟨x3,hx3,hh⟩:=bs' hh
 obtain ⟨x4,hx4,hh⟩:=bs' hh
 obtain ⟨x5,hx5,hh⟩:=bs' hh
 obtain ⟨x6,hx6,hh⟩:=bs' hh
 cases hh
 refine P0.intro hC Tryz.func10 rfl rfl rfl (t' rfl (s' rfl rfl (cq (Dq hx1) rfl (o' 4 rfl (F0.nf hC rfl (F0.s hC rfl (e' rfl (s' rfl rfl (cq (Qt hx2) rfl (q' rfl (F0.be hC rfl (A0.rows_map [x2,(A0.mk 0 1 [] [])]).symm (q' rfl (F0.be hC rfl (A0.rows_map [(A0.mk 5 0 [] [x2,(A0.mk 0 1 [] [])])]).symm ?_)))))))))))))
 refine q' rfl (F0.nf hC rfl (F0.s hC rfl (n' (S' (AEx.drawL hC 8 [] [(7,2)] [[.row (A0.cells x1.1) 26,.row [.d (.int .i64 4),.d (.int .i64 0),.d (.str [100]),.full (A0.rows [(A0.mk 5 0 [] [x2,(A0.mk 0 1 [] [])])])] 26,.row [.d (.int .i64 0),.d (.int .i64 0),.d (.str []),.full (A0.rows [])] 26]] rfl rfl rfl rfl rfl rfl rfl rfl rfl rfl (AS.c (Qt hx3) rfl rfl rfl rfl ?_))))))
 refine AS.c (Qt hx4) rfl rfl rfl rfl (AS.a rfl (fun H=>AQ.be hC rfl (A0.rows_map [x3,x4]).symm (AQ.nil rfl)) rfl rfl (AS.q hC rfl rfl rfl rfl (AS.q hC rfl rfl rfl rfl (AS.a rfl (fun H=>AQ.be hC rfl (A0.rows_map [(A0.mk 9 0 [] [x3,x4]),(A0.mk 4 0 [100] [(A0.mk 5 0 [] [x2,(A0.mk 0 1 [] [])])])]).symm (AQ.nil rfl)) rfl rfl (AS.q hC rfl rfl rfl rfl ?_)))))
 refine AS.n hC rfl rfl rfl rfl (AS.nil (F0.s hC rfl (n' (s' rfl rfl (cq (Dq hx5) rfl (o' 4 rfl (F0.nf hC rfl (F0.s hC rfl (e' rfl (sg' 16 rfl (G' 5 rfl (AG.cl rfl (fun hw=>Cc (V1 hw hx6)) ⟨.rfl,(.aggL ⟨.rfl,.rfl,.rfl,.full,trivial⟩),trivial⟩ rfl (fun hg=>⟨hg,hg,trivial⟩) (pa' rfl ?_)))))))))))))
 exact G' 2 rfl (a1' rfl (pa' rfl (G' 2 rfl (a1' rfl (pa' rfl (a0' rfl (an' (n' (re' (rq rfl))))))))))
def Pi (c:Int):Option Bool:=
 some (bif (decide (c≥97)) then (decide (c≤122)) else false)
theorem Hp {c res}(hh:Pi c=some res):P0 C 104 [.d (.int .u8 c)] [] (Ret [] (.d (.bool res))):=by
 unfold Pi at hh
 cases hh
 exact P0.intro hC Tryz.func104 rfl rfl rfl (t' rfl (sg' 7 rfl (G' 4 rfl (a1' rfl (pa' rfl (a0' rfl (an' (n' (re' (rq rfl))))))))))
def Nr (c:Int):Option Bool:=
 some (bif (decide (c≥48)) then (decide (c≤57)) else false)
theorem C1d {c res}(hh:Nr c=some res):P0 C 106 [.d (.int .u8 c)] [] (Ret [] (.d (.bool res))):=by
 unfold Nr at hh
 cases hh
 exact P0.intro hC Tryz.func106 rfl rfl rfl (t' rfl (sg' 7 rfl (G' 4 rfl (a1' rfl (pa' rfl (a0' rfl (an' (n' (re' (rq rfl))))))))))
def Se (s:Str)(atV1:Int):Option Int:=
 (if (decide (atV1 < ((s).length:Int)))=true then idx s atV1 else some default)>>=fun x1=>
 (if (decide (atV1 < ((s).length:Int)))=true then Pi (x1.toNat:Int) else some default)>>=fun x2=>
 (if ((decide (atV1 < ((s).length:Int)))&&(!x2))=true then idx s atV1 else some default)>>=fun x3=>
 (if ((decide (atV1 < ((s).length:Int)))&&(!x2))=true then Nr (x3.toNat:Int) else some default)>>=fun x4=>
 if (bif (decide (atV1 < ((s).length:Int))) then (bif x2 then true else x4) else false)=true then
  Se s (IntKind.i64.wrap (atV1+1))
 else
  some atV1
 partial_fixpoint
abbrev A10 (s:Str)(atV1:Int)(res:Int):Prop:=LM C 24 0 Tryz.f103 [1,0,4] [(0,.d (.str s)),(1,.d (.int .i64 atV1))] [] (Ret [] (.d (.int .i64 res)))
theorem L19 (s:Str):(∀ atV1 res,Se s atV1=some res→A10 s atV1 res):=by
 refine Se.partial_correctness s _ ?_
 ·intro g0 ih0 atV1 res hh
  obtain ⟨x1,hx1,hh⟩:=bs' hh
  obtain ⟨x2,hx2,hh⟩:=bs' hh
  obtain ⟨x3,hx3,hh⟩:=bs' hh
  obtain ⟨x4,hx4,hh⟩:=bs' hh
  refine X0.unroll (S' (sg' 16 rfl (G' 7 rfl (AG.x hC rfl rfl (fun hg=>⟨hg,hg,trivial⟩) (fun hw=>⟨Z0 (V1 hw hx1),Ed (V1 hw hx1)⟩) (AG.c rfl rfl (fun hg=>⟨hg,trivial⟩) (fun hw=>Hp (V1 hw hx2)) (a1' rfl (G' 2 rfl (AG.x hC rfl rfl (fun hg=>⟨hg,hg,trivial⟩) (fun hw=>⟨Z0 (V1 hw hx3),Ed (V1 hw hx3)⟩) ?_))))))))
  refine AG.c rfl rfl (fun hg=>⟨hg,trivial⟩) (fun hw=>C1d (V1 hw hx4)) (pO' rfl (pa' rfl (an' (n' (ci' rfl hh (fun hh=>?_) (fun hh=>?_))))))
  ·exact sk' (bk' (T' rfl (lq (ih0 _ _ hh) rfl)))
  cases hh
  exact ex' (t' rfl (re' (rq rfl)))
theorem O1b {s atV1 res}(hh:Se s atV1=some res):A10 s atV1 res:=(L19 s) _ _ hh
def Ts (s:Str)(atV:Int):Option Int:=
 Se s atV
theorem M1h {s atV res}(hh:Ts s atV=some res):P0 C 103 [.d (.str s),.d (.int .i64 atV)] [] (Ret [] (.d (.int .i64 res))):=by
 unfold Ts at hh
 exact P0.intro hC Tryz.func103 rfl rfl rfl (t' rfl (S' (bk' (fq (O1b hh) rfl))))
def A8 (s:Str)(i1:Int):Option Bool:=
 if (decide ((IntKind.i64.wrap ((IntKind.i64.wrap (i1+((s).length:Int)))+2))≤162))=true then
  slc [32,116,121,112,101,32,115,101,99,114,101,116,32,112,117,98,108,105,99,32,114,97,110,100,111,109,32,118,97,114,32,104,97,116,99,104,32,102,117,110,99,32,114,101,116,117,114,110,32,98,101,103,105,110,32,101,110,100,32,98,111,111,108,32,105,110,116,32,97,114,114,97,121,32,111,102,32,114,101,99,111,114,100,32,116,114,117,101,32,102,97,108,115,101,32,99,97,108,108,32,114,101,108,101,97,115,101,32,111,117,116,112,117,116,32,119,97,105,116,32,105,102,32,101,108,115,101,32,119,104,105,108,101,32,108,105,109,105,116,32,102,111,114,32,116,111,32,115,101,116,116,108,101,32,109,105,110,32,109,97,120,32] i1 (IntKind.i64.wrap ((IntKind.i64.wrap (i1+((s).length:Int)))+2))>>=fun x3=>
  if (decide (1+s.length≤maxLen))=true then
   if (decide (([32]++s).length+1≤maxLen))=true then
    if (x3 == (([32]++s)++[32]))=true then
     some true
    else
     A8 s (IntKind.i64.wrap (i1+1))
   else none
  else none
 else
  some false
 partial_fixpoint
abbrev Eq (s:Str)(i1:Int)(res:Bool):Prop:=LM C 38 0 Tryz.f105 [1,1,1,0,1,4] [(0,.d (.str s)),(4,.d (.int .i64 i1))] [] (Ret [] (.d (.bool res)))
theorem B10 (s:Str):(∀ i1 res,A8 s i1=some res→Eq s i1 res):=by
 refine A8.partial_correctness s _ ?_
 ·intro g0 ih0 i1 res hh
  refine X0.unroll (S' (t' rfl (ci' rfl hh (fun hh=>?_) (fun hh=>?_))))
  ·obtain ⟨x3,hx3,hh⟩:=bs' hh
   obtain ⟨c9,hh⟩:=N0 hh
   obtain ⟨c10,hh⟩:=N0 hh
   refine sk' (S' (bk' (p' 6 rfl (F0.lx hC rfl hx3 (q' rfl (qc' rfl c9 (qc' rfl c10 (e' rfl (ci' rfl hh (fun hh=>?_) (fun hh=>?_))))))))))
   ·cases hh
    exact t' rfl (re' (rq rfl))
   exact sk' (T' rfl (lq (ih0 _ _ hh) rfl))
  cases hh
  exact ex' (t' rfl (re' (rq rfl)))
theorem P11 {s i1 res}(hh:A8 s i1=some res):Eq s i1 res:=(B10 s) _ _ hh
def B8 (s:Str)(i:Int):Option Bool:=
 if (decide (i < ((s).length:Int)))=true then
  idx s i>>=fun x1=>
  Pi (x1.toNat:Int)>>=fun x2=>
  if (!x2)=true then
   some false
  else
   B8 s (IntKind.i64.wrap (i+1))
 else
  A8 s 0
 partial_fixpoint
abbrev Fq (s:Str)(i:Int)(res:Bool):Prop:=LM C 38 0 Tryz.f105 [1,1,0,1,4] [(0,.d (.str s)),(3,.d (.int .i64 i))] [] (Ret [] (.d (.bool res)))
theorem C10 (s:Str):(∀ i res,B8 s i=some res→Fq s i res):=by
 refine B8.partial_correctness s _ ?_
 ·intro g0 ih0 i res hh
  refine X0.unroll (S' (t' rfl (ci' rfl hh (fun hh=>?_) (fun hh=>?_))))
  ·obtain ⟨x1,hx1,hh⟩:=bs' hh
   obtain ⟨x2,hx2,hh⟩:=bs' hh
   refine sk' (S' (bk' (p' 2 rfl (x' rfl (Z0 hx1) (Ed hx1) (cq (Hp hx2) rfl (e' rfl (ci' rfl hh (fun hh=>?_) (fun hh=>?_))))))))
   ·cases hh
    exact t' rfl (re' (rq rfl))
   exact sk' (T' rfl (lq (ih0 _ _ hh) rfl))
  exact ex' (S' (t' rfl (bk' (fq (P11 hh) rfl))))
theorem Q11 {s i res}(hh:B8 s i=some res):Fq s i res:=(C10 s) _ _ hh
def Qi (s:Str):Option Bool:=
 if (((s).length:Int) == 0)=true then
  some false
 else
  B8 s 0
theorem Y17 {s res}(hh:Qi s=some res):P0 C 105 [.d (.str s)] [] (Ret [] (.d (.bool res))):=by
 unfold Qi at hh
 refine P0.intro hC Tryz.func105 rfl rfl rfl (t' rfl (S' (t' rfl (ci' rfl hh (fun hh=>?_) (fun hh=>?_)))))
 ·cases hh
  exact t' rfl (re' (rq rfl))
 exact sk' (S' (t' rfl (bk' (fq (Q11 hh) rfl))))
def B1 (l:List K0)(atV:Int)(text:Str):Option Bool:=
 (if (decide (atV < ((l).length:Int)))=true then idx l atV else some default)>>=fun x1=>
 (if ((decide (atV < ((l).length:Int)))&&(!(x1.Kind == 2)))=true then idx l atV else some default)>>=fun x2=>
 (if (bif (decide (atV < ((l).length:Int))) then (bif (x1.Kind == 2) then true else (x2.Kind == 3)) else false)=true then idx l atV else some default)>>=fun x3=>
 some (bif (bif (decide (atV < ((l).length:Int))) then (bif (x1.Kind == 2) then true else (x2.Kind == 3)) else false) then (x3.Text == text) else false)
def Vu (op:Int)(a:A0)(b:A0):Option A0:=
 some (A0.mk op 0 [] [a,b])
def Jh (l:List K0)(atV:Int)(n:Int)(i:Int):Option (Int×Int×Bool):=
 idx l atV>>=fun x2=>
 if (decide (i < ((x2.Text).length:Int)))=true then
  idx l atV>>=fun x3=>
  idx x3.Text i>>=fun x4=>
  Jh l atV (IntKind.i64.wrap ((IntKind.i64.wrap (10 * n))+(IntKind.i64.wrap (IntKind.u8.wrap ((x4.toNat:Int) - 48))))) (IntKind.i64.wrap (i+1))
 else
  some (n,(IntKind.i64.wrap (atV+1)),true)
 partial_fixpoint
def Kl (l:List K0)(atV:Int):Option (Int×Int×Bool):=
 (if (!(decide (atV≥((l).length:Int))))=true then idx l atV else some default)>>=fun x1=>
 if (bif (decide (atV≥((l).length:Int))) then true else (x1.Kind != 1))=true then
  some (0,atV,false)
 else
  Jh l atV 0 0
def Lb (l:List K0)(atV:Int):Option (Str×Int×Bool):=
 (if (decide (atV < ((l).length:Int)))=true then idx l atV else some default)>>=fun x1=>
 if (bif (decide (atV < ((l).length:Int))) then (x1.Kind == 0) else false)=true then
  idx l atV>>=fun x2=>
  some (x2.Text,(IntKind.i64.wrap (atV+1)),true)
 else
  some ([],atV,false)
def S4 (l:List K0)(atV:Int)(level:Int):Option (Int×Bool):=
 (if (!(decide (atV≥((l).length:Int))))=true then idx l atV else some default)>>=fun x1=>
 if (bif (decide (atV≥((l).length:Int))) then true else (x1.Kind != 3))=true then
  some (0,false)
 else
  idx l atV>>=fun x2=>
  if (x2.Text == [124,124])=true then
   some (20,(1 == level))
  else
   if (x2.Text == [38,38])=true then
    some (19,(2 == level))
   else
    if (x2.Text == [61,61])=true then
     some (13,(3 == level))
    else
     if (x2.Text == [33,61])=true then
      some (14,(3 == level))
     else
      if (x2.Text == [60])=true then
       some (15,(3 == level))
      else
       if (x2.Text == [60,61])=true then
        some (16,(3 == level))
       else
        if (x2.Text == [62])=true then
         some (17,(3 == level))
        else
         if (x2.Text == [62,61])=true then
          some (18,(3 == level))
         else
          if (x2.Text == [43])=true then
           some (8,(4 == level))
          else
           if (x2.Text == [45])=true then
            some (9,(4 == level))
           else
            if (x2.Text == [42])=true then
             some (10,(5 == level))
            else
             if (x2.Text == [47])=true then
              some (11,(5 == level))
             else
              if (x2.Text == [37])=true then
               some (12,(5 == level))
              else
               some (0,(0 == level))
mutual
def U1 (l:List K0)(atV:Int):Option (A0×Int×Bool):=
 J1 l atV 1>>=fun x1=>
 (if (!(!x1.2.2))=true then B1 l x1.2.1 [63] else some default)>>=fun x2=>
 if (bif (!x1.2.2) then true else (!x2))=true then
  some (x1.1,x1.2.1,x1.2.2)
 else
  U1 l (IntKind.i64.wrap (x1.2.1+1))>>=fun x3=>
  if (!x3.2.2)=true then
   some (x3.1,x3.2.1,false)
  else
   B1 l x3.2.1 [58]>>=fun x4=>
   if (!x4)=true then
    some (x3.1,x3.2.1,false)
   else
    U1 l (IntKind.i64.wrap (x3.2.1+1))>>=fun x5=>
    if (!x5.2.2)=true then
     some (x5.1,x5.2.1,false)
    else
     some ((A0.mk 23 0 [] [x1.1,x3.1,x5.1]),x5.2.1,true)
 partial_fixpoint
def J1 (l:List K0)(atV:Int)(n:Int):Option (A0×Int×Bool):=
 if (n == 6)=true then
  M3 l atV>>=fun x1=>
  some (x1.1,x1.2.1,x1.2.2)
 else
  J1 l atV (IntKind.i64.wrap (n+1))>>=fun x2=>
  if (!x2.2.2)=true then
   some (x2.1,x2.2.1,false)
  else
   O1 l n x2.1 x2.2.1
 partial_fixpoint
def O1 (l:List K0)(n:Int)(o1:A0)(atV1:Int):Option (A0×Int×Bool):=
 S4 l atV1 n>>=fun x3=>
 if (!x3.2)=true then
  some (o1,atV1,true)
 else
  J1 l (IntKind.i64.wrap (atV1+1)) (IntKind.i64.wrap (n+1))>>=fun x4=>
  if (!x4.2.2)=true then
   some (x4.1,x4.2.1,false)
  else
   Vu x3.1 o1 x4.1>>=fun x5=>
   if (n == 3)=true then
    some (x5,x4.2.1,true)
   else
    O1 l n x5 x4.2.1
 partial_fixpoint
def M3 (l:List K0)(atV:Int):Option (A0×Int×Bool):=
 B1 l atV [45]>>=fun x1=>
 (if (!x1)=true then B1 l atV [33] else some default)>>=fun x2=>
 if (bif (!x1) then (!x2) else false)=true then
  F5 l atV>>=fun x3=>
  some (x3.1,x3.2.1,x3.2.2)
 else
  B1 l atV [33]>>=fun x4=>
  if x4=true then
   Fg l atV 7
  else
   Fg l atV 6
 partial_fixpoint
def Fg (l:List K0)(atV:Int)(op:Int):Option (A0×Int×Bool):=
 M3 l (IntKind.i64.wrap (atV+1))>>=fun x5=>
 if (!x5.2.2)=true then
  some (x5.1,x5.2.1,false)
 else
  some ((A0.mk op 0 [] [x5.1]),x5.2.1,true)
 partial_fixpoint
def F5 (l:List K0)(atV:Int):Option (A0×Int×Bool):=
 B1 l atV [116,114,117,101]>>=fun x1=>
 if x1=true then
  some ((A0.mk 1 0 [] []),(IntKind.i64.wrap (atV+1)),true)
 else
  B1 l atV [102,97,108,115,101]>>=fun x2=>
  if x2=true then
   some ((A0.mk 2 0 [] []),(IntKind.i64.wrap (atV+1)),true)
  else
   B1 l atV [109,105,110]>>=fun x3=>
   (if (!x3)=true then B1 l atV [109,97,120] else some default)>>=fun x4=>
   if (bif x3 then true else x4)=true then
    Fk l atV>>=fun x5=>
    some (x5.1,x5.2.1,x5.2.2)
   else
    B1 l atV [40]>>=fun x6=>
    if x6=true then
     U1 l (IntKind.i64.wrap (atV+1))>>=fun x9=>
     (if (!(!x9.2.2))=true then B1 l x9.2.1 [41] else some default)>>=fun x10=>
     if (bif (!x9.2.2) then true else (!x10))=true then
      some (x9.1,x9.2.1,false)
     else
      some (x9.1,(IntKind.i64.wrap (x9.2.1+1)),true)
    else
     Kl l atV>>=fun x7=>
     if x7.2.2=true then
      some ((A0.mk 0 x7.1 [] []),x7.2.1,true)
     else
      T7 l atV>>=fun x8=>
      some (x8.1,x8.2.1,x8.2.2)
 partial_fixpoint
def T7 (l:List K0)(atV:Int):Option (A0×Int×Bool):=
 Lb l atV>>=fun x1=>
 if (!x1.2.2)=true then
  some ((A0.mk 0 0 [] []),x1.2.1,false)
 else
  C5 l 3 0 x1.1 [] x1.2.1
 partial_fixpoint
def C5 (l:List K0)(o1_Op:Int)(o1_NV:Int)(o1_Name:Str)(o1_Kids:List A0)(atV1:Int):Option (A0×Int×Bool):=
 B1 l atV1 [46]>>=fun x2=>
 (if (!x2)=true then B1 l atV1 [91] else some default)>>=fun x3=>
 if (bif x2 then true else x3)=true then
  B1 l atV1 [46]>>=fun x4=>
  if x4=true then
   Lb l (IntKind.i64.wrap (atV1+1))>>=fun x5=>
   if (!x5.2.2)=true then
    some ((A0.mk o1_Op o1_NV o1_Name o1_Kids),x5.2.1,false)
   else
    C5 l 4 0 x5.1 [(A0.mk o1_Op o1_NV o1_Name o1_Kids)] x5.2.1
  else
   U1 l (IntKind.i64.wrap (atV1+1))>>=fun x6=>
   (if (!(!x6.2.2))=true then B1 l x6.2.1 [93] else some default)>>=fun x7=>
   if (bif (!x6.2.2) then true else (!x7))=true then
    some (x6.1,x6.2.1,false)
   else
    Vu 5 (A0.mk o1_Op o1_NV o1_Name o1_Kids) x6.1>>=fun x8=>
    C5 l x8.Op x8.NV x8.Name x8.Kids (IntKind.i64.wrap (x6.2.1+1))
 else
  some ((A0.mk o1_Op o1_NV o1_Name o1_Kids),atV1,true)
 partial_fixpoint
def Fk (l:List K0)(atV:Int):Option (A0×Int×Bool):=
 B1 l atV [109,97,120]>>=fun x1=>
 if x1=true then
  Ce l atV 22
 else
  Ce l atV 21
 partial_fixpoint
def Ce (l:List K0)(atV:Int)(op:Int):Option (A0×Int×Bool):=
 B1 l (IntKind.i64.wrap (atV+1)) [40]>>=fun x2=>
 if (!x2)=true then
  some ((A0.mk 0 0 [] []),(IntKind.i64.wrap (atV+1)),false)
 else
  U1 l (IntKind.i64.wrap (atV+2))>>=fun x3=>
  (if (!(!x3.2.2))=true then B1 l x3.2.1 [44] else some default)>>=fun x4=>
  if (bif (!x3.2.2) then true else (!x4))=true then
   some (x3.1,x3.2.1,false)
  else
   U1 l (IntKind.i64.wrap (x3.2.1+1))>>=fun x5=>
   (if (!(!x5.2.2))=true then B1 l x5.2.1 [41] else some default)>>=fun x6=>
   if (bif (!x5.2.2) then true else (!x6))=true then
    some (x5.1,x5.2.1,false)
   else
    Vu op x3.1 x5.1>>=fun x7=>
    some (x7,(IntKind.i64.wrap (x5.2.1+1)),true)
 partial_fixpoint
end
def Dc (e:A0):Option Bool:=
 Z3 e (A0.mk 0 0 [] [])>>=fun x1=>
 some x1
theorem Zh {e res}(hh:Dc e=some res):P0 C 124 [.agg (A0.cells e)] [] (Ret [] (.d (.bool res))):=by
 unfold Dc at hh
 obtain ⟨x1,hx1,hh⟩:=bs' hh
 cases hh
 exact P0.intro hC Tryz.func124 rfl rfl rfl (s' rfl rfl (F0.n hC rfl (e' rfl (p' 2 rfl (cq (Cc hx1) rfl (e' rfl (re' (rq rfl))))))))
mutual
def Na (e:A0):Option Int:=
 Ec e 1 0
 partial_fixpoint
def Ec (e:A0)(n:Int)(i:Int):Option Int:=
 if (decide (i < ((e.Kids).length:Int)))=true then
  idx e.Kids i>>=fun x1=>
  Na x1>>=fun x2=>
  Ec e (IntKind.i64.wrap (n+x2)) (IntKind.i64.wrap (i+1))
 else
  some n
 partial_fixpoint
end
abbrev Yt (e:A0)(res:Int):Prop:=P0 C 125 [.agg (A0.cells e)] [] (Ret [] (.d (.int .i64 res)))
abbrev R11 (e:A0)(n:Int)(i:Int)(res:Int):Prop:=LM C 21 0 Tryz.f125 [1,1,0,1,4] [(1,.ref 0 0),(3,.d (.int .i64 n)),(4,.d (.int .i64 i))] [.row (A0.cells e) 26] (Ret [] (.d (.int .i64 res)))
theorem Y13:(∀ e res,Na e=some res→Yt e res)∧(∀ e n i res,Ec e n i=some res→R11 e n i res):=by
 refine Na.mutual_partial_correctness _ _ ?_ ?_
 ·intro g1 ih1 e res hh
  exact P0.intro hC Tryz.func125 rfl rfl rfl (s' rfl rfl (F0.n hC rfl (e' rfl (t' rfl (S' (t' rfl (bk' (fq (ih1 _ _ _ _ hh) rfl))))))))
 ·intro g0 g1 ih0 ih1 e n i res hh
  refine X0.unroll (S' (p' 3 rfl (qe' rfl trivial (A0.lenA _) (e' rfl (ci' rfl hh (fun hh=>?_) (fun hh=>?_))))))
  ·obtain ⟨x1,hx1,hh⟩:=bs' hh
   obtain ⟨x2,hx2,hh⟩:=bs' hh
   exact sk' (S' (bk' (P' 4 rfl (i' rfl (Z0 hx1) (A0.idx hx1) rfl (q' rfl (cq (ih0 _ _ hx2) rfl (e' rfl (T' rfl (lq (ih1 _ _ _ _ hh) rfl)))))))))
  cases hh
  exact ex' (t' rfl (re' (rq rfl)))
theorem U15 {e res}(hh:Na e=some res):Yt e res:=(Y13).1 _ _ hh
mutual
def Oa (e:A0):Option Int:=
 F9 e 0 0
 partial_fixpoint
def F9 (e:A0)(d:Int)(i:Int):Option Int:=
 if (decide (i < ((e.Kids).length:Int)))=true then
  idx e.Kids i>>=fun x1=>
  Oa x1>>=fun x2=>
  if (decide (x2 > d))=true then
   F9 e x2 (IntKind.i64.wrap (i+1))
  else
   F9 e d (IntKind.i64.wrap (i+1))
 else
  some (IntKind.i64.wrap (d+1))
 partial_fixpoint
end
abbrev Zt (e:A0)(res:Int):Prop:=P0 C 127 [.agg (A0.cells e)] [] (Ret [] (.d (.int .i64 res)))
abbrev S11 (e:A0)(d:Int)(i:Int)(res:Int):Prop:=LM C 25 0 Tryz.f127 [1,1,0,1,4] [(1,.ref 0 0),(3,.d (.int .i64 d)),(4,.d (.int .i64 i))] [.row (A0.cells e) 26] (Ret [] (.d (.int .i64 res)))
theorem Z13:(∀ e res,Oa e=some res→Zt e res)∧(∀ e d i res,F9 e d i=some res→S11 e d i res):=by
 refine Oa.mutual_partial_correctness _ _ ?_ ?_
 ·intro g1 ih1 e res hh
  exact P0.intro hC Tryz.func127 rfl rfl rfl (s' rfl rfl (F0.n hC rfl (e' rfl (t' rfl (S' (t' rfl (bk' (fq (ih1 _ _ _ _ hh) rfl))))))))
 ·intro g0 g1 ih0 ih1 e d i res hh
  refine X0.unroll (S' (p' 3 rfl (qe' rfl trivial (A0.lenA _) (e' rfl (ci' rfl hh (fun hh=>?_) (fun hh=>?_))))))
  ·obtain ⟨x1,hx1,hh⟩:=bs' hh
   obtain ⟨x2,hx2,hh⟩:=bs' hh
   refine sk' (S' (bk' (p' 3 rfl (i' rfl (Z0 hx1) (A0.idx hx1) rfl (q' rfl (cq (ih0 _ _ hx2) rfl (e' rfl (t' rfl (ci' rfl hh (fun hh=>?_) (fun hh=>?_))))))))))
   ·exact T' rfl (T' rfl (lq (ih1 _ _ _ _ hh) rfl))
   exact sk' (T' rfl (lq (ih1 _ _ _ _ hh) rfl))
  cases hh
  exact ex' (t' rfl (re' (rq rfl)))
theorem V15 {e res}(hh:Oa e=some res):Zt e res:=(Z13).1 _ _ hh
def C8 (s:R0)(d:Int):Option R0:=
 if (decide (d > s.depth))=true then
  some (R0.mk s.nodes d)
 else
  some s
theorem Wj {s d res}(hh:C8 s d=some res):P0 C 126 [.agg (R0.cells s),.d (.int .i64 d)] [] (Ret [] (.agg (R0.cells res))):=by
 unfold C8 at hh
 refine P0.intro hC Tryz.func126 rfl rfl rfl (s' rfl rfl (F0.n hC rfl (F0.n hC rfl (n' (S' (t' rfl (ci' rfl hh (fun hh=>?_) (fun hh=>?_))))))))
 ·cases hh
  exact P' 2 rfl (F0.s hC rfl (n' (p' 1 rfl (F0.s hC rfl (n' (re' (rq rfl)))))))
 cases hh
 exact sk' (p' 1 rfl (F0.s hC rfl (n' (re' (rq rfl)))))
def Mb (s:R0)(e:A0)(used:Bool):Option R0:=
 (if (!used)=true then Dc e else some default)>>=fun x1=>
 if (bif (!used) then x1 else false)=true then
  some s
 else
  Na e>>=fun x2=>
  Oa e>>=fun x3=>
  C8 (R0.mk (IntKind.i64.wrap (s.nodes+x2)) s.depth) x3>>=fun x4=>
  some x4
theorem Xj {s e used res}(hh:Mb s e used=some res):P0 C 68 [.agg (R0.cells s),.agg (A0.cells e),.d (.bool used)] [] (Ret [] (.agg (R0.cells res))):=by
 unfold Mb at hh
 obtain ⟨x1,hx1,hh⟩:=bs' hh
 refine P0.intro hC Tryz.func68 rfl rfl rfl (s' rfl rfl (F0.n hC rfl (F0.n hC rfl (F0.n hC rfl (n' (S' (sg' 6 rfl (G' 4 rfl (AG.c rfl rfl (fun hg=>⟨hg,trivial⟩) (fun hw=>Zh (V1 hw hx1)) (pa' rfl (an' (n' (ci' rfl hh (fun hh=>?_) (fun hh=>?_))))))))))))))
 ·cases hh
  exact p' 1 rfl (F0.s hC rfl (n' (re' (rq rfl))))
 obtain ⟨x2,hx2,hh⟩:=bs' hh
 obtain ⟨x3,hx3,hh⟩:=bs' hh
 obtain ⟨x4,hx4,hh⟩:=bs' hh
 cases hh
 refine sk' (S' (AEx.draw hC 6 rfl rfl rfl (O' 3 rfl (Qc' (U15 hx2) rfl rfl (E' rfl (F0.s hC rfl (n' (S' (AEx.draw hC 4 rfl rfl rfl (O' 2 rfl (Qc' (V15 hx3) rfl rfl (Qc' (Wj hx4) rfl rfl (Qn' ?_)))))))))))))
 exact F0.s hC rfl (n' (re' (rq rfl)))
def Ip (o:Int):Option Int:=
 if (bif (bif (bif (o == 0) then true else (o == 1)) then true else (o == 2)) then true else (o == 3))=true then
  some 0
 else
  if (bif (bif (o == 4) then true else (o == 6)) then true else (o == 7))=true then
   some 1
  else
   if (bif (o == 5) then true else (bif (decide (o≥8)) then (decide (o≤22)) else false))=true then
    some 2
   else
    if (o == 23)=true then
     some 3
    else
     some (-1)
theorem S1f {o res}(hh:Ip o=some res):P0 C 128 [.d (.int .i64 o)] [] (Ret [] (.d (.int .i64 res))):=by
 unfold Ip at hh
 refine P0.intro hC Tryz.func128 rfl rfl rfl (t' rfl (S' (sg' 14 rfl (G' 4 rfl (a1' rfl (po' rfl (G' 2 rfl (a1' rfl (po' rfl (G' 2 rfl (a1' rfl (po' rfl (an' ?_)))))))))))))
 refine n' (ci' rfl hh (fun hh=>?_) (fun hh=>?_))
 ·cases hh
  exact t' rfl (re' (rq rfl))
 refine sk' (S' (sg' 10 rfl (G' 4 rfl (a1' rfl (po' rfl (G' 2 rfl (a1' rfl (po' rfl (an' (n' (ci' rfl hh (fun hh=>?_) (fun hh=>?_))))))))))))
 ·cases hh
  exact t' rfl (re' (rq rfl))
 refine sk' (S' (sg' 10 rfl (G' 4 rfl (a1' rfl (a1' rfl (a0' rfl (a1' rfl (pA' rfl (po' rfl (an' (n' (ci' rfl hh (fun hh=>?_) (fun hh=>?_)))))))))))))
 ·cases hh
  exact t' rfl (re' (rq rfl))
 refine sk' (S' (t' rfl (ci' rfl hh (fun hh=>?_) (fun hh=>?_))))
 ·cases hh
  exact t' rfl (re' (rq rfl))
 cases hh
 exact sk' (t' rfl (re' (rq rfl)))
def Od (e:A0):Option Bool:=
 if (e.Op == 3)=true then
  some true
 else
  (if (bif (bif (e.Op == 4) then true else (e.Op == 5)) then (decide (((e.Kids).length:Int) > 0)) else false)=true then idx e.Kids 0 else some default)>>=fun x1=>
  (if (bif (bif (e.Op == 4) then true else (e.Op == 5)) then (decide (((e.Kids).length:Int) > 0)) else false)=true then Od x1 else some default)>>=fun x2=>
  some (bif (bif (bif (e.Op == 4) then true else (e.Op == 5)) then (decide (((e.Kids).length:Int) > 0)) else false) then x2 else false)
 partial_fixpoint
abbrev Cy (e:A0)(res:Bool):Prop:=P0 C 129 [.agg (A0.cells e)] [] (Ret [] (.d (.bool res)))
theorem Z17:(∀ e res,Od e=some res→Cy e res):=by
 refine Od.partial_correctness _ ?_
 ·intro g0 ih0 e res hh
  refine P0.intro hC Tryz.func129 rfl rfl rfl (s' rfl rfl (F0.n hC rfl (e' rfl (S' (t' rfl (ci' rfl hh (fun hh=>?_) (fun hh=>?_)))))))
  ·cases hh
   exact t' rfl (re' (rq rfl))
  obtain ⟨x1,hx1,hh⟩:=bs' hh
  obtain ⟨x2,hx2,hh⟩:=bs' hh
  cases hh
  refine sk' (sg' 22 rfl (G' 5 rfl (a1' rfl (a1' rfl (po' rfl (G' 2 rfl (a1' rfl (AG.qe hC rfl (fun hg=>⟨⟨hg,trivial⟩,trivial⟩) (A0.lenA _) (a1' rfl (pa' rfl (G' 2 rfl (a1' rfl (AG.i hC rfl rfl (fun hg=>⟨hg,trivial⟩) (fun hw=>⟨Z0 (V1 hw hx1),A0.idx (V1 hw hx1),rfl⟩) ?_)))))))))))))
  exact a1' rfl (AG.c rfl rfl (fun hg=>⟨hg,trivial⟩) (fun hw=>ih0 _ _ (V1 hw hx2)) (pa' rfl (a0' rfl (an' (n' (re' (rq rfl)))))))
theorem Xv {e res}(hh:Od e=some res):Cy e res:=(Z17) _ _ hh
mutual
def X5 (e:A0):Option Bool:=
 Ip e.Op>>=fun x1=>
 if (bif (bif (x1 != ((e.Kids).length:Int)) then true else (bif (e.Op != 0) then (e.NV != 0) else false)) then true else (bif (bif (e.Op != 3) then (e.Op != 4) else false) then (!(e.Name == [])) else false))=true then
  some false
 else
  (if (bif (e.Op == 4) then true else (e.Op == 5))=true then Od e else some default)>>=fun x2=>
  if (bif (bif (e.Op == 4) then true else (e.Op == 5)) then (!x2) else false)=true then
   some false
  else
   Fd e 0
 partial_fixpoint
def Fd (e:A0)(i:Int):Option Bool:=
 if (decide (i < ((e.Kids).length:Int)))=true then
  idx e.Kids i>>=fun x3=>
  X5 x3>>=fun x4=>
  if (!x4)=true then
   some false
  else
   Fd e (IntKind.i64.wrap (i+1))
 else
  some true
 partial_fixpoint
end
abbrev Yv (e:A0)(res:Bool):Prop:=P0 C 69 [.agg (A0.cells e)] [] (Ret [] (.d (.bool res)))
abbrev A14 (e:A0)(i:Int)(res:Bool):Prop:=LM C 63 0 Tryz.f69 [1,1,1,0,1,4] [(1,.ref 0 0),(3,.d (.int .i64 i))] [.row (A0.cells e) 26] (Ret [] (.d (.bool res)))
theorem W15:(∀ e res,X5 e=some res→Yv e res)∧(∀ e i res,Fd e i=some res→A14 e i res):=by
 refine X5.mutual_partial_correctness _ _ ?_ ?_
 ·intro g1 ih1 e res hh
  obtain ⟨x1,hx1,hh⟩:=bs' hh
  refine P0.intro hC Tryz.func69 rfl rfl rfl (s' rfl rfl (F0.n hC rfl (e' rfl (S' (S' (AEx.drawG hC 32 rfl rfl rfl (G' 2 rfl (AG.c rfl rfl (fun _=>trivial) (fun _=>S1f hx1) (G' 2 rfl (AG.qe hC rfl (fun hg=>⟨trivial,trivial⟩) (A0.lenA _) (G' 3 rfl (a1' rfl (a1' rfl ?_)))))))))))))
  refine a1' rfl (a0' rfl (a1' rfl (a1' rfl (pA' rfl (po' rfl (G' 2 rfl (a1' rfl (a1' rfl (a1' rfl (a0' rfl (a1' rfl (a1' rfl (pA' rfl ?_)))))))))))))
  refine a1' rfl (a0' rfl (a1' rfl (a1' rfl (pA' rfl (po' rfl (an' (n' (ci' rfl hh (fun hh=>?_) (fun hh=>?_)))))))))
  ·cases hh
   exact t' rfl (re' (rq rfl))
  obtain ⟨x2,hx2,hh⟩:=bs' hh
  refine sk' (S' (sg' 13 rfl (G' 5 rfl (a1' rfl (a1' rfl (po' rfl (G' 2 rfl (AG.c rfl rfl (fun hg=>⟨hg,trivial⟩) (fun hw=>Xv (V1 hw hx2)) (a1' rfl (pa' rfl (an' (n' (ci' rfl hh (fun hh=>?_) (fun hh=>?_))))))))))))))
  ·cases hh
   exact t' rfl (re' (rq rfl))
  exact sk' (S' (t' rfl (bk' (fq (ih1 _ _ _ hh) rfl))))
 ·intro g0 g1 ih0 ih1 e i res hh
  refine X0.unroll (S' (p' 3 rfl (qe' rfl trivial (A0.lenA _) (e' rfl (ci' rfl hh (fun hh=>?_) (fun hh=>?_))))))
  ·obtain ⟨x3,hx3,hh⟩:=bs' hh
   obtain ⟨x4,hx4,hh⟩:=bs' hh
   refine sk' (S' (bk' (p' 3 rfl (i' rfl (Z0 hx3) (A0.idx hx3) rfl (q' rfl (cq (ih0 _ _ hx4) rfl (e' rfl (ci' rfl hh (fun hh=>?_) (fun hh=>?_)))))))))
   ·cases hh
    exact t' rfl (re' (rq rfl))
   exact sk' (T' rfl (lq (ih1 _ _ _ hh) rfl))
  cases hh
  exact ex' (t' rfl (re' (rq rfl)))
theorem Ai {e res}(hh:X5 e=some res):Yv e res:=(W15).1 _ _ hh
def Jp (s:Str):Option Bool:=
 (if (!(bif (decide (((s).length:Int) < 1)) then true else (decide (((s).length:Int) > 12))))=true then idx s 0 else some default)>>=fun x1=>
 (if (!(bif (decide (((s).length:Int) < 1)) then true else (decide (((s).length:Int) > 12))))=true then Pi (x1.toNat:Int) else some default)>>=fun x2=>
 (if (!(bif (bif (decide (((s).length:Int) < 1)) then true else (decide (((s).length:Int) > 12))) then true else (!x2)))=true then Qi s else some default)>>=fun x3=>
 if (bif (bif (bif (decide (((s).length:Int) < 1)) then true else (decide (((s).length:Int) > 12))) then true else (!x2)) then true else x3)=true then
  some false
 else
  Ts s 0>>=fun x4=>
  some (x4 == ((s).length:Int))
theorem P1b {s res}(hh:Jp s=some res):P0 C 170 [.d (.str s)] [] (Ret [] (.d (.bool res))):=by
 unfold Jp at hh
 obtain ⟨x1,hx1,hh⟩:=bs' hh
 obtain ⟨x2,hx2,hh⟩:=bs' hh
 obtain ⟨x3,hx3,hh⟩:=bs' hh
 refine P0.intro hC Tryz.func170 rfl rfl rfl (t' rfl (S' (sg' 18 rfl (G' 5 rfl (a1' rfl (a1' rfl (po' rfl (G' 2 rfl (AG.x hC rfl rfl (fun hg=>⟨hg,trivial⟩) (fun hw=>⟨Z0 (V1 hw hx1),Ed (V1 hw hx1)⟩) (AG.c rfl rfl (fun hg=>⟨hg,trivial⟩) (fun hw=>Hp (V1 hw hx2)) (a1' rfl (po' rfl (G' 2 rfl ?_)))))))))))))
 refine AG.c rfl rfl (fun hg=>⟨hg,trivial⟩) (fun hw=>Y17 (V1 hw hx3)) (po' rfl (an' (n' (ci' rfl hh (fun hh=>?_) (fun hh=>?_)))))
 ·cases hh
  exact t' rfl (re' (rq rfl))
 obtain ⟨x4,hx4,hh⟩:=bs' hh
 cases hh
 exact sk' (p' 1 rfl (cq (M1h hx4) rfl (e' rfl (re' (rq rfl)))))
def Ad (s:Str):Option Bool:=
 Jp s>>=fun x1=>
 some x1
theorem Kh {s res}(hh:Ad s=some res):P0 C 130 [.d (.str s)] [] (Ret [] (.d (.bool res))):=by
 unfold Ad at hh
 obtain ⟨x1,hx1,hh⟩:=bs' hh
 cases hh
 exact P0.intro hC Tryz.func130 rfl rfl rfl (t' rfl (p' 1 rfl (cq (P1b hx1) rfl (e' rfl (re' (rq rfl))))))
mutual
def G5 (e:A0):Option Bool:=
 (if (bif (e.Op == 3) then true else (e.Op == 4))=true then Ad e.Name else some default)>>=fun x1=>
 if (bif (bif (e.Op == 3) then true else (e.Op == 4)) then (!x1) else false)=true then
  some false
 else
  Fc e 0
 partial_fixpoint
def Fc (e:A0)(i:Int):Option Bool:=
 if (decide (i < ((e.Kids).length:Int)))=true then
  idx e.Kids i>>=fun x2=>
  G5 x2>>=fun x3=>
  if (!x3)=true then
   some false
  else
   Fc e (IntKind.i64.wrap (i+1))
 else
  some true
 partial_fixpoint
end
abbrev Au (e:A0)(res:Bool):Prop:=P0 C 70 [.agg (A0.cells e)] [] (Ret [] (.d (.bool res)))
abbrev T11 (e:A0)(i:Int)(res:Bool):Prop:=LM C 32 0 Tryz.f70 [1,1,0,1,4] [(1,.ref 0 0),(3,.d (.int .i64 i))] [.row (A0.cells e) 26] (Ret [] (.d (.bool res)))
theorem B14:(∀ e res,G5 e=some res→Au e res)∧(∀ e i res,Fc e i=some res→T11 e i res):=by
 refine G5.mutual_partial_correctness _ _ ?_ ?_
 ·intro g1 ih1 e res hh
  obtain ⟨x1,hx1,hh⟩:=bs' hh
  refine P0.intro hC Tryz.func70 rfl rfl rfl (s' rfl rfl (F0.n hC rfl (e' rfl (S' (sg' 14 rfl (G' 5 rfl (a1' rfl (a1' rfl (po' rfl (G' 2 rfl (a1' rfl (AG.c rfl rfl (fun hg=>⟨hg,trivial⟩) (fun hw=>Kh (V1 hw hx1)) (a1' rfl ?_)))))))))))))
  refine pa' rfl (an' (n' (ci' rfl hh (fun hh=>?_) (fun hh=>?_))))
  ·cases hh
   exact t' rfl (re' (rq rfl))
  exact sk' (S' (t' rfl (bk' (fq (ih1 _ _ _ hh) rfl))))
 ·intro g0 g1 ih0 ih1 e i res hh
  refine X0.unroll (S' (p' 3 rfl (qe' rfl trivial (A0.lenA _) (e' rfl (ci' rfl hh (fun hh=>?_) (fun hh=>?_))))))
  ·obtain ⟨x2,hx2,hh⟩:=bs' hh
   obtain ⟨x3,hx3,hh⟩:=bs' hh
   refine sk' (S' (bk' (p' 3 rfl (i' rfl (Z0 hx2) (A0.idx hx2) rfl (q' rfl (cq (ih0 _ _ hx3) rfl (e' rfl (ci' rfl hh (fun hh=>?_) (fun hh=>?_)))))))))
   ·cases hh
    exact t' rfl (re' (rq rfl))
   exact sk' (T' rfl (lq (ih1 _ _ _ hh) rfl))
  cases hh
  exact ex' (t' rfl (re' (rq rfl)))
theorem Lh {e res}(hh:G5 e=some res):Au e res:=(B14).1 _ _ hh
mutual
def C4 (e:A0):Option Bool:=
 if (bif (e.Op == 0) then (bif (decide (e.NV < 0)) then true else (decide (e.NV > 1048576))) else false)=true then
  some false
 else
  Z9 e 0
 partial_fixpoint
def Z9 (e:A0)(i:Int):Option Bool:=
 if (decide (i < ((e.Kids).length:Int)))=true then
  idx e.Kids i>>=fun x1=>
  C4 x1>>=fun x2=>
  if (!x2)=true then
   some false
  else
   Z9 e (IntKind.i64.wrap (i+1))
 else
  some true
 partial_fixpoint
end
abbrev Gq (e:A0)(res:Bool):Prop:=P0 C 71 [.agg (A0.cells e)] [] (Ret [] (.d (.bool res)))
abbrev Sy (e:A0)(i:Int)(res:Bool):Prop:=LM C 31 0 Tryz.f71 [1,1,0,1,4] [(1,.ref 0 0),(3,.d (.int .i64 i))] [.row (A0.cells e) 26] (Ret [] (.d (.bool res)))
theorem D10:(∀ e res,C4 e=some res→Gq e res)∧(∀ e i res,Z9 e i=some res→Sy e i res):=by
 refine C4.mutual_partial_correctness _ _ ?_ ?_
 ·intro g1 ih1 e res hh
  refine P0.intro hC Tryz.func71 rfl rfl rfl (s' rfl rfl (F0.n hC rfl (e' rfl (S' (sg' 13 rfl (G' 5 rfl (a1' rfl (a1' rfl (a1' rfl (a0' rfl (a1' rfl (a1' rfl (pO' rfl ?_)))))))))))))
  refine pa' rfl (an' (n' (ci' rfl hh (fun hh=>?_) (fun hh=>?_))))
  ·cases hh
   exact t' rfl (re' (rq rfl))
  exact sk' (S' (t' rfl (bk' (fq (ih1 _ _ _ hh) rfl))))
 ·intro g0 g1 ih0 ih1 e i res hh
  refine X0.unroll (S' (p' 3 rfl (qe' rfl trivial (A0.lenA _) (e' rfl (ci' rfl hh (fun hh=>?_) (fun hh=>?_))))))
  ·obtain ⟨x1,hx1,hh⟩:=bs' hh
   obtain ⟨x2,hx2,hh⟩:=bs' hh
   refine sk' (S' (bk' (p' 3 rfl (i' rfl (Z0 hx1) (A0.idx hx1) rfl (q' rfl (cq (ih0 _ _ hx2) rfl (e' rfl (ci' rfl hh (fun hh=>?_) (fun hh=>?_)))))))))
   ·cases hh
    exact t' rfl (re' (rq rfl))
   exact sk' (T' rfl (lq (ih1 _ _ _ hh) rfl))
  cases hh
  exact ex' (t' rfl (re' (rq rfl)))
theorem Zf {e res}(hh:C4 e=some res):Gq e res:=(D10).1 _ _ hh
def Gk (s:R0)(form:Bool)(names:Bool)(numbers:Bool):Option Int:=
 if (bif (decide (s.nodes > 1024)) then true else (decide (s.depth > 12)))=true then
  some 4
 else
  if (!form)=true then
   some 1
  else
   if (!names)=true then
    some 7
   else
    if (!numbers)=true then
     some 3
    else
     some 0
theorem M19 {s form names numbers res}(hh:Gk s form names numbers=some res):P0 C 67 [.agg (R0.cells s),.d (.bool form),.d (.bool names),.d (.bool numbers)] [] (Ret [] (.d (.int .i64 res))):=by
 unfold Gk at hh
 refine P0.intro hC Tryz.func67 rfl rfl rfl (s' rfl rfl (F0.n hC rfl (e' rfl (S' (sg' 8 rfl (G' 5 rfl (a1' rfl (a1' rfl (po' rfl (an' (n' (ci' rfl hh (fun hh=>?_) (fun hh=>?_)))))))))))))
 ·cases hh
  exact t' rfl (re' (rq rfl))
 refine sk' (S' (t' rfl (ci' rfl hh (fun hh=>?_) (fun hh=>?_))))
 ·cases hh
  exact t' rfl (re' (rq rfl))
 refine sk' (S' (t' rfl (ci' rfl hh (fun hh=>?_) (fun hh=>?_))))
 ·cases hh
  exact t' rfl (re' (rq rfl))
 refine sk' (S' (t' rfl (ci' rfl hh (fun hh=>?_) (fun hh=>?_))))
 ·cases hh
  exact t' rfl (re' (rq rfl))
 cases hh
 exact sk' (t' rfl (re' (rq rfl)))
def P2 (parserParser:D0):Option (Pn (Int×D0)):=
 S0 [45] parserParser>>=fun x1=>
 if x1.1=true then
  H7 x1.2>>=fun x2=>match x2 with
  | .pn nn=>
  some (.pn nn)
  | .ok x2=>
  some (.ok ((IntKind.i64.wrap (0 - x2.1)),x2.2))
 else
  H7 x1.2>>=fun x3=>match x3 with
  | .pn nn=>
  some (.pn nn)
  | .ok x3=>
  some (.ok (x3.1,x3.2))
theorem C1 {parserParser res}(hh:P2 parserParser=some res):C2 C 72 [.ref 0 0] [.row (D0.cells parserParser) 99] (F4 res (fun rr=>[.row (D0.cells rr.2) 99]) (fun rr=>.d (.int .i64 rr.1))) (D4 res B3 [.dead]):=by
 unfold P2 at hh
 obtain ⟨x1,hx1,hh⟩:=bs' hh
 refine C2.intro hC Tryz.func72 rfl rfl rfl (t' rfl (S' (p' 1 rfl (gq [0] (T0 hx1) rfl (n' (ci' rfl hh (fun hh=>?_) (fun hh=>?_)))))))
 ·refine p' 1 rfl ?_
  rcases bp' hh with ⟨nn,hx2,⟨⟩⟩ | ⟨x2,hx2,hh⟩
  ·exact gr [0] (E7 hx2) rfl (peW ⟨trivial,trivial⟩ rfl)
  cases hh
  exact gq [0] ((E7 hx2).ok) rfl (e' rfl (re' (rq rfl)))
 refine sk' (p' 1 rfl ?_)
 rcases bp' hh with ⟨nn,hx3,⟨⟩⟩ | ⟨x3,hx3,hh⟩
 ·exact gr [0] (E7 hx3) rfl (peW ⟨trivial,trivial⟩ rfl)
 cases hh
 exact gq [0] ((E7 hx3).ok) rfl (e' rfl (re' (rq rfl)))
mutual
def T4 (parserParser:D0):Option (Pn (E0×D0)):=
 S0 [98,111,111,108] parserParser>>=fun x1=>
 if x1.1=true then
  some (.ok ((E0.mk 0 0 0 0 [] [] []),x1.2))
 else
  S0 [105,110,116] x1.2>>=fun x2=>
  if x2.1=true then
   U0 [91] x2.2>>=fun x3=>match x3 with
   | .pn nn=>
   some (.pn nn)
   | .ok x3=>
   P2 x3>>=fun x4=>match x4 with
   | .pn nn=>
   some (.pn nn)
   | .ok x4=>
   U0 [46,46] x4.2>>=fun x5=>match x5 with
   | .pn nn=>
   some (.pn nn)
   | .ok x5=>
   P2 x5>>=fun x6=>match x6 with
   | .pn nn=>
   some (.pn nn)
   | .ok x6=>
   U0 [93] x6.2>>=fun x7=>match x7 with
   | .pn nn=>
   some (.pn nn)
   | .ok x7=>
   some (.ok ((E0.mk 1 x4.1 x6.1 0 [] [] []),x7))
  else
   S0 [97,114,114,97,121] x2.2>>=fun x8=>
   if x8.1=true then
    P2 x8.2>>=fun x9=>match x9 with
    | .pn nn=>
    some (.pn nn)
    | .ok x9=>
    U0 [111,102] x9.2>>=fun x10=>match x10 with
    | .pn nn=>
    some (.pn nn)
    | .ok x10=>
    T4 x10>>=fun x16=>match x16 with
    | .pn nn=>
    some (.pn nn)
    | .ok x16=>
    some (.ok ((E0.mk 2 0 0 x9.1 [] [] [x16.1]),x16.2))
   else
    S0 [114,101,99,111,114,100] x8.2>>=fun x11=>
    if x11.1=true then
     U0 [123] x11.2>>=fun x12=>match x12 with
     | .pn nn=>
     some (.pn nn)
     | .ok x12=>
     Aa x12 [] []
    else
     Y2 x11.2>>=fun x13=>match x13 with
     | .pn nn=>
     some (.pn nn)
     | .ok x13=>
     some (.ok ((E0.mk 4 0 0 0 x13.1 [] []),x13.2))
 partial_fixpoint
def Aa (o0:D0)(o2_Names:List Str)(o2_Of:List E0):Option (Pn (E0×D0)):=
 Y2 o0>>=fun x14=>match x14 with
 | .pn nn=>
 some (.pn nn)
 | .ok x14=>
 U0 [58] x14.2>>=fun x15=>match x15 with
 | .pn nn=>
 some (.pn nn)
 | .ok x15=>
 T4 x15>>=fun x17=>match x17 with
 | .pn nn=>
 some (.pn nn)
 | .ok x17=>
 if (decide ((o2_Names.length+1) * 17≤140737488355328))=true then
  if (decide ((o2_Of.length+1) * 97≤140737488355328))=true then
   S0 [44] x17.2>>=fun x18=>
   if (!x18.1)=true then
    U0 [125] x18.2>>=fun x19=>match x19 with
    | .pn nn=>
    some (.pn nn)
    | .ok x19=>
    some (.ok ((E0.mk 3 0 0 0 [] (o2_Names++[x14.1]) (o2_Of++[x17.1])),x19))
   else
    Aa x18.2 (o2_Names++[x14.1]) (o2_Of++[x17.1])
  else none
 else none
 partial_fixpoint
end
abbrev Hq (parserParser:D0)(res:Pn (E0×D0)):Prop:=C2 C 36 [.ref 0 0] [.row (D0.cells parserParser) 99] (F4 res (fun rr=>[.row (D0.cells rr.2) 99]) (fun rr=>.agg (E0.cells rr.1))) (D4 res B3 [.dead])
abbrev Ty (o0:D0)(o2_Names:List Str)(o2_Of:List E0)(res:Pn (E0×D0)):Prop:=LMp C 74 1 Tryz.f36 [1,0,4,1,3,1,3,1,3,1,2,1,1,0,4] [(0,.ref 0 0),(2,.ref 1 0),(6,.ref 2 0)] [.row (D0.cells o0) 99,.row [.d (.int .i64 0),.d (.int .i64 0),.d (.int .i64 0),.d (.int .i64 0),.d (.str []),.full (estr.rows []),.full (E0.rows [])] 36,.row [.d (.int .i64 3),.d (.int .i64 0),.d (.int .i64 0),.d (.int .i64 0),.d (.str []),.osl 3 (estr.rows o2_Names),.osl 4 (E0.rows o2_Of)] 36,.tok 9 1,.tok 36 7] (F4 res (fun rr=>[.row (D0.cells rr.2) 99]) (fun rr=>.agg (E0.cells rr.1))) (D4 res B3 [.dead])
theorem E10:(∀ parserParser res,T4 parserParser=some res→Hq parserParser res)∧(∀ o0 o2_Names o2_Of res,Aa o0 o2_Names o2_Of=some res→Ty o0 o2_Names o2_Of res):=by
 refine T4.mutual_partial_correctness _ _ ?_ ?_
 ·intro g0 g1 ih0 ih1 parserParser res hh
  obtain ⟨x1,hx1,hh⟩:=bs' hh
  refine C2.intro hC Tryz.func36 rfl rfl rfl (s' rfl rfl (F0.nf hC rfl (n' (S' (bk' (p' 1 rfl (gq [0] (T0 hx1) rfl (e' rfl (ci' rfl hh (fun hh=>?_) (fun hh=>?_))))))))))
  ·refine s' rfl rfl (F0.bz hC rfl (F0.s hC rfl (n' (re' ?_))))
   obtain rfl:=oi' hh
   exact ⟨_,.agg [.d (.int .i64 0),.d (.int .i64 0),.d (.int .i64 0),.d (.int .i64 0),.d (.str []),.d (.sl (estr.rows [])),.d (.sl (E0.rows []))],[.row (D0.cells x1.2) 99],rfl,(.aggL ⟨.rfl,.rfl,.rfl,.rfl,.rfl,.full,.full,trivial⟩),⟨⟨rfl,.refl _,rfl⟩,trivial⟩,rfl,rfl,rpq rfl rfl⟩
  obtain ⟨x2,hx2,hh⟩:=bs' hh
  refine p' 1 rfl (gq [0] (T0 hx2) rfl (e' rfl (ci' rfl hh (fun hh=>?_) (fun hh=>?_))))
  ·refine p' 1 rfl ?_
   rcases bp' hh with ⟨nn,hx3,⟨⟩⟩ | ⟨x3,hx3,hh⟩
   ·exact gr [0] (J0 hx3) rfl (peW ⟨trivial,trivial⟩ rfl)
   refine gq [0] ((J0 hx3).ok) rfl (n' (p' 1 rfl ?_))
   rcases bp' hh with ⟨nn,hx4,⟨⟩⟩ | ⟨x4,hx4,hh⟩
   ·exact gr [0] (C1 hx4) rfl (peW ⟨trivial,trivial⟩ rfl)
   refine gq [0] ((C1 hx4).ok) rfl (e' rfl (p' 1 rfl ?_))
   rcases bp' hh with ⟨nn,hx5,⟨⟩⟩ | ⟨x5,hx5,hh⟩
   ·exact gr [0] (J0 hx5) rfl (peW ⟨trivial,trivial⟩ rfl)
   refine gq [0] ((J0 hx5).ok) rfl (n' (p' 1 rfl ?_))
   rcases bp' hh with ⟨nn,hx6,⟨⟩⟩ | ⟨x6,hx6,hh⟩
   ·exact gr [0] (C1 hx6) rfl (peW ⟨trivial,trivial⟩ rfl)
   refine gq [0] ((C1 hx6).ok) rfl (e' rfl (p' 1 rfl ?_))
   rcases bp' hh with ⟨nn,hx7,⟨⟩⟩ | ⟨x7,hx7,hh⟩
   ·exact gr [0] (J0 hx7) rfl (peW ⟨trivial,trivial⟩ rfl)
   refine gq [0] ((J0 hx7).ok) rfl (n' (p' 2 rfl (F0.bz hC rfl (F0.s hC rfl (n' (re' ?_))))))
   obtain rfl:=oi' hh
   exact ⟨_,.agg [.d (.int .i64 1),.d (.int .i64 x4.1),.d (.int .i64 x6.1),.d (.int .i64 0),.d (.str []),.d (.sl (estr.rows [])),.d (.sl (E0.rows []))],[.row (D0.cells x7) 99],rfl,(.aggL ⟨.rfl,.rfl,.rfl,.rfl,.rfl,.full,.full,trivial⟩),⟨⟨rfl,.refl _,rfl⟩,trivial⟩,rfl,rfl,rpq rfl rfl⟩
  obtain ⟨x8,hx8,hh⟩:=bs' hh
  refine p' 1 rfl (gq [0] (T0 hx8) rfl (e' rfl (ci' rfl hh (fun hh=>?_) (fun hh=>?_))))
  ·refine p' 1 rfl ?_
   rcases bp' hh with ⟨nn,hx9,⟨⟩⟩ | ⟨x9,hx9,hh⟩
   ·exact gr [0] (C1 hx9) rfl (peW ⟨trivial,trivial⟩ rfl)
   refine gq [0] ((C1 hx9).ok) rfl (e' rfl (p' 1 rfl ?_))
   rcases bp' hh with ⟨nn,hx10,⟨⟩⟩ | ⟨x10,hx10,hh⟩
   ·exact gr [0] (J0 hx10) rfl (peW ⟨trivial,trivial⟩ rfl)
   refine gq [0] ((J0 hx10).ok) rfl (n' (p' 2 rfl ?_))
   rcases bp' hh with ⟨nn,hx16,⟨⟩⟩ | ⟨x16,hx16,hh⟩
   ·exact gr [0] (ih0 _ _ hx16) rfl (peW ⟨trivial,trivial⟩ rfl)
   refine gq [0] ((ih0 _ _ hx16).ok) rfl (F0.be hC rfl (E0.rows_map [x16.1]).symm (F0.bz hC rfl (F0.s hC rfl (n' (re' ?_)))))
   obtain rfl:=oi' hh
   exact ⟨_,.agg [.d (.int .i64 2),.d (.int .i64 0),.d (.int .i64 0),.d (.int .i64 x9.1),.d (.str []),.d (.sl (estr.rows [])),.d (.sl (E0.rows [x16.1]))],[.row (D0.cells x16.2) 99],rfl,(.aggL ⟨.rfl,.rfl,.rfl,.rfl,.rfl,.full,.full,trivial⟩),⟨⟨rfl,.refl _,rfl⟩,trivial⟩,rfl,rfl,rpq rfl rfl⟩
  obtain ⟨x11,hx11,hh⟩:=bs' hh
  refine p' 1 rfl (gq [0] (T0 hx11) rfl (e' rfl (ci' rfl hh (fun hh=>?_) (fun hh=>?_))))
  ·refine s' rfl rfl (F0.bz hC rfl (F0.nf hC rfl (F0.s hC rfl (F0.tokC 2 5 9 1 rfl rfl rfl rfl rfl (F0.tokC 2 6 36 7 rfl rfl rfl rfl rfl (n' (p' 1 rfl ?_)))))))
   rcases bp' hh with ⟨nn,hx12,⟨⟩⟩ | ⟨x12,hx12,hh⟩
   ·exact gr [0] (J0 hx12) rfl (peW ⟨trivial,trivial⟩ rfl)
   exact gq [0] ((J0 hx12).ok) rfl (n' (S' (bk' (fq (ih1 _ _ _ _ hh) rfl))))
  refine sk' (p' 1 rfl ?_)
  rcases bp' hh with ⟨nn,hx13,⟨⟩⟩ | ⟨x13,hx13,hh⟩
  ·exact gr [0] (E1 hx13) rfl (peW ⟨trivial,trivial⟩ rfl)
  refine gq [0] ((E1 hx13).ok) rfl (F0.bz hC rfl (F0.s hC rfl (n' (re' ?_))))
  obtain rfl:=oi' hh
  exact ⟨_,.agg [.d (.int .i64 4),.d (.int .i64 0),.d (.int .i64 0),.d (.int .i64 0),.d (.str x13.1),.d (.sl (estr.rows [])),.d (.sl (E0.rows []))],[.row (D0.cells x13.2) 99],rfl,(.aggL ⟨.rfl,.rfl,.rfl,.rfl,.rfl,.full,.full,trivial⟩),⟨⟨rfl,.refl _,rfl⟩,trivial⟩,rfl,rfl,rpq rfl rfl⟩
 ·intro g0 g1 ih0 ih1 o0 o2_Names o2_Of res hh
  refine X0.unroll (bk' (p' 1 rfl ?_))
  rcases bp' hh with ⟨nn,hx14,⟨⟩⟩ | ⟨x14,hx14,hh⟩
  ·exact gr [0] (E1 hx14) rfl (peW ⟨trivial,trivial⟩ rfl)
  refine gq [0] ((E1 hx14).ok) rfl (e' rfl (p' 1 rfl ?_))
  rcases bp' hh with ⟨nn,hx15,⟨⟩⟩ | ⟨x15,hx15,hh⟩
  ·exact gr [0] (J0 hx15) rfl (peW ⟨trivial,trivial⟩ rfl)
  refine gq [0] ((J0 hx15).ok) rfl (n' (p' 1 rfl ?_))
  rcases bp' hh with ⟨nn,hx17,⟨⟩⟩ | ⟨x17,hx17,hh⟩
  ·exact gr [0] (ih0 _ _ hx17) rfl (peW ⟨trivial,trivial⟩ rfl)
  obtain ⟨c11,hh⟩:=N0 hh
  obtain ⟨c12,hh⟩:=N0 hh
  obtain ⟨x18,hx18,hh⟩:=bs' hh
  refine gq [0] ((ih0 _ _ hx17).ok) rfl (F0.nf hC rfl (F0.s hC rfl (n' (S' ?_))))
  refine AEx.drawL hC 11 [4,9] [] [[.row (D0.cells x17.2) 99,.row [.d (.int .i64 0),.d (.int .i64 0),.d (.int .i64 0),.d (.int .i64 0),.d (.str []),.full (estr.rows []),.full (E0.rows [])] 36,.row [.d (.int .i64 3),.d (.int .i64 0),.d (.int .i64 0),.d (.int .i64 0),.d (.str []),.osl 3 (estr.rows o2_Names),.osl 4 (E0.rows o2_Of)] 36,.tok 9 1,.tok 36 7,.row (E0.cells x17.1) 36],[.row (D0.cells x17.2) 99,.row [.d (.int .i64 0),.d (.int .i64 0),.d (.int .i64 0),.d (.int .i64 0),.d (.str []),.full (estr.rows []),.full (E0.rows [])] 36,.row [.d (.int .i64 3),.d (.int .i64 0),.d (.int .i64 0),.d (.int .i64 0),.d (.str []),.osl 3 (estr.rows o2_Names),.osl 4 (E0.rows o2_Of)] 36,.dead,.tok 36 7,.row (E0.cells x17.1) 36,.tok 9 1],[.row (D0.cells x17.2) 99,.row [.d (.int .i64 0),.d (.int .i64 0),.d (.int .i64 0),.d (.int .i64 0),.d (.str []),.full (estr.rows []),.full (E0.rows [])] 36,.row [.d (.int .i64 3),.d (.int .i64 0),.d (.int .i64 0),.d (.int .i64 0),.d (.str []),.osl 3 (estr.rows o2_Names),.osl 4 (E0.rows o2_Of)] 36,.dead,.dead,.row (E0.cells x17.1) 36,.tok 9 1,.tok 36 7]] rfl rfl rfl rfl rfl rfl rfl rfl rfl rfl ?_
  refine AS.q hC rfl rfl rfl rfl (AS.q hC rfl rfl rfl rfl (AS.q hC rfl rfl rfl rfl (AS.a rfl (fun H=>AQ.be hC rfl (estr.rows_map [x14.1]).symm (AQ.nil rfl)) rfl rfl (AS.am hC rfl rfl rfl rfl rfl (rs:=estr.rows (o2_Names++[x14.1])) (estr.app o2_Names [x14.1]) (estr.sz o2_Names) (estr.sz [x14.1]) (Q1 (estr.len o2_Names) (estr.len [x14.1]) c11) rfl rfl (AS.q hC rfl rfl rfl rfl (AS.q hC rfl rfl rfl rfl ?_))))))
  refine AS.q hC rfl rfl rfl rfl (AS.a rfl (fun H=>AQ.be hC rfl (E0.rows_map [x17.1]).symm (AQ.nil rfl)) rfl rfl (AS.am hC rfl rfl rfl rfl rfl (rs:=E0.rows (o2_Of++[x17.1])) (E0.app o2_Of [x17.1]) (E0.sz o2_Of) (E0.sz [x17.1]) (Q1 (E0.len o2_Of) (E0.len [x17.1]) c12) rfl rfl (AS.q hC rfl rfl rfl rfl (AS.nil (F0.s hC rfl (q' rfl (F0.s hC rfl (n' (p' 1 rfl ?_)))))))))
  refine gq [0] (T0 hx18) rfl (e' rfl (ci' rfl hh (fun hh=>?_) (fun hh=>?_)))
  ·refine ex' (p' 1 rfl ?_)
   rcases bp' hh with ⟨nn,hx19,⟨⟩⟩ | ⟨x19,hx19,hh⟩
   ·exact gr [0] (J0 hx19) rfl (peW ⟨trivial,trivial⟩ rfl)
   refine gq [0] ((J0 hx19).ok) rfl (n' (p' 1 rfl (F0.s hC rfl (n' (re' ?_)))))
   obtain rfl:=oi' hh
   exact ⟨_,.agg [.d (.int .i64 3),.d (.int .i64 0),.d (.int .i64 0),.d (.int .i64 0),.d (.str []),.d (.sl (estr.rows (o2_Names++[x14.1]))),.d (.sl (E0.rows (o2_Of++[x17.1])))],[.row (D0.cells x19) 99],rfl,(.aggL ⟨.rfl,.rfl,.rfl,.rfl,.rfl,.osl,.osl,trivial⟩),⟨⟨rfl,.refl _,rfl⟩,trivial⟩,rfl,rfl,rpq rfl rfl⟩
  refine sk' ?_
  refine X0.rj (L:=[(0,.ref 0 0),(2,.ref 1 0),(6,.ref 2 0)]) (H2:=[.row (D0.cells x18.2) 99,.row [.d (.int .i64 0),.d (.int .i64 0),.d (.int .i64 0),.d (.int .i64 0),.d (.str []),.full (estr.rows []),.full (E0.rows [])] 36,.row [.d (.int .i64 3),.d (.int .i64 0),.d (.int .i64 0),.d (.int .i64 0),.d (.str []),.osl 3 (estr.rows (o2_Names++[x14.1])),.osl 4 (E0.rows (o2_Of++[x17.1]))] 36,.tok 9 1,.tok 36 7]) [0,1,2,6,7] ?_ rfl rfl rfl rfl
  exact lq (ih1 _ _ _ _ hh) rfl
theorem Ba {parserParser res}(hh:T4 parserParser=some res):Hq parserParser res:=(E10).1 _ _ hh
mutual
def N6 (t:E0)(depth:Int)(syntaxReport:I0):Option I0:=
 C9 depth (I0.mk (IntKind.i64.wrap (syntaxReport.nodes+1)) syntaxReport.depth syntaxReport.badForm syntaxReport.badName syntaxReport.badNumber)>>=fun x1=>
 D1 (bif (decide (t.Kind≥0)) then (decide (t.Kind≤4)) else false) x1>>=fun x2=>
 D1 (bif (t.Kind == 1) then true else (bif (t.Low == 0) then (t.High == 0) else false)) x2>>=fun x3=>
 D1 (bif (t.Kind == 2) then true else (t.Size == 0)) x3>>=fun x4=>
 D1 (bif (t.Kind == 4) then true else (t.Name == [])) x4>>=fun x5=>
 D1 (bif (t.Kind == 3) then true else (((t.Names).length:Int) == 0)) x5>>=fun x6=>
 if (t.Kind == 2)=true then
  D1 (((t.Of).length:Int) == 1) x6>>=fun x7=>
  B4 t.Size 1 32>>=fun x8=>
  O2 x8 x7>>=fun x9=>
  Ca t depth x9
 else
  if (t.Kind == 3)=true then
   D1 (bif (decide (((t.Of).length:Int)≥1)) then (((t.Of).length:Int) == ((t.Names).length:Int)) else false) x6>>=fun x14=>
   O2 (decide (((t.Of).length:Int)≤32)) x14>>=fun x15=>
   Ca t depth x15
  else
   D1 (((t.Of).length:Int) == 0) x6>>=fun x16=>
   Ca t depth x16
 partial_fixpoint
def Ca (t:E0)(depth:Int)(o0:I0):Option I0:=
 if (t.Kind == 1)=true then
  B4 t.Low (-1048576) 1048576>>=fun x10=>
  (if x10=true then B4 t.High t.Low 1048576 else some default)>>=fun x11=>
  O2 (bif x10 then x11 else false) o0>>=fun x12=>
  Da t depth x12
 else
  Da t depth o0
 partial_fixpoint
def Da (t:E0)(depth:Int)(o01:I0):Option I0:=
 if (t.Kind == 4)=true then
  A5 t.Name o01>>=fun x13=>
  Bd t depth x13
 else
  Bd t depth o01
 partial_fixpoint
def Bd (t:E0)(depth:Int)(o02:I0):Option I0:=
 D6 t depth o02 0
 partial_fixpoint
def D6 (t:E0)(depth:Int)(o03:I0)(v147:Int):Option I0:=
 if (decide (v147 < ((t.Names).length:Int)))=true then
  idx t.Names v147>>=fun x17=>
  A5 x17 o03>>=fun x18=>
  D6 t depth x18 (IntKind.i64.wrap (v147+1))
 else
  I7 t depth o03 0
 partial_fixpoint
def I7 (t:E0)(depth:Int)(o04:I0)(v158:Int):Option I0:=
 if (decide (v158 < ((t.Of).length:Int)))=true then
  idx t.Of v158>>=fun x19=>
  N6 x19 (IntKind.i64.wrap (depth+1)) o04>>=fun x20=>
  I7 t depth x20 (IntKind.i64.wrap (v158+1))
 else
  some o04
 partial_fixpoint
end
abbrev Iq (t:E0)(depth:Int)(syntaxReport:I0)(res:I0):Prop:=P0 C 74 [.ref 0 0,.agg (E0.cells t),.d (.int .i64 depth)] [.row (I0.cells syntaxReport) 103] (Ret [.row (I0.cells res) 103] (.tup []))
abbrev Uy (t:E0)(depth:Int)(o0:I0)(res:I0):Prop:=JM C 168 1 Tryz.f74 [1,1,1,1,1,1,1,1,1,1] [(0,.ref 0 0),(2,.d (.int .i64 depth)),(4,.ref 1 0),(6,.d (.bool (t.Kind == 1))),(9,.d (.bool (t.Kind == 4)))] [.row (I0.cells o0) 103,.row (E0.cells t) 36] (Ret [.row (I0.cells res) 103] (.tup []))
abbrev Vy (t:E0)(depth:Int)(o01:I0)(res:I0):Prop:=JM C 168 1 Tryz.f74 [1,1,1,1,1,1,1,1,1,1,1] [(0,.ref 0 0),(2,.d (.int .i64 depth)),(4,.ref 1 0),(9,.d (.bool (t.Kind == 4)))] [.row (I0.cells o01) 103,.row (E0.cells t) 36] (Ret [.row (I0.cells res) 103] (.tup []))
abbrev Wy (t:E0)(depth:Int)(o02:I0)(res:I0):Prop:=JM C 168 1 Tryz.f74 [1,1,1,1,1,1,1,1,1,1,1,1] [(0,.ref 0 0),(2,.d (.int .i64 depth)),(4,.ref 1 0)] [.row (I0.cells o02) 103,.row (E0.cells t) 36] (Ret [.row (I0.cells res) 103] (.tup []))
abbrev Xy (t:E0)(depth:Int)(o03:I0)(v147:Int)(res:I0):Prop:=LM C 168 1 Tryz.f74 [1,1,1,1,1,1,1,1,1,1,1,1,0,1,4] [(0,.ref 0 0),(2,.d (.int .i64 depth)),(4,.ref 1 0),(145,.d (.sl (estr.rows t.Names))),(146,.d (.int .i64 ((t.Names).length:Int))),(147,.d (.int .i64 v147))] [.row (I0.cells o03) 103,.row (E0.cells t) 36] (Ret [.row (I0.cells res) 103] (.tup []))
abbrev Yy (t:E0)(depth:Int)(o04:I0)(v158:Int)(res:I0):Prop:=LM C 168 1 Tryz.f74 [1,1,1,1,1,1,1,1,1,1,1,1,1,1,4] [(0,.ref 0 0),(2,.d (.int .i64 depth)),(156,.d (.sl (E0.rows t.Of))),(157,.d (.int .i64 ((t.Of).length:Int))),(158,.d (.int .i64 v158))] [.row (I0.cells o04) 103] (Ret [.row (I0.cells res) 103] (.tup []))
theorem F10:(∀ t depth syntaxReport res,N6 t depth syntaxReport=some res→Iq t depth syntaxReport res)∧(∀ t depth o0 res,Ca t depth o0=some res→Uy t depth o0 res)∧(∀ t depth o01 res,Da t depth o01=some res→Vy t depth o01 res)∧(∀ t depth o02 res,Bd t depth o02=some res→Wy t depth o02 res)∧(∀ t depth o03 v147 res,D6 t depth o03 v147=some res→Xy t depth o03 v147 res)∧(∀ t depth o04 v158 res,I7 t depth o04 v158=some res→Yy t depth o04 v158 res):=by
 refine N6.mutual_partial_correctness _ _ _ _ _ _ ?_ ?_ ?_ ?_ ?_ ?_
 ·intro g1 ih1 t depth syntaxReport res hh
  obtain ⟨x1,hx1,hh⟩:=bs' hh
  obtain ⟨x2,hx2,hh⟩:=bs' hh
  obtain ⟨x3,hx3,hh⟩:=bs' hh
  obtain ⟨x4,hx4,hh⟩:=bs' hh
  obtain ⟨x5,hx5,hh⟩:=bs' hh
  obtain ⟨x6,hx6,hh⟩:=bs' hh
  refine P0.intro hC Tryz.func74 rfl rfl rfl (s' rfl rfl (F0.n hC rfl (n' (p' 7 rfl (F0.s hC rfl (n' (p' 2 rfl (gq [0] (Mi hx1) rfl (n' (sg' 9 rfl (G' 6 rfl (a1' rfl (a1' rfl ?_)))))))))))))
  refine pa' rfl (an' (gq [0] (F1 hx2) rfl (n' (S' (AEx.draw hC 16 rfl rfl rfl (E' rfl (n' (sg' 12 rfl (G' 4 rfl (a1' rfl (a1' rfl (a1' rfl (a0' rfl ?_)))))))))))))
  refine a1' rfl (a1' rfl (pA' rfl (po' rfl (an' (gq [0] (F1 hx3) rfl (n' (sg' 7 rfl (G' 4 rfl (a1' rfl (a1' rfl (po' rfl (an' (gq [0] (F1 hx4) rfl ?_)))))))))))))
  refine n' (sg' 7 rfl (G' 4 rfl (a1' rfl (a1' rfl (po' rfl (an' (gq [0] (F1 hx5) rfl (n' (sg' 8 rfl (G' 4 rfl (a1' rfl (AG.qe hC rfl (fun hg=>⟨⟨hg,trivial⟩,trivial⟩) (estr.lenA _) (a1' rfl ?_)))))))))))))
  refine po' rfl (an' (gq [0] (F1 hx6) rfl (n' (S' (bk' (t' rfl (ci' rfl hh (fun hh=>?_) (fun hh=>?_))))))))
  ·obtain ⟨x7,hx7,hh⟩:=bs' hh
   obtain ⟨x8,hx8,hh⟩:=bs' hh
   obtain ⟨x9,hx9,hh⟩:=bs' hh
   exact p' 3 rfl (qe' rfl trivial (E0.lenA _) (q' rfl (gq [0] (F1 hx7) rfl (n' (P' 3 rfl (cq (O4 hx8) rfl (gq [0] (K3 hx9) rfl (n' (eq' (ih1 _ _ _ _ hh) rfl)))))))))
  refine t' rfl (ci' rfl hh (fun hh=>?_) (fun hh=>?_))
  ·obtain ⟨x14,hx14,hh⟩:=bs' hh
   obtain ⟨x15,hx15,hh⟩:=bs' hh
   refine sg' 14 rfl (G' 3 rfl (AG.qe hC rfl (fun hg=>⟨trivial,trivial⟩) (E0.lenA _) (G' 3 rfl (a1' rfl (AG.qe hC rfl (fun hg=>⟨⟨hg,trivial⟩,trivial⟩) (E0.lenA _) (a0' rfl (a1' rfl (AG.qe hC rfl (fun hg=>⟨⟨hg,trivial⟩,trivial⟩) (estr.lenA _) (a2' rfl (pa' rfl (an' (gq [0] (F1 hx14) rfl (n' ?_)))))))))))))
   exact P' 3 rfl (qe' rfl trivial (E0.lenA _) (q' rfl (gq [0] (K3 hx15) rfl (n' (eq' (ih1 _ _ _ _ hh) rfl)))))
  obtain ⟨x16,hx16,hh⟩:=bs' hh
  exact P' 3 rfl (qe' rfl trivial (E0.lenA _) (q' rfl (gq [0] (F1 hx16) rfl (n' (eq' (ih1 _ _ _ _ hh) rfl)))))
 ·intro g2 ih2 t depth o0 res hh
  refine S' (t' rfl (ci' rfl hh (fun hh=>?_) (fun hh=>?_)))
  ·obtain ⟨x10,hx10,hh⟩:=bs' hh
   obtain ⟨x11,hx11,hh⟩:=bs' hh
   obtain ⟨x12,hx12,hh⟩:=bs' hh
   exact AEx.regionG 11 rfl (G' 3 rfl (AG.c rfl rfl (fun _=>trivial) (fun _=>O4 hx10) (G' 2 rfl (a1' rfl (a0' rfl (a1' rfl (AG.c rfl rfl (fun hg=>⟨hg,hg,trivial⟩) (fun hw=>O4 (V1 hw hx11)) (pa' rfl (an' (gq [0] (K3 hx12) rfl (n' (eq' (ih2 _ _ _ _ hh) rfl))))))))))))
  exact sk' (eq' (ih2 _ _ _ _ hh) rfl)
 ·intro g3 ih3 t depth o01 res hh
  refine S' (t' rfl (ci' rfl hh (fun hh=>?_) (fun hh=>?_)))
  ·obtain ⟨x13,hx13,hh⟩:=bs' hh
   exact P' 3 rfl (gq [0] (Zb hx13) rfl (n' (eq' (ih3 _ _ _ _ hh) rfl)))
  exact sk' (eq' (ih3 _ _ _ _ hh) rfl)
 ·intro g4 ih4 t depth o02 res hh
  exact S' (p' 2 rfl (qe' rfl trivial (estr.lenA _) (e' rfl (bk' (fq (ih4 _ _ _ _ _ hh) rfl)))))
 ·intro g4 g5 ih4 ih5 t depth o03 v147 res hh
  refine X0.unroll (t' rfl (S' (ci' rfl hh (fun hh=>?_) (fun hh=>?_))))
  ·obtain ⟨x17,hx17,hh⟩:=bs' hh
   obtain ⟨x18,hx18,hh⟩:=bs' hh
   exact sk' (S' (bk' (s' rfl rfl (i' rfl (Z0 hx17) (estr.idx hx17) rfl (e' rfl (P' 2 rfl (gq [0] (Zb hx18) rfl (n' (T' rfl (lq (ih4 _ _ _ _ _ hh) rfl))))))))))
  exact ex' (p' 2 rfl (qe' rfl trivial (E0.lenA _) (e' rfl (bk' (fq (ih5 _ _ _ _ _ hh) rfl)))))
 ·intro g0 g5 ih0 ih5 t depth o04 v158 res hh
  refine X0.unroll (t' rfl (S' (ci' rfl hh (fun hh=>?_) (fun hh=>?_))))
  ·obtain ⟨x19,hx19,hh⟩:=bs' hh
   obtain ⟨x20,hx20,hh⟩:=bs' hh
   exact sk' (S' (bk' (s' rfl rfl (i' rfl (Z0 hx19) (E0.idx hx19) rfl (q' rfl (F0.nf hC rfl (F0.s hC rfl (n' (P' 4 rfl (gq [0] (ih0 _ _ _ _ hx20) rfl (n' (T' rfl (lq (ih5 _ _ _ _ _ hh) rfl)))))))))))))
  cases hh
  exact ex' (rn' rfl rfl rfl)
theorem U11 {t depth syntaxReport res}(hh:N6 t depth syntaxReport=some res):Iq t depth syntaxReport res:=(F10).1 _ _ _ _ hh
def H5 (l:List K0)(atV:Int):Option (Int×Int×Bool):=
 B1 l atV [45]>>=fun x1=>
 if x1=true then
  Kl l (IntKind.i64.wrap (atV+1))>>=fun x2=>
  some ((IntKind.i64.wrap (0 - x2.1)),x2.2.1,x2.2.2)
 else
  Kl l atV>>=fun x3=>
  some (x3.1,x3.2.1,x3.2.2)
def Wq (l:List K0)(atV:Int):Option (E0×Int×Bool):=
 B1 l atV [91]>>=fun x1=>
 if (!x1)=true then
  some ((E0.mk 0 0 0 0 [] [] []),atV,false)
 else
  H5 l (IntKind.i64.wrap (atV+1))>>=fun x2=>
  (if (!(!x2.2.2))=true then B1 l x2.2.1 [46,46] else some default)>>=fun x3=>
  if (bif (!x2.2.2) then true else (!x3))=true then
   some ((E0.mk 0 0 0 0 [] [] []),x2.2.1,false)
  else
   H5 l (IntKind.i64.wrap (x2.2.1+1))>>=fun x4=>
   (if (!(!x4.2.2))=true then B1 l x4.2.1 [93] else some default)>>=fun x5=>
   if (bif (!x4.2.2) then true else (!x5))=true then
    some ((E0.mk 0 0 0 0 [] [] []),x4.2.1,false)
   else
    some ((E0.mk 1 x2.1 x4.1 0 [] [] []),(IntKind.i64.wrap (x4.2.1+1)),true)
mutual
def Gc (l:List K0)(atV:Int):Option (E0×Int×Bool):=
 B1 l atV [98,111,111,108]>>=fun x1=>
 if x1=true then
  some ((E0.mk 0 0 0 0 [] [] []),(IntKind.i64.wrap (atV+1)),true)
 else
  B1 l atV [105,110,116]>>=fun x2=>
  if x2=true then
   Wq l (IntKind.i64.wrap (atV+1))>>=fun x3=>
   some (x3.1,x3.2.1,x3.2.2)
  else
   B1 l atV [97,114,114,97,121]>>=fun x4=>
   if x4=true then
    H5 l (IntKind.i64.wrap (atV+1))>>=fun x5=>
    (if (!(!x5.2.2))=true then B1 l x5.2.1 [111,102] else some default)>>=fun x6=>
    if (bif (!x5.2.2) then true else (!x6))=true then
     some ((E0.mk 0 0 0 0 [] [] []),x5.2.1,false)
    else
     Gc l (IntKind.i64.wrap (x5.2.1+1))>>=fun x10=>
     some ((E0.mk 2 0 0 x5.1 [] [] [x10.1]),x10.2.1,x10.2.2)
   else
    B1 l atV [114,101,99,111,114,100]>>=fun x7=>
    if x7=true then
     Zv l (IntKind.i64.wrap (atV+1))>>=fun x8=>
     some (x8.1,x8.2.1,x8.2.2)
    else
     Lb l atV>>=fun x9=>
     some ((E0.mk 4 0 0 0 x9.1 [] []),x9.2.1,x9.2.2)
 partial_fixpoint
def Zv (l:List K0)(atV:Int):Option (E0×Int×Bool):=
 B1 l atV [123]>>=fun x1=>
 if (!x1)=true then
  some ((E0.mk 3 0 0 0 [] [] []),atV,false)
 else
  Pa l [] [] atV
 partial_fixpoint
def Pa (l:List K0)(o1_Names:List Str)(o1_Of:List E0)(atV1:Int):Option (E0×Int×Bool):=
 T5 l (IntKind.i64.wrap (atV1+1))>>=fun x2=>
 if (!x2.2.2)=true then
  some ((E0.mk 3 0 0 0 [] o1_Names o1_Of),x2.2.1,false)
 else
  if (decide ((o1_Names.length+1) * 17≤140737488355328))=true then
   if (decide ((o1_Of.length+1) * 97≤140737488355328))=true then
    B1 l x2.2.1 [125]>>=fun x3=>
    if x3=true then
     some ((E0.mk 3 0 0 0 [] (o1_Names++[x2.1.Name]) (o1_Of++[x2.1.TypeV])),(IntKind.i64.wrap (x2.2.1+1)),true)
    else
     B1 l x2.2.1 [44]>>=fun x4=>
     if (!x4)=true then
      some ((E0.mk 3 0 0 0 [] (o1_Names++[x2.1.Name]) (o1_Of++[x2.1.TypeV])),x2.2.1,false)
     else
      Pa l (o1_Names++[x2.1.Name]) (o1_Of++[x2.1.TypeV]) x2.2.1
   else none
  else none
 partial_fixpoint
def T5 (l:List K0)(atV:Int):Option (C0×Int×Bool):=
 Lb l atV>>=fun x1=>
 (if (!(!x1.2.2))=true then B1 l x1.2.1 [58] else some default)>>=fun x2=>
 if (bif (!x1.2.2) then true else (!x2))=true then
  some ((C0.mk 0 [] (E0.mk 0 0 0 0 [] [] []) 0 (A0.mk 0 0 [] []) [] [] []),x1.2.1,false)
 else
  Gc l (IntKind.i64.wrap (x1.2.1+1))>>=fun x3=>
  some ((C0.mk 4 x1.1 x3.1 0 (A0.mk 0 0 [] []) [] [] []),x3.2.1,x3.2.2)
 partial_fixpoint
end
end Go.Proofs.YtmnhfbekncjnfaaGreatDoor

