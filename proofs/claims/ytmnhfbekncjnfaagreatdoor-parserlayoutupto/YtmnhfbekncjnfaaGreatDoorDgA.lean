/- A part of the proof of ParserLayout. -/
import Derived.Test.YtmnhfbekncjnfaaGreatDoorXxA
import Derived.Test.YtmnhfbekncjnfaaGreatDoorAmF
set_option maxRecDepth 100000
set_option maxHeartbeats 4000000
set_option synthInstance.maxSize 20000
set_option linter.unusedVariables false
namespace Go.Proofs.YtmnhfbekncjnfaaGreatDoor
open Go.Am
instance:Nonempty (K3 C):=⟨hC⟩
def estr.row (x:Str):Row:=[.str x]
def estr.rows (l:List Str):List Row:=l.map estr.row
theorem estr.rows_map (l:List Str):estr.rows l=l.map estr.row:=rfl
theorem estr.idx {l:List Str}{n:Int}{x:Str}(h:idx l n=some x):(estr.rows l)[n.toNat]?=some (estr.row x):=Ej estr.rows_map h
theorem estr.app (l m:List Str):estr.rows (l++m)=estr.rows l++estr.rows m:=Fl estr.rows_map l m
theorem estr.len (l:List Str):(estr.rows l).length=l.length:=Gl estr.rows_map l
theorem estr.lenA (l:List Str):A.d (.int .i64 ((estr.rows l).length:Nat))=A.d (.int .i64 (l.length:Nat)):=Ih estr.rows_map l
theorem estr.sz (l:List Str):∀ r∈estr.rows l,r.length=1:=Sn estr.rows_map (fun _=>rfl) l
def ei64.row (x:Int):Row:=[.int .i64 x]
def ei64.rows (l:List Int):List Row:=l.map ei64.row
theorem ei64.rows_map (l:List Int):ei64.rows l=l.map ei64.row:=rfl
theorem ei64.idx {l:List Int}{n:Int}{x:Int}(h:idx l n=some x):(ei64.rows l)[n.toNat]?=some (ei64.row x):=Ej ei64.rows_map h
theorem ei64.app (l m:List Int):ei64.rows (l++m)=ei64.rows l++ei64.rows m:=Fl ei64.rows_map l m
theorem ei64.len (l:List Int):(ei64.rows l).length=l.length:=Gl ei64.rows_map l
theorem ei64.lenA (l:List Int):A.d (.int .i64 ((ei64.rows l).length:Nat))=A.d (.int .i64 (l.length:Nat)):=Ih ei64.rows_map l
theorem ei64.sz (l:List Int):∀ r∈ei64.rows l,r.length=1:=Sn ei64.rows_map (fun _=>rfl) l
def eu8.row (x:Int):Row:=[.int .u8 x]
def eu8.rows (l:List Int):List Row:=l.map eu8.row
theorem eu8.rows_map (l:List Int):eu8.rows l=l.map eu8.row:=rfl
theorem eu8.idx {l:List Int}{n:Int}{x:Int}(h:idx l n=some x):(eu8.rows l)[n.toNat]?=some (eu8.row x):=Ej eu8.rows_map h
theorem eu8.lenA (l:List Int):A.d (.int .i64 ((eu8.rows l).length:Nat))=A.d (.int .i64 (l.length:Nat)):=Ih eu8.rows_map l
structure A0 where
 Op:Int
 NV:Int
 Name:Str
 Kids:List A0
def A0.zero:A0:=⟨0,0,[],[]⟩
instance:Inhabited A0:=⟨A0.zero⟩
mutual
def A0.rowX:A0→Row
 | .mk y0 y1 y2 y3=>[.int .i64 y0,.int .i64 y1,.str y2,.sl (A0.rowsX y3)]
def A0.rowsX:List A0→List Row
 | []=>[]
 | x::r=>A0.rowX x::A0.rowsX r
end
def A0.rows (l:List A0):List Row:=A0.rowsX l
def A0.row (x:A0):Row:=[.int .i64 x.Op,.int .i64 x.NV,.str x.Name,.sl (A0.rows x.Kids)]
theorem A0.rows_map:∀ l,A0.rows l=l.map A0.row
 | []=>rfl
 | x::r=>by
  show A0.rowX x::A0.rows r=A0.row x::r.map A0.row
  rw [A0.rows_map r]
  cases x
  rfl
def A0.cells (x:A0):List A:=[.d (.int .i64 x.Op),.d (.int .i64 x.NV),.d (.str x.Name),.d (.sl (A0.rows x.Kids))]
theorem A0.idx {l:List A0}{n:Int}{x:A0}(h:idx l n=some x):(A0.rows l)[n.toNat]?=some (A0.row x):=Ej A0.rows_map h
theorem A0.app (l m:List A0):A0.rows (l++m)=A0.rows l++A0.rows m:=Fl A0.rows_map l m
theorem A0.len (l:List A0):(A0.rows l).length=l.length:=Gl A0.rows_map l
theorem A0.lenA (l:List A0):A.d (.int .i64 ((A0.rows l).length:Nat))=A.d (.int .i64 (l.length:Nat)):=Ih A0.rows_map l
theorem A0.sz (l:List A0):∀ r∈A0.rows l,r.length=4:=Sn A0.rows_map (fun _=>rfl) l
structure K0 where
 Kind:Int
 Text:Str
 At:Int
def K0.zero:K0:=⟨0,[],0⟩
instance:Inhabited K0:=⟨K0.zero⟩
def K0.row (x:K0):Row:=[.int .i64 x.Kind,.str x.Text,.int .i64 x.At]
def K0.rows (l:List K0):List Row:=l.map K0.row
theorem K0.rows_map (l:List K0):K0.rows l=l.map K0.row:=rfl
def K0.cells (x:K0):List A:=[.d (.int .i64 x.Kind),.d (.str x.Text),.d (.int .i64 x.At)]
theorem K0.idx {l:List K0}{n:Int}{x:K0}(h:idx l n=some x):(K0.rows l)[n.toNat]?=some (K0.row x):=Ej K0.rows_map h
theorem K0.app (l m:List K0):K0.rows (l++m)=K0.rows l++K0.rows m:=Fl K0.rows_map l m
theorem K0.len (l:List K0):(K0.rows l).length=l.length:=Gl K0.rows_map l
theorem K0.lenA (l:List K0):A.d (.int .i64 ((K0.rows l).length:Nat))=A.d (.int .i64 (l.length:Nat)):=Ih K0.rows_map l
theorem K0.sz (l:List K0):∀ r∈K0.rows l,r.length=3:=Sn K0.rows_map (fun _=>rfl) l
structure B0 where
 tokens:List K0
 next:Int
 endV:Int
def B0.zero:B0:=⟨[],0,0⟩
instance:Inhabited B0:=⟨B0.zero⟩
def B0.cells (x:B0):List A:=[.d (.sl (K0.rows x.tokens)),.d (.int .i64 x.next),.d (.int .i64 x.endV)]
structure I0 where
 nodes:Int
 depth:Int
 badForm:Bool
 badName:Bool
 badNumber:Bool
def I0.zero:I0:=⟨0,0,false,false,false⟩
instance:Inhabited I0:=⟨I0.zero⟩
def I0.cells (x:I0):List A:=[.d (.int .i64 x.nodes),.d (.int .i64 x.depth),.d (.bool x.badForm),.d (.bool x.badName),.d (.bool x.badNumber)]
structure Vh where
 nodes:Int
 depth:Int
def Vh.zero:Vh:=⟨0,0⟩
instance:Inhabited Vh:=⟨Vh.zero⟩
structure J0 where
 Kind:Int
 Low:Int
 High:Int
 Size:Int
 Name:Str
 Names:List Str
 Of:List J0
def J0.zero:J0:=⟨0,0,0,0,[],[],[]⟩
instance:Inhabited J0:=⟨J0.zero⟩
mutual
def J0.rowX:J0→Row
 | .mk y0 y1 y2 y3 y4 y5 y6=>[.int .i64 y0,.int .i64 y1,.int .i64 y2,.int .i64 y3,.str y4,.sl (estr.rows y5),.sl (J0.rowsX y6)]
def J0.rowsX:List J0→List Row
 | []=>[]
 | x::r=>J0.rowX x::J0.rowsX r
end
def J0.rows (l:List J0):List Row:=J0.rowsX l
def J0.row (x:J0):Row:=[.int .i64 x.Kind,.int .i64 x.Low,.int .i64 x.High,.int .i64 x.Size,.str x.Name,.sl (estr.rows x.Names),.sl (J0.rows x.Of)]
theorem J0.rows_map:∀ l,J0.rows l=l.map J0.row
 | []=>rfl
 | x::r=>by
  show J0.rowX x::J0.rows r=J0.row x::r.map J0.row
  rw [J0.rows_map r]
  cases x
  rfl
def J0.cells (x:J0):List A:=[.d (.int .i64 x.Kind),.d (.int .i64 x.Low),.d (.int .i64 x.High),.d (.int .i64 x.Size),.d (.str x.Name),.d (.sl (estr.rows x.Names)),.d (.sl (J0.rows x.Of))]
theorem J0.idx {l:List J0}{n:Int}{x:J0}(h:idx l n=some x):(J0.rows l)[n.toNat]?=some (J0.row x):=Ej J0.rows_map h
theorem J0.app (l m:List J0):J0.rows (l++m)=J0.rows l++J0.rows m:=Fl J0.rows_map l m
theorem J0.len (l:List J0):(J0.rows l).length=l.length:=Gl J0.rows_map l
theorem J0.lenA (l:List J0):A.d (.int .i64 ((J0.rows l).length:Nat))=A.d (.int .i64 (l.length:Nat)):=Ih J0.rows_map l
theorem J0.sz (l:List J0):∀ r∈J0.rows l,r.length=7:=Sn J0.rows_map (fun _=>rfl) l
structure E0 where
 Verb:Int
 Place:A0
 Value:A0
 Name:Str
 Args:List A0
 NV:Int
 Low:Int
 High:Int
 Numbers:List Int
 Then:List E0
 Else:List E0
def E0.zero:E0:=⟨0,⟨0,0,[],[]⟩,⟨0,0,[],[]⟩,[],[],0,0,0,[],[],[]⟩
instance:Inhabited E0:=⟨E0.zero⟩
mutual
def E0.rowX:E0→Row
 | .mk y0 y1 y2 y3 y4 y5 y6 y7 y8 y9 y10=>[.int .i64 y0,.int .i64 y1.Op,.int .i64 y1.NV,.str y1.Name,.sl (A0.rows y1.Kids),.int .i64 y2.Op,.int .i64 y2.NV,.str y2.Name,.sl (A0.rows y2.Kids),.str y3,.sl (A0.rows y4),.int .i64 y5,.int .i64 y6,.int .i64 y7,.sl (ei64.rows y8),.sl (E0.rowsX y9),.sl (E0.rowsX y10)]
def E0.rowsX:List E0→List Row
 | []=>[]
 | x::r=>E0.rowX x::E0.rowsX r
end
def E0.rows (l:List E0):List Row:=E0.rowsX l
def E0.row (x:E0):Row:=[.int .i64 x.Verb,.int .i64 x.Place.Op,.int .i64 x.Place.NV,.str x.Place.Name,.sl (A0.rows x.Place.Kids),.int .i64 x.Value.Op,.int .i64 x.Value.NV,.str x.Value.Name,.sl (A0.rows x.Value.Kids),.str x.Name,.sl (A0.rows x.Args),.int .i64 x.NV,.int .i64 x.Low,.int .i64 x.High,.sl (ei64.rows x.Numbers),.sl (E0.rows x.Then),.sl (E0.rows x.Else)]
theorem E0.rows_map:∀ l,E0.rows l=l.map E0.row
 | []=>rfl
 | x::r=>by
  show E0.rowX x::E0.rows r=E0.row x::r.map E0.row
  rw [E0.rows_map r]
  cases x
  rfl
def E0.cells (x:E0):List A:=[.d (.int .i64 x.Verb),.d (.int .i64 x.Place.Op),.d (.int .i64 x.Place.NV),.d (.str x.Place.Name),.d (.sl (A0.rows x.Place.Kids)),.d (.int .i64 x.Value.Op),.d (.int .i64 x.Value.NV),.d (.str x.Value.Name),.d (.sl (A0.rows x.Value.Kids)),.d (.str x.Name),.d (.sl (A0.rows x.Args)),.d (.int .i64 x.NV),.d (.int .i64 x.Low),.d (.int .i64 x.High),.d (.sl (ei64.rows x.Numbers)),.d (.sl (E0.rows x.Then)),.d (.sl (E0.rows x.Else))]
theorem E0.idx {l:List E0}{n:Int}{x:E0}(h:idx l n=some x):(E0.rows l)[n.toNat]?=some (E0.row x):=Ej E0.rows_map h
theorem E0.app (l m:List E0):E0.rows (l++m)=E0.rows l++E0.rows m:=Fl E0.rows_map l m
theorem E0.len (l:List E0):(E0.rows l).length=l.length:=Gl E0.rows_map l
theorem E0.lenA (l:List E0):A.d (.int .i64 ((E0.rows l).length:Nat))=A.d (.int .i64 (l.length:Nat)):=Ih E0.rows_map l
theorem E0.sz (l:List E0):∀ r∈E0.rows l,r.length=17:=Sn E0.rows_map (fun _=>rfl) l
structure D0 where
 Kind:Int
 Name:Str
 TypeV:J0
 Init:Int
 Value:A0
 Params:List D0
 Vars:List D0
 Body:List E0
def D0.zero:D0:=⟨0,[],⟨0,0,0,0,[],[],[]⟩,0,⟨0,0,[],[]⟩,[],[],[]⟩
instance:Inhabited D0:=⟨D0.zero⟩
mutual
def D0.rowX:D0→Row
 | .mk y0 y1 y2 y3 y4 y5 y6 y7=>[.int .i64 y0,.str y1,.int .i64 y2.Kind,.int .i64 y2.Low,.int .i64 y2.High,.int .i64 y2.Size,.str y2.Name,.sl (estr.rows y2.Names),.sl (J0.rows y2.Of),.int .i64 y3,.int .i64 y4.Op,.int .i64 y4.NV,.str y4.Name,.sl (A0.rows y4.Kids),.sl (D0.rowsX y5),.sl (D0.rowsX y6),.sl (E0.rows y7)]
def D0.rowsX:List D0→List Row
 | []=>[]
 | x::r=>D0.rowX x::D0.rowsX r
end
def D0.rows (l:List D0):List Row:=D0.rowsX l
def D0.row (x:D0):Row:=[.int .i64 x.Kind,.str x.Name,.int .i64 x.TypeV.Kind,.int .i64 x.TypeV.Low,.int .i64 x.TypeV.High,.int .i64 x.TypeV.Size,.str x.TypeV.Name,.sl (estr.rows x.TypeV.Names),.sl (J0.rows x.TypeV.Of),.int .i64 x.Init,.int .i64 x.Value.Op,.int .i64 x.Value.NV,.str x.Value.Name,.sl (A0.rows x.Value.Kids),.sl (D0.rows x.Params),.sl (D0.rows x.Vars),.sl (E0.rows x.Body)]
theorem D0.rows_map:∀ l,D0.rows l=l.map D0.row
 | []=>rfl
 | x::r=>by
  show D0.rowX x::D0.rows r=D0.row x::r.map D0.row
  rw [D0.rows_map r]
  cases x
  rfl
def D0.cells (x:D0):List A:=[.d (.int .i64 x.Kind),.d (.str x.Name),.d (.int .i64 x.TypeV.Kind),.d (.int .i64 x.TypeV.Low),.d (.int .i64 x.TypeV.High),.d (.int .i64 x.TypeV.Size),.d (.str x.TypeV.Name),.d (.sl (estr.rows x.TypeV.Names)),.d (.sl (J0.rows x.TypeV.Of)),.d (.int .i64 x.Init),.d (.int .i64 x.Value.Op),.d (.int .i64 x.Value.NV),.d (.str x.Value.Name),.d (.sl (A0.rows x.Value.Kids)),.d (.sl (D0.rows x.Params)),.d (.sl (D0.rows x.Vars)),.d (.sl (E0.rows x.Body))]
theorem D0.idx {l:List D0}{n:Int}{x:D0}(h:idx l n=some x):(D0.rows l)[n.toNat]?=some (D0.row x):=Ej D0.rows_map h
theorem D0.app (l m:List D0):D0.rows (l++m)=D0.rows l++D0.rows m:=Fl D0.rows_map l m
theorem D0.len (l:List D0):(D0.rows l).length=l.length:=Gl D0.rows_map l
theorem D0.lenA (l:List D0):A.d (.int .i64 ((D0.rows l).length:Nat))=A.d (.int .i64 (l.length:Nat)):=Ih D0.rows_map l
theorem D0.sz (l:List D0):∀ r∈D0.rows l,r.length=17:=Sn D0.rows_map (fun _=>rfl) l
structure B1 where
 Decls:List D0
 Body:List E0
def B1.zero:B1:=⟨[],[]⟩
instance:Inhabited B1:=⟨B1.zero⟩
def B1.cells (x:B1):List A:=[.d (.sl (D0.rows x.Decls)),.d (.sl (E0.rows x.Body))]
structure W2 where
 place:Bool
 value:Bool
 name:Bool
 args:Bool
 n:Bool
 bounds:Bool
 numbers:Bool
 thenV:Bool
 other:Bool
def W2.zero:W2:=⟨false,false,false,false,false,false,false,false,false⟩
instance:Inhabited W2:=⟨W2.zero⟩
def W2.cells (x:W2):List A:=[.d (.bool x.place),.d (.bool x.value),.d (.bool x.name),.d (.bool x.args),.d (.bool x.n),.d (.bool x.bounds),.d (.bool x.numbers),.d (.bool x.thenV),.d (.bool x.other)]
end Go.Proofs.YtmnhfbekncjnfaaGreatDoor

set_option maxRecDepth 100000
set_option maxHeartbeats 4000000
set_option synthInstance.maxSize 20000
set_option linter.unusedVariables false
namespace Go.Proofs.YtmnhfbekncjnfaaGreatDoor
open Go.Am
def Ma (c:Int):Option Bool:=
 some (bif (decide (c≥97)) then (decide (c≤122)) else false)
theorem Jk {c res}(hh:Ma c=some res):U0 C 160 [.d (.int .u8 c)] [] (Ret [] (.d (.bool res))):=by
 unfold Ma at hh
 cases hh
 exact U0.intro hC Tryz.func160 rfl rfl rfl (t' rfl (sg' 7 rfl (G' 4 rfl (a1' rfl (pa' rfl (a0' rfl (an' (n' (re' (rt' rfl rfl rfl))))))))))
def V8 (c:Int):Option Bool:=
 some (bif (decide (c≥48)) then (decide (c≤57)) else false)
theorem Wh {c res}(hh:V8 c=some res):U0 C 163 [.d (.int .u8 c)] [] (Ret [] (.d (.bool res))):=by
 unfold V8 at hh
 cases hh
 exact U0.intro hC Tryz.func163 rfl rfl rfl (t' rfl (sg' 7 rfl (G' 4 rfl (a1' rfl (pa' rfl (a0' rfl (an' (n' (re' (rt' rfl rfl rfl))))))))))
def I8 (s:Str)(i1:Int):Option Int:=
 (if (decide (i1 < ((s).length:Int)))=true then idx s i1 else some default)>>=fun x1=>
 (if (decide (i1 < ((s).length:Int)))=true then Ma (x1.toNat:Int) else some default)>>=fun x2=>
 (if ((decide (i1 < ((s).length:Int)))&&(!x2))=true then idx s i1 else some default)>>=fun x3=>
 (if ((decide (i1 < ((s).length:Int)))&&(!x2))=true then V8 (x3.toNat:Int) else some default)>>=fun x4=>
 if (bif (decide (i1 < ((s).length:Int))) then (bif x2 then true else x4) else false)=true then
  I8 s (IntKind.i64.wrap (i1+1))
 else
  some i1
 partial_fixpoint
abbrev Zu (s:Str)(i1:Int)(res:Int):Prop:=LM C 24 0 Tryz.f161 [1,0,4] [(0,.d (.str s)),(1,.d (.int .i64 i1))] [] (Ret [] (.d (.int .i64 res)))
theorem O11 (s:Str):(∀ i1 res,I8 s i1=some res→Zu s i1 res):=by
 refine I8.partial_correctness s _ ?_
 ·intro g0 ih0 i1 res hh
  obtain ⟨x1,hx1,hh⟩:=bs' hh
  obtain ⟨x2,hx2,hh⟩:=bs' hh
  obtain ⟨x3,hx3,hh⟩:=bs' hh
  obtain ⟨x4,hx4,hh⟩:=bs' hh
  refine A1.unroll (S' (sg' 16 rfl (G' 7 rfl (AG.x hC rfl rfl (fun hg=>⟨hg,hg,trivial⟩) (fun hw=>⟨W1 (A4 hw hx1),Y5 (A4 hw hx1)⟩) (AG.c rfl rfl (fun hg=>⟨hg,trivial⟩) (fun hw=>Jk (A4 hw hx2)) (a1' rfl (G' 2 rfl (AG.x hC rfl rfl (fun hg=>⟨hg,hg,trivial⟩) (fun hw=>⟨W1 (A4 hw hx3),Y5 (A4 hw hx3)⟩) ?_))))))))
  refine AG.c rfl rfl (fun hg=>⟨hg,trivial⟩) (fun hw=>Wh (A4 hw hx4)) (pO' rfl (pa' rfl (an' (n' (ci' rfl hh (fun hh=>?_) (fun hh=>?_))))))
  ·exact sk' (bk' (T' rfl (lw' (ih0 _ _ hh) rfl rfl rfl)))
  cases hh
  exact ex' (t' rfl (re' (rt' rfl rfl rfl)))
theorem G13 {s i1 res}(hh:I8 s i1=some res):Zu s i1 res:=(O11 s) _ _ hh
def Fj (s:Str)(i:Int):Option Int:=
 I8 s i
theorem Bz {s i res}(hh:Fj s i=some res):U0 C 161 [.d (.str s),.d (.int .i64 i)] [] (Ret [] (.d (.int .i64 res))):=by
 unfold Fj at hh
 exact U0.intro hC Tryz.func161 rfl rfl rfl (t' rfl (S' (bk' (fw' (G13 hh) rfl rfl rfl))))
def Y8 (word:Str):Option Bool:=
 (if (!(word == []))=true then Uh word [32] else some default)>>=fun x1=>
 if (!(bif (!(word == [])) then (!x1) else false)||(decide (1+word.length≤maxLen)))=true then
  if (!(bif (!(word == [])) then (!x1) else false)||(decide (([32]++word).length+1≤maxLen)))=true then
   (if (bif (!(word == [])) then (!x1) else false)=true then Uh [32,116,121,112,101,32,115,101,99,114,101,116,32,112,117,98,108,105,99,32,114,97,110,100,111,109,32,118,97,114,32,104,97,116,99,104,32,102,117,110,99,32,114,101,116,117,114,110,32,98,101,103,105,110,32,101,110,100,32,98,111,111,108,32,105,110,116,32,97,114,114,97,121,32,111,102,32,114,101,99,111,114,100,32,116,114,117,101,32,102,97,108,115,101,32,99,97,108,108,32,114,101,108,101,97,115,101,32,111,117,116,112,117,116,32,119,97,105,116,32,105,102,32,101,108,115,101,32,119,104,105,108,101,32,108,105,109,105,116,32,102,111,114,32,116,111,32,115,101,116,116,108,101,32,109,105,110,32,109,97,120,32] (([32]++word)++[32]) else some default)>>=fun x2=>
   some (bif (bif (!(word == [])) then (!x1) else false) then x2 else false)
  else none
 else none
theorem Iq {word res}(hh:Y8 word=some res):U0 C 162 [.d (.str word)] [] (Ret [] (.d (.bool res))):=by
 unfold Y8 at hh
 obtain ⟨x1,hx1,hh⟩:=bs' hh
 obtain ⟨c7,hh⟩:=U17 hh
 obtain ⟨c8,hh⟩:=U17 hh
 obtain ⟨x2,hx2,hh⟩:=bs' hh
 cases hh
 refine U0.intro hC Tryz.func162 rfl rfl rfl (t' rfl (sg' 14 rfl (G' 4 rfl (AG.c rfl rfl (fun hg=>⟨hg,trivial⟩) (fun hw=>Mx (A4 hw hx1)) (a1' rfl (pa' rfl (G' 2 rfl (ag' rfl (fun hg=>⟨⟨hg,trivial⟩,(c7 hg)⟩) (ag' rfl (fun hg=>⟨⟨hg,trivial⟩,(c8 hg)⟩) (AG.c rfl rfl (fun hg=>⟨hg,trivial⟩) (fun hw=>Mx (A4 hw hx2)) (pa' rfl (a0' rfl (an' ?_)))))))))))))
 exact n' (re' (rt' rfl rfl rfl))
def L5 (s:Str)(n:Int)(v7:Int):Option Int:=
 if (decide (v7 < ((s).length:Int)))=true then
  idx s v7>>=fun x1=>
  V8 (x1.toNat:Int)>>=fun x2=>
  if (!x2)=true then
   some 6
  else
   idx s v7>>=fun x3=>
   L5 s (min (IntKind.i64.wrap ((IntKind.i64.wrap (10 * n))+(IntKind.i64.wrap (IntKind.u8.wrap ((x3.toNat:Int) - 48))))) 1048577) (IntKind.i64.wrap (v7+1))
 else
  idx s 0>>=fun x4=>
  if (bif ((x4.toNat:Int) == 48) then (decide (((s).length:Int) > 1)) else false)=true then
   some 6
  else
   if (decide (n > 1048576))=true then
    some 3
   else
    some 0
 partial_fixpoint
abbrev Jq (s:Str)(n:Int)(v7:Int)(res:Int):Prop:=LM C 37 0 Tryz.f164 [1,1,0,1,4] [(0,.d (.str s)),(3,.d (.int .i64 n)),(6,.d (.int .i64 ((s).length:Int))),(7,.d (.int .i64 v7))] [] (Ret [] (.d (.int .i64 res)))
theorem Sx (s:Str):(∀ n v7 res,L5 s n v7=some res→Jq s n v7 res):=by
 refine L5.partial_correctness s _ ?_
 ·intro g0 ih0 n v7 res hh
  refine A1.unroll (t' rfl (S' (ci' rfl hh (fun hh=>?_) (fun hh=>?_))))
  ·obtain ⟨x1,hx1,hh⟩:=bs' hh
   obtain ⟨x2,hx2,hh⟩:=bs' hh
   refine sk' (S' (bk' (t' rfl (S' (p' 2 rfl (x' rfl (W1 hx1) (Y5 hx1) (c' (Wh hx2) rfl rfl (e' rfl (ci' rfl hh (fun hh=>?_) (fun hh=>?_))))))))))
   ·cases hh
    exact t' rfl (re' (rt' rfl rfl rfl))
   obtain ⟨x3,hx3,hh⟩:=bs' hh
   exact sk' (P' 4 rfl (x' rfl (W1 hx3) (Y5 hx3) (e' rfl (T' rfl (lw' (ih0 _ _ _ hh) rfl rfl rfl)))))
  obtain ⟨x4,hx4,hh⟩:=bs' hh
  refine ex' (S' (bk' (sg' 9 rfl (a0' rfl (AG.x hC rfl rfl (fun _=>trivial) (fun hw=>⟨W1 hx4,Y5 hx4⟩) (G' 3 rfl (a1' rfl (a1' rfl (pa' rfl (a0' rfl (an' (n' (ci' rfl hh (fun hh=>?_) (fun hh=>?_))))))))))))))
  ·cases hh
   exact t' rfl (re' (rt' rfl rfl rfl))
  refine t' rfl (ci' rfl hh (fun hh=>?_) (fun hh=>?_))
  ·cases hh
   exact t' rfl (re' (rt' rfl rfl rfl))
  cases hh
  exact sk' (t' rfl (re' (rt' rfl rfl rfl)))
theorem Cz {s n v7 res}(hh:L5 s n v7=some res):Jq s n v7 res:=(Sx s) _ _ _ hh
def Hg (s:Str):Option Int:=
 L5 s 0 0
theorem H13 {s res}(hh:Hg s=some res):U0 C 164 [.d (.str s)] [] (Ret [] (.d (.int .i64 res))):=by
 unfold Hg at hh
 exact U0.intro hC Tryz.func164 rfl rfl rfl (t' rfl (t' rfl (S' (t' rfl (bk' (fw' (Cz hh) rfl rfl rfl))))))
def Nb (s:Str):Option Str:=
 idx s 0>>=fun x3=>
 Qo [59,58,44,46,61,43,45,42,47,37,60,62,33,63,40,41,91,93,123,125] (x3.toNat:Int)>>=fun x4=>
 if (decide (x4≥0))=true then
  slc s 0 1>>=fun x5=>
  some x5
 else
  some []
theorem Pr {s res}(hh:Nb s=some res):JM C 24 0 Tryz.f165 [1,1] [(0,.d (.str s))] [] (Ret [] (.d (.str res))):=by
 unfold Nb at hh
 obtain ⟨x3,hx3,hh⟩:=bs' hh
 obtain ⟨x4,hx4,hh⟩:=bs' hh
 refine S' (p' 1 rfl (x' rfl (W1 hx3) (Y5 hx3) (c' (Q14 hx4) rfl rfl (e' rfl (ci' rfl hh (fun hh=>?_) (fun hh=>?_))))))
 ·obtain ⟨x5,hx5,hh⟩:=bs' hh
  cases hh
  exact p' 1 rfl (F0.lx hC rfl hx5 (e' rfl (re' (rt' rfl rfl rfl))))
 cases hh
 exact sk' (t' rfl (re' (rt' rfl rfl rfl)))
def Q6 (s:Str)(v8:Bool):Option Str:=
 if v8=true then
  slc s 0 2>>=fun x2=>
  some x2
 else
  Nb s
theorem Ga {s v8 res}(hh:Q6 s v8=some res):JM C 24 0 Tryz.f165 [1,0,1,2,1,4,1] [(0,.d (.str s)),(8,.d (.bool v8))] [] (Ret [] (.d (.str res))):=by
 unfold Q6 at hh
 refine ci' rfl hh (fun hh=>?_) (fun hh=>?_)
 ·obtain ⟨x2,hx2,hh⟩:=bs' hh
  cases hh
  exact p' 1 rfl (F0.lx hC rfl hx2 (e' rfl (re' (rt' rfl rfl rfl))))
 exact sk' (ew' (Pr hh) rfl rfl rfl)
def Jd (s:Str):Option Str:=
 if (decide (((s).length:Int)≥2))=true then
  slc s 0 2>>=fun x1=>
  if (x1 == [46,46])=true then
   Q6 s (x1 == [46,46])
  else
   if (x1 == [61,61])=true then
    Q6 s (x1 == [61,61])
   else
    if (x1 == [33,61])=true then
     Q6 s (x1 == [33,61])
    else
     if (x1 == [60,61])=true then
      Q6 s (x1 == [60,61])
     else
      if (x1 == [62,61])=true then
       Q6 s (x1 == [62,61])
      else
       if (x1 == [38,38])=true then
        Q6 s (x1 == [38,38])
       else
        Q6 s (x1 == [124,124])
 else
  Nb s
theorem S16 {s res}(hh:Jd s=some res):U0 C 165 [.d (.str s)] [] (Ret [] (.d (.str res))):=by
 unfold Jd at hh
 refine U0.intro hC Tryz.func165 rfl rfl rfl (t' rfl (S' (t' rfl (ci' rfl hh (fun hh=>?_) (fun hh=>?_)))))
 ·obtain ⟨x1,hx1,hh⟩:=bs' hh
  refine p' 1 rfl (F0.lx hC rfl hx1 (n' (bk' (S' (t' rfl (ci' rfl hh (fun hh=>?_) (fun hh=>?_)))))))
  ·exact sk' (ew' (Ga hh) rfl rfl rfl)
  refine t' rfl (ci' rfl hh (fun hh=>?_) (fun hh=>?_))
  ·exact sk' (ew' (Ga hh) rfl rfl rfl)
  refine t' rfl (ci' rfl hh (fun hh=>?_) (fun hh=>?_))
  ·exact sk' (ew' (Ga hh) rfl rfl rfl)
  refine t' rfl (ci' rfl hh (fun hh=>?_) (fun hh=>?_))
  ·exact sk' (ew' (Ga hh) rfl rfl rfl)
  refine t' rfl (ci' rfl hh (fun hh=>?_) (fun hh=>?_))
  ·exact sk' (ew' (Ga hh) rfl rfl rfl)
  refine t' rfl (ci' rfl hh (fun hh=>?_) (fun hh=>?_))
  ·exact sk' (ew' (Ga hh) rfl rfl rfl)
  exact T' rfl (ew' (Ga hh) rfl rfl rfl)
 exact sk' (ew' (Pr hh) rfl rfl rfl)
def Ef (s:Str)(i:Int):Option (K0×Int):=
 idx s i>>=fun x1=>
 Ma (x1.toNat:Int)>>=fun x2=>
 if x2=true then
  Fj s i>>=fun x3=>
  slc s i x3>>=fun x4=>
  Y8 x4>>=fun x5=>
  if x5=true then
   some ((K0.mk 2 x4 i),0)
  else
   if (decide (((x4).length:Int) > 12))=true then
    some ((K0.mk 0 x4 i),7)
   else
    some ((K0.mk 0 x4 i),0)
 else
  V8 (x1.toNat:Int)>>=fun x6=>
  if x6=true then
   Fj s i>>=fun x7=>
   slc s i x7>>=fun x8=>
   Hg x8>>=fun x9=>
   some ((K0.mk 1 x8 i),x9)
  else
   slc s i ((s).length:Int)>>=fun x10=>
   Jd x10>>=fun x11=>
   if (x11 == [])=true then
    some ((K0.mk 3 x11 i),6)
   else
    some ((K0.mk 3 x11 i),0)
theorem T16 {s i res}(hh:Ef s i=some res):U0 C 109 [.d (.str s),.d (.int .i64 i)] [] (Ret [] (.tup [.agg (K0.cells res.1),.d (.int .i64 res.2)])):=by
 unfold Ef at hh
 obtain ⟨x1,hx1,hh⟩:=bs' hh
 obtain ⟨x2,hx2,hh⟩:=bs' hh
 refine U0.intro hC Tryz.func109 rfl rfl rfl (s' rfl rfl (F0.n hC rfl (e' rfl (p' 2 rfl (F0.n hC rfl (F0.s hC rfl (n' (S' (p' 2 rfl (x' rfl (W1 hx1) (Y5 hx1) (e' rfl (bk' (p' 1 rfl ?_)))))))))))))
 refine c' (Jk hx2) rfl rfl (e' rfl (ci' rfl hh (fun hh=>?_) (fun hh=>?_)))
 ·obtain ⟨x3,hx3,hh⟩:=bs' hh
  obtain ⟨x4,hx4,hh⟩:=bs' hh
  obtain ⟨x5,hx5,hh⟩:=bs' hh
  refine p' 4 rfl (c' (Bz hx3) rfl rfl (F0.lx hC rfl hx4 (q' rfl (F0.s hC rfl (n' (p' 2 rfl (c' (Iq hx5) rfl rfl (n' (ci' rfl hh (fun hh=>?_) (fun hh=>?_))))))))))
  ·cases hh
   exact P' 1 rfl (F0.s hC rfl (n' (p' 1 rfl (F0.s hC rfl (e' rfl (re' (rt' rfl rfl rfl)))))))
  refine t' rfl (ci' rfl hh (fun hh=>?_) (fun hh=>?_))
  ·cases hh
   exact p' 1 rfl (F0.s hC rfl (e' rfl (re' (rt' rfl rfl rfl))))
  cases hh
  exact sk' (p' 1 rfl (F0.s hC rfl (e' rfl (re' (rt' rfl rfl rfl)))))
 obtain ⟨x6,hx6,hh⟩:=bs' hh
 refine p' 1 rfl (c' (Wh hx6) rfl rfl (e' rfl (ci' rfl hh (fun hh=>?_) (fun hh=>?_))))
 ·obtain ⟨x7,hx7,hh⟩:=bs' hh
  obtain ⟨x8,hx8,hh⟩:=bs' hh
  obtain ⟨x9,hx9,hh⟩:=bs' hh
  cases hh
  refine p' 4 rfl (c' (Bz hx7) rfl rfl (F0.lx hC rfl hx8 (q' rfl (F0.s hC rfl (q' rfl (F0.s hC rfl (n' (S' (AEx.draw hC 4 rfl rfl rfl (O' 3 rfl (Qc' (H13 hx9) rfl rfl (Qn' (F0.s hC rfl ?_)))))))))))))
  exact e' rfl (re' (rt' rfl rfl rfl))
 obtain ⟨x10,hx10,hh⟩:=bs' hh
 obtain ⟨x11,hx11,hh⟩:=bs' hh
 refine p' 2 rfl (F0.lx hC rfl hx10 (c' (S16 hx11) rfl rfl (q' rfl (F0.s hC rfl (q' rfl (F0.s hC rfl (n' (t' rfl (ci' rfl hh (fun hh=>?_) (fun hh=>?_))))))))))
 ·cases hh
  exact p' 1 rfl (F0.s hC rfl (e' rfl (re' (rt' rfl rfl rfl))))
 cases hh
 exact sk' (p' 1 rfl (F0.s hC rfl (e' rfl (re' (rt' rfl rfl rfl)))))
mutual
def C4 (s:Str)(out:List K0)(i:Int):Option (List K0×Int×Int):=
 if (decide (i < ((s).length:Int)))=true then
  idx s i>>=fun x1=>
  if ((x1.toNat:Int) == 32)=true then
   Kc s out i x1 ((x1.toNat:Int) == 32)
  else
   if ((x1.toNat:Int) == 9)=true then
    Kc s out i x1 ((x1.toNat:Int) == 9)
   else
    Kc s out i x1 ((x1.toNat:Int) == 10)
 else
  some (out,0,0)
 partial_fixpoint
def Kc (s:Str)(out1:List K0)(i1:Int)(x1:UInt8)(v19:Bool):Option (List K0×Int×Int):=
 if v19=true then
  C4 s out1 (IntKind.i64.wrap (i1+1))
 else
  if ((x1.toNat:Int) == 35)=true then
   U9 s out1 i1
  else
   Ef s i1>>=fun x2=>
   if (x2.2 != 0)=true then
    some ([],i1,x2.2)
   else
    if (decide ((out1.length+1) * 33≤140737488355328))=true then
     C4 s (out1++[x2.1]) (IntKind.i64.wrap (i1+((x2.1.Text).length:Int)))
    else none
 partial_fixpoint
def U9 (s:Str)(out2:List K0)(i2:Int):Option (List K0×Int×Int):=
 (if (decide (i2 < ((s).length:Int)))=true then idx s i2 else some default)>>=fun x3=>
 if (bif (decide (i2 < ((s).length:Int))) then ((x3.toNat:Int) != 10) else false)=true then
  U9 s out2 (IntKind.i64.wrap (i2+1))
 else
  C4 s out2 i2
 partial_fixpoint
end
abbrev Av (s:Str)(out:List K0)(i:Int)(res:List K0×Int×Int):Prop:=LM C 59 0 Tryz.f57 [1,1,1,0,1,4] [(0,.d (.str s)),(5,.osl 0 (K0.rows out)),(6,.d (.int .i64 i))] [.tok 62 3] (Ret [] (.tup [.d (.sl (K0.rows res.1)),.d (.int .i64 res.2.1),.d (.int .i64 res.2.2)]))
abbrev R14 (s:Str)(out1:List K0)(i1:Int)(x1:UInt8)(v19:Bool)(res:List K0×Int×Int):Prop:=JM C 59 0 Tryz.f57 [1,1,1,0,1,4,5,1,4,0,1,4,1] [(0,.d (.str s)),(5,.osl 0 (K0.rows out1)),(6,.d (.int .i64 i1)),(18,.d (.int .u8 (x1.toNat:Int))),(19,.d (.bool v19))] [.tok 62 3] (Ret [] (.tup [.d (.sl (K0.rows res.1)),.d (.int .i64 res.2.1),.d (.int .i64 res.2.2)]))
abbrev S14 (s:Str)(out2:List K0)(i2:Int)(res:List K0×Int×Int):Prop:=LM C 59 0 Tryz.f57 [1,1,1,0,1,4,5,1,4,0,1,4,1,3,1,2,0,4] [(0,.d (.str s)),(5,.osl 0 (K0.rows out2)),(6,.d (.int .i64 i2))] [.tok 62 3] (Ret [] (.tup [.d (.sl (K0.rows res.1)),.d (.int .i64 res.2.1),.d (.int .i64 res.2.2)]))
theorem P11 (s:Str):(∀ out i res,C4 s out i=some res→Av s out i res)∧(∀ out1 i1 x1 v19 res,Kc s out1 i1 x1 v19=some res→R14 s out1 i1 x1 v19 res)∧(∀ out2 i2 res,U9 s out2 i2=some res→S14 s out2 i2 res):=by
 refine C4.mutual_partial_correctness s _ _ _ ?_ ?_ ?_
 ·intro g1 ih1 out i res hh
  refine A1.unroll (S' (t' rfl (ci' rfl hh (fun hh=>?_) (fun hh=>?_))))
  ·obtain ⟨x1,hx1,hh⟩:=bs' hh
   refine sk' (bk' (S' (p' 2 rfl (x' rfl (W1 hx1) (Y5 hx1) (n' (bk' (S' (t' rfl (ci' rfl hh (fun hh=>?_) (fun hh=>?_))))))))))
   ·exact sk' (ew' (ih1 _ _ _ _ _ hh) rfl rfl rfl)
   refine t' rfl (ci' rfl hh (fun hh=>?_) (fun hh=>?_))
   ·exact sk' (ew' (ih1 _ _ _ _ _ hh) rfl rfl rfl)
   exact T' rfl (ew' (ih1 _ _ _ _ _ hh) rfl rfl rfl)
  refine ex' (t' rfl (re' ?_))
  obtain rfl:=oi' hh
  exact ⟨_,.tup [.d (.sl (K0.rows out)),.d (.int .i64 0),.d (.int .i64 0)],[],rfl,(.tupL ⟨.osl,.rfl,.rfl,trivial⟩),trivial,rfl,rfl,rfl,rfl⟩
 ·intro g0 g2 ih0 ih2 out1 i1 x1 v19 res hh
  refine ci' rfl hh (fun hh=>?_) (fun hh=>?_)
  ·exact t' rfl (ex' (lw' (ih0 _ _ _ hh) rfl rfl rfl))
  refine t' rfl (ci' rfl hh (fun hh=>?_) (fun hh=>?_))
  ·exact S' (bk' (fw' (ih2 _ _ _ hh) rfl rfl rfl))
  obtain ⟨x2,hx2,hh⟩:=bs' hh
  refine sk' (p' 2 rfl (c' (T16 hx2) rfl rfl (o' 3 rfl (F0.n hC rfl (F0.s hC rfl (e' rfl (S' (t' rfl (ci' rfl hh (fun hh=>?_) (fun hh=>?_))))))))))
  ·refine t' rfl (re' ?_)
   obtain rfl:=oi' hh
   exact ⟨_,.tup [.d (.sl (K0.rows [])),.d (.int .i64 i1),.d (.int .i64 x2.2)],[],rfl,(.tupL ⟨.full,.rfl,.rfl,trivial⟩),trivial,rfl,rfl,rfl,rfl⟩
  obtain ⟨c9,hh⟩:=I4 hh
  exact sk' (p' 2 rfl (F0.be hC rfl (K0.rows_map [x2.1]).symm (F0.ap hC rfl (rs:=K0.rows (out1++[x2.1])) (K0.app out1 [x2.1]) (K0.sz out1) (K0.sz [x2.1]) (P1 (K0.len out1) (K0.len [x2.1]) c9) (e' rfl (T' rfl (lw' (ih0 _ _ _ hh) rfl rfl rfl))))))
 ·intro g0 g2 ih0 ih2 out2 i2 res hh
  obtain ⟨x3,hx3,hh⟩:=bs' hh
  refine A1.unroll (S' (sg' 10 rfl (G' 7 rfl (AG.x hC rfl rfl (fun hg=>⟨hg,hg,trivial⟩) (fun hw=>⟨W1 (A4 hw hx3),Y5 (A4 hw hx3)⟩) (a1' rfl (pa' rfl (an' (n' (ci' rfl hh (fun hh=>?_) (fun hh=>?_))))))))))
  ·exact sk' (bk' (T' rfl (lw' (ih2 _ _ _ hh) rfl rfl rfl)))
  exact ex' (ex' (lw' (ih0 _ _ _ hh) rfl rfl rfl))
theorem I13 {s out i res}(hh:C4 s out i=some res):Av s out i res:=(P11 s).1 _ _ _ hh
def Jh (s:Str):Option (List K0×Int×Int):=
 if (decide (((s).length:Int) > 8192))=true then
  some ([],0,5)
 else
  C4 s [] 0
theorem Dz {s res}(hh:Jh s=some res):U0 C 57 [.d (.str s)] [] (Ret [] (.tup [.d (.sl (K0.rows res.1)),.d (.int .i64 res.2.1),.d (.int .i64 res.2.2)])):=by
 unfold Jh at hh
 refine U0.intro hC Tryz.func57 rfl rfl rfl (t' rfl (S' (t' rfl (ci' rfl hh (fun hh=>?_) (fun hh=>?_)))))
 ·refine t' rfl (re' ?_)
  obtain rfl:=oi' hh
  exact ⟨_,.tup [.d (.sl (K0.rows [])),.d (.int .i64 0),.d (.int .i64 5)],[],rfl,(.tupL ⟨.full,.rfl,.rfl,trivial⟩),trivial,rfl,rfl,rfl,rfl⟩
 exact sk' (p' 1 rfl (F0.tokE 5 62 3 rfl (n' (S' (t' rfl (bk' (fw' (I13 hh) rfl rfl rfl)))))))
def J8 (text:Str)(parserParser:B0):Option Bool:=
 if (decide (parserParser.next≥((parserParser.tokens).length:Int)))=true then
  some false
 else
  idx parserParser.tokens parserParser.next>>=fun x1=>
  some (bif (x1.Text == text) then (bif (x1.Kind == 2) then true else (x1.Kind == 3)) else false)
theorem Cn {text parserParser res}(hh:J8 text parserParser=some res):U0 C 113 [.ref 0 0,.d (.str text)] [.row (B0.cells parserParser) 99] (Ret [.row (B0.cells parserParser) 99] (.d (.bool res))):=by
 unfold J8 at hh
 refine U0.intro hC Tryz.func113 rfl rfl rfl (t' rfl (S' (S' (AEx.draw hC 10 rfl rfl rfl (O' 8 rfl (AQ.qe hC rfl trivial (K0.lenA _) (E' rfl (n' (ci' rfl hh (fun hh=>?_) (fun hh=>?_))))))))))
 ·cases hh
  exact t' rfl (re' (rt' rfl rfl rfl))
 obtain ⟨x1,hx1,hh⟩:=bs' hh
 cases hh
 refine sk' (S' (AEx.drawL hC 11 [] [(10,1)] [[.row (B0.cells parserParser) 99,.row [.d (.int .i64 0),.d (.str []),.d (.int .i64 0)] 62]] rfl rfl rfl rfl rfl rfl rfl rfl rfl rfl (AS.q hC rfl rfl rfl rfl (AS.q hC rfl rfl rfl rfl (AS.q hC rfl rfl rfl rfl (AS.q hC rfl rfl rfl rfl (AS.q hC rfl rfl rfl rfl (AS.q hC rfl rfl rfl rfl (AS.q hC rfl rfl rfl rfl (AS.q hC rfl rfl rfl rfl ?_))))))))))
 refine AS.ix hC rfl (W1 hx1) (K0.idx hx1) rfl rfl rfl (AS.q hC rfl rfl rfl rfl (AS.n hC rfl rfl rfl rfl (AS.nil (F0.s hC rfl (n' (sg' 15 rfl (G' 6 rfl (a1' rfl (a1' rfl (a1' rfl (a0' rfl (a1' rfl (a1' rfl ?_)))))))))))))
 exact pO' rfl (pa' rfl (a0' rfl (an' (n' (re' (rt' rfl rfl rfl))))))
def O0 (text:Str)(parserParser:B0):Option (Bool×B0):=
 J8 text parserParser>>=fun x1=>
 if (!x1)=true then
  some (false,parserParser)
 else
  some (true,(B0.mk parserParser.tokens (IntKind.i64.wrap (parserParser.next+1)) parserParser.endV))
theorem P0 {text parserParser res}(hh:O0 text parserParser=some res):U0 C 61 [.ref 0 0,.d (.str text)] [.row (B0.cells parserParser) 99] (Ret [.row (B0.cells res.2) 99] (.d (.bool res.1))):=by
 unfold O0 at hh
 obtain ⟨x1,hx1,hh⟩:=bs' hh
 refine U0.intro hC Tryz.func61 rfl rfl rfl (t' rfl (S' (p' 2 rfl (g' [0] (Cn hx1) rfl rfl rfl rfl rfl rfl (e' rfl (ci' rfl hh (fun hh=>?_) (fun hh=>?_)))))))
 ·cases hh
  exact t' rfl (re' (rt' rfl rfl rfl))
 cases hh
 exact sk' (p' 7 rfl (F0.s hC rfl (n' (t' rfl (re' (rt' rfl rfl rfl))))))
def B5 (parserParser:B0):Option Bool:=
 (if (decide (parserParser.next < ((parserParser.tokens).length:Int)))=true then idx parserParser.tokens parserParser.next else some default)>>=fun x1=>
 some (bif (decide (parserParser.next < ((parserParser.tokens).length:Int))) then (x1.Kind == 0) else false)
theorem We {parserParser res}(hh:B5 parserParser=some res):U0 C 172 [.ref 0 0] [.row (B0.cells parserParser) 99] (Ret [.row (B0.cells parserParser) 99] (.d (.bool res))):=by
 unfold B5 at hh
 obtain ⟨x1,hx1,hh⟩:=bs' hh
 cases hh
 refine U0.intro hC Tryz.func172 rfl rfl rfl (t' rfl (S' (AEx.drawG hC 25 rfl rfl rfl (G' 8 rfl (AG.qe hC rfl (fun hg=>⟨trivial,trivial⟩) (K0.lenA _) (G' 3 rfl (a1' rfl (a1' rfl (a1' rfl (a0' rfl (a1' rfl (a1' rfl (a1' rfl ?_)))))))))))))
 exact AG.i hC rfl rfl (fun hg=>⟨hg,hg,trivial⟩) (fun hw=>⟨W1 (A4 hw hx1),K0.idx (A4 hw hx1),rfl⟩) (a1' rfl (a1' rfl (a1' rfl (pa' rfl (a0' rfl (an' (n' (re' (rt' rfl rfl rfl)))))))))
def I5 (parserParser:B0):Option (Pn Unit):=
 if (decide (parserParser.next < ((parserParser.tokens).length:Int)))=true then
  idx parserParser.tokens parserParser.next>>=fun x1=>
  some (.pn x1.At)
 else
  some (.pn parserParser.endV)
theorem R5 {parserParser res}(hh:I5 parserParser=some res):C2 C 59 [.ref 0 0] [.row (B0.cells parserParser) 99] (P4 res (fun rr=>[.row (B0.cells parserParser) 99]) (fun rr=>.tup [])) (J4 res F3 [.row (B0.cells parserParser) 99]):=by
 unfold I5 at hh
 refine C2.intro hC Tryz.func59 rfl rfl rfl (t' rfl (S' (S' (AEx.draw hC 10 rfl rfl rfl (O' 8 rfl (AQ.qe hC rfl trivial (K0.lenA _) (E' rfl (n' (ci' rfl hh (fun hh=>?_) (fun hh=>?_))))))))))
 ·obtain ⟨x1,hx1,hh⟩:=bs' hh
  cases hh
  exact AEx.draw hC 12 rfl rfl rfl (O' 8 rfl (AQ.i hC rfl (W1 hx1) (K0.idx hx1) rfl (E' rfl (n' (P' 2 rfl (pn' hC rfl ((fun hi=>pe' rfl rfl hi))))))))
 cases hh
 exact sk' (P' 2 rfl (pn' hC rfl ((fun hi=>pe' rfl rfl hi))))
def R6 (parserParser:B0):Option (Pn (Str×B0)):=
 idx parserParser.tokens (IntKind.i64.wrap ((IntKind.i64.wrap (parserParser.next+1)) - 1))>>=fun x3=>
 some (.ok (x3.Text,(B0.mk parserParser.tokens (IntKind.i64.wrap (parserParser.next+1)) parserParser.endV)))
theorem Gj {parserParser res}(hh:R6 parserParser=some res):JMp C 51 1 Tryz.f132 [1,1] [(0,.ref 0 0)] [.row (B0.cells parserParser) 99] (P4 res (fun rr=>[.row (B0.cells rr.2) 99]) (fun rr=>.d (.str rr.1))) (J4 res F3 [.row (B0.cells parserParser) 99]):=by
 unfold R6 at hh
 obtain ⟨x3,hx3,hh⟩:=bs' hh
 cases hh
 exact p' 7 rfl (F0.s hC rfl (n' (S' (AEx.draw hC 13 rfl rfl rfl (O' 9 rfl (AQ.i hC rfl (W1 hx3) (K0.idx hx3) rfl (E' rfl (n' (re' (rt' rfl rfl rfl))))))))))
def Y6 (k:Int)(parserParser:B0):Option (Pn (Str×B0)):=
 (if (!(decide (parserParser.next≥((parserParser.tokens).length:Int))))=true then idx parserParser.tokens parserParser.next else some default)>>=fun x1=>
 if (bif (decide (parserParser.next≥((parserParser.tokens).length:Int))) then true else (x1.Kind != k))=true then
  I5 parserParser>>=fun x2=>match x2 with
  | .pn nn=>
  some (.pn nn)
  | .ok x2=>
  R6 parserParser
 else
  R6 parserParser
theorem Tc {k parserParser res}(hh:Y6 k parserParser=some res):C2 C 132 [.ref 0 0,.d (.int .i64 k)] [.row (B0.cells parserParser) 99] (P4 res (fun rr=>[.row (B0.cells rr.2) 99]) (fun rr=>.d (.str rr.1))) (J4 res F3 [.row (B0.cells parserParser) 99]):=by
 unfold Y6 at hh
 obtain ⟨x1,hx1,hh⟩:=bs' hh
 refine C2.intro hC Tryz.func132 rfl rfl rfl (t' rfl (S' (S' (AEx.drawG hC 25 rfl rfl rfl (G' 8 rfl (AG.qe hC rfl (fun hg=>⟨trivial,trivial⟩) (K0.lenA _) (G' 3 rfl (a1' rfl (a1' rfl (a1' rfl (a0' rfl (a1' rfl (a1' rfl ?_)))))))))))))
 refine a1' rfl (AG.i hC rfl rfl (fun hg=>⟨hg,hg,trivial⟩) (fun hw=>⟨W1 (A4 hw hx1),K0.idx (A4 hw hx1),rfl⟩) (a1' rfl (a1' rfl (a0' rfl (a2' rfl (po' rfl (an' (n' (ci' rfl hh (fun hh=>?_) (fun hh=>?_))))))))))
 ·refine P' 1 rfl ?_
  rcases bp' hh with ⟨nn,hx2,⟨⟩⟩ | ⟨x2,hx2,hh⟩
  ·exact gn' [0] (R5 hx2) rfl rfl rfl rfl rfl (fun hi=>pe' rfl rfl hi)
  exact g' [0] ((R5 hx2).ok) rfl rfl rfl rfl rfl rfl (n' (ew' (Gj hh) rfl rfl rfl))
 exact sk' (ew' (Gj hh) rfl rfl rfl)
def T2 (parserParser:B0):Option (Pn (Str×B0)):=
 Y6 0 parserParser>>=fun x1=>match x1 with
 | .pn nn=>
 some (.pn nn)
 | .ok x1=>
 some (.ok (x1.1,x1.2))
theorem Z0 {parserParser res}(hh:T2 parserParser=some res):C2 C 73 [.ref 0 0] [.row (B0.cells parserParser) 99] (P4 res (fun rr=>[.row (B0.cells rr.2) 99]) (fun rr=>.d (.str rr.1))) (J4 res F3 [.row (B0.cells parserParser) 99]):=by
 unfold T2 at hh
 refine C2.intro hC Tryz.func73 rfl rfl rfl (t' rfl (p' 1 rfl ?_))
 rcases bp' hh with ⟨nn,hx1,⟨⟩⟩ | ⟨x1,hx1,hh⟩
 ·exact gn' [0] (Tc hx1) rfl rfl rfl rfl rfl (fun hi=>pe' rfl rfl hi)
 cases hh
 exact g' [0] ((Tc hx1).ok) rfl rfl rfl rfl rfl rfl (e' rfl (re' (rt' rfl rfl rfl)))
def R0 (text:Str)(parserParser:B0):Option (Pn B0):=
 O0 text parserParser>>=fun x1=>
 if (!x1.1)=true then
  I5 x1.2>>=fun x2=>match x2 with
  | .pn nn=>
  some (.pn nn)
  | .ok x2=>
  some (.ok x1.2)
 else
  some (.ok x1.2)
theorem L0 {text parserParser res}(hh:R0 text parserParser=some res):C2 C 62 [.ref 0 0,.d (.str text)] [.row (B0.cells parserParser) 99] (P4 res (fun rr=>[.row (B0.cells rr) 99]) (fun rr=>.tup [])) (J4 res F3 [.dead]):=by
 unfold R0 at hh
 obtain ⟨x1,hx1,hh⟩:=bs' hh
 refine C2.intro hC Tryz.func62 rfl rfl rfl (p' 2 rfl (g' [0] (P0 hx1) rfl rfl rfl rfl rfl rfl (e' rfl (ci' rfl hh (fun hh=>?_) (fun hh=>?_)))))
 ·refine P' 1 rfl ?_
  rcases bp' hh with ⟨nn,hx2,⟨⟩⟩ | ⟨x2,hx2,hh⟩
  ·exact gn' [0] (R5 hx2) rfl rfl rfl rfl rfl (fun hi=>peW ⟨trivial,trivial⟩ rfl hi)
  cases hh
  exact g' [0] ((R5 hx2).ok) rfl rfl rfl rfl rfl rfl (n' (rn' rfl rfl rfl))
 cases hh
 exact sk' (rn' rfl rfl rfl)
def C5 (parserParser:B0):Option (Pn (Int×B0)):=
 Y6 1 parserParser>>=fun x1=>match x1 with
 | .pn nn=>
 some (.pn nn)
 | .ok x1=>
 Yu x1.1>>=fun x2=>
 some (.ok (x2,x1.2))
theorem B7 {parserParser res}(hh:C5 parserParser=some res):C2 C 131 [.ref 0 0] [.row (B0.cells parserParser) 99] (P4 res (fun rr=>[.row (B0.cells rr.2) 99]) (fun rr=>.d (.int .i64 rr.1))) (J4 res F3 [.row (B0.cells parserParser) 99]):=by
 unfold C5 at hh
 refine C2.intro hC Tryz.func131 rfl rfl rfl (t' rfl (p' 1 rfl ?_))
 rcases bp' hh with ⟨nn,hx1,⟨⟩⟩ | ⟨x1,hx1,hh⟩
 ·exact gn' [0] (Tc hx1) rfl rfl rfl rfl rfl (fun hi=>pe' rfl rfl hi)
 obtain ⟨x2,hx2,hh⟩:=bs' hh
 cases hh
 exact g' [0] ((Tc hx1).ok) rfl rfl rfl rfl rfl rfl (c' (B1e hx2) rfl rfl (e' rfl (t' rfl (re' (rt' rfl rfl rfl)))))
def X5 (parserParser:B0):Option (Int×Bool×B0):=
 O0 [42] parserParser>>=fun x1=>
 if x1.1=true then
  some (10,true,x1.2)
 else
  O0 [47] x1.2>>=fun x2=>
  if x2.1=true then
   some (11,true,x2.2)
  else
   O0 [37] x2.2>>=fun x3=>
   some (12,x3.1,x3.2)
theorem Cq {parserParser res}(hh:X5 parserParser=some res):U0 C 215 [.ref 0 0] [.row [.ref 1 0] 68,.row (B0.cells parserParser) 99] (Ret [.row [.ref 1 0] 68,.row (B0.cells res.2.2) 99] (.tup [.d (.int .i64 res.1),.d (.bool res.2.1)])):=by
 unfold X5 at hh
 obtain ⟨x1,hx1,hh⟩:=bs' hh
 refine U0.intro hC Tryz.func215 rfl rfl rfl (t' rfl (S' (bk' (p' 1 rfl (g' [1] (P0 hx1) rfl rfl rfl rfl rfl rfl (e' rfl (ci' rfl hh (fun hh=>?_) (fun hh=>?_))))))))
 ·cases hh
  exact t' rfl (re' (rt' rfl rfl rfl))
 obtain ⟨x2,hx2,hh⟩:=bs' hh
 refine p' 1 rfl (g' [1] (P0 hx2) rfl rfl rfl rfl rfl rfl (e' rfl (ci' rfl hh (fun hh=>?_) (fun hh=>?_))))
 ·cases hh
  exact t' rfl (re' (rt' rfl rfl rfl))
 obtain ⟨x3,hx3,hh⟩:=bs' hh
 cases hh
 exact sk' (p' 1 rfl (g' [1] (P0 hx3) rfl rfl rfl rfl rfl rfl (e' rfl (re' (rt' rfl rfl rfl)))))
def S7 (parserParser:B0):Option (Int×Bool×B0):=
 O0 [43] parserParser>>=fun x1=>
 if x1.1=true then
  some (8,true,x1.2)
 else
  O0 [45] x1.2>>=fun x2=>
  some (9,x2.1,x2.2)
theorem Wt {parserParser res}(hh:S7 parserParser=some res):U0 C 204 [.ref 0 0] [.row [.ref 1 0] 68,.row (B0.cells parserParser) 99] (Ret [.row [.ref 1 0] 68,.row (B0.cells res.2.2) 99] (.tup [.d (.int .i64 res.1),.d (.bool res.2.1)])):=by
 unfold S7 at hh
 obtain ⟨x1,hx1,hh⟩:=bs' hh
 refine U0.intro hC Tryz.func204 rfl rfl rfl (t' rfl (S' (p' 1 rfl (g' [1] (P0 hx1) rfl rfl rfl rfl rfl rfl (n' (ci' rfl hh (fun hh=>?_) (fun hh=>?_)))))))
 ·cases hh
  exact t' rfl (re' (rt' rfl rfl rfl))
 obtain ⟨x2,hx2,hh⟩:=bs' hh
 cases hh
 exact sk' (p' 1 rfl (g' [1] (P0 hx2) rfl rfl rfl rfl rfl rfl (e' rfl (re' (rt' rfl rfl rfl)))))
def T7 (parserParser:B0):Option (Int×Bool×B0):=
 O0 [38,38] parserParser>>=fun x1=>
 some (19,x1.1,x1.2)
theorem Xt {parserParser res}(hh:T7 parserParser=some res):U0 C 167 [.ref 0 0] [.row [.ref 1 0] 68,.row (B0.cells parserParser) 99] (Ret [.row [.ref 1 0] 68,.row (B0.cells res.2.2) 99] (.tup [.d (.int .i64 res.1),.d (.bool res.2.1)])):=by
 unfold T7 at hh
 obtain ⟨x1,hx1,hh⟩:=bs' hh
 cases hh
 exact U0.intro hC Tryz.func167 rfl rfl rfl (t' rfl (p' 1 rfl (g' [1] (P0 hx1) rfl rfl rfl rfl rfl rfl (e' rfl (re' (rt' rfl rfl rfl))))))
def K8 (parserParser:B0):Option (Int×Bool×B0):=
 O0 [124,124] parserParser>>=fun x1=>
 some (20,x1.1,x1.2)
theorem Bv {parserParser res}(hh:K8 parserParser=some res):U0 C 112 [.ref 0 0] [.row [.ref 1 0] 68,.row (B0.cells parserParser) 99] (Ret [.row [.ref 1 0] 68,.row (B0.cells res.2.2) 99] (.tup [.d (.int .i64 res.1),.d (.bool res.2.1)])):=by
 unfold K8 at hh
 obtain ⟨x1,hx1,hh⟩:=bs' hh
 cases hh
 exact U0.intro hC Tryz.func112 rfl rfl rfl (t' rfl (p' 1 rfl (g' [1] (P0 hx1) rfl rfl rfl rfl rfl rfl (e' rfl (re' (rt' rfl rfl rfl))))))
mutual
def C1 (parserParser:B0):Option (Pn (A0×B0)):=
 L8 parserParser>>=fun x1=>match x1 with
 | .pn nn=>
 some (.pn nn)
 | .ok x1=>
 O0 [63] x1.2>>=fun x2=>
 if (!x2.1)=true then
  some (.ok (x1.1,x2.2))
 else
  C1 x2.2>>=fun x3=>match x3 with
  | .pn nn=>
  some (.pn nn)
  | .ok x3=>
  R0 [58] x3.2>>=fun x4=>match x4 with
  | .pn nn=>
  some (.pn nn)
  | .ok x4=>
  C1 x4>>=fun x5=>match x5 with
  | .pn nn=>
  some (.pn nn)
  | .ok x5=>
  some (.ok ((A0.mk 23 0 [] [x1.1,x3.1,x5.1]),x5.2))
 partial_fixpoint
def L8 (parserParser:B0):Option (Pn (A0×B0)):=
 Vb parserParser>>=fun x1=>match x1 with
 | .pn nn=>
 some (.pn nn)
 | .ok x1=>
 some (.ok (x1.1,x1.2))
 partial_fixpoint
def Vb (parserParser:B0):Option (Pn (A0×B0)):=
 M6 parserParser>>=fun x1=>match x1 with
 | .pn nn=>
 some (.pn nn)
 | .ok x1=>
 U3 x1.2 x1.1
 partial_fixpoint
def U3 (o0:B0)(o3:A0):Option (Pn (A0×B0)):=
 K8 o0>>=fun x2=>
 if (!x2.2.1)=true then
  some (.ok (o3,x2.2.2))
 else
  M6 x2.2.2>>=fun x3=>match x3 with
  | .pn nn=>
  some (.pn nn)
  | .ok x3=>
  U3 x3.2 (A0.mk x2.1 0 [] [o3,x3.1])
 partial_fixpoint
def M6 (parserParser:B0):Option (Pn (A0×B0)):=
 V9 parserParser>>=fun x1=>match x1 with
 | .pn nn=>
 some (.pn nn)
 | .ok x1=>
 some (.ok (x1.1,x1.2))
 partial_fixpoint
def V9 (parserParser:B0):Option (Pn (A0×B0)):=
 V3 parserParser>>=fun x1=>match x1 with
 | .pn nn=>
 some (.pn nn)
 | .ok x1=>
 A3 x1.2 x1.1
 partial_fixpoint
def A3 (o0:B0)(o3:A0):Option (Pn (A0×B0)):=
 T7 o0>>=fun x2=>
 if (!x2.2.1)=true then
  some (.ok (o3,x2.2.2))
 else
  V3 x2.2.2>>=fun x3=>match x3 with
  | .pn nn=>
  some (.pn nn)
  | .ok x3=>
  A3 x3.2 (A0.mk x2.1 0 [] [o3,x3.1])
 partial_fixpoint
def V3 (parserParser:B0):Option (Pn (A0×B0)):=
 V5 parserParser>>=fun x1=>match x1 with
 | .pn nn=>
 some (.pn nn)
 | .ok x1=>
 O0 [61,61] x1.2>>=fun x2=>
 if x2.1=true then
  L1 x2.2 x1 13
 else
  O0 [33,61] x2.2>>=fun x4=>
  if x4.1=true then
   L1 x4.2 x1 14
  else
   O0 [60] x4.2>>=fun x5=>
   if x5.1=true then
    L1 x5.2 x1 15
   else
    O0 [60,61] x5.2>>=fun x6=>
    if x6.1=true then
     L1 x6.2 x1 16
    else
     O0 [62] x6.2>>=fun x7=>
     if x7.1=true then
      L1 x7.2 x1 17
     else
      O0 [62,61] x7.2>>=fun x8=>
      if x8.1=true then
       L1 x8.2 x1 18
      else
       some (.ok (x1.1,x8.2))
 partial_fixpoint
def L1 (o0:B0)(x1:A0×B0)(op:Int):Option (Pn (A0×B0)):=
 V5 o0>>=fun x3=>match x3 with
 | .pn nn=>
 some (.pn nn)
 | .ok x3=>
 some (.ok ((A0.mk op 0 [] [x1.1,x3.1]),x3.2))
 partial_fixpoint
def V5 (parserParser:B0):Option (Pn (A0×B0)):=
 W9 parserParser>>=fun x1=>match x1 with
 | .pn nn=>
 some (.pn nn)
 | .ok x1=>
 some (.ok (x1.1,x1.2))
 partial_fixpoint
def W9 (parserParser:B0):Option (Pn (A0×B0)):=
 Q4 parserParser>>=fun x1=>match x1 with
 | .pn nn=>
 some (.pn nn)
 | .ok x1=>
 B3 x1.2 x1.1
 partial_fixpoint
def B3 (o0:B0)(o3:A0):Option (Pn (A0×B0)):=
 S7 o0>>=fun x2=>
 if (!x2.2.1)=true then
  some (.ok (o3,x2.2.2))
 else
  Q4 x2.2.2>>=fun x3=>match x3 with
  | .pn nn=>
  some (.pn nn)
  | .ok x3=>
  B3 x3.2 (A0.mk x2.1 0 [] [o3,x3.1])
 partial_fixpoint
def Q4 (parserParser:B0):Option (Pn (A0×B0)):=
 X9 parserParser>>=fun x1=>match x1 with
 | .pn nn=>
 some (.pn nn)
 | .ok x1=>
 some (.ok (x1.1,x1.2))
 partial_fixpoint
def X9 (parserParser:B0):Option (Pn (A0×B0)):=
 S3 parserParser>>=fun x1=>match x1 with
 | .pn nn=>
 some (.pn nn)
 | .ok x1=>
 C3 x1.2 x1.1
 partial_fixpoint
def C3 (o0:B0)(o3:A0):Option (Pn (A0×B0)):=
 X5 o0>>=fun x2=>
 if (!x2.2.1)=true then
  some (.ok (o3,x2.2.2))
 else
  S3 x2.2.2>>=fun x3=>match x3 with
  | .pn nn=>
  some (.pn nn)
  | .ok x3=>
  C3 x3.2 (A0.mk x2.1 0 [] [o3,x3.1])
 partial_fixpoint
def S3 (parserParser:B0):Option (Pn (A0×B0)):=
 O0 [45] parserParser>>=fun x1=>
 if x1.1=true then
  S3 x1.2>>=fun x4=>match x4 with
  | .pn nn=>
  some (.pn nn)
  | .ok x4=>
  some (.ok ((A0.mk 6 0 [] [x4.1]),x4.2))
 else
  O0 [33] x1.2>>=fun x2=>
  if x2.1=true then
   S3 x2.2>>=fun x5=>match x5 with
   | .pn nn=>
   some (.pn nn)
   | .ok x5=>
   some (.ok ((A0.mk 7 0 [] [x5.1]),x5.2))
  else
   B8 x2.2>>=fun x3=>match x3 with
   | .pn nn=>
   some (.pn nn)
   | .ok x3=>
   some (.ok (x3.1,x3.2))
 partial_fixpoint
def B8 (parserParser:B0):Option (Pn (A0×B0)):=
 B5 parserParser>>=fun x1=>
 if x1=true then
  I6 parserParser>>=fun x2=>match x2 with
  | .pn nn=>
  some (.pn nn)
  | .ok x2=>
  some (.ok (x2.1,x2.2))
 else
  O0 [116,114,117,101] parserParser>>=fun x3=>
  if x3.1=true then
   some (.ok ((A0.mk 1 0 [] []),x3.2))
  else
   O0 [102,97,108,115,101] x3.2>>=fun x4=>
   if x4.1=true then
    some (.ok ((A0.mk 2 0 [] []),x4.2))
   else
    O0 [109,105,110] x4.2>>=fun x5=>
    if x5.1=true then
     M8 21 x5.2>>=fun x11=>match x11 with
     | .pn nn=>
     some (.pn nn)
     | .ok x11=>
     some (.ok (x11.1,x11.2))
    else
     O0 [109,97,120] x5.2>>=fun x6=>
     if x6.1=true then
      M8 22 x6.2>>=fun x12=>match x12 with
      | .pn nn=>
      some (.pn nn)
      | .ok x12=>
      some (.ok (x12.1,x12.2))
     else
      O0 [40] x6.2>>=fun x7=>
      if x7.1=true then
       C1 x7.2>>=fun x9=>match x9 with
       | .pn nn=>
       some (.pn nn)
       | .ok x9=>
       R0 [41] x9.2>>=fun x10=>match x10 with
       | .pn nn=>
       some (.pn nn)
       | .ok x10=>
       some (.ok (x9.1,x10))
      else
       C5 x7.2>>=fun x8=>match x8 with
       | .pn nn=>
       some (.pn nn)
       | .ok x8=>
       some (.ok ((A0.mk 0 x8.1 [] []),x8.2))
 partial_fixpoint
def M8 (op:Int)(parserParser:B0):Option (Pn (A0×B0)):=
 R0 [40] parserParser>>=fun x1=>match x1 with
 | .pn nn=>
 some (.pn nn)
 | .ok x1=>
 C1 x1>>=fun x2=>match x2 with
 | .pn nn=>
 some (.pn nn)
 | .ok x2=>
 R0 [44] x2.2>>=fun x3=>match x3 with
 | .pn nn=>
 some (.pn nn)
 | .ok x3=>
 C1 x3>>=fun x4=>match x4 with
 | .pn nn=>
 some (.pn nn)
 | .ok x4=>
 R0 [41] x4.2>>=fun x5=>match x5 with
 | .pn nn=>
 some (.pn nn)
 | .ok x5=>
 some (.ok ((A0.mk op 0 [] [x2.1,x4.1]),x5))
 partial_fixpoint
def I6 (parserParser:B0):Option (Pn (A0×B0)):=
 T2 parserParser>>=fun x1=>match x1 with
 | .pn nn=>
 some (.pn nn)
 | .ok x1=>
 F4 x1.2 3 x1.1 []
 partial_fixpoint
def F4 (o0:B0)(o2_Op:Int)(o2_Name:Str)(o2_Kids:List A0):Option (Pn (A0×B0)):=
 O0 [46] o0>>=fun x2=>
 if x2.1=true then
  T2 x2.2>>=fun x3=>match x3 with
  | .pn nn=>
  some (.pn nn)
  | .ok x3=>
  F4 x3.2 4 x3.1 [(A0.mk o2_Op 0 o2_Name o2_Kids)]
 else
  O0 [91] x2.2>>=fun x4=>
  if x4.1=true then
   C1 x4.2>>=fun x5=>match x5 with
   | .pn nn=>
   some (.pn nn)
   | .ok x5=>
   R0 [93] x5.2>>=fun x6=>match x6 with
   | .pn nn=>
   some (.pn nn)
   | .ok x6=>
   F4 x6 5 [] [(A0.mk o2_Op 0 o2_Name o2_Kids),x5.1]
  else
   some (.ok ((A0.mk o2_Op 0 o2_Name o2_Kids),x4.2))
 partial_fixpoint
end
abbrev Ki (parserParser:B0)(res:Pn (A0×B0)):Prop:=C2 C 30 [.ref 0 0] [.row (B0.cells parserParser) 99] (P4 res (fun rr=>[.row (B0.cells rr.2) 99]) (fun rr=>.agg (A0.cells rr.1))) (J4 res F3 [.dead])
abbrev Ez (parserParser:B0)(res:Pn (A0×B0)):Prop:=C2 C 60 [.ref 0 0] [.row (B0.cells parserParser) 99] (P4 res (fun rr=>[.row (B0.cells rr.2) 99]) (fun rr=>.agg (A0.cells rr.1))) (J4 res F3 [.dead])
abbrev Cv (parserParser:B0)(res:Pn (A0×B0)):Prop:=C2 C 110 [.ref 0 0,.bnd 111 [.ref 0 0],.clo 112 [.ref 1 0]] [.row (B0.cells parserParser) 99,.row [.ref 0 0] 68] (P4 res (fun rr=>[.row (B0.cells rr.2) 99,.row [.ref 0 0] 68]) (fun rr=>.agg (A0.cells rr.1))) (J4 res F3 [.dead,.row [.ref 0 0] 68])
abbrev Rr (o0:B0)(o3:A0)(res:Pn (A0×B0)):Prop:=LMp C 26 2 Tryz.f110 [1,1,4] [(1,.bnd 111 [.ref 0 0]),(2,.clo 112 [.ref 1 0]),(6,.ref 2 0),(7,.ref 3 0)] [.row (B0.cells o0) 99,.row [.ref 0 0] 68,.row [.d (.int .i64 0),.d (.int .i64 0),.d (.str []),.full (A0.rows [])] 26,.row (A0.cells o3) 26] (P4 res (fun rr=>[.row (B0.cells rr.2) 99,.row [.ref 0 0] 68]) (fun rr=>.agg (A0.cells rr.1))) (J4 res F3 [.dead,.row [.ref 0 0] 68])
abbrev Tx (parserParser:B0)(res:Pn (A0×B0)):Prop:=C2 C 111 [.ref 0 0] [.row (B0.cells parserParser) 99] (P4 res (fun rr=>[.row (B0.cells rr.2) 99]) (fun rr=>.agg (A0.cells rr.1))) (J4 res F3 [.dead])
abbrev Sr (parserParser:B0)(res:Pn (A0×B0)):Prop:=C2 C 110 [.ref 0 0,.bnd 166 [.ref 0 0],.clo 167 [.ref 1 0]] [.row (B0.cells parserParser) 99,.row [.ref 0 0] 68] (P4 res (fun rr=>[.row (B0.cells rr.2) 99,.row [.ref 0 0] 68]) (fun rr=>.agg (A0.cells rr.1))) (J4 res F3 [.dead,.row [.ref 0 0] 68])
abbrev Lp (o0:B0)(o3:A0)(res:Pn (A0×B0)):Prop:=LMp C 26 2 Tryz.f110 [1,1,4] [(1,.bnd 166 [.ref 0 0]),(2,.clo 167 [.ref 1 0]),(6,.ref 2 0),(7,.ref 3 0)] [.row (B0.cells o0) 99,.row [.ref 0 0] 68,.row [.d (.int .i64 0),.d (.int .i64 0),.d (.str []),.full (A0.rows [])] 26,.row (A0.cells o3) 26] (P4 res (fun rr=>[.row (B0.cells rr.2) 99,.row [.ref 0 0] 68]) (fun rr=>.agg (A0.cells rr.1))) (J4 res F3 [.dead,.row [.ref 0 0] 68])
abbrev Dq (parserParser:B0)(res:Pn (A0×B0)):Prop:=C2 C 166 [.ref 0 0] [.row (B0.cells parserParser) 99] (P4 res (fun rr=>[.row (B0.cells rr.2) 99]) (fun rr=>.agg (A0.cells rr.1))) (J4 res F3 [.dead])
abbrev Wm (o0:B0)(x1:A0×B0)(op:Int)(res:Pn (A0×B0)):Prop:=JMp C 32 1 Tryz.f166 [1,1,1,1] [(0,.ref 0 0),(2,.ref 1 0),(3,.ref 2 0),(4,.d (.int .i64 op))] [.row (B0.cells o0) 99,.row [.d (.int .i64 0),.d (.int .i64 0),.d (.str []),.full (A0.rows [])] 26,.row (A0.cells x1.1) 26] (P4 res (fun rr=>[.row (B0.cells rr.2) 99]) (fun rr=>.agg (A0.cells rr.1))) (J4 res F3 [.dead])
abbrev Ux (parserParser:B0)(res:Pn (A0×B0)):Prop:=C2 C 189 [.ref 0 0] [.row (B0.cells parserParser) 99] (P4 res (fun rr=>[.row (B0.cells rr.2) 99]) (fun rr=>.agg (A0.cells rr.1))) (J4 res F3 [.dead])
abbrev Ur (parserParser:B0)(res:Pn (A0×B0)):Prop:=C2 C 110 [.ref 0 0,.bnd 203 [.ref 0 0],.clo 204 [.ref 1 0]] [.row (B0.cells parserParser) 99,.row [.ref 0 0] 68] (P4 res (fun rr=>[.row (B0.cells rr.2) 99,.row [.ref 0 0] 68]) (fun rr=>.agg (A0.cells rr.1))) (J4 res F3 [.dead,.row [.ref 0 0] 68])
abbrev Mp (o0:B0)(o3:A0)(res:Pn (A0×B0)):Prop:=LMp C 26 2 Tryz.f110 [1,1,4] [(1,.bnd 203 [.ref 0 0]),(2,.clo 204 [.ref 1 0]),(6,.ref 2 0),(7,.ref 3 0)] [.row (B0.cells o0) 99,.row [.ref 0 0] 68,.row [.d (.int .i64 0),.d (.int .i64 0),.d (.str []),.full (A0.rows [])] 26,.row (A0.cells o3) 26] (P4 res (fun rr=>[.row (B0.cells rr.2) 99,.row [.ref 0 0] 68]) (fun rr=>.agg (A0.cells rr.1))) (J4 res F3 [.dead,.row [.ref 0 0] 68])
abbrev Ts (parserParser:B0)(res:Pn (A0×B0)):Prop:=C2 C 203 [.ref 0 0] [.row (B0.cells parserParser) 99] (P4 res (fun rr=>[.row (B0.cells rr.2) 99]) (fun rr=>.agg (A0.cells rr.1))) (J4 res F3 [.dead])
abbrev Vr (parserParser:B0)(res:Pn (A0×B0)):Prop:=C2 C 110 [.ref 0 0,.bnd 214 [.ref 0 0],.clo 215 [.ref 1 0]] [.row (B0.cells parserParser) 99,.row [.ref 0 0] 68] (P4 res (fun rr=>[.row (B0.cells rr.2) 99,.row [.ref 0 0] 68]) (fun rr=>.agg (A0.cells rr.1))) (J4 res F3 [.dead,.row [.ref 0 0] 68])
abbrev Np (o0:B0)(o3:A0)(res:Pn (A0×B0)):Prop:=LMp C 26 2 Tryz.f110 [1,1,4] [(1,.bnd 214 [.ref 0 0]),(2,.clo 215 [.ref 1 0]),(6,.ref 2 0),(7,.ref 3 0)] [.row (B0.cells o0) 99,.row [.ref 0 0] 68,.row [.d (.int .i64 0),.d (.int .i64 0),.d (.str []),.full (A0.rows [])] 26,.row (A0.cells o3) 26] (P4 res (fun rr=>[.row (B0.cells rr.2) 99,.row [.ref 0 0] 68]) (fun rr=>.agg (A0.cells rr.1))) (J4 res F3 [.dead,.row [.ref 0 0] 68])
abbrev Dv (parserParser:B0)(res:Pn (A0×B0)):Prop:=C2 C 214 [.ref 0 0] [.row (B0.cells parserParser) 99] (P4 res (fun rr=>[.row (B0.cells rr.2) 99]) (fun rr=>.agg (A0.cells rr.1))) (J4 res F3 [.dead])
abbrev Us (parserParser:B0)(res:Pn (A0×B0)):Prop:=C2 C 223 [.ref 0 0] [.row (B0.cells parserParser) 99] (P4 res (fun rr=>[.row (B0.cells rr.2) 99]) (fun rr=>.agg (A0.cells rr.1))) (J4 res F3 [.dead])
abbrev Kw (op:Int)(parserParser:B0)(res:Pn (A0×B0)):Prop:=C2 C 228 [.ref 0 0,.d (.int .i64 op)] [.row (B0.cells parserParser) 99] (P4 res (fun rr=>[.row (B0.cells rr.2) 99]) (fun rr=>.agg (A0.cells rr.1))) (J4 res F3 [.dead])
abbrev Pl (parserParser:B0)(res:Pn (A0×B0)):Prop:=C2 C 195 [.ref 0 0] [.row (B0.cells parserParser) 99] (P4 res (fun rr=>[.row (B0.cells rr.2) 99]) (fun rr=>.agg (A0.cells rr.1))) (J4 res F3 [.dead])
abbrev Wr (o0:B0)(o2_Op:Int)(o2_Name:Str)(o2_Kids:List A0)(res:Pn (A0×B0)):Prop:=LMp C 28 1 Tryz.f195 [1,1,4] [(0,.ref 0 0),(2,.ref 1 0),(3,.ref 2 0)] [.row (B0.cells o0) 99,.row [.d (.int .i64 0),.d (.int .i64 0),.d (.str []),.full (A0.rows [])] 26,.row [.d (.int .i64 o2_Op),.d (.int .i64 0),.d (.str o2_Name),.d (.sl (A0.rows o2_Kids))] 26] (P4 res (fun rr=>[.row (B0.cells rr.2) 99]) (fun rr=>.agg (A0.cells rr.1))) (J4 res F3 [.dead])
theorem Ig:(∀ parserParser res,C1 parserParser=some res→Ki parserParser res)∧(∀ parserParser res,L8 parserParser=some res→Ez parserParser res)∧(∀ parserParser res,Vb parserParser=some res→Cv parserParser res)∧(∀ o0 o3 res,U3 o0 o3=some res→Rr o0 o3 res)∧(∀ parserParser res,M6 parserParser=some res→Tx parserParser res)∧(∀ parserParser res,V9 parserParser=some res→Sr parserParser res)∧(∀ o0 o3 res,A3 o0 o3=some res→Lp o0 o3 res)∧(∀ parserParser res,V3 parserParser=some res→Dq parserParser res)∧(∀ o0 x1 op res,L1 o0 x1 op=some res→Wm o0 x1 op res)∧(∀ parserParser res,V5 parserParser=some res→Ux parserParser res)∧(∀ parserParser res,W9 parserParser=some res→Ur parserParser res)∧(∀ o0 o3 res,B3 o0 o3=some res→Mp o0 o3 res)∧(∀ parserParser res,Q4 parserParser=some res→Ts parserParser res)∧(∀ parserParser res,X9 parserParser=some res→Vr parserParser res)∧(∀ o0 o3 res,C3 o0 o3=some res→Np o0 o3 res)∧(∀ parserParser res,S3 parserParser=some res→Dv parserParser res)∧(∀ parserParser res,B8 parserParser=some res→Us parserParser res)∧(∀ op parserParser res,M8 op parserParser=some res→Kw op parserParser res)∧(∀ parserParser res,I6 parserParser=some res→Pl parserParser res)∧(∀ o0 o2_Op o2_Name o2_Kids res,F4 o0 o2_Op o2_Name o2_Kids=some res→Wr o0 o2_Op o2_Name o2_Kids res):=by
 refine C1.mutual_partial_correctness _ _ _ _ _ _ _ _ _ _ _ _ _ _ _ _ _ _ _ _ ?_ ?_ ?_ ?_ ?_ ?_ ?_ ?_ ?_ ?_ ?_ ?_ ?_ ?_ ?_ ?_ ?_ ?_ ?_ ?_
 ·intro g0 g1 ih0 ih1 parserParser res hh
  refine C2.intro hC Tryz.func30 rfl rfl rfl (s' rfl rfl (F0.nf hC rfl (n' (p' 1 rfl ?_))))
  rcases bp' hh with ⟨nn,hx1,⟨⟩⟩ | ⟨x1,hx1,hh⟩
  ·exact gn' [0] (ih1 _ _ hx1) rfl rfl rfl rfl rfl (fun hi=>peW ⟨trivial,trivial⟩ rfl hi)
  obtain ⟨x2,hx2,hh⟩:=bs' hh
  refine g' [0] ((ih1 _ _ hx1).ok) rfl rfl rfl rfl rfl rfl (F0.nf hC rfl (F0.s hC rfl (n' (S' (p' 1 rfl (g' [0] (P0 hx2) rfl rfl rfl rfl rfl rfl (e' rfl (ci' rfl hh (fun hh=>?_) (fun hh=>?_)))))))))
  ·cases hh
   exact p' 1 rfl (F0.s hC rfl (n' (re' (rt' rfl rfl rfl))))
  refine sk' (p' 1 rfl ?_)
  rcases bp' hh with ⟨nn,hx3,⟨⟩⟩ | ⟨x3,hx3,hh⟩
  ·exact gn' [0] (ih0 _ _ hx3) rfl rfl rfl rfl rfl (fun hi=>peW ⟨trivial,trivial⟩ rfl hi)
  refine g' [0] ((ih0 _ _ hx3).ok) rfl rfl rfl rfl rfl rfl (F0.nf hC rfl (F0.s hC rfl (n' (p' 1 rfl ?_))))
  rcases bp' hh with ⟨nn,hx4,⟨⟩⟩ | ⟨x4,hx4,hh⟩
  ·exact gn' [0] (L0 hx4) rfl rfl rfl rfl rfl (fun hi=>peW ⟨trivial,trivial⟩ rfl hi)
  refine g' [0] ((L0 hx4).ok) rfl rfl rfl rfl rfl rfl (n' (S' ?_))
  rcases bp' hh with ⟨nn,hx5,⟨⟩⟩ | ⟨x5,hx5,hh⟩
  ·refine AEx.drawE hC ?_
   refine C0.step rfl (j0:=0) (js:=[1,2]) (by kernel_rfl) ⟨⟨_,rfl,?_⟩,⟨_,rfl,?_⟩,⟨_,rfl,?_⟩,trivial⟩
   ·refine e' rfl ?_
    refine C0.step rfl (j0:=1) (js:=[2]) (by kernel_rfl) ⟨⟨_,rfl,?_⟩,⟨_,rfl,?_⟩,trivial⟩
    ·refine e' rfl ?_
     refine C0.step rfl (j0:=2) (js:=[]) (by kernel_rfl) ⟨⟨_,rfl,?_⟩,trivial⟩
     refine e' rfl ?_
     refine C0.step rfl (j0:=3) (js:=[]) (by kernel_rfl) ⟨⟨_,rfl,?_⟩,trivial⟩
     exact gn' [0] (ih0 _ _ hx5) rfl rfl rfl rfl rfl (fun hi=>peW ⟨trivial,trivial⟩ rfl hi)
    ·refine e' rfl ?_
     refine C0.step rfl (j0:=1) (js:=[3]) (by kernel_rfl) ⟨⟨_,rfl,?_⟩,⟨_,rfl,?_⟩,trivial⟩
     ·refine e' rfl ?_
      refine C0.step rfl (j0:=3) (js:=[]) (by kernel_rfl) ⟨⟨_,rfl,?_⟩,trivial⟩
      exact gn' [0] (ih0 _ _ hx5) rfl rfl rfl rfl rfl (fun hi=>peW ⟨trivial,trivial⟩ rfl hi)
     ·exact gn' [0] (ih0 _ _ hx5) rfl rfl rfl rfl rfl (fun hi=>peW ⟨trivial,trivial⟩ rfl hi)
   ·refine e' rfl ?_
    refine C0.step rfl (j0:=0) (js:=[2]) (by kernel_rfl) ⟨⟨_,rfl,?_⟩,⟨_,rfl,?_⟩,trivial⟩
    ·refine e' rfl ?_
     refine C0.step rfl (j0:=2) (js:=[]) (by kernel_rfl) ⟨⟨_,rfl,?_⟩,trivial⟩
     refine e' rfl ?_
     refine C0.step rfl (j0:=3) (js:=[]) (by kernel_rfl) ⟨⟨_,rfl,?_⟩,trivial⟩
     exact gn' [0] (ih0 _ _ hx5) rfl rfl rfl rfl rfl (fun hi=>peW ⟨trivial,trivial⟩ rfl hi)
    ·refine e' rfl ?_
     refine C0.step rfl (j0:=0) (js:=[3]) (by kernel_rfl) ⟨⟨_,rfl,?_⟩,⟨_,rfl,?_⟩,trivial⟩
     ·refine e' rfl ?_
      refine C0.step rfl (j0:=3) (js:=[]) (by kernel_rfl) ⟨⟨_,rfl,?_⟩,trivial⟩
      exact gn' [0] (ih0 _ _ hx5) rfl rfl rfl rfl rfl (fun hi=>peW ⟨trivial,trivial⟩ rfl hi)
     ·exact gn' [0] (ih0 _ _ hx5) rfl rfl rfl rfl rfl (fun hi=>peW ⟨trivial,trivial⟩ rfl hi)
   ·refine e' rfl ?_
    refine C0.step rfl (j0:=0) (js:=[1,3]) (by kernel_rfl) ⟨⟨_,rfl,?_⟩,⟨_,rfl,?_⟩,⟨_,rfl,?_⟩,trivial⟩
    ·refine e' rfl ?_
     refine C0.step rfl (j0:=1) (js:=[3]) (by kernel_rfl) ⟨⟨_,rfl,?_⟩,⟨_,rfl,?_⟩,trivial⟩
     ·refine e' rfl ?_
      refine C0.step rfl (j0:=3) (js:=[]) (by kernel_rfl) ⟨⟨_,rfl,?_⟩,trivial⟩
      exact gn' [0] (ih0 _ _ hx5) rfl rfl rfl rfl rfl (fun hi=>peW ⟨trivial,trivial⟩ rfl hi)
     ·exact gn' [0] (ih0 _ _ hx5) rfl rfl rfl rfl rfl (fun hi=>peW ⟨trivial,trivial⟩ rfl hi)
    ·refine e' rfl ?_
     refine C0.step rfl (j0:=0) (js:=[3]) (by kernel_rfl) ⟨⟨_,rfl,?_⟩,⟨_,rfl,?_⟩,trivial⟩
     ·refine e' rfl ?_
      refine C0.step rfl (j0:=3) (js:=[]) (by kernel_rfl) ⟨⟨_,rfl,?_⟩,trivial⟩
      exact gn' [0] (ih0 _ _ hx5) rfl rfl rfl rfl rfl (fun hi=>peW ⟨trivial,trivial⟩ rfl hi)
     ·exact gn' [0] (ih0 _ _ hx5) rfl rfl rfl rfl rfl (fun hi=>peW ⟨trivial,trivial⟩ rfl hi)
    ·exact gn' [0] (ih0 _ _ hx5) rfl rfl rfl rfl rfl (fun hi=>peW ⟨trivial,trivial⟩ rfl hi)
  refine AEx.drawE hC ?_
  refine C0.step rfl (j0:=0) (js:=[1,2]) (by kernel_rfl) ⟨⟨_,rfl,?_⟩,⟨_,rfl,?_⟩,⟨_,rfl,?_⟩,trivial⟩
  ·refine e' rfl ?_
   refine C0.step rfl (j0:=1) (js:=[2]) (by kernel_rfl) ⟨⟨_,rfl,?_⟩,⟨_,rfl,?_⟩,trivial⟩
   ·refine e' rfl ?_
    refine C0.step rfl (j0:=2) (js:=[]) (by kernel_rfl) ⟨⟨_,rfl,?_⟩,trivial⟩
    refine e' rfl ?_
    refine C0.step rfl (j0:=3) (js:=[]) (by kernel_rfl) ⟨⟨_,rfl,?_⟩,trivial⟩
    refine g' [0] ((ih0 _ _ hx5).ok) rfl rfl rfl rfl rfl rfl (n' ?_)
    refine C0.step rfl (j0:=4) (js:=[]) (by kernel_rfl) ⟨⟨_,rfl,?_⟩,trivial⟩
    refine F0.be hC rfl (A0.rows_map [x1.1,x3.1,x5.1]).symm (n' ?_)
    refine C0.step rfl (j0:=5) (js:=[]) (by kernel_rfl) ⟨⟨_,rfl,?_⟩,trivial⟩
    refine e' rfl ?_
    refine C0.step rfl (j0:=6) (js:=[]) (by kernel_rfl) ⟨⟨_,rfl,?_⟩,trivial⟩
    refine F0.s hC rfl (n' (C0.nil (by kernel_rfl) (re' ?_)))
    obtain rfl:=oi' hh
    exact ⟨_,.agg [.d (.int .i64 23),.d (.int .i64 0),.d (.str []),.d (.sl (A0.rows [x1.1,x3.1,x5.1]))],[.row (B0.cells x5.2) 99],rfl,(.aggL ⟨.rfl,.rfl,.rfl,.full,trivial⟩),⟨⟨rfl,.refl _,rfl⟩,trivial⟩,rfl,rfl,rpq rfl rfl⟩
   ·refine e' rfl ?_
    refine C0.step rfl (j0:=1) (js:=[3]) (by kernel_rfl) ⟨⟨_,rfl,?_⟩,⟨_,rfl,?_⟩,trivial⟩
    ·refine e' rfl ?_
     refine C0.step rfl (j0:=3) (js:=[]) (by kernel_rfl) ⟨⟨_,rfl,?_⟩,trivial⟩
     refine g' [0] ((ih0 _ _ hx5).ok) rfl rfl rfl rfl rfl rfl (n' ?_)
     refine C0.step rfl (j0:=4) (js:=[]) (by kernel_rfl) ⟨⟨_,rfl,?_⟩,trivial⟩
     refine F0.be hC rfl (A0.rows_map [x1.1,x3.1,x5.1]).symm (n' ?_)
     refine C0.step rfl (j0:=5) (js:=[]) (by kernel_rfl) ⟨⟨_,rfl,?_⟩,trivial⟩
     refine e' rfl ?_
     refine C0.step rfl (j0:=6) (js:=[]) (by kernel_rfl) ⟨⟨_,rfl,?_⟩,trivial⟩
     refine F0.s hC rfl (n' (C0.nil (by kernel_rfl) (re' ?_)))
     obtain rfl:=oi' hh
     exact ⟨_,.agg [.d (.int .i64 23),.d (.int .i64 0),.d (.str []),.d (.sl (A0.rows [x1.1,x3.1,x5.1]))],[.row (B0.cells x5.2) 99],rfl,(.aggL ⟨.rfl,.rfl,.rfl,.full,trivial⟩),⟨⟨rfl,.refl _,rfl⟩,trivial⟩,rfl,rfl,rpq rfl rfl⟩
    ·refine g' [0] ((ih0 _ _ hx5).ok) rfl rfl rfl rfl rfl rfl (n' ?_)
     refine C0.step rfl (j0:=1) (js:=[]) (by kernel_rfl) ⟨⟨_,rfl,?_⟩,trivial⟩
     refine e' rfl ?_
     refine C0.step rfl (j0:=4) (js:=[]) (by kernel_rfl) ⟨⟨_,rfl,?_⟩,trivial⟩
     refine F0.be hC rfl (A0.rows_map [x1.1,x3.1,x5.1]).symm (n' ?_)
     refine C0.step rfl (j0:=5) (js:=[]) (by kernel_rfl) ⟨⟨_,rfl,?_⟩,trivial⟩
     refine e' rfl ?_
     refine C0.step rfl (j0:=6) (js:=[]) (by kernel_rfl) ⟨⟨_,rfl,?_⟩,trivial⟩
     refine F0.s hC rfl (n' (C0.nil (by kernel_rfl) (re' ?_)))
     obtain rfl:=oi' hh
     exact ⟨_,.agg [.d (.int .i64 23),.d (.int .i64 0),.d (.str []),.d (.sl (A0.rows [x1.1,x3.1,x5.1]))],[.row (B0.cells x5.2) 99],rfl,(.aggL ⟨.rfl,.rfl,.rfl,.full,trivial⟩),⟨⟨rfl,.refl _,rfl⟩,trivial⟩,rfl,rfl,rpq rfl rfl⟩
  ·refine e' rfl ?_
   refine C0.step rfl (j0:=0) (js:=[2]) (by kernel_rfl) ⟨⟨_,rfl,?_⟩,⟨_,rfl,?_⟩,trivial⟩
   ·refine e' rfl ?_
    refine C0.step rfl (j0:=2) (js:=[]) (by kernel_rfl) ⟨⟨_,rfl,?_⟩,trivial⟩
    refine e' rfl ?_
    refine C0.step rfl (j0:=3) (js:=[]) (by kernel_rfl) ⟨⟨_,rfl,?_⟩,trivial⟩
    refine g' [0] ((ih0 _ _ hx5).ok) rfl rfl rfl rfl rfl rfl (n' ?_)
    refine C0.step rfl (j0:=4) (js:=[]) (by kernel_rfl) ⟨⟨_,rfl,?_⟩,trivial⟩
    refine F0.be hC rfl (A0.rows_map [x1.1,x3.1,x5.1]).symm (n' ?_)
    refine C0.step rfl (j0:=5) (js:=[]) (by kernel_rfl) ⟨⟨_,rfl,?_⟩,trivial⟩
    refine e' rfl ?_
    refine C0.step rfl (j0:=6) (js:=[]) (by kernel_rfl) ⟨⟨_,rfl,?_⟩,trivial⟩
    refine F0.s hC rfl (n' (C0.nil (by kernel_rfl) (re' ?_)))
    obtain rfl:=oi' hh
    exact ⟨_,.agg [.d (.int .i64 23),.d (.int .i64 0),.d (.str []),.d (.sl (A0.rows [x1.1,x3.1,x5.1]))],[.row (B0.cells x5.2) 99],rfl,(.aggL ⟨.rfl,.rfl,.rfl,.full,trivial⟩),⟨⟨rfl,.refl _,rfl⟩,trivial⟩,rfl,rfl,rpq rfl rfl⟩
   ·refine e' rfl ?_
    refine C0.step rfl (j0:=0) (js:=[3]) (by kernel_rfl) ⟨⟨_,rfl,?_⟩,⟨_,rfl,?_⟩,trivial⟩
    ·refine e' rfl ?_
     refine C0.step rfl (j0:=3) (js:=[]) (by kernel_rfl) ⟨⟨_,rfl,?_⟩,trivial⟩
     refine g' [0] ((ih0 _ _ hx5).ok) rfl rfl rfl rfl rfl rfl (n' ?_)
     refine C0.step rfl (j0:=4) (js:=[]) (by kernel_rfl) ⟨⟨_,rfl,?_⟩,trivial⟩
     refine F0.be hC rfl (A0.rows_map [x1.1,x3.1,x5.1]).symm (n' ?_)
     refine C0.step rfl (j0:=5) (js:=[]) (by kernel_rfl) ⟨⟨_,rfl,?_⟩,trivial⟩
     refine e' rfl ?_
     refine C0.step rfl (j0:=6) (js:=[]) (by kernel_rfl) ⟨⟨_,rfl,?_⟩,trivial⟩
     refine F0.s hC rfl (n' (C0.nil (by kernel_rfl) (re' ?_)))
     obtain rfl:=oi' hh
     exact ⟨_,.agg [.d (.int .i64 23),.d (.int .i64 0),.d (.str []),.d (.sl (A0.rows [x1.1,x3.1,x5.1]))],[.row (B0.cells x5.2) 99],rfl,(.aggL ⟨.rfl,.rfl,.rfl,.full,trivial⟩),⟨⟨rfl,.refl _,rfl⟩,trivial⟩,rfl,rfl,rpq rfl rfl⟩
    ·refine g' [0] ((ih0 _ _ hx5).ok) rfl rfl rfl rfl rfl rfl (n' ?_)
     refine C0.step rfl (j0:=0) (js:=[]) (by kernel_rfl) ⟨⟨_,rfl,?_⟩,trivial⟩
     refine e' rfl ?_
     refine C0.step rfl (j0:=4) (js:=[]) (by kernel_rfl) ⟨⟨_,rfl,?_⟩,trivial⟩
     refine F0.be hC rfl (A0.rows_map [x1.1,x3.1,x5.1]).symm (n' ?_)
     refine C0.step rfl (j0:=5) (js:=[]) (by kernel_rfl) ⟨⟨_,rfl,?_⟩,trivial⟩
     refine e' rfl ?_
     refine C0.step rfl (j0:=6) (js:=[]) (by kernel_rfl) ⟨⟨_,rfl,?_⟩,trivial⟩
     refine F0.s hC rfl (n' (C0.nil (by kernel_rfl) (re' ?_)))
     obtain rfl:=oi' hh
     exact ⟨_,.agg [.d (.int .i64 23),.d (.int .i64 0),.d (.str []),.d (.sl (A0.rows [x1.1,x3.1,x5.1]))],[.row (B0.cells x5.2) 99],rfl,(.aggL ⟨.rfl,.rfl,.rfl,.full,trivial⟩),⟨⟨rfl,.refl _,rfl⟩,trivial⟩,rfl,rfl,rpq rfl rfl⟩
  ·refine e' rfl ?_
   refine C0.step rfl (j0:=0) (js:=[1,3]) (by kernel_rfl) ⟨⟨_,rfl,?_⟩,⟨_,rfl,?_⟩,⟨_,rfl,?_⟩,trivial⟩
   ·refine e' rfl ?_
    refine C0.step rfl (j0:=1) (js:=[3]) (by kernel_rfl) ⟨⟨_,rfl,?_⟩,⟨_,rfl,?_⟩,trivial⟩
    ·refine e' rfl ?_
     refine C0.step rfl (j0:=3) (js:=[]) (by kernel_rfl) ⟨⟨_,rfl,?_⟩,trivial⟩
     refine g' [0] ((ih0 _ _ hx5).ok) rfl rfl rfl rfl rfl rfl (n' ?_)
     refine C0.step rfl (j0:=4) (js:=[]) (by kernel_rfl) ⟨⟨_,rfl,?_⟩,trivial⟩
     refine F0.be hC rfl (A0.rows_map [x1.1,x3.1,x5.1]).symm (n' ?_)
     refine C0.step rfl (j0:=5) (js:=[]) (by kernel_rfl) ⟨⟨_,rfl,?_⟩,trivial⟩
     refine e' rfl ?_
     refine C0.step rfl (j0:=6) (js:=[]) (by kernel_rfl) ⟨⟨_,rfl,?_⟩,trivial⟩
     refine F0.s hC rfl (n' (C0.nil (by kernel_rfl) (re' ?_)))
     obtain rfl:=oi' hh
     exact ⟨_,.agg [.d (.int .i64 23),.d (.int .i64 0),.d (.str []),.d (.sl (A0.rows [x1.1,x3.1,x5.1]))],[.row (B0.cells x5.2) 99],rfl,(.aggL ⟨.rfl,.rfl,.rfl,.full,trivial⟩),⟨⟨rfl,.refl _,rfl⟩,trivial⟩,rfl,rfl,rpq rfl rfl⟩
    ·refine g' [0] ((ih0 _ _ hx5).ok) rfl rfl rfl rfl rfl rfl (n' ?_)
     refine C0.step rfl (j0:=1) (js:=[]) (by kernel_rfl) ⟨⟨_,rfl,?_⟩,trivial⟩
     refine e' rfl ?_
     refine C0.step rfl (j0:=4) (js:=[]) (by kernel_rfl) ⟨⟨_,rfl,?_⟩,trivial⟩
     refine F0.be hC rfl (A0.rows_map [x1.1,x3.1,x5.1]).symm (n' ?_)
     refine C0.step rfl (j0:=5) (js:=[]) (by kernel_rfl) ⟨⟨_,rfl,?_⟩,trivial⟩
     refine e' rfl ?_
     refine C0.step rfl (j0:=6) (js:=[]) (by kernel_rfl) ⟨⟨_,rfl,?_⟩,trivial⟩
     refine F0.s hC rfl (n' (C0.nil (by kernel_rfl) (re' ?_)))
     obtain rfl:=oi' hh
     exact ⟨_,.agg [.d (.int .i64 23),.d (.int .i64 0),.d (.str []),.d (.sl (A0.rows [x1.1,x3.1,x5.1]))],[.row (B0.cells x5.2) 99],rfl,(.aggL ⟨.rfl,.rfl,.rfl,.full,trivial⟩),⟨⟨rfl,.refl _,rfl⟩,trivial⟩,rfl,rfl,rpq rfl rfl⟩
   ·refine e' rfl ?_
    refine C0.step rfl (j0:=0) (js:=[3]) (by kernel_rfl) ⟨⟨_,rfl,?_⟩,⟨_,rfl,?_⟩,trivial⟩
    ·refine e' rfl ?_
     refine C0.step rfl (j0:=3) (js:=[]) (by kernel_rfl) ⟨⟨_,rfl,?_⟩,trivial⟩
     refine g' [0] ((ih0 _ _ hx5).ok) rfl rfl rfl rfl rfl rfl (n' ?_)
     refine C0.step rfl (j0:=4) (js:=[]) (by kernel_rfl) ⟨⟨_,rfl,?_⟩,trivial⟩
     refine F0.be hC rfl (A0.rows_map [x1.1,x3.1,x5.1]).symm (n' ?_)
     refine C0.step rfl (j0:=5) (js:=[]) (by kernel_rfl) ⟨⟨_,rfl,?_⟩,trivial⟩
     refine e' rfl ?_
     refine C0.step rfl (j0:=6) (js:=[]) (by kernel_rfl) ⟨⟨_,rfl,?_⟩,trivial⟩
     refine F0.s hC rfl (n' (C0.nil (by kernel_rfl) (re' ?_)))
     obtain rfl:=oi' hh
     exact ⟨_,.agg [.d (.int .i64 23),.d (.int .i64 0),.d (.str []),.d (.sl (A0.rows [x1.1,x3.1,x5.1]))],[.row (B0.cells x5.2) 99],rfl,(.aggL ⟨.rfl,.rfl,.rfl,.full,trivial⟩),⟨⟨rfl,.refl _,rfl⟩,trivial⟩,rfl,rfl,rpq rfl rfl⟩
    ·refine g' [0] ((ih0 _ _ hx5).ok) rfl rfl rfl rfl rfl rfl (n' ?_)
     refine C0.step rfl (j0:=0) (js:=[]) (by kernel_rfl) ⟨⟨_,rfl,?_⟩,trivial⟩
     refine e' rfl ?_
     refine C0.step rfl (j0:=4) (js:=[]) (by kernel_rfl) ⟨⟨_,rfl,?_⟩,trivial⟩
     refine F0.be hC rfl (A0.rows_map [x1.1,x3.1,x5.1]).symm (n' ?_)
     refine C0.step rfl (j0:=5) (js:=[]) (by kernel_rfl) ⟨⟨_,rfl,?_⟩,trivial⟩
     refine e' rfl ?_
     refine C0.step rfl (j0:=6) (js:=[]) (by kernel_rfl) ⟨⟨_,rfl,?_⟩,trivial⟩
     refine F0.s hC rfl (n' (C0.nil (by kernel_rfl) (re' ?_)))
     obtain rfl:=oi' hh
     exact ⟨_,.agg [.d (.int .i64 23),.d (.int .i64 0),.d (.str []),.d (.sl (A0.rows [x1.1,x3.1,x5.1]))],[.row (B0.cells x5.2) 99],rfl,(.aggL ⟨.rfl,.rfl,.rfl,.full,trivial⟩),⟨⟨rfl,.refl _,rfl⟩,trivial⟩,rfl,rfl,rpq rfl rfl⟩
   ·refine g' [0] ((ih0 _ _ hx5).ok) rfl rfl rfl rfl rfl rfl (n' ?_)
    refine C0.step rfl (j0:=0) (js:=[1]) (by kernel_rfl) ⟨⟨_,rfl,?_⟩,⟨_,rfl,?_⟩,trivial⟩
    ·refine e' rfl ?_
     refine C0.step rfl (j0:=1) (js:=[]) (by kernel_rfl) ⟨⟨_,rfl,?_⟩,trivial⟩
     refine e' rfl ?_
     refine C0.step rfl (j0:=4) (js:=[]) (by kernel_rfl) ⟨⟨_,rfl,?_⟩,trivial⟩
     refine F0.be hC rfl (A0.rows_map [x1.1,x3.1,x5.1]).symm (n' ?_)
     refine C0.step rfl (j0:=5) (js:=[]) (by kernel_rfl) ⟨⟨_,rfl,?_⟩,trivial⟩
     refine e' rfl ?_
     refine C0.step rfl (j0:=6) (js:=[]) (by kernel_rfl) ⟨⟨_,rfl,?_⟩,trivial⟩
     refine F0.s hC rfl (n' (C0.nil (by kernel_rfl) (re' ?_)))
     obtain rfl:=oi' hh
     exact ⟨_,.agg [.d (.int .i64 23),.d (.int .i64 0),.d (.str []),.d (.sl (A0.rows [x1.1,x3.1,x5.1]))],[.row (B0.cells x5.2) 99],rfl,(.aggL ⟨.rfl,.rfl,.rfl,.full,trivial⟩),⟨⟨rfl,.refl _,rfl⟩,trivial⟩,rfl,rfl,rpq rfl rfl⟩
    ·refine e' rfl ?_
     refine C0.step rfl (j0:=0) (js:=[]) (by kernel_rfl) ⟨⟨_,rfl,?_⟩,trivial⟩
     refine e' rfl ?_
     refine C0.step rfl (j0:=4) (js:=[]) (by kernel_rfl) ⟨⟨_,rfl,?_⟩,trivial⟩
     refine F0.be hC rfl (A0.rows_map [x1.1,x3.1,x5.1]).symm (n' ?_)
     refine C0.step rfl (j0:=5) (js:=[]) (by kernel_rfl) ⟨⟨_,rfl,?_⟩,trivial⟩
     refine e' rfl ?_
     refine C0.step rfl (j0:=6) (js:=[]) (by kernel_rfl) ⟨⟨_,rfl,?_⟩,trivial⟩
     refine F0.s hC rfl (n' (C0.nil (by kernel_rfl) (re' ?_)))
     obtain rfl:=oi' hh
     exact ⟨_,.agg [.d (.int .i64 23),.d (.int .i64 0),.d (.str []),.d (.sl (A0.rows [x1.1,x3.1,x5.1]))],[.row (B0.cells x5.2) 99],rfl,(.aggL ⟨.rfl,.rfl,.rfl,.full,trivial⟩),⟨⟨rfl,.refl _,rfl⟩,trivial⟩,rfl,rfl,rpq rfl rfl⟩
 ·intro g2 ih2 parserParser res hh
  refine C2.intro hC Tryz.func60 rfl rfl rfl (s' rfl rfl (F0.n hC rfl (F0.nf hC rfl (n' (p' 4 rfl ?_)))))
  rcases bp' hh with ⟨nn,hx1,⟨⟩⟩ | ⟨x1,hx1,hh⟩
  ·exact gn' [0,1] (ih2 _ _ hx1) rfl rfl rfl rfl rfl (fun hi=>peW ⟨trivial,trivial⟩ rfl hi)
  cases hh
  exact g' [0,1] ((ih2 _ _ hx1).ok) rfl rfl rfl rfl rfl rfl (F0.s hC rfl (n' (re' (rt' rfl rfl rfl))))
 ·intro g3 g4 ih3 ih4 parserParser res hh
  refine C2.intro hC Tryz.func110 rfl rfl rfl (s' rfl rfl (F0.nf hC rfl (n' (p' 1 rfl ?_))))
  rcases bp' hh with ⟨nn,hx1,⟨⟩⟩ | ⟨x1,hx1,hh⟩
  ·exact gn' [0] (ih4 _ _ hx1) rfl rfl rfl rfl rfl (fun hi=>peW ⟨trivial,⟨rfl,.refl _,rfl⟩,trivial⟩ rfl hi)
  exact g' [0] ((ih4 _ _ hx1).ok) rfl rfl rfl rfl rfl rfl (F0.nf hC rfl (F0.s hC rfl (n' (bk' (fw' (ih3 _ _ _ hh) rfl rfl rfl)))))
 ·intro g3 g4 ih3 ih4 o0 o3 res hh
  obtain ⟨x2,hx2,hh⟩:=bs' hh
  refine A1.unroll (bk' (p' 1 rfl (g' [1,0] (Bv hx2) rfl rfl rfl rfl rfl rfl (e' rfl (S' (t' rfl (ci' rfl hh (fun hh=>?_) (fun hh=>?_))))))))
  ·cases hh
   exact p' 1 rfl (F0.s hC rfl (n' (re' (rt' rfl rfl rfl))))
  refine sk' ?_
  rcases bp' hh with ⟨nn,hx3,⟨⟩⟩ | ⟨x3,hx3,hh⟩
  ·refine AEx.drawE hC ?_
   refine C0.step rfl (j0:=0) (js:=[1,2]) (by kernel_rfl) ⟨⟨_,rfl,?_⟩,⟨_,rfl,?_⟩,⟨_,rfl,?_⟩,trivial⟩
   ·refine e' rfl ?_
    refine C0.step rfl (j0:=1) (js:=[2]) (by kernel_rfl) ⟨⟨_,rfl,?_⟩,⟨_,rfl,?_⟩,trivial⟩
    ·refine e' rfl ?_
     refine C0.step rfl (j0:=2) (js:=[]) (by kernel_rfl) ⟨⟨_,rfl,?_⟩,trivial⟩
     refine e' rfl ?_
     refine C0.step rfl (j0:=3) (js:=[]) (by kernel_rfl) ⟨⟨_,rfl,?_⟩,trivial⟩
     exact gn' [0] (ih4 _ _ hx3) rfl rfl rfl rfl rfl (fun hi=>peW ⟨trivial,⟨rfl,.refl _,rfl⟩,trivial⟩ rfl hi)
    ·refine e' rfl ?_
     refine C0.step rfl (j0:=1) (js:=[3]) (by kernel_rfl) ⟨⟨_,rfl,?_⟩,⟨_,rfl,?_⟩,trivial⟩
     ·refine e' rfl ?_
      refine C0.step rfl (j0:=3) (js:=[]) (by kernel_rfl) ⟨⟨_,rfl,?_⟩,trivial⟩
      exact gn' [0] (ih4 _ _ hx3) rfl rfl rfl rfl rfl (fun hi=>peW ⟨trivial,⟨rfl,.refl _,rfl⟩,trivial⟩ rfl hi)
     ·exact gn' [0] (ih4 _ _ hx3) rfl rfl rfl rfl rfl (fun hi=>peW ⟨trivial,⟨rfl,.refl _,rfl⟩,trivial⟩ rfl hi)
   ·refine e' rfl ?_
    refine C0.step rfl (j0:=0) (js:=[2]) (by kernel_rfl) ⟨⟨_,rfl,?_⟩,⟨_,rfl,?_⟩,trivial⟩
    ·refine e' rfl ?_
     refine C0.step rfl (j0:=2) (js:=[]) (by kernel_rfl) ⟨⟨_,rfl,?_⟩,trivial⟩
     refine e' rfl ?_
     refine C0.step rfl (j0:=3) (js:=[]) (by kernel_rfl) ⟨⟨_,rfl,?_⟩,trivial⟩
     exact gn' [0] (ih4 _ _ hx3) rfl rfl rfl rfl rfl (fun hi=>peW ⟨trivial,⟨rfl,.refl _,rfl⟩,trivial⟩ rfl hi)
    ·refine e' rfl ?_
     refine C0.step rfl (j0:=0) (js:=[3]) (by kernel_rfl) ⟨⟨_,rfl,?_⟩,⟨_,rfl,?_⟩,trivial⟩
     ·refine e' rfl ?_
      refine C0.step rfl (j0:=3) (js:=[]) (by kernel_rfl) ⟨⟨_,rfl,?_⟩,trivial⟩
      exact gn' [0] (ih4 _ _ hx3) rfl rfl rfl rfl rfl (fun hi=>peW ⟨trivial,⟨rfl,.refl _,rfl⟩,trivial⟩ rfl hi)
     ·exact gn' [0] (ih4 _ _ hx3) rfl rfl rfl rfl rfl (fun hi=>peW ⟨trivial,⟨rfl,.refl _,rfl⟩,trivial⟩ rfl hi)
   ·refine e' rfl ?_
    refine C0.step rfl (j0:=0) (js:=[1,3]) (by kernel_rfl) ⟨⟨_,rfl,?_⟩,⟨_,rfl,?_⟩,⟨_,rfl,?_⟩,trivial⟩
    ·refine e' rfl ?_
     refine C0.step rfl (j0:=1) (js:=[3]) (by kernel_rfl) ⟨⟨_,rfl,?_⟩,⟨_,rfl,?_⟩,trivial⟩
     ·refine e' rfl ?_
      refine C0.step rfl (j0:=3) (js:=[]) (by kernel_rfl) ⟨⟨_,rfl,?_⟩,trivial⟩
      exact gn' [0] (ih4 _ _ hx3) rfl rfl rfl rfl rfl (fun hi=>peW ⟨trivial,⟨rfl,.refl _,rfl⟩,trivial⟩ rfl hi)
     ·exact gn' [0] (ih4 _ _ hx3) rfl rfl rfl rfl rfl (fun hi=>peW ⟨trivial,⟨rfl,.refl _,rfl⟩,trivial⟩ rfl hi)
    ·refine e' rfl ?_
     refine C0.step rfl (j0:=0) (js:=[3]) (by kernel_rfl) ⟨⟨_,rfl,?_⟩,⟨_,rfl,?_⟩,trivial⟩
     ·refine e' rfl ?_
      refine C0.step rfl (j0:=3) (js:=[]) (by kernel_rfl) ⟨⟨_,rfl,?_⟩,trivial⟩
      exact gn' [0] (ih4 _ _ hx3) rfl rfl rfl rfl rfl (fun hi=>peW ⟨trivial,⟨rfl,.refl _,rfl⟩,trivial⟩ rfl hi)
     ·exact gn' [0] (ih4 _ _ hx3) rfl rfl rfl rfl rfl (fun hi=>peW ⟨trivial,⟨rfl,.refl _,rfl⟩,trivial⟩ rfl hi)
    ·exact gn' [0] (ih4 _ _ hx3) rfl rfl rfl rfl rfl (fun hi=>peW ⟨trivial,⟨rfl,.refl _,rfl⟩,trivial⟩ rfl hi)
  refine AEx.drawE hC ?_
  refine C0.step rfl (j0:=0) (js:=[1,2]) (by kernel_rfl) ⟨⟨_,rfl,?_⟩,⟨_,rfl,?_⟩,⟨_,rfl,?_⟩,trivial⟩
  ·refine e' rfl ?_
   refine C0.step rfl (j0:=1) (js:=[2]) (by kernel_rfl) ⟨⟨_,rfl,?_⟩,⟨_,rfl,?_⟩,trivial⟩
   ·refine e' rfl ?_
    refine C0.step rfl (j0:=2) (js:=[]) (by kernel_rfl) ⟨⟨_,rfl,?_⟩,trivial⟩
    refine e' rfl ?_
    refine C0.step rfl (j0:=3) (js:=[]) (by kernel_rfl) ⟨⟨_,rfl,?_⟩,trivial⟩
    refine g' [0] ((ih4 _ _ hx3).ok) rfl rfl rfl rfl rfl rfl (n' ?_)
    refine C0.step rfl (j0:=4) (js:=[]) (by kernel_rfl) ⟨⟨_,rfl,?_⟩,trivial⟩
    refine F0.be hC rfl (A0.rows_map [o3,x3.1]).symm (n' ?_)
    refine C0.step rfl (j0:=5) (js:=[]) (by kernel_rfl) ⟨⟨_,rfl,?_⟩,trivial⟩
    refine e' rfl ?_
    refine C0.step rfl (j0:=6) (js:=[]) (by kernel_rfl) ⟨⟨_,rfl,?_⟩,trivial⟩
    refine F0.s hC rfl (n' (C0.nil (by kernel_rfl) ?_))
    refine A1.wk ?_ (ih3 _ _ _ hh)
    exact ⟨⟨⟨.rfl,rfl⟩,⟨.rfl,rfl⟩,⟨.rfl,rfl⟩,⟨.rfl,rfl⟩,trivial⟩,⟨⟨rfl,.refl _,rfl⟩,⟨rfl,.refl _,rfl⟩,⟨rfl,.refl _,rfl⟩,⟨rfl,⟨.rfl,.rfl,.rfl,.full,trivial⟩,rfl⟩,trivial⟩,rfl⟩
   ·refine e' rfl ?_
    refine C0.step rfl (j0:=1) (js:=[3]) (by kernel_rfl) ⟨⟨_,rfl,?_⟩,⟨_,rfl,?_⟩,trivial⟩
    ·refine e' rfl ?_
     refine C0.step rfl (j0:=3) (js:=[]) (by kernel_rfl) ⟨⟨_,rfl,?_⟩,trivial⟩
     refine g' [0] ((ih4 _ _ hx3).ok) rfl rfl rfl rfl rfl rfl (n' ?_)
     refine C0.step rfl (j0:=4) (js:=[]) (by kernel_rfl) ⟨⟨_,rfl,?_⟩,trivial⟩
     refine F0.be hC rfl (A0.rows_map [o3,x3.1]).symm (n' ?_)
     refine C0.step rfl (j0:=5) (js:=[]) (by kernel_rfl) ⟨⟨_,rfl,?_⟩,trivial⟩
     refine e' rfl ?_
     refine C0.step rfl (j0:=6) (js:=[]) (by kernel_rfl) ⟨⟨_,rfl,?_⟩,trivial⟩
     refine F0.s hC rfl (n' (C0.nil (by kernel_rfl) ?_))
     refine A1.wk ?_ (ih3 _ _ _ hh)
     exact ⟨⟨⟨.rfl,rfl⟩,⟨.rfl,rfl⟩,⟨.rfl,rfl⟩,⟨.rfl,rfl⟩,trivial⟩,⟨⟨rfl,.refl _,rfl⟩,⟨rfl,.refl _,rfl⟩,⟨rfl,.refl _,rfl⟩,⟨rfl,⟨.rfl,.rfl,.rfl,.full,trivial⟩,rfl⟩,trivial⟩,rfl⟩
    ·refine g' [0] ((ih4 _ _ hx3).ok) rfl rfl rfl rfl rfl rfl (n' ?_)
     refine C0.step rfl (j0:=1) (js:=[]) (by kernel_rfl) ⟨⟨_,rfl,?_⟩,trivial⟩
     refine e' rfl ?_
     refine C0.step rfl (j0:=4) (js:=[]) (by kernel_rfl) ⟨⟨_,rfl,?_⟩,trivial⟩
     refine F0.be hC rfl (A0.rows_map [o3,x3.1]).symm (n' ?_)
     refine C0.step rfl (j0:=5) (js:=[]) (by kernel_rfl) ⟨⟨_,rfl,?_⟩,trivial⟩
     refine e' rfl ?_
     refine C0.step rfl (j0:=6) (js:=[]) (by kernel_rfl) ⟨⟨_,rfl,?_⟩,trivial⟩
     refine F0.s hC rfl (n' (C0.nil (by kernel_rfl) ?_))
     refine A1.wk ?_ (ih3 _ _ _ hh)
     exact ⟨⟨⟨.rfl,rfl⟩,⟨.rfl,rfl⟩,⟨.rfl,rfl⟩,⟨.rfl,rfl⟩,trivial⟩,⟨⟨rfl,.refl _,rfl⟩,⟨rfl,.refl _,rfl⟩,⟨rfl,.refl _,rfl⟩,⟨rfl,⟨.rfl,.rfl,.rfl,.full,trivial⟩,rfl⟩,trivial⟩,rfl⟩
  ·refine e' rfl ?_
   refine C0.step rfl (j0:=0) (js:=[2]) (by kernel_rfl) ⟨⟨_,rfl,?_⟩,⟨_,rfl,?_⟩,trivial⟩
   ·refine e' rfl ?_
    refine C0.step rfl (j0:=2) (js:=[]) (by kernel_rfl) ⟨⟨_,rfl,?_⟩,trivial⟩
    refine e' rfl ?_
    refine C0.step rfl (j0:=3) (js:=[]) (by kernel_rfl) ⟨⟨_,rfl,?_⟩,trivial⟩
    refine g' [0] ((ih4 _ _ hx3).ok) rfl rfl rfl rfl rfl rfl (n' ?_)
    refine C0.step rfl (j0:=4) (js:=[]) (by kernel_rfl) ⟨⟨_,rfl,?_⟩,trivial⟩
    refine F0.be hC rfl (A0.rows_map [o3,x3.1]).symm (n' ?_)
    refine C0.step rfl (j0:=5) (js:=[]) (by kernel_rfl) ⟨⟨_,rfl,?_⟩,trivial⟩
    refine e' rfl ?_
    refine C0.step rfl (j0:=6) (js:=[]) (by kernel_rfl) ⟨⟨_,rfl,?_⟩,trivial⟩
    refine F0.s hC rfl (n' (C0.nil (by kernel_rfl) ?_))
    refine A1.wk ?_ (ih3 _ _ _ hh)
    exact ⟨⟨⟨.rfl,rfl⟩,⟨.rfl,rfl⟩,⟨.rfl,rfl⟩,⟨.rfl,rfl⟩,trivial⟩,⟨⟨rfl,.refl _,rfl⟩,⟨rfl,.refl _,rfl⟩,⟨rfl,.refl _,rfl⟩,⟨rfl,⟨.rfl,.rfl,.rfl,.full,trivial⟩,rfl⟩,trivial⟩,rfl⟩
   ·refine e' rfl ?_
    refine C0.step rfl (j0:=0) (js:=[3]) (by kernel_rfl) ⟨⟨_,rfl,?_⟩,⟨_,rfl,?_⟩,trivial⟩
    ·refine e' rfl ?_
     refine C0.step rfl (j0:=3) (js:=[]) (by kernel_rfl) ⟨⟨_,rfl,?_⟩,trivial⟩
     refine g' [0] ((ih4 _ _ hx3).ok) rfl rfl rfl rfl rfl rfl (n' ?_)
     refine C0.step rfl (j0:=4) (js:=[]) (by kernel_rfl) ⟨⟨_,rfl,?_⟩,trivial⟩
     refine F0.be hC rfl (A0.rows_map [o3,x3.1]).symm (n' ?_)
     refine C0.step rfl (j0:=5) (js:=[]) (by kernel_rfl) ⟨⟨_,rfl,?_⟩,trivial⟩
     refine e' rfl ?_
     refine C0.step rfl (j0:=6) (js:=[]) (by kernel_rfl) ⟨⟨_,rfl,?_⟩,trivial⟩
     refine F0.s hC rfl (n' (C0.nil (by kernel_rfl) ?_))
     refine A1.wk ?_ (ih3 _ _ _ hh)
     exact ⟨⟨⟨.rfl,rfl⟩,⟨.rfl,rfl⟩,⟨.rfl,rfl⟩,⟨.rfl,rfl⟩,trivial⟩,⟨⟨rfl,.refl _,rfl⟩,⟨rfl,.refl _,rfl⟩,⟨rfl,.refl _,rfl⟩,⟨rfl,⟨.rfl,.rfl,.rfl,.full,trivial⟩,rfl⟩,trivial⟩,rfl⟩
    ·refine g' [0] ((ih4 _ _ hx3).ok) rfl rfl rfl rfl rfl rfl (n' ?_)
     refine C0.step rfl (j0:=0) (js:=[4]) (by kernel_rfl) ⟨⟨_,rfl,?_⟩,⟨_,rfl,?_⟩,trivial⟩
     ·refine e' rfl ?_
      refine C0.step rfl (j0:=4) (js:=[]) (by kernel_rfl) ⟨⟨_,rfl,?_⟩,trivial⟩
      refine F0.be hC rfl (A0.rows_map [o3,x3.1]).symm (n' ?_)
      refine C0.step rfl (j0:=5) (js:=[]) (by kernel_rfl) ⟨⟨_,rfl,?_⟩,trivial⟩
      refine e' rfl ?_
      refine C0.step rfl (j0:=6) (js:=[]) (by kernel_rfl) ⟨⟨_,rfl,?_⟩,trivial⟩
      refine F0.s hC rfl (n' (C0.nil (by kernel_rfl) ?_))
      refine A1.wk ?_ (ih3 _ _ _ hh)
      exact ⟨⟨⟨.rfl,rfl⟩,⟨.rfl,rfl⟩,⟨.rfl,rfl⟩,⟨.rfl,rfl⟩,trivial⟩,⟨⟨rfl,.refl _,rfl⟩,⟨rfl,.refl _,rfl⟩,⟨rfl,.refl _,rfl⟩,⟨rfl,⟨.rfl,.rfl,.rfl,.full,trivial⟩,rfl⟩,trivial⟩,rfl⟩
     ·refine F0.be hC rfl (A0.rows_map [o3,x3.1]).symm (n' ?_)
      refine C0.step rfl (j0:=0) (js:=[]) (by kernel_rfl) ⟨⟨_,rfl,?_⟩,trivial⟩
      refine e' rfl ?_
      refine C0.step rfl (j0:=5) (js:=[]) (by kernel_rfl) ⟨⟨_,rfl,?_⟩,trivial⟩
      refine e' rfl ?_
      refine C0.step rfl (j0:=6) (js:=[]) (by kernel_rfl) ⟨⟨_,rfl,?_⟩,trivial⟩
      refine F0.s hC rfl (n' (C0.nil (by kernel_rfl) ?_))
      refine A1.wk ?_ (ih3 _ _ _ hh)
      exact ⟨⟨⟨.rfl,rfl⟩,⟨.rfl,rfl⟩,⟨.rfl,rfl⟩,⟨.rfl,rfl⟩,trivial⟩,⟨⟨rfl,.refl _,rfl⟩,⟨rfl,.refl _,rfl⟩,⟨rfl,.refl _,rfl⟩,⟨rfl,⟨.rfl,.rfl,.rfl,.full,trivial⟩,rfl⟩,trivial⟩,rfl⟩
  ·refine e' rfl ?_
   refine C0.step rfl (j0:=0) (js:=[1,3]) (by kernel_rfl) ⟨⟨_,rfl,?_⟩,⟨_,rfl,?_⟩,⟨_,rfl,?_⟩,trivial⟩
   ·refine e' rfl ?_
    refine C0.step rfl (j0:=1) (js:=[3]) (by kernel_rfl) ⟨⟨_,rfl,?_⟩,⟨_,rfl,?_⟩,trivial⟩
    ·refine e' rfl ?_
     refine C0.step rfl (j0:=3) (js:=[]) (by kernel_rfl) ⟨⟨_,rfl,?_⟩,trivial⟩
     refine g' [0] ((ih4 _ _ hx3).ok) rfl rfl rfl rfl rfl rfl (n' ?_)
     refine C0.step rfl (j0:=4) (js:=[]) (by kernel_rfl) ⟨⟨_,rfl,?_⟩,trivial⟩
     refine F0.be hC rfl (A0.rows_map [o3,x3.1]).symm (n' ?_)
     refine C0.step rfl (j0:=5) (js:=[]) (by kernel_rfl) ⟨⟨_,rfl,?_⟩,trivial⟩
     refine e' rfl ?_
     refine C0.step rfl (j0:=6) (js:=[]) (by kernel_rfl) ⟨⟨_,rfl,?_⟩,trivial⟩
     refine F0.s hC rfl (n' (C0.nil (by kernel_rfl) ?_))
     refine A1.wk ?_ (ih3 _ _ _ hh)
     exact ⟨⟨⟨.rfl,rfl⟩,⟨.rfl,rfl⟩,⟨.rfl,rfl⟩,⟨.rfl,rfl⟩,trivial⟩,⟨⟨rfl,.refl _,rfl⟩,⟨rfl,.refl _,rfl⟩,⟨rfl,.refl _,rfl⟩,⟨rfl,⟨.rfl,.rfl,.rfl,.full,trivial⟩,rfl⟩,trivial⟩,rfl⟩
    ·refine g' [0] ((ih4 _ _ hx3).ok) rfl rfl rfl rfl rfl rfl (n' ?_)
     refine C0.step rfl (j0:=1) (js:=[]) (by kernel_rfl) ⟨⟨_,rfl,?_⟩,trivial⟩
     refine e' rfl ?_
     refine C0.step rfl (j0:=4) (js:=[]) (by kernel_rfl) ⟨⟨_,rfl,?_⟩,trivial⟩
     refine F0.be hC rfl (A0.rows_map [o3,x3.1]).symm (n' ?_)
     refine C0.step rfl (j0:=5) (js:=[]) (by kernel_rfl) ⟨⟨_,rfl,?_⟩,trivial⟩
     refine e' rfl ?_
     refine C0.step rfl (j0:=6) (js:=[]) (by kernel_rfl) ⟨⟨_,rfl,?_⟩,trivial⟩
     refine F0.s hC rfl (n' (C0.nil (by kernel_rfl) ?_))
     refine A1.wk ?_ (ih3 _ _ _ hh)
     exact ⟨⟨⟨.rfl,rfl⟩,⟨.rfl,rfl⟩,⟨.rfl,rfl⟩,⟨.rfl,rfl⟩,trivial⟩,⟨⟨rfl,.refl _,rfl⟩,⟨rfl,.refl _,rfl⟩,⟨rfl,.refl _,rfl⟩,⟨rfl,⟨.rfl,.rfl,.rfl,.full,trivial⟩,rfl⟩,trivial⟩,rfl⟩
   ·refine e' rfl ?_
    refine C0.step rfl (j0:=0) (js:=[3]) (by kernel_rfl) ⟨⟨_,rfl,?_⟩,⟨_,rfl,?_⟩,trivial⟩
    ·refine e' rfl ?_
     refine C0.step rfl (j0:=3) (js:=[]) (by kernel_rfl) ⟨⟨_,rfl,?_⟩,trivial⟩
     refine g' [0] ((ih4 _ _ hx3).ok) rfl rfl rfl rfl rfl rfl (n' ?_)
     refine C0.step rfl (j0:=4) (js:=[]) (by kernel_rfl) ⟨⟨_,rfl,?_⟩,trivial⟩
     refine F0.be hC rfl (A0.rows_map [o3,x3.1]).symm (n' ?_)
     refine C0.step rfl (j0:=5) (js:=[]) (by kernel_rfl) ⟨⟨_,rfl,?_⟩,trivial⟩
     refine e' rfl ?_
     refine C0.step rfl (j0:=6) (js:=[]) (by kernel_rfl) ⟨⟨_,rfl,?_⟩,trivial⟩
     refine F0.s hC rfl (n' (C0.nil (by kernel_rfl) ?_))
     refine A1.wk ?_ (ih3 _ _ _ hh)
     exact ⟨⟨⟨.rfl,rfl⟩,⟨.rfl,rfl⟩,⟨.rfl,rfl⟩,⟨.rfl,rfl⟩,trivial⟩,⟨⟨rfl,.refl _,rfl⟩,⟨rfl,.refl _,rfl⟩,⟨rfl,.refl _,rfl⟩,⟨rfl,⟨.rfl,.rfl,.rfl,.full,trivial⟩,rfl⟩,trivial⟩,rfl⟩
    ·refine g' [0] ((ih4 _ _ hx3).ok) rfl rfl rfl rfl rfl rfl (n' ?_)
     refine C0.step rfl (j0:=0) (js:=[4]) (by kernel_rfl) ⟨⟨_,rfl,?_⟩,⟨_,rfl,?_⟩,trivial⟩
     ·refine e' rfl ?_
      refine C0.step rfl (j0:=4) (js:=[]) (by kernel_rfl) ⟨⟨_,rfl,?_⟩,trivial⟩
      refine F0.be hC rfl (A0.rows_map [o3,x3.1]).symm (n' ?_)
      refine C0.step rfl (j0:=5) (js:=[]) (by kernel_rfl) ⟨⟨_,rfl,?_⟩,trivial⟩
      refine e' rfl ?_
      refine C0.step rfl (j0:=6) (js:=[]) (by kernel_rfl) ⟨⟨_,rfl,?_⟩,trivial⟩
      refine F0.s hC rfl (n' (C0.nil (by kernel_rfl) ?_))
      refine A1.wk ?_ (ih3 _ _ _ hh)
      exact ⟨⟨⟨.rfl,rfl⟩,⟨.rfl,rfl⟩,⟨.rfl,rfl⟩,⟨.rfl,rfl⟩,trivial⟩,⟨⟨rfl,.refl _,rfl⟩,⟨rfl,.refl _,rfl⟩,⟨rfl,.refl _,rfl⟩,⟨rfl,⟨.rfl,.rfl,.rfl,.full,trivial⟩,rfl⟩,trivial⟩,rfl⟩
     ·refine F0.be hC rfl (A0.rows_map [o3,x3.1]).symm (n' ?_)
      refine C0.step rfl (j0:=0) (js:=[]) (by kernel_rfl) ⟨⟨_,rfl,?_⟩,trivial⟩
      refine e' rfl ?_
      refine C0.step rfl (j0:=5) (js:=[]) (by kernel_rfl) ⟨⟨_,rfl,?_⟩,trivial⟩
      refine e' rfl ?_
      refine C0.step rfl (j0:=6) (js:=[]) (by kernel_rfl) ⟨⟨_,rfl,?_⟩,trivial⟩
      refine F0.s hC rfl (n' (C0.nil (by kernel_rfl) ?_))
      refine A1.wk ?_ (ih3 _ _ _ hh)
      exact ⟨⟨⟨.rfl,rfl⟩,⟨.rfl,rfl⟩,⟨.rfl,rfl⟩,⟨.rfl,rfl⟩,trivial⟩,⟨⟨rfl,.refl _,rfl⟩,⟨rfl,.refl _,rfl⟩,⟨rfl,.refl _,rfl⟩,⟨rfl,⟨.rfl,.rfl,.rfl,.full,trivial⟩,rfl⟩,trivial⟩,rfl⟩
   ·refine g' [0] ((ih4 _ _ hx3).ok) rfl rfl rfl rfl rfl rfl (n' ?_)
    refine C0.step rfl (j0:=0) (js:=[1]) (by kernel_rfl) ⟨⟨_,rfl,?_⟩,⟨_,rfl,?_⟩,trivial⟩
    ·refine e' rfl ?_
     refine C0.step rfl (j0:=1) (js:=[]) (by kernel_rfl) ⟨⟨_,rfl,?_⟩,trivial⟩
     refine e' rfl ?_
     refine C0.step rfl (j0:=4) (js:=[]) (by kernel_rfl) ⟨⟨_,rfl,?_⟩,trivial⟩
     refine F0.be hC rfl (A0.rows_map [o3,x3.1]).symm (n' ?_)
     refine C0.step rfl (j0:=5) (js:=[]) (by kernel_rfl) ⟨⟨_,rfl,?_⟩,trivial⟩
     refine e' rfl ?_
     refine C0.step rfl (j0:=6) (js:=[]) (by kernel_rfl) ⟨⟨_,rfl,?_⟩,trivial⟩
     refine F0.s hC rfl (n' (C0.nil (by kernel_rfl) ?_))
     refine A1.wk ?_ (ih3 _ _ _ hh)
     exact ⟨⟨⟨.rfl,rfl⟩,⟨.rfl,rfl⟩,⟨.rfl,rfl⟩,⟨.rfl,rfl⟩,trivial⟩,⟨⟨rfl,.refl _,rfl⟩,⟨rfl,.refl _,rfl⟩,⟨rfl,.refl _,rfl⟩,⟨rfl,⟨.rfl,.rfl,.rfl,.full,trivial⟩,rfl⟩,trivial⟩,rfl⟩
    ·refine e' rfl ?_
     refine C0.step rfl (j0:=0) (js:=[4]) (by kernel_rfl) ⟨⟨_,rfl,?_⟩,⟨_,rfl,?_⟩,trivial⟩
     ·refine e' rfl ?_
      refine C0.step rfl (j0:=4) (js:=[]) (by kernel_rfl) ⟨⟨_,rfl,?_⟩,trivial⟩
      refine F0.be hC rfl (A0.rows_map [o3,x3.1]).symm (n' ?_)
      refine C0.step rfl (j0:=5) (js:=[]) (by kernel_rfl) ⟨⟨_,rfl,?_⟩,trivial⟩
      refine e' rfl ?_
      refine C0.step rfl (j0:=6) (js:=[]) (by kernel_rfl) ⟨⟨_,rfl,?_⟩,trivial⟩
      refine F0.s hC rfl (n' (C0.nil (by kernel_rfl) ?_))
      refine A1.wk ?_ (ih3 _ _ _ hh)
      exact ⟨⟨⟨.rfl,rfl⟩,⟨.rfl,rfl⟩,⟨.rfl,rfl⟩,⟨.rfl,rfl⟩,trivial⟩,⟨⟨rfl,.refl _,rfl⟩,⟨rfl,.refl _,rfl⟩,⟨rfl,.refl _,rfl⟩,⟨rfl,⟨.rfl,.rfl,.rfl,.full,trivial⟩,rfl⟩,trivial⟩,rfl⟩
     ·refine F0.be hC rfl (A0.rows_map [o3,x3.1]).symm (n' ?_)
      refine C0.step rfl (j0:=0) (js:=[]) (by kernel_rfl) ⟨⟨_,rfl,?_⟩,trivial⟩
      refine e' rfl ?_
      refine C0.step rfl (j0:=5) (js:=[]) (by kernel_rfl) ⟨⟨_,rfl,?_⟩,trivial⟩
      refine e' rfl ?_
      refine C0.step rfl (j0:=6) (js:=[]) (by kernel_rfl) ⟨⟨_,rfl,?_⟩,trivial⟩
      refine F0.s hC rfl (n' (C0.nil (by kernel_rfl) ?_))
      refine A1.wk ?_ (ih3 _ _ _ hh)
      exact ⟨⟨⟨.rfl,rfl⟩,⟨.rfl,rfl⟩,⟨.rfl,rfl⟩,⟨.rfl,rfl⟩,trivial⟩,⟨⟨rfl,.refl _,rfl⟩,⟨rfl,.refl _,rfl⟩,⟨rfl,.refl _,rfl⟩,⟨rfl,⟨.rfl,.rfl,.rfl,.full,trivial⟩,rfl⟩,trivial⟩,rfl⟩
 ·intro g5 ih5 parserParser res hh
  refine C2.intro hC Tryz.func111 rfl rfl rfl (s' rfl rfl (F0.n hC rfl (F0.nf hC rfl (n' (p' 4 rfl ?_)))))
  rcases bp' hh with ⟨nn,hx1,⟨⟩⟩ | ⟨x1,hx1,hh⟩
  ·exact gn' [0,1] (ih5 _ _ hx1) rfl rfl rfl rfl rfl (fun hi=>peW ⟨trivial,trivial⟩ rfl hi)
  cases hh
  exact g' [0,1] ((ih5 _ _ hx1).ok) rfl rfl rfl rfl rfl rfl (F0.s hC rfl (n' (re' (rt' rfl rfl rfl))))
 ·intro g6 g7 ih6 ih7 parserParser res hh
  refine C2.intro hC Tryz.func110 rfl rfl rfl (s' rfl rfl (F0.nf hC rfl (n' (p' 1 rfl ?_))))
  rcases bp' hh with ⟨nn,hx1,⟨⟩⟩ | ⟨x1,hx1,hh⟩
  ·exact gn' [0] (ih7 _ _ hx1) rfl rfl rfl rfl rfl (fun hi=>peW ⟨trivial,⟨rfl,.refl _,rfl⟩,trivial⟩ rfl hi)
  exact g' [0] ((ih7 _ _ hx1).ok) rfl rfl rfl rfl rfl rfl (F0.nf hC rfl (F0.s hC rfl (n' (bk' (fw' (ih6 _ _ _ hh) rfl rfl rfl)))))
 ·intro g6 g7 ih6 ih7 o0 o3 res hh
  obtain ⟨x2,hx2,hh⟩:=bs' hh
  refine A1.unroll (bk' (p' 1 rfl (g' [1,0] (Xt hx2) rfl rfl rfl rfl rfl rfl (e' rfl (S' (t' rfl (ci' rfl hh (fun hh=>?_) (fun hh=>?_))))))))
  ·cases hh
   exact p' 1 rfl (F0.s hC rfl (n' (re' (rt' rfl rfl rfl))))
  refine sk' ?_
  rcases bp' hh with ⟨nn,hx3,⟨⟩⟩ | ⟨x3,hx3,hh⟩
  ·refine AEx.drawE hC ?_
   refine C0.step rfl (j0:=0) (js:=[1,2]) (by kernel_rfl) ⟨⟨_,rfl,?_⟩,⟨_,rfl,?_⟩,⟨_,rfl,?_⟩,trivial⟩
   ·refine e' rfl ?_
    refine C0.step rfl (j0:=1) (js:=[2]) (by kernel_rfl) ⟨⟨_,rfl,?_⟩,⟨_,rfl,?_⟩,trivial⟩
    ·refine e' rfl ?_
     refine C0.step rfl (j0:=2) (js:=[]) (by kernel_rfl) ⟨⟨_,rfl,?_⟩,trivial⟩
     refine e' rfl ?_
     refine C0.step rfl (j0:=3) (js:=[]) (by kernel_rfl) ⟨⟨_,rfl,?_⟩,trivial⟩
     exact gn' [0] (ih7 _ _ hx3) rfl rfl rfl rfl rfl (fun hi=>peW ⟨trivial,⟨rfl,.refl _,rfl⟩,trivial⟩ rfl hi)
    ·refine e' rfl ?_
     refine C0.step rfl (j0:=1) (js:=[3]) (by kernel_rfl) ⟨⟨_,rfl,?_⟩,⟨_,rfl,?_⟩,trivial⟩
     ·refine e' rfl ?_
      refine C0.step rfl (j0:=3) (js:=[]) (by kernel_rfl) ⟨⟨_,rfl,?_⟩,trivial⟩
      exact gn' [0] (ih7 _ _ hx3) rfl rfl rfl rfl rfl (fun hi=>peW ⟨trivial,⟨rfl,.refl _,rfl⟩,trivial⟩ rfl hi)
     ·exact gn' [0] (ih7 _ _ hx3) rfl rfl rfl rfl rfl (fun hi=>peW ⟨trivial,⟨rfl,.refl _,rfl⟩,trivial⟩ rfl hi)
   ·refine e' rfl ?_
    refine C0.step rfl (j0:=0) (js:=[2]) (by kernel_rfl) ⟨⟨_,rfl,?_⟩,⟨_,rfl,?_⟩,trivial⟩
    ·refine e' rfl ?_
     refine C0.step rfl (j0:=2) (js:=[]) (by kernel_rfl) ⟨⟨_,rfl,?_⟩,trivial⟩
     refine e' rfl ?_
     refine C0.step rfl (j0:=3) (js:=[]) (by kernel_rfl) ⟨⟨_,rfl,?_⟩,trivial⟩
     exact gn' [0] (ih7 _ _ hx3) rfl rfl rfl rfl rfl (fun hi=>peW ⟨trivial,⟨rfl,.refl _,rfl⟩,trivial⟩ rfl hi)
    ·refine e' rfl ?_
     refine C0.step rfl (j0:=0) (js:=[3]) (by kernel_rfl) ⟨⟨_,rfl,?_⟩,⟨_,rfl,?_⟩,trivial⟩
     ·refine e' rfl ?_
      refine C0.step rfl (j0:=3) (js:=[]) (by kernel_rfl) ⟨⟨_,rfl,?_⟩,trivial⟩
      exact gn' [0] (ih7 _ _ hx3) rfl rfl rfl rfl rfl (fun hi=>peW ⟨trivial,⟨rfl,.refl _,rfl⟩,trivial⟩ rfl hi)
     ·exact gn' [0] (ih7 _ _ hx3) rfl rfl rfl rfl rfl (fun hi=>peW ⟨trivial,⟨rfl,.refl _,rfl⟩,trivial⟩ rfl hi)
   ·refine e' rfl ?_
    refine C0.step rfl (j0:=0) (js:=[1,3]) (by kernel_rfl) ⟨⟨_,rfl,?_⟩,⟨_,rfl,?_⟩,⟨_,rfl,?_⟩,trivial⟩
    ·refine e' rfl ?_
     refine C0.step rfl (j0:=1) (js:=[3]) (by kernel_rfl) ⟨⟨_,rfl,?_⟩,⟨_,rfl,?_⟩,trivial⟩
     ·refine e' rfl ?_
      refine C0.step rfl (j0:=3) (js:=[]) (by kernel_rfl) ⟨⟨_,rfl,?_⟩,trivial⟩
      exact gn' [0] (ih7 _ _ hx3) rfl rfl rfl rfl rfl (fun hi=>peW ⟨trivial,⟨rfl,.refl _,rfl⟩,trivial⟩ rfl hi)
     ·exact gn' [0] (ih7 _ _ hx3) rfl rfl rfl rfl rfl (fun hi=>peW ⟨trivial,⟨rfl,.refl _,rfl⟩,trivial⟩ rfl hi)
    ·refine e' rfl ?_
     refine C0.step rfl (j0:=0) (js:=[3]) (by kernel_rfl) ⟨⟨_,rfl,?_⟩,⟨_,rfl,?_⟩,trivial⟩
     ·refine e' rfl ?_
      refine C0.step rfl (j0:=3) (js:=[]) (by kernel_rfl) ⟨⟨_,rfl,?_⟩,trivial⟩
      exact gn' [0] (ih7 _ _ hx3) rfl rfl rfl rfl rfl (fun hi=>peW ⟨trivial,⟨rfl,.refl _,rfl⟩,trivial⟩ rfl hi)
     ·exact gn' [0] (ih7 _ _ hx3) rfl rfl rfl rfl rfl (fun hi=>peW ⟨trivial,⟨rfl,.refl _,rfl⟩,trivial⟩ rfl hi)
    ·exact gn' [0] (ih7 _ _ hx3) rfl rfl rfl rfl rfl (fun hi=>peW ⟨trivial,⟨rfl,.refl _,rfl⟩,trivial⟩ rfl hi)
  refine AEx.drawE hC ?_
  refine C0.step rfl (j0:=0) (js:=[1,2]) (by kernel_rfl) ⟨⟨_,rfl,?_⟩,⟨_,rfl,?_⟩,⟨_,rfl,?_⟩,trivial⟩
  ·refine e' rfl ?_
   refine C0.step rfl (j0:=1) (js:=[2]) (by kernel_rfl) ⟨⟨_,rfl,?_⟩,⟨_,rfl,?_⟩,trivial⟩
   ·refine e' rfl ?_
    refine C0.step rfl (j0:=2) (js:=[]) (by kernel_rfl) ⟨⟨_,rfl,?_⟩,trivial⟩
    refine e' rfl ?_
    refine C0.step rfl (j0:=3) (js:=[]) (by kernel_rfl) ⟨⟨_,rfl,?_⟩,trivial⟩
    refine g' [0] ((ih7 _ _ hx3).ok) rfl rfl rfl rfl rfl rfl (n' ?_)
    refine C0.step rfl (j0:=4) (js:=[]) (by kernel_rfl) ⟨⟨_,rfl,?_⟩,trivial⟩
    refine F0.be hC rfl (A0.rows_map [o3,x3.1]).symm (n' ?_)
    refine C0.step rfl (j0:=5) (js:=[]) (by kernel_rfl) ⟨⟨_,rfl,?_⟩,trivial⟩
    refine e' rfl ?_
    refine C0.step rfl (j0:=6) (js:=[]) (by kernel_rfl) ⟨⟨_,rfl,?_⟩,trivial⟩
    refine F0.s hC rfl (n' (C0.nil (by kernel_rfl) ?_))
    refine A1.wk ?_ (ih6 _ _ _ hh)
    exact ⟨⟨⟨.rfl,rfl⟩,⟨.rfl,rfl⟩,⟨.rfl,rfl⟩,⟨.rfl,rfl⟩,trivial⟩,⟨⟨rfl,.refl _,rfl⟩,⟨rfl,.refl _,rfl⟩,⟨rfl,.refl _,rfl⟩,⟨rfl,⟨.rfl,.rfl,.rfl,.full,trivial⟩,rfl⟩,trivial⟩,rfl⟩
   ·refine e' rfl ?_
    refine C0.step rfl (j0:=1) (js:=[3]) (by kernel_rfl) ⟨⟨_,rfl,?_⟩,⟨_,rfl,?_⟩,trivial⟩
    ·refine e' rfl ?_
     refine C0.step rfl (j0:=3) (js:=[]) (by kernel_rfl) ⟨⟨_,rfl,?_⟩,trivial⟩
     refine g' [0] ((ih7 _ _ hx3).ok) rfl rfl rfl rfl rfl rfl (n' ?_)
     refine C0.step rfl (j0:=4) (js:=[]) (by kernel_rfl) ⟨⟨_,rfl,?_⟩,trivial⟩
     refine F0.be hC rfl (A0.rows_map [o3,x3.1]).symm (n' ?_)
     refine C0.step rfl (j0:=5) (js:=[]) (by kernel_rfl) ⟨⟨_,rfl,?_⟩,trivial⟩
     refine e' rfl ?_
     refine C0.step rfl (j0:=6) (js:=[]) (by kernel_rfl) ⟨⟨_,rfl,?_⟩,trivial⟩
     refine F0.s hC rfl (n' (C0.nil (by kernel_rfl) ?_))
     refine A1.wk ?_ (ih6 _ _ _ hh)
     exact ⟨⟨⟨.rfl,rfl⟩,⟨.rfl,rfl⟩,⟨.rfl,rfl⟩,⟨.rfl,rfl⟩,trivial⟩,⟨⟨rfl,.refl _,rfl⟩,⟨rfl,.refl _,rfl⟩,⟨rfl,.refl _,rfl⟩,⟨rfl,⟨.rfl,.rfl,.rfl,.full,trivial⟩,rfl⟩,trivial⟩,rfl⟩
    ·refine g' [0] ((ih7 _ _ hx3).ok) rfl rfl rfl rfl rfl rfl (n' ?_)
     refine C0.step rfl (j0:=1) (js:=[]) (by kernel_rfl) ⟨⟨_,rfl,?_⟩,trivial⟩
     refine e' rfl ?_
     refine C0.step rfl (j0:=4) (js:=[]) (by kernel_rfl) ⟨⟨_,rfl,?_⟩,trivial⟩
     refine F0.be hC rfl (A0.rows_map [o3,x3.1]).symm (n' ?_)
     refine C0.step rfl (j0:=5) (js:=[]) (by kernel_rfl) ⟨⟨_,rfl,?_⟩,trivial⟩
     refine e' rfl ?_
     refine C0.step rfl (j0:=6) (js:=[]) (by kernel_rfl) ⟨⟨_,rfl,?_⟩,trivial⟩
     refine F0.s hC rfl (n' (C0.nil (by kernel_rfl) ?_))
     refine A1.wk ?_ (ih6 _ _ _ hh)
     exact ⟨⟨⟨.rfl,rfl⟩,⟨.rfl,rfl⟩,⟨.rfl,rfl⟩,⟨.rfl,rfl⟩,trivial⟩,⟨⟨rfl,.refl _,rfl⟩,⟨rfl,.refl _,rfl⟩,⟨rfl,.refl _,rfl⟩,⟨rfl,⟨.rfl,.rfl,.rfl,.full,trivial⟩,rfl⟩,trivial⟩,rfl⟩
  ·refine e' rfl ?_
   refine C0.step rfl (j0:=0) (js:=[2]) (by kernel_rfl) ⟨⟨_,rfl,?_⟩,⟨_,rfl,?_⟩,trivial⟩
   ·refine e' rfl ?_
    refine C0.step rfl (j0:=2) (js:=[]) (by kernel_rfl) ⟨⟨_,rfl,?_⟩,trivial⟩
    refine e' rfl ?_
    refine C0.step rfl (j0:=3) (js:=[]) (by kernel_rfl) ⟨⟨_,rfl,?_⟩,trivial⟩
    refine g' [0] ((ih7 _ _ hx3).ok) rfl rfl rfl rfl rfl rfl (n' ?_)
    refine C0.step rfl (j0:=4) (js:=[]) (by kernel_rfl) ⟨⟨_,rfl,?_⟩,trivial⟩
    refine F0.be hC rfl (A0.rows_map [o3,x3.1]).symm (n' ?_)
    refine C0.step rfl (j0:=5) (js:=[]) (by kernel_rfl) ⟨⟨_,rfl,?_⟩,trivial⟩
    refine e' rfl ?_
    refine C0.step rfl (j0:=6) (js:=[]) (by kernel_rfl) ⟨⟨_,rfl,?_⟩,trivial⟩
    refine F0.s hC rfl (n' (C0.nil (by kernel_rfl) ?_))
    refine A1.wk ?_ (ih6 _ _ _ hh)
    exact ⟨⟨⟨.rfl,rfl⟩,⟨.rfl,rfl⟩,⟨.rfl,rfl⟩,⟨.rfl,rfl⟩,trivial⟩,⟨⟨rfl,.refl _,rfl⟩,⟨rfl,.refl _,rfl⟩,⟨rfl,.refl _,rfl⟩,⟨rfl,⟨.rfl,.rfl,.rfl,.full,trivial⟩,rfl⟩,trivial⟩,rfl⟩
   ·refine e' rfl ?_
    refine C0.step rfl (j0:=0) (js:=[3]) (by kernel_rfl) ⟨⟨_,rfl,?_⟩,⟨_,rfl,?_⟩,trivial⟩
    ·refine e' rfl ?_
     refine C0.step rfl (j0:=3) (js:=[]) (by kernel_rfl) ⟨⟨_,rfl,?_⟩,trivial⟩
     refine g' [0] ((ih7 _ _ hx3).ok) rfl rfl rfl rfl rfl rfl (n' ?_)
     refine C0.step rfl (j0:=4) (js:=[]) (by kernel_rfl) ⟨⟨_,rfl,?_⟩,trivial⟩
     refine F0.be hC rfl (A0.rows_map [o3,x3.1]).symm (n' ?_)
     refine C0.step rfl (j0:=5) (js:=[]) (by kernel_rfl) ⟨⟨_,rfl,?_⟩,trivial⟩
     refine e' rfl ?_
     refine C0.step rfl (j0:=6) (js:=[]) (by kernel_rfl) ⟨⟨_,rfl,?_⟩,trivial⟩
     refine F0.s hC rfl (n' (C0.nil (by kernel_rfl) ?_))
     refine A1.wk ?_ (ih6 _ _ _ hh)
     exact ⟨⟨⟨.rfl,rfl⟩,⟨.rfl,rfl⟩,⟨.rfl,rfl⟩,⟨.rfl,rfl⟩,trivial⟩,⟨⟨rfl,.refl _,rfl⟩,⟨rfl,.refl _,rfl⟩,⟨rfl,.refl _,rfl⟩,⟨rfl,⟨.rfl,.rfl,.rfl,.full,trivial⟩,rfl⟩,trivial⟩,rfl⟩
    ·refine g' [0] ((ih7 _ _ hx3).ok) rfl rfl rfl rfl rfl rfl (n' ?_)
     refine C0.step rfl (j0:=0) (js:=[4]) (by kernel_rfl) ⟨⟨_,rfl,?_⟩,⟨_,rfl,?_⟩,trivial⟩
     ·refine e' rfl ?_
      refine C0.step rfl (j0:=4) (js:=[]) (by kernel_rfl) ⟨⟨_,rfl,?_⟩,trivial⟩
      refine F0.be hC rfl (A0.rows_map [o3,x3.1]).symm (n' ?_)
      refine C0.step rfl (j0:=5) (js:=[]) (by kernel_rfl) ⟨⟨_,rfl,?_⟩,trivial⟩
      refine e' rfl ?_
      refine C0.step rfl (j0:=6) (js:=[]) (by kernel_rfl) ⟨⟨_,rfl,?_⟩,trivial⟩
      refine F0.s hC rfl (n' (C0.nil (by kernel_rfl) ?_))
      refine A1.wk ?_ (ih6 _ _ _ hh)
      exact ⟨⟨⟨.rfl,rfl⟩,⟨.rfl,rfl⟩,⟨.rfl,rfl⟩,⟨.rfl,rfl⟩,trivial⟩,⟨⟨rfl,.refl _,rfl⟩,⟨rfl,.refl _,rfl⟩,⟨rfl,.refl _,rfl⟩,⟨rfl,⟨.rfl,.rfl,.rfl,.full,trivial⟩,rfl⟩,trivial⟩,rfl⟩
     ·refine F0.be hC rfl (A0.rows_map [o3,x3.1]).symm (n' ?_)
      refine C0.step rfl (j0:=0) (js:=[]) (by kernel_rfl) ⟨⟨_,rfl,?_⟩,trivial⟩
      refine e' rfl ?_
      refine C0.step rfl (j0:=5) (js:=[]) (by kernel_rfl) ⟨⟨_,rfl,?_⟩,trivial⟩
      refine e' rfl ?_
      refine C0.step rfl (j0:=6) (js:=[]) (by kernel_rfl) ⟨⟨_,rfl,?_⟩,trivial⟩
      refine F0.s hC rfl (n' (C0.nil (by kernel_rfl) ?_))
      refine A1.wk ?_ (ih6 _ _ _ hh)
      exact ⟨⟨⟨.rfl,rfl⟩,⟨.rfl,rfl⟩,⟨.rfl,rfl⟩,⟨.rfl,rfl⟩,trivial⟩,⟨⟨rfl,.refl _,rfl⟩,⟨rfl,.refl _,rfl⟩,⟨rfl,.refl _,rfl⟩,⟨rfl,⟨.rfl,.rfl,.rfl,.full,trivial⟩,rfl⟩,trivial⟩,rfl⟩
  ·refine e' rfl ?_
   refine C0.step rfl (j0:=0) (js:=[1,3]) (by kernel_rfl) ⟨⟨_,rfl,?_⟩,⟨_,rfl,?_⟩,⟨_,rfl,?_⟩,trivial⟩
   ·refine e' rfl ?_
    refine C0.step rfl (j0:=1) (js:=[3]) (by kernel_rfl) ⟨⟨_,rfl,?_⟩,⟨_,rfl,?_⟩,trivial⟩
    ·refine e' rfl ?_
     refine C0.step rfl (j0:=3) (js:=[]) (by kernel_rfl) ⟨⟨_,rfl,?_⟩,trivial⟩
     refine g' [0] ((ih7 _ _ hx3).ok) rfl rfl rfl rfl rfl rfl (n' ?_)
     refine C0.step rfl (j0:=4) (js:=[]) (by kernel_rfl) ⟨⟨_,rfl,?_⟩,trivial⟩
     refine F0.be hC rfl (A0.rows_map [o3,x3.1]).symm (n' ?_)
     refine C0.step rfl (j0:=5) (js:=[]) (by kernel_rfl) ⟨⟨_,rfl,?_⟩,trivial⟩
     refine e' rfl ?_
     refine C0.step rfl (j0:=6) (js:=[]) (by kernel_rfl) ⟨⟨_,rfl,?_⟩,trivial⟩
     refine F0.s hC rfl (n' (C0.nil (by kernel_rfl) ?_))
     refine A1.wk ?_ (ih6 _ _ _ hh)
     exact ⟨⟨⟨.rfl,rfl⟩,⟨.rfl,rfl⟩,⟨.rfl,rfl⟩,⟨.rfl,rfl⟩,trivial⟩,⟨⟨rfl,.refl _,rfl⟩,⟨rfl,.refl _,rfl⟩,⟨rfl,.refl _,rfl⟩,⟨rfl,⟨.rfl,.rfl,.rfl,.full,trivial⟩,rfl⟩,trivial⟩,rfl⟩
    ·refine g' [0] ((ih7 _ _ hx3).ok) rfl rfl rfl rfl rfl rfl (n' ?_)
     refine C0.step rfl (j0:=1) (js:=[]) (by kernel_rfl) ⟨⟨_,rfl,?_⟩,trivial⟩
     refine e' rfl ?_
     refine C0.step rfl (j0:=4) (js:=[]) (by kernel_rfl) ⟨⟨_,rfl,?_⟩,trivial⟩
     refine F0.be hC rfl (A0.rows_map [o3,x3.1]).symm (n' ?_)
     refine C0.step rfl (j0:=5) (js:=[]) (by kernel_rfl) ⟨⟨_,rfl,?_⟩,trivial⟩
     refine e' rfl ?_
     refine C0.step rfl (j0:=6) (js:=[]) (by kernel_rfl) ⟨⟨_,rfl,?_⟩,trivial⟩
     refine F0.s hC rfl (n' (C0.nil (by kernel_rfl) ?_))
     refine A1.wk ?_ (ih6 _ _ _ hh)
     exact ⟨⟨⟨.rfl,rfl⟩,⟨.rfl,rfl⟩,⟨.rfl,rfl⟩,⟨.rfl,rfl⟩,trivial⟩,⟨⟨rfl,.refl _,rfl⟩,⟨rfl,.refl _,rfl⟩,⟨rfl,.refl _,rfl⟩,⟨rfl,⟨.rfl,.rfl,.rfl,.full,trivial⟩,rfl⟩,trivial⟩,rfl⟩
   ·refine e' rfl ?_
    refine C0.step rfl (j0:=0) (js:=[3]) (by kernel_rfl) ⟨⟨_,rfl,?_⟩,⟨_,rfl,?_⟩,trivial⟩
    ·refine e' rfl ?_
     refine C0.step rfl (j0:=3) (js:=[]) (by kernel_rfl) ⟨⟨_,rfl,?_⟩,trivial⟩
     refine g' [0] ((ih7 _ _ hx3).ok) rfl rfl rfl rfl rfl rfl (n' ?_)
     refine C0.step rfl (j0:=4) (js:=[]) (by kernel_rfl) ⟨⟨_,rfl,?_⟩,trivial⟩
     refine F0.be hC rfl (A0.rows_map [o3,x3.1]).symm (n' ?_)
     refine C0.step rfl (j0:=5) (js:=[]) (by kernel_rfl) ⟨⟨_,rfl,?_⟩,trivial⟩
     refine e' rfl ?_
     refine C0.step rfl (j0:=6) (js:=[]) (by kernel_rfl) ⟨⟨_,rfl,?_⟩,trivial⟩
     refine F0.s hC rfl (n' (C0.nil (by kernel_rfl) ?_))
     refine A1.wk ?_ (ih6 _ _ _ hh)
     exact ⟨⟨⟨.rfl,rfl⟩,⟨.rfl,rfl⟩,⟨.rfl,rfl⟩,⟨.rfl,rfl⟩,trivial⟩,⟨⟨rfl,.refl _,rfl⟩,⟨rfl,.refl _,rfl⟩,⟨rfl,.refl _,rfl⟩,⟨rfl,⟨.rfl,.rfl,.rfl,.full,trivial⟩,rfl⟩,trivial⟩,rfl⟩
    ·refine g' [0] ((ih7 _ _ hx3).ok) rfl rfl rfl rfl rfl rfl (n' ?_)
     refine C0.step rfl (j0:=0) (js:=[4]) (by kernel_rfl) ⟨⟨_,rfl,?_⟩,⟨_,rfl,?_⟩,trivial⟩
     ·refine e' rfl ?_
      refine C0.step rfl (j0:=4) (js:=[]) (by kernel_rfl) ⟨⟨_,rfl,?_⟩,trivial⟩
      refine F0.be hC rfl (A0.rows_map [o3,x3.1]).symm (n' ?_)
      refine C0.step rfl (j0:=5) (js:=[]) (by kernel_rfl) ⟨⟨_,rfl,?_⟩,trivial⟩
      refine e' rfl ?_
      refine C0.step rfl (j0:=6) (js:=[]) (by kernel_rfl) ⟨⟨_,rfl,?_⟩,trivial⟩
      refine F0.s hC rfl (n' (C0.nil (by kernel_rfl) ?_))
      refine A1.wk ?_ (ih6 _ _ _ hh)
      exact ⟨⟨⟨.rfl,rfl⟩,⟨.rfl,rfl⟩,⟨.rfl,rfl⟩,⟨.rfl,rfl⟩,trivial⟩,⟨⟨rfl,.refl _,rfl⟩,⟨rfl,.refl _,rfl⟩,⟨rfl,.refl _,rfl⟩,⟨rfl,⟨.rfl,.rfl,.rfl,.full,trivial⟩,rfl⟩,trivial⟩,rfl⟩
     ·refine F0.be hC rfl (A0.rows_map [o3,x3.1]).symm (n' ?_)
      refine C0.step rfl (j0:=0) (js:=[]) (by kernel_rfl) ⟨⟨_,rfl,?_⟩,trivial⟩
      refine e' rfl ?_
      refine C0.step rfl (j0:=5) (js:=[]) (by kernel_rfl) ⟨⟨_,rfl,?_⟩,trivial⟩
      refine e' rfl ?_
      refine C0.step rfl (j0:=6) (js:=[]) (by kernel_rfl) ⟨⟨_,rfl,?_⟩,trivial⟩
      refine F0.s hC rfl (n' (C0.nil (by kernel_rfl) ?_))
      refine A1.wk ?_ (ih6 _ _ _ hh)
      exact ⟨⟨⟨.rfl,rfl⟩,⟨.rfl,rfl⟩,⟨.rfl,rfl⟩,⟨.rfl,rfl⟩,trivial⟩,⟨⟨rfl,.refl _,rfl⟩,⟨rfl,.refl _,rfl⟩,⟨rfl,.refl _,rfl⟩,⟨rfl,⟨.rfl,.rfl,.rfl,.full,trivial⟩,rfl⟩,trivial⟩,rfl⟩
   ·refine g' [0] ((ih7 _ _ hx3).ok) rfl rfl rfl rfl rfl rfl (n' ?_)
    refine C0.step rfl (j0:=0) (js:=[1]) (by kernel_rfl) ⟨⟨_,rfl,?_⟩,⟨_,rfl,?_⟩,trivial⟩
    ·refine e' rfl ?_
     refine C0.step rfl (j0:=1) (js:=[]) (by kernel_rfl) ⟨⟨_,rfl,?_⟩,trivial⟩
     refine e' rfl ?_
     refine C0.step rfl (j0:=4) (js:=[]) (by kernel_rfl) ⟨⟨_,rfl,?_⟩,trivial⟩
     refine F0.be hC rfl (A0.rows_map [o3,x3.1]).symm (n' ?_)
     refine C0.step rfl (j0:=5) (js:=[]) (by kernel_rfl) ⟨⟨_,rfl,?_⟩,trivial⟩
     refine e' rfl ?_
     refine C0.step rfl (j0:=6) (js:=[]) (by kernel_rfl) ⟨⟨_,rfl,?_⟩,trivial⟩
     refine F0.s hC rfl (n' (C0.nil (by kernel_rfl) ?_))
     refine A1.wk ?_ (ih6 _ _ _ hh)
     exact ⟨⟨⟨.rfl,rfl⟩,⟨.rfl,rfl⟩,⟨.rfl,rfl⟩,⟨.rfl,rfl⟩,trivial⟩,⟨⟨rfl,.refl _,rfl⟩,⟨rfl,.refl _,rfl⟩,⟨rfl,.refl _,rfl⟩,⟨rfl,⟨.rfl,.rfl,.rfl,.full,trivial⟩,rfl⟩,trivial⟩,rfl⟩
    ·refine e' rfl ?_
     refine C0.step rfl (j0:=0) (js:=[4]) (by kernel_rfl) ⟨⟨_,rfl,?_⟩,⟨_,rfl,?_⟩,trivial⟩
     ·refine e' rfl ?_
      refine C0.step rfl (j0:=4) (js:=[]) (by kernel_rfl) ⟨⟨_,rfl,?_⟩,trivial⟩
      refine F0.be hC rfl (A0.rows_map [o3,x3.1]).symm (n' ?_)
      refine C0.step rfl (j0:=5) (js:=[]) (by kernel_rfl) ⟨⟨_,rfl,?_⟩,trivial⟩
      refine e' rfl ?_
      refine C0.step rfl (j0:=6) (js:=[]) (by kernel_rfl) ⟨⟨_,rfl,?_⟩,trivial⟩
      refine F0.s hC rfl (n' (C0.nil (by kernel_rfl) ?_))
      refine A1.wk ?_ (ih6 _ _ _ hh)
      exact ⟨⟨⟨.rfl,rfl⟩,⟨.rfl,rfl⟩,⟨.rfl,rfl⟩,⟨.rfl,rfl⟩,trivial⟩,⟨⟨rfl,.refl _,rfl⟩,⟨rfl,.refl _,rfl⟩,⟨rfl,.refl _,rfl⟩,⟨rfl,⟨.rfl,.rfl,.rfl,.full,trivial⟩,rfl⟩,trivial⟩,rfl⟩
     ·refine F0.be hC rfl (A0.rows_map [o3,x3.1]).symm (n' ?_)
      refine C0.step rfl (j0:=0) (js:=[]) (by kernel_rfl) ⟨⟨_,rfl,?_⟩,trivial⟩
      refine e' rfl ?_
      refine C0.step rfl (j0:=5) (js:=[]) (by kernel_rfl) ⟨⟨_,rfl,?_⟩,trivial⟩
      refine e' rfl ?_
      refine C0.step rfl (j0:=6) (js:=[]) (by kernel_rfl) ⟨⟨_,rfl,?_⟩,trivial⟩
      refine F0.s hC rfl (n' (C0.nil (by kernel_rfl) ?_))
      refine A1.wk ?_ (ih6 _ _ _ hh)
      exact ⟨⟨⟨.rfl,rfl⟩,⟨.rfl,rfl⟩,⟨.rfl,rfl⟩,⟨.rfl,rfl⟩,trivial⟩,⟨⟨rfl,.refl _,rfl⟩,⟨rfl,.refl _,rfl⟩,⟨rfl,.refl _,rfl⟩,⟨rfl,⟨.rfl,.rfl,.rfl,.full,trivial⟩,rfl⟩,trivial⟩,rfl⟩
 ·intro g8 g9 ih8 ih9 parserParser res hh
  refine C2.intro hC Tryz.func166 rfl rfl rfl (s' rfl rfl (F0.nf hC rfl (n' (p' 1 rfl ?_))))
  rcases bp' hh with ⟨nn,hx1,⟨⟩⟩ | ⟨x1,hx1,hh⟩
  ·exact gn' [0] (ih9 _ _ hx1) rfl rfl rfl rfl rfl (fun hi=>peW ⟨trivial,trivial⟩ rfl hi)
  obtain ⟨x2,hx2,hh⟩:=bs' hh
  refine g' [0] ((ih9 _ _ hx1).ok) rfl rfl rfl rfl rfl rfl (F0.nf hC rfl (F0.s hC rfl (n' (t' rfl (S' (bk' (p' 1 rfl (g' [0] (P0 hx2) rfl rfl rfl rfl rfl rfl (e' rfl (ci' rfl hh (fun hh=>?_) (fun hh=>?_)))))))))))
  ·exact sk' (ew' (ih8 _ _ _ _ hh) rfl rfl rfl)
  obtain ⟨x4,hx4,hh⟩:=bs' hh
  refine p' 1 rfl (g' [0] (P0 hx4) rfl rfl rfl rfl rfl rfl (e' rfl (ci' rfl hh (fun hh=>?_) (fun hh=>?_))))
  ·exact T' rfl (ew' (ih8 _ _ _ _ hh) rfl rfl rfl)
  obtain ⟨x5,hx5,hh⟩:=bs' hh
  refine p' 1 rfl (g' [0] (P0 hx5) rfl rfl rfl rfl rfl rfl (e' rfl (ci' rfl hh (fun hh=>?_) (fun hh=>?_))))
  ·exact T' rfl (ew' (ih8 _ _ _ _ hh) rfl rfl rfl)
  obtain ⟨x6,hx6,hh⟩:=bs' hh
  refine p' 1 rfl (g' [0] (P0 hx6) rfl rfl rfl rfl rfl rfl (e' rfl (ci' rfl hh (fun hh=>?_) (fun hh=>?_))))
  ·exact T' rfl (ew' (ih8 _ _ _ _ hh) rfl rfl rfl)
  obtain ⟨x7,hx7,hh⟩:=bs' hh
  refine p' 1 rfl (g' [0] (P0 hx7) rfl rfl rfl rfl rfl rfl (e' rfl (ci' rfl hh (fun hh=>?_) (fun hh=>?_))))
  ·exact T' rfl (ew' (ih8 _ _ _ _ hh) rfl rfl rfl)
  obtain ⟨x8,hx8,hh⟩:=bs' hh
  refine p' 1 rfl (g' [0] (P0 hx8) rfl rfl rfl rfl rfl rfl (e' rfl (ci' rfl hh (fun hh=>?_) (fun hh=>?_))))
  ·exact T' rfl (ew' (ih8 _ _ _ _ hh) rfl rfl rfl)
  cases hh
  exact p' 1 rfl (F0.s hC rfl (n' (re' (rt' rfl rfl rfl))))
 ·intro g9 ih9 o0 x1 op res hh
  refine S' ?_
  rcases bp' hh with ⟨nn,hx3,⟨⟩⟩ | ⟨x3,hx3,hh⟩
  ·refine AEx.drawE hC ?_
   refine C0.step rfl (j0:=0) (js:=[1,2]) (by kernel_rfl) ⟨⟨_,rfl,?_⟩,⟨_,rfl,?_⟩,⟨_,rfl,?_⟩,trivial⟩
   ·refine e' rfl ?_
    refine C0.step rfl (j0:=1) (js:=[2]) (by kernel_rfl) ⟨⟨_,rfl,?_⟩,⟨_,rfl,?_⟩,trivial⟩
    ·refine e' rfl ?_
     refine C0.step rfl (j0:=2) (js:=[]) (by kernel_rfl) ⟨⟨_,rfl,?_⟩,trivial⟩
     refine e' rfl ?_
     refine C0.step rfl (j0:=3) (js:=[]) (by kernel_rfl) ⟨⟨_,rfl,?_⟩,trivial⟩
     exact gn' [0] (ih9 _ _ hx3) rfl rfl rfl rfl rfl (fun hi=>peW ⟨trivial,trivial⟩ rfl hi)
    ·refine e' rfl ?_
     refine C0.step rfl (j0:=1) (js:=[3]) (by kernel_rfl) ⟨⟨_,rfl,?_⟩,⟨_,rfl,?_⟩,trivial⟩
     ·refine e' rfl ?_
      refine C0.step rfl (j0:=3) (js:=[]) (by kernel_rfl) ⟨⟨_,rfl,?_⟩,trivial⟩
      exact gn' [0] (ih9 _ _ hx3) rfl rfl rfl rfl rfl (fun hi=>peW ⟨trivial,trivial⟩ rfl hi)
     ·exact gn' [0] (ih9 _ _ hx3) rfl rfl rfl rfl rfl (fun hi=>peW ⟨trivial,trivial⟩ rfl hi)
   ·refine e' rfl ?_
    refine C0.step rfl (j0:=0) (js:=[2]) (by kernel_rfl) ⟨⟨_,rfl,?_⟩,⟨_,rfl,?_⟩,trivial⟩
    ·refine e' rfl ?_
     refine C0.step rfl (j0:=2) (js:=[]) (by kernel_rfl) ⟨⟨_,rfl,?_⟩,trivial⟩
     refine e' rfl ?_
     refine C0.step rfl (j0:=3) (js:=[]) (by kernel_rfl) ⟨⟨_,rfl,?_⟩,trivial⟩
     exact gn' [0] (ih9 _ _ hx3) rfl rfl rfl rfl rfl (fun hi=>peW ⟨trivial,trivial⟩ rfl hi)
    ·refine e' rfl ?_
     refine C0.step rfl (j0:=0) (js:=[3]) (by kernel_rfl) ⟨⟨_,rfl,?_⟩,⟨_,rfl,?_⟩,trivial⟩
     ·refine e' rfl ?_
      refine C0.step rfl (j0:=3) (js:=[]) (by kernel_rfl) ⟨⟨_,rfl,?_⟩,trivial⟩
      exact gn' [0] (ih9 _ _ hx3) rfl rfl rfl rfl rfl (fun hi=>peW ⟨trivial,trivial⟩ rfl hi)
     ·exact gn' [0] (ih9 _ _ hx3) rfl rfl rfl rfl rfl (fun hi=>peW ⟨trivial,trivial⟩ rfl hi)
   ·refine e' rfl ?_
    refine C0.step rfl (j0:=0) (js:=[1,3]) (by kernel_rfl) ⟨⟨_,rfl,?_⟩,⟨_,rfl,?_⟩,⟨_,rfl,?_⟩,trivial⟩
    ·refine e' rfl ?_
     refine C0.step rfl (j0:=1) (js:=[3]) (by kernel_rfl) ⟨⟨_,rfl,?_⟩,⟨_,rfl,?_⟩,trivial⟩
     ·refine e' rfl ?_
      refine C0.step rfl (j0:=3) (js:=[]) (by kernel_rfl) ⟨⟨_,rfl,?_⟩,trivial⟩
      exact gn' [0] (ih9 _ _ hx3) rfl rfl rfl rfl rfl (fun hi=>peW ⟨trivial,trivial⟩ rfl hi)
     ·exact gn' [0] (ih9 _ _ hx3) rfl rfl rfl rfl rfl (fun hi=>peW ⟨trivial,trivial⟩ rfl hi)
    ·refine e' rfl ?_
     refine C0.step rfl (j0:=0) (js:=[3]) (by kernel_rfl) ⟨⟨_,rfl,?_⟩,⟨_,rfl,?_⟩,trivial⟩
     ·refine e' rfl ?_
      refine C0.step rfl (j0:=3) (js:=[]) (by kernel_rfl) ⟨⟨_,rfl,?_⟩,trivial⟩
      exact gn' [0] (ih9 _ _ hx3) rfl rfl rfl rfl rfl (fun hi=>peW ⟨trivial,trivial⟩ rfl hi)
     ·exact gn' [0] (ih9 _ _ hx3) rfl rfl rfl rfl rfl (fun hi=>peW ⟨trivial,trivial⟩ rfl hi)
    ·exact gn' [0] (ih9 _ _ hx3) rfl rfl rfl rfl rfl (fun hi=>peW ⟨trivial,trivial⟩ rfl hi)
  refine AEx.drawE hC ?_
  refine C0.step rfl (j0:=0) (js:=[1,2]) (by kernel_rfl) ⟨⟨_,rfl,?_⟩,⟨_,rfl,?_⟩,⟨_,rfl,?_⟩,trivial⟩
  ·refine e' rfl ?_
   refine C0.step rfl (j0:=1) (js:=[2]) (by kernel_rfl) ⟨⟨_,rfl,?_⟩,⟨_,rfl,?_⟩,trivial⟩
   ·refine e' rfl ?_
    refine C0.step rfl (j0:=2) (js:=[]) (by kernel_rfl) ⟨⟨_,rfl,?_⟩,trivial⟩
    refine e' rfl ?_
    refine C0.step rfl (j0:=3) (js:=[]) (by kernel_rfl) ⟨⟨_,rfl,?_⟩,trivial⟩
    refine g' [0] ((ih9 _ _ hx3).ok) rfl rfl rfl rfl rfl rfl (n' ?_)
    refine C0.step rfl (j0:=4) (js:=[]) (by kernel_rfl) ⟨⟨_,rfl,?_⟩,trivial⟩
    refine F0.be hC rfl (A0.rows_map [x1.1,x3.1]).symm (n' ?_)
    refine C0.step rfl (j0:=5) (js:=[]) (by kernel_rfl) ⟨⟨_,rfl,?_⟩,trivial⟩
    refine e' rfl ?_
    refine C0.step rfl (j0:=6) (js:=[]) (by kernel_rfl) ⟨⟨_,rfl,?_⟩,trivial⟩
    refine F0.s hC rfl (n' (C0.nil (by kernel_rfl) (re' ?_)))
    obtain rfl:=oi' hh
    exact ⟨_,.agg [.d (.int .i64 op),.d (.int .i64 0),.d (.str []),.d (.sl (A0.rows [x1.1,x3.1]))],[.row (B0.cells x3.2) 99],rfl,(.aggL ⟨.rfl,.rfl,.rfl,.full,trivial⟩),⟨⟨rfl,.refl _,rfl⟩,trivial⟩,rfl,rfl,rpq rfl rfl⟩
   ·refine e' rfl ?_
    refine C0.step rfl (j0:=1) (js:=[3]) (by kernel_rfl) ⟨⟨_,rfl,?_⟩,⟨_,rfl,?_⟩,trivial⟩
    ·refine e' rfl ?_
     refine C0.step rfl (j0:=3) (js:=[]) (by kernel_rfl) ⟨⟨_,rfl,?_⟩,trivial⟩
     refine g' [0] ((ih9 _ _ hx3).ok) rfl rfl rfl rfl rfl rfl (n' ?_)
     refine C0.step rfl (j0:=4) (js:=[]) (by kernel_rfl) ⟨⟨_,rfl,?_⟩,trivial⟩
     refine F0.be hC rfl (A0.rows_map [x1.1,x3.1]).symm (n' ?_)
     refine C0.step rfl (j0:=5) (js:=[]) (by kernel_rfl) ⟨⟨_,rfl,?_⟩,trivial⟩
     refine e' rfl ?_
     refine C0.step rfl (j0:=6) (js:=[]) (by kernel_rfl) ⟨⟨_,rfl,?_⟩,trivial⟩
     refine F0.s hC rfl (n' (C0.nil (by kernel_rfl) (re' ?_)))
     obtain rfl:=oi' hh
     exact ⟨_,.agg [.d (.int .i64 op),.d (.int .i64 0),.d (.str []),.d (.sl (A0.rows [x1.1,x3.1]))],[.row (B0.cells x3.2) 99],rfl,(.aggL ⟨.rfl,.rfl,.rfl,.full,trivial⟩),⟨⟨rfl,.refl _,rfl⟩,trivial⟩,rfl,rfl,rpq rfl rfl⟩
    ·refine g' [0] ((ih9 _ _ hx3).ok) rfl rfl rfl rfl rfl rfl (n' ?_)
     refine C0.step rfl (j0:=1) (js:=[]) (by kernel_rfl) ⟨⟨_,rfl,?_⟩,trivial⟩
     refine e' rfl ?_
     refine C0.step rfl (j0:=4) (js:=[]) (by kernel_rfl) ⟨⟨_,rfl,?_⟩,trivial⟩
     refine F0.be hC rfl (A0.rows_map [x1.1,x3.1]).symm (n' ?_)
     refine C0.step rfl (j0:=5) (js:=[]) (by kernel_rfl) ⟨⟨_,rfl,?_⟩,trivial⟩
     refine e' rfl ?_
     refine C0.step rfl (j0:=6) (js:=[]) (by kernel_rfl) ⟨⟨_,rfl,?_⟩,trivial⟩
     refine F0.s hC rfl (n' (C0.nil (by kernel_rfl) (re' ?_)))
     obtain rfl:=oi' hh
     exact ⟨_,.agg [.d (.int .i64 op),.d (.int .i64 0),.d (.str []),.d (.sl (A0.rows [x1.1,x3.1]))],[.row (B0.cells x3.2) 99],rfl,(.aggL ⟨.rfl,.rfl,.rfl,.full,trivial⟩),⟨⟨rfl,.refl _,rfl⟩,trivial⟩,rfl,rfl,rpq rfl rfl⟩
  ·refine e' rfl ?_
   refine C0.step rfl (j0:=0) (js:=[2]) (by kernel_rfl) ⟨⟨_,rfl,?_⟩,⟨_,rfl,?_⟩,trivial⟩
   ·refine e' rfl ?_
    refine C0.step rfl (j0:=2) (js:=[]) (by kernel_rfl) ⟨⟨_,rfl,?_⟩,trivial⟩
    refine e' rfl ?_
    refine C0.step rfl (j0:=3) (js:=[]) (by kernel_rfl) ⟨⟨_,rfl,?_⟩,trivial⟩
    refine g' [0] ((ih9 _ _ hx3).ok) rfl rfl rfl rfl rfl rfl (n' ?_)
    refine C0.step rfl (j0:=4) (js:=[]) (by kernel_rfl) ⟨⟨_,rfl,?_⟩,trivial⟩
    refine F0.be hC rfl (A0.rows_map [x1.1,x3.1]).symm (n' ?_)
    refine C0.step rfl (j0:=5) (js:=[]) (by kernel_rfl) ⟨⟨_,rfl,?_⟩,trivial⟩
    refine e' rfl ?_
    refine C0.step rfl (j0:=6) (js:=[]) (by kernel_rfl) ⟨⟨_,rfl,?_⟩,trivial⟩
    refine F0.s hC rfl (n' (C0.nil (by kernel_rfl) (re' ?_)))
    obtain rfl:=oi' hh
    exact ⟨_,.agg [.d (.int .i64 op),.d (.int .i64 0),.d (.str []),.d (.sl (A0.rows [x1.1,x3.1]))],[.row (B0.cells x3.2) 99],rfl,(.aggL ⟨.rfl,.rfl,.rfl,.full,trivial⟩),⟨⟨rfl,.refl _,rfl⟩,trivial⟩,rfl,rfl,rpq rfl rfl⟩
   ·refine e' rfl ?_
    refine C0.step rfl (j0:=0) (js:=[3]) (by kernel_rfl) ⟨⟨_,rfl,?_⟩,⟨_,rfl,?_⟩,trivial⟩
    ·refine e' rfl ?_
     refine C0.step rfl (j0:=3) (js:=[]) (by kernel_rfl) ⟨⟨_,rfl,?_⟩,trivial⟩
     refine g' [0] ((ih9 _ _ hx3).ok) rfl rfl rfl rfl rfl rfl (n' ?_)
     refine C0.step rfl (j0:=4) (js:=[]) (by kernel_rfl) ⟨⟨_,rfl,?_⟩,trivial⟩
     refine F0.be hC rfl (A0.rows_map [x1.1,x3.1]).symm (n' ?_)
     refine C0.step rfl (j0:=5) (js:=[]) (by kernel_rfl) ⟨⟨_,rfl,?_⟩,trivial⟩
     refine e' rfl ?_
     refine C0.step rfl (j0:=6) (js:=[]) (by kernel_rfl) ⟨⟨_,rfl,?_⟩,trivial⟩
     refine F0.s hC rfl (n' (C0.nil (by kernel_rfl) (re' ?_)))
     obtain rfl:=oi' hh
     exact ⟨_,.agg [.d (.int .i64 op),.d (.int .i64 0),.d (.str []),.d (.sl (A0.rows [x1.1,x3.1]))],[.row (B0.cells x3.2) 99],rfl,(.aggL ⟨.rfl,.rfl,.rfl,.full,trivial⟩),⟨⟨rfl,.refl _,rfl⟩,trivial⟩,rfl,rfl,rpq rfl rfl⟩
    ·refine g' [0] ((ih9 _ _ hx3).ok) rfl rfl rfl rfl rfl rfl (n' ?_)
     refine C0.step rfl (j0:=0) (js:=[4]) (by kernel_rfl) ⟨⟨_,rfl,?_⟩,⟨_,rfl,?_⟩,trivial⟩
     ·refine e' rfl ?_
      refine C0.step rfl (j0:=4) (js:=[]) (by kernel_rfl) ⟨⟨_,rfl,?_⟩,trivial⟩
      refine F0.be hC rfl (A0.rows_map [x1.1,x3.1]).symm (n' ?_)
      refine C0.step rfl (j0:=5) (js:=[]) (by kernel_rfl) ⟨⟨_,rfl,?_⟩,trivial⟩
      refine e' rfl ?_
      refine C0.step rfl (j0:=6) (js:=[]) (by kernel_rfl) ⟨⟨_,rfl,?_⟩,trivial⟩
      refine F0.s hC rfl (n' (C0.nil (by kernel_rfl) (re' ?_)))
      obtain rfl:=oi' hh
      exact ⟨_,.agg [.d (.int .i64 op),.d (.int .i64 0),.d (.str []),.d (.sl (A0.rows [x1.1,x3.1]))],[.row (B0.cells x3.2) 99],rfl,(.aggL ⟨.rfl,.rfl,.rfl,.full,trivial⟩),⟨⟨rfl,.refl _,rfl⟩,trivial⟩,rfl,rfl,rpq rfl rfl⟩
     ·refine F0.be hC rfl (A0.rows_map [x1.1,x3.1]).symm (n' ?_)
      refine C0.step rfl (j0:=0) (js:=[]) (by kernel_rfl) ⟨⟨_,rfl,?_⟩,trivial⟩
      refine e' rfl ?_
      refine C0.step rfl (j0:=5) (js:=[]) (by kernel_rfl) ⟨⟨_,rfl,?_⟩,trivial⟩
      refine e' rfl ?_
      refine C0.step rfl (j0:=6) (js:=[]) (by kernel_rfl) ⟨⟨_,rfl,?_⟩,trivial⟩
      refine F0.s hC rfl (n' (C0.nil (by kernel_rfl) (re' ?_)))
      obtain rfl:=oi' hh
      exact ⟨_,.agg [.d (.int .i64 op),.d (.int .i64 0),.d (.str []),.d (.sl (A0.rows [x1.1,x3.1]))],[.row (B0.cells x3.2) 99],rfl,(.aggL ⟨.rfl,.rfl,.rfl,.full,trivial⟩),⟨⟨rfl,.refl _,rfl⟩,trivial⟩,rfl,rfl,rpq rfl rfl⟩
  ·refine e' rfl ?_
   refine C0.step rfl (j0:=0) (js:=[1,3]) (by kernel_rfl) ⟨⟨_,rfl,?_⟩,⟨_,rfl,?_⟩,⟨_,rfl,?_⟩,trivial⟩
   ·refine e' rfl ?_
    refine C0.step rfl (j0:=1) (js:=[3]) (by kernel_rfl) ⟨⟨_,rfl,?_⟩,⟨_,rfl,?_⟩,trivial⟩
    ·refine e' rfl ?_
     refine C0.step rfl (j0:=3) (js:=[]) (by kernel_rfl) ⟨⟨_,rfl,?_⟩,trivial⟩
     refine g' [0] ((ih9 _ _ hx3).ok) rfl rfl rfl rfl rfl rfl (n' ?_)
     refine C0.step rfl (j0:=4) (js:=[]) (by kernel_rfl) ⟨⟨_,rfl,?_⟩,trivial⟩
     refine F0.be hC rfl (A0.rows_map [x1.1,x3.1]).symm (n' ?_)
     refine C0.step rfl (j0:=5) (js:=[]) (by kernel_rfl) ⟨⟨_,rfl,?_⟩,trivial⟩
     refine e' rfl ?_
     refine C0.step rfl (j0:=6) (js:=[]) (by kernel_rfl) ⟨⟨_,rfl,?_⟩,trivial⟩
     refine F0.s hC rfl (n' (C0.nil (by kernel_rfl) (re' ?_)))
     obtain rfl:=oi' hh
     exact ⟨_,.agg [.d (.int .i64 op),.d (.int .i64 0),.d (.str []),.d (.sl (A0.rows [x1.1,x3.1]))],[.row (B0.cells x3.2) 99],rfl,(.aggL ⟨.rfl,.rfl,.rfl,.full,trivial⟩),⟨⟨rfl,.refl _,rfl⟩,trivial⟩,rfl,rfl,rpq rfl rfl⟩
    ·refine g' [0] ((ih9 _ _ hx3).ok) rfl rfl rfl rfl rfl rfl (n' ?_)
     refine C0.step rfl (j0:=1) (js:=[]) (by kernel_rfl) ⟨⟨_,rfl,?_⟩,trivial⟩
     refine e' rfl ?_
     refine C0.step rfl (j0:=4) (js:=[]) (by kernel_rfl) ⟨⟨_,rfl,?_⟩,trivial⟩
     refine F0.be hC rfl (A0.rows_map [x1.1,x3.1]).symm (n' ?_)
     refine C0.step rfl (j0:=5) (js:=[]) (by kernel_rfl) ⟨⟨_,rfl,?_⟩,trivial⟩
     refine e' rfl ?_
     refine C0.step rfl (j0:=6) (js:=[]) (by kernel_rfl) ⟨⟨_,rfl,?_⟩,trivial⟩
     refine F0.s hC rfl (n' (C0.nil (by kernel_rfl) (re' ?_)))
     obtain rfl:=oi' hh
     exact ⟨_,.agg [.d (.int .i64 op),.d (.int .i64 0),.d (.str []),.d (.sl (A0.rows [x1.1,x3.1]))],[.row (B0.cells x3.2) 99],rfl,(.aggL ⟨.rfl,.rfl,.rfl,.full,trivial⟩),⟨⟨rfl,.refl _,rfl⟩,trivial⟩,rfl,rfl,rpq rfl rfl⟩
   ·refine e' rfl ?_
    refine C0.step rfl (j0:=0) (js:=[3]) (by kernel_rfl) ⟨⟨_,rfl,?_⟩,⟨_,rfl,?_⟩,trivial⟩
    ·refine e' rfl ?_
     refine C0.step rfl (j0:=3) (js:=[]) (by kernel_rfl) ⟨⟨_,rfl,?_⟩,trivial⟩
     refine g' [0] ((ih9 _ _ hx3).ok) rfl rfl rfl rfl rfl rfl (n' ?_)
     refine C0.step rfl (j0:=4) (js:=[]) (by kernel_rfl) ⟨⟨_,rfl,?_⟩,trivial⟩
     refine F0.be hC rfl (A0.rows_map [x1.1,x3.1]).symm (n' ?_)
     refine C0.step rfl (j0:=5) (js:=[]) (by kernel_rfl) ⟨⟨_,rfl,?_⟩,trivial⟩
     refine e' rfl ?_
     refine C0.step rfl (j0:=6) (js:=[]) (by kernel_rfl) ⟨⟨_,rfl,?_⟩,trivial⟩
     refine F0.s hC rfl (n' (C0.nil (by kernel_rfl) (re' ?_)))
     obtain rfl:=oi' hh
     exact ⟨_,.agg [.d (.int .i64 op),.d (.int .i64 0),.d (.str []),.d (.sl (A0.rows [x1.1,x3.1]))],[.row (B0.cells x3.2) 99],rfl,(.aggL ⟨.rfl,.rfl,.rfl,.full,trivial⟩),⟨⟨rfl,.refl _,rfl⟩,trivial⟩,rfl,rfl,rpq rfl rfl⟩
    ·refine g' [0] ((ih9 _ _ hx3).ok) rfl rfl rfl rfl rfl rfl (n' ?_)
     refine C0.step rfl (j0:=0) (js:=[4]) (by kernel_rfl) ⟨⟨_,rfl,?_⟩,⟨_,rfl,?_⟩,trivial⟩
     ·refine e' rfl ?_
      refine C0.step rfl (j0:=4) (js:=[]) (by kernel_rfl) ⟨⟨_,rfl,?_⟩,trivial⟩
      refine F0.be hC rfl (A0.rows_map [x1.1,x3.1]).symm (n' ?_)
      refine C0.step rfl (j0:=5) (js:=[]) (by kernel_rfl) ⟨⟨_,rfl,?_⟩,trivial⟩
      refine e' rfl ?_
      refine C0.step rfl (j0:=6) (js:=[]) (by kernel_rfl) ⟨⟨_,rfl,?_⟩,trivial⟩
      refine F0.s hC rfl (n' (C0.nil (by kernel_rfl) (re' ?_)))
      obtain rfl:=oi' hh
      exact ⟨_,.agg [.d (.int .i64 op),.d (.int .i64 0),.d (.str []),.d (.sl (A0.rows [x1.1,x3.1]))],[.row (B0.cells x3.2) 99],rfl,(.aggL ⟨.rfl,.rfl,.rfl,.full,trivial⟩),⟨⟨rfl,.refl _,rfl⟩,trivial⟩,rfl,rfl,rpq rfl rfl⟩
     ·refine F0.be hC rfl (A0.rows_map [x1.1,x3.1]).symm (n' ?_)
      refine C0.step rfl (j0:=0) (js:=[]) (by kernel_rfl) ⟨⟨_,rfl,?_⟩,trivial⟩
      refine e' rfl ?_
      refine C0.step rfl (j0:=5) (js:=[]) (by kernel_rfl) ⟨⟨_,rfl,?_⟩,trivial⟩
      refine e' rfl ?_
      refine C0.step rfl (j0:=6) (js:=[]) (by kernel_rfl) ⟨⟨_,rfl,?_⟩,trivial⟩
      refine F0.s hC rfl (n' (C0.nil (by kernel_rfl) (re' ?_)))
      obtain rfl:=oi' hh
      exact ⟨_,.agg [.d (.int .i64 op),.d (.int .i64 0),.d (.str []),.d (.sl (A0.rows [x1.1,x3.1]))],[.row (B0.cells x3.2) 99],rfl,(.aggL ⟨.rfl,.rfl,.rfl,.full,trivial⟩),⟨⟨rfl,.refl _,rfl⟩,trivial⟩,rfl,rfl,rpq rfl rfl⟩
   ·refine g' [0] ((ih9 _ _ hx3).ok) rfl rfl rfl rfl rfl rfl (n' ?_)
    refine C0.step rfl (j0:=0) (js:=[1]) (by kernel_rfl) ⟨⟨_,rfl,?_⟩,⟨_,rfl,?_⟩,trivial⟩
    ·refine e' rfl ?_
     refine C0.step rfl (j0:=1) (js:=[]) (by kernel_rfl) ⟨⟨_,rfl,?_⟩,trivial⟩
     refine e' rfl ?_
     refine C0.step rfl (j0:=4) (js:=[]) (by kernel_rfl) ⟨⟨_,rfl,?_⟩,trivial⟩
     refine F0.be hC rfl (A0.rows_map [x1.1,x3.1]).symm (n' ?_)
     refine C0.step rfl (j0:=5) (js:=[]) (by kernel_rfl) ⟨⟨_,rfl,?_⟩,trivial⟩
     refine e' rfl ?_
     refine C0.step rfl (j0:=6) (js:=[]) (by kernel_rfl) ⟨⟨_,rfl,?_⟩,trivial⟩
     refine F0.s hC rfl (n' (C0.nil (by kernel_rfl) (re' ?_)))
     obtain rfl:=oi' hh
     exact ⟨_,.agg [.d (.int .i64 op),.d (.int .i64 0),.d (.str []),.d (.sl (A0.rows [x1.1,x3.1]))],[.row (B0.cells x3.2) 99],rfl,(.aggL ⟨.rfl,.rfl,.rfl,.full,trivial⟩),⟨⟨rfl,.refl _,rfl⟩,trivial⟩,rfl,rfl,rpq rfl rfl⟩
    ·refine e' rfl ?_
     refine C0.step rfl (j0:=0) (js:=[4]) (by kernel_rfl) ⟨⟨_,rfl,?_⟩,⟨_,rfl,?_⟩,trivial⟩
     ·refine e' rfl ?_
      refine C0.step rfl (j0:=4) (js:=[]) (by kernel_rfl) ⟨⟨_,rfl,?_⟩,trivial⟩
      refine F0.be hC rfl (A0.rows_map [x1.1,x3.1]).symm (n' ?_)
      refine C0.step rfl (j0:=5) (js:=[]) (by kernel_rfl) ⟨⟨_,rfl,?_⟩,trivial⟩
      refine e' rfl ?_
      refine C0.step rfl (j0:=6) (js:=[]) (by kernel_rfl) ⟨⟨_,rfl,?_⟩,trivial⟩
      refine F0.s hC rfl (n' (C0.nil (by kernel_rfl) (re' ?_)))
      obtain rfl:=oi' hh
      exact ⟨_,.agg [.d (.int .i64 op),.d (.int .i64 0),.d (.str []),.d (.sl (A0.rows [x1.1,x3.1]))],[.row (B0.cells x3.2) 99],rfl,(.aggL ⟨.rfl,.rfl,.rfl,.full,trivial⟩),⟨⟨rfl,.refl _,rfl⟩,trivial⟩,rfl,rfl,rpq rfl rfl⟩
     ·refine F0.be hC rfl (A0.rows_map [x1.1,x3.1]).symm (n' ?_)
      refine C0.step rfl (j0:=0) (js:=[]) (by kernel_rfl) ⟨⟨_,rfl,?_⟩,trivial⟩
      refine e' rfl ?_
      refine C0.step rfl (j0:=5) (js:=[]) (by kernel_rfl) ⟨⟨_,rfl,?_⟩,trivial⟩
      refine e' rfl ?_
      refine C0.step rfl (j0:=6) (js:=[]) (by kernel_rfl) ⟨⟨_,rfl,?_⟩,trivial⟩
      refine F0.s hC rfl (n' (C0.nil (by kernel_rfl) (re' ?_)))
      obtain rfl:=oi' hh
      exact ⟨_,.agg [.d (.int .i64 op),.d (.int .i64 0),.d (.str []),.d (.sl (A0.rows [x1.1,x3.1]))],[.row (B0.cells x3.2) 99],rfl,(.aggL ⟨.rfl,.rfl,.rfl,.full,trivial⟩),⟨⟨rfl,.refl _,rfl⟩,trivial⟩,rfl,rfl,rpq rfl rfl⟩
 ·intro g10 ih10 parserParser res hh
  refine C2.intro hC Tryz.func189 rfl rfl rfl (s' rfl rfl (F0.n hC rfl (F0.nf hC rfl (n' (p' 4 rfl ?_)))))
  rcases bp' hh with ⟨nn,hx1,⟨⟩⟩ | ⟨x1,hx1,hh⟩
  ·exact gn' [0,1] (ih10 _ _ hx1) rfl rfl rfl rfl rfl (fun hi=>peW ⟨trivial,trivial⟩ rfl hi)
  cases hh
  exact g' [0,1] ((ih10 _ _ hx1).ok) rfl rfl rfl rfl rfl rfl (F0.s hC rfl (n' (re' (rt' rfl rfl rfl))))
 ·intro g11 g12 ih11 ih12 parserParser res hh
  refine C2.intro hC Tryz.func110 rfl rfl rfl (s' rfl rfl (F0.nf hC rfl (n' (p' 1 rfl ?_))))
  rcases bp' hh with ⟨nn,hx1,⟨⟩⟩ | ⟨x1,hx1,hh⟩
  ·exact gn' [0] (ih12 _ _ hx1) rfl rfl rfl rfl rfl (fun hi=>peW ⟨trivial,⟨rfl,.refl _,rfl⟩,trivial⟩ rfl hi)
  exact g' [0] ((ih12 _ _ hx1).ok) rfl rfl rfl rfl rfl rfl (F0.nf hC rfl (F0.s hC rfl (n' (bk' (fw' (ih11 _ _ _ hh) rfl rfl rfl)))))
 ·intro g11 g12 ih11 ih12 o0 o3 res hh
  obtain ⟨x2,hx2,hh⟩:=bs' hh
  refine A1.unroll (bk' (p' 1 rfl (g' [1,0] (Wt hx2) rfl rfl rfl rfl rfl rfl (e' rfl (S' (t' rfl (ci' rfl hh (fun hh=>?_) (fun hh=>?_))))))))
  ·cases hh
   exact p' 1 rfl (F0.s hC rfl (n' (re' (rt' rfl rfl rfl))))
  refine sk' ?_
  rcases bp' hh with ⟨nn,hx3,⟨⟩⟩ | ⟨x3,hx3,hh⟩
  ·refine AEx.drawE hC ?_
   refine C0.step rfl (j0:=0) (js:=[1,2]) (by kernel_rfl) ⟨⟨_,rfl,?_⟩,⟨_,rfl,?_⟩,⟨_,rfl,?_⟩,trivial⟩
   ·refine e' rfl ?_
    refine C0.step rfl (j0:=1) (js:=[2]) (by kernel_rfl) ⟨⟨_,rfl,?_⟩,⟨_,rfl,?_⟩,trivial⟩
    ·refine e' rfl ?_
     refine C0.step rfl (j0:=2) (js:=[]) (by kernel_rfl) ⟨⟨_,rfl,?_⟩,trivial⟩
     refine e' rfl ?_
     refine C0.step rfl (j0:=3) (js:=[]) (by kernel_rfl) ⟨⟨_,rfl,?_⟩,trivial⟩
     exact gn' [0] (ih12 _ _ hx3) rfl rfl rfl rfl rfl (fun hi=>peW ⟨trivial,⟨rfl,.refl _,rfl⟩,trivial⟩ rfl hi)
    ·refine e' rfl ?_
     refine C0.step rfl (j0:=1) (js:=[3]) (by kernel_rfl) ⟨⟨_,rfl,?_⟩,⟨_,rfl,?_⟩,trivial⟩
     ·refine e' rfl ?_
      refine C0.step rfl (j0:=3) (js:=[]) (by kernel_rfl) ⟨⟨_,rfl,?_⟩,trivial⟩
      exact gn' [0] (ih12 _ _ hx3) rfl rfl rfl rfl rfl (fun hi=>peW ⟨trivial,⟨rfl,.refl _,rfl⟩,trivial⟩ rfl hi)
     ·exact gn' [0] (ih12 _ _ hx3) rfl rfl rfl rfl rfl (fun hi=>peW ⟨trivial,⟨rfl,.refl _,rfl⟩,trivial⟩ rfl hi)
   ·refine e' rfl ?_
    refine C0.step rfl (j0:=0) (js:=[2]) (by kernel_rfl) ⟨⟨_,rfl,?_⟩,⟨_,rfl,?_⟩,trivial⟩
    ·refine e' rfl ?_
     refine C0.step rfl (j0:=2) (js:=[]) (by kernel_rfl) ⟨⟨_,rfl,?_⟩,trivial⟩
     refine e' rfl ?_
     refine C0.step rfl (j0:=3) (js:=[]) (by kernel_rfl) ⟨⟨_,rfl,?_⟩,trivial⟩
     exact gn' [0] (ih12 _ _ hx3) rfl rfl rfl rfl rfl (fun hi=>peW ⟨trivial,⟨rfl,.refl _,rfl⟩,trivial⟩ rfl hi)
    ·refine e' rfl ?_
     refine C0.step rfl (j0:=0) (js:=[3]) (by kernel_rfl) ⟨⟨_,rfl,?_⟩,⟨_,rfl,?_⟩,trivial⟩
     ·refine e' rfl ?_
      refine C0.step rfl (j0:=3) (js:=[]) (by kernel_rfl) ⟨⟨_,rfl,?_⟩,trivial⟩
      exact gn' [0] (ih12 _ _ hx3) rfl rfl rfl rfl rfl (fun hi=>peW ⟨trivial,⟨rfl,.refl _,rfl⟩,trivial⟩ rfl hi)
     ·exact gn' [0] (ih12 _ _ hx3) rfl rfl rfl rfl rfl (fun hi=>peW ⟨trivial,⟨rfl,.refl _,rfl⟩,trivial⟩ rfl hi)
   ·refine e' rfl ?_
    refine C0.step rfl (j0:=0) (js:=[1,3]) (by kernel_rfl) ⟨⟨_,rfl,?_⟩,⟨_,rfl,?_⟩,⟨_,rfl,?_⟩,trivial⟩
    ·refine e' rfl ?_
     refine C0.step rfl (j0:=1) (js:=[3]) (by kernel_rfl) ⟨⟨_,rfl,?_⟩,⟨_,rfl,?_⟩,trivial⟩
     ·refine e' rfl ?_
      refine C0.step rfl (j0:=3) (js:=[]) (by kernel_rfl) ⟨⟨_,rfl,?_⟩,trivial⟩
      exact gn' [0] (ih12 _ _ hx3) rfl rfl rfl rfl rfl (fun hi=>peW ⟨trivial,⟨rfl,.refl _,rfl⟩,trivial⟩ rfl hi)
     ·exact gn' [0] (ih12 _ _ hx3) rfl rfl rfl rfl rfl (fun hi=>peW ⟨trivial,⟨rfl,.refl _,rfl⟩,trivial⟩ rfl hi)
    ·refine e' rfl ?_
     refine C0.step rfl (j0:=0) (js:=[3]) (by kernel_rfl) ⟨⟨_,rfl,?_⟩,⟨_,rfl,?_⟩,trivial⟩
     ·refine e' rfl ?_
      refine C0.step rfl (j0:=3) (js:=[]) (by kernel_rfl) ⟨⟨_,rfl,?_⟩,trivial⟩
      exact gn' [0] (ih12 _ _ hx3) rfl rfl rfl rfl rfl (fun hi=>peW ⟨trivial,⟨rfl,.refl _,rfl⟩,trivial⟩ rfl hi)
     ·exact gn' [0] (ih12 _ _ hx3) rfl rfl rfl rfl rfl (fun hi=>peW ⟨trivial,⟨rfl,.refl _,rfl⟩,trivial⟩ rfl hi)
    ·exact gn' [0] (ih12 _ _ hx3) rfl rfl rfl rfl rfl (fun hi=>peW ⟨trivial,⟨rfl,.refl _,rfl⟩,trivial⟩ rfl hi)
  refine AEx.drawE hC ?_
  refine C0.step rfl (j0:=0) (js:=[1,2]) (by kernel_rfl) ⟨⟨_,rfl,?_⟩,⟨_,rfl,?_⟩,⟨_,rfl,?_⟩,trivial⟩
  ·refine e' rfl ?_
   refine C0.step rfl (j0:=1) (js:=[2]) (by kernel_rfl) ⟨⟨_,rfl,?_⟩,⟨_,rfl,?_⟩,trivial⟩
   ·refine e' rfl ?_
    refine C0.step rfl (j0:=2) (js:=[]) (by kernel_rfl) ⟨⟨_,rfl,?_⟩,trivial⟩
    refine e' rfl ?_
    refine C0.step rfl (j0:=3) (js:=[]) (by kernel_rfl) ⟨⟨_,rfl,?_⟩,trivial⟩
    refine g' [0] ((ih12 _ _ hx3).ok) rfl rfl rfl rfl rfl rfl (n' ?_)
    refine C0.step rfl (j0:=4) (js:=[]) (by kernel_rfl) ⟨⟨_,rfl,?_⟩,trivial⟩
    refine F0.be hC rfl (A0.rows_map [o3,x3.1]).symm (n' ?_)
    refine C0.step rfl (j0:=5) (js:=[]) (by kernel_rfl) ⟨⟨_,rfl,?_⟩,trivial⟩
    refine e' rfl ?_
    refine C0.step rfl (j0:=6) (js:=[]) (by kernel_rfl) ⟨⟨_,rfl,?_⟩,trivial⟩
    refine F0.s hC rfl (n' (C0.nil (by kernel_rfl) ?_))
    refine A1.wk ?_ (ih11 _ _ _ hh)
    exact ⟨⟨⟨.rfl,rfl⟩,⟨.rfl,rfl⟩,⟨.rfl,rfl⟩,⟨.rfl,rfl⟩,trivial⟩,⟨⟨rfl,.refl _,rfl⟩,⟨rfl,.refl _,rfl⟩,⟨rfl,.refl _,rfl⟩,⟨rfl,⟨.rfl,.rfl,.rfl,.full,trivial⟩,rfl⟩,trivial⟩,rfl⟩
   ·refine e' rfl ?_
    refine C0.step rfl (j0:=1) (js:=[3]) (by kernel_rfl) ⟨⟨_,rfl,?_⟩,⟨_,rfl,?_⟩,trivial⟩
    ·refine e' rfl ?_
     refine C0.step rfl (j0:=3) (js:=[]) (by kernel_rfl) ⟨⟨_,rfl,?_⟩,trivial⟩
     refine g' [0] ((ih12 _ _ hx3).ok) rfl rfl rfl rfl rfl rfl (n' ?_)
     refine C0.step rfl (j0:=4) (js:=[]) (by kernel_rfl) ⟨⟨_,rfl,?_⟩,trivial⟩
     refine F0.be hC rfl (A0.rows_map [o3,x3.1]).symm (n' ?_)
     refine C0.step rfl (j0:=5) (js:=[]) (by kernel_rfl) ⟨⟨_,rfl,?_⟩,trivial⟩
     refine e' rfl ?_
     refine C0.step rfl (j0:=6) (js:=[]) (by kernel_rfl) ⟨⟨_,rfl,?_⟩,trivial⟩
     refine F0.s hC rfl (n' (C0.nil (by kernel_rfl) ?_))
     refine A1.wk ?_ (ih11 _ _ _ hh)
     exact ⟨⟨⟨.rfl,rfl⟩,⟨.rfl,rfl⟩,⟨.rfl,rfl⟩,⟨.rfl,rfl⟩,trivial⟩,⟨⟨rfl,.refl _,rfl⟩,⟨rfl,.refl _,rfl⟩,⟨rfl,.refl _,rfl⟩,⟨rfl,⟨.rfl,.rfl,.rfl,.full,trivial⟩,rfl⟩,trivial⟩,rfl⟩
    ·refine g' [0] ((ih12 _ _ hx3).ok) rfl rfl rfl rfl rfl rfl (n' ?_)
     refine C0.step rfl (j0:=1) (js:=[]) (by kernel_rfl) ⟨⟨_,rfl,?_⟩,trivial⟩
     refine e' rfl ?_
     refine C0.step rfl (j0:=4) (js:=[]) (by kernel_rfl) ⟨⟨_,rfl,?_⟩,trivial⟩
     refine F0.be hC rfl (A0.rows_map [o3,x3.1]).symm (n' ?_)
     refine C0.step rfl (j0:=5) (js:=[]) (by kernel_rfl) ⟨⟨_,rfl,?_⟩,trivial⟩
     refine e' rfl ?_
     refine C0.step rfl (j0:=6) (js:=[]) (by kernel_rfl) ⟨⟨_,rfl,?_⟩,trivial⟩
     refine F0.s hC rfl (n' (C0.nil (by kernel_rfl) ?_))
     refine A1.wk ?_ (ih11 _ _ _ hh)
     exact ⟨⟨⟨.rfl,rfl⟩,⟨.rfl,rfl⟩,⟨.rfl,rfl⟩,⟨.rfl,rfl⟩,trivial⟩,⟨⟨rfl,.refl _,rfl⟩,⟨rfl,.refl _,rfl⟩,⟨rfl,.refl _,rfl⟩,⟨rfl,⟨.rfl,.rfl,.rfl,.full,trivial⟩,rfl⟩,trivial⟩,rfl⟩
  ·refine e' rfl ?_
   refine C0.step rfl (j0:=0) (js:=[2]) (by kernel_rfl) ⟨⟨_,rfl,?_⟩,⟨_,rfl,?_⟩,trivial⟩
   ·refine e' rfl ?_
    refine C0.step rfl (j0:=2) (js:=[]) (by kernel_rfl) ⟨⟨_,rfl,?_⟩,trivial⟩
    refine e' rfl ?_
    refine C0.step rfl (j0:=3) (js:=[]) (by kernel_rfl) ⟨⟨_,rfl,?_⟩,trivial⟩
    refine g' [0] ((ih12 _ _ hx3).ok) rfl rfl rfl rfl rfl rfl (n' ?_)
    refine C0.step rfl (j0:=4) (js:=[]) (by kernel_rfl) ⟨⟨_,rfl,?_⟩,trivial⟩
    refine F0.be hC rfl (A0.rows_map [o3,x3.1]).symm (n' ?_)
    refine C0.step rfl (j0:=5) (js:=[]) (by kernel_rfl) ⟨⟨_,rfl,?_⟩,trivial⟩
    refine e' rfl ?_
    refine C0.step rfl (j0:=6) (js:=[]) (by kernel_rfl) ⟨⟨_,rfl,?_⟩,trivial⟩
    refine F0.s hC rfl (n' (C0.nil (by kernel_rfl) ?_))
    refine A1.wk ?_ (ih11 _ _ _ hh)
    exact ⟨⟨⟨.rfl,rfl⟩,⟨.rfl,rfl⟩,⟨.rfl,rfl⟩,⟨.rfl,rfl⟩,trivial⟩,⟨⟨rfl,.refl _,rfl⟩,⟨rfl,.refl _,rfl⟩,⟨rfl,.refl _,rfl⟩,⟨rfl,⟨.rfl,.rfl,.rfl,.full,trivial⟩,rfl⟩,trivial⟩,rfl⟩
   ·refine e' rfl ?_
    refine C0.step rfl (j0:=0) (js:=[3]) (by kernel_rfl) ⟨⟨_,rfl,?_⟩,⟨_,rfl,?_⟩,trivial⟩
    ·refine e' rfl ?_
     refine C0.step rfl (j0:=3) (js:=[]) (by kernel_rfl) ⟨⟨_,rfl,?_⟩,trivial⟩
     refine g' [0] ((ih12 _ _ hx3).ok) rfl rfl rfl rfl rfl rfl (n' ?_)
     refine C0.step rfl (j0:=4) (js:=[]) (by kernel_rfl) ⟨⟨_,rfl,?_⟩,trivial⟩
     refine F0.be hC rfl (A0.rows_map [o3,x3.1]).symm (n' ?_)
     refine C0.step rfl (j0:=5) (js:=[]) (by kernel_rfl) ⟨⟨_,rfl,?_⟩,trivial⟩
     refine e' rfl ?_
     refine C0.step rfl (j0:=6) (js:=[]) (by kernel_rfl) ⟨⟨_,rfl,?_⟩,trivial⟩
     refine F0.s hC rfl (n' (C0.nil (by kernel_rfl) ?_))
     refine A1.wk ?_ (ih11 _ _ _ hh)
     exact ⟨⟨⟨.rfl,rfl⟩,⟨.rfl,rfl⟩,⟨.rfl,rfl⟩,⟨.rfl,rfl⟩,trivial⟩,⟨⟨rfl,.refl _,rfl⟩,⟨rfl,.refl _,rfl⟩,⟨rfl,.refl _,rfl⟩,⟨rfl,⟨.rfl,.rfl,.rfl,.full,trivial⟩,rfl⟩,trivial⟩,rfl⟩
    ·refine g' [0] ((ih12 _ _ hx3).ok) rfl rfl rfl rfl rfl rfl (n' ?_)
     refine C0.step rfl (j0:=0) (js:=[4]) (by kernel_rfl) ⟨⟨_,rfl,?_⟩,⟨_,rfl,?_⟩,trivial⟩
     ·refine e' rfl ?_
      refine C0.step rfl (j0:=4) (js:=[]) (by kernel_rfl) ⟨⟨_,rfl,?_⟩,trivial⟩
      refine F0.be hC rfl (A0.rows_map [o3,x3.1]).symm (n' ?_)
      refine C0.step rfl (j0:=5) (js:=[]) (by kernel_rfl) ⟨⟨_,rfl,?_⟩,trivial⟩
      refine e' rfl ?_
      refine C0.step rfl (j0:=6) (js:=[]) (by kernel_rfl) ⟨⟨_,rfl,?_⟩,trivial⟩
      refine F0.s hC rfl (n' (C0.nil (by kernel_rfl) ?_))
      refine A1.wk ?_ (ih11 _ _ _ hh)
      exact ⟨⟨⟨.rfl,rfl⟩,⟨.rfl,rfl⟩,⟨.rfl,rfl⟩,⟨.rfl,rfl⟩,trivial⟩,⟨⟨rfl,.refl _,rfl⟩,⟨rfl,.refl _,rfl⟩,⟨rfl,.refl _,rfl⟩,⟨rfl,⟨.rfl,.rfl,.rfl,.full,trivial⟩,rfl⟩,trivial⟩,rfl⟩
     ·refine F0.be hC rfl (A0.rows_map [o3,x3.1]).symm (n' ?_)
      refine C0.step rfl (j0:=0) (js:=[]) (by kernel_rfl) ⟨⟨_,rfl,?_⟩,trivial⟩
      refine e' rfl ?_
      refine C0.step rfl (j0:=5) (js:=[]) (by kernel_rfl) ⟨⟨_,rfl,?_⟩,trivial⟩
      refine e' rfl ?_
      refine C0.step rfl (j0:=6) (js:=[]) (by kernel_rfl) ⟨⟨_,rfl,?_⟩,trivial⟩
      refine F0.s hC rfl (n' (C0.nil (by kernel_rfl) ?_))
      refine A1.wk ?_ (ih11 _ _ _ hh)
      exact ⟨⟨⟨.rfl,rfl⟩,⟨.rfl,rfl⟩,⟨.rfl,rfl⟩,⟨.rfl,rfl⟩,trivial⟩,⟨⟨rfl,.refl _,rfl⟩,⟨rfl,.refl _,rfl⟩,⟨rfl,.refl _,rfl⟩,⟨rfl,⟨.rfl,.rfl,.rfl,.full,trivial⟩,rfl⟩,trivial⟩,rfl⟩
  ·refine e' rfl ?_
   refine C0.step rfl (j0:=0) (js:=[1,3]) (by kernel_rfl) ⟨⟨_,rfl,?_⟩,⟨_,rfl,?_⟩,⟨_,rfl,?_⟩,trivial⟩
   ·refine e' rfl ?_
    refine C0.step rfl (j0:=1) (js:=[3]) (by kernel_rfl) ⟨⟨_,rfl,?_⟩,⟨_,rfl,?_⟩,trivial⟩
    ·refine e' rfl ?_
     refine C0.step rfl (j0:=3) (js:=[]) (by kernel_rfl) ⟨⟨_,rfl,?_⟩,trivial⟩
     refine g' [0] ((ih12 _ _ hx3).ok) rfl rfl rfl rfl rfl rfl (n' ?_)
     refine C0.step rfl (j0:=4) (js:=[]) (by kernel_rfl) ⟨⟨_,rfl,?_⟩,trivial⟩
     refine F0.be hC rfl (A0.rows_map [o3,x3.1]).symm (n' ?_)
     refine C0.step rfl (j0:=5) (js:=[]) (by kernel_rfl) ⟨⟨_,rfl,?_⟩,trivial⟩
     refine e' rfl ?_
     refine C0.step rfl (j0:=6) (js:=[]) (by kernel_rfl) ⟨⟨_,rfl,?_⟩,trivial⟩
     refine F0.s hC rfl (n' (C0.nil (by kernel_rfl) ?_))
     refine A1.wk ?_ (ih11 _ _ _ hh)
     exact ⟨⟨⟨.rfl,rfl⟩,⟨.rfl,rfl⟩,⟨.rfl,rfl⟩,⟨.rfl,rfl⟩,trivial⟩,⟨⟨rfl,.refl _,rfl⟩,⟨rfl,.refl _,rfl⟩,⟨rfl,.refl _,rfl⟩,⟨rfl,⟨.rfl,.rfl,.rfl,.full,trivial⟩,rfl⟩,trivial⟩,rfl⟩
    ·refine g' [0] ((ih12 _ _ hx3).ok) rfl rfl rfl rfl rfl rfl (n' ?_)
     refine C0.step rfl (j0:=1) (js:=[]) (by kernel_rfl) ⟨⟨_,rfl,?_⟩,trivial⟩
     refine e' rfl ?_
     refine C0.step rfl (j0:=4) (js:=[]) (by kernel_rfl) ⟨⟨_,rfl,?_⟩,trivial⟩
     refine F0.be hC rfl (A0.rows_map [o3,x3.1]).symm (n' ?_)
     refine C0.step rfl (j0:=5) (js:=[]) (by kernel_rfl) ⟨⟨_,rfl,?_⟩,trivial⟩
     refine e' rfl ?_
     refine C0.step rfl (j0:=6) (js:=[]) (by kernel_rfl) ⟨⟨_,rfl,?_⟩,trivial⟩
     refine F0.s hC rfl (n' (C0.nil (by kernel_rfl) ?_))
     refine A1.wk ?_ (ih11 _ _ _ hh)
     exact ⟨⟨⟨.rfl,rfl⟩,⟨.rfl,rfl⟩,⟨.rfl,rfl⟩,⟨.rfl,rfl⟩,trivial⟩,⟨⟨rfl,.refl _,rfl⟩,⟨rfl,.refl _,rfl⟩,⟨rfl,.refl _,rfl⟩,⟨rfl,⟨.rfl,.rfl,.rfl,.full,trivial⟩,rfl⟩,trivial⟩,rfl⟩
   ·refine e' rfl ?_
    refine C0.step rfl (j0:=0) (js:=[3]) (by kernel_rfl) ⟨⟨_,rfl,?_⟩,⟨_,rfl,?_⟩,trivial⟩
    ·refine e' rfl ?_
     refine C0.step rfl (j0:=3) (js:=[]) (by kernel_rfl) ⟨⟨_,rfl,?_⟩,trivial⟩
     refine g' [0] ((ih12 _ _ hx3).ok) rfl rfl rfl rfl rfl rfl (n' ?_)
     refine C0.step rfl (j0:=4) (js:=[]) (by kernel_rfl) ⟨⟨_,rfl,?_⟩,trivial⟩
     refine F0.be hC rfl (A0.rows_map [o3,x3.1]).symm (n' ?_)
     refine C0.step rfl (j0:=5) (js:=[]) (by kernel_rfl) ⟨⟨_,rfl,?_⟩,trivial⟩
     refine e' rfl ?_
     refine C0.step rfl (j0:=6) (js:=[]) (by kernel_rfl) ⟨⟨_,rfl,?_⟩,trivial⟩
     refine F0.s hC rfl (n' (C0.nil (by kernel_rfl) ?_))
     refine A1.wk ?_ (ih11 _ _ _ hh)
     exact ⟨⟨⟨.rfl,rfl⟩,⟨.rfl,rfl⟩,⟨.rfl,rfl⟩,⟨.rfl,rfl⟩,trivial⟩,⟨⟨rfl,.refl _,rfl⟩,⟨rfl,.refl _,rfl⟩,⟨rfl,.refl _,rfl⟩,⟨rfl,⟨.rfl,.rfl,.rfl,.full,trivial⟩,rfl⟩,trivial⟩,rfl⟩
    ·refine g' [0] ((ih12 _ _ hx3).ok) rfl rfl rfl rfl rfl rfl (n' ?_)
     refine C0.step rfl (j0:=0) (js:=[4]) (by kernel_rfl) ⟨⟨_,rfl,?_⟩,⟨_,rfl,?_⟩,trivial⟩
     ·refine e' rfl ?_
      refine C0.step rfl (j0:=4) (js:=[]) (by kernel_rfl) ⟨⟨_,rfl,?_⟩,trivial⟩
      refine F0.be hC rfl (A0.rows_map [o3,x3.1]).symm (n' ?_)
      refine C0.step rfl (j0:=5) (js:=[]) (by kernel_rfl) ⟨⟨_,rfl,?_⟩,trivial⟩
      refine e' rfl ?_
      refine C0.step rfl (j0:=6) (js:=[]) (by kernel_rfl) ⟨⟨_,rfl,?_⟩,trivial⟩
      refine F0.s hC rfl (n' (C0.nil (by kernel_rfl) ?_))
      refine A1.wk ?_ (ih11 _ _ _ hh)
      exact ⟨⟨⟨.rfl,rfl⟩,⟨.rfl,rfl⟩,⟨.rfl,rfl⟩,⟨.rfl,rfl⟩,trivial⟩,⟨⟨rfl,.refl _,rfl⟩,⟨rfl,.refl _,rfl⟩,⟨rfl,.refl _,rfl⟩,⟨rfl,⟨.rfl,.rfl,.rfl,.full,trivial⟩,rfl⟩,trivial⟩,rfl⟩
     ·refine F0.be hC rfl (A0.rows_map [o3,x3.1]).symm (n' ?_)
      refine C0.step rfl (j0:=0) (js:=[]) (by kernel_rfl) ⟨⟨_,rfl,?_⟩,trivial⟩
      refine e' rfl ?_
      refine C0.step rfl (j0:=5) (js:=[]) (by kernel_rfl) ⟨⟨_,rfl,?_⟩,trivial⟩
      refine e' rfl ?_
      refine C0.step rfl (j0:=6) (js:=[]) (by kernel_rfl) ⟨⟨_,rfl,?_⟩,trivial⟩
      refine F0.s hC rfl (n' (C0.nil (by kernel_rfl) ?_))
      refine A1.wk ?_ (ih11 _ _ _ hh)
      exact ⟨⟨⟨.rfl,rfl⟩,⟨.rfl,rfl⟩,⟨.rfl,rfl⟩,⟨.rfl,rfl⟩,trivial⟩,⟨⟨rfl,.refl _,rfl⟩,⟨rfl,.refl _,rfl⟩,⟨rfl,.refl _,rfl⟩,⟨rfl,⟨.rfl,.rfl,.rfl,.full,trivial⟩,rfl⟩,trivial⟩,rfl⟩
   ·refine g' [0] ((ih12 _ _ hx3).ok) rfl rfl rfl rfl rfl rfl (n' ?_)
    refine C0.step rfl (j0:=0) (js:=[1]) (by kernel_rfl) ⟨⟨_,rfl,?_⟩,⟨_,rfl,?_⟩,trivial⟩
    ·refine e' rfl ?_
     refine C0.step rfl (j0:=1) (js:=[]) (by kernel_rfl) ⟨⟨_,rfl,?_⟩,trivial⟩
     refine e' rfl ?_
     refine C0.step rfl (j0:=4) (js:=[]) (by kernel_rfl) ⟨⟨_,rfl,?_⟩,trivial⟩
     refine F0.be hC rfl (A0.rows_map [o3,x3.1]).symm (n' ?_)
     refine C0.step rfl (j0:=5) (js:=[]) (by kernel_rfl) ⟨⟨_,rfl,?_⟩,trivial⟩
     refine e' rfl ?_
     refine C0.step rfl (j0:=6) (js:=[]) (by kernel_rfl) ⟨⟨_,rfl,?_⟩,trivial⟩
     refine F0.s hC rfl (n' (C0.nil (by kernel_rfl) ?_))
     refine A1.wk ?_ (ih11 _ _ _ hh)
     exact ⟨⟨⟨.rfl,rfl⟩,⟨.rfl,rfl⟩,⟨.rfl,rfl⟩,⟨.rfl,rfl⟩,trivial⟩,⟨⟨rfl,.refl _,rfl⟩,⟨rfl,.refl _,rfl⟩,⟨rfl,.refl _,rfl⟩,⟨rfl,⟨.rfl,.rfl,.rfl,.full,trivial⟩,rfl⟩,trivial⟩,rfl⟩
    ·refine e' rfl ?_
     refine C0.step rfl (j0:=0) (js:=[4]) (by kernel_rfl) ⟨⟨_,rfl,?_⟩,⟨_,rfl,?_⟩,trivial⟩
     ·refine e' rfl ?_
      refine C0.step rfl (j0:=4) (js:=[]) (by kernel_rfl) ⟨⟨_,rfl,?_⟩,trivial⟩
      refine F0.be hC rfl (A0.rows_map [o3,x3.1]).symm (n' ?_)
      refine C0.step rfl (j0:=5) (js:=[]) (by kernel_rfl) ⟨⟨_,rfl,?_⟩,trivial⟩
      refine e' rfl ?_
      refine C0.step rfl (j0:=6) (js:=[]) (by kernel_rfl) ⟨⟨_,rfl,?_⟩,trivial⟩
      refine F0.s hC rfl (n' (C0.nil (by kernel_rfl) ?_))
      refine A1.wk ?_ (ih11 _ _ _ hh)
      exact ⟨⟨⟨.rfl,rfl⟩,⟨.rfl,rfl⟩,⟨.rfl,rfl⟩,⟨.rfl,rfl⟩,trivial⟩,⟨⟨rfl,.refl _,rfl⟩,⟨rfl,.refl _,rfl⟩,⟨rfl,.refl _,rfl⟩,⟨rfl,⟨.rfl,.rfl,.rfl,.full,trivial⟩,rfl⟩,trivial⟩,rfl⟩
     ·refine F0.be hC rfl (A0.rows_map [o3,x3.1]).symm (n' ?_)
      refine C0.step rfl (j0:=0) (js:=[]) (by kernel_rfl) ⟨⟨_,rfl,?_⟩,trivial⟩
      refine e' rfl ?_
      refine C0.step rfl (j0:=5) (js:=[]) (by kernel_rfl) ⟨⟨_,rfl,?_⟩,trivial⟩
      refine e' rfl ?_
      refine C0.step rfl (j0:=6) (js:=[]) (by kernel_rfl) ⟨⟨_,rfl,?_⟩,trivial⟩
      refine F0.s hC rfl (n' (C0.nil (by kernel_rfl) ?_))
      refine A1.wk ?_ (ih11 _ _ _ hh)
      exact ⟨⟨⟨.rfl,rfl⟩,⟨.rfl,rfl⟩,⟨.rfl,rfl⟩,⟨.rfl,rfl⟩,trivial⟩,⟨⟨rfl,.refl _,rfl⟩,⟨rfl,.refl _,rfl⟩,⟨rfl,.refl _,rfl⟩,⟨rfl,⟨.rfl,.rfl,.rfl,.full,trivial⟩,rfl⟩,trivial⟩,rfl⟩
 ·intro g13 ih13 parserParser res hh
  refine C2.intro hC Tryz.func203 rfl rfl rfl (s' rfl rfl (F0.n hC rfl (F0.nf hC rfl (n' (p' 4 rfl ?_)))))
  rcases bp' hh with ⟨nn,hx1,⟨⟩⟩ | ⟨x1,hx1,hh⟩
  ·exact gn' [0,1] (ih13 _ _ hx1) rfl rfl rfl rfl rfl (fun hi=>peW ⟨trivial,trivial⟩ rfl hi)
  cases hh
  exact g' [0,1] ((ih13 _ _ hx1).ok) rfl rfl rfl rfl rfl rfl (F0.s hC rfl (n' (re' (rt' rfl rfl rfl))))
 ·intro g14 g15 ih14 ih15 parserParser res hh
  refine C2.intro hC Tryz.func110 rfl rfl rfl (s' rfl rfl (F0.nf hC rfl (n' (p' 1 rfl ?_))))
  rcases bp' hh with ⟨nn,hx1,⟨⟩⟩ | ⟨x1,hx1,hh⟩
  ·exact gn' [0] (ih15 _ _ hx1) rfl rfl rfl rfl rfl (fun hi=>peW ⟨trivial,⟨rfl,.refl _,rfl⟩,trivial⟩ rfl hi)
  exact g' [0] ((ih15 _ _ hx1).ok) rfl rfl rfl rfl rfl rfl (F0.nf hC rfl (F0.s hC rfl (n' (bk' (fw' (ih14 _ _ _ hh) rfl rfl rfl)))))
 ·intro g14 g15 ih14 ih15 o0 o3 res hh
  obtain ⟨x2,hx2,hh⟩:=bs' hh
  refine A1.unroll (bk' (p' 1 rfl (g' [1,0] (Cq hx2) rfl rfl rfl rfl rfl rfl (e' rfl (S' (t' rfl (ci' rfl hh (fun hh=>?_) (fun hh=>?_))))))))
  ·cases hh
   exact p' 1 rfl (F0.s hC rfl (n' (re' (rt' rfl rfl rfl))))
  refine sk' ?_
  rcases bp' hh with ⟨nn,hx3,⟨⟩⟩ | ⟨x3,hx3,hh⟩
  ·refine AEx.drawE hC ?_
   refine C0.step rfl (j0:=0) (js:=[1,2]) (by kernel_rfl) ⟨⟨_,rfl,?_⟩,⟨_,rfl,?_⟩,⟨_,rfl,?_⟩,trivial⟩
   ·refine e' rfl ?_
    refine C0.step rfl (j0:=1) (js:=[2]) (by kernel_rfl) ⟨⟨_,rfl,?_⟩,⟨_,rfl,?_⟩,trivial⟩
    ·refine e' rfl ?_
     refine C0.step rfl (j0:=2) (js:=[]) (by kernel_rfl) ⟨⟨_,rfl,?_⟩,trivial⟩
     refine e' rfl ?_
     refine C0.step rfl (j0:=3) (js:=[]) (by kernel_rfl) ⟨⟨_,rfl,?_⟩,trivial⟩
     exact gn' [0] (ih15 _ _ hx3) rfl rfl rfl rfl rfl (fun hi=>peW ⟨trivial,⟨rfl,.refl _,rfl⟩,trivial⟩ rfl hi)
    ·refine e' rfl ?_
     refine C0.step rfl (j0:=1) (js:=[3]) (by kernel_rfl) ⟨⟨_,rfl,?_⟩,⟨_,rfl,?_⟩,trivial⟩
     ·refine e' rfl ?_
      refine C0.step rfl (j0:=3) (js:=[]) (by kernel_rfl) ⟨⟨_,rfl,?_⟩,trivial⟩
      exact gn' [0] (ih15 _ _ hx3) rfl rfl rfl rfl rfl (fun hi=>peW ⟨trivial,⟨rfl,.refl _,rfl⟩,trivial⟩ rfl hi)
     ·exact gn' [0] (ih15 _ _ hx3) rfl rfl rfl rfl rfl (fun hi=>peW ⟨trivial,⟨rfl,.refl _,rfl⟩,trivial⟩ rfl hi)
   ·refine e' rfl ?_
    refine C0.step rfl (j0:=0) (js:=[2]) (by kernel_rfl) ⟨⟨_,rfl,?_⟩,⟨_,rfl,?_⟩,trivial⟩
    ·refine e' rfl ?_
     refine C0.step rfl (j0:=2) (js:=[]) (by kernel_rfl) ⟨⟨_,rfl,?_⟩,trivial⟩
     refine e' rfl ?_
     refine C0.step rfl (j0:=3) (js:=[]) (by kernel_rfl) ⟨⟨_,rfl,?_⟩,trivial⟩
     exact gn' [0] (ih15 _ _ hx3) rfl rfl rfl rfl rfl (fun hi=>peW ⟨trivial,⟨rfl,.refl _,rfl⟩,trivial⟩ rfl hi)
    ·refine e' rfl ?_
     refine C0.step rfl (j0:=0) (js:=[3]) (by kernel_rfl) ⟨⟨_,rfl,?_⟩,⟨_,rfl,?_⟩,trivial⟩
     ·refine e' rfl ?_
      refine C0.step rfl (j0:=3) (js:=[]) (by kernel_rfl) ⟨⟨_,rfl,?_⟩,trivial⟩
      exact gn' [0] (ih15 _ _ hx3) rfl rfl rfl rfl rfl (fun hi=>peW ⟨trivial,⟨rfl,.refl _,rfl⟩,trivial⟩ rfl hi)
     ·exact gn' [0] (ih15 _ _ hx3) rfl rfl rfl rfl rfl (fun hi=>peW ⟨trivial,⟨rfl,.refl _,rfl⟩,trivial⟩ rfl hi)
   ·refine e' rfl ?_
    refine C0.step rfl (j0:=0) (js:=[1,3]) (by kernel_rfl) ⟨⟨_,rfl,?_⟩,⟨_,rfl,?_⟩,⟨_,rfl,?_⟩,trivial⟩
    ·refine e' rfl ?_
     refine C0.step rfl (j0:=1) (js:=[3]) (by kernel_rfl) ⟨⟨_,rfl,?_⟩,⟨_,rfl,?_⟩,trivial⟩
     ·refine e' rfl ?_
      refine C0.step rfl (j0:=3) (js:=[]) (by kernel_rfl) ⟨⟨_,rfl,?_⟩,trivial⟩
      exact gn' [0] (ih15 _ _ hx3) rfl rfl rfl rfl rfl (fun hi=>peW ⟨trivial,⟨rfl,.refl _,rfl⟩,trivial⟩ rfl hi)
     ·exact gn' [0] (ih15 _ _ hx3) rfl rfl rfl rfl rfl (fun hi=>peW ⟨trivial,⟨rfl,.refl _,rfl⟩,trivial⟩ rfl hi)
    ·refine e' rfl ?_
     refine C0.step rfl (j0:=0) (js:=[3]) (by kernel_rfl) ⟨⟨_,rfl,?_⟩,⟨_,rfl,?_⟩,trivial⟩
     ·refine e' rfl ?_
      refine C0.step rfl (j0:=3) (js:=[]) (by kernel_rfl) ⟨⟨_,rfl,?_⟩,trivial⟩
      exact gn' [0] (ih15 _ _ hx3) rfl rfl rfl rfl rfl (fun hi=>peW ⟨trivial,⟨rfl,.refl _,rfl⟩,trivial⟩ rfl hi)
     ·exact gn' [0] (ih15 _ _ hx3) rfl rfl rfl rfl rfl (fun hi=>peW ⟨trivial,⟨rfl,.refl _,rfl⟩,trivial⟩ rfl hi)
    ·exact gn' [0] (ih15 _ _ hx3) rfl rfl rfl rfl rfl (fun hi=>peW ⟨trivial,⟨rfl,.refl _,rfl⟩,trivial⟩ rfl hi)
  refine AEx.drawE hC ?_
  refine C0.step rfl (j0:=0) (js:=[1,2]) (by kernel_rfl) ⟨⟨_,rfl,?_⟩,⟨_,rfl,?_⟩,⟨_,rfl,?_⟩,trivial⟩
  ·refine e' rfl ?_
   refine C0.step rfl (j0:=1) (js:=[2]) (by kernel_rfl) ⟨⟨_,rfl,?_⟩,⟨_,rfl,?_⟩,trivial⟩
   ·refine e' rfl ?_
    refine C0.step rfl (j0:=2) (js:=[]) (by kernel_rfl) ⟨⟨_,rfl,?_⟩,trivial⟩
    refine e' rfl ?_
    refine C0.step rfl (j0:=3) (js:=[]) (by kernel_rfl) ⟨⟨_,rfl,?_⟩,trivial⟩
    refine g' [0] ((ih15 _ _ hx3).ok) rfl rfl rfl rfl rfl rfl (n' ?_)
    refine C0.step rfl (j0:=4) (js:=[]) (by kernel_rfl) ⟨⟨_,rfl,?_⟩,trivial⟩
    refine F0.be hC rfl (A0.rows_map [o3,x3.1]).symm (n' ?_)
    refine C0.step rfl (j0:=5) (js:=[]) (by kernel_rfl) ⟨⟨_,rfl,?_⟩,trivial⟩
    refine e' rfl ?_
    refine C0.step rfl (j0:=6) (js:=[]) (by kernel_rfl) ⟨⟨_,rfl,?_⟩,trivial⟩
    refine F0.s hC rfl (n' (C0.nil (by kernel_rfl) ?_))
    refine A1.wk ?_ (ih14 _ _ _ hh)
    exact ⟨⟨⟨.rfl,rfl⟩,⟨.rfl,rfl⟩,⟨.rfl,rfl⟩,⟨.rfl,rfl⟩,trivial⟩,⟨⟨rfl,.refl _,rfl⟩,⟨rfl,.refl _,rfl⟩,⟨rfl,.refl _,rfl⟩,⟨rfl,⟨.rfl,.rfl,.rfl,.full,trivial⟩,rfl⟩,trivial⟩,rfl⟩
   ·refine e' rfl ?_
    refine C0.step rfl (j0:=1) (js:=[3]) (by kernel_rfl) ⟨⟨_,rfl,?_⟩,⟨_,rfl,?_⟩,trivial⟩
    ·refine e' rfl ?_
     refine C0.step rfl (j0:=3) (js:=[]) (by kernel_rfl) ⟨⟨_,rfl,?_⟩,trivial⟩
     refine g' [0] ((ih15 _ _ hx3).ok) rfl rfl rfl rfl rfl rfl (n' ?_)
     refine C0.step rfl (j0:=4) (js:=[]) (by kernel_rfl) ⟨⟨_,rfl,?_⟩,trivial⟩
     refine F0.be hC rfl (A0.rows_map [o3,x3.1]).symm (n' ?_)
     refine C0.step rfl (j0:=5) (js:=[]) (by kernel_rfl) ⟨⟨_,rfl,?_⟩,trivial⟩
     refine e' rfl ?_
     refine C0.step rfl (j0:=6) (js:=[]) (by kernel_rfl) ⟨⟨_,rfl,?_⟩,trivial⟩
     refine F0.s hC rfl (n' (C0.nil (by kernel_rfl) ?_))
     refine A1.wk ?_ (ih14 _ _ _ hh)
     exact ⟨⟨⟨.rfl,rfl⟩,⟨.rfl,rfl⟩,⟨.rfl,rfl⟩,⟨.rfl,rfl⟩,trivial⟩,⟨⟨rfl,.refl _,rfl⟩,⟨rfl,.refl _,rfl⟩,⟨rfl,.refl _,rfl⟩,⟨rfl,⟨.rfl,.rfl,.rfl,.full,trivial⟩,rfl⟩,trivial⟩,rfl⟩
    ·refine g' [0] ((ih15 _ _ hx3).ok) rfl rfl rfl rfl rfl rfl (n' ?_)
     refine C0.step rfl (j0:=1) (js:=[]) (by kernel_rfl) ⟨⟨_,rfl,?_⟩,trivial⟩
     refine e' rfl ?_
     refine C0.step rfl (j0:=4) (js:=[]) (by kernel_rfl) ⟨⟨_,rfl,?_⟩,trivial⟩
     refine F0.be hC rfl (A0.rows_map [o3,x3.1]).symm (n' ?_)
     refine C0.step rfl (j0:=5) (js:=[]) (by kernel_rfl) ⟨⟨_,rfl,?_⟩,trivial⟩
     refine e' rfl ?_
     refine C0.step rfl (j0:=6) (js:=[]) (by kernel_rfl) ⟨⟨_,rfl,?_⟩,trivial⟩
     refine F0.s hC rfl (n' (C0.nil (by kernel_rfl) ?_))
     refine A1.wk ?_ (ih14 _ _ _ hh)
     exact ⟨⟨⟨.rfl,rfl⟩,⟨.rfl,rfl⟩,⟨.rfl,rfl⟩,⟨.rfl,rfl⟩,trivial⟩,⟨⟨rfl,.refl _,rfl⟩,⟨rfl,.refl _,rfl⟩,⟨rfl,.refl _,rfl⟩,⟨rfl,⟨.rfl,.rfl,.rfl,.full,trivial⟩,rfl⟩,trivial⟩,rfl⟩
  ·refine e' rfl ?_
   refine C0.step rfl (j0:=0) (js:=[2]) (by kernel_rfl) ⟨⟨_,rfl,?_⟩,⟨_,rfl,?_⟩,trivial⟩
   ·refine e' rfl ?_
    refine C0.step rfl (j0:=2) (js:=[]) (by kernel_rfl) ⟨⟨_,rfl,?_⟩,trivial⟩
    refine e' rfl ?_
    refine C0.step rfl (j0:=3) (js:=[]) (by kernel_rfl) ⟨⟨_,rfl,?_⟩,trivial⟩
    refine g' [0] ((ih15 _ _ hx3).ok) rfl rfl rfl rfl rfl rfl (n' ?_)
    refine C0.step rfl (j0:=4) (js:=[]) (by kernel_rfl) ⟨⟨_,rfl,?_⟩,trivial⟩
    refine F0.be hC rfl (A0.rows_map [o3,x3.1]).symm (n' ?_)
    refine C0.step rfl (j0:=5) (js:=[]) (by kernel_rfl) ⟨⟨_,rfl,?_⟩,trivial⟩
    refine e' rfl ?_
    refine C0.step rfl (j0:=6) (js:=[]) (by kernel_rfl) ⟨⟨_,rfl,?_⟩,trivial⟩
    refine F0.s hC rfl (n' (C0.nil (by kernel_rfl) ?_))
    refine A1.wk ?_ (ih14 _ _ _ hh)
    exact ⟨⟨⟨.rfl,rfl⟩,⟨.rfl,rfl⟩,⟨.rfl,rfl⟩,⟨.rfl,rfl⟩,trivial⟩,⟨⟨rfl,.refl _,rfl⟩,⟨rfl,.refl _,rfl⟩,⟨rfl,.refl _,rfl⟩,⟨rfl,⟨.rfl,.rfl,.rfl,.full,trivial⟩,rfl⟩,trivial⟩,rfl⟩
   ·refine e' rfl ?_
    refine C0.step rfl (j0:=0) (js:=[3]) (by kernel_rfl) ⟨⟨_,rfl,?_⟩,⟨_,rfl,?_⟩,trivial⟩
    ·refine e' rfl ?_
     refine C0.step rfl (j0:=3) (js:=[]) (by kernel_rfl) ⟨⟨_,rfl,?_⟩,trivial⟩
     refine g' [0] ((ih15 _ _ hx3).ok) rfl rfl rfl rfl rfl rfl (n' ?_)
     refine C0.step rfl (j0:=4) (js:=[]) (by kernel_rfl) ⟨⟨_,rfl,?_⟩,trivial⟩
     refine F0.be hC rfl (A0.rows_map [o3,x3.1]).symm (n' ?_)
     refine C0.step rfl (j0:=5) (js:=[]) (by kernel_rfl) ⟨⟨_,rfl,?_⟩,trivial⟩
     refine e' rfl ?_
     refine C0.step rfl (j0:=6) (js:=[]) (by kernel_rfl) ⟨⟨_,rfl,?_⟩,trivial⟩
     refine F0.s hC rfl (n' (C0.nil (by kernel_rfl) ?_))
     refine A1.wk ?_ (ih14 _ _ _ hh)
     exact ⟨⟨⟨.rfl,rfl⟩,⟨.rfl,rfl⟩,⟨.rfl,rfl⟩,⟨.rfl,rfl⟩,trivial⟩,⟨⟨rfl,.refl _,rfl⟩,⟨rfl,.refl _,rfl⟩,⟨rfl,.refl _,rfl⟩,⟨rfl,⟨.rfl,.rfl,.rfl,.full,trivial⟩,rfl⟩,trivial⟩,rfl⟩
    ·refine g' [0] ((ih15 _ _ hx3).ok) rfl rfl rfl rfl rfl rfl (n' ?_)
     refine C0.step rfl (j0:=0) (js:=[4]) (by kernel_rfl) ⟨⟨_,rfl,?_⟩,⟨_,rfl,?_⟩,trivial⟩
     ·refine e' rfl ?_
      refine C0.step rfl (j0:=4) (js:=[]) (by kernel_rfl) ⟨⟨_,rfl,?_⟩,trivial⟩
      refine F0.be hC rfl (A0.rows_map [o3,x3.1]).symm (n' ?_)
      refine C0.step rfl (j0:=5) (js:=[]) (by kernel_rfl) ⟨⟨_,rfl,?_⟩,trivial⟩
      refine e' rfl ?_
      refine C0.step rfl (j0:=6) (js:=[]) (by kernel_rfl) ⟨⟨_,rfl,?_⟩,trivial⟩
      refine F0.s hC rfl (n' (C0.nil (by kernel_rfl) ?_))
      refine A1.wk ?_ (ih14 _ _ _ hh)
      exact ⟨⟨⟨.rfl,rfl⟩,⟨.rfl,rfl⟩,⟨.rfl,rfl⟩,⟨.rfl,rfl⟩,trivial⟩,⟨⟨rfl,.refl _,rfl⟩,⟨rfl,.refl _,rfl⟩,⟨rfl,.refl _,rfl⟩,⟨rfl,⟨.rfl,.rfl,.rfl,.full,trivial⟩,rfl⟩,trivial⟩,rfl⟩
     ·refine F0.be hC rfl (A0.rows_map [o3,x3.1]).symm (n' ?_)
      refine C0.step rfl (j0:=0) (js:=[]) (by kernel_rfl) ⟨⟨_,rfl,?_⟩,trivial⟩
      refine e' rfl ?_
      refine C0.step rfl (j0:=5) (js:=[]) (by kernel_rfl) ⟨⟨_,rfl,?_⟩,trivial⟩
      refine e' rfl ?_
      refine C0.step rfl (j0:=6) (js:=[]) (by kernel_rfl) ⟨⟨_,rfl,?_⟩,trivial⟩
      refine F0.s hC rfl (n' (C0.nil (by kernel_rfl) ?_))
      refine A1.wk ?_ (ih14 _ _ _ hh)
      exact ⟨⟨⟨.rfl,rfl⟩,⟨.rfl,rfl⟩,⟨.rfl,rfl⟩,⟨.rfl,rfl⟩,trivial⟩,⟨⟨rfl,.refl _,rfl⟩,⟨rfl,.refl _,rfl⟩,⟨rfl,.refl _,rfl⟩,⟨rfl,⟨.rfl,.rfl,.rfl,.full,trivial⟩,rfl⟩,trivial⟩,rfl⟩
  ·refine e' rfl ?_
   refine C0.step rfl (j0:=0) (js:=[1,3]) (by kernel_rfl) ⟨⟨_,rfl,?_⟩,⟨_,rfl,?_⟩,⟨_,rfl,?_⟩,trivial⟩
   ·refine e' rfl ?_
    refine C0.step rfl (j0:=1) (js:=[3]) (by kernel_rfl) ⟨⟨_,rfl,?_⟩,⟨_,rfl,?_⟩,trivial⟩
    ·refine e' rfl ?_
     refine C0.step rfl (j0:=3) (js:=[]) (by kernel_rfl) ⟨⟨_,rfl,?_⟩,trivial⟩
     refine g' [0] ((ih15 _ _ hx3).ok) rfl rfl rfl rfl rfl rfl (n' ?_)
     refine C0.step rfl (j0:=4) (js:=[]) (by kernel_rfl) ⟨⟨_,rfl,?_⟩,trivial⟩
     refine F0.be hC rfl (A0.rows_map [o3,x3.1]).symm (n' ?_)
     refine C0.step rfl (j0:=5) (js:=[]) (by kernel_rfl) ⟨⟨_,rfl,?_⟩,trivial⟩
     refine e' rfl ?_
     refine C0.step rfl (j0:=6) (js:=[]) (by kernel_rfl) ⟨⟨_,rfl,?_⟩,trivial⟩
     refine F0.s hC rfl (n' (C0.nil (by kernel_rfl) ?_))
     refine A1.wk ?_ (ih14 _ _ _ hh)
     exact ⟨⟨⟨.rfl,rfl⟩,⟨.rfl,rfl⟩,⟨.rfl,rfl⟩,⟨.rfl,rfl⟩,trivial⟩,⟨⟨rfl,.refl _,rfl⟩,⟨rfl,.refl _,rfl⟩,⟨rfl,.refl _,rfl⟩,⟨rfl,⟨.rfl,.rfl,.rfl,.full,trivial⟩,rfl⟩,trivial⟩,rfl⟩
    ·refine g' [0] ((ih15 _ _ hx3).ok) rfl rfl rfl rfl rfl rfl (n' ?_)
     refine C0.step rfl (j0:=1) (js:=[]) (by kernel_rfl) ⟨⟨_,rfl,?_⟩,trivial⟩
     refine e' rfl ?_
     refine C0.step rfl (j0:=4) (js:=[]) (by kernel_rfl) ⟨⟨_,rfl,?_⟩,trivial⟩
     refine F0.be hC rfl (A0.rows_map [o3,x3.1]).symm (n' ?_)
     refine C0.step rfl (j0:=5) (js:=[]) (by kernel_rfl) ⟨⟨_,rfl,?_⟩,trivial⟩
     refine e' rfl ?_
     refine C0.step rfl (j0:=6) (js:=[]) (by kernel_rfl) ⟨⟨_,rfl,?_⟩,trivial⟩
     refine F0.s hC rfl (n' (C0.nil (by kernel_rfl) ?_))
     refine A1.wk ?_ (ih14 _ _ _ hh)
     exact ⟨⟨⟨.rfl,rfl⟩,⟨.rfl,rfl⟩,⟨.rfl,rfl⟩,⟨.rfl,rfl⟩,trivial⟩,⟨⟨rfl,.refl _,rfl⟩,⟨rfl,.refl _,rfl⟩,⟨rfl,.refl _,rfl⟩,⟨rfl,⟨.rfl,.rfl,.rfl,.full,trivial⟩,rfl⟩,trivial⟩,rfl⟩
   ·refine e' rfl ?_
    refine C0.step rfl (j0:=0) (js:=[3]) (by kernel_rfl) ⟨⟨_,rfl,?_⟩,⟨_,rfl,?_⟩,trivial⟩
    ·refine e' rfl ?_
     refine C0.step rfl (j0:=3) (js:=[]) (by kernel_rfl) ⟨⟨_,rfl,?_⟩,trivial⟩
     refine g' [0] ((ih15 _ _ hx3).ok) rfl rfl rfl rfl rfl rfl (n' ?_)
     refine C0.step rfl (j0:=4) (js:=[]) (by kernel_rfl) ⟨⟨_,rfl,?_⟩,trivial⟩
     refine F0.be hC rfl (A0.rows_map [o3,x3.1]).symm (n' ?_)
     refine C0.step rfl (j0:=5) (js:=[]) (by kernel_rfl) ⟨⟨_,rfl,?_⟩,trivial⟩
     refine e' rfl ?_
     refine C0.step rfl (j0:=6) (js:=[]) (by kernel_rfl) ⟨⟨_,rfl,?_⟩,trivial⟩
     refine F0.s hC rfl (n' (C0.nil (by kernel_rfl) ?_))
     refine A1.wk ?_ (ih14 _ _ _ hh)
     exact ⟨⟨⟨.rfl,rfl⟩,⟨.rfl,rfl⟩,⟨.rfl,rfl⟩,⟨.rfl,rfl⟩,trivial⟩,⟨⟨rfl,.refl _,rfl⟩,⟨rfl,.refl _,rfl⟩,⟨rfl,.refl _,rfl⟩,⟨rfl,⟨.rfl,.rfl,.rfl,.full,trivial⟩,rfl⟩,trivial⟩,rfl⟩
    ·refine g' [0] ((ih15 _ _ hx3).ok) rfl rfl rfl rfl rfl rfl (n' ?_)
     refine C0.step rfl (j0:=0) (js:=[4]) (by kernel_rfl) ⟨⟨_,rfl,?_⟩,⟨_,rfl,?_⟩,trivial⟩
     ·refine e' rfl ?_
      refine C0.step rfl (j0:=4) (js:=[]) (by kernel_rfl) ⟨⟨_,rfl,?_⟩,trivial⟩
      refine F0.be hC rfl (A0.rows_map [o3,x3.1]).symm (n' ?_)
      refine C0.step rfl (j0:=5) (js:=[]) (by kernel_rfl) ⟨⟨_,rfl,?_⟩,trivial⟩
      refine e' rfl ?_
      refine C0.step rfl (j0:=6) (js:=[]) (by kernel_rfl) ⟨⟨_,rfl,?_⟩,trivial⟩
      refine F0.s hC rfl (n' (C0.nil (by kernel_rfl) ?_))
      refine A1.wk ?_ (ih14 _ _ _ hh)
      exact ⟨⟨⟨.rfl,rfl⟩,⟨.rfl,rfl⟩,⟨.rfl,rfl⟩,⟨.rfl,rfl⟩,trivial⟩,⟨⟨rfl,.refl _,rfl⟩,⟨rfl,.refl _,rfl⟩,⟨rfl,.refl _,rfl⟩,⟨rfl,⟨.rfl,.rfl,.rfl,.full,trivial⟩,rfl⟩,trivial⟩,rfl⟩
     ·refine F0.be hC rfl (A0.rows_map [o3,x3.1]).symm (n' ?_)
      refine C0.step rfl (j0:=0) (js:=[]) (by kernel_rfl) ⟨⟨_,rfl,?_⟩,trivial⟩
      refine e' rfl ?_
      refine C0.step rfl (j0:=5) (js:=[]) (by kernel_rfl) ⟨⟨_,rfl,?_⟩,trivial⟩
      refine e' rfl ?_
      refine C0.step rfl (j0:=6) (js:=[]) (by kernel_rfl) ⟨⟨_,rfl,?_⟩,trivial⟩
      refine F0.s hC rfl (n' (C0.nil (by kernel_rfl) ?_))
      refine A1.wk ?_ (ih14 _ _ _ hh)
      exact ⟨⟨⟨.rfl,rfl⟩,⟨.rfl,rfl⟩,⟨.rfl,rfl⟩,⟨.rfl,rfl⟩,trivial⟩,⟨⟨rfl,.refl _,rfl⟩,⟨rfl,.refl _,rfl⟩,⟨rfl,.refl _,rfl⟩,⟨rfl,⟨.rfl,.rfl,.rfl,.full,trivial⟩,rfl⟩,trivial⟩,rfl⟩
   ·refine g' [0] ((ih15 _ _ hx3).ok) rfl rfl rfl rfl rfl rfl (n' ?_)
    refine C0.step rfl (j0:=0) (js:=[1]) (by kernel_rfl) ⟨⟨_,rfl,?_⟩,⟨_,rfl,?_⟩,trivial⟩
    ·refine e' rfl ?_
     refine C0.step rfl (j0:=1) (js:=[]) (by kernel_rfl) ⟨⟨_,rfl,?_⟩,trivial⟩
     refine e' rfl ?_
     refine C0.step rfl (j0:=4) (js:=[]) (by kernel_rfl) ⟨⟨_,rfl,?_⟩,trivial⟩
     refine F0.be hC rfl (A0.rows_map [o3,x3.1]).symm (n' ?_)
     refine C0.step rfl (j0:=5) (js:=[]) (by kernel_rfl) ⟨⟨_,rfl,?_⟩,trivial⟩
     refine e' rfl ?_
     refine C0.step rfl (j0:=6) (js:=[]) (by kernel_rfl) ⟨⟨_,rfl,?_⟩,trivial⟩
     refine F0.s hC rfl (n' (C0.nil (by kernel_rfl) ?_))
     refine A1.wk ?_ (ih14 _ _ _ hh)
     exact ⟨⟨⟨.rfl,rfl⟩,⟨.rfl,rfl⟩,⟨.rfl,rfl⟩,⟨.rfl,rfl⟩,trivial⟩,⟨⟨rfl,.refl _,rfl⟩,⟨rfl,.refl _,rfl⟩,⟨rfl,.refl _,rfl⟩,⟨rfl,⟨.rfl,.rfl,.rfl,.full,trivial⟩,rfl⟩,trivial⟩,rfl⟩
    ·refine e' rfl ?_
     refine C0.step rfl (j0:=0) (js:=[4]) (by kernel_rfl) ⟨⟨_,rfl,?_⟩,⟨_,rfl,?_⟩,trivial⟩
     ·refine e' rfl ?_
      refine C0.step rfl (j0:=4) (js:=[]) (by kernel_rfl) ⟨⟨_,rfl,?_⟩,trivial⟩
      refine F0.be hC rfl (A0.rows_map [o3,x3.1]).symm (n' ?_)
      refine C0.step rfl (j0:=5) (js:=[]) (by kernel_rfl) ⟨⟨_,rfl,?_⟩,trivial⟩
      refine e' rfl ?_
      refine C0.step rfl (j0:=6) (js:=[]) (by kernel_rfl) ⟨⟨_,rfl,?_⟩,trivial⟩
      refine F0.s hC rfl (n' (C0.nil (by kernel_rfl) ?_))
      refine A1.wk ?_ (ih14 _ _ _ hh)
      exact ⟨⟨⟨.rfl,rfl⟩,⟨.rfl,rfl⟩,⟨.rfl,rfl⟩,⟨.rfl,rfl⟩,trivial⟩,⟨⟨rfl,.refl _,rfl⟩,⟨rfl,.refl _,rfl⟩,⟨rfl,.refl _,rfl⟩,⟨rfl,⟨.rfl,.rfl,.rfl,.full,trivial⟩,rfl⟩,trivial⟩,rfl⟩
     ·refine F0.be hC rfl (A0.rows_map [o3,x3.1]).symm (n' ?_)
      refine C0.step rfl (j0:=0) (js:=[]) (by kernel_rfl) ⟨⟨_,rfl,?_⟩,trivial⟩
      refine e' rfl ?_
      refine C0.step rfl (j0:=5) (js:=[]) (by kernel_rfl) ⟨⟨_,rfl,?_⟩,trivial⟩
      refine e' rfl ?_
      refine C0.step rfl (j0:=6) (js:=[]) (by kernel_rfl) ⟨⟨_,rfl,?_⟩,trivial⟩
      refine F0.s hC rfl (n' (C0.nil (by kernel_rfl) ?_))
      refine A1.wk ?_ (ih14 _ _ _ hh)
      exact ⟨⟨⟨.rfl,rfl⟩,⟨.rfl,rfl⟩,⟨.rfl,rfl⟩,⟨.rfl,rfl⟩,trivial⟩,⟨⟨rfl,.refl _,rfl⟩,⟨rfl,.refl _,rfl⟩,⟨rfl,.refl _,rfl⟩,⟨rfl,⟨.rfl,.rfl,.rfl,.full,trivial⟩,rfl⟩,trivial⟩,rfl⟩
 ·intro g15 g16 ih15 ih16 parserParser res hh
  obtain ⟨x1,hx1,hh⟩:=bs' hh
  refine C2.intro hC Tryz.func214 rfl rfl rfl (s' rfl rfl (F0.nf hC rfl (n' (S' (bk' (p' 1 rfl (g' [0] (P0 hx1) rfl rfl rfl rfl rfl rfl (e' rfl (ci' rfl hh (fun hh=>?_) (fun hh=>?_))))))))))
  ·refine p' 1 rfl ?_
   rcases bp' hh with ⟨nn,hx4,⟨⟩⟩ | ⟨x4,hx4,hh⟩
   ·exact gn' [0] (ih15 _ _ hx4) rfl rfl rfl rfl rfl (fun hi=>peW ⟨trivial,trivial⟩ rfl hi)
   refine g' [0] ((ih15 _ _ hx4).ok) rfl rfl rfl rfl rfl rfl (F0.be hC rfl (A0.rows_map [x4.1]).symm (q' rfl (F0.s hC rfl (n' (re' ?_)))))
   obtain rfl:=oi' hh
   exact ⟨_,.agg [.d (.int .i64 6),.d (.int .i64 0),.d (.str []),.d (.sl (A0.rows [x4.1]))],[.row (B0.cells x4.2) 99],rfl,(.aggL ⟨.rfl,.rfl,.rfl,.full,trivial⟩),⟨⟨rfl,.refl _,rfl⟩,trivial⟩,rfl,rfl,rpq rfl rfl⟩
  obtain ⟨x2,hx2,hh⟩:=bs' hh
  refine p' 1 rfl (g' [0] (P0 hx2) rfl rfl rfl rfl rfl rfl (e' rfl (ci' rfl hh (fun hh=>?_) (fun hh=>?_))))
  ·refine p' 1 rfl ?_
   rcases bp' hh with ⟨nn,hx5,⟨⟩⟩ | ⟨x5,hx5,hh⟩
   ·exact gn' [0] (ih15 _ _ hx5) rfl rfl rfl rfl rfl (fun hi=>peW ⟨trivial,trivial⟩ rfl hi)
   refine g' [0] ((ih15 _ _ hx5).ok) rfl rfl rfl rfl rfl rfl (F0.be hC rfl (A0.rows_map [x5.1]).symm (q' rfl (F0.s hC rfl (n' (re' ?_)))))
   obtain rfl:=oi' hh
   exact ⟨_,.agg [.d (.int .i64 7),.d (.int .i64 0),.d (.str []),.d (.sl (A0.rows [x5.1]))],[.row (B0.cells x5.2) 99],rfl,(.aggL ⟨.rfl,.rfl,.rfl,.full,trivial⟩),⟨⟨rfl,.refl _,rfl⟩,trivial⟩,rfl,rfl,rpq rfl rfl⟩
  refine sk' (p' 1 rfl ?_)
  rcases bp' hh with ⟨nn,hx3,⟨⟩⟩ | ⟨x3,hx3,hh⟩
  ·exact gn' [0] (ih16 _ _ hx3) rfl rfl rfl rfl rfl (fun hi=>peW ⟨trivial,trivial⟩ rfl hi)
  cases hh
  exact g' [0] ((ih16 _ _ hx3).ok) rfl rfl rfl rfl rfl rfl (F0.s hC rfl (n' (re' (rt' rfl rfl rfl))))
 ·intro g0 g17 g18 ih0 ih17 ih18 parserParser res hh
  obtain ⟨x1,hx1,hh⟩:=bs' hh
  refine C2.intro hC Tryz.func223 rfl rfl rfl (s' rfl rfl (F0.nf hC rfl (n' (S' (bk' (p' 1 rfl (g' [0] (We hx1) rfl rfl rfl rfl rfl rfl (e' rfl (ci' rfl hh (fun hh=>?_) (fun hh=>?_))))))))))
  ·refine p' 1 rfl ?_
   rcases bp' hh with ⟨nn,hx2,⟨⟩⟩ | ⟨x2,hx2,hh⟩
   ·exact gn' [0] (ih18 _ _ hx2) rfl rfl rfl rfl rfl (fun hi=>peW ⟨trivial,trivial⟩ rfl hi)
   cases hh
   exact g' [0] ((ih18 _ _ hx2).ok) rfl rfl rfl rfl rfl rfl (F0.s hC rfl (n' (re' (rt' rfl rfl rfl))))
  obtain ⟨x3,hx3,hh⟩:=bs' hh
  refine p' 1 rfl (g' [0] (P0 hx3) rfl rfl rfl rfl rfl rfl (e' rfl (ci' rfl hh (fun hh=>?_) (fun hh=>?_))))
  ·cases hh
   exact p' 1 rfl (F0.s hC rfl (n' (re' (rt' rfl rfl rfl))))
  obtain ⟨x4,hx4,hh⟩:=bs' hh
  refine p' 1 rfl (g' [0] (P0 hx4) rfl rfl rfl rfl rfl rfl (e' rfl (ci' rfl hh (fun hh=>?_) (fun hh=>?_))))
  ·cases hh
   exact p' 1 rfl (F0.s hC rfl (n' (re' (rt' rfl rfl rfl))))
  obtain ⟨x5,hx5,hh⟩:=bs' hh
  refine p' 1 rfl (g' [0] (P0 hx5) rfl rfl rfl rfl rfl rfl (e' rfl (ci' rfl hh (fun hh=>?_) (fun hh=>?_))))
  ·refine p' 1 rfl ?_
   rcases bp' hh with ⟨nn,hx11,⟨⟩⟩ | ⟨x11,hx11,hh⟩
   ·exact gn' [0] (ih17 _ _ _ hx11) rfl rfl rfl rfl rfl (fun hi=>peW ⟨trivial,trivial⟩ rfl hi)
   cases hh
   exact g' [0] ((ih17 _ _ _ hx11).ok) rfl rfl rfl rfl rfl rfl (F0.s hC rfl (n' (re' (rt' rfl rfl rfl))))
  obtain ⟨x6,hx6,hh⟩:=bs' hh
  refine p' 1 rfl (g' [0] (P0 hx6) rfl rfl rfl rfl rfl rfl (e' rfl (ci' rfl hh (fun hh=>?_) (fun hh=>?_))))
  ·refine p' 1 rfl ?_
   rcases bp' hh with ⟨nn,hx12,⟨⟩⟩ | ⟨x12,hx12,hh⟩
   ·exact gn' [0] (ih17 _ _ _ hx12) rfl rfl rfl rfl rfl (fun hi=>peW ⟨trivial,trivial⟩ rfl hi)
   cases hh
   exact g' [0] ((ih17 _ _ _ hx12).ok) rfl rfl rfl rfl rfl rfl (F0.s hC rfl (n' (re' (rt' rfl rfl rfl))))
  obtain ⟨x7,hx7,hh⟩:=bs' hh
  refine p' 1 rfl (g' [0] (P0 hx7) rfl rfl rfl rfl rfl rfl (e' rfl (ci' rfl hh (fun hh=>?_) (fun hh=>?_))))
  ·refine p' 1 rfl ?_
   rcases bp' hh with ⟨nn,hx9,⟨⟩⟩ | ⟨x9,hx9,hh⟩
   ·exact gn' [0] (ih0 _ _ hx9) rfl rfl rfl rfl rfl (fun hi=>peW ⟨trivial,trivial⟩ rfl hi)
   refine g' [0] ((ih0 _ _ hx9).ok) rfl rfl rfl rfl rfl rfl (F0.nf hC rfl (F0.s hC rfl (n' (p' 1 rfl ?_))))
   rcases bp' hh with ⟨nn,hx10,⟨⟩⟩ | ⟨x10,hx10,hh⟩
   ·exact gn' [0] (L0 hx10) rfl rfl rfl rfl rfl (fun hi=>peW ⟨trivial,trivial⟩ rfl hi)
   cases hh
   exact g' [0] ((L0 hx10).ok) rfl rfl rfl rfl rfl rfl (n' (p' 1 rfl (F0.s hC rfl (n' (re' (rt' rfl rfl rfl))))))
  refine sk' (p' 1 rfl ?_)
  rcases bp' hh with ⟨nn,hx8,⟨⟩⟩ | ⟨x8,hx8,hh⟩
  ·exact gn' [0] (B7 hx8) rfl rfl rfl rfl rfl (fun hi=>peW ⟨trivial,trivial⟩ rfl hi)
  cases hh
  exact g' [0] ((B7 hx8).ok) rfl rfl rfl rfl rfl rfl (q' rfl (F0.s hC rfl (n' (re' (rt' rfl rfl rfl)))))
 ·intro g0 ih0 op parserParser res hh
  refine C2.intro hC Tryz.func228 rfl rfl rfl (s' rfl rfl (F0.nf hC rfl (n' (p' 1 rfl ?_))))
  rcases bp' hh with ⟨nn,hx1,⟨⟩⟩ | ⟨x1,hx1,hh⟩
  ·exact gn' [0] (L0 hx1) rfl rfl rfl rfl rfl (fun hi=>peW ⟨trivial,trivial⟩ rfl hi)
  refine g' [0] ((L0 hx1).ok) rfl rfl rfl rfl rfl rfl (n' (p' 1 rfl ?_))
  rcases bp' hh with ⟨nn,hx2,⟨⟩⟩ | ⟨x2,hx2,hh⟩
  ·exact gn' [0] (ih0 _ _ hx2) rfl rfl rfl rfl rfl (fun hi=>peW ⟨trivial,trivial⟩ rfl hi)
  refine g' [0] ((ih0 _ _ hx2).ok) rfl rfl rfl rfl rfl rfl (F0.nf hC rfl (F0.s hC rfl (n' (p' 1 rfl ?_))))
  rcases bp' hh with ⟨nn,hx3,⟨⟩⟩ | ⟨x3,hx3,hh⟩
  ·exact gn' [0] (L0 hx3) rfl rfl rfl rfl rfl (fun hi=>peW ⟨trivial,trivial⟩ rfl hi)
  refine g' [0] ((L0 hx3).ok) rfl rfl rfl rfl rfl rfl (n' (p' 1 rfl ?_))
  rcases bp' hh with ⟨nn,hx4,⟨⟩⟩ | ⟨x4,hx4,hh⟩
  ·exact gn' [0] (ih0 _ _ hx4) rfl rfl rfl rfl rfl (fun hi=>peW ⟨trivial,trivial⟩ rfl hi)
  refine g' [0] ((ih0 _ _ hx4).ok) rfl rfl rfl rfl rfl rfl (F0.nf hC rfl (F0.s hC rfl (n' (p' 1 rfl ?_))))
  rcases bp' hh with ⟨nn,hx5,⟨⟩⟩ | ⟨x5,hx5,hh⟩
  ·exact gn' [0] (L0 hx5) rfl rfl rfl rfl rfl (fun hi=>peW ⟨trivial,trivial⟩ rfl hi)
  refine g' [0] ((L0 hx5).ok) rfl rfl rfl rfl rfl rfl (n' (p' 3 rfl (F0.be hC rfl (A0.rows_map [x2.1,x4.1]).symm (q' rfl (F0.s hC rfl (n' (re' ?_)))))))
  obtain rfl:=oi' hh
  exact ⟨_,.agg [.d (.int .i64 op),.d (.int .i64 0),.d (.str []),.d (.sl (A0.rows [x2.1,x4.1]))],[.row (B0.cells x5) 99],rfl,(.aggL ⟨.rfl,.rfl,.rfl,.full,trivial⟩),⟨⟨rfl,.refl _,rfl⟩,trivial⟩,rfl,rfl,rpq rfl rfl⟩
 ·intro g19 ih19 parserParser res hh
  refine C2.intro hC Tryz.func195 rfl rfl rfl (s' rfl rfl (F0.nf hC rfl (n' (p' 1 rfl ?_))))
  rcases bp' hh with ⟨nn,hx1,⟨⟩⟩ | ⟨x1,hx1,hh⟩
  ·exact gn' [0] (Z0 hx1) rfl rfl rfl rfl rfl (fun hi=>peW ⟨trivial,trivial⟩ rfl hi)
  exact g' [0] ((Z0 hx1).ok) rfl rfl rfl rfl rfl rfl (q' rfl (F0.nf hC rfl (F0.s hC rfl (n' (bk' (fw' (ih19 _ _ _ _ _ hh) rfl rfl rfl))))))
 ·intro g0 g19 ih0 ih19 o0 o2_Op o2_Name o2_Kids res hh
  obtain ⟨x2,hx2,hh⟩:=bs' hh
  refine A1.unroll (bk' (bk' (p' 1 rfl (g' [0] (P0 hx2) rfl rfl rfl rfl rfl rfl (e' rfl (ci' rfl hh (fun hh=>?_) (fun hh=>?_)))))))
  ·rcases bp' hh with ⟨nn,hx3,⟨⟩⟩ | ⟨x3,hx3,hh⟩
   ·refine AEx.drawE hC ?_
    refine C0.step rfl (j0:=0) (js:=[2]) (by kernel_rfl) ⟨⟨_,rfl,?_⟩,⟨_,rfl,?_⟩,trivial⟩
    ·refine e' rfl ?_
     refine C0.step rfl (j0:=1) (js:=[2]) (by kernel_rfl) ⟨⟨_,rfl,?_⟩,⟨_,rfl,?_⟩,trivial⟩
     ·exact gn' [0] (Z0 hx3) rfl rfl rfl rfl rfl (fun hi=>peW ⟨trivial,trivial⟩ rfl hi)
     ·refine e' rfl ?_
      refine C0.step rfl (j0:=1) (js:=[3]) (by kernel_rfl) ⟨⟨_,rfl,?_⟩,⟨_,rfl,?_⟩,trivial⟩
      ·exact gn' [0] (Z0 hx3) rfl rfl rfl rfl rfl (fun hi=>peW ⟨trivial,trivial⟩ rfl hi)
      ·refine F0.be hC rfl (A0.rows_map [(A0.mk o2_Op 0 o2_Name o2_Kids)]).symm (n' ?_)
       refine C0.step rfl (j0:=1) (js:=[]) (by kernel_rfl) ⟨⟨_,rfl,?_⟩,trivial⟩
       exact gn' [0] (Z0 hx3) rfl rfl rfl rfl rfl (fun hi=>peW ⟨trivial,trivial⟩ rfl hi)
    ·refine e' rfl ?_
     refine C0.step rfl (j0:=0) (js:=[3]) (by kernel_rfl) ⟨⟨_,rfl,?_⟩,⟨_,rfl,?_⟩,trivial⟩
     ·refine e' rfl ?_
      refine C0.step rfl (j0:=1) (js:=[3]) (by kernel_rfl) ⟨⟨_,rfl,?_⟩,⟨_,rfl,?_⟩,trivial⟩
      ·exact gn' [0] (Z0 hx3) rfl rfl rfl rfl rfl (fun hi=>peW ⟨trivial,trivial⟩ rfl hi)
      ·refine F0.be hC rfl (A0.rows_map [(A0.mk o2_Op 0 o2_Name o2_Kids)]).symm (n' ?_)
       refine C0.step rfl (j0:=1) (js:=[]) (by kernel_rfl) ⟨⟨_,rfl,?_⟩,trivial⟩
       exact gn' [0] (Z0 hx3) rfl rfl rfl rfl rfl (fun hi=>peW ⟨trivial,trivial⟩ rfl hi)
     ·refine F0.be hC rfl (A0.rows_map [(A0.mk o2_Op 0 o2_Name o2_Kids)]).symm (n' ?_)
      refine C0.step rfl (j0:=0) (js:=[]) (by kernel_rfl) ⟨⟨_,rfl,?_⟩,trivial⟩
      refine e' rfl ?_
      refine C0.step rfl (j0:=1) (js:=[]) (by kernel_rfl) ⟨⟨_,rfl,?_⟩,trivial⟩
      exact gn' [0] (Z0 hx3) rfl rfl rfl rfl rfl (fun hi=>peW ⟨trivial,trivial⟩ rfl hi)
   refine AEx.drawE hC ?_
   refine C0.step rfl (j0:=0) (js:=[2]) (by kernel_rfl) ⟨⟨_,rfl,?_⟩,⟨_,rfl,?_⟩,trivial⟩
   ·refine e' rfl ?_
    refine C0.step rfl (j0:=1) (js:=[2]) (by kernel_rfl) ⟨⟨_,rfl,?_⟩,⟨_,rfl,?_⟩,trivial⟩
    ·refine g' [0] ((Z0 hx3).ok) rfl rfl rfl rfl rfl rfl (n' ?_)
     refine C0.step rfl (j0:=2) (js:=[]) (by kernel_rfl) ⟨⟨_,rfl,?_⟩,trivial⟩
     refine e' rfl ?_
     refine C0.step rfl (j0:=3) (js:=[]) (by kernel_rfl) ⟨⟨_,rfl,?_⟩,trivial⟩
     refine F0.be hC rfl (A0.rows_map [(A0.mk o2_Op 0 o2_Name o2_Kids)]).symm (n' ?_)
     refine C0.step rfl (j0:=4) (js:=[]) (by kernel_rfl) ⟨⟨_,rfl,?_⟩,trivial⟩
     refine e' rfl ?_
     refine C0.step rfl (j0:=5) (js:=[]) (by kernel_rfl) ⟨⟨_,rfl,?_⟩,trivial⟩
     refine F0.s hC rfl (n' (C0.nil (by kernel_rfl) ?_))
     refine A1.wk ?_ (ih19 _ _ _ _ _ hh)
     exact ⟨⟨⟨.rfl,rfl⟩,⟨.rfl,rfl⟩,⟨.rfl,rfl⟩,trivial⟩,⟨⟨rfl,.refl _,rfl⟩,⟨rfl,.refl _,rfl⟩,⟨rfl,⟨.rfl,.rfl,.rfl,.full,trivial⟩,rfl⟩,trivial⟩,rfl⟩
    ·refine e' rfl ?_
     refine C0.step rfl (j0:=1) (js:=[3]) (by kernel_rfl) ⟨⟨_,rfl,?_⟩,⟨_,rfl,?_⟩,trivial⟩
     ·refine g' [0] ((Z0 hx3).ok) rfl rfl rfl rfl rfl rfl (n' ?_)
      refine C0.step rfl (j0:=3) (js:=[]) (by kernel_rfl) ⟨⟨_,rfl,?_⟩,trivial⟩
      refine F0.be hC rfl (A0.rows_map [(A0.mk o2_Op 0 o2_Name o2_Kids)]).symm (n' ?_)
      refine C0.step rfl (j0:=4) (js:=[]) (by kernel_rfl) ⟨⟨_,rfl,?_⟩,trivial⟩
      refine e' rfl ?_
      refine C0.step rfl (j0:=5) (js:=[]) (by kernel_rfl) ⟨⟨_,rfl,?_⟩,trivial⟩
      refine F0.s hC rfl (n' (C0.nil (by kernel_rfl) ?_))
      refine A1.wk ?_ (ih19 _ _ _ _ _ hh)
      exact ⟨⟨⟨.rfl,rfl⟩,⟨.rfl,rfl⟩,⟨.rfl,rfl⟩,trivial⟩,⟨⟨rfl,.refl _,rfl⟩,⟨rfl,.refl _,rfl⟩,⟨rfl,⟨.rfl,.rfl,.rfl,.full,trivial⟩,rfl⟩,trivial⟩,rfl⟩
     ·refine F0.be hC rfl (A0.rows_map [(A0.mk o2_Op 0 o2_Name o2_Kids)]).symm (n' ?_)
      refine C0.step rfl (j0:=1) (js:=[]) (by kernel_rfl) ⟨⟨_,rfl,?_⟩,trivial⟩
      refine g' [0] ((Z0 hx3).ok) rfl rfl rfl rfl rfl rfl (n' ?_)
      refine C0.step rfl (j0:=4) (js:=[]) (by kernel_rfl) ⟨⟨_,rfl,?_⟩,trivial⟩
      refine e' rfl ?_
      refine C0.step rfl (j0:=5) (js:=[]) (by kernel_rfl) ⟨⟨_,rfl,?_⟩,trivial⟩
      refine F0.s hC rfl (n' (C0.nil (by kernel_rfl) ?_))
      refine A1.wk ?_ (ih19 _ _ _ _ _ hh)
      exact ⟨⟨⟨.rfl,rfl⟩,⟨.rfl,rfl⟩,⟨.rfl,rfl⟩,trivial⟩,⟨⟨rfl,.refl _,rfl⟩,⟨rfl,.refl _,rfl⟩,⟨rfl,⟨.rfl,.rfl,.rfl,.full,trivial⟩,rfl⟩,trivial⟩,rfl⟩
   ·refine e' rfl ?_
    refine C0.step rfl (j0:=0) (js:=[3]) (by kernel_rfl) ⟨⟨_,rfl,?_⟩,⟨_,rfl,?_⟩,trivial⟩
    ·refine e' rfl ?_
     refine C0.step rfl (j0:=1) (js:=[3]) (by kernel_rfl) ⟨⟨_,rfl,?_⟩,⟨_,rfl,?_⟩,trivial⟩
     ·refine g' [0] ((Z0 hx3).ok) rfl rfl rfl rfl rfl rfl (n' ?_)
      refine C0.step rfl (j0:=3) (js:=[]) (by kernel_rfl) ⟨⟨_,rfl,?_⟩,trivial⟩
      refine F0.be hC rfl (A0.rows_map [(A0.mk o2_Op 0 o2_Name o2_Kids)]).symm (n' ?_)
      refine C0.step rfl (j0:=4) (js:=[]) (by kernel_rfl) ⟨⟨_,rfl,?_⟩,trivial⟩
      refine e' rfl ?_
      refine C0.step rfl (j0:=5) (js:=[]) (by kernel_rfl) ⟨⟨_,rfl,?_⟩,trivial⟩
      refine F0.s hC rfl (n' (C0.nil (by kernel_rfl) ?_))
      refine A1.wk ?_ (ih19 _ _ _ _ _ hh)
      exact ⟨⟨⟨.rfl,rfl⟩,⟨.rfl,rfl⟩,⟨.rfl,rfl⟩,trivial⟩,⟨⟨rfl,.refl _,rfl⟩,⟨rfl,.refl _,rfl⟩,⟨rfl,⟨.rfl,.rfl,.rfl,.full,trivial⟩,rfl⟩,trivial⟩,rfl⟩
     ·refine F0.be hC rfl (A0.rows_map [(A0.mk o2_Op 0 o2_Name o2_Kids)]).symm (n' ?_)
      refine C0.step rfl (j0:=1) (js:=[]) (by kernel_rfl) ⟨⟨_,rfl,?_⟩,trivial⟩
      refine g' [0] ((Z0 hx3).ok) rfl rfl rfl rfl rfl rfl (n' ?_)
      refine C0.step rfl (j0:=4) (js:=[]) (by kernel_rfl) ⟨⟨_,rfl,?_⟩,trivial⟩
      refine e' rfl ?_
      refine C0.step rfl (j0:=5) (js:=[]) (by kernel_rfl) ⟨⟨_,rfl,?_⟩,trivial⟩
      refine F0.s hC rfl (n' (C0.nil (by kernel_rfl) ?_))
      refine A1.wk ?_ (ih19 _ _ _ _ _ hh)
      exact ⟨⟨⟨.rfl,rfl⟩,⟨.rfl,rfl⟩,⟨.rfl,rfl⟩,trivial⟩,⟨⟨rfl,.refl _,rfl⟩,⟨rfl,.refl _,rfl⟩,⟨rfl,⟨.rfl,.rfl,.rfl,.full,trivial⟩,rfl⟩,trivial⟩,rfl⟩
    ·refine F0.be hC rfl (A0.rows_map [(A0.mk o2_Op 0 o2_Name o2_Kids)]).symm (n' ?_)
     refine C0.step rfl (j0:=0) (js:=[]) (by kernel_rfl) ⟨⟨_,rfl,?_⟩,trivial⟩
     refine e' rfl ?_
     refine C0.step rfl (j0:=1) (js:=[]) (by kernel_rfl) ⟨⟨_,rfl,?_⟩,trivial⟩
     refine g' [0] ((Z0 hx3).ok) rfl rfl rfl rfl rfl rfl (n' ?_)
     refine C0.step rfl (j0:=4) (js:=[]) (by kernel_rfl) ⟨⟨_,rfl,?_⟩,trivial⟩
     refine e' rfl ?_
     refine C0.step rfl (j0:=5) (js:=[]) (by kernel_rfl) ⟨⟨_,rfl,?_⟩,trivial⟩
     refine F0.s hC rfl (n' (C0.nil (by kernel_rfl) ?_))
     refine A1.wk ?_ (ih19 _ _ _ _ _ hh)
     exact ⟨⟨⟨.rfl,rfl⟩,⟨.rfl,rfl⟩,⟨.rfl,rfl⟩,trivial⟩,⟨⟨rfl,.refl _,rfl⟩,⟨rfl,.refl _,rfl⟩,⟨rfl,⟨.rfl,.rfl,.rfl,.full,trivial⟩,rfl⟩,trivial⟩,rfl⟩
  obtain ⟨x4,hx4,hh⟩:=bs' hh
  refine p' 1 rfl (g' [0] (P0 hx4) rfl rfl rfl rfl rfl rfl (e' rfl (ci' rfl hh (fun hh=>?_) (fun hh=>?_))))
  ·refine p' 1 rfl ?_
   rcases bp' hh with ⟨nn,hx5,⟨⟩⟩ | ⟨x5,hx5,hh⟩
   ·exact gn' [0] (ih0 _ _ hx5) rfl rfl rfl rfl rfl (fun hi=>peW ⟨trivial,trivial⟩ rfl hi)
   refine g' [0] ((ih0 _ _ hx5).ok) rfl rfl rfl rfl rfl rfl (F0.nf hC rfl (F0.s hC rfl (n' (p' 1 rfl ?_))))
   rcases bp' hh with ⟨nn,hx6,⟨⟩⟩ | ⟨x6,hx6,hh⟩
   ·exact gn' [0] (L0 hx6) rfl rfl rfl rfl rfl (fun hi=>peW ⟨trivial,trivial⟩ rfl hi)
   refine g' [0] ((L0 hx6).ok) rfl rfl rfl rfl rfl rfl (n' (P' 2 rfl (F0.be hC rfl (A0.rows_map [(A0.mk o2_Op 0 o2_Name o2_Kids),x5.1]).symm (q' rfl (F0.s hC rfl (n' ?_))))))
   refine A1.wk ?_ (ih19 _ _ _ _ _ hh)
   exact ⟨⟨⟨.rfl,rfl⟩,⟨.rfl,rfl⟩,⟨.rfl,rfl⟩,trivial⟩,⟨⟨rfl,.refl _,rfl⟩,⟨rfl,.refl _,rfl⟩,⟨rfl,⟨.rfl,.rfl,.rfl,.full,trivial⟩,rfl⟩,trivial⟩,rfl⟩
  cases hh
  exact p' 1 rfl (F0.s hC rfl (n' (re' (rt' rfl rfl rfl))))
theorem S0 {parserParser res}(hh:C1 parserParser=some res):Ki parserParser res:=(Ig).1 _ _ hh
theorem Rk {parserParser res}(hh:I6 parserParser=some res):Pl parserParser res:=(Ig).2.2.2.2.2.2.2.2.2.2.2.2.2.2.2.2.2.2.1 _ _ hh
end Go.Proofs.YtmnhfbekncjnfaaGreatDoor

set_option maxRecDepth 100000
set_option maxHeartbeats 4000000
set_option synthInstance.maxSize 20000
set_option linter.unusedVariables false
namespace Go.Proofs.YtmnhfbekncjnfaaGreatDoor
open Go.Am
def Na (parserParser:B0)(apiExpr:A0):Option (Pn (B0×A0)):=
 C1 parserParser>>=fun x1=>match x1 with
 | .pn nn=>
 some (.pn nn)
 | .ok x1=>
 some (.ok (x1.2,x1.1))
theorem Ql {parserParser apiExpr res}(hh:Na parserParser apiExpr=some res):C2 C 29 [.ref 0 0,.ref 1 0] [.row (B0.cells parserParser) 99,.row [.d (.int .i64 apiExpr.Op),.d (.int .i64 apiExpr.NV),.d (.str apiExpr.Name),.full (A0.rows apiExpr.Kids)] 26] (P4 res (fun rr=>[.row (B0.cells rr.1) 99,.row (A0.cells rr.2) 26]) (fun rr=>.tup [])) (J4 res F3 [.dead,.row [.d (.int .i64 apiExpr.Op),.d (.int .i64 apiExpr.NV),.d (.str apiExpr.Name),.full (A0.rows apiExpr.Kids)] 26]):=by
 unfold Na at hh
 refine C2.intro hC Tryz.func29 rfl rfl rfl (P' 1 rfl ?_)
 rcases bp' hh with ⟨nn,hx1,⟨⟩⟩ | ⟨x1,hx1,hh⟩
 ·exact gn' [0] (S0 hx1) rfl rfl rfl rfl rfl (fun hi=>peW ⟨trivial,⟨rfl,.refl _,rfl⟩,trivial⟩ rfl hi)
 cases hh
 exact g' [0] ((S0 hx1).ok) rfl rfl rfl rfl rfl rfl (F0.s hC rfl (n' (rn' rfl rfl rfl)))
def Qi (text:Str)(apiExpr:A0):Option (Int×Int×A0):=
 Jh text>>=fun x1=>
 if (x1.2.2 != 0)=true then
  some (x1.2.1,x1.2.2,apiExpr)
 else
  Na (B0.mk x1.1 0 ((text).length:Int)) apiExpr>>=fun x2=>match x2 with
  | .pn nn=>
  some (nn,6,apiExpr)
  | .ok x2=>
  if (decide (x2.1.next < ((x2.1.tokens).length:Int)))=true then
   I5 x2.1>>=fun x3=>match x3 with
   | .pn nn=>
   some (nn,6,x2.2)
   | .ok x3=>
   some (0,0,x2.2)
  else
   some (0,0,x2.2)
theorem T14 {text apiExpr res}(hh:Qi text apiExpr=some res):U0 C 28 [.d (.str text),.clo 29 [.ref 0 0]] [.row [.d (.int .i64 apiExpr.Op),.d (.int .i64 apiExpr.NV),.d (.str apiExpr.Name),.full (A0.rows apiExpr.Kids)] 26] (Ret [.row (A0.cells res.2.2) 26] (.tup [.d (.int .i64 res.1),.d (.int .i64 res.2.1)])):=by
 unfold Qi at hh
 obtain ⟨x1,hx1,hh⟩:=bs' hh
 refine U0.introD hC Tryz.func28 rfl rfl rfl (s' rfl rfl (F0.n hC rfl (F0.n hC rfl (n' (p' 1 rfl (c' (Dz hx1) rfl rfl (o' 5 rfl (F0.s hC rfl (F0.s hC rfl (n' (S' (t' rfl (ci' rfl hh (fun hh=>?_) (fun hh=>?_))))))))))))))
 ·refine S' ?_
  refine AEx.drawL hC 3 [2] [] [[.row [.d (.int .i64 apiExpr.Op),.d (.int .i64 apiExpr.NV),.d (.str apiExpr.Name),.full (A0.rows apiExpr.Kids)] 26,.row [.d (.int .i64 x1.2.1)] 3,.row [.d (.int .i64 x1.2.2)] 27],[.row [.d (.int .i64 apiExpr.Op),.d (.int .i64 apiExpr.NV),.d (.str apiExpr.Name),.full (A0.rows apiExpr.Kids)] 26,.row [.d (.int .i64 x1.2.1)] 3,.row [.d (.int .i64 x1.2.2)] 27]] rfl rfl rfl rfl rfl rfl rfl rfl rfl rfl ?_
  refine AS.q hC rfl rfl rfl rfl (AS.q hC rfl rfl rfl rfl (AS.s hC rfl rfl rfl rfl rfl rfl rfl (AS.nil (F0.s hC rfl (n' (re' ?_))))))
  obtain rfl:=oi' hh
  exact ⟨_,_,[.row (A0.cells apiExpr) 26],rfl,.rfl,⟨⟨rfl,⟨.rfl,.rfl,.rfl,.full,trivial⟩,rfl⟩,trivial⟩,rfl,rfl,rfl,rfl⟩
 refine sk' (AEx.dfr hC D13 Z15 rfl rfl rfl rfl rfl rfl fun _=>(p' 4 rfl (F0.n hC rfl (e' rfl (p' 2 rfl ?_)))))
 rcases bp' hh with ⟨nn,hx2,hh⟩ | ⟨x2,hx2,hh⟩
 ·obtain rfl:=oi' hh
  exact gn' [3,0] (Ql hx2) rfl rfl rfl rfl rfl (fun hi=>dfk hi rfl rfl rfl (⟨_,_,[.row (A0.cells apiExpr) 26],rfl,.rfl,⟨⟨rfl,⟨.rfl,.rfl,.rfl,.full,trivial⟩,rfl⟩,trivial⟩,rfl,rfl,rfl,rfl⟩))
 refine g' [3,0] ((Ql hx2).ok) rfl rfl rfl rfl rfl rfl (n' (S' (S' (AEx.draw hC 10 rfl rfl rfl (O' 8 rfl (AQ.qe hC rfl trivial (K0.lenA _) (E' rfl (n' (ci' rfl hh (fun hh=>?_) (fun hh=>?_))))))))))
 ·refine P' 1 rfl ?_
  rcases bp' hh with ⟨nn,hx3,hh⟩ | ⟨x3,hx3,hh⟩
  ·cases hh
   exact gn' [3] (R5 hx3) rfl rfl rfl rfl rfl (fun hi=>dfk hi rfl rfl rfl (rt' rfl rfl rfl))
  cases hh
  exact g' [3] ((R5 hx3).ok) rfl rfl rfl rfl rfl rfl (n' (s' rfl rfl (F0.s hC rfl (F0.s hC rfl (n' (re' (rt' rfl rfl rfl)))))))
 cases hh
 exact sk' (s' rfl rfl (F0.s hC rfl (F0.s hC rfl (n' (re' (rt' rfl rfl rfl))))))
def A6 (d:Int)(syntaxReport:I0):Option I0:=
 some (I0.mk syntaxReport.nodes (max syntaxReport.depth d) syntaxReport.badForm syntaxReport.badName syntaxReport.badNumber)
theorem Jg {d syntaxReport res}(hh:A6 d syntaxReport=some res):U0 C 114 [.ref 0 0,.d (.int .i64 d)] [.row (I0.cells syntaxReport) 103] (Ret [.row (I0.cells res) 103] (.tup [])):=by
 unfold A6 at hh
 cases hh
 exact U0.intro hC Tryz.func114 rfl rfl rfl (P' 9 rfl (F0.s hC rfl (n' (rn' rfl rfl rfl))))
def H9 (op:Int)(v9:Bool):Option Int:=
 if v9=true then
  some 1
 else
  if (op == 5)=true then
   some 2
  else
   if (op == 23)=true then
    some 3
   else
    if (bif (decide (op≥8)) then (decide (op≤22)) else false)=true then
     some 2
    else
     some (-1)
theorem Hj {op v9 res}(hh:H9 op v9=some res):JM C 23 0 Tryz.f116 [1,0,1,4,1,3,1] [(0,.d (.int .i64 op)),(3,.d (.int .i64 op)),(9,.d (.bool v9))] [] (Ret [] (.d (.int .i64 res))):=by
 unfold H9 at hh
 refine ci' rfl hh (fun hh=>?_) (fun hh=>?_)
 ·cases hh
  exact t' rfl (re' (rt' rfl rfl rfl))
 refine t' rfl (ci' rfl hh (fun hh=>?_) (fun hh=>?_))
 ·cases hh
  exact t' rfl (re' (rt' rfl rfl rfl))
 refine t' rfl (ci' rfl hh (fun hh=>?_) (fun hh=>?_))
 ·cases hh
  exact t' rfl (re' (rt' rfl rfl rfl))
 refine sk' (S' (sg' 6 rfl (G' 4 rfl (a1' rfl (pa' rfl (an' (n' (ci' rfl hh (fun hh=>?_) (fun hh=>?_)))))))))
 ·cases hh
  exact t' rfl (re' (rt' rfl rfl rfl))
 cases hh
 exact sk' (t' rfl (re' (rt' rfl rfl rfl)))
def V7 (op:Int)(v4:Bool):Option Int:=
 if v4=true then
  some 0
 else
  if (op == 4)=true then
   H9 op (op == 4)
  else
   if (op == 6)=true then
    H9 op (op == 6)
   else
    H9 op (op == 7)
theorem Ff {op v4 res}(hh:V7 op v4=some res):JM C 23 0 Tryz.f116 [1,0,1,4,1] [(0,.d (.int .i64 op)),(3,.d (.int .i64 op)),(4,.d (.bool v4))] [] (Ret [] (.d (.int .i64 res))):=by
 unfold V7 at hh
 refine ci' rfl hh (fun hh=>?_) (fun hh=>?_)
 ·cases hh
  exact t' rfl (re' (rt' rfl rfl rfl))
 refine S' (t' rfl (ci' rfl hh (fun hh=>?_) (fun hh=>?_)))
 ·exact sk' (ew' (Hj hh) rfl rfl rfl)
 refine t' rfl (ci' rfl hh (fun hh=>?_) (fun hh=>?_))
 ·exact sk' (ew' (Hj hh) rfl rfl rfl)
 exact T' rfl (ew' (Hj hh) rfl rfl rfl)
def Be (op:Int):Option Int:=
 if (op == 0)=true then
  V7 op (op == 0)
 else
  if (op == 1)=true then
   V7 op (op == 1)
  else
   if (op == 2)=true then
    V7 op (op == 2)
   else
    V7 op (op == 3)
theorem J13 {op res}(hh:Be op=some res):U0 C 116 [.d (.int .i64 op)] [] (Ret [] (.d (.int .i64 res))):=by
 unfold Be at hh
 refine U0.intro hC Tryz.func116 rfl rfl rfl (t' rfl (S' (t' rfl (bk' (S' (t' rfl (ci' rfl hh (fun hh=>?_) (fun hh=>?_))))))))
 ·exact sk' (ew' (Ff hh) rfl rfl rfl)
 refine t' rfl (ci' rfl hh (fun hh=>?_) (fun hh=>?_))
 ·exact sk' (ew' (Ff hh) rfl rfl rfl)
 refine t' rfl (ci' rfl hh (fun hh=>?_) (fun hh=>?_))
 ·exact sk' (ew' (Ff hh) rfl rfl rfl)
 exact T' rfl (ew' (Ff hh) rfl rfl rfl)
def W0 (ok:Bool)(syntaxReport:I0):Option I0:=
 some (I0.mk syntaxReport.nodes syntaxReport.depth (bif syntaxReport.badForm then true else (!ok)) syntaxReport.badName syntaxReport.badNumber)
theorem D1 {ok syntaxReport res}(hh:W0 ok syntaxReport=some res):U0 C 115 [.ref 0 0,.d (.bool ok)] [.row (I0.cells syntaxReport) 103] (Ret [.row (I0.cells res) 103] (.tup [])):=by
 unfold W0 at hh
 cases hh
 exact U0.intro hC Tryz.func115 rfl rfl rfl (AEx.regionG 11 rfl (G' 7 rfl (a1' rfl (po' rfl (G' 2 rfl (an' (F0.s hC rfl (n' (rn' rfl rfl rfl)))))))))
def W7 (o0:A0):Option Bool:=
 if (bif (o0.Op == 4) then true else (o0.Op == 5))=true then
  if (((o0.Kids).length:Int) == 0)=true then
   some false
  else
   idx o0.Kids 0>>=fun x1=>
   W7 x1
 else
  some (o0.Op == 3)
 partial_fixpoint
abbrev Kq (o0:A0)(res:Bool):Prop:=LM C 22 0 Tryz.f117 [1,0,4] [(1,.ref 0 0)] [.row (A0.cells o0) 26] (Ret [] (.d (.bool res)))
theorem Vx:(∀ o0 res,W7 o0=some res→Kq o0 res):=by
 refine W7.partial_correctness _ ?_
 ·intro g0 ih0 o0 res hh
  refine A1.unroll (S' (sg' 8 rfl (G' 5 rfl (a1' rfl (a1' rfl (po' rfl (an' (n' (ci' rfl hh (fun hh=>?_) (fun hh=>?_))))))))))
  ·refine sk' (bk' (S' (p' 2 rfl (qe' rfl trivial (A0.lenA _) (e' rfl (ci' rfl hh (fun hh=>?_) (fun hh=>?_)))))))
   ·cases hh
    exact t' rfl (re' (rt' rfl rfl rfl))
   obtain ⟨x1,hx1,hh⟩:=bs' hh
   exact sk' (P' 2 rfl (i' rfl (W1 hx1) (A0.idx hx1) rfl (q' rfl (F0.s hC rfl (n' (lw' (ih0 _ _ hh) rfl rfl rfl))))))
  cases hh
  exact ex' (t' rfl (re' (rt' rfl rfl rfl)))
theorem Fz {o0 res}(hh:W7 o0=some res):Kq o0 res:=(Vx) _ _ hh
def Lc (e:A0):Option Bool:=
 W7 e
theorem Kt {e res}(hh:Lc e=some res):U0 C 117 [.agg (A0.cells e)] [] (Ret [] (.d (.bool res))):=by
 unfold Lc at hh
 exact U0.intro hC Tryz.func117 rfl rfl rfl (s' rfl rfl (F0.n hC rfl (e' rfl (S' (bk' (fw' (Fz hh) rfl rfl rfl))))))
def B6 (s:Str)(v6:Int):Option Bool:=
 if (decide (v6 < ((s).length:Int)))=true then
  idx s v6>>=fun x1=>
  Ma (x1.toNat:Int)>>=fun x2=>
  (if ((!x2)&&(!(v6 == 0)))=true then idx s v6 else some default)>>=fun x3=>
  (if ((!x2)&&(!(v6 == 0)))=true then V8 (x3.toNat:Int) else some default)>>=fun x4=>
  if (bif (!x2) then (bif (v6 == 0) then true else (!x4)) else false)=true then
   some false
  else
   B6 s (IntKind.i64.wrap (v6+1))
 else
  some (!(s == []))
 partial_fixpoint
abbrev Lq (s:Str)(v6:Int)(res:Bool):Prop:=LM C 28 0 Tryz.f205 [1,0,1,4] [(0,.d (.str s)),(5,.d (.int .i64 ((s).length:Int))),(6,.d (.int .i64 v6))] [] (Ret [] (.d (.bool res)))
theorem Wx (s:Str):(∀ v6 res,B6 s v6=some res→Lq s v6 res):=by
 refine B6.partial_correctness s _ ?_
 ·intro g0 ih0 v6 res hh
  refine A1.unroll (t' rfl (S' (ci' rfl hh (fun hh=>?_) (fun hh=>?_))))
  ·obtain ⟨x1,hx1,hh⟩:=bs' hh
   obtain ⟨x2,hx2,hh⟩:=bs' hh
   obtain ⟨x3,hx3,hh⟩:=bs' hh
   obtain ⟨x4,hx4,hh⟩:=bs' hh
   refine sk' (S' (bk' (t' rfl (sg' 16 rfl (G' 2 rfl (AG.x hC rfl rfl (fun _=>trivial) (fun hw=>⟨W1 hx1,Y5 hx1⟩) (AG.c rfl rfl (fun _=>trivial) (fun _=>Jk hx2) (G' 3 rfl (a1' rfl (a1' rfl (G' 2 rfl (AG.x hC rfl rfl (fun hg=>⟨hg,hg,trivial⟩) (fun hw=>⟨W1 (A4 hw hx3),Y5 (A4 hw hx3)⟩) (AG.c rfl rfl (fun hg=>⟨hg,trivial⟩) (fun hw=>Wh (A4 hw hx4)) ?_)))))))))))))
   refine a1' rfl (pO' rfl (pa' rfl (an' (n' (ci' rfl hh (fun hh=>?_) (fun hh=>?_))))))
   ·cases hh
    exact t' rfl (re' (rt' rfl rfl rfl))
   exact sk' (T' rfl (lw' (ih0 _ _ hh) rfl rfl rfl))
  cases hh
  exact ex' (t' rfl (re' (rt' rfl rfl rfl)))
theorem Gz {s v6 res}(hh:B6 s v6=some res):Lq s v6 res:=(Wx s) _ _ hh
def Kg (s:Str):Option Bool:=
 B6 s 0
theorem K13 {s res}(hh:Kg s=some res):U0 C 205 [.d (.str s)] [] (Ret [] (.d (.bool res))):=by
 unfold Kg at hh
 exact U0.intro hC Tryz.func205 rfl rfl rfl (t' rfl (S' (t' rfl (bk' (fw' (Gz hh) rfl rfl rfl)))))
def Lg (s:Str):Option Bool:=
 (if (decide (((s).length:Int)≤12))=true then Kg s else some default)>>=fun x1=>
 (if (bif (decide (((s).length:Int)≤12)) then x1 else false)=true then Y8 s else some default)>>=fun x2=>
 some (bif (bif (decide (((s).length:Int)≤12)) then x1 else false) then (!x2) else false)
theorem L13 {s res}(hh:Lg s=some res):U0 C 190 [.d (.str s)] [] (Ret [] (.d (.bool res))):=by
 unfold Lg at hh
 obtain ⟨x1,hx1,hh⟩:=bs' hh
 obtain ⟨x2,hx2,hh⟩:=bs' hh
 cases hh
 exact U0.intro hC Tryz.func190 rfl rfl rfl (t' rfl (sg' 13 rfl (G' 5 rfl (AG.c rfl rfl (fun hg=>⟨hg,trivial⟩) (fun hw=>K13 (A4 hw hx1)) (pa' rfl (G' 2 rfl (AG.c rfl rfl (fun hg=>⟨hg,trivial⟩) (fun hw=>Iq (A4 hw hx2)) (a1' rfl (pa' rfl (a0' rfl (an' (n' (re' (rt' rfl rfl rfl))))))))))))))
def Yc (s:Str):Option Bool:=
 Lg s>>=fun x1=>
 some x1
theorem Q11 {s res}(hh:Yc s=some res):U0 C 168 [.d (.str s)] [] (Ret [] (.d (.bool res))):=by
 unfold Yc at hh
 obtain ⟨x1,hx1,hh⟩:=bs' hh
 cases hh
 exact U0.intro hC Tryz.func168 rfl rfl rfl (t' rfl (p' 1 rfl (c' (L13 hx1) rfl rfl (e' rfl (re' (rt' rfl rfl rfl))))))
def Y3 (s:Str)(syntaxReport:I0):Option I0:=
 (if (!syntaxReport.badName)=true then Yc s else some default)>>=fun x1=>
 some (I0.mk syntaxReport.nodes syntaxReport.depth syntaxReport.badForm (bif syntaxReport.badName then true else (!x1)) syntaxReport.badNumber)
theorem Oa {s syntaxReport res}(hh:Y3 s syntaxReport=some res):U0 C 118 [.ref 0 0,.d (.str s)] [.row (I0.cells syntaxReport) 103] (Ret [.row (I0.cells res) 103] (.tup [])):=by
 unfold Y3 at hh
 obtain ⟨x1,hx1,hh⟩:=bs' hh
 cases hh
 exact U0.intro hC Tryz.func118 rfl rfl rfl (AEx.regionG 12 rfl (G' 7 rfl (AG.c rfl rfl (fun hg=>⟨hg,trivial⟩) (fun hw=>Q11 (A4 hw hx1)) (a1' rfl (po' rfl (G' 2 rfl (an' (F0.s hC rfl (n' (rn' rfl rfl rfl))))))))))
def T3 (n:Int)(low:Int)(high:Int):Option Bool:=
 some (bif (decide (n≥low)) then (decide (n≤high)) else false)
theorem U4 {n low high res}(hh:T3 n low high=some res):U0 C 120 [.d (.int .i64 n),.d (.int .i64 low),.d (.int .i64 high)] [] (Ret [] (.d (.bool res))):=by
 unfold T3 at hh
 cases hh
 exact U0.intro hC Tryz.func120 rfl rfl rfl (t' rfl (sg' 9 rfl (G' 6 rfl (a2' rfl (pa' rfl (a0' rfl (an' (n' (re' (rt' rfl rfl rfl))))))))))
def E2 (ok:Bool)(syntaxReport:I0):Option I0:=
 some (I0.mk syntaxReport.nodes syntaxReport.depth syntaxReport.badForm syntaxReport.badName (bif syntaxReport.badNumber then true else (!ok)))
theorem R3 {ok syntaxReport res}(hh:E2 ok syntaxReport=some res):U0 C 119 [.ref 0 0,.d (.bool ok)] [.row (I0.cells syntaxReport) 103] (Ret [.row (I0.cells res) 103] (.tup [])):=by
 unfold E2 at hh
 cases hh
 exact U0.intro hC Tryz.func119 rfl rfl rfl (AEx.regionG 11 rfl (G' 7 rfl (a1' rfl (po' rfl (G' 2 rfl (an' (F0.s hC rfl (n' (rn' rfl rfl rfl)))))))))
mutual
def X2 (e:A0)(depth:Int)(syntaxReport:I0):Option I0:=
 A6 depth (I0.mk (IntKind.i64.wrap (syntaxReport.nodes+1)) syntaxReport.depth syntaxReport.badForm syntaxReport.badName syntaxReport.badNumber)>>=fun x1=>
 Be e.Op>>=fun x2=>
 W0 (x2 == ((e.Kids).length:Int)) x1>>=fun x3=>
 W0 (bif (e.NV == 0) then true else (e.Op == 0)) x3>>=fun x4=>
 W0 (bif (e.Name == []) then true else (bif (e.Op == 3) then true else (e.Op == 4))) x4>>=fun x5=>
 if (bif (e.Op == 4) then true else (e.Op == 5))=true then
  Lc e>>=fun x6=>
  W0 x6 x5>>=fun x7=>
  S6 e depth x7
 else
  S6 e depth x5
 partial_fixpoint
def S6 (e:A0)(depth:Int)(o0:I0):Option I0:=
 if (bif (e.Op == 3) then true else (e.Op == 4))=true then
  Y3 e.Name o0>>=fun x8=>
  C8 e depth x8
 else
  C8 e depth o0
 partial_fixpoint
def C8 (e:A0)(depth:Int)(o01:I0):Option I0:=
 if (e.Op == 0)=true then
  T3 e.NV 0 1048576>>=fun x9=>
  E2 x9 o01>>=fun x10=>
  D8 e depth x10
 else
  D8 e depth o01
 partial_fixpoint
def D8 (e:A0)(depth:Int)(o02:I0):Option I0:=
 B4 e depth o02 0
 partial_fixpoint
def B4 (e:A0)(depth:Int)(o03:I0)(v82:Int):Option I0:=
 if (decide (v82 < ((e.Kids).length:Int)))=true then
  idx e.Kids v82>>=fun x11=>
  X2 x11 (IntKind.i64.wrap (depth+1)) o03>>=fun x12=>
  B4 e depth x12 (IntKind.i64.wrap (v82+1))
 else
  some o03
 partial_fixpoint
end
abbrev Km (e:A0)(depth:Int)(syntaxReport:I0)(res:I0):Prop:=U0 C 63 [.ref 0 0,.agg (A0.cells e),.d (.int .i64 depth)] [.row (I0.cells syntaxReport) 103] (Ret [.row (I0.cells res) 103] (.tup []))
abbrev Vs (e:A0)(depth:Int)(o0:I0)(res:I0):Prop:=JM C 92 1 Tryz.f63 [1,1,1,1,1,1,1,1] [(0,.ref 0 0),(2,.d (.int .i64 depth)),(4,.ref 1 0),(6,.d (.bool (bif (e.Op == 3) then true else (e.Op == 4))))] [.row (I0.cells o0) 103,.row (A0.cells e) 26] (Ret [.row (I0.cells res) 103] (.tup []))
abbrev Ws (e:A0)(depth:Int)(o01:I0)(res:I0):Prop:=JM C 92 1 Tryz.f63 [1,1,1,1,1,1,1,1,1] [(0,.ref 0 0),(2,.d (.int .i64 depth)),(4,.ref 1 0)] [.row (I0.cells o01) 103,.row (A0.cells e) 26] (Ret [.row (I0.cells res) 103] (.tup []))
abbrev Xs (e:A0)(depth:Int)(o02:I0)(res:I0):Prop:=JM C 92 1 Tryz.f63 [1,1,1,1,1,1,1,1,1,1] [(0,.ref 0 0),(2,.d (.int .i64 depth)),(4,.ref 1 0)] [.row (I0.cells o02) 103,.row (A0.cells e) 26] (Ret [.row (I0.cells res) 103] (.tup []))
abbrev Ys (e:A0)(depth:Int)(o03:I0)(v82:Int)(res:I0):Prop:=LM C 92 1 Tryz.f63 [1,1,1,1,1,1,1,1,1,1,1,4] [(0,.ref 0 0),(2,.d (.int .i64 depth)),(80,.d (.sl (A0.rows e.Kids))),(81,.d (.int .i64 ((e.Kids).length:Int))),(82,.d (.int .i64 v82))] [.row (I0.cells o03) 103] (Ret [.row (I0.cells res) 103] (.tup []))
theorem Yt:(∀ e depth syntaxReport res,X2 e depth syntaxReport=some res→Km e depth syntaxReport res)∧(∀ e depth o0 res,S6 e depth o0=some res→Vs e depth o0 res)∧(∀ e depth o01 res,C8 e depth o01=some res→Ws e depth o01 res)∧(∀ e depth o02 res,D8 e depth o02=some res→Xs e depth o02 res)∧(∀ e depth o03 v82 res,B4 e depth o03 v82=some res→Ys e depth o03 v82 res):=by
 refine X2.mutual_partial_correctness _ _ _ _ _ ?_ ?_ ?_ ?_ ?_
 ·intro g1 ih1 e depth syntaxReport res hh
  obtain ⟨x1,hx1,hh⟩:=bs' hh
  obtain ⟨x2,hx2,hh⟩:=bs' hh
  obtain ⟨x3,hx3,hh⟩:=bs' hh
  obtain ⟨x4,hx4,hh⟩:=bs' hh
  obtain ⟨x5,hx5,hh⟩:=bs' hh
  refine U0.intro hC Tryz.func63 rfl rfl rfl (s' rfl rfl (F0.n hC rfl (n' (p' 7 rfl (F0.s hC rfl (n' (p' 2 rfl (g' [0] (Jg hx1) rfl rfl rfl rfl rfl rfl (n' (S' (AEx.draw hC 8 rfl rfl rfl (O' 3 rfl (Qc' (J13 hx2) rfl rfl ?_)))))))))))))
  refine O' 2 rfl (AQ.qe hC rfl trivial (A0.lenA _) (E' rfl (g' [0] (D1 hx3) rfl rfl rfl rfl rfl rfl (n' (sg' 9 rfl (G' 6 rfl (a1' rfl (a1' rfl (po' rfl (an' (g' [0] (D1 hx4) rfl rfl rfl rfl rfl rfl (n' (sg' 9 rfl ?_)))))))))))))
  refine G' 5 rfl (a1' rfl (a1' rfl (po' rfl (a0' rfl (an' (n' (sg' 7 rfl (G' 6 rfl (po' rfl (an' (g' [0] (D1 hx5) rfl rfl rfl rfl rfl rfl (n' (S' ?_)))))))))))))
  refine sg' 8 rfl (G' 5 rfl (a1' rfl (a1' rfl (po' rfl (an' (n' (ci' rfl hh (fun hh=>?_) (fun hh=>?_))))))))
  ·obtain ⟨x6,hx6,hh⟩:=bs' hh
   obtain ⟨x7,hx7,hh⟩:=bs' hh
   exact P' 2 rfl (c' (Kt hx6) rfl rfl (g' [0] (D1 hx7) rfl rfl rfl rfl rfl rfl (n' (ew' (ih1 _ _ _ _ hh) rfl rfl rfl))))
  exact sk' (ew' (ih1 _ _ _ _ hh) rfl rfl rfl)
 ·intro g2 ih2 e depth o0 res hh
  refine S' (t' rfl (ci' rfl hh (fun hh=>?_) (fun hh=>?_)))
  ·obtain ⟨x8,hx8,hh⟩:=bs' hh
   exact P' 3 rfl (g' [0] (Oa hx8) rfl rfl rfl rfl rfl rfl (n' (ew' (ih2 _ _ _ _ hh) rfl rfl rfl)))
  exact sk' (ew' (ih2 _ _ _ _ hh) rfl rfl rfl)
 ·intro g3 ih3 e depth o01 res hh
  refine S' (t' rfl (ci' rfl hh (fun hh=>?_) (fun hh=>?_)))
  ·obtain ⟨x9,hx9,hh⟩:=bs' hh
   obtain ⟨x10,hx10,hh⟩:=bs' hh
   exact P' 3 rfl (c' (U4 hx9) rfl rfl (g' [0] (R3 hx10) rfl rfl rfl rfl rfl rfl (n' (ew' (ih3 _ _ _ _ hh) rfl rfl rfl))))
  exact sk' (ew' (ih3 _ _ _ _ hh) rfl rfl rfl)
 ·intro g4 ih4 e depth o02 res hh
  exact p' 2 rfl (qe' rfl trivial (A0.lenA _) (e' rfl (bk' (fw' (ih4 _ _ _ _ _ hh) rfl rfl rfl))))
 ·intro g0 g4 ih0 ih4 e depth o03 v82 res hh
  refine A1.unroll (t' rfl (S' (ci' rfl hh (fun hh=>?_) (fun hh=>?_))))
  ·obtain ⟨x11,hx11,hh⟩:=bs' hh
   obtain ⟨x12,hx12,hh⟩:=bs' hh
   exact sk' (S' (bk' (s' rfl rfl (i' rfl (W1 hx11) (A0.idx hx11) rfl (q' rfl (F0.nf hC rfl (F0.s hC rfl (n' (P' 4 rfl (g' [0] (ih0 _ _ _ _ hx12) rfl rfl rfl rfl rfl rfl (n' (T' rfl (lw' (ih4 _ _ _ _ _ hh) rfl rfl rfl)))))))))))))
  cases hh
  exact ex' (rn' rfl rfl rfl)
theorem Mg {e depth syntaxReport res}(hh:X2 e depth syntaxReport=some res):Km e depth syntaxReport res:=(Yt).1 _ _ _ _ hh
def C6 (syntaxReport:I0):Option Int:=
 if (bif (decide (syntaxReport.nodes > 1024)) then true else (decide (syntaxReport.depth > 12)))=true then
  some 4
 else
  if syntaxReport.badForm=true then
   some 1
  else
   if syntaxReport.badName=true then
    some 7
   else
    if syntaxReport.badNumber=true then
     some 3
    else
     some 0
theorem Rl {syntaxReport res}(hh:C6 syntaxReport=some res):U0 C 64 [.ref 0 0] [.row (I0.cells syntaxReport) 103] (Ret [.row (I0.cells syntaxReport) 103] (.d (.int .i64 res))):=by
 unfold C6 at hh
 refine U0.intro hC Tryz.func64 rfl rfl rfl (t' rfl (S' (bk' (sg' 13 rfl (G' 7 rfl (a1' rfl (a1' rfl (a1' rfl (a1' rfl (po' rfl (a0' rfl (an' (n' (ci' rfl hh (fun hh=>?_) (fun hh=>?_)))))))))))))))
 ·cases hh
  exact t' rfl (re' (rt' rfl rfl rfl))
 refine t' rfl (ci' rfl hh (fun hh=>?_) (fun hh=>?_))
 ·cases hh
  exact t' rfl (re' (rt' rfl rfl rfl))
 refine t' rfl (ci' rfl hh (fun hh=>?_) (fun hh=>?_))
 ·cases hh
  exact t' rfl (re' (rt' rfl rfl rfl))
 refine t' rfl (ci' rfl hh (fun hh=>?_) (fun hh=>?_))
 ·cases hh
  exact t' rfl (re' (rt' rfl rfl rfl))
 cases hh
 exact sk' (t' rfl (re' (rt' rfl rfl rfl)))
def Ha (e:A0):Option Int:=
 X2 e 1 (I0.mk 0 0 false false false)>>=fun x1=>
 C6 x1>>=fun x2=>
 some x2
theorem Xx {e res}(hh:Ha e=some res):U0 C 31 [.agg (A0.cells e)] [] (Ret [] (.d (.int .i64 res))):=by
 unfold Ha at hh
 obtain ⟨x1,hx1,hh⟩:=bs' hh
 obtain ⟨x2,hx2,hh⟩:=bs' hh
 cases hh
 exact U0.intro hC Tryz.func31 rfl rfl rfl (s' rfl rfl (F0.n hC rfl (e' rfl (p' 1 rfl (F0.n hC rfl (e' rfl (p' 2 rfl (g' [1] (Mg hx1) rfl rfl rfl rfl rfl rfl (n' (p' 1 rfl (g' [1] (Rl hx2) rfl rfl rfl rfl rfl rfl (e' rfl (re' (rt' rfl rfl rfl))))))))))))))
def V4 (text:Str):Option (A0×Int×Int):=
 Qi text (A0.mk 0 0 [] [])>>=fun x1=>
 if (x1.2.1 != 0)=true then
  some ((A0.mk 0 0 [] []),x1.1,x1.2.1)
 else
  Ha x1.2.2>>=fun x2=>
  if (x2 != 0)=true then
   some ((A0.mk 0 0 [] []),0,x2)
  else
   some (x1.2.2,0,0)
theorem Se {text res}(hh:V4 text=some res):U0 C 11 [.d (.str text)] [] (Ret [] (.tup [.agg (A0.cells res.1),.d (.int .i64 res.2.1),.d (.int .i64 res.2.2)])):=by
 unfold V4 at hh
 obtain ⟨x1,hx1,hh⟩:=bs' hh
 refine U0.intro hC Tryz.func11 rfl rfl rfl (s' rfl rfl (F0.nf hC rfl (e' rfl (s' rfl rfl (F0.nf hC rfl (n' (p' 2 rfl (g' [1] (T14 hx1) rfl rfl rfl rfl rfl rfl (e' rfl (S' (t' rfl (ci' rfl hh (fun hh=>?_) (fun hh=>?_)))))))))))))
 ·cases hh
  exact p' 3 rfl (F0.s hC rfl (e' rfl (re' (rt' rfl rfl rfl))))
 obtain ⟨x2,hx2,hh⟩:=bs' hh
 refine sk' (S' (p' 1 rfl (c' (Xx hx2) rfl rfl (e' rfl (t' rfl (ci' rfl hh (fun hh=>?_) (fun hh=>?_)))))))
 ·cases hh
  exact p' 2 rfl (F0.s hC rfl (e' rfl (re' (rt' rfl rfl rfl))))
 cases hh
 exact sk' (p' 1 rfl (F0.s hC rfl (e' rfl (re' (rt' rfl rfl rfl)))))
def Xh (s:Str):Option A0:=
 some (A0.mk 3 0 s [])
theorem Eq {s res}(hh:Xh s=some res):U0 C 27 [.d (.str s)] [] (Ret [] (.agg (A0.cells res))):=by
 unfold Xh at hh
 cases hh
 exact U0.intro hC Tryz.func27 rfl rfl rfl (s' rfl rfl (F0.nf hC rfl (n' (p' 2 rfl (F0.s hC rfl (n' (re' (rt' rfl rfl rfl))))))))
mutual
def Q3 (a:A0)(b:A0):Option Bool:=
 if (bif (bif (bif (a.Op != b.Op) then true else (a.NV != b.NV)) then true else (!(a.Name == b.Name))) then true else (((a.Kids).length:Int) != ((b.Kids).length:Int)))=true then
  some false
 else
  Z6 a b 0
 partial_fixpoint
def Z6 (a:A0)(b:A0)(i:Int):Option Bool:=
 if (decide (i < ((a.Kids).length:Int)))=true then
  idx a.Kids i>>=fun x1=>
  idx b.Kids i>>=fun x2=>
  Q3 x1 x2>>=fun x3=>
  if (!x3)=true then
   some false
  else
   Z6 a b (IntKind.i64.wrap (i+1))
 else
  some true
 partial_fixpoint
end
abbrev Mq (a:A0)(b:A0)(res:Bool):Prop:=U0 C 13 [.agg (A0.cells a),.agg (A0.cells b)] [] (Ret [] (.d (.bool res)))
abbrev Lw (a:A0)(b:A0)(i:Int)(res:Bool):Prop:=LM C 53 0 Tryz.f13 [1,1,0,1,4] [(2,.ref 0 0),(3,.ref 1 0),(5,.d (.int .i64 i))] [.row (A0.cells a) 26,.row (A0.cells b) 26] (Ret [] (.d (.bool res)))
theorem Yx:(∀ a b res,Q3 a b=some res→Mq a b res)∧(∀ a b i res,Z6 a b i=some res→Lw a b i res):=by
 refine Q3.mutual_partial_correctness _ _ ?_ ?_
 ·intro g1 ih1 a b res hh
  refine U0.intro hC Tryz.func13 rfl rfl rfl (s' rfl rfl (F0.n hC rfl (F0.n hC rfl (e' rfl (S' (sg' 28 rfl (G' 7 rfl (a1' rfl (a0' rfl (a1' rfl (a2' rfl (po' rfl (G' 2 rfl ?_)))))))))))))
  refine a1' rfl (a0' rfl (a1' rfl (a2' rfl (po' rfl (G' 2 rfl (a1' rfl (AG.qe hC rfl (fun hg=>⟨⟨hg,trivial⟩,trivial⟩) (A0.lenA _) (a0' rfl (a1' rfl (AG.qe hC rfl (fun hg=>⟨⟨hg,trivial⟩,trivial⟩) (A0.lenA _) (a2' rfl (po' rfl (an' ?_)))))))))))))
  refine n' (ci' rfl hh (fun hh=>?_) (fun hh=>?_))
  ·cases hh
   exact t' rfl (re' (rt' rfl rfl rfl))
  exact sk' (S' (t' rfl (bk' (fw' (ih1 _ _ _ _ hh) rfl rfl rfl))))
 ·intro g0 g1 ih0 ih1 a b i res hh
  refine A1.unroll (S' (p' 3 rfl (qe' rfl trivial (A0.lenA _) (e' rfl (ci' rfl hh (fun hh=>?_) (fun hh=>?_))))))
  ·obtain ⟨x1,hx1,hh⟩:=bs' hh
   obtain ⟨x2,hx2,hh⟩:=bs' hh
   obtain ⟨x3,hx3,hh⟩:=bs' hh
   refine sk' (S' (bk' (S' (AEx.draw hC 12 rfl rfl rfl (O' 3 rfl (AQ.i hC rfl (W1 hx1) (A0.idx hx1) rfl (O' 4 rfl (AQ.i hC rfl (W1 hx2) (A0.idx hx2) rfl (Q' rfl (Qc' (ih0 _ _ _ hx3) rfl rfl (E' rfl (n' (ci' rfl hh (fun hh=>?_) (fun hh=>?_))))))))))))))
   ·cases hh
    exact t' rfl (re' (rt' rfl rfl rfl))
   exact sk' (T' rfl (lw' (ih1 _ _ _ _ hh) rfl rfl rfl))
  cases hh
  exact ex' (t' rfl (re' (rt' rfl rfl rfl)))
theorem Pa {a b res}(hh:Q3 a b=some res):Mq a b res:=(Yx).1 _ _ _ hh
def Uf:Option Bool:=
 V4 [97,32,45,32,98,32,45,32,99,91,49,93,46,100]>>=fun x1=>
 Xh [99]>>=fun x2=>
 Xh [97]>>=fun x3=>
 Xh [98]>>=fun x4=>
 V4 [97,32,61,61,32,98,32,61,61,32,99]>>=fun x5=>
 (if (x1.2.2 == 0)=true then Q3 x1.1 (A0.mk 9 0 [] [(A0.mk 9 0 [] [x3,x4]),(A0.mk 4 0 [100] [(A0.mk 5 0 [] [x2,(A0.mk 0 1 [] [])])])]) else some default)>>=fun x6=>
 some (bif (bif (bif (x1.2.2 == 0) then x6 else false) then (x5.2.2 == 6) else false) then (x5.2.1 == 7) else false)
theorem U14 {res}(hh:Uf=some res):U0 C 10 [] [] (Ret [] (.d (.bool res))):=by
 unfold Uf at hh
 obtain ⟨x1,hx1,hh⟩:=bs' hh
 obtain ⟨x2,hx2,hh⟩:=bs' hh
 obtain ⟨x3,hx3,hh⟩:=bs' hh
 obtain ⟨x4,hx4,hh⟩:=bs' hh
 obtain ⟨x5,hx5,hh⟩:=bs' hh
 obtain ⟨x6,hx6,hh⟩:=bs' hh
 cases hh
 refine U0.intro hC Tryz.func10 rfl rfl rfl (t' rfl (s' rfl rfl (c' (Se hx1) rfl rfl (o' 4 rfl (F0.nf hC rfl (F0.s hC rfl (e' rfl (s' rfl rfl (c' (Eq hx2) rfl rfl (q' rfl (F0.be hC rfl (A0.rows_map [x2,(A0.mk 0 1 [] [])]).symm (q' rfl (F0.be hC rfl (A0.rows_map [(A0.mk 5 0 [] [x2,(A0.mk 0 1 [] [])])]).symm ?_)))))))))))))
 refine q' rfl (F0.nf hC rfl (F0.s hC rfl (n' (S' (AEx.drawL hC 8 [] [(7,2)] [[.row (A0.cells x1.1) 26,.row [.d (.int .i64 4),.d (.int .i64 0),.d (.str [100]),.full (A0.rows [(A0.mk 5 0 [] [x2,(A0.mk 0 1 [] [])])])] 26,.row [.d (.int .i64 0),.d (.int .i64 0),.d (.str []),.full (A0.rows [])] 26]] rfl rfl rfl rfl rfl rfl rfl rfl rfl rfl (AS.c (Eq hx3) rfl rfl rfl rfl ?_))))))
 refine AS.c (Eq hx4) rfl rfl rfl rfl (AS.a rfl (fun H=>AQ.be hC rfl (A0.rows_map [x3,x4]).symm (AQ.nil rfl)) rfl rfl (AS.q hC rfl rfl rfl rfl (AS.q hC rfl rfl rfl rfl (AS.a rfl (fun H=>AQ.be hC rfl (A0.rows_map [(A0.mk 9 0 [] [x3,x4]),(A0.mk 4 0 [100] [(A0.mk 5 0 [] [x2,(A0.mk 0 1 [] [])])])]).symm (AQ.nil rfl)) rfl rfl (AS.q hC rfl rfl rfl rfl ?_)))))
 refine AS.n hC rfl rfl rfl rfl (AS.nil (F0.s hC rfl (n' (s' rfl rfl (c' (Se hx5) rfl rfl (o' 4 rfl (F0.nf hC rfl (F0.s hC rfl (e' rfl (sg' 16 rfl (G' 5 rfl (AG.cl rfl (fun hw=>Pa (A4 hw hx6)) ⟨.rfl,(.aggL ⟨.rfl,.rfl,.rfl,.full,trivial⟩),trivial⟩ rfl (fun hg=>⟨hg,hg,trivial⟩) (pa' rfl ?_)))))))))))))
 exact G' 2 rfl (a1' rfl (pa' rfl (G' 2 rfl (a1' rfl (pa' rfl (a0' rfl (an' (n' (re' (rt' rfl rfl rfl))))))))))
mutual
def T6 (s:Str)(atV1:Int):Option Int:=
 if (decide (atV1 < ((s).length:Int)))=true then
  idx s atV1>>=fun x1=>
  if ((x1.toNat:Int) == 35)=true then
   Qa s atV1
  else
   idx s atV1>>=fun x2=>
   (if (!((x2.toNat:Int) == 32))=true then idx s atV1 else some default)>>=fun x3=>
   (if (!(bif ((x2.toNat:Int) == 32) then true else ((x3.toNat:Int) == 9)))=true then idx s atV1 else some default)>>=fun x4=>
   if (bif (bif ((x2.toNat:Int) == 32) then true else ((x3.toNat:Int) == 9)) then true else ((x4.toNat:Int) == 10))=true then
    T6 s (IntKind.i64.wrap (atV1+1))
   else
    some atV1
 else
  some atV1
 partial_fixpoint
def Qa (s:Str)(atV2:Int):Option Int:=
 (if (decide (atV2 < ((s).length:Int)))=true then idx s atV2 else some default)>>=fun x5=>
 if (bif (decide (atV2 < ((s).length:Int))) then ((x5.toNat:Int) != 10) else false)=true then
  Qa s (IntKind.i64.wrap (atV2+1))
 else
  T6 s atV2
 partial_fixpoint
end
abbrev Xr (s:Str)(atV1:Int)(res:Int):Prop:=LM C 45 0 Tryz.f55 [1,0,4] [(0,.d (.str s)),(1,.d (.int .i64 atV1))] [] (Ret [] (.d (.int .i64 res)))
abbrev R11 (s:Str)(atV2:Int)(res:Int):Prop:=LM C 45 0 Tryz.f55 [1,0,4,5,1,4,1,2,4] [(0,.d (.str s)),(1,.d (.int .i64 atV2))] [] (Ret [] (.d (.int .i64 res)))
theorem Hz (s:Str):(∀ atV1 res,T6 s atV1=some res→Xr s atV1 res)∧(∀ atV2 res,Qa s atV2=some res→R11 s atV2 res):=by
 refine T6.mutual_partial_correctness s _ _ ?_ ?_
 ·intro g0 g1 ih0 ih1 atV1 res hh
  refine A1.unroll (S' (t' rfl (ci' rfl hh (fun hh=>?_) (fun hh=>?_))))
  ·obtain ⟨x1,hx1,hh⟩:=bs' hh
   refine sk' (bk' (p' 2 rfl (x' rfl (W1 hx1) (Y5 hx1) (e' rfl (ci' rfl hh (fun hh=>?_) (fun hh=>?_))))))
   ·exact bk' (fw' (ih1 _ _ hh) rfl rfl rfl)
   obtain ⟨x2,hx2,hh⟩:=bs' hh
   obtain ⟨x3,hx3,hh⟩:=bs' hh
   obtain ⟨x4,hx4,hh⟩:=bs' hh
   refine sg' 16 rfl (G' 2 rfl (AG.x hC rfl rfl (fun _=>trivial) (fun hw=>⟨W1 hx2,Y5 hx2⟩) (G' 4 rfl (AG.x hC rfl rfl (fun hg=>⟨hg,hg,trivial⟩) (fun hw=>⟨W1 (A4 hw hx3),Y5 (A4 hw hx3)⟩) (a1' rfl (po' rfl (G' 3 rfl (AG.x hC rfl rfl (fun hg=>⟨hg,hg,trivial⟩) (fun hw=>⟨W1 (A4 hw hx4),Y5 (A4 hw hx4)⟩) (a1' rfl (po' rfl (an' (n' (ci' rfl hh (fun hh=>?_) (fun hh=>?_))))))))))))))
   ·exact T' rfl (lw' (ih0 _ _ hh) rfl rfl rfl)
   cases hh
   exact t' rfl (re' (rt' rfl rfl rfl))
  cases hh
  exact ex' (t' rfl (re' (rt' rfl rfl rfl)))
 ·intro g0 g1 ih0 ih1 atV2 res hh
  obtain ⟨x5,hx5,hh⟩:=bs' hh
  refine A1.unroll (S' (sg' 10 rfl (G' 7 rfl (AG.x hC rfl rfl (fun hg=>⟨hg,hg,trivial⟩) (fun hw=>⟨W1 (A4 hw hx5),Y5 (A4 hw hx5)⟩) (a1' rfl (pa' rfl (an' (n' (ci' rfl hh (fun hh=>?_) (fun hh=>?_))))))))))
  ·exact sk' (bk' (T' rfl (lw' (ih1 _ _ hh) rfl rfl rfl)))
  exact ex' (lw' (ih0 _ _ hh) rfl rfl rfl)
theorem R10 {s atV1 res}(hh:T6 s atV1=some res):Xr s atV1 res:=(Hz s).1 _ _ hh
def Ri (s:Str)(atV:Int):Option Int:=
 T6 s atV
theorem Ev {s atV res}(hh:Ri s atV=some res):U0 C 55 [.d (.str s),.d (.int .i64 atV)] [] (Ret [] (.d (.int .i64 res))):=by
 unfold Ri at hh
 exact U0.intro hC Tryz.func55 rfl rfl rfl (t' rfl (S' (bk' (fw' (R10 hh) rfl rfl rfl))))
def Ng (c:Int):Option Bool:=
 some (bif (decide (c≥97)) then (decide (c≤122)) else false)
theorem Lm {c res}(hh:Ng c=some res):U0 C 104 [.d (.int .u8 c)] [] (Ret [] (.d (.bool res))):=by
 unfold Ng at hh
 cases hh
 exact U0.intro hC Tryz.func104 rfl rfl rfl (t' rfl (sg' 7 rfl (G' 4 rfl (a1' rfl (pa' rfl (a0' rfl (an' (n' (re' (rt' rfl rfl rfl))))))))))
def Si (c:Int):Option Bool:=
 some (bif (decide (c≥48)) then (decide (c≤57)) else false)
theorem Un {c res}(hh:Si c=some res):U0 C 106 [.d (.int .u8 c)] [] (Ret [] (.d (.bool res))):=by
 unfold Si at hh
 cases hh
 exact U0.intro hC Tryz.func106 rfl rfl rfl (t' rfl (sg' 7 rfl (G' 4 rfl (a1' rfl (pa' rfl (a0' rfl (an' (n' (re' (rt' rfl rfl rfl))))))))))
def Mc (s:Str)(atV1:Int):Option Int:=
 (if (decide (atV1 < ((s).length:Int)))=true then idx s atV1 else some default)>>=fun x1=>
 (if (decide (atV1 < ((s).length:Int)))=true then Ng (x1.toNat:Int) else some default)>>=fun x2=>
 (if ((decide (atV1 < ((s).length:Int)))&&(!x2))=true then idx s atV1 else some default)>>=fun x3=>
 (if ((decide (atV1 < ((s).length:Int)))&&(!x2))=true then Si (x3.toNat:Int) else some default)>>=fun x4=>
 if (bif (decide (atV1 < ((s).length:Int))) then (bif x2 then true else x4) else false)=true then
  Mc s (IntKind.i64.wrap (atV1+1))
 else
  some atV1
 partial_fixpoint
abbrev Fv (s:Str)(atV1:Int)(res:Int):Prop:=LM C 24 0 Tryz.f103 [1,0,4] [(0,.d (.str s)),(1,.d (.int .i64 atV1))] [] (Ret [] (.d (.int .i64 res)))
theorem S11 (s:Str):(∀ atV1 res,Mc s atV1=some res→Fv s atV1 res):=by
 refine Mc.partial_correctness s _ ?_
 ·intro g0 ih0 atV1 res hh
  obtain ⟨x1,hx1,hh⟩:=bs' hh
  obtain ⟨x2,hx2,hh⟩:=bs' hh
  obtain ⟨x3,hx3,hh⟩:=bs' hh
  obtain ⟨x4,hx4,hh⟩:=bs' hh
  refine A1.unroll (S' (sg' 16 rfl (G' 7 rfl (AG.x hC rfl rfl (fun hg=>⟨hg,hg,trivial⟩) (fun hw=>⟨W1 (A4 hw hx1),Y5 (A4 hw hx1)⟩) (AG.c rfl rfl (fun hg=>⟨hg,trivial⟩) (fun hw=>Lm (A4 hw hx2)) (a1' rfl (G' 2 rfl (AG.x hC rfl rfl (fun hg=>⟨hg,hg,trivial⟩) (fun hw=>⟨W1 (A4 hw hx3),Y5 (A4 hw hx3)⟩) ?_))))))))
  refine AG.c rfl rfl (fun hg=>⟨hg,trivial⟩) (fun hw=>Un (A4 hw hx4)) (pO' rfl (pa' rfl (an' (n' (ci' rfl hh (fun hh=>?_) (fun hh=>?_))))))
  ·exact sk' (bk' (T' rfl (lw' (ih0 _ _ hh) rfl rfl rfl)))
  cases hh
  exact ex' (t' rfl (re' (rt' rfl rfl rfl)))
theorem M13 {s atV1 res}(hh:Mc s atV1=some res):Fv s atV1 res:=(S11 s) _ _ hh
def Lt (s:Str)(atV:Int):Option Int:=
 Mc s atV
theorem O18 {s atV res}(hh:Lt s atV=some res):U0 C 103 [.d (.str s),.d (.int .i64 atV)] [] (Ret [] (.d (.int .i64 res))):=by
 unfold Lt at hh
 exact U0.intro hC Tryz.func103 rfl rfl rfl (t' rfl (S' (bk' (fw' (M13 hh) rfl rfl rfl))))
def O7 (s:Str)(i1:Int):Option Bool:=
 if (decide ((IntKind.i64.wrap ((IntKind.i64.wrap (i1+((s).length:Int)))+2))≤162))=true then
  slc [32,116,121,112,101,32,115,101,99,114,101,116,32,112,117,98,108,105,99,32,114,97,110,100,111,109,32,118,97,114,32,104,97,116,99,104,32,102,117,110,99,32,114,101,116,117,114,110,32,98,101,103,105,110,32,101,110,100,32,98,111,111,108,32,105,110,116,32,97,114,114,97,121,32,111,102,32,114,101,99,111,114,100,32,116,114,117,101,32,102,97,108,115,101,32,99,97,108,108,32,114,101,108,101,97,115,101,32,111,117,116,112,117,116,32,119,97,105,116,32,105,102,32,101,108,115,101,32,119,104,105,108,101,32,108,105,109,105,116,32,102,111,114,32,116,111,32,115,101,116,116,108,101,32,109,105,110,32,109,97,120,32] i1 (IntKind.i64.wrap ((IntKind.i64.wrap (i1+((s).length:Int)))+2))>>=fun x3=>
  if (decide (1+s.length≤maxLen))=true then
   if (decide (([32]++s).length+1≤maxLen))=true then
    if (x3 == (([32]++s)++[32]))=true then
     some true
    else
     O7 s (IntKind.i64.wrap (i1+1))
   else none
  else none
 else
  some false
 partial_fixpoint
abbrev Dn (s:Str)(i1:Int)(res:Bool):Prop:=LM C 38 0 Tryz.f105 [1,1,1,0,1,4] [(0,.d (.str s)),(4,.d (.int .i64 i1))] [] (Ret [] (.d (.bool res)))
theorem Gv (s:Str):(∀ i1 res,O7 s i1=some res→Dn s i1 res):=by
 refine O7.partial_correctness s _ ?_
 ·intro g0 ih0 i1 res hh
  refine A1.unroll (S' (t' rfl (ci' rfl hh (fun hh=>?_) (fun hh=>?_))))
  ·obtain ⟨x3,hx3,hh⟩:=bs' hh
   obtain ⟨c9,hh⟩:=I4 hh
   obtain ⟨c10,hh⟩:=I4 hh
   refine sk' (S' (bk' (p' 6 rfl (F0.lx hC rfl hx3 (q' rfl (qc' rfl c9 (qc' rfl c10 (e' rfl (ci' rfl hh (fun hh=>?_) (fun hh=>?_))))))))))
   ·cases hh
    exact t' rfl (re' (rt' rfl rfl rfl))
   exact sk' (T' rfl (lw' (ih0 _ _ hh) rfl rfl rfl))
  cases hh
  exact ex' (t' rfl (re' (rt' rfl rfl rfl)))
theorem Mw {s i1 res}(hh:O7 s i1=some res):Dn s i1 res:=(Gv s) _ _ hh
def P7 (s:Str)(i:Int):Option Bool:=
 if (decide (i < ((s).length:Int)))=true then
  idx s i>>=fun x1=>
  Ng (x1.toNat:Int)>>=fun x2=>
  if (!x2)=true then
   some false
  else
   P7 s (IntKind.i64.wrap (i+1))
 else
  O7 s 0
 partial_fixpoint
abbrev En (s:Str)(i:Int)(res:Bool):Prop:=LM C 38 0 Tryz.f105 [1,1,0,1,4] [(0,.d (.str s)),(3,.d (.int .i64 i))] [] (Ret [] (.d (.bool res)))
theorem Hv (s:Str):(∀ i res,P7 s i=some res→En s i res):=by
 refine P7.partial_correctness s _ ?_
 ·intro g0 ih0 i res hh
  refine A1.unroll (S' (t' rfl (ci' rfl hh (fun hh=>?_) (fun hh=>?_))))
  ·obtain ⟨x1,hx1,hh⟩:=bs' hh
   obtain ⟨x2,hx2,hh⟩:=bs' hh
   refine sk' (S' (bk' (p' 2 rfl (x' rfl (W1 hx1) (Y5 hx1) (c' (Lm hx2) rfl rfl (e' rfl (ci' rfl hh (fun hh=>?_) (fun hh=>?_))))))))
   ·cases hh
    exact t' rfl (re' (rt' rfl rfl rfl))
   exact sk' (T' rfl (lw' (ih0 _ _ hh) rfl rfl rfl))
  exact ex' (S' (t' rfl (bk' (fw' (Mw hh) rfl rfl rfl))))
theorem Nw {s i res}(hh:P7 s i=some res):En s i res:=(Hv s) _ _ hh
def Og (s:Str):Option Bool:=
 if (((s).length:Int) == 0)=true then
  some false
 else
  P7 s 0
theorem S10 {s res}(hh:Og s=some res):U0 C 105 [.d (.str s)] [] (Ret [] (.d (.bool res))):=by
 unfold Og at hh
 refine U0.intro hC Tryz.func105 rfl rfl rfl (t' rfl (S' (t' rfl (ci' rfl hh (fun hh=>?_) (fun hh=>?_)))))
 ·cases hh
  exact t' rfl (re' (rt' rfl rfl rfl))
 exact sk' (S' (t' rfl (bk' (fw' (Nw hh) rfl rfl rfl))))
def V6 (s:Str)(n:Int)(i1:Int):Option Int:=
 if (decide (i1 < ((s).length:Int)))=true then
  idx s i1>>=fun x4=>
  if (decide ((IntKind.i64.wrap ((IntKind.i64.wrap (n * 10))+(IntKind.i64.wrap (IntKind.u8.wrap ((x4.toNat:Int) - 48))))) > 1048576))=true then
   some 3
  else
   V6 s (IntKind.i64.wrap ((IntKind.i64.wrap (n * 10))+(IntKind.i64.wrap (IntKind.u8.wrap ((x4.toNat:Int) - 48))))) (IntKind.i64.wrap (i1+1))
 else
  some 0
 partial_fixpoint
abbrev Nq (s:Str)(n:Int)(i1:Int)(res:Int):Prop:=LM C 41 0 Tryz.f107 [1,1,1,1,0,1,4] [(0,.d (.str s)),(3,.d (.int .i64 n)),(5,.d (.int .i64 i1))] [] (Ret [] (.d (.int .i64 res)))
theorem Zx (s:Str):(∀ n i1 res,V6 s n i1=some res→Nq s n i1 res):=by
 refine V6.partial_correctness s _ ?_
 ·intro g0 ih0 n i1 res hh
  refine A1.unroll (S' (t' rfl (ci' rfl hh (fun hh=>?_) (fun hh=>?_))))
  ·obtain ⟨x4,hx4,hh⟩:=bs' hh
   refine sk' (S' (bk' (p' 4 rfl (x' rfl (W1 hx4) (Y5 hx4) (e' rfl (t' rfl (ci' rfl hh (fun hh=>?_) (fun hh=>?_))))))))
   ·cases hh
    exact t' rfl (re' (rt' rfl rfl rfl))
   exact sk' (T' rfl (lw' (ih0 _ _ _ hh) rfl rfl rfl))
  cases hh
  exact ex' (t' rfl (re' (rt' rfl rfl rfl)))
theorem Iz {s n i1 res}(hh:V6 s n i1=some res):Nq s n i1 res:=(Zx s) _ _ _ hh
def I9 (s:Str)(i:Int):Option Int:=
 if (decide (i < ((s).length:Int)))=true then
  idx s i>>=fun x2=>
  Si (x2.toNat:Int)>>=fun x3=>
  if (!x3)=true then
   some 6
  else
   I9 s (IntKind.i64.wrap (i+1))
 else
  V6 s 0 0
 partial_fixpoint
abbrev Oq (s:Str)(i:Int)(res:Int):Prop:=LM C 41 0 Tryz.f107 [1,1,1,0,1,4] [(0,.d (.str s)),(3,.d (.int .i64 0)),(4,.d (.int .i64 i))] [] (Ret [] (.d (.int .i64 res)))
theorem Ay (s:Str):(∀ i res,I9 s i=some res→Oq s i res):=by
 refine I9.partial_correctness s _ ?_
 ·intro g0 ih0 i res hh
  refine A1.unroll (S' (t' rfl (ci' rfl hh (fun hh=>?_) (fun hh=>?_))))
  ·obtain ⟨x2,hx2,hh⟩:=bs' hh
   obtain ⟨x3,hx3,hh⟩:=bs' hh
   refine sk' (S' (bk' (p' 2 rfl (x' rfl (W1 hx2) (Y5 hx2) (c' (Un hx3) rfl rfl (e' rfl (ci' rfl hh (fun hh=>?_) (fun hh=>?_))))))))
   ·cases hh
    exact t' rfl (re' (rt' rfl rfl rfl))
   exact sk' (T' rfl (lw' (ih0 _ _ hh) rfl rfl rfl))
  exact ex' (S' (t' rfl (bk' (fw' (Iz hh) rfl rfl rfl))))
theorem Jz {s i res}(hh:I9 s i=some res):Oq s i res:=(Ay s) _ _ hh
def Ij (s:Str):Option Int:=
 (if (decide (((s).length:Int) > 1))=true then idx s 0 else some default)>>=fun x1=>
 if (bif (decide (((s).length:Int) > 1)) then ((x1.toNat:Int) == 48) else false)=true then
  some 6
 else
  I9 s 0
theorem N13 {s res}(hh:Ij s=some res):U0 C 107 [.d (.str s)] [] (Ret [] (.d (.int .i64 res))):=by
 unfold Ij at hh
 obtain ⟨x1,hx1,hh⟩:=bs' hh
 refine U0.intro hC Tryz.func107 rfl rfl rfl (t' rfl (S' (sg' 8 rfl (G' 5 rfl (AG.x hC rfl rfl (fun hg=>⟨hg,trivial⟩) (fun hw=>⟨W1 (A4 hw hx1),Y5 (A4 hw hx1)⟩) (a1' rfl (pa' rfl (an' (n' (ci' rfl hh (fun hh=>?_) (fun hh=>?_)))))))))))
 ·cases hh
  exact t' rfl (re' (rt' rfl rfl rfl))
 exact sk' (t' rfl (S' (t' rfl (bk' (fw' (Jz hh) rfl rfl rfl)))))
def W6 (s:Str)(v4:Bool):Option Bool:=
 if v4=true then
  some true
 else
  if (s == [59])=true then
   if (s == [59])=true then
    some true
   else
    some false
  else
   if (s == [58])=true then
    if (s == [58])=true then
     some true
    else
     some false
   else
    if (s == [44])=true then
     if (s == [44])=true then
      some true
     else
      some false
    else
     if (s == [46])=true then
      if (s == [46])=true then
       some true
      else
       some false
     else
      if (s == [61])=true then
       if (s == [61])=true then
        some true
       else
        some false
      else
       if (s == [43])=true then
        if (s == [43])=true then
         some true
        else
         some false
       else
        if (s == [45])=true then
         if (s == [45])=true then
          some true
         else
          some false
        else
         if (s == [42])=true then
          if (s == [42])=true then
           some true
          else
           some false
         else
          if (s == [47])=true then
           if (s == [47])=true then
            some true
           else
            some false
          else
           if (s == [37])=true then
            if (s == [37])=true then
             some true
            else
             some false
           else
            if (s == [60])=true then
             if (s == [60])=true then
              some true
             else
              some false
            else
             if (s == [62])=true then
              if (s == [62])=true then
               some true
              else
               some false
             else
              if (s == [33])=true then
               if (s == [33])=true then
                some true
               else
                some false
              else
               if (s == [63])=true then
                if (s == [63])=true then
                 some true
                else
                 some false
               else
                if (s == [40])=true then
                 if (s == [40])=true then
                  some true
                 else
                  some false
                else
                 if (s == [41])=true then
                  if (s == [41])=true then
                   some true
                  else
                   some false
                 else
                  if (s == [91])=true then
                   if (s == [91])=true then
                    some true
                   else
                    some false
                  else
                   if (s == [93])=true then
                    if (s == [93])=true then
                     some true
                    else
                     some false
                   else
                    if (s == [123])=true then
                     if (s == [123])=true then
                      some true
                     else
                      some false
                    else
                     if (s == [125])=true then
                      some true
                     else
                      some false
theorem N8 {s v4 res}(hh:W6 s v4=some res):JM C 33 0 Tryz.f108 [1,0,1,4,1] [(3,.d (.str s)),(4,.d (.bool v4))] [] (Ret [] (.d (.bool res))):=by
 unfold W6 at hh
 refine ci' rfl hh (fun hh=>?_) (fun hh=>?_)
 ·cases hh
  exact t' rfl (re' (rt' rfl rfl rfl))
 refine S' (t' rfl (ci' rfl hh (fun hh=>?_) (fun hh=>?_)))
 ·refine sk' (ci' rfl hh (fun hh=>?_) (fun hh=>?_))
  ·cases hh
   exact t' rfl (re' (rt' rfl rfl rfl))
  cases hh
  exact sk' (t' rfl (re' (rt' rfl rfl rfl)))
 refine t' rfl (ci' rfl hh (fun hh=>?_) (fun hh=>?_))
 ·refine sk' (ci' rfl hh (fun hh=>?_) (fun hh=>?_))
  ·cases hh
   exact t' rfl (re' (rt' rfl rfl rfl))
  cases hh
  exact sk' (t' rfl (re' (rt' rfl rfl rfl)))
 refine t' rfl (ci' rfl hh (fun hh=>?_) (fun hh=>?_))
 ·refine sk' (ci' rfl hh (fun hh=>?_) (fun hh=>?_))
  ·cases hh
   exact t' rfl (re' (rt' rfl rfl rfl))
  cases hh
  exact sk' (t' rfl (re' (rt' rfl rfl rfl)))
 refine t' rfl (ci' rfl hh (fun hh=>?_) (fun hh=>?_))
 ·refine sk' (ci' rfl hh (fun hh=>?_) (fun hh=>?_))
  ·cases hh
   exact t' rfl (re' (rt' rfl rfl rfl))
  cases hh
  exact sk' (t' rfl (re' (rt' rfl rfl rfl)))
 refine t' rfl (ci' rfl hh (fun hh=>?_) (fun hh=>?_))
 ·refine sk' (ci' rfl hh (fun hh=>?_) (fun hh=>?_))
  ·cases hh
   exact t' rfl (re' (rt' rfl rfl rfl))
  cases hh
  exact sk' (t' rfl (re' (rt' rfl rfl rfl)))
 refine t' rfl (ci' rfl hh (fun hh=>?_) (fun hh=>?_))
 ·refine sk' (ci' rfl hh (fun hh=>?_) (fun hh=>?_))
  ·cases hh
   exact t' rfl (re' (rt' rfl rfl rfl))
  cases hh
  exact sk' (t' rfl (re' (rt' rfl rfl rfl)))
 refine t' rfl (ci' rfl hh (fun hh=>?_) (fun hh=>?_))
 ·refine sk' (ci' rfl hh (fun hh=>?_) (fun hh=>?_))
  ·cases hh
   exact t' rfl (re' (rt' rfl rfl rfl))
  cases hh
  exact sk' (t' rfl (re' (rt' rfl rfl rfl)))
 refine t' rfl (ci' rfl hh (fun hh=>?_) (fun hh=>?_))
 ·refine sk' (ci' rfl hh (fun hh=>?_) (fun hh=>?_))
  ·cases hh
   exact t' rfl (re' (rt' rfl rfl rfl))
  cases hh
  exact sk' (t' rfl (re' (rt' rfl rfl rfl)))
 refine t' rfl (ci' rfl hh (fun hh=>?_) (fun hh=>?_))
 ·refine sk' (ci' rfl hh (fun hh=>?_) (fun hh=>?_))
  ·cases hh
   exact t' rfl (re' (rt' rfl rfl rfl))
  cases hh
  exact sk' (t' rfl (re' (rt' rfl rfl rfl)))
 refine t' rfl (ci' rfl hh (fun hh=>?_) (fun hh=>?_))
 ·refine sk' (ci' rfl hh (fun hh=>?_) (fun hh=>?_))
  ·cases hh
   exact t' rfl (re' (rt' rfl rfl rfl))
  cases hh
  exact sk' (t' rfl (re' (rt' rfl rfl rfl)))
 refine t' rfl (ci' rfl hh (fun hh=>?_) (fun hh=>?_))
 ·refine sk' (ci' rfl hh (fun hh=>?_) (fun hh=>?_))
  ·cases hh
   exact t' rfl (re' (rt' rfl rfl rfl))
  cases hh
  exact sk' (t' rfl (re' (rt' rfl rfl rfl)))
 refine t' rfl (ci' rfl hh (fun hh=>?_) (fun hh=>?_))
 ·refine sk' (ci' rfl hh (fun hh=>?_) (fun hh=>?_))
  ·cases hh
   exact t' rfl (re' (rt' rfl rfl rfl))
  cases hh
  exact sk' (t' rfl (re' (rt' rfl rfl rfl)))
 refine t' rfl (ci' rfl hh (fun hh=>?_) (fun hh=>?_))
 ·refine sk' (ci' rfl hh (fun hh=>?_) (fun hh=>?_))
  ·cases hh
   exact t' rfl (re' (rt' rfl rfl rfl))
  cases hh
  exact sk' (t' rfl (re' (rt' rfl rfl rfl)))
 refine t' rfl (ci' rfl hh (fun hh=>?_) (fun hh=>?_))
 ·refine sk' (ci' rfl hh (fun hh=>?_) (fun hh=>?_))
  ·cases hh
   exact t' rfl (re' (rt' rfl rfl rfl))
  cases hh
  exact sk' (t' rfl (re' (rt' rfl rfl rfl)))
 refine t' rfl (ci' rfl hh (fun hh=>?_) (fun hh=>?_))
 ·refine sk' (ci' rfl hh (fun hh=>?_) (fun hh=>?_))
  ·cases hh
   exact t' rfl (re' (rt' rfl rfl rfl))
  cases hh
  exact sk' (t' rfl (re' (rt' rfl rfl rfl)))
 refine t' rfl (ci' rfl hh (fun hh=>?_) (fun hh=>?_))
 ·refine sk' (ci' rfl hh (fun hh=>?_) (fun hh=>?_))
  ·cases hh
   exact t' rfl (re' (rt' rfl rfl rfl))
  cases hh
  exact sk' (t' rfl (re' (rt' rfl rfl rfl)))
 refine t' rfl (ci' rfl hh (fun hh=>?_) (fun hh=>?_))
 ·refine sk' (ci' rfl hh (fun hh=>?_) (fun hh=>?_))
  ·cases hh
   exact t' rfl (re' (rt' rfl rfl rfl))
  cases hh
  exact sk' (t' rfl (re' (rt' rfl rfl rfl)))
 refine t' rfl (ci' rfl hh (fun hh=>?_) (fun hh=>?_))
 ·refine sk' (ci' rfl hh (fun hh=>?_) (fun hh=>?_))
  ·cases hh
   exact t' rfl (re' (rt' rfl rfl rfl))
  cases hh
  exact sk' (t' rfl (re' (rt' rfl rfl rfl)))
 refine t' rfl (ci' rfl hh (fun hh=>?_) (fun hh=>?_))
 ·refine sk' (ci' rfl hh (fun hh=>?_) (fun hh=>?_))
  ·cases hh
   exact t' rfl (re' (rt' rfl rfl rfl))
  cases hh
  exact sk' (t' rfl (re' (rt' rfl rfl rfl)))
 refine T' rfl (ci' rfl hh (fun hh=>?_) (fun hh=>?_))
 ·cases hh
  exact t' rfl (re' (rt' rfl rfl rfl))
 cases hh
 exact sk' (t' rfl (re' (rt' rfl rfl rfl)))
def Db (s:Str):Option Bool:=
 if (s == [46,46])=true then
  W6 s (s == [46,46])
 else
  if (s == [61,61])=true then
   W6 s (s == [61,61])
  else
   if (s == [33,61])=true then
    W6 s (s == [33,61])
   else
    if (s == [60,61])=true then
     W6 s (s == [60,61])
    else
     if (s == [62,61])=true then
      W6 s (s == [62,61])
     else
      if (s == [38,38])=true then
       W6 s (s == [38,38])
      else
       W6 s (s == [124,124])
theorem Mt {s res}(hh:Db s=some res):U0 C 108 [.d (.str s)] [] (Ret [] (.d (.bool res))):=by
 unfold Db at hh
 refine U0.intro hC Tryz.func108 rfl rfl rfl (t' rfl (S' (t' rfl (bk' (S' (t' rfl (ci' rfl hh (fun hh=>?_) (fun hh=>?_))))))))
 ·exact sk' (ew' (N8 hh) rfl rfl rfl)
 refine t' rfl (ci' rfl hh (fun hh=>?_) (fun hh=>?_))
 ·exact sk' (ew' (N8 hh) rfl rfl rfl)
 refine t' rfl (ci' rfl hh (fun hh=>?_) (fun hh=>?_))
 ·exact sk' (ew' (N8 hh) rfl rfl rfl)
 refine t' rfl (ci' rfl hh (fun hh=>?_) (fun hh=>?_))
 ·exact sk' (ew' (N8 hh) rfl rfl rfl)
 refine t' rfl (ci' rfl hh (fun hh=>?_) (fun hh=>?_))
 ·exact sk' (ew' (N8 hh) rfl rfl rfl)
 refine t' rfl (ci' rfl hh (fun hh=>?_) (fun hh=>?_))
 ·exact sk' (ew' (N8 hh) rfl rfl rfl)
 exact T' rfl (ew' (N8 hh) rfl rfl rfl)
end Go.Proofs.YtmnhfbekncjnfaaGreatDoor

