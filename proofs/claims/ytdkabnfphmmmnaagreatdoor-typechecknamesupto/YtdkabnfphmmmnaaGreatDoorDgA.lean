/- A part of the proof of TypecheckNames. -/
import Derived.Test.YtdkabnfphmmmnaaGreatDoorXxA
import Derived.Test.YtdkabnfphmmmnaaGreatDoorAmB
set_option maxRecDepth 100000
set_option maxHeartbeats 4000000
set_option synthInstance.maxSize 20000
set_option linter.unusedVariables false
namespace Go.Proofs.YtdkabnfphmmmnaaGreatDoor
open Go.Am
instance:Nonempty (T1 C):=⟨hC⟩
def ebool.zero:Bool:=false
def ebool.row (x:Bool):Row:=[.bool x]
def ebool.ents (m:List (Str×Bool)):List (Str×Row):=Wg ebool.row m
def ebool.val (x:Bool):A:=.d (.bool x)
theorem ebool.lk {k:Str}{m:List (Str×Bool)}{x:Option Bool}(hx:some (mgt k m)=some x):lkA (Qe k (ebool.ents m)) (ebool.val ebool.zero) false=ebool.val (x.getD ebool.zero):=G1u (h:=ebool.val) (fun _=>rfl) rfl hx
theorem ebool.mput (k:Str)(x:Bool)(m:List (Str×Bool)):mput k (ebool.row x) (ebool.ents m)=ebool.ents (mpt k x m):=(Jt ebool.row k x m).symm
def estr.row (x:Str):Row:=[.str x]
def estr.rows (l:List Str):List Row:=l.map estr.row
theorem estr.rows_map (l:List Str):estr.rows l=l.map estr.row:=rfl
theorem estr.idx {l:List Str}{n:Int}{x:Str}(h:idx l n=some x):(estr.rows l)[n.toNat]?=some (estr.row x):=Lj estr.rows_map h
theorem estr.app (l m:List Str):estr.rows (l++m)=estr.rows l++estr.rows m:=Fm estr.rows_map l m
theorem estr.len (l:List Str):(estr.rows l).length=l.length:=Mj estr.rows_map l
theorem estr.lenA (l:List Str):A.d (.int .i64 ((estr.rows l).length:Nat))=A.d (.int .i64 (l.length:Nat)):=Oh estr.rows_map l
theorem estr.sz (l:List Str):∀ r∈estr.rows l,r.length=1:=Mp estr.rows_map (fun _=>rfl) l
theorem estr.part {l x:List Str}{a b:Int}(h:slc l a b=some x):a=(a.toNat:Int)∧b=(b.toNat:Int)∧a.toNat≤b.toNat∧b.toNat≤(estr.rows l).length∧estr.rows x=((estr.rows l).take b.toNat).drop a.toNat:=V13 estr.rows_map h
def ei64.zero:Int:=0
def ei64.row (x:Int):Row:=[.int .i64 x]
def ei64.rows (l:List Int):List Row:=l.map ei64.row
theorem ei64.rows_map (l:List Int):ei64.rows l=l.map ei64.row:=rfl
theorem ei64.idx {l:List Int}{n:Int}{x:Int}(h:idx l n=some x):(ei64.rows l)[n.toNat]?=some (ei64.row x):=Lj ei64.rows_map h
theorem ei64.app (l m:List Int):ei64.rows (l++m)=ei64.rows l++ei64.rows m:=Fm ei64.rows_map l m
theorem ei64.len (l:List Int):(ei64.rows l).length=l.length:=Mj ei64.rows_map l
theorem ei64.lenA (l:List Int):A.d (.int .i64 ((ei64.rows l).length:Nat))=A.d (.int .i64 (l.length:Nat)):=Oh ei64.rows_map l
theorem ei64.sz (l:List Int):∀ r∈ei64.rows l,r.length=1:=Mp ei64.rows_map (fun _=>rfl) l
def ei64.val (x:Int):A:=.d (.int .i64 x)
def ei64.entsI (m:List (Int×Int)):List (Int×Row):=Am.entsI ei64.row m
theorem ei64.lkIT {k:Int}{m:List (Int×Int)}{x:Option Int}(hx:some (O7 k m)=some x):lkA (Mk k (ei64.entsI m)) (ei64.val ei64.zero) true = .tup [ei64.val (x.getD ei64.zero),.d (.bool x.isSome)]:=N1v (h:=ei64.val) (fun _=>rfl) rfl hx
theorem ei64.lkI {k:Int}{m:List (Int×Int)}{x:Option Int}(hx:some (O7 k m)=some x):lkA (Mk k (ei64.entsI m)) (ei64.val ei64.zero) false=ei64.val (x.getD ei64.zero):=O1v (h:=ei64.val) (fun _=>rfl) rfl hx
theorem ei64.mputI (k:Int)(x:Int)(m:List (Int×Int)):Am.mputI k (ei64.row x) (ei64.entsI m)=ei64.entsI (Dn k x m):=(S1d ei64.row k x m).symm
structure A0 where
 Kind:Int
 Low:Int
 High:Int
 Size:Int
 Name:Str
 Names:List Str
 Of:List A0
def A0.zero:A0:=⟨0,0,0,0,[],[],[]⟩
instance:Inhabited A0:=⟨A0.zero⟩
mutual
def A0.rowX:A0→Row
 | .mk y0 y1 y2 y3 y4 y5 y6=>[.int .i64 y0,.int .i64 y1,.int .i64 y2,.int .i64 y3,.str y4,.sl (estr.rows y5),.sl (A0.rowsX y6)]
def A0.rowsX:List A0→List Row
 | []=>[]
 | x::r=>A0.rowX x::A0.rowsX r
end
def A0.rows (l:List A0):List Row:=A0.rowsX l
def A0.row (x:A0):Row:=[.int .i64 x.Kind,.int .i64 x.Low,.int .i64 x.High,.int .i64 x.Size,.str x.Name,.sl (estr.rows x.Names),.sl (A0.rows x.Of)]
theorem A0.rows_map:∀ l,A0.rows l=l.map A0.row
 | []=>rfl
 | x::r=>by
  show A0.rowX x::A0.rows r=A0.row x::r.map A0.row
  rw [A0.rows_map r]
  cases x
  rfl
def A0.cells (x:A0):List A:=[.d (.int .i64 x.Kind),.d (.int .i64 x.Low),.d (.int .i64 x.High),.d (.int .i64 x.Size),.d (.str x.Name),.d (.sl (estr.rows x.Names)),.d (.sl (A0.rows x.Of))]
theorem A0.idx {l:List A0}{n:Int}{x:A0}(h:idx l n=some x):(A0.rows l)[n.toNat]?=some (A0.row x):=Lj A0.rows_map h
theorem A0.app (l m:List A0):A0.rows (l++m)=A0.rows l++A0.rows m:=Fm A0.rows_map l m
theorem A0.len (l:List A0):(A0.rows l).length=l.length:=Mj A0.rows_map l
theorem A0.lenA (l:List A0):A.d (.int .i64 ((A0.rows l).length:Nat))=A.d (.int .i64 (l.length:Nat)):=Oh A0.rows_map l
theorem A0.sz (l:List A0):∀ r∈A0.rows l,r.length=7:=Mp A0.rows_map (fun _=>rfl) l
theorem A0.part {l x:List A0}{a b:Int}(h:slc l a b=some x):a=(a.toNat:Int)∧b=(b.toNat:Int)∧a.toNat≤b.toNat∧b.toNat≤(A0.rows l).length∧A0.rows x=((A0.rows l).take b.toNat).drop a.toNat:=V13 A0.rows_map h
def A0.ents (m:List (Str×A0)):List (Str×Row):=Wg A0.row m
def A0.val (x:A0):A:=.agg (A0.cells x)
theorem A0.lkT {k:Str}{m:List (Str×A0)}{x:Option A0}(hx:some (mgt k m)=some x):lkA (Qe k (A0.ents m)) (A0.val A0.zero) true = .tup [A0.val (x.getD A0.zero),.d (.bool x.isSome)]:=F1u (h:=A0.val) (fun _=>rfl) rfl hx
theorem A0.mput (k:Str)(x:A0)(m:List (Str×A0)):mput k (A0.row x) (A0.ents m)=A0.ents (mpt k x m):=(Jt A0.row k x m).symm
structure B0 where
 Op:Int
 NV:Int
 Name:Str
 Kids:List B0
def B0.zero:B0:=⟨0,0,[],[]⟩
instance:Inhabited B0:=⟨B0.zero⟩
mutual
def B0.rowX:B0→Row
 | .mk y0 y1 y2 y3=>[.int .i64 y0,.int .i64 y1,.str y2,.sl (B0.rowsX y3)]
def B0.rowsX:List B0→List Row
 | []=>[]
 | x::r=>B0.rowX x::B0.rowsX r
end
def B0.rows (l:List B0):List Row:=B0.rowsX l
def B0.row (x:B0):Row:=[.int .i64 x.Op,.int .i64 x.NV,.str x.Name,.sl (B0.rows x.Kids)]
theorem B0.rows_map:∀ l,B0.rows l=l.map B0.row
 | []=>rfl
 | x::r=>by
  show B0.rowX x::B0.rows r=B0.row x::r.map B0.row
  rw [B0.rows_map r]
  cases x
  rfl
def B0.cells (x:B0):List A:=[.d (.int .i64 x.Op),.d (.int .i64 x.NV),.d (.str x.Name),.d (.sl (B0.rows x.Kids))]
theorem B0.idx {l:List B0}{n:Int}{x:B0}(h:idx l n=some x):(B0.rows l)[n.toNat]?=some (B0.row x):=Lj B0.rows_map h
theorem B0.app (l m:List B0):B0.rows (l++m)=B0.rows l++B0.rows m:=Fm B0.rows_map l m
theorem B0.len (l:List B0):(B0.rows l).length=l.length:=Mj B0.rows_map l
theorem B0.lenA (l:List B0):A.d (.int .i64 ((B0.rows l).length:Nat))=A.d (.int .i64 (l.length:Nat)):=Oh B0.rows_map l
theorem B0.sz (l:List B0):∀ r∈B0.rows l,r.length=4:=Mp B0.rows_map (fun _=>rfl) l
structure C0 where
 Verb:Int
 Place:B0
 Value:B0
 Name:Str
 Args:List B0
 NV:Int
 Low:Int
 High:Int
 Numbers:List Int
 Then:List C0
 Else:List C0
def C0.zero:C0:=⟨0,⟨0,0,[],[]⟩,⟨0,0,[],[]⟩,[],[],0,0,0,[],[],[]⟩
instance:Inhabited C0:=⟨C0.zero⟩
mutual
def C0.rowX:C0→Row
 | .mk y0 y1 y2 y3 y4 y5 y6 y7 y8 y9 y10=>[.int .i64 y0,.int .i64 y1.Op,.int .i64 y1.NV,.str y1.Name,.sl (B0.rows y1.Kids),.int .i64 y2.Op,.int .i64 y2.NV,.str y2.Name,.sl (B0.rows y2.Kids),.str y3,.sl (B0.rows y4),.int .i64 y5,.int .i64 y6,.int .i64 y7,.sl (ei64.rows y8),.sl (C0.rowsX y9),.sl (C0.rowsX y10)]
def C0.rowsX:List C0→List Row
 | []=>[]
 | x::r=>C0.rowX x::C0.rowsX r
end
def C0.rows (l:List C0):List Row:=C0.rowsX l
def C0.row (x:C0):Row:=[.int .i64 x.Verb,.int .i64 x.Place.Op,.int .i64 x.Place.NV,.str x.Place.Name,.sl (B0.rows x.Place.Kids),.int .i64 x.Value.Op,.int .i64 x.Value.NV,.str x.Value.Name,.sl (B0.rows x.Value.Kids),.str x.Name,.sl (B0.rows x.Args),.int .i64 x.NV,.int .i64 x.Low,.int .i64 x.High,.sl (ei64.rows x.Numbers),.sl (C0.rows x.Then),.sl (C0.rows x.Else)]
theorem C0.rows_map:∀ l,C0.rows l=l.map C0.row
 | []=>rfl
 | x::r=>by
  show C0.rowX x::C0.rows r=C0.row x::r.map C0.row
  rw [C0.rows_map r]
  cases x
  rfl
def C0.cells (x:C0):List A:=[.d (.int .i64 x.Verb),.d (.int .i64 x.Place.Op),.d (.int .i64 x.Place.NV),.d (.str x.Place.Name),.d (.sl (B0.rows x.Place.Kids)),.d (.int .i64 x.Value.Op),.d (.int .i64 x.Value.NV),.d (.str x.Value.Name),.d (.sl (B0.rows x.Value.Kids)),.d (.str x.Name),.d (.sl (B0.rows x.Args)),.d (.int .i64 x.NV),.d (.int .i64 x.Low),.d (.int .i64 x.High),.d (.sl (ei64.rows x.Numbers)),.d (.sl (C0.rows x.Then)),.d (.sl (C0.rows x.Else))]
theorem C0.idx {l:List C0}{n:Int}{x:C0}(h:idx l n=some x):(C0.rows l)[n.toNat]?=some (C0.row x):=Lj C0.rows_map h
theorem C0.app (l m:List C0):C0.rows (l++m)=C0.rows l++C0.rows m:=Fm C0.rows_map l m
theorem C0.len (l:List C0):(C0.rows l).length=l.length:=Mj C0.rows_map l
theorem C0.lenA (l:List C0):A.d (.int .i64 ((C0.rows l).length:Nat))=A.d (.int .i64 (l.length:Nat)):=Oh C0.rows_map l
theorem C0.sz (l:List C0):∀ r∈C0.rows l,r.length=17:=Mp C0.rows_map (fun _=>rfl) l
structure D0 where
 Kind:Int
 Name:Str
 TypeV:A0
 Init:Int
 Value:B0
 Params:List D0
 Vars:List D0
 Body:List C0
def D0.zero:D0:=⟨0,[],⟨0,0,0,0,[],[],[]⟩,0,⟨0,0,[],[]⟩,[],[],[]⟩
instance:Inhabited D0:=⟨D0.zero⟩
mutual
def D0.rowX:D0→Row
 | .mk y0 y1 y2 y3 y4 y5 y6 y7=>[.int .i64 y0,.str y1,.int .i64 y2.Kind,.int .i64 y2.Low,.int .i64 y2.High,.int .i64 y2.Size,.str y2.Name,.sl (estr.rows y2.Names),.sl (A0.rows y2.Of),.int .i64 y3,.int .i64 y4.Op,.int .i64 y4.NV,.str y4.Name,.sl (B0.rows y4.Kids),.sl (D0.rowsX y5),.sl (D0.rowsX y6),.sl (C0.rows y7)]
def D0.rowsX:List D0→List Row
 | []=>[]
 | x::r=>D0.rowX x::D0.rowsX r
end
def D0.rows (l:List D0):List Row:=D0.rowsX l
def D0.row (x:D0):Row:=[.int .i64 x.Kind,.str x.Name,.int .i64 x.TypeV.Kind,.int .i64 x.TypeV.Low,.int .i64 x.TypeV.High,.int .i64 x.TypeV.Size,.str x.TypeV.Name,.sl (estr.rows x.TypeV.Names),.sl (A0.rows x.TypeV.Of),.int .i64 x.Init,.int .i64 x.Value.Op,.int .i64 x.Value.NV,.str x.Value.Name,.sl (B0.rows x.Value.Kids),.sl (D0.rows x.Params),.sl (D0.rows x.Vars),.sl (C0.rows x.Body)]
theorem D0.rows_map:∀ l,D0.rows l=l.map D0.row
 | []=>rfl
 | x::r=>by
  show D0.rowX x::D0.rows r=D0.row x::r.map D0.row
  rw [D0.rows_map r]
  cases x
  rfl
def D0.cells (x:D0):List A:=[.d (.int .i64 x.Kind),.d (.str x.Name),.d (.int .i64 x.TypeV.Kind),.d (.int .i64 x.TypeV.Low),.d (.int .i64 x.TypeV.High),.d (.int .i64 x.TypeV.Size),.d (.str x.TypeV.Name),.d (.sl (estr.rows x.TypeV.Names)),.d (.sl (A0.rows x.TypeV.Of)),.d (.int .i64 x.Init),.d (.int .i64 x.Value.Op),.d (.int .i64 x.Value.NV),.d (.str x.Value.Name),.d (.sl (B0.rows x.Value.Kids)),.d (.sl (D0.rows x.Params)),.d (.sl (D0.rows x.Vars)),.d (.sl (C0.rows x.Body))]
theorem D0.idx {l:List D0}{n:Int}{x:D0}(h:idx l n=some x):(D0.rows l)[n.toNat]?=some (D0.row x):=Lj D0.rows_map h
theorem D0.app (l m:List D0):D0.rows (l++m)=D0.rows l++D0.rows m:=Fm D0.rows_map l m
theorem D0.len (l:List D0):(D0.rows l).length=l.length:=Mj D0.rows_map l
theorem D0.lenA (l:List D0):A.d (.int .i64 ((D0.rows l).length:Nat))=A.d (.int .i64 (l.length:Nat)):=Oh D0.rows_map l
theorem D0.sz (l:List D0):∀ r∈D0.rows l,r.length=17:=Mp D0.rows_map (fun _=>rfl) l
theorem D0.part {l x:List D0}{a b:Int}(h:slc l a b=some x):a=(a.toNat:Int)∧b=(b.toNat:Int)∧a.toNat≤b.toNat∧b.toNat≤(D0.rows l).length∧D0.rows x=((D0.rows l).take b.toNat).drop a.toNat:=V13 D0.rows_map h
structure O0 where
 Decls:List D0
 Body:List C0
def O0.zero:O0:=⟨[],[]⟩
instance:Inhabited O0:=⟨O0.zero⟩
def O0.row (x:O0):Row:=[.sl (D0.rows x.Decls),.sl (C0.rows x.Body)]
def O0.rows (l:List O0):List Row:=l.map O0.row
theorem O0.rows_map (l:List O0):O0.rows l=l.map O0.row:=rfl
def O0.cells (x:O0):List A:=[.d (.sl (D0.rows x.Decls)),.d (.sl (C0.rows x.Body))]
structure F0 where
 nodes:Int
 depth:Int
 badForm:Bool
 badName:Bool
 badNumber:Bool
def F0.zero:F0:=⟨0,0,false,false,false⟩
instance:Inhabited F0:=⟨F0.zero⟩
def F0.cells (x:F0):List A:=[.d (.int .i64 x.nodes),.d (.int .i64 x.depth),.d (.bool x.badForm),.d (.bool x.badName),.d (.bool x.badNumber)]
structure Z1 where
 place:Bool
 value:Bool
 name:Bool
 args:Bool
 n:Bool
 bounds:Bool
 numbers:Bool
 thenV:Bool
 other:Bool
def Z1.zero:Z1:=⟨false,false,false,false,false,false,false,false,false⟩
instance:Inhabited Z1:=⟨Z1.zero⟩
def Z1.cells (x:Z1):List A:=[.d (.bool x.place),.d (.bool x.value),.d (.bool x.name),.d (.bool x.args),.d (.bool x.n),.d (.bool x.bounds),.d (.bool x.numbers),.d (.bool x.thenV),.d (.bool x.other)]
structure J0 where
 p:O0
 atV:Int
 localV:Bool
 names:List (Str×Bool)
def J0.zero:J0:=⟨⟨[],[]⟩,0,false,[]⟩
instance:Inhabited J0:=⟨J0.zero⟩
def J0.row (x:J0):Row:=[.sl (D0.rows x.p.Decls),.sl (C0.rows x.p.Body),.int .i64 x.atV,.bool x.localV,.mp (ebool.ents x.names)]
structure N0 where
 typ:A0
 fixed:Bool
def N0.zero:N0:=⟨⟨0,0,0,0,[],[],[]⟩,false⟩
instance:Inhabited N0:=⟨N0.zero⟩
def N0.row (x:N0):Row:=[.int .i64 x.typ.Kind,.int .i64 x.typ.Low,.int .i64 x.typ.High,.int .i64 x.typ.Size,.str x.typ.Name,.sl (estr.rows x.typ.Names),.sl (A0.rows x.typ.Of),.bool x.fixed]
def N0.cells (x:N0):List A:=[.d (.int .i64 x.typ.Kind),.d (.int .i64 x.typ.Low),.d (.int .i64 x.typ.High),.d (.int .i64 x.typ.Size),.d (.str x.typ.Name),.d (.sl (estr.rows x.typ.Names)),.d (.sl (A0.rows x.typ.Of)),.d (.bool x.fixed)]
def N0.ents (m:List (Str×N0)):List (Str×Row):=Wg N0.row m
def N0.val (x:N0):A:=.agg (N0.cells x)
theorem N0.lkT {k:Str}{m:List (Str×N0)}{x:Option N0}(hx:some (mgt k m)=some x):lkA (Qe k (N0.ents m)) (N0.val N0.zero) true = .tup [N0.val (x.getD N0.zero),.d (.bool x.isSome)]:=F1u (h:=N0.val) (fun _=>rfl) rfl hx
theorem N0.mput (k:Str)(x:N0)(m:List (Str×N0)):mput k (N0.row x) (N0.ents m)=N0.ents (mpt k x m):=(Jt N0.row k x m).symm
structure I0 where
 around:Option I0
 vars:List (Str×N0)
def I0.zero:I0:=⟨none,[]⟩
instance:Inhabited I0:=⟨I0.zero⟩
mutual
def I0.rowX:I0→Row
 | .mk y0 y1=>[.bxo (I0.optX y0),.mp (N0.ents y1)]
def I0.optX:Option I0→Option Row
 | none=>none
 | some x=>some (I0.rowX x)
end
def I0.opt (x:Option I0):Option Row:=I0.optX x
def I0.row (x:I0):Row:=[.bxo (I0.opt x.around),.mp (N0.ents x.vars)]
theorem I0.opt_some {x:Option I0}{y:I0}(h:x=some y):D.bxo (I0.opt x) = .bxo (some (I0.row y)):=by subst h; cases y; rfl
theorem I0.opt_nilB (x:Option I0):A14 (.bxo (I0.opt x))=some x.isNone:=by cases x <;> rfl
structure S0 where
 Path:Str
 Bool:Bool
 Low:Int
 High:Int
def S0.zero:S0:=⟨[],false,0,0⟩
instance:Inhabited S0:=⟨S0.zero⟩
def S0.row (x:S0):Row:=[.str x.Path,.bool x.Bool,.int .i64 x.Low,.int .i64 x.High]
def S0.rows (l:List S0):List Row:=l.map S0.row
theorem S0.rows_map (l:List S0):S0.rows l=l.map S0.row:=rfl
theorem S0.idx {l:List S0}{n:Int}{x:S0}(h:idx l n=some x):(S0.rows l)[n.toNat]?=some (S0.row x):=Lj S0.rows_map h
theorem S0.app (l m:List S0):S0.rows (l++m)=S0.rows l++S0.rows m:=Fm S0.rows_map l m
theorem S0.len (l:List S0):(S0.rows l).length=l.length:=Mj S0.rows_map l
theorem S0.lenA (l:List S0):A.d (.int .i64 ((S0.rows l).length:Nat))=A.d (.int .i64 (l.length:Nat)):=Oh S0.rows_map l
theorem S0.sz (l:List S0):∀ r∈S0.rows l,r.length=4:=Mp S0.rows_map (fun _=>rfl) l
structure K0 where
 steps:Int
 outputs:Int
def K0.zero:K0:=⟨0,0⟩
instance:Inhabited K0:=⟨K0.zero⟩
def K0.row (x:K0):Row:=[.int .i64 x.steps,.int .i64 x.outputs]
def K0.cells (x:K0):List A:=[.d (.int .i64 x.steps),.d (.int .i64 x.outputs)]
def K0.ents (m:List (Str×K0)):List (Str×Row):=Wg K0.row m
def K0.val (x:K0):A:=.agg (K0.cells x)
theorem K0.lk {k:Str}{m:List (Str×K0)}{x:Option K0}(hx:some (mgt k m)=some x):lkA (Qe k (K0.ents m)) (K0.val K0.zero) false=K0.val (x.getD K0.zero):=G1u (h:=K0.val) (fun _=>rfl) rfl hx
theorem K0.mput (k:Str)(x:K0)(m:List (Str×K0)):mput k (K0.row x) (K0.ents m)=K0.ents (mpt k x m):=(Jt K0.row k x m).symm
structure R0 where
 nodes:Int
 depth:Int
def R0.zero:R0:=⟨0,0⟩
instance:Inhabited R0:=⟨R0.zero⟩
def R0.cells (x:R0):List A:=[.d (.int .i64 x.nodes),.d (.int .i64 x.depth)]
structure Qf where
 Name:Str
 TypeV:A0
 Fixed:Bool
def Qf.zero:Qf:=⟨[],⟨0,0,0,0,[],[],[]⟩,false⟩
instance:Inhabited Qf:=⟨Qf.zero⟩
structure Jg where
 Program:O0
 Function:Int
 Vars:List Qf
 Taken:List Str
def Jg.zero:Jg:=⟨⟨[],[]⟩,0,[],[]⟩
instance:Inhabited Jg:=⟨Jg.zero⟩
def esl_ApiDecl.row (x:List D0):Row:=[.sl (D0.rows x)]
def esl_ApiDecl.rows (l:List (List D0)):List Row:=l.map esl_ApiDecl.row
theorem esl_ApiDecl.rows_map (l:List (List D0)):esl_ApiDecl.rows l=l.map esl_ApiDecl.row:=rfl
theorem esl_ApiDecl.idx {l:List (List D0)}{n:Int}{x:(List D0)}(h:idx l n=some x):(esl_ApiDecl.rows l)[n.toNat]?=some (esl_ApiDecl.row x):=Lj esl_ApiDecl.rows_map h
theorem esl_ApiDecl.lenA (l:List (List D0)):A.d (.int .i64 ((esl_ApiDecl.rows l).length:Nat))=A.d (.int .i64 (l.length:Nat)):=Oh esl_ApiDecl.rows_map l
end Go.Proofs.YtdkabnfphmmmnaaGreatDoor

set_option maxRecDepth 100000
set_option maxHeartbeats 4000000
set_option synthInstance.maxSize 20000
set_option linter.unusedVariables false
namespace Go.Proofs.YtdkabnfphmmmnaaGreatDoor
open Go.Am
def K9 (l:List Str):Option (List Str):=if decide ((0+l.length) * 17≤140737488355328)=true then some l else none
theorem Mo {l res:List Str}(hh:K9 l=some res):L0 C 225 [.d (.sl (estr.rows l))] [] (fun x H'=>H'=[]∧x = .d (.sl (estr.rows res))):=by
 obtain ⟨hroom,hh⟩:=J1 hh
 cases hh
 refine L0.intro hC Tryz.func225 rfl rfl rfl ?_
 refine AEx.seq ?_
 refine AEx.regionN rfl rfl ?_
 refine E0.q hC rfl trivial ?_
 refine E0.nil ?_
 refine AEx.seq ?_
 refine AEx.seq ?_
 refine AEx.regionN rfl rfl ?_
 refine E0.q hC rfl trivial ?_
 refine E0.z hC rfl fun b hnil=>?_
 refine E0.nil ?_
 refine AEx.cond rfl (fun hb=>?_) (fun hb=>?_)
 ·obtain rfl:l=[]:=List.eq_nil_of_length_eq_zero (by have:=estr.len l; rw [hnil hb] at this; exact this.symm)
  refine AEx.seq ?_
  refine AEx.regionN rfl rfl ?_
  refine E0.q hC rfl trivial ?_
  skip
  refine E0.nil ?_
  refine AEx.ret ?_
  exact ⟨_,.d (.sl (estr.rows [])),[],rfl,.full,trivial,rfl,rfl,rfl,rfl⟩
 ·refine AEx.skip ?_
  refine AEx.seq ?_
  refine AEx.regionN rfl rfl ?_
  refine E0.b hC rfl ?_
  refine E0.q hC rfl trivial ?_
  refine E0.ap hC rfl (rs:=estr.rows l) rfl (fun r hr=>absurd hr (List.not_mem_nil)) (estr.sz l) (E3 rfl (estr.len l) hroom) ?_
  refine E0.q hC rfl trivial ?_
  refine E0.nil ?_
  refine AEx.ret ?_
  exact ⟨_,.d (.sl (estr.rows l)),[],rfl,.osl,trivial,rfl,rfl,rfl,rfl⟩
def Bi (s:Str):Option B0:=
 some (B0.mk 3 0 s [])
theorem Xl {s res}(hh:Bi s=some res):L0 C 25 [.d (.str s)] [] (Ret [] (.agg (B0.cells res))):=by
 unfold Bi at hh
 cases hh
 exact L0.intro hC Tryz.func25 rfl rfl rfl (s' rfl rfl (E0.nf hC rfl (n' (p' 2 rfl (E0.s hC rfl (n' (re' (rt' rfl rfl rfl))))))))
def Oj (n:Int):Option B0:=
 some (B0.mk 0 n [] [])
theorem Fn {n res}(hh:Oj n=some res):L0 C 26 [.d (.int .i64 n)] [] (Ret [] (.agg (B0.cells res))):=by
 unfold Oj at hh
 cases hh
 exact L0.intro hC Tryz.func26 rfl rfl rfl (s' rfl rfl (E0.nf hC rfl (n' (p' 2 rfl (E0.s hC rfl (n' (re' (rt' rfl rfl rfl))))))))
def Qk (o:Int)(kids:List B0):Option B0:=
 some (B0.mk o 0 [] kids)
theorem Jr {o kids res}(hh:Qk o kids=some res):L0 C 24 [.d (.int .i64 o),.d (.sl (B0.rows kids))] [] (Ret [] (.agg (B0.cells res))):=by
 unfold Qk at hh
 cases hh
 exact L0.intro hC Tryz.func24 rfl rfl rfl (s' rfl rfl (E0.nf hC rfl (n' (p' 3 rfl (E0.s hC rfl (n' (re' (rt' rfl rfl rfl))))))))
def Bj (k:Int):Option (Bool×Bool):=
 some ((bif (decide (k≥0)) then (decide (k≤6)) else false),(bif (k == 5) then true else (k == 6)))
theorem H14 {k res}(hh:Bj k=some res):L0 C 173 [.d (.int .i64 k)] [] (Ret [] (.tup [.d (.bool res.1),.d (.bool res.2)])):=by
 unfold Bj at hh
 cases hh
 exact L0.intro hC Tryz.func173 rfl rfl rfl (t' rfl (sg' 14 rfl (G' 4 rfl (a1' rfl (pa' rfl (G' 4 rfl (a1' rfl (po' rfl (G' 2 rfl (an' (n' (re' (rt' rfl rfl rfl)))))))))))))
def V0 (ok:Bool)(syntaxReport:F0):Option F0:=
 some (F0.mk syntaxReport.nodes syntaxReport.depth (bif syntaxReport.badForm then true else (!ok)) syntaxReport.badName syntaxReport.badNumber)
theorem Z0 {ok syntaxReport res}(hh:V0 ok syntaxReport=some res):L0 C 149 [.ref 0 0,.d (.bool ok)] [.row (F0.cells syntaxReport) 135] (Ret [.row (F0.cells res) 135] (.tup [])):=by
 unfold V0 at hh
 cases hh
 exact L0.intro hC Tryz.func149 rfl rfl rfl (AEx.regionG 11 rfl (G' 7 rfl (a1' rfl (po' rfl (G' 2 rfl (an' (E0.s hC rfl (n' (rn' rfl rfl rfl)))))))))
def K1 (s1:List Str)(s2:List Str)(v13:Int):Option Bool:=
 if (decide (v13 < ((s1).length:Int)))=true then
  idx s1 v13>>=fun x1=>
  idx s2 v13>>=fun x2=>
  if (!(x1 == x2))=true then
   some false
  else
   K1 s1 s2 (IntKind.i64.wrap (v13+1))
 else
  some true
 partial_fixpoint
abbrev Bf (s1:List Str)(s2:List Str)(v13:Int)(res:Bool):Prop:=LM C 26 0 Tryz.f207 [1,1,0,1,4] [(0,.d (.sl (estr.rows s1))),(1,.d (.sl (estr.rows s2))),(12,.d (.int .i64 ((s1).length:Int))),(13,.d (.int .i64 v13))] [] (Ret [] (.d (.bool res)))
theorem Gl (s1:List Str)(s2:List Str):(∀ v13 res,K1 s1 s2 v13=some res→Bf s1 s2 v13 res):=by
 refine K1.partial_correctness s1 s2 _ ?_
 ·intro g0 ih0 v13 res hh
  refine X0.unroll (t' rfl (S' (ci' rfl hh (fun hh=>?_) (fun hh=>?_))))
  ·obtain ⟨x1,hx1,hh⟩:=bs' hh
   obtain ⟨x2,hx2,hh⟩:=bs' hh
   refine sk' (S' (bk' (t' rfl (S' (AEx.draw hC 9 rfl rfl rfl (O' 2 rfl (AQ.i hC rfl (T0 hx1) (estr.idx hx1) rfl (O' 3 rfl (AQ.i hC rfl (T0 hx2) (estr.idx hx2) rfl (E' rfl (n' (ci' rfl hh (fun hh=>?_) (fun hh=>?_)))))))))))))
   ·cases hh
    exact t' rfl (re' (rt' rfl rfl rfl))
   exact sk' (T' rfl (lw' (ih0 _ _ hh) rfl rfl rfl))
  cases hh
  exact ex' (t' rfl (re' (rt' rfl rfl rfl)))
theorem Gm {s1 s2 v13 res}(hh:K1 s1 s2 v13=some res):Bf s1 s2 v13 res:=(Gl s1 s2) _ _ hh
def X2 (s1:List Str)(s2:List Str):Option Bool:=
 if (((s1).length:Int) != ((s2).length:Int))=true then
  some false
 else
  K1 s1 s2 0
theorem Gg {s1 s2 res}(hh:X2 s1 s2=some res):L0 C 207 [.d (.sl (estr.rows s1)),.d (.sl (estr.rows s2))] [] (Ret [] (.d (.bool res))):=by
 unfold X2 at hh
 refine L0.intro hC Tryz.func207 rfl rfl rfl (t' rfl (S' (p' 1 rfl (qe' rfl trivial (estr.lenA _) (q' rfl (qe' rfl trivial (estr.lenA _) (e' rfl (ci' rfl hh (fun hh=>?_) (fun hh=>?_)))))))))
 ·cases hh
  exact t' rfl (re' (rt' rfl rfl rfl))
 exact sk' (S' (p' 1 rfl (qe' rfl trivial (estr.lenA _) (e' rfl (bk' (fw' (Gm hh) rfl rfl rfl))))))
mutual
def D7 (a:A0)(b:A0):Option Bool:=
 (if (bif (bif (bif (bif (a.Kind == b.Kind) then (a.Low == b.Low) else false) then (a.High == b.High) else false) then (a.Size == b.Size) else false) then (a.Name == b.Name) else false)=true then X2 a.Names b.Names else some default)>>=fun x1=>
 (if (bif (bif (bif (bif (bif (a.Kind == b.Kind) then (a.Low == b.Low) else false) then (a.High == b.High) else false) then (a.Size == b.Size) else false) then (a.Name == b.Name) else false) then x1 else false)=true then N2 a.Of b.Of else some default)>>=fun x2=>
 some (bif (bif (bif (bif (bif (bif (a.Kind == b.Kind) then (a.Low == b.Low) else false) then (a.High == b.High) else false) then (a.Size == b.Size) else false) then (a.Name == b.Name) else false) then x1 else false) then x2 else false)
 partial_fixpoint
def N2 (s1:List A0)(s2:List A0):Option Bool:=
 if (((s1).length:Int) != ((s2).length:Int))=true then
  some false
 else
  F1 s1 s2 0
 partial_fixpoint
def F1 (s1:List A0)(s2:List A0)(v17:Int):Option Bool:=
 if (decide (v17 < ((s1).length:Int)))=true then
  idx s1 v17>>=fun x1=>
  idx s2 v17>>=fun x2=>
  D7 x1 x2>>=fun x3=>
  if (!x3)=true then
   some false
  else
   F1 s1 s2 (IntKind.i64.wrap (v17+1))
 else
  some true
 partial_fixpoint
end
abbrev Lq (a:A0)(b:A0)(res:Bool):Prop:=L0 C 174 [.agg (A0.cells a),.agg (A0.cells b)] [] (Ret [] (.d (.bool res)))
abbrev Mc (s1:List A0)(s2:List A0)(res:Bool):Prop:=L0 C 208 [.d (.sl (A0.rows s1)),.d (.sl (A0.rows s2)),.clo 174 []] [] (Ret [] (.d (.bool res)))
abbrev Qb (s1:List A0)(s2:List A0)(v17:Int)(res:Bool):Prop:=LM C 32 0 Tryz.f208 [1,1,0,1,4] [(1,.d (.sl (A0.rows s2))),(2,.clo 174 []),(15,.d (.sl (A0.rows s1))),(16,.d (.int .i64 ((s1).length:Int))),(17,.d (.int .i64 v17))] [] (Ret [] (.d (.bool res)))
theorem Sz:(∀ a b res,D7 a b=some res→Lq a b res)∧(∀ s1 s2 res,N2 s1 s2=some res→Mc s1 s2 res)∧(∀ s1 s2 v17 res,F1 s1 s2 v17=some res→Qb s1 s2 v17 res):=by
 refine D7.mutual_partial_correctness _ _ _ ?_ ?_ ?_
 ·intro g1 ih1 a b res hh
  obtain ⟨x1,hx1,hh⟩:=bs' hh
  obtain ⟨x2,hx2,hh⟩:=bs' hh
  cases hh
  refine L0.intro hC Tryz.func174 rfl rfl rfl (s' rfl rfl (E0.n hC rfl (E0.n hC rfl (e' rfl (sg' 48 rfl (G' 7 rfl (a1' rfl (a0' rfl (a1' rfl (a2' rfl (pa' rfl (G' 2 rfl (a1' rfl ?_)))))))))))))
  refine a0' rfl (a1' rfl (a2' rfl (pa' rfl (G' 2 rfl (a1' rfl (a0' rfl (a1' rfl (a2' rfl (pa' rfl (G' 2 rfl (a1' rfl (a0' rfl (a1' rfl ?_)))))))))))))
  refine a2' rfl (pa' rfl (G' 2 rfl (a1' rfl (a0' rfl (a1' rfl (AG.c rfl rfl (fun hg=>⟨hg,hg,trivial⟩) (fun hw=>Gg (I1 hw hx1)) (pa' rfl (G' 2 rfl (a1' rfl (a0' rfl (a1' rfl (AG.c rfl rfl (fun hg=>⟨hg,hg,trivial⟩) (fun hw=>ih1 _ _ _ (I1 hw hx2)) (pa' rfl ?_)))))))))))))
  exact a0' rfl (an' (n' (re' (rt' rfl rfl rfl))))
 ·intro g2 ih2 s1 s2 res hh
  refine L0.intro hC Tryz.func208 rfl rfl rfl (t' rfl (S' (p' 1 rfl (qe' rfl trivial (A0.lenA _) (q' rfl (qe' rfl trivial (A0.lenA _) (e' rfl (ci' rfl hh (fun hh=>?_) (fun hh=>?_)))))))))
  ·cases hh
   exact t' rfl (re' (rt' rfl rfl rfl))
  exact sk' (S' (p' 1 rfl (qe' rfl trivial (A0.lenA _) (e' rfl (bk' (fw' (ih2 _ _ _ _ hh) rfl rfl rfl))))))
 ·intro g0 g2 ih0 ih2 s1 s2 v17 res hh
  refine X0.unroll (t' rfl (S' (ci' rfl hh (fun hh=>?_) (fun hh=>?_))))
  ·obtain ⟨x1,hx1,hh⟩:=bs' hh
   obtain ⟨x2,hx2,hh⟩:=bs' hh
   obtain ⟨x3,hx3,hh⟩:=bs' hh
   refine sk' (S' (bk' (p' 1 rfl (i' rfl (T0 hx1) (A0.idx hx1) rfl (q' rfl (E0.nf hC rfl (q' rfl (E0.s hC rfl (n' (p' 2 rfl (i' rfl (T0 hx2) (A0.idx hx2) rfl (q' rfl (E0.nf hC rfl ?_)))))))))))))
   refine E0.s hC rfl (n' (p' 3 rfl (c' (ih0 _ _ _ hx3) rfl rfl (e' rfl (ci' rfl hh (fun hh=>?_) (fun hh=>?_))))))
   ·cases hh
    exact t' rfl (re' (rt' rfl rfl rfl))
   exact sk' (T' rfl (lw' (ih2 _ _ _ _ hh) rfl rfl rfl))
  cases hh
  exact ex' (t' rfl (re' (rt' rfl rfl rfl)))
theorem W11 {a b res}(hh:D7 a b=some res):Lq a b res:=(Sz).1 _ _ _ hh
def E7 (d:Int)(syntaxReport:F0):Option F0:=
 some (F0.mk syntaxReport.nodes (max syntaxReport.depth d) syntaxReport.badForm syntaxReport.badName syntaxReport.badNumber)
theorem Xg {d syntaxReport res}(hh:E7 d syntaxReport=some res):L0 C 148 [.ref 0 0,.d (.int .i64 d)] [.row (F0.cells syntaxReport) 135] (Ret [.row (F0.cells res) 135] (.tup [])):=by
 unfold E7 at hh
 cases hh
 exact L0.intro hC Tryz.func148 rfl rfl rfl (P' 9 rfl (E0.s hC rfl (n' (rn' rfl rfl rfl))))
def H3 (n:Int)(low:Int)(high:Int):Option Bool:=
 some (bif (decide (n≥low)) then (decide (n≤high)) else false)
theorem R3 {n low high res}(hh:H3 n low high=some res):L0 C 154 [.d (.int .i64 n),.d (.int .i64 low),.d (.int .i64 high)] [] (Ret [] (.d (.bool res))):=by
 unfold H3 at hh
 cases hh
 exact L0.intro hC Tryz.func154 rfl rfl rfl (t' rfl (sg' 9 rfl (G' 6 rfl (a2' rfl (pa' rfl (a0' rfl (an' (n' (re' (rt' rfl rfl rfl))))))))))
def O1 (ok:Bool)(syntaxReport:F0):Option F0:=
 some (F0.mk syntaxReport.nodes syntaxReport.depth syntaxReport.badForm syntaxReport.badName (bif syntaxReport.badNumber then true else (!ok)))
theorem R2 {ok syntaxReport res}(hh:O1 ok syntaxReport=some res):L0 C 153 [.ref 0 0,.d (.bool ok)] [.row (F0.cells syntaxReport) 135] (Ret [.row (F0.cells res) 135] (.tup [])):=by
 unfold O1 at hh
 cases hh
 exact L0.intro hC Tryz.func153 rfl rfl rfl (AEx.regionG 11 rfl (G' 7 rfl (a1' rfl (po' rfl (G' 2 rfl (an' (E0.s hC rfl (n' (rn' rfl rfl rfl)))))))))
def Rk (c:Int):Option Bool:=
 some (bif (decide (c≥97)) then (decide (c≤122)) else false)
theorem T16 {c res}(hh:Rk c=some res):L0 C 229 [.d (.int .u8 c)] [] (Ret [] (.d (.bool res))):=by
 unfold Rk at hh
 cases hh
 exact L0.intro hC Tryz.func229 rfl rfl rfl (t' rfl (sg' 7 rfl (G' 4 rfl (a1' rfl (pa' rfl (a0' rfl (an' (n' (re' (rt' rfl rfl rfl))))))))))
def Yl (c:Int):Option Bool:=
 some (bif (decide (c≥48)) then (decide (c≤57)) else false)
theorem D18 {c res}(hh:Yl c=some res):L0 C 230 [.d (.int .u8 c)] [] (Ret [] (.d (.bool res))):=by
 unfold Yl at hh
 cases hh
 exact L0.intro hC Tryz.func230 rfl rfl rfl (t' rfl (sg' 7 rfl (G' 4 rfl (a1' rfl (pa' rfl (a0' rfl (an' (n' (re' (rt' rfl rfl rfl))))))))))
def J8 (s:Str)(v6:Int):Option Bool:=
 if (decide (v6 < ((s).length:Int)))=true then
  idx s v6>>=fun x1=>
  Rk (x1.toNat:Int)>>=fun x2=>
  (if ((!x2)&&(!(v6 == 0)))=true then idx s v6 else some default)>>=fun x3=>
  (if ((!x2)&&(!(v6 == 0)))=true then Yl (x3.toNat:Int) else some default)>>=fun x4=>
  if (bif (!x2) then (bif (v6 == 0) then true else (!x4)) else false)=true then
   some false
  else
   J8 s (IntKind.i64.wrap (v6+1))
 else
  some (!(s == []))
 partial_fixpoint
abbrev Mr (s:Str)(v6:Int)(res:Bool):Prop:=LM C 28 0 Tryz.f223 [1,0,1,4] [(0,.d (.str s)),(5,.d (.int .i64 ((s).length:Int))),(6,.d (.int .i64 v6))] [] (Ret [] (.d (.bool res)))
theorem X11 (s:Str):(∀ v6 res,J8 s v6=some res→Mr s v6 res):=by
 refine J8.partial_correctness s _ ?_
 ·intro g0 ih0 v6 res hh
  refine X0.unroll (t' rfl (S' (ci' rfl hh (fun hh=>?_) (fun hh=>?_))))
  ·obtain ⟨x1,hx1,hh⟩:=bs' hh
   obtain ⟨x2,hx2,hh⟩:=bs' hh
   obtain ⟨x3,hx3,hh⟩:=bs' hh
   obtain ⟨x4,hx4,hh⟩:=bs' hh
   refine sk' (S' (bk' (t' rfl (sg' 16 rfl (G' 2 rfl (AG.x hC rfl rfl (fun _=>trivial) (fun hw=>⟨T0 hx1,Jk hx1⟩) (AG.c rfl rfl (fun _=>trivial) (fun _=>T16 hx2) (G' 3 rfl (a1' rfl (a1' rfl (G' 2 rfl (AG.x hC rfl rfl (fun hg=>⟨hg,hg,trivial⟩) (fun hw=>⟨T0 (I1 hw hx3),Jk (I1 hw hx3)⟩) (AG.c rfl rfl (fun hg=>⟨hg,trivial⟩) (fun hw=>D18 (I1 hw hx4)) ?_)))))))))))))
   refine a1' rfl (pO' rfl (pa' rfl (an' (n' (ci' rfl hh (fun hh=>?_) (fun hh=>?_))))))
   ·cases hh
    exact t' rfl (re' (rt' rfl rfl rfl))
   exact sk' (T' rfl (lw' (ih0 _ _ hh) rfl rfl rfl))
  cases hh
  exact ex' (t' rfl (re' (rt' rfl rfl rfl)))
theorem I14 {s v6 res}(hh:J8 s v6=some res):Mr s v6 res:=(X11 s) _ _ hh
def Gn (s:Str):Option Bool:=
 J8 s 0
theorem M1a {s res}(hh:Gn s=some res):L0 C 223 [.d (.str s)] [] (Ret [] (.d (.bool res))):=by
 unfold Gn at hh
 exact L0.intro hC Tryz.func223 rfl rfl rfl (t' rfl (S' (t' rfl (bk' (fw' (I14 hh) rfl rfl rfl)))))
def Yg (Aj:Str):Option Bool:=
 (if (!(Aj == []))=true then En Aj [32] else some default)>>=fun x1=>
 if (!(bif (!(Aj == [])) then (!x1) else false)||(decide (1+Aj.length≤maxLen)))=true then
  if (!(bif (!(Aj == [])) then (!x1) else false)||(decide (([32]++Aj).length+1≤maxLen)))=true then
   (if (bif (!(Aj == [])) then (!x1) else false)=true then En [32,116,121,112,101,32,115,101,99,114,101,116,32,112,117,98,108,105,99,32,114,97,110,100,111,109,32,118,97,114,32,104,97,116,99,104,32,102,117,110,99,32,114,101,116,117,114,110,32,98,101,103,105,110,32,101,110,100,32,98,111,111,108,32,105,110,116,32,97,114,114,97,121,32,111,102,32,114,101,99,111,114,100,32,116,114,117,101,32,102,97,108,115,101,32,99,97,108,108,32,114,101,108,101,97,115,101,32,111,117,116,112,117,116,32,119,97,105,116,32,105,102,32,101,108,115,101,32,119,104,105,108,101,32,108,105,109,105,116,32,102,111,114,32,116,111,32,115,101,116,116,108,101,32,109,105,110,32,109,97,120,32] (([32]++Aj)++[32]) else some default)>>=fun x2=>
   some (bif (bif (!(Aj == [])) then (!x1) else false) then x2 else false)
  else none
 else none
theorem U16 {Aj res}(hh:Yg Aj=some res):L0 C 224 [.d (.str Aj)] [] (Ret [] (.d (.bool res))):=by
 unfold Yg at hh
 obtain ⟨x1,hx1,hh⟩:=bs' hh
 obtain ⟨c11,hh⟩:=M1f hh
 obtain ⟨c12,hh⟩:=M1f hh
 obtain ⟨x2,hx2,hh⟩:=bs' hh
 cases hh
 refine L0.intro hC Tryz.func224 rfl rfl rfl (t' rfl (sg' 14 rfl (G' 4 rfl (AG.c rfl rfl (fun hg=>⟨hg,trivial⟩) (fun hw=>N11 (I1 hw hx1)) (a1' rfl (pa' rfl (G' 2 rfl (ag' rfl (fun hg=>⟨⟨hg,trivial⟩,(c11 hg)⟩) (ag' rfl (fun hg=>⟨⟨hg,trivial⟩,(c12 hg)⟩) (AG.c rfl rfl (fun hg=>⟨hg,trivial⟩) (fun hw=>N11 (I1 hw hx2)) (pa' rfl (a0' rfl (an' ?_)))))))))))))
 exact n' (re' (rt' rfl rfl rfl))
def Hn (s:Str):Option Bool:=
 (if (decide (((s).length:Int)≤12))=true then Gn s else some default)>>=fun x1=>
 (if (bif (decide (((s).length:Int)≤12)) then x1 else false)=true then Yg s else some default)>>=fun x2=>
 some (bif (bif (decide (((s).length:Int)≤12)) then x1 else false) then (!x2) else false)
theorem N1a {s res}(hh:Hn s=some res):L0 C 210 [.d (.str s)] [] (Ret [] (.d (.bool res))):=by
 unfold Hn at hh
 obtain ⟨x1,hx1,hh⟩:=bs' hh
 obtain ⟨x2,hx2,hh⟩:=bs' hh
 cases hh
 exact L0.intro hC Tryz.func210 rfl rfl rfl (t' rfl (sg' 13 rfl (G' 5 rfl (AG.c rfl rfl (fun hg=>⟨hg,trivial⟩) (fun hw=>M1a (I1 hw hx1)) (pa' rfl (G' 2 rfl (AG.c rfl rfl (fun hg=>⟨hg,trivial⟩) (fun hw=>U16 (I1 hw hx2)) (a1' rfl (pa' rfl (a0' rfl (an' (n' (re' (rt' rfl rfl rfl))))))))))))))
def Jf (s:Str):Option Bool:=
 Hn s>>=fun x1=>
 some x1
theorem Lt {s res}(hh:Jf s=some res):L0 C 179 [.d (.str s)] [] (Ret [] (.d (.bool res))):=by
 unfold Jf at hh
 obtain ⟨x1,hx1,hh⟩:=bs' hh
 cases hh
 exact L0.intro hC Tryz.func179 rfl rfl rfl (t' rfl (p' 1 rfl (c' (N1a hx1) rfl rfl (e' rfl (re' (rt' rfl rfl rfl))))))
def W3 (s:Str)(syntaxReport:F0):Option F0:=
 (if (!syntaxReport.badName)=true then Jf s else some default)>>=fun x1=>
 some (F0.mk syntaxReport.nodes syntaxReport.depth syntaxReport.badForm (bif syntaxReport.badName then true else (!x1)) syntaxReport.badNumber)
theorem S9 {s syntaxReport res}(hh:W3 s syntaxReport=some res):L0 C 152 [.ref 0 0,.d (.str s)] [.row (F0.cells syntaxReport) 135] (Ret [.row (F0.cells res) 135] (.tup [])):=by
 unfold W3 at hh
 obtain ⟨x1,hx1,hh⟩:=bs' hh
 cases hh
 exact L0.intro hC Tryz.func152 rfl rfl rfl (AEx.regionG 12 rfl (G' 7 rfl (AG.c rfl rfl (fun hg=>⟨hg,trivial⟩) (fun hw=>Lt (I1 hw hx1)) (a1' rfl (po' rfl (G' 2 rfl (an' (E0.s hC rfl (n' (rn' rfl rfl rfl))))))))))
mutual
def G4 (t:A0)(depth:Int)(syntaxReport:F0):Option F0:=
 E7 depth (F0.mk (IntKind.i64.wrap (syntaxReport.nodes+1)) syntaxReport.depth syntaxReport.badForm syntaxReport.badName syntaxReport.badNumber)>>=fun x1=>
 V0 (bif (decide (t.Kind≥0)) then (decide (t.Kind≤4)) else false) x1>>=fun x2=>
 V0 (bif (t.Kind == 1) then true else (bif (t.Low == 0) then (t.High == 0) else false)) x2>>=fun x3=>
 V0 (bif (t.Kind == 2) then true else (t.Size == 0)) x3>>=fun x4=>
 V0 (bif (t.Kind == 4) then true else (t.Name == [])) x4>>=fun x5=>
 V0 (bif (t.Kind == 3) then true else (((t.Names).length:Int) == 0)) x5>>=fun x6=>
 if (t.Kind == 2)=true then
  V0 (((t.Of).length:Int) == 1) x6>>=fun x7=>
  H3 t.Size 1 32>>=fun x8=>
  O1 x8 x7>>=fun x9=>
  P7 t depth x9
 else
  if (t.Kind == 3)=true then
   V0 (bif (decide (((t.Of).length:Int)≥1)) then (((t.Of).length:Int) == ((t.Names).length:Int)) else false) x6>>=fun x14=>
   O1 (decide (((t.Of).length:Int)≤32)) x14>>=fun x15=>
   P7 t depth x15
  else
   V0 (((t.Of).length:Int) == 0) x6>>=fun x16=>
   P7 t depth x16
 partial_fixpoint
def P7 (t:A0)(depth:Int)(o0:F0):Option F0:=
 if (t.Kind == 1)=true then
  H3 t.Low (-1048576) 1048576>>=fun x10=>
  (if x10=true then H3 t.High t.Low 1048576 else some default)>>=fun x11=>
  O1 (bif x10 then x11 else false) o0>>=fun x12=>
  Q7 t depth x12
 else
  Q7 t depth o0
 partial_fixpoint
def Q7 (t:A0)(depth:Int)(o01:F0):Option F0:=
 if (t.Kind == 4)=true then
  W3 t.Name o01>>=fun x13=>
  Qa t depth x13
 else
  Qa t depth o01
 partial_fixpoint
def Qa (t:A0)(depth:Int)(o02:F0):Option F0:=
 Q4 t depth o02 0
 partial_fixpoint
def Q4 (t:A0)(depth:Int)(o03:F0)(v147:Int):Option F0:=
 if (decide (v147 < ((t.Names).length:Int)))=true then
  idx t.Names v147>>=fun x17=>
  W3 x17 o03>>=fun x18=>
  Q4 t depth x18 (IntKind.i64.wrap (v147+1))
 else
  T5 t depth o03 0
 partial_fixpoint
def T5 (t:A0)(depth:Int)(o04:F0)(v158:Int):Option F0:=
 if (decide (v158 < ((t.Of).length:Int)))=true then
  idx t.Of v158>>=fun x19=>
  G4 x19 (IntKind.i64.wrap (depth+1)) o04>>=fun x20=>
  T5 t depth x20 (IntKind.i64.wrap (v158+1))
 else
  some o04
 partial_fixpoint
end
abbrev Wo (t:A0)(depth:Int)(syntaxReport:F0)(res:F0):Prop:=L0 C 175 [.ref 0 0,.agg (A0.cells t),.d (.int .i64 depth)] [.row (F0.cells syntaxReport) 135] (Ret [.row (F0.cells res) 135] (.tup []))
abbrev Hw (t:A0)(depth:Int)(o0:F0)(res:F0):Prop:=JM C 168 1 Tryz.f175 [1,1,1,1,1,1,1,1,1,1] [(0,.ref 0 0),(2,.d (.int .i64 depth)),(4,.ref 1 0),(6,.d (.bool (t.Kind == 1))),(9,.d (.bool (t.Kind == 4)))] [.row (F0.cells o0) 135,.row (A0.cells t) 40] (Ret [.row (F0.cells res) 135] (.tup []))
abbrev Iw (t:A0)(depth:Int)(o01:F0)(res:F0):Prop:=JM C 168 1 Tryz.f175 [1,1,1,1,1,1,1,1,1,1,1] [(0,.ref 0 0),(2,.d (.int .i64 depth)),(4,.ref 1 0),(9,.d (.bool (t.Kind == 4)))] [.row (F0.cells o01) 135,.row (A0.cells t) 40] (Ret [.row (F0.cells res) 135] (.tup []))
abbrev Jw (t:A0)(depth:Int)(o02:F0)(res:F0):Prop:=JM C 168 1 Tryz.f175 [1,1,1,1,1,1,1,1,1,1,1,1] [(0,.ref 0 0),(2,.d (.int .i64 depth)),(4,.ref 1 0)] [.row (F0.cells o02) 135,.row (A0.cells t) 40] (Ret [.row (F0.cells res) 135] (.tup []))
abbrev Kw (t:A0)(depth:Int)(o03:F0)(v147:Int)(res:F0):Prop:=LM C 168 1 Tryz.f175 [1,1,1,1,1,1,1,1,1,1,1,1,0,1,4] [(0,.ref 0 0),(2,.d (.int .i64 depth)),(4,.ref 1 0),(145,.d (.sl (estr.rows t.Names))),(146,.d (.int .i64 ((t.Names).length:Int))),(147,.d (.int .i64 v147))] [.row (F0.cells o03) 135,.row (A0.cells t) 40] (Ret [.row (F0.cells res) 135] (.tup []))
abbrev Lw (t:A0)(depth:Int)(o04:F0)(v158:Int)(res:F0):Prop:=LM C 168 1 Tryz.f175 [1,1,1,1,1,1,1,1,1,1,1,1,1,1,4] [(0,.ref 0 0),(2,.d (.int .i64 depth)),(156,.d (.sl (A0.rows t.Of))),(157,.d (.int .i64 ((t.Of).length:Int))),(158,.d (.int .i64 v158))] [.row (F0.cells o04) 135] (Ret [.row (F0.cells res) 135] (.tup []))
theorem Zx:(∀ t depth syntaxReport res,G4 t depth syntaxReport=some res→Wo t depth syntaxReport res)∧(∀ t depth o0 res,P7 t depth o0=some res→Hw t depth o0 res)∧(∀ t depth o01 res,Q7 t depth o01=some res→Iw t depth o01 res)∧(∀ t depth o02 res,Qa t depth o02=some res→Jw t depth o02 res)∧(∀ t depth o03 v147 res,Q4 t depth o03 v147=some res→Kw t depth o03 v147 res)∧(∀ t depth o04 v158 res,T5 t depth o04 v158=some res→Lw t depth o04 v158 res):=by
 refine G4.mutual_partial_correctness _ _ _ _ _ _ ?_ ?_ ?_ ?_ ?_ ?_
 ·intro g1 ih1 t depth syntaxReport res hh
  obtain ⟨x1,hx1,hh⟩:=bs' hh
  obtain ⟨x2,hx2,hh⟩:=bs' hh
  obtain ⟨x3,hx3,hh⟩:=bs' hh
  obtain ⟨x4,hx4,hh⟩:=bs' hh
  obtain ⟨x5,hx5,hh⟩:=bs' hh
  obtain ⟨x6,hx6,hh⟩:=bs' hh
  refine L0.intro hC Tryz.func175 rfl rfl rfl (s' rfl rfl (E0.n hC rfl (n' (p' 7 rfl (E0.s hC rfl (n' (p' 2 rfl (g' [0] (Xg hx1) rfl rfl rfl rfl rfl rfl (n' (sg' 9 rfl (G' 6 rfl (a1' rfl (a1' rfl ?_)))))))))))))
  refine pa' rfl (an' (g' [0] (Z0 hx2) rfl rfl rfl rfl rfl rfl (n' (S' (AEx.draw hC 16 rfl rfl rfl (E' rfl (n' (sg' 12 rfl (G' 4 rfl (a1' rfl (a1' rfl (a1' rfl (a0' rfl ?_)))))))))))))
  refine a1' rfl (a1' rfl (pA' rfl (po' rfl (an' (g' [0] (Z0 hx3) rfl rfl rfl rfl rfl rfl (n' (sg' 7 rfl (G' 4 rfl (a1' rfl (a1' rfl (po' rfl (an' (g' [0] (Z0 hx4) rfl rfl rfl rfl rfl rfl ?_)))))))))))))
  refine n' (sg' 7 rfl (G' 4 rfl (a1' rfl (a1' rfl (po' rfl (an' (g' [0] (Z0 hx5) rfl rfl rfl rfl rfl rfl (n' (sg' 8 rfl (G' 4 rfl (a1' rfl (AG.qe hC rfl (fun hg=>⟨⟨hg,trivial⟩,trivial⟩) (estr.lenA _) (a1' rfl ?_)))))))))))))
  refine po' rfl (an' (g' [0] (Z0 hx6) rfl rfl rfl rfl rfl rfl (n' (S' (bk' (t' rfl (ci' rfl hh (fun hh=>?_) (fun hh=>?_))))))))
  ·obtain ⟨x7,hx7,hh⟩:=bs' hh
   obtain ⟨x8,hx8,hh⟩:=bs' hh
   obtain ⟨x9,hx9,hh⟩:=bs' hh
   exact p' 3 rfl (qe' rfl trivial (A0.lenA _) (q' rfl (g' [0] (Z0 hx7) rfl rfl rfl rfl rfl rfl (n' (P' 3 rfl (c' (R3 hx8) rfl rfl (g' [0] (R2 hx9) rfl rfl rfl rfl rfl rfl (n' (ew' (ih1 _ _ _ _ hh) rfl rfl rfl)))))))))
  refine t' rfl (ci' rfl hh (fun hh=>?_) (fun hh=>?_))
  ·obtain ⟨x14,hx14,hh⟩:=bs' hh
   obtain ⟨x15,hx15,hh⟩:=bs' hh
   refine sg' 14 rfl (G' 3 rfl (AG.qe hC rfl (fun hg=>⟨trivial,trivial⟩) (A0.lenA _) (G' 3 rfl (a1' rfl (AG.qe hC rfl (fun hg=>⟨⟨hg,trivial⟩,trivial⟩) (A0.lenA _) (a0' rfl (a1' rfl (AG.qe hC rfl (fun hg=>⟨⟨hg,trivial⟩,trivial⟩) (estr.lenA _) (a2' rfl (pa' rfl (an' (g' [0] (Z0 hx14) rfl rfl rfl rfl rfl rfl (n' ?_)))))))))))))
   exact P' 3 rfl (qe' rfl trivial (A0.lenA _) (q' rfl (g' [0] (R2 hx15) rfl rfl rfl rfl rfl rfl (n' (ew' (ih1 _ _ _ _ hh) rfl rfl rfl)))))
  obtain ⟨x16,hx16,hh⟩:=bs' hh
  exact P' 3 rfl (qe' rfl trivial (A0.lenA _) (q' rfl (g' [0] (Z0 hx16) rfl rfl rfl rfl rfl rfl (n' (ew' (ih1 _ _ _ _ hh) rfl rfl rfl)))))
 ·intro g2 ih2 t depth o0 res hh
  refine S' (t' rfl (ci' rfl hh (fun hh=>?_) (fun hh=>?_)))
  ·obtain ⟨x10,hx10,hh⟩:=bs' hh
   obtain ⟨x11,hx11,hh⟩:=bs' hh
   obtain ⟨x12,hx12,hh⟩:=bs' hh
   exact AEx.regionG 11 rfl (G' 3 rfl (AG.c rfl rfl (fun _=>trivial) (fun _=>R3 hx10) (G' 2 rfl (a1' rfl (a0' rfl (a1' rfl (AG.c rfl rfl (fun hg=>⟨hg,hg,trivial⟩) (fun hw=>R3 (I1 hw hx11)) (pa' rfl (an' (g' [0] (R2 hx12) rfl rfl rfl rfl rfl rfl (n' (ew' (ih2 _ _ _ _ hh) rfl rfl rfl))))))))))))
  exact sk' (ew' (ih2 _ _ _ _ hh) rfl rfl rfl)
 ·intro g3 ih3 t depth o01 res hh
  refine S' (t' rfl (ci' rfl hh (fun hh=>?_) (fun hh=>?_)))
  ·obtain ⟨x13,hx13,hh⟩:=bs' hh
   exact P' 3 rfl (g' [0] (S9 hx13) rfl rfl rfl rfl rfl rfl (n' (ew' (ih3 _ _ _ _ hh) rfl rfl rfl)))
  exact sk' (ew' (ih3 _ _ _ _ hh) rfl rfl rfl)
 ·intro g4 ih4 t depth o02 res hh
  exact S' (p' 2 rfl (qe' rfl trivial (estr.lenA _) (e' rfl (bk' (fw' (ih4 _ _ _ _ _ hh) rfl rfl rfl)))))
 ·intro g4 g5 ih4 ih5 t depth o03 v147 res hh
  refine X0.unroll (t' rfl (S' (ci' rfl hh (fun hh=>?_) (fun hh=>?_))))
  ·obtain ⟨x17,hx17,hh⟩:=bs' hh
   obtain ⟨x18,hx18,hh⟩:=bs' hh
   exact sk' (S' (bk' (s' rfl rfl (i' rfl (T0 hx17) (estr.idx hx17) rfl (e' rfl (P' 2 rfl (g' [0] (S9 hx18) rfl rfl rfl rfl rfl rfl (n' (T' rfl (lw' (ih4 _ _ _ _ _ hh) rfl rfl rfl))))))))))
  exact ex' (p' 2 rfl (qe' rfl trivial (A0.lenA _) (e' rfl (bk' (fw' (ih5 _ _ _ _ _ hh) rfl rfl rfl)))))
 ·intro g0 g5 ih0 ih5 t depth o04 v158 res hh
  refine X0.unroll (t' rfl (S' (ci' rfl hh (fun hh=>?_) (fun hh=>?_))))
  ·obtain ⟨x19,hx19,hh⟩:=bs' hh
   obtain ⟨x20,hx20,hh⟩:=bs' hh
   exact sk' (S' (bk' (s' rfl rfl (i' rfl (T0 hx19) (A0.idx hx19) rfl (q' rfl (E0.nf hC rfl (E0.s hC rfl (n' (P' 4 rfl (g' [0] (ih0 _ _ _ _ hx20) rfl rfl rfl rfl rfl rfl (n' (T' rfl (lw' (ih5 _ _ _ _ _ hh) rfl rfl rfl)))))))))))))
  cases hh
  exact ex' (rn' rfl rfl rfl)
theorem Jn {t depth syntaxReport res}(hh:G4 t depth syntaxReport=some res):Wo t depth syntaxReport res:=(Zx).1 _ _ _ _ hh
mutual
def U5 (a:B0)(b:B0):Option Bool:=
 (if (bif (bif (a.Op == b.Op) then (a.NV == b.NV) else false) then (a.Name == b.Name) else false)=true then O2 a.Kids b.Kids else some default)>>=fun x1=>
 some (bif (bif (bif (a.Op == b.Op) then (a.NV == b.NV) else false) then (a.Name == b.Name) else false) then x1 else false)
 partial_fixpoint
def O2 (s1:List B0)(s2:List B0):Option Bool:=
 if (((s1).length:Int) != ((s2).length:Int))=true then
  some false
 else
  G1 s1 s2 0
 partial_fixpoint
def G1 (s1:List B0)(s2:List B0)(v17:Int):Option Bool:=
 if (decide (v17 < ((s1).length:Int)))=true then
  idx s1 v17>>=fun x1=>
  idx s2 v17>>=fun x2=>
  U5 x1 x2>>=fun x3=>
  if (!x3)=true then
   some false
  else
   G1 s1 s2 (IntKind.i64.wrap (v17+1))
 else
  some true
 partial_fixpoint
end
abbrev Mq (a:B0)(b:B0)(res:Bool):Prop:=L0 C 209 [.agg (B0.cells a),.agg (B0.cells b)] [] (Ret [] (.d (.bool res)))
abbrev Nc (s1:List B0)(s2:List B0)(res:Bool):Prop:=L0 C 222 [.d (.sl (B0.rows s1)),.d (.sl (B0.rows s2)),.clo 209 []] [] (Ret [] (.d (.bool res)))
abbrev Rb (s1:List B0)(s2:List B0)(v17:Int)(res:Bool):Prop:=LM C 32 0 Tryz.f222 [1,1,0,1,4] [(1,.d (.sl (B0.rows s2))),(2,.clo 209 []),(15,.d (.sl (B0.rows s1))),(16,.d (.int .i64 ((s1).length:Int))),(17,.d (.int .i64 v17))] [] (Ret [] (.d (.bool res)))
theorem Tz:(∀ a b res,U5 a b=some res→Mq a b res)∧(∀ s1 s2 res,O2 s1 s2=some res→Nc s1 s2 res)∧(∀ s1 s2 v17 res,G1 s1 s2 v17=some res→Rb s1 s2 v17 res):=by
 refine U5.mutual_partial_correctness _ _ _ ?_ ?_ ?_
 ·intro g1 ih1 a b res hh
  obtain ⟨x1,hx1,hh⟩:=bs' hh
  cases hh
  refine L0.intro hC Tryz.func209 rfl rfl rfl (s' rfl rfl (E0.n hC rfl (E0.n hC rfl (e' rfl (sg' 27 rfl (G' 7 rfl (a1' rfl (a0' rfl (a1' rfl (a2' rfl (pa' rfl (G' 2 rfl (a1' rfl ?_)))))))))))))
  exact a0' rfl (a1' rfl (a2' rfl (pa' rfl (G' 2 rfl (a1' rfl (a0' rfl (a1' rfl (AG.c rfl rfl (fun hg=>⟨hg,hg,trivial⟩) (fun hw=>ih1 _ _ _ (I1 hw hx1)) (pa' rfl (a0' rfl (an' (n' (re' (rt' rfl rfl rfl))))))))))))))
 ·intro g2 ih2 s1 s2 res hh
  refine L0.intro hC Tryz.func222 rfl rfl rfl (t' rfl (S' (p' 1 rfl (qe' rfl trivial (B0.lenA _) (q' rfl (qe' rfl trivial (B0.lenA _) (e' rfl (ci' rfl hh (fun hh=>?_) (fun hh=>?_)))))))))
  ·cases hh
   exact t' rfl (re' (rt' rfl rfl rfl))
  exact sk' (S' (p' 1 rfl (qe' rfl trivial (B0.lenA _) (e' rfl (bk' (fw' (ih2 _ _ _ _ hh) rfl rfl rfl))))))
 ·intro g0 g2 ih0 ih2 s1 s2 v17 res hh
  refine X0.unroll (t' rfl (S' (ci' rfl hh (fun hh=>?_) (fun hh=>?_))))
  ·obtain ⟨x1,hx1,hh⟩:=bs' hh
   obtain ⟨x2,hx2,hh⟩:=bs' hh
   obtain ⟨x3,hx3,hh⟩:=bs' hh
   refine sk' (S' (bk' (p' 1 rfl (i' rfl (T0 hx1) (B0.idx hx1) rfl (q' rfl (E0.nf hC rfl (q' rfl (E0.s hC rfl (n' (p' 2 rfl (i' rfl (T0 hx2) (B0.idx hx2) rfl (q' rfl (E0.nf hC rfl ?_)))))))))))))
   refine E0.s hC rfl (n' (p' 3 rfl (c' (ih0 _ _ _ hx3) rfl rfl (e' rfl (ci' rfl hh (fun hh=>?_) (fun hh=>?_))))))
   ·cases hh
    exact t' rfl (re' (rt' rfl rfl rfl))
   exact sk' (T' rfl (lw' (ih2 _ _ _ _ hh) rfl rfl rfl))
  cases hh
  exact ex' (t' rfl (re' (rt' rfl rfl rfl)))
theorem Y11 {a b res}(hh:U5 a b=some res):Mq a b res:=(Tz).1 _ _ _ hh
def Zc (op:Int)(v9:Bool):Option Int:=
 if v9=true then
  some 1
 else
  if (op == 5)=true then
   some 2
  else
   if (op == 23)=true then
    some 3
   else
    if (bif (decide (op≥8)) then (decide (op≤22)) else false)=true then
     some 2
    else
     some (-1)
theorem Pj {op v9 res}(hh:Zc op v9=some res):JM C 23 0 Tryz.f150 [1,0,1,4,1,3,1] [(0,.d (.int .i64 op)),(3,.d (.int .i64 op)),(9,.d (.bool v9))] [] (Ret [] (.d (.int .i64 res))):=by
 unfold Zc at hh
 refine ci' rfl hh (fun hh=>?_) (fun hh=>?_)
 ·cases hh
  exact t' rfl (re' (rt' rfl rfl rfl))
 refine t' rfl (ci' rfl hh (fun hh=>?_) (fun hh=>?_))
 ·cases hh
  exact t' rfl (re' (rt' rfl rfl rfl))
 refine t' rfl (ci' rfl hh (fun hh=>?_) (fun hh=>?_))
 ·cases hh
  exact t' rfl (re' (rt' rfl rfl rfl))
 refine sk' (S' (sg' 6 rfl (G' 4 rfl (a1' rfl (pa' rfl (an' (n' (ci' rfl hh (fun hh=>?_) (fun hh=>?_)))))))))
 ·cases hh
  exact t' rfl (re' (rt' rfl rfl rfl))
 cases hh
 exact sk' (t' rfl (re' (rt' rfl rfl rfl)))
def Ra (op:Int)(v4:Bool):Option Int:=
 if v4=true then
  some 0
 else
  if (op == 4)=true then
   Zc op (op == 4)
  else
   if (op == 6)=true then
    Zc op (op == 6)
   else
    Zc op (op == 7)
theorem Rf {op v4 res}(hh:Ra op v4=some res):JM C 23 0 Tryz.f150 [1,0,1,4,1] [(0,.d (.int .i64 op)),(3,.d (.int .i64 op)),(4,.d (.bool v4))] [] (Ret [] (.d (.int .i64 res))):=by
 unfold Ra at hh
 refine ci' rfl hh (fun hh=>?_) (fun hh=>?_)
 ·cases hh
  exact t' rfl (re' (rt' rfl rfl rfl))
 refine S' (t' rfl (ci' rfl hh (fun hh=>?_) (fun hh=>?_)))
 ·exact sk' (ew' (Pj hh) rfl rfl rfl)
 refine t' rfl (ci' rfl hh (fun hh=>?_) (fun hh=>?_))
 ·exact sk' (ew' (Pj hh) rfl rfl rfl)
 exact T' rfl (ew' (Pj hh) rfl rfl rfl)
def Qj (op:Int):Option Int:=
 if (op == 0)=true then
  Ra op (op == 0)
 else
  if (op == 1)=true then
   Ra op (op == 1)
  else
   if (op == 2)=true then
    Ra op (op == 2)
   else
    Ra op (op == 3)
theorem O1a {op res}(hh:Qj op=some res):L0 C 150 [.d (.int .i64 op)] [] (Ret [] (.d (.int .i64 res))):=by
 unfold Qj at hh
 refine L0.intro hC Tryz.func150 rfl rfl rfl (t' rfl (S' (t' rfl (bk' (S' (t' rfl (ci' rfl hh (fun hh=>?_) (fun hh=>?_))))))))
 ·exact sk' (ew' (Rf hh) rfl rfl rfl)
 refine t' rfl (ci' rfl hh (fun hh=>?_) (fun hh=>?_))
 ·exact sk' (ew' (Rf hh) rfl rfl rfl)
 refine t' rfl (ci' rfl hh (fun hh=>?_) (fun hh=>?_))
 ·exact sk' (ew' (Rf hh) rfl rfl rfl)
 exact T' rfl (ew' (Rf hh) rfl rfl rfl)
def Ad (o0:B0):Option Bool:=
 if (bif (o0.Op == 4) then true else (o0.Op == 5))=true then
  if (((o0.Kids).length:Int) == 0)=true then
   some false
  else
   idx o0.Kids 0>>=fun x1=>
   Ad x1
 else
  some (o0.Op == 3)
 partial_fixpoint
abbrev Nr (o0:B0)(res:Bool):Prop:=LM C 22 0 Tryz.f151 [1,0,4] [(1,.ref 0 0)] [.row (B0.cells o0) 34] (Ret [] (.d (.bool res)))
theorem Z11:(∀ o0 res,Ad o0=some res→Nr o0 res):=by
 refine Ad.partial_correctness _ ?_
 ·intro g0 ih0 o0 res hh
  refine X0.unroll (S' (sg' 8 rfl (G' 5 rfl (a1' rfl (a1' rfl (po' rfl (an' (n' (ci' rfl hh (fun hh=>?_) (fun hh=>?_))))))))))
  ·refine sk' (bk' (S' (p' 2 rfl (qe' rfl trivial (B0.lenA _) (e' rfl (ci' rfl hh (fun hh=>?_) (fun hh=>?_)))))))
   ·cases hh
    exact t' rfl (re' (rt' rfl rfl rfl))
   obtain ⟨x1,hx1,hh⟩:=bs' hh
   exact sk' (P' 2 rfl (i' rfl (T0 hx1) (B0.idx hx1) rfl (q' rfl (E0.s hC rfl (n' (lw' (ih0 _ _ hh) rfl rfl rfl))))))
  cases hh
  exact ex' (t' rfl (re' (rt' rfl rfl rfl)))
theorem J14 {o0 res}(hh:Ad o0=some res):Nr o0 res:=(Z11) _ _ hh
def Zg (e:B0):Option Bool:=
 Ad e
theorem Tv {e res}(hh:Zg e=some res):L0 C 151 [.agg (B0.cells e)] [] (Ret [] (.d (.bool res))):=by
 unfold Zg at hh
 exact L0.intro hC Tryz.func151 rfl rfl rfl (s' rfl rfl (E0.n hC rfl (e' rfl (S' (bk' (fw' (J14 hh) rfl rfl rfl))))))
mutual
def Y2 (e:B0)(depth:Int)(syntaxReport:F0):Option F0:=
 E7 depth (F0.mk (IntKind.i64.wrap (syntaxReport.nodes+1)) syntaxReport.depth syntaxReport.badForm syntaxReport.badName syntaxReport.badNumber)>>=fun x1=>
 Qj e.Op>>=fun x2=>
 V0 (x2 == ((e.Kids).length:Int)) x1>>=fun x3=>
 V0 (bif (e.NV == 0) then true else (e.Op == 0)) x3>>=fun x4=>
 V0 (bif (e.Name == []) then true else (bif (e.Op == 3) then true else (e.Op == 4))) x4>>=fun x5=>
 if (bif (e.Op == 4) then true else (e.Op == 5))=true then
  Zg e>>=fun x6=>
  V0 x6 x5>>=fun x7=>
  T9 e depth x7
 else
  T9 e depth x5
 partial_fixpoint
def T9 (e:B0)(depth:Int)(o0:F0):Option F0:=
 if (bif (e.Op == 3) then true else (e.Op == 4))=true then
  W3 e.Name o0>>=fun x8=>
  Bd e depth x8
 else
  Bd e depth o0
 partial_fixpoint
def Bd (e:B0)(depth:Int)(o01:F0):Option F0:=
 if (e.Op == 0)=true then
  H3 e.NV 0 1048576>>=fun x9=>
  O1 x9 o01>>=fun x10=>
  Cd e depth x10
 else
  Cd e depth o01
 partial_fixpoint
def Cd (e:B0)(depth:Int)(o02:F0):Option F0:=
 F4 e depth o02 0
 partial_fixpoint
def F4 (e:B0)(depth:Int)(o03:F0)(v82:Int):Option F0:=
 if (decide (v82 < ((e.Kids).length:Int)))=true then
  idx e.Kids v82>>=fun x11=>
  Y2 x11 (IntKind.i64.wrap (depth+1)) o03>>=fun x12=>
  F4 e depth x12 (IntKind.i64.wrap (v82+1))
 else
  some o03
 partial_fixpoint
end
abbrev Kn (e:B0)(depth:Int)(syntaxReport:F0)(res:F0):Prop:=L0 C 84 [.ref 0 0,.agg (B0.cells e),.d (.int .i64 depth)] [.row (F0.cells syntaxReport) 135] (Ret [.row (F0.cells res) 135] (.tup []))
abbrev Xu (e:B0)(depth:Int)(o0:F0)(res:F0):Prop:=JM C 92 1 Tryz.f84 [1,1,1,1,1,1,1,1] [(0,.ref 0 0),(2,.d (.int .i64 depth)),(4,.ref 1 0),(6,.d (.bool (bif (e.Op == 3) then true else (e.Op == 4))))] [.row (F0.cells o0) 135,.row (B0.cells e) 34] (Ret [.row (F0.cells res) 135] (.tup []))
abbrev Yu (e:B0)(depth:Int)(o01:F0)(res:F0):Prop:=JM C 92 1 Tryz.f84 [1,1,1,1,1,1,1,1,1] [(0,.ref 0 0),(2,.d (.int .i64 depth)),(4,.ref 1 0)] [.row (F0.cells o01) 135,.row (B0.cells e) 34] (Ret [.row (F0.cells res) 135] (.tup []))
abbrev Zu (e:B0)(depth:Int)(o02:F0)(res:F0):Prop:=JM C 92 1 Tryz.f84 [1,1,1,1,1,1,1,1,1,1] [(0,.ref 0 0),(2,.d (.int .i64 depth)),(4,.ref 1 0)] [.row (F0.cells o02) 135,.row (B0.cells e) 34] (Ret [.row (F0.cells res) 135] (.tup []))
abbrev Av (e:B0)(depth:Int)(o03:F0)(v82:Int)(res:F0):Prop:=LM C 92 1 Tryz.f84 [1,1,1,1,1,1,1,1,1,1,1,4] [(0,.ref 0 0),(2,.d (.int .i64 depth)),(80,.d (.sl (B0.rows e.Kids))),(81,.d (.int .i64 ((e.Kids).length:Int))),(82,.d (.int .i64 v82))] [.row (F0.cells o03) 135] (Ret [.row (F0.cells res) 135] (.tup []))
theorem Mw:(∀ e depth syntaxReport res,Y2 e depth syntaxReport=some res→Kn e depth syntaxReport res)∧(∀ e depth o0 res,T9 e depth o0=some res→Xu e depth o0 res)∧(∀ e depth o01 res,Bd e depth o01=some res→Yu e depth o01 res)∧(∀ e depth o02 res,Cd e depth o02=some res→Zu e depth o02 res)∧(∀ e depth o03 v82 res,F4 e depth o03 v82=some res→Av e depth o03 v82 res):=by
 refine Y2.mutual_partial_correctness _ _ _ _ _ ?_ ?_ ?_ ?_ ?_
 ·intro g1 ih1 e depth syntaxReport res hh
  obtain ⟨x1,hx1,hh⟩:=bs' hh
  obtain ⟨x2,hx2,hh⟩:=bs' hh
  obtain ⟨x3,hx3,hh⟩:=bs' hh
  obtain ⟨x4,hx4,hh⟩:=bs' hh
  obtain ⟨x5,hx5,hh⟩:=bs' hh
  refine L0.intro hC Tryz.func84 rfl rfl rfl (s' rfl rfl (E0.n hC rfl (n' (p' 7 rfl (E0.s hC rfl (n' (p' 2 rfl (g' [0] (Xg hx1) rfl rfl rfl rfl rfl rfl (n' (S' (AEx.draw hC 8 rfl rfl rfl (O' 3 rfl (Qc' (O1a hx2) rfl rfl ?_)))))))))))))
  refine O' 2 rfl (AQ.qe hC rfl trivial (B0.lenA _) (E' rfl (g' [0] (Z0 hx3) rfl rfl rfl rfl rfl rfl (n' (sg' 9 rfl (G' 6 rfl (a1' rfl (a1' rfl (po' rfl (an' (g' [0] (Z0 hx4) rfl rfl rfl rfl rfl rfl (n' (sg' 9 rfl ?_)))))))))))))
  refine G' 5 rfl (a1' rfl (a1' rfl (po' rfl (a0' rfl (an' (n' (sg' 7 rfl (G' 6 rfl (po' rfl (an' (g' [0] (Z0 hx5) rfl rfl rfl rfl rfl rfl (n' (S' ?_)))))))))))))
  refine sg' 8 rfl (G' 5 rfl (a1' rfl (a1' rfl (po' rfl (an' (n' (ci' rfl hh (fun hh=>?_) (fun hh=>?_))))))))
  ·obtain ⟨x6,hx6,hh⟩:=bs' hh
   obtain ⟨x7,hx7,hh⟩:=bs' hh
   exact P' 2 rfl (c' (Tv hx6) rfl rfl (g' [0] (Z0 hx7) rfl rfl rfl rfl rfl rfl (n' (ew' (ih1 _ _ _ _ hh) rfl rfl rfl))))
  exact sk' (ew' (ih1 _ _ _ _ hh) rfl rfl rfl)
 ·intro g2 ih2 e depth o0 res hh
  refine S' (t' rfl (ci' rfl hh (fun hh=>?_) (fun hh=>?_)))
  ·obtain ⟨x8,hx8,hh⟩:=bs' hh
   exact P' 3 rfl (g' [0] (S9 hx8) rfl rfl rfl rfl rfl rfl (n' (ew' (ih2 _ _ _ _ hh) rfl rfl rfl)))
  exact sk' (ew' (ih2 _ _ _ _ hh) rfl rfl rfl)
 ·intro g3 ih3 e depth o01 res hh
  refine S' (t' rfl (ci' rfl hh (fun hh=>?_) (fun hh=>?_)))
  ·obtain ⟨x9,hx9,hh⟩:=bs' hh
   obtain ⟨x10,hx10,hh⟩:=bs' hh
   exact P' 3 rfl (c' (R3 hx9) rfl rfl (g' [0] (R2 hx10) rfl rfl rfl rfl rfl rfl (n' (ew' (ih3 _ _ _ _ hh) rfl rfl rfl))))
  exact sk' (ew' (ih3 _ _ _ _ hh) rfl rfl rfl)
 ·intro g4 ih4 e depth o02 res hh
  exact p' 2 rfl (qe' rfl trivial (B0.lenA _) (e' rfl (bk' (fw' (ih4 _ _ _ _ _ hh) rfl rfl rfl))))
 ·intro g0 g4 ih0 ih4 e depth o03 v82 res hh
  refine X0.unroll (t' rfl (S' (ci' rfl hh (fun hh=>?_) (fun hh=>?_))))
  ·obtain ⟨x11,hx11,hh⟩:=bs' hh
   obtain ⟨x12,hx12,hh⟩:=bs' hh
   exact sk' (S' (bk' (s' rfl rfl (i' rfl (T0 hx11) (B0.idx hx11) rfl (q' rfl (E0.nf hC rfl (E0.s hC rfl (n' (P' 4 rfl (g' [0] (ih0 _ _ _ _ hx12) rfl rfl rfl rfl rfl rfl (n' (T' rfl (lw' (ih4 _ _ _ _ _ hh) rfl rfl rfl)))))))))))))
  cases hh
  exact ex' (rn' rfl rfl rfl)
theorem Ah {e depth syntaxReport res}(hh:Y2 e depth syntaxReport=some res):Kn e depth syntaxReport res:=(Mw).1 _ _ _ _ hh
def J3 (e:B0)(used:Bool)(syntaxReport:F0):Option F0:=
 (if (!used)=true then U5 e (B0.mk 0 0 [] []) else some default)>>=fun x1=>
 if (bif (!used) then x1 else false)=true then
  some syntaxReport
 else
  V0 used syntaxReport>>=fun x2=>
  Y2 e 1 x2>>=fun x3=>
  some x3
theorem Ud {e used syntaxReport res}(hh:J3 e used syntaxReport=some res):L0 C 176 [.ref 0 0,.agg (B0.cells e),.d (.bool used)] [.row (F0.cells syntaxReport) 135] (Ret [.row (F0.cells res) 135] (.tup [])):=by
 unfold J3 at hh
 obtain ⟨x1,hx1,hh⟩:=bs' hh
 refine L0.intro hC Tryz.func176 rfl rfl rfl (s' rfl rfl (E0.n hC rfl (n' (S' (sg' 7 rfl (G' 5 rfl (AG.c rfl rfl (fun hg=>⟨hg,hg,trivial⟩) (fun hw=>Y11 (I1 hw hx1)) (pa' rfl (an' (n' (ci' rfl hh (fun hh=>?_) (fun hh=>?_))))))))))))
 ·cases hh
  exact re' (rt' rfl rfl rfl)
 obtain ⟨x2,hx2,hh⟩:=bs' hh
 obtain ⟨x3,hx3,hh⟩:=bs' hh
 cases hh
 exact sk' (p' 2 rfl (g' [0] (Z0 hx2) rfl rfl rfl rfl rfl rfl (n' (P' 2 rfl (g' [0] (Ah hx3) rfl rfl rfl rfl rfl rfl (n' (rn' rfl rfl rfl)))))))
def Se (v:Int):Option (Z1×Bool):=
 if (v == 0)=true then
  some ((Z1.mk true true false false false false false false false),true)
 else
  if (v == 1)=true then
   some ((Z1.mk true false true true false false false false false),true)
  else
   if (v == 2)=true then
    some ((Z1.mk true false true false false false false false false),true)
   else
    if (v == 3)=true then
     some ((Z1.mk false true false false false false false false false),true)
    else
     if (v == 4)=true then
      some ((Z1.mk false false false false true false false false false),true)
     else
      if (v == 5)=true then
       some ((Z1.mk false true false false false false false true true),true)
      else
       if (v == 6)=true then
        some ((Z1.mk false true false false true false false true false),true)
       else
        if (v == 7)=true then
         some ((Z1.mk false false true false false true false true false),true)
        else
         if (v == 8)=true then
          some ((Z1.mk false false false false false false true false false),true)
         else
          some ((Z1.mk false false false false false false false false false),false)
theorem A12 {v res}(hh:Se v=some res):L0 C 177 [.d (.int .i64 v)] [] (Ret [] (.tup [.agg (Z1.cells res.1),.d (.bool res.2)])):=by
 unfold Se at hh
 refine L0.intro hC Tryz.func177 rfl rfl rfl (s' rfl rfl (E0.n hC rfl (e' rfl (S' (t' rfl (bk' (t' rfl (ci' rfl hh (fun hh=>?_) (fun hh=>?_)))))))))
 ·cases hh
  exact p' 1 rfl (E0.s hC rfl (e' rfl (re' (rt' rfl rfl rfl))))
 refine t' rfl (ci' rfl hh (fun hh=>?_) (fun hh=>?_))
 ·cases hh
  exact p' 1 rfl (E0.s hC rfl (e' rfl (re' (rt' rfl rfl rfl))))
 refine t' rfl (ci' rfl hh (fun hh=>?_) (fun hh=>?_))
 ·cases hh
  exact p' 1 rfl (E0.s hC rfl (e' rfl (re' (rt' rfl rfl rfl))))
 refine t' rfl (ci' rfl hh (fun hh=>?_) (fun hh=>?_))
 ·cases hh
  exact p' 1 rfl (E0.s hC rfl (e' rfl (re' (rt' rfl rfl rfl))))
 refine t' rfl (ci' rfl hh (fun hh=>?_) (fun hh=>?_))
 ·cases hh
  exact p' 1 rfl (E0.s hC rfl (e' rfl (re' (rt' rfl rfl rfl))))
 refine t' rfl (ci' rfl hh (fun hh=>?_) (fun hh=>?_))
 ·cases hh
  exact p' 1 rfl (E0.s hC rfl (e' rfl (re' (rt' rfl rfl rfl))))
 refine t' rfl (ci' rfl hh (fun hh=>?_) (fun hh=>?_))
 ·cases hh
  exact p' 1 rfl (E0.s hC rfl (e' rfl (re' (rt' rfl rfl rfl))))
 refine t' rfl (ci' rfl hh (fun hh=>?_) (fun hh=>?_))
 ·cases hh
  exact p' 1 rfl (E0.s hC rfl (e' rfl (re' (rt' rfl rfl rfl))))
 refine t' rfl (ci' rfl hh (fun hh=>?_) (fun hh=>?_))
 ·cases hh
  exact p' 1 rfl (E0.s hC rfl (e' rfl (re' (rt' rfl rfl rfl))))
 cases hh
 exact sk' (p' 1 rfl (E0.s hC rfl (e' rfl (re' (rt' rfl rfl rfl)))))
def K3 (s:C0)(o0:F0)(last:Int)(v58:Int):Option F0:=
 if (decide (v58 < ((s.Numbers).length:Int)))=true then
  idx s.Numbers v58>>=fun x10=>
  H3 x10 0 1048576>>=fun x11=>
  O1 (bif x11 then (decide (x10 > last)) else false) o0>>=fun x12=>
  K3 s x12 x10 (IntKind.i64.wrap (v58+1))
 else
  some o0
 partial_fixpoint
abbrev Ii (s:C0)(o0:F0)(last:Int)(v58:Int)(res:F0):Prop:=LM C 73 1 Tryz.f178 [1,1,4,1,3,1,3,1,3,1,2,1,1,1,4] [(0,.ref 0 0),(5,.d (.int .i64 last)),(56,.d (.sl (ei64.rows s.Numbers))),(57,.d (.int .i64 ((s.Numbers).length:Int))),(58,.d (.int .i64 v58))] [.row (F0.cells o0) 135] (Ret [.row (F0.cells res) 135] (.tup []))
theorem Np (s:C0):(∀ o0 last v58 res,K3 s o0 last v58=some res→Ii s o0 last v58 res):=by
 refine K3.partial_correctness s _ ?_
 ·intro g0 ih0 o0 last v58 res hh
  refine X0.unroll (t' rfl (S' (ci' rfl hh (fun hh=>?_) (fun hh=>?_))))
  ·obtain ⟨x10,hx10,hh⟩:=bs' hh
   obtain ⟨x11,hx11,hh⟩:=bs' hh
   obtain ⟨x12,hx12,hh⟩:=bs' hh
   refine sk' (S' (bk' (s' rfl rfl (i' rfl (T0 hx10) (ei64.idx hx10) rfl (e' rfl (sg' 8 rfl (G' 2 rfl (AG.c rfl rfl (fun _=>trivial) (fun _=>R3 hx11) (G' 3 rfl (a2' rfl (pa' rfl (an' (g' [0] (R2 hx12) rfl rfl rfl rfl rfl rfl ?_)))))))))))))
   exact n' (T' rfl (T' rfl (lw' (ih0 _ _ _ _ hh) rfl rfl rfl)))
  cases hh
  exact ex' (rn' rfl rfl rfl)
theorem Nq {s o0 last v58 res}(hh:K3 s o0 last v58=some res):Ii s o0 last v58 res:=(Np s) _ _ _ _ hh
def A7 (s:C0)(syntaxReport:F0):Option F0:=
 if (s.Verb == 4)=true then
  H3 s.NV 0 1048576>>=fun x1=>
  O1 x1 syntaxReport>>=fun x2=>
  some x2
 else
  if (s.Verb == 6)=true then
   H3 s.NV 0 4096>>=fun x3=>
   O1 x3 syntaxReport>>=fun x4=>
   some x4
  else
   if (s.Verb == 7)=true then
    H3 s.Low (-1048576) 1048576>>=fun x5=>
    (if x5=true then H3 s.High s.Low 1048576 else some default)>>=fun x6=>
    O1 (bif (bif x5 then x6 else false) then (decide ((IntKind.i64.wrap (s.High - s.Low)) < 4096)) else false) syntaxReport>>=fun x7=>
    some x7
   else
    if (s.Verb == 8)=true then
     H3 ((s.Numbers).length:Int) 1 32>>=fun x8=>
     O1 x8 syntaxReport>>=fun x9=>
     K3 s x9 (-1) 0
    else
     some syntaxReport
theorem Mt {s syntaxReport res}(hh:A7 s syntaxReport=some res):L0 C 178 [.ref 0 0,.agg (C0.cells s)] [.row (F0.cells syntaxReport) 135] (Ret [.row (F0.cells res) 135] (.tup [])):=by
 unfold A7 at hh
 refine L0.intro hC Tryz.func178 rfl rfl rfl (s' rfl rfl (E0.n hC rfl (n' (t' rfl (bk' (t' rfl (ci' rfl hh (fun hh=>?_) (fun hh=>?_))))))))
 ·obtain ⟨x1,hx1,hh⟩:=bs' hh
  obtain ⟨x2,hx2,hh⟩:=bs' hh
  cases hh
  exact P' 3 rfl (c' (R3 hx1) rfl rfl (g' [0] (R2 hx2) rfl rfl rfl rfl rfl rfl (n' (rn' rfl rfl rfl))))
 refine t' rfl (ci' rfl hh (fun hh=>?_) (fun hh=>?_))
 ·obtain ⟨x3,hx3,hh⟩:=bs' hh
  obtain ⟨x4,hx4,hh⟩:=bs' hh
  cases hh
  exact P' 3 rfl (c' (R3 hx3) rfl rfl (g' [0] (R2 hx4) rfl rfl rfl rfl rfl rfl (n' (rn' rfl rfl rfl))))
 refine t' rfl (ci' rfl hh (fun hh=>?_) (fun hh=>?_))
 ·obtain ⟨x5,hx5,hh⟩:=bs' hh
  obtain ⟨x6,hx6,hh⟩:=bs' hh
  obtain ⟨x7,hx7,hh⟩:=bs' hh
  cases hh
  refine sg' 11 rfl (G' 2 rfl (AG.c rfl rfl (fun _=>trivial) (fun _=>R3 hx5) (G' 2 rfl (a1' rfl (a0' rfl (a1' rfl (AG.c rfl rfl (fun hg=>⟨hg,hg,trivial⟩) (fun hw=>R3 (I1 hw hx6)) (pa' rfl (a0' rfl (an' (n' (AEx.regionG 10 rfl (G' 4 rfl ?_)))))))))))))
  exact a1' rfl (a0' rfl (a1' rfl (a2' rfl (a1' rfl (pa' rfl (an' (g' [0] (R2 hx7) rfl rfl rfl rfl rfl rfl (n' (rn' rfl rfl rfl)))))))))
 refine t' rfl (ci' rfl hh (fun hh=>?_) (fun hh=>?_))
 ·obtain ⟨x8,hx8,hh⟩:=bs' hh
  obtain ⟨x9,hx9,hh⟩:=bs' hh
  exact p' 3 rfl (qe' rfl trivial (ei64.lenA _) (c' (R3 hx8) rfl rfl (g' [0] (R2 hx9) rfl rfl rfl rfl rfl rfl (n' (t' rfl (p' 2 rfl (qe' rfl trivial (ei64.lenA _) (e' rfl (bk' (fw' (Nq hh) rfl rfl rfl))))))))))
 cases hh
 exact sk' (rn' rfl rfl rfl)
end Go.Proofs.YtdkabnfphmmmnaaGreatDoor

set_option maxRecDepth 100000
set_option maxHeartbeats 4000000
set_option synthInstance.maxSize 20000
set_option linter.unusedVariables false
namespace Go.Proofs.YtdkabnfphmmmnaaGreatDoor
open Go.Am
mutual
def Z2 (l:List C0)(nesting:Int)(syntaxReport:F0):Option F0:=
 V4 l nesting syntaxReport 0
 partial_fixpoint
def V4 (l:List C0)(nesting:Int)(o03:F0)(v14:Int):Option F0:=
 if (decide (v14 < ((l).length:Int)))=true then
  idx l v14>>=fun x1=>
  E7 nesting (F0.mk (IntKind.i64.wrap (o03.nodes+1)) o03.depth o03.badForm o03.badName o03.badNumber)>>=fun x2=>
  Se x1.Verb>>=fun x3=>
  V0 x3.2 x2>>=fun x4=>
  J3 x1.Place x3.1.place x4>>=fun x5=>
  if x3.1.place=true then
   Zg x1.Place>>=fun x6=>
   V0 x6 x5>>=fun x7=>
   F6 l nesting x7 x1 x3 v14
  else
   F6 l nesting x5 x1 x3 v14
 else
  some o03
 partial_fixpoint
def F6 (l:List C0)(nesting:Int)(o0:F0)(x1:C0)(x3:Z1×Bool)(v141:Int):Option F0:=
 J3 x1.Value x3.1.value o0>>=fun x8=>
 V0 (bif x3.1.name then true else (x1.Name == [])) x8>>=fun x9=>
 if x3.1.name=true then
  W3 x1.Name x9>>=fun x10=>
  G6 l nesting x10 x1 x3 v141
 else
  G6 l nesting x9 x1 x3 v141
 partial_fixpoint
def G6 (l:List C0)(nesting:Int)(o01:F0)(x1:C0)(x3:Z1×Bool)(v142:Int):Option F0:=
 V0 (bif x3.1.args then true else (((x1.Args).length:Int) == 0)) o01>>=fun x11=>
 C9 l nesting x11 x1 x3 v142 0
 partial_fixpoint
def C9 (l:List C0)(nesting:Int)(o02:F0)(x1:C0)(x3:Z1×Bool)(v143:Int)(v84:Int):Option F0:=
 if (decide (v84 < ((x1.Args).length:Int)))=true then
  idx x1.Args v84>>=fun x12=>
  Y2 x12 1 o02>>=fun x13=>
  C9 l nesting x13 x1 x3 v143 (IntKind.i64.wrap (v84+1))
 else
  V0 (bif x3.1.n then true else (x1.NV == 0)) o02>>=fun x14=>
  V0 (bif x3.1.bounds then true else (bif (x1.Low == 0) then (x1.High == 0) else false)) x14>>=fun x15=>
  V0 (bif x3.1.numbers then true else (((x1.Numbers).length:Int) == 0)) x15>>=fun x16=>
  V0 (bif x3.1.thenV then true else (((x1.Then).length:Int) == 0)) x16>>=fun x17=>
  V0 (bif x3.1.other then true else (((x1.Else).length:Int) == 0)) x17>>=fun x18=>
  A7 x1 x18>>=fun x19=>
  Z2 x1.Then (IntKind.i64.wrap (nesting+1)) x19>>=fun x20=>
  Z2 x1.Else (IntKind.i64.wrap (nesting+1)) x20>>=fun x21=>
  V4 l nesting x21 (IntKind.i64.wrap (v143+1))
 partial_fixpoint
end
abbrev Qm (l:List C0)(nesting:Int)(syntaxReport:F0)(res:F0):Prop:=L0 C 109 [.ref 0 0,.d (.sl (C0.rows l)),.d (.int .i64 nesting)] [.row (F0.cells syntaxReport) 135] (Ret [.row (F0.cells res) 135] (.tup []))
abbrev Nt (l:List C0)(nesting:Int)(o03:F0)(v14:Int)(res:F0):Prop:=LM C 161 1 Tryz.f109 [1,4] [(0,.ref 0 0),(2,.d (.int .i64 nesting)),(12,.d (.sl (C0.rows l))),(13,.d (.int .i64 ((l).length:Int))),(14,.d (.int .i64 v14))] [.row (F0.cells o03) 135] (Ret [.row (F0.cells res) 135] (.tup []))
abbrev Ot (l:List C0)(nesting:Int)(o0:F0)(x1:C0)(x3:Z1×Bool)(v141:Int)(res:F0):Prop:=JM C 161 1 Tryz.f109 [1,4,5,1,1,0,4,1,1,1,1,1,1,1] [(0,.ref 0 0),(2,.d (.int .i64 nesting)),(7,.ref 1 0),(8,.ref 2 0),(12,.d (.sl (C0.rows l))),(13,.d (.int .i64 ((l).length:Int))),(14,.d (.int .i64 v141))] [.row (F0.cells o0) 135,.row (C0.cells x1) 53,.row (Z1.cells x3.1) 206] (Ret [.row (F0.cells res) 135] (.tup []))
abbrev Pt (l:List C0)(nesting:Int)(o01:F0)(x1:C0)(x3:Z1×Bool)(v142:Int)(res:F0):Prop:=JM C 161 1 Tryz.f109 [1,4,5,1,1,0,4,1,1,1,1,1,1,1,1,1,1] [(0,.ref 0 0),(2,.d (.int .i64 nesting)),(7,.ref 1 0),(8,.ref 2 0),(12,.d (.sl (C0.rows l))),(13,.d (.int .i64 ((l).length:Int))),(14,.d (.int .i64 v142))] [.row (F0.cells o01) 135,.row (C0.cells x1) 53,.row (Z1.cells x3.1) 206] (Ret [.row (F0.cells res) 135] (.tup []))
abbrev Qt (l:List C0)(nesting:Int)(o02:F0)(x1:C0)(x3:Z1×Bool)(v143:Int)(v84:Int)(res:F0):Prop:=LM C 161 1 Tryz.f109 [1,4,5,1,1,0,4,1,1,1,1,1,1,1,1,1,1,1,0,1,4] [(0,.ref 0 0),(2,.d (.int .i64 nesting)),(7,.ref 1 0),(8,.ref 2 0),(12,.d (.sl (C0.rows l))),(13,.d (.int .i64 ((l).length:Int))),(14,.d (.int .i64 v143)),(82,.d (.sl (B0.rows x1.Args))),(83,.d (.int .i64 ((x1.Args).length:Int))),(84,.d (.int .i64 v84))] [.row (F0.cells o02) 135,.row (C0.cells x1) 53,.row (Z1.cells x3.1) 206] (Ret [.row (F0.cells res) 135] (.tup []))
theorem Bv:(∀ l nesting syntaxReport res,Z2 l nesting syntaxReport=some res→Qm l nesting syntaxReport res)∧(∀ l nesting o03 v14 res,V4 l nesting o03 v14=some res→Nt l nesting o03 v14 res)∧(∀ l nesting o0 x1 x3 v141 res,F6 l nesting o0 x1 x3 v141=some res→Ot l nesting o0 x1 x3 v141 res)∧(∀ l nesting o01 x1 x3 v142 res,G6 l nesting o01 x1 x3 v142=some res→Pt l nesting o01 x1 x3 v142 res)∧(∀ l nesting o02 x1 x3 v143 v84 res,C9 l nesting o02 x1 x3 v143 v84=some res→Qt l nesting o02 x1 x3 v143 v84 res):=by
 refine Z2.mutual_partial_correctness _ _ _ _ _ ?_ ?_ ?_ ?_ ?_
 ·intro g1 ih1 l nesting syntaxReport res hh
  exact L0.intro hC Tryz.func109 rfl rfl rfl (p' 1 rfl (qe' rfl trivial (C0.lenA _) (e' rfl (bk' (fw' (ih1 _ _ _ _ _ hh) rfl rfl rfl)))))
 ·intro g2 ih2 l nesting o03 v14 res hh
  refine X0.unroll (t' rfl (S' (ci' rfl hh (fun hh=>?_) (fun hh=>?_))))
  ·obtain ⟨x1,hx1,hh⟩:=bs' hh
   obtain ⟨x2,hx2,hh⟩:=bs' hh
   obtain ⟨x3,hx3,hh⟩:=bs' hh
   obtain ⟨x4,hx4,hh⟩:=bs' hh
   obtain ⟨x5,hx5,hh⟩:=bs' hh
   refine sk' (S' (bk' (s' rfl rfl (i' rfl (T0 hx1) (C0.idx hx1) rfl (q' rfl (E0.nf hC rfl (E0.s hC rfl (n' (p' 7 rfl (E0.s hC rfl (n' (p' 2 rfl (g' [0] (Xg hx2) rfl rfl rfl rfl rfl rfl ?_)))))))))))))
   refine n' (p' 2 rfl (c' (A12 hx3) rfl rfl (o' 3 rfl (E0.n hC rfl (E0.s hC rfl (e' rfl (p' 2 rfl (g' [0] (Z0 hx4) rfl rfl rfl rfl rfl rfl (n' (p' 5 rfl (g' [0] (Ud hx5) rfl rfl rfl rfl rfl rfl (n' (S' ?_)))))))))))))
   refine t' rfl (ci' rfl hh (fun hh=>?_) (fun hh=>?_))
   ·obtain ⟨x6,hx6,hh⟩:=bs' hh
    obtain ⟨x7,hx7,hh⟩:=bs' hh
    exact P' 3 rfl (c' (Tv hx6) rfl rfl (g' [0] (Z0 hx7) rfl rfl rfl rfl rfl rfl (n' (ew' (ih2 _ _ _ _ _ _ _ hh) rfl rfl rfl))))
   exact sk' (ew' (ih2 _ _ _ _ _ _ _ hh) rfl rfl rfl)
  cases hh
  exact ex' (rn' rfl rfl rfl)
 ·intro g3 ih3 l nesting o0 x1 x3 v141 res hh
  obtain ⟨x8,hx8,hh⟩:=bs' hh
  obtain ⟨x9,hx9,hh⟩:=bs' hh
  refine p' 5 rfl (g' [0] (Ud hx8) rfl rfl rfl rfl rfl rfl (n' (sg' 8 rfl (G' 5 rfl (a1' rfl (a1' rfl (po' rfl (an' (g' [0] (Z0 hx9) rfl rfl rfl rfl rfl rfl (n' (S' (t' rfl (ci' rfl hh (fun hh=>?_) (fun hh=>?_))))))))))))))
  ·obtain ⟨x10,hx10,hh⟩:=bs' hh
   exact P' 3 rfl (g' [0] (S9 hx10) rfl rfl rfl rfl rfl rfl (n' (ew' (ih3 _ _ _ _ _ _ _ hh) rfl rfl rfl)))
  exact sk' (ew' (ih3 _ _ _ _ _ _ _ hh) rfl rfl rfl)
 ·intro g4 ih4 l nesting o01 x1 x3 v142 res hh
  obtain ⟨x11,hx11,hh⟩:=bs' hh
  exact sg' 9 rfl (G' 5 rfl (a1' rfl (AG.qe hC rfl (fun hg=>⟨⟨hg,trivial⟩,trivial⟩) (B0.lenA _) (a1' rfl (po' rfl (an' (g' [0] (Z0 hx11) rfl rfl rfl rfl rfl rfl (n' (S' (p' 2 rfl (qe' rfl trivial (B0.lenA _) (e' rfl (bk' (fw' (ih4 _ _ _ _ _ _ _ _ hh) rfl rfl rfl))))))))))))))
 ·intro g0 g1 g4 ih0 ih1 ih4 l nesting o02 x1 x3 v143 v84 res hh
  refine X0.unroll (t' rfl (S' (ci' rfl hh (fun hh=>?_) (fun hh=>?_))))
  ·obtain ⟨x12,hx12,hh⟩:=bs' hh
   obtain ⟨x13,hx13,hh⟩:=bs' hh
   exact sk' (S' (bk' (s' rfl rfl (i' rfl (T0 hx12) (B0.idx hx12) rfl (q' rfl (E0.nf hC rfl (E0.s hC rfl (n' (P' 2 rfl (g' [0] (Ah hx13) rfl rfl rfl rfl rfl rfl (n' (T' rfl (lw' (ih4 _ _ _ _ _ _ _ _ hh) rfl rfl rfl)))))))))))))
  obtain ⟨x14,hx14,hh⟩:=bs' hh
  obtain ⟨x15,hx15,hh⟩:=bs' hh
  obtain ⟨x16,hx16,hh⟩:=bs' hh
  obtain ⟨x17,hx17,hh⟩:=bs' hh
  obtain ⟨x18,hx18,hh⟩:=bs' hh
  obtain ⟨x19,hx19,hh⟩:=bs' hh
  obtain ⟨x20,hx20,hh⟩:=bs' hh
  obtain ⟨x21,hx21,hh⟩:=bs' hh
  refine ex' (sg' 8 rfl (G' 5 rfl (a1' rfl (a1' rfl (po' rfl (an' (g' [0] (Z0 hx14) rfl rfl rfl rfl rfl rfl (n' (sg' 13 rfl (G' 5 rfl (a1' rfl (a1' rfl (a1' rfl ?_)))))))))))))
  refine a0' rfl (a1' rfl (a1' rfl (pA' rfl (po' rfl (an' (g' [0] (Z0 hx15) rfl rfl rfl rfl rfl rfl (n' (sg' 9 rfl (G' 5 rfl (a1' rfl (AG.qe hC rfl (fun hg=>⟨⟨hg,trivial⟩,trivial⟩) (ei64.lenA _) (a1' rfl (po' rfl ?_)))))))))))))
  refine an' (g' [0] (Z0 hx16) rfl rfl rfl rfl rfl rfl (n' (sg' 9 rfl (G' 5 rfl (a1' rfl (AG.qe hC rfl (fun hg=>⟨⟨hg,trivial⟩,trivial⟩) (C0.lenA _) (a1' rfl (po' rfl (an' (g' [0] (Z0 hx17) rfl rfl rfl rfl rfl rfl (n' (sg' 9 rfl (G' 5 rfl ?_)))))))))))))
  refine a1' rfl (AG.qe hC rfl (fun hg=>⟨⟨hg,trivial⟩,trivial⟩) (C0.lenA _) (a1' rfl (po' rfl (an' (g' [0] (Z0 hx18) rfl rfl rfl rfl rfl rfl (n' (p' 2 rfl (g' [0] (Mt hx19) rfl rfl rfl rfl rfl rfl (n' (p' 5 rfl (g' [0] (ih0 _ _ _ _ hx20) rfl rfl rfl rfl rfl rfl (n' (P' 5 rfl ?_)))))))))))))
  exact g' [0] (ih0 _ _ _ _ hx21) rfl rfl rfl rfl rfl rfl (n' (T' rfl (lw' (ih1 _ _ _ _ _ hh) rfl rfl rfl)))
theorem Hl {l nesting syntaxReport res}(hh:Z2 l nesting syntaxReport=some res):Qm l nesting syntaxReport res:=(Bv).1 _ _ _ _ hh
mutual
def C5 (l:List D0)(syntaxReport:F0):Option F0:=
 H6 l syntaxReport 0
 partial_fixpoint
def H6 (l:List D0)(o03:F0)(v15:Int):Option F0:=
 if (decide (v15 < ((l).length:Int)))=true then
  idx l v15>>=fun x1=>
  Bj x1.Kind>>=fun x2=>
  V0 x2.1 (F0.mk (IntKind.i64.wrap (o03.nodes+1)) o03.depth o03.badForm o03.badName o03.badNumber)>>=fun x3=>
  (if (!x2.1)=true then D7 x1.TypeV (A0.mk 0 0 0 0 [] [] []) else some default)>>=fun x4=>
  if (bif x2.1 then true else (!x4))=true then
   G4 x1.TypeV 1 x3>>=fun x5=>
   D9 l x5 x1 x2 v15
  else
   D9 l x3 x1 x2 v15
 else
  some o03
 partial_fixpoint
def D9 (l:List D0)(o0:F0)(x1:D0)(x2:Bool×Bool)(v151:Int):Option F0:=
 W3 x1.Name o0>>=fun x6=>
 J3 x1.Value x2.2 x6>>=fun x7=>
 V0 (bif (x1.Kind == 4) then true else (x1.Init == 0)) x7>>=fun x8=>
 H3 x1.Init (-1048576) 1048576>>=fun x9=>
 (if (x9&&(!(x1.TypeV.Kind != 0)))=true then H3 x1.Init 0 1 else some default)>>=fun x10=>
 O1 (bif x9 then (bif (x1.TypeV.Kind != 0) then true else x10) else false) x8>>=fun x11=>
 V0 (bif (x1.Kind == 6) then true else (bif (bif (((x1.Params).length:Int) == 0) then (((x1.Vars).length:Int) == 0) else false) then (((x1.Body).length:Int) == 0) else false)) x11>>=fun x12=>
 I6 l x12 x1 v151 0
 partial_fixpoint
def I6 (l:List D0)(o01:F0)(x1:D0)(v152:Int)(v109:Int):Option F0:=
 if (decide (v109 < ((x1.Params).length:Int)))=true then
  idx x1.Params v109>>=fun x13=>
  V0 (bif (x13.Kind == 4) then (x13.Init == 0) else false) o01>>=fun x14=>
  I6 l x14 x1 v152 (IntKind.i64.wrap (v109+1))
 else
  E9 l o01 x1 v152 0
 partial_fixpoint
def E9 (l:List D0)(o02:F0)(x1:D0)(v153:Int)(v127:Int):Option F0:=
 if (decide (v127 < ((x1.Vars).length:Int)))=true then
  idx x1.Vars v127>>=fun x15=>
  V0 (x15.Kind == 4) o02>>=fun x16=>
  E9 l x16 x1 v153 (IntKind.i64.wrap (v127+1))
 else
  C5 x1.Params o02>>=fun x17=>
  C5 x1.Vars x17>>=fun x18=>
  Z2 x1.Body 1 x18>>=fun x19=>
  H6 l x19 (IntKind.i64.wrap (v153+1))
 partial_fixpoint
end
abbrev Rm (l:List D0)(syntaxReport:F0)(res:F0):Prop:=L0 C 108 [.ref 0 0,.d (.sl (D0.rows l))] [.row (F0.cells syntaxReport) 135] (Ret [.row (F0.cells res) 135] (.tup []))
abbrev Rt (l:List D0)(o03:F0)(v15:Int)(res:F0):Prop:=LM C 150 1 Tryz.f108 [1,4] [(0,.ref 0 0),(13,.d (.sl (D0.rows l))),(14,.d (.int .i64 ((l).length:Int))),(15,.d (.int .i64 v15))] [.row (F0.cells o03) 135] (Ret [.row (F0.cells res) 135] (.tup []))
abbrev Tt (l:List D0)(o0:F0)(x1:D0)(x2:Bool×Bool)(v151:Int)(res:F0):Prop:=JM C 150 1 Tryz.f108 [1,4,5,1,1,0,4,1,1,1,1,1] [(0,.ref 0 0),(5,.ref 1 0),(7,.d (.bool x2.2)),(13,.d (.sl (D0.rows l))),(14,.d (.int .i64 ((l).length:Int))),(15,.d (.int .i64 v151))] [.row (F0.cells o0) 135,.row (D0.cells x1) 59] (Ret [.row (F0.cells res) 135] (.tup []))
abbrev Ut (l:List D0)(o01:F0)(x1:D0)(v152:Int)(v109:Int)(res:F0):Prop:=LM C 150 1 Tryz.f108 [1,4,5,1,1,0,4,1,1,1,1,1,1,1,1,1,1,1,0,1,4] [(0,.ref 0 0),(5,.ref 1 0),(13,.d (.sl (D0.rows l))),(14,.d (.int .i64 ((l).length:Int))),(15,.d (.int .i64 v152)),(107,.d (.sl (D0.rows x1.Params))),(108,.d (.int .i64 ((x1.Params).length:Int))),(109,.d (.int .i64 v109))] [.row (F0.cells o01) 135,.row (D0.cells x1) 59] (Ret [.row (F0.cells res) 135] (.tup []))
abbrev Vt (l:List D0)(o02:F0)(x1:D0)(v153:Int)(v127:Int)(res:F0):Prop:=LM C 150 1 Tryz.f108 [1,4,5,1,1,0,4,1,1,1,1,1,1,1,1,1,1,1,1,0,1,4] [(0,.ref 0 0),(5,.ref 1 0),(13,.d (.sl (D0.rows l))),(14,.d (.int .i64 ((l).length:Int))),(15,.d (.int .i64 v153)),(125,.d (.sl (D0.rows x1.Vars))),(126,.d (.int .i64 ((x1.Vars).length:Int))),(127,.d (.int .i64 v127))] [.row (F0.cells o02) 135,.row (D0.cells x1) 59] (Ret [.row (F0.cells res) 135] (.tup []))
theorem Cv:(∀ l syntaxReport res,C5 l syntaxReport=some res→Rm l syntaxReport res)∧(∀ l o03 v15 res,H6 l o03 v15=some res→Rt l o03 v15 res)∧(∀ l o0 x1 x2 v151 res,D9 l o0 x1 x2 v151=some res→Tt l o0 x1 x2 v151 res)∧(∀ l o01 x1 v152 v109 res,I6 l o01 x1 v152 v109=some res→Ut l o01 x1 v152 v109 res)∧(∀ l o02 x1 v153 v127 res,E9 l o02 x1 v153 v127=some res→Vt l o02 x1 v153 v127 res):=by
 refine C5.mutual_partial_correctness _ _ _ _ _ ?_ ?_ ?_ ?_ ?_
 ·intro g1 ih1 l syntaxReport res hh
  exact L0.intro hC Tryz.func108 rfl rfl rfl (p' 1 rfl (qe' rfl trivial (D0.lenA _) (e' rfl (bk' (fw' (ih1 _ _ _ _ hh) rfl rfl rfl)))))
 ·intro g2 ih2 l o03 v15 res hh
  refine X0.unroll (t' rfl (S' (ci' rfl hh (fun hh=>?_) (fun hh=>?_))))
  ·obtain ⟨x1,hx1,hh⟩:=bs' hh
   obtain ⟨x2,hx2,hh⟩:=bs' hh
   obtain ⟨x3,hx3,hh⟩:=bs' hh
   obtain ⟨x4,hx4,hh⟩:=bs' hh
   refine sk' (S' (bk' (s' rfl rfl (i' rfl (T0 hx1) (D0.idx hx1) rfl (q' rfl (E0.nf hC rfl (E0.s hC rfl (n' (p' 7 rfl (E0.s hC rfl (n' (p' 2 rfl (c' (H14 hx2) rfl rfl ?_)))))))))))))
   refine e' rfl (p' 2 rfl (g' [0] (Z0 hx3) rfl rfl rfl rfl rfl rfl (n' (S' (sg' 8 rfl (G' 3 rfl (a1' rfl (a0' rfl (AG.c rfl rfl (fun hg=>⟨hg,hg,trivial⟩) (fun hw=>W11 (I1 hw hx4)) (a1' rfl (po' rfl (an' (n' (ci' rfl hh (fun hh=>?_) (fun hh=>?_)))))))))))))))
   ·obtain ⟨x5,hx5,hh⟩:=bs' hh
    exact P' 3 rfl (g' [0] (Jn hx5) rfl rfl rfl rfl rfl rfl (n' (ew' (ih2 _ _ _ _ _ _ hh) rfl rfl rfl)))
   exact sk' (ew' (ih2 _ _ _ _ _ _ hh) rfl rfl rfl)
  cases hh
  exact ex' (rn' rfl rfl rfl)
 ·intro g3 ih3 l o0 x1 x2 v151 res hh
  obtain ⟨x6,hx6,hh⟩:=bs' hh
  obtain ⟨x7,hx7,hh⟩:=bs' hh
  obtain ⟨x8,hx8,hh⟩:=bs' hh
  obtain ⟨x9,hx9,hh⟩:=bs' hh
  obtain ⟨x10,hx10,hh⟩:=bs' hh
  obtain ⟨x11,hx11,hh⟩:=bs' hh
  obtain ⟨x12,hx12,hh⟩:=bs' hh
  refine p' 3 rfl (g' [0] (S9 hx6) rfl rfl rfl rfl rfl rfl (n' (p' 4 rfl (g' [0] (Ud hx7) rfl rfl rfl rfl rfl rfl (n' (sg' 9 rfl (G' 6 rfl (a1' rfl (a1' rfl (po' rfl (an' (g' [0] (Z0 hx8) rfl rfl rfl rfl rfl rfl (n' ?_)))))))))))))
  refine sg' 15 rfl (G' 3 rfl (AG.c rfl rfl (fun _=>trivial) (fun _=>R3 hx9) (G' 2 rfl (a1' rfl (a1' rfl (a1' rfl (a1' rfl (a0' rfl (a1' rfl (AG.c rfl rfl (fun hg=>⟨hg,trivial⟩) (fun hw=>R3 (I1 hw hx10)) (pO' rfl (pa' rfl (an' ?_)))))))))))))
  refine g' [0] (R2 hx11) rfl rfl rfl rfl rfl rfl (n' (t' rfl (sg' 20 rfl (G' 4 rfl (a1' rfl (AG.qe hC rfl (fun hg=>⟨⟨hg,trivial⟩,trivial⟩) (D0.lenA _) (a1' rfl (a1' rfl (a0' rfl (a1' rfl (AG.qe hC rfl (fun hg=>⟨⟨hg,trivial⟩,trivial⟩) (D0.lenA _) (a1' rfl (pA' rfl ?_)))))))))))))
  refine a1' rfl (a0' rfl (a1' rfl (AG.qe hC rfl (fun hg=>⟨⟨hg,trivial⟩,trivial⟩) (C0.lenA _) (a1' rfl (pA' rfl (po' rfl (an' (g' [0] (Z0 hx12) rfl rfl rfl rfl rfl rfl (n' (S' (p' 2 rfl (qe' rfl trivial (D0.lenA _) (e' rfl ?_)))))))))))))
  exact bk' (fw' (ih3 _ _ _ _ _ _ hh) rfl rfl rfl)
 ·intro g3 g4 ih3 ih4 l o01 x1 v152 v109 res hh
  refine X0.unroll (t' rfl (S' (ci' rfl hh (fun hh=>?_) (fun hh=>?_))))
  ·obtain ⟨x13,hx13,hh⟩:=bs' hh
   obtain ⟨x14,hx14,hh⟩:=bs' hh
   refine sk' (S' (bk' (s' rfl rfl (i' rfl (T0 hx13) (D0.idx hx13) rfl (q' rfl (E0.nf hC rfl (E0.s hC rfl (n' (AEx.regionG 9 rfl (G' 6 rfl (a1' rfl (a1' rfl (pa' rfl ?_)))))))))))))
   exact an' (g' [0] (Z0 hx14) rfl rfl rfl rfl rfl rfl (n' (T' rfl (lw' (ih3 _ _ _ _ _ _ hh) rfl rfl rfl))))
  exact ex' (S' (p' 2 rfl (qe' rfl trivial (D0.lenA _) (e' rfl (bk' (fw' (ih4 _ _ _ _ _ _ hh) rfl rfl rfl))))))
 ·intro g0 g1 g4 ih0 ih1 ih4 l o02 x1 v153 v127 res hh
  refine X0.unroll (t' rfl (S' (ci' rfl hh (fun hh=>?_) (fun hh=>?_))))
  ·obtain ⟨x15,hx15,hh⟩:=bs' hh
   obtain ⟨x16,hx16,hh⟩:=bs' hh
   exact sk' (S' (bk' (s' rfl rfl (i' rfl (T0 hx15) (D0.idx hx15) rfl (q' rfl (E0.nf hC rfl (E0.s hC rfl (n' (P' 4 rfl (g' [0] (Z0 hx16) rfl rfl rfl rfl rfl rfl (n' (T' rfl (lw' (ih4 _ _ _ _ _ _ hh) rfl rfl rfl)))))))))))))
  obtain ⟨x17,hx17,hh⟩:=bs' hh
  obtain ⟨x18,hx18,hh⟩:=bs' hh
  obtain ⟨x19,hx19,hh⟩:=bs' hh
  exact ex' (p' 3 rfl (g' [0] (ih0 _ _ _ hx17) rfl rfl rfl rfl rfl rfl (n' (p' 3 rfl (g' [0] (ih0 _ _ _ hx18) rfl rfl rfl rfl rfl rfl (n' (P' 3 rfl (g' [0] (Hl hx19) rfl rfl rfl rfl rfl rfl (n' (T' rfl (lw' (ih1 _ _ _ _ hh) rfl rfl rfl)))))))))))
theorem Nw {l syntaxReport res}(hh:C5 l syntaxReport=some res):Rm l syntaxReport res:=(Cv).1 _ _ _ hh
def Bh (p:O0):Option F0:=
 C5 p.Decls (F0.mk 0 0 false false false)>>=fun x1=>
 Z2 p.Body 1 x1>>=fun x2=>
 some x2
theorem V16 {p res}(hh:Bh p=some res):L0 C 53 [.agg (O0.cells p)] [] (Ret [.dead,.row (F0.cells res) 135] (.ref 1 0)):=by
 unfold Bh at hh
 obtain ⟨x1,hx1,hh⟩:=bs' hh
 obtain ⟨x2,hx2,hh⟩:=bs' hh
 refine L0.intro hC Tryz.func53 rfl rfl rfl (s' rfl rfl (E0.n hC rfl (e' rfl (p' 1 rfl (E0.n hC rfl (e' rfl (p' 3 rfl (g' [1] (Nw hx1) rfl rfl rfl rfl rfl rfl (n' (p' 3 rfl (g' [1] (Hl hx2) rfl rfl rfl rfl rfl rfl (n' (t' rfl ?_)))))))))))))
 refine re' ?_
 obtain rfl:=oi' hh
 exact ⟨_,_,[.dead,.row (F0.cells x2) 135],rfl,.rfl,⟨trivial,⟨rfl,.refl _,rfl⟩,trivial⟩,rfl,rfl,rfl,rfl⟩
def M5 (syntaxReport:F0):Option Int:=
 if (bif (decide (syntaxReport.nodes > 1024)) then true else (decide (syntaxReport.depth > 12)))=true then
  some 4
 else
  if syntaxReport.badForm=true then
   some 1
  else
   if syntaxReport.badName=true then
    some 7
   else
    if syntaxReport.badNumber=true then
     some 3
    else
     some 0
theorem Ch {syntaxReport res}(hh:M5 syntaxReport=some res):L0 C 54 [.ref 0 0] [.row (F0.cells syntaxReport) 135] (Ret [.row (F0.cells syntaxReport) 135] (.d (.int .i64 res))):=by
 unfold M5 at hh
 refine L0.intro hC Tryz.func54 rfl rfl rfl (t' rfl (S' (bk' (sg' 13 rfl (G' 7 rfl (a1' rfl (a1' rfl (a1' rfl (a1' rfl (po' rfl (a0' rfl (an' (n' (ci' rfl hh (fun hh=>?_) (fun hh=>?_)))))))))))))))
 ·cases hh
  exact t' rfl (re' (rt' rfl rfl rfl))
 refine t' rfl (ci' rfl hh (fun hh=>?_) (fun hh=>?_))
 ·cases hh
  exact t' rfl (re' (rt' rfl rfl rfl))
 refine t' rfl (ci' rfl hh (fun hh=>?_) (fun hh=>?_))
 ·cases hh
  exact t' rfl (re' (rt' rfl rfl rfl))
 refine t' rfl (ci' rfl hh (fun hh=>?_) (fun hh=>?_))
 ·cases hh
  exact t' rfl (re' (rt' rfl rfl rfl))
 cases hh
 exact sk' (t' rfl (re' (rt' rfl rfl rfl)))
def Rj (p:O0):Option Int:=
 Bh p>>=fun x1=>
 M5 x1>>=fun x2=>
 some x2
theorem P1a {p res}(hh:Rj p=some res):L0 C 28 [.agg (O0.cells p)] [] (Ret [] (.d (.int .i64 res))):=by
 unfold Rj at hh
 obtain ⟨x1,hx1,hh⟩:=bs' hh
 obtain ⟨x2,hx2,hh⟩:=bs' hh
 cases hh
 exact L0.intro hC Tryz.func28 rfl rfl rfl (s' rfl rfl (E0.n hC rfl (e' rfl (p' 1 rfl (g' [] (V16 hx1) rfl rfl rfl rfl rfl rfl (g' [2] (Ch hx2) rfl rfl rfl rfl rfl rfl (e' rfl (re' (rt' rfl rfl rfl)))))))))
mutual
def I2 (c:J0)(m0:List (Str×Bool))(v18:Int):Option Int:=
 if (decide (v18 < ((c.p.Decls).length:Int)))=true then
  idx c.p.Decls v18>>=fun x1=>
  some (mgt x1.Name m0)>>=fun x2=>
  if (x2.getD ebool.zero)=true then
   some v18
  else
   N1 c (mpt x1.Name true m0) [] v18 v18 x1 0
 else
  some (-1)
 partial_fixpoint
def N1 (c:J0)(m01:List (Str×Bool))(m21:List (Str×Bool))(i:Int)(v181:Int)(x1:D0)(v38:Int):Option Int:=
 if (decide (v38 < (([x1.Params,x1.Vars]).length:Int)))=true then
  idx [x1.Params,x1.Vars] v38>>=fun x3=>
  P3 c m01 m21 i v181 x1 v38 x3 0
 else
  I2 c m01 (IntKind.i64.wrap (v181+1))
 partial_fixpoint
def P3 (c:J0)(m02:List (Str×Bool))(m2:List (Str×Bool))(i1:Int)(v182:Int)(x1:D0)(v381:Int)(x3:List D0)(v44:Int):Option Int:=
 if (decide (v44 < ((x3).length:Int)))=true then
  idx x3 v44>>=fun x4=>
  some (mgt x4.Name c.names)>>=fun x5=>
  some (mgt x4.Name m2)>>=fun x6=>
  if (bif (x5.getD ebool.zero) then true else (x6.getD ebool.zero))=true then
   some i1
  else
   P3 c m02 (mpt x4.Name true m2) i1 v182 x1 v381 x3 (IntKind.i64.wrap (v44+1))
 else
  N1 c m02 m2 i1 v182 x1 (IntKind.i64.wrap (v381+1))
 partial_fixpoint
end
abbrev Te (c:J0)(m0:List (Str×Bool))(v18:Int)(res:Int):Prop:=LM C 68 0 Tryz.f29 [1,1,0,1,4] [(0,.d (.box (J0.row c))),(3,.mp 0),(16,.d (.sl (D0.rows c.p.Decls))),(17,.d (.int .i64 ((c.p.Decls).length:Int))),(18,.d (.int .i64 v18))] [.map (.s (ebool.ents m0))] (Ret [] (.d (.int .i64 res)))
abbrev Im (c:J0)(m01:List (Str×Bool))(m21:List (Str×Bool))(i:Int)(v181:Int)(x1:D0)(v38:Int)(res:Int):Prop:=LM C 68 0 Tryz.f29 [1,1,0,1,4,5,1,1,0,4,1,1,1,1,1,4] [(0,.d (.box (J0.row c))),(3,.mp 0),(4,.d (.int .i64 i)),(6,.mp 2),(16,.d (.sl (D0.rows c.p.Decls))),(17,.d (.int .i64 ((c.p.Decls).length:Int))),(18,.d (.int .i64 v181)),(36,.full (esl_ApiDecl.rows [x1.Params,x1.Vars])),(37,.d (.int .i64 (([x1.Params,x1.Vars]).length:Int))),(38,.d (.int .i64 v38))] [.map (.s (ebool.ents m01)),.dead,.map (.s (ebool.ents m21))] (Ret [] (.d (.int .i64 res)))
abbrev Jm (c:J0)(m02:List (Str×Bool))(m2:List (Str×Bool))(i1:Int)(v182:Int)(x1:D0)(v381:Int)(x3:List D0)(v44:Int)(res:Int):Prop:=LM C 68 0 Tryz.f29 [1,1,0,1,4,5,1,1,0,4,1,1,1,1,1,4,5,1,1,0,4,1,1,4] [(0,.d (.box (J0.row c))),(3,.mp 0),(4,.d (.int .i64 i1)),(6,.mp 2),(16,.d (.sl (D0.rows c.p.Decls))),(17,.d (.int .i64 ((c.p.Decls).length:Int))),(18,.d (.int .i64 v182)),(36,.full (esl_ApiDecl.rows [x1.Params,x1.Vars])),(37,.d (.int .i64 (([x1.Params,x1.Vars]).length:Int))),(38,.d (.int .i64 v381)),(42,.d (.sl (D0.rows x3))),(43,.d (.int .i64 ((x3).length:Int))),(44,.d (.int .i64 v44))] [.map (.s (ebool.ents m02)),.dead,.map (.s (ebool.ents m2))] (Ret [] (.d (.int .i64 res)))
theorem Al (c:J0):(∀ m0 v18 res,I2 c m0 v18=some res→Te c m0 v18 res)∧(∀ m01 m21 i v181 x1 v38 res,N1 c m01 m21 i v181 x1 v38=some res→Im c m01 m21 i v181 x1 v38 res)∧(∀ m02 m2 i1 v182 x1 v381 x3 v44 res,P3 c m02 m2 i1 v182 x1 v381 x3 v44=some res→Jm c m02 m2 i1 v182 x1 v381 x3 v44 res):=by
 refine I2.mutual_partial_correctness c _ _ _ ?_ ?_ ?_
 ·intro g1 ih1 m0 v18 res hh
  refine X0.unroll (t' rfl (S' (ci' rfl hh (fun hh=>?_) (fun hh=>?_))))
  ·obtain ⟨x1,hx1,hh⟩:=bs' hh
   obtain ⟨x2,hx2,hh⟩:=bs' hh
   refine sk' (S' (bk' (p' 1 rfl (i' rfl (T0 hx1) (D0.idx hx1) rfl (q' rfl (E0.nf hC rfl (q' rfl (E0.s hC rfl (n' (S' (p' 3 rfl (E0.me hC rfl (ebool.lk hx2) (n' (ci' rfl hh (fun hh=>?_) (fun hh=>?_)))))))))))))))
   ·cases hh
    exact t' rfl (re' (rt' rfl rfl rfl))
   refine sk' (p' 3 rfl (E0.ue hC rfl (ebool.mput _ true _) rfl (n' (s' rfl rfl (E0.w rfl (e' rfl (p' 4 rfl (E0.be hC rfl (esl_ApiDecl.rows_map [x1.Params,x1.Vars]).symm (qe' rfl trivial (esl_ApiDecl.lenA _) (e' rfl (bk' ?_)))))))))))
   refine AEx.ofLoop ?_
   refine X0.wk ?_ (ih1 _ _ _ _ _ _ _ hh)
   exact ⟨⟨⟨.rfl,rfl⟩,⟨.rfl,rfl⟩,⟨.rfl,rfl⟩,⟨.rfl,rfl⟩,⟨.rfl,rfl⟩,⟨.rfl,rfl⟩,⟨.rfl,rfl⟩,⟨.rfl,rfl⟩,⟨.rfl,rfl⟩,⟨.rfl,rfl⟩,trivial⟩,⟨rfl,trivial,rfl,trivial⟩,rfl⟩
  cases hh
  exact ex' (t' rfl (re' (rt' rfl rfl rfl)))
 ·intro g0 g2 ih0 ih2 m01 m21 i v181 x1 v38 res hh
  refine X0.unroll (t' rfl (S' (ci' rfl hh (fun hh=>?_) (fun hh=>?_))))
  ·obtain ⟨x3,hx3,hh⟩:=bs' hh
   refine sk' (S' (bk' (s' rfl rfl (i' rfl (T0 hx3) (esl_ApiDecl.idx hx3) rfl (e' rfl (p' 1 rfl (qe' rfl trivial (D0.lenA _) (e' rfl (bk' ?_)))))))))
   refine AEx.ofLoop ?_
   refine X0.wk ?_ (ih2 _ _ _ _ _ _ _ _ _ hh)
   exact ⟨⟨⟨.rfl,rfl⟩,⟨.rfl,rfl⟩,⟨.rfl,rfl⟩,⟨.rfl,rfl⟩,⟨.rfl,rfl⟩,⟨.rfl,rfl⟩,⟨.rfl,rfl⟩,⟨.rfl,rfl⟩,⟨.rfl,rfl⟩,⟨.rfl,rfl⟩,⟨.rfl,rfl⟩,⟨.rfl,rfl⟩,⟨.rfl,rfl⟩,trivial⟩,⟨rfl,trivial,rfl,trivial⟩,rfl⟩
  exact ex' (T' rfl (lw' (ih0 _ _ _ hh) rfl rfl rfl))
 ·intro g1 g2 ih1 ih2 m02 m2 i1 v182 x1 v381 x3 v44 res hh
  refine X0.unroll (t' rfl (S' (ci' rfl hh (fun hh=>?_) (fun hh=>?_))))
  ·obtain ⟨x4,hx4,hh⟩:=bs' hh
   obtain ⟨x5,hx5,hh⟩:=bs' hh
   obtain ⟨x6,hx6,hh⟩:=bs' hh
   refine sk' (S' (bk' (s' rfl rfl (i' rfl (T0 hx4) (D0.idx hx4) rfl (q' rfl (E0.nf hC rfl (E0.s hC rfl (n' (S' (S' (AEx.drawG hC 13 rfl rfl rfl (G' 6 rfl (AG.fl hC rfl rfl (fun _=>trivial) (fun _=>rfl) (ebool.lk hx5) ?_)))))))))))))
   refine G' 3 rfl (a1' rfl (AG.me hC rfl rfl (fun hg=>⟨hg,hg,trivial⟩) (ebool.lk hx6) (po' rfl (an' (n' (ci' rfl hh (fun hh=>?_) (fun hh=>?_)))))))
   ·cases hh
    exact t' rfl (re' (rt' rfl rfl rfl))
   refine sk' (P' 3 rfl (E0.ue hC rfl (ebool.mput _ true _) rfl (n' (T' rfl ?_))))
   refine X0.wk ?_ (ih2 _ _ _ _ _ _ _ _ _ hh)
   exact ⟨⟨⟨.rfl,rfl⟩,⟨.rfl,rfl⟩,⟨.rfl,rfl⟩,⟨.rfl,rfl⟩,⟨.rfl,rfl⟩,⟨.rfl,rfl⟩,⟨.rfl,rfl⟩,⟨.rfl,rfl⟩,⟨.rfl,rfl⟩,⟨.rfl,rfl⟩,⟨.rfl,rfl⟩,⟨.rfl,rfl⟩,⟨.rfl,rfl⟩,trivial⟩,⟨rfl,trivial,rfl,trivial⟩,rfl⟩
  refine ex' (T' rfl ?_)
  refine X0.wk ?_ (ih1 _ _ _ _ _ _ _ hh)
  exact ⟨⟨⟨.rfl,rfl⟩,⟨.rfl,rfl⟩,⟨.rfl,rfl⟩,⟨.rfl,rfl⟩,⟨.rfl,rfl⟩,⟨.rfl,rfl⟩,⟨.rfl,rfl⟩,⟨.rfl,rfl⟩,⟨.rfl,rfl⟩,⟨.rfl,rfl⟩,trivial⟩,⟨rfl,trivial,rfl,trivial⟩,rfl⟩
theorem Il {c m0 v18 res}(hh:I2 c m0 v18=some res):Te c m0 v18 res:=(Al c).1 _ _ _ hh
def N5 (c:J0):Option Int:=
 I2 c [] 0
theorem Ln {c res}(hh:N5 c=some res):L0 C 29 [.d (.box (J0.row c))] [] (Ret [] (.d (.int .i64 res))):=by
 unfold N5 at hh
 exact L0.intro hC Tryz.func29 rfl rfl rfl (t' rfl (s' rfl rfl (E0.w rfl (e' rfl (S' (p' 5 rfl (qe' rfl trivial (D0.lenA _) (e' rfl (bk' (fw' (Il hh) rfl rfl rfl))))))))))
def Yb (t:A0):Option Int:=
 G4 t 1 (F0.mk 0 0 false false false)>>=fun x1=>
 M5 x1>>=fun x2=>
 some x2
theorem Xo {t res}(hh:Yb t=some res):L0 C 185 [.agg (A0.cells t)] [] (Ret [] (.d (.int .i64 res))):=by
 unfold Yb at hh
 obtain ⟨x1,hx1,hh⟩:=bs' hh
 obtain ⟨x2,hx2,hh⟩:=bs' hh
 cases hh
 exact L0.intro hC Tryz.func185 rfl rfl rfl (s' rfl rfl (E0.n hC rfl (e' rfl (p' 1 rfl (E0.n hC rfl (e' rfl (p' 2 rfl (g' [1] (Jn hx1) rfl rfl rfl rfl rfl rfl (n' (p' 1 rfl (g' [1] (Ch hx2) rfl rfl rfl rfl rfl rfl (e' rfl (re' (rt' rfl rfl rfl))))))))))))))
mutual
def L4 (t:A0)(m:List (Str×A0)):Option (A0×Bool):=
 if (t.Kind == 4)=true then
  some (mgt t.Name m)>>=fun x1=>
  if (!x1.isSome)=true then
   some ((A0.mk 0 0 0 0 [] [] []),false)
  else
   Za m (x1.getD A0.zero)
 else
  Za m t
 partial_fixpoint
def Za (m:List (Str×A0))(o1:A0):Option (A0×Bool):=
 K9 o1.Names>>=fun x2=>
 D5 m o1 x2 [] 0
 partial_fixpoint
def D5 (m:List (Str×A0))(o1:A0)(x2:List Str)(o3_Of:List A0)(v36:Int):Option (A0×Bool):=
 if (decide (v36 < ((o1.Of).length:Int)))=true then
  idx o1.Of v36>>=fun x3=>
  L4 x3 m>>=fun x4=>
  if (!x4.2)=true then
   some ((A0.mk 0 0 0 0 [] [] []),false)
  else
   if (decide ((o3_Of.length+1) * 97≤140737488355328))=true then
    D5 m o1 x2 (o3_Of++[x4.1]) (IntKind.i64.wrap (v36+1))
   else none
 else
  some ((A0.mk o1.Kind o1.Low o1.High o1.Size o1.Name x2 o3_Of),true)
 partial_fixpoint
end
abbrev Wt (t:A0)(m:List (Str×A0))(res:A0×Bool):Prop:=L0 C 211 [.mp 0,.agg (A0.cells t)] [.map (.s (A0.ents m))] (Ret [.map (.s (A0.ents m))] (.tup [.agg (A0.cells res.1),.d (.bool res.2)]))
abbrev B12 (m:List (Str×A0))(o1:A0)(res:A0×Bool):Prop:=JM C 57 1 Tryz.f211 [1,1] [(0,.mp 0),(3,.ref 1 0),(4,.ref 2 0)] [.map (.s (A0.ents m)),.row (A0.cells o1) 40,.row [.d (.int .i64 0),.d (.int .i64 0),.d (.int .i64 0),.d (.int .i64 0),.d (.str []),.full (estr.rows []),.full (A0.rows [])] 40] (Ret [.map (.s (A0.ents m))] (.tup [.agg (A0.cells res.1),.d (.bool res.2)]))
abbrev C12 (m:List (Str×A0))(o1:A0)(x2:List Str)(o3_Of:List A0)(v36:Int)(res:A0×Bool):Prop:=LM C 57 1 Tryz.f211 [1,1,1,1,1,0,1,4] [(0,.mp 0),(4,.ref 2 0),(8,.ref 3 0),(34,.d (.sl (A0.rows o1.Of))),(35,.d (.int .i64 ((o1.Of).length:Int))),(36,.d (.int .i64 v36))] [.map (.s (A0.ents m)),.dead,.row [.d (.int .i64 0),.d (.int .i64 0),.d (.int .i64 0),.d (.int .i64 0),.d (.str []),.full (estr.rows []),.full (A0.rows [])] 40,.row [.d (.int .i64 o1.Kind),.d (.int .i64 o1.Low),.d (.int .i64 o1.High),.d (.int .i64 o1.Size),.d (.str o1.Name),.d (.sl (estr.rows x2)),.osl 4 (A0.rows o3_Of)] 40,.tok 40 7] (Ret [.map (.s (A0.ents m))] (.tup [.agg (A0.cells res.1),.d (.bool res.2)]))
theorem K14 (m:List (Str×A0)):(∀ t res,L4 t m=some res→Wt t m res)∧(∀ o1 res,Za m o1=some res→B12 m o1 res)∧(∀ o1 x2 o3_Of v36 res,D5 m o1 x2 o3_Of v36=some res→C12 m o1 x2 o3_Of v36 res):=by
 refine L4.mutual_partial_correctness m _ _ _ ?_ ?_ ?_
 ·intro g1 ih1 t res hh
  refine L0.intro hC Tryz.func211 rfl rfl rfl (s' rfl rfl (E0.n hC rfl (E0.nf hC rfl (e' rfl (S' (t' rfl (ci' rfl hh (fun hh=>?_) (fun hh=>?_))))))))
  ·obtain ⟨x1,hx1,hh⟩:=bs' hh
   refine p' 3 rfl (E0.me hC rfl (A0.lkT hx1) (o' 3 rfl (E0.nf hC rfl (E0.s hC rfl (e' rfl (S' (t' rfl (ci' rfl hh (fun hh=>?_) (fun hh=>?_)))))))))
   ·cases hh
    exact p' 1 rfl (E0.s hC rfl (e' rfl (re' (rt' rfl rfl rfl))))
   exact sk' (P' 1 rfl (E0.s hC rfl (n' (ew' (ih1 _ _ hh) rfl rfl rfl))))
  exact sk' (ew' (ih1 _ _ hh) rfl rfl rfl)
 ·intro g2 ih2 o1 res hh
  obtain ⟨x2,hx2,hh⟩:=bs' hh
  refine p' 1 rfl (E0.nf hC rfl (E0.s hC rfl (n' (p' 2 rfl (c' (Mo hx2) rfl rfl (q' rfl (E0.s hC rfl (n' (p' 1 rfl (E0.s hC rfl (E0.tokC 3 6 40 7 rfl rfl rfl rfl rfl (n' (S' ?_)))))))))))))
  refine p' 2 rfl (qe' rfl trivial (A0.lenA _) (e' rfl (bk' ?_)))
  refine AEx.ofLoop ?_
  refine X0.wk ?_ (ih2 _ _ _ _ _ hh)
  exact ⟨⟨⟨.rfl,rfl⟩,⟨.rfl,rfl⟩,⟨.rfl,rfl⟩,⟨.rfl,rfl⟩,⟨.rfl,rfl⟩,⟨.rfl,rfl⟩,trivial⟩,⟨rfl,trivial,⟨rfl,.refl _,rfl⟩,⟨rfl,.refl _,rfl⟩,rfl,trivial⟩,rfl⟩
 ·intro g0 g2 ih0 ih2 o1 x2 o3_Of v36 res hh
  refine X0.unroll (t' rfl (S' (ci' rfl hh (fun hh=>?_) (fun hh=>?_))))
  ·obtain ⟨x3,hx3,hh⟩:=bs' hh
   obtain ⟨x4,hx4,hh⟩:=bs' hh
   refine sk' (S' (bk' (s' rfl rfl (i' rfl (T0 hx3) (A0.idx hx3) rfl (q' rfl (E0.nf hC rfl (E0.s hC rfl (n' (p' 2 rfl (g' [0] (ih0 _ _ hx4) rfl rfl rfl rfl rfl rfl (o' 3 rfl (E0.nf hC rfl (E0.s hC rfl ?_)))))))))))))
   refine e' rfl (S' (t' rfl (ci' rfl hh (fun hh=>?_) (fun hh=>?_))))
   ·cases hh
    exact p' 1 rfl (E0.s hC rfl (e' rfl (re' (rt' rfl rfl rfl))))
   obtain ⟨c7,hh⟩:=J1 hh
   refine sk' (P' 3 rfl (E0.be hC rfl (A0.rows_map [x4.1]).symm (E0.ap hC rfl (rs:=A0.rows (o3_Of++[x4.1])) (A0.app o3_Of [x4.1]) (A0.sz o3_Of) (A0.sz [x4.1]) (E3 (A0.len o3_Of) (A0.len [x4.1]) c7) (q' rfl (E0.s hC rfl (n' (T' rfl ?_)))))))
   refine X0.wk ?_ (ih2 _ _ _ _ _ hh)
   exact ⟨⟨⟨.rfl,rfl⟩,⟨.rfl,rfl⟩,⟨.rfl,rfl⟩,⟨.rfl,rfl⟩,⟨.rfl,rfl⟩,⟨.rfl,rfl⟩,trivial⟩,⟨rfl,trivial,⟨rfl,.refl _,rfl⟩,⟨rfl,.refl _,rfl⟩,rfl,trivial⟩,rfl⟩
  refine ex' (p' 1 rfl (E0.s hC rfl (e' rfl (re' ?_))))
  obtain rfl:=oi' hh
  exact ⟨_,.tup [.agg [.d (.int .i64 o1.Kind),.d (.int .i64 o1.Low),.d (.int .i64 o1.High),.d (.int .i64 o1.Size),.d (.str o1.Name),.d (.sl (estr.rows x2)),.d (.sl (A0.rows o3_Of))],.d (.bool true)],[.map (.s (A0.ents m))],rfl,(.tupL ⟨(.aggL ⟨.rfl,.rfl,.rfl,.rfl,.rfl,.rfl,.osl,trivial⟩),.rfl,trivial⟩),⟨rfl,trivial⟩,rfl,rfl,rfl,rfl⟩
theorem W16 {t m res}(hh:L4 t m=some res):Wt t m res:=(K14 m).1 _ _ hh
def L2 (s:List Str)(v:Str)(v8:Int):Option Int:=
 if (decide (v8 < ((s).length:Int)))=true then
  idx s v8>>=fun x1=>
  if (v == x1)=true then
   some v8
  else
   L2 s v (IntKind.i64.wrap (v8+1))
 else
  some (-1)
 partial_fixpoint
abbrev Cf (s:List Str)(v:Str)(v8:Int)(res:Int):Prop:=LM C 19 0 Tryz.f232 [1,0,1,4] [(0,.d (.sl (estr.rows s))),(1,.d (.str v)),(7,.d (.int .i64 ((s).length:Int))),(8,.d (.int .i64 v8))] [] (Ret [] (.d (.int .i64 res)))
theorem Jl (s:List Str)(v:Str):(∀ v8 res,L2 s v v8=some res→Cf s v v8 res):=by
 refine L2.partial_correctness s v _ ?_
 ·intro g0 ih0 v8 res hh
  refine X0.unroll (t' rfl (S' (ci' rfl hh (fun hh=>?_) (fun hh=>?_))))
  ·obtain ⟨x1,hx1,hh⟩:=bs' hh
   refine sk' (S' (bk' (t' rfl (p' 3 rfl (i' rfl (T0 hx1) (estr.idx hx1) rfl (e' rfl (ci' rfl hh (fun hh=>?_) (fun hh=>?_))))))))
   ·cases hh
    exact t' rfl (re' (rt' rfl rfl rfl))
   exact sk' (T' rfl (lw' (ih0 _ _ hh) rfl rfl rfl))
  cases hh
  exact ex' (t' rfl (re' (rt' rfl rfl rfl)))
theorem Km {s v v8 res}(hh:L2 s v v8=some res):Cf s v v8 res:=(Jl s v) _ _ hh
def L9 (s:List Str)(v:Str):Option Int:=
 L2 s v 0
theorem Oo {s v res}(hh:L9 s v=some res):L0 C 232 [.d (.sl (estr.rows s)),.d (.str v)] [] (Ret [] (.d (.int .i64 res))):=by
 unfold L9 at hh
 exact L0.intro hC Tryz.func232 rfl rfl rfl (t' rfl (S' (p' 1 rfl (qe' rfl trivial (estr.lenA _) (e' rfl (bk' (fw' (Km hh) rfl rfl rfl)))))))
def Z4 (s:List Str)(v:Str):Option Bool:=
 L9 s v>>=fun x1=>
 some (decide (x1≥0))
theorem Lm {s v res}(hh:Z4 s v=some res):L0 C 226 [.d (.sl (estr.rows s)),.d (.str v)] [] (Ret [] (.d (.bool res))):=by
 unfold Z4 at hh
 obtain ⟨x1,hx1,hh⟩:=bs' hh
 cases hh
 exact L0.intro hC Tryz.func226 rfl rfl rfl (t' rfl (p' 2 rfl (c' (Oo hx1) rfl rfl (e' rfl (re' (rt' rfl rfl rfl))))))
mutual
def Gc (t:A0):Option Bool:=
 Ie t 0
 partial_fixpoint
def Ie (t:A0)(v8:Int):Option Bool:=
 if (decide (v8 < ((t.Names).length:Int)))=true then
  idx t.Names v8>>=fun x1=>
  slc t.Names 0 v8>>=fun x2=>
  Z4 x2 x1>>=fun x3=>
  if x3=true then
   some true
  else
   Ie t (IntKind.i64.wrap (v8+1))
 else
  G3 t.Of>>=fun x4=>
  some x4
 partial_fixpoint
def G3 (s:List A0):Option Bool:=
 H8 s>>=fun x1=>
 some (decide (x1≥0))
 partial_fixpoint
def H8 (s:List A0):Option Int:=
 Q2 s 0
 partial_fixpoint
def Q2 (s:List A0)(v8:Int):Option Int:=
 if (decide (v8 < ((s).length:Int)))=true then
  idx s v8>>=fun x1=>
  Gc x1>>=fun x2=>
  if x2=true then
   some v8
  else
   Q2 s (IntKind.i64.wrap (v8+1))
 else
  some (-1)
 partial_fixpoint
end
abbrev O11 (t:A0)(res:Bool):Prop:=L0 C 212 [.agg (A0.cells t)] [] (Ret [] (.d (.bool res)))
abbrev E18 (t:A0)(v8:Int)(res:Bool):Prop:=LM C 23 0 Tryz.f212 [1,0,1,4] [(1,.ref 0 0),(6,.d (.sl (estr.rows t.Names))),(7,.d (.int .i64 ((t.Names).length:Int))),(8,.d (.int .i64 v8))] [.row (A0.cells t) 40] (Ret [] (.d (.bool res)))
abbrev Ji (s:List A0)(res:Bool):Prop:=L0 C 227 [.d (.sl (A0.rows s)),.clo 212 []] [] (Ret [] (.d (.bool res)))
abbrev Sj (s:List A0)(res:Int):Prop:=L0 C 233 [.d (.sl (A0.rows s)),.clo 212 []] [] (Ret [] (.d (.int .i64 res)))
abbrev Ki (s:List A0)(v8:Int)(res:Int):Prop:=LM C 19 0 Tryz.f233 [1,0,1,4] [(0,.d (.sl (A0.rows s))),(1,.clo 212 []),(7,.d (.int .i64 ((s).length:Int))),(8,.d (.int .i64 v8))] [] (Ret [] (.d (.int .i64 res)))
theorem Q1a:(∀ t res,Gc t=some res→O11 t res)∧(∀ t v8 res,Ie t v8=some res→E18 t v8 res)∧(∀ s res,G3 s=some res→Ji s res)∧(∀ s res,H8 s=some res→Sj s res)∧(∀ s v8 res,Q2 s v8=some res→Ki s v8 res):=by
 refine Gc.mutual_partial_correctness _ _ _ _ _ ?_ ?_ ?_ ?_ ?_
 ·intro g1 ih1 t res hh
  exact L0.intro hC Tryz.func212 rfl rfl rfl (s' rfl rfl (E0.n hC rfl (e' rfl (S' (p' 2 rfl (qe' rfl trivial (estr.lenA _) (e' rfl (bk' (fw' (ih1 _ _ _ hh) rfl rfl rfl)))))))))
 ·intro g1 g2 ih1 ih2 t v8 res hh
  refine X0.unroll (t' rfl (S' (ci' rfl hh (fun hh=>?_) (fun hh=>?_))))
  ·obtain ⟨x1,hx1,hh⟩:=bs' hh
   obtain ⟨x2,hx2,hh⟩:=bs' hh
   obtain ⟨x3,hx3,hh⟩:=bs' hh
   refine sk' (S' (bk' (p' 1 rfl (i' rfl (T0 hx1) (estr.idx hx1) rfl (e' rfl (p' 3 rfl (E0.dx hC rfl (estr.part hx2) (estr.sz _) (q' rfl (c' (Lm hx3) rfl rfl (n' (ci' rfl hh (fun hh=>?_) (fun hh=>?_))))))))))))
   ·cases hh
    exact t' rfl (re' (rt' rfl rfl rfl))
   exact sk' (T' rfl (lw' (ih1 _ _ _ hh) rfl rfl rfl))
  obtain ⟨x4,hx4,hh⟩:=bs' hh
  cases hh
  exact ex' (p' 2 rfl (c' (ih2 _ _ hx4) rfl rfl (e' rfl (re' (rt' rfl rfl rfl)))))
 ·intro g3 ih3 s res hh
  obtain ⟨x1,hx1,hh⟩:=bs' hh
  cases hh
  exact L0.intro hC Tryz.func227 rfl rfl rfl (t' rfl (p' 2 rfl (c' (ih3 _ _ hx1) rfl rfl (e' rfl (re' (rt' rfl rfl rfl))))))
 ·intro g4 ih4 s res hh
  exact L0.intro hC Tryz.func233 rfl rfl rfl (t' rfl (S' (p' 1 rfl (qe' rfl trivial (A0.lenA _) (e' rfl (bk' (fw' (ih4 _ _ _ hh) rfl rfl rfl)))))))
 ·intro g0 g4 ih0 ih4 s v8 res hh
  refine X0.unroll (t' rfl (S' (ci' rfl hh (fun hh=>?_) (fun hh=>?_))))
  ·obtain ⟨x1,hx1,hh⟩:=bs' hh
   obtain ⟨x2,hx2,hh⟩:=bs' hh
   refine sk' (S' (bk' (t' rfl (p' 3 rfl (i' rfl (T0 hx1) (A0.idx hx1) rfl (q' rfl (c' (ih0 _ _ hx2) rfl rfl (n' (ci' rfl hh (fun hh=>?_) (fun hh=>?_))))))))))
   ·cases hh
    exact t' rfl (re' (rt' rfl rfl rfl))
   exact sk' (T' rfl (lw' (ih4 _ _ _ hh) rfl rfl rfl))
  cases hh
  exact ex' (t' rfl (re' (rt' rfl rfl rfl)))
theorem Ay {t res}(hh:Gc t=some res):O11 t res:=(Q1a).1 _ _ hh
mutual
def Ee (t:A0):Option Int:=
 Je t 0 0
 partial_fixpoint
def Je (t:A0)(d:Int)(v9:Int):Option Int:=
 if (decide (v9 < ((t.Of).length:Int)))=true then
  idx t.Of v9>>=fun x1=>
  Ee x1>>=fun x2=>
  Je t (max d x2) (IntKind.i64.wrap (v9+1))
 else
  some (IntKind.i64.wrap (d+1))
 partial_fixpoint
end
abbrev P11 (t:A0)(res:Int):Prop:=L0 C 213 [.agg (A0.cells t)] [] (Ret [] (.d (.int .i64 res)))
abbrev F18 (t:A0)(d:Int)(v9:Int)(res:Int):Prop:=LM C 20 0 Tryz.f213 [1,1,0,1,4] [(3,.d (.int .i64 d)),(7,.d (.sl (A0.rows t.Of))),(8,.d (.int .i64 ((t.Of).length:Int))),(9,.d (.int .i64 v9))] [] (Ret [] (.d (.int .i64 res)))
theorem R1a:(∀ t res,Ee t=some res→P11 t res)∧(∀ t d v9 res,Je t d v9=some res→F18 t d v9 res):=by
 refine Ee.mutual_partial_correctness _ _ ?_ ?_
 ·intro g1 ih1 t res hh
  exact L0.intro hC Tryz.func213 rfl rfl rfl (s' rfl rfl (E0.n hC rfl (e' rfl (t' rfl (S' (p' 2 rfl (qe' rfl trivial (A0.lenA _) (e' rfl (bk' (fw' (ih1 _ _ _ _ hh) rfl rfl rfl))))))))))
 ·intro g0 g1 ih0 ih1 t d v9 res hh
  refine X0.unroll (t' rfl (S' (ci' rfl hh (fun hh=>?_) (fun hh=>?_))))
  ·obtain ⟨x1,hx1,hh⟩:=bs' hh
   obtain ⟨x2,hx2,hh⟩:=bs' hh
   exact sk' (S' (bk' (s' rfl rfl (i' rfl (T0 hx1) (A0.idx hx1) rfl (q' rfl (E0.nf hC rfl (E0.s hC rfl (n' (P' 2 rfl (c' (ih0 _ _ hx2) rfl rfl (e' rfl (T' rfl (lw' (ih1 _ _ _ _ hh) rfl rfl rfl)))))))))))))
  cases hh
  exact ex' (t' rfl (re' (rt' rfl rfl rfl)))
theorem Z1b {t res}(hh:Ee t=some res):P11 t res:=(R1a).1 _ _ hh
mutual
def Oa (t:A0):Option Int:=
 if (t.Kind == 2)=true then
  idx t.Of 0>>=fun x1=>
  Oa x1>>=fun x3=>
  some (min (IntKind.i64.wrap ((min t.Size 33) * x3)) 33)
 else
  if (t.Kind == 3)=true then
   Ke t 0 0
  else
   some (min 1 33)
 partial_fixpoint
def Ke (t:A0)(n:Int)(v24:Int):Option Int:=
 if (decide (v24 < ((t.Of).length:Int)))=true then
  idx t.Of v24>>=fun x2=>
  Oa x2>>=fun x4=>
  Ke t (IntKind.i64.wrap (n+x4)) (IntKind.i64.wrap (v24+1))
 else
  some (min n 33)
 partial_fixpoint
end
abbrev Q11 (t:A0)(res:Int):Prop:=L0 C 214 [.agg (A0.cells t)] [] (Ret [] (.d (.int .i64 res)))
abbrev G18 (t:A0)(n:Int)(v24:Int)(res:Int):Prop:=LM C 35 0 Tryz.f214 [1,1,0,1,4,1,3,1,2,1,4] [(3,.d (.int .i64 n)),(22,.d (.sl (A0.rows t.Of))),(23,.d (.int .i64 ((t.Of).length:Int))),(24,.d (.int .i64 v24))] [] (Ret [] (.d (.int .i64 res)))
theorem S1a:(∀ t res,Oa t=some res→Q11 t res)∧(∀ t n v24 res,Ke t n v24=some res→G18 t n v24 res):=by
 refine Oa.mutual_partial_correctness _ _ ?_ ?_
 ·intro g0 g1 ih0 ih1 t res hh
  refine L0.intro hC Tryz.func214 rfl rfl rfl (s' rfl rfl (E0.n hC rfl (e' rfl (t' rfl (S' (t' rfl (bk' (t' rfl (ci' rfl hh (fun hh=>?_) (fun hh=>?_))))))))))
  ·obtain ⟨x1,hx1,hh⟩:=bs' hh
   obtain ⟨x3,hx3,hh⟩:=bs' hh
   cases hh
   exact AEx.draw hC 10 rfl rfl rfl (O' 5 rfl (AQ.i hC rfl (T0 hx1) (A0.idx hx1) rfl (Q' rfl (Qc' (ih0 _ _ hx3) rfl rfl (E' rfl (n' (t' rfl (re' (rt' rfl rfl rfl)))))))))
  refine t' rfl (ci' rfl hh (fun hh=>?_) (fun hh=>?_))
  ·exact p' 2 rfl (qe' rfl trivial (A0.lenA _) (e' rfl (bk' (fw' (ih1 _ _ _ _ hh) rfl rfl rfl))))
  cases hh
  exact T' rfl (t' rfl (re' (rt' rfl rfl rfl)))
 ·intro g0 g1 ih0 ih1 t n v24 res hh
  refine X0.unroll (t' rfl (S' (ci' rfl hh (fun hh=>?_) (fun hh=>?_))))
  ·obtain ⟨x2,hx2,hh⟩:=bs' hh
   obtain ⟨x4,hx4,hh⟩:=bs' hh
   exact sk' (S' (bk' (s' rfl rfl (i' rfl (T0 hx2) (A0.idx hx2) rfl (q' rfl (E0.nf hC rfl (E0.s hC rfl (n' (P' 2 rfl (c' (ih0 _ _ hx4) rfl rfl (e' rfl (T' rfl (lw' (ih1 _ _ _ _ hh) rfl rfl rfl)))))))))))))
  cases hh
  exact ex' (t' rfl (re' (rt' rfl rfl rfl)))
theorem Cy {t res}(hh:Oa t=some res):Q11 t res:=(S1a).1 _ _ hh
def Le (t:A0)(m:List (Str×A0)):Option (A0×Int):=
 Yb t>>=fun x1=>
 if (x1 != 0)=true then
  some ((A0.mk 0 0 0 0 [] [] []),x1)
 else
  L4 t m>>=fun x2=>
  if (!x2.2)=true then
   some ((A0.mk 0 0 0 0 [] [] []),7)
  else
   Gc x2.1>>=fun x3=>
   if x3=true then
    some ((A0.mk 0 0 0 0 [] [] []),8)
   else
    Ee x2.1>>=fun x4=>
    (if (!(decide (x4 > 12)))=true then Oa x2.1 else some default)>>=fun x5=>
    if (bif (decide (x4 > 12)) then true else (decide (x5 > 32)))=true then
     some ((A0.mk 0 0 0 0 [] [] []),4)
    else
     some (x2.1,0)
theorem Pr {t m res}(hh:Le t m=some res):L0 C 180 [.mp 0,.agg (A0.cells t)] [.map (.s (A0.ents m))] (Ret [.map (.s (A0.ents m))] (.tup [.agg (A0.cells res.1),.d (.int .i64 res.2)])):=by
 unfold Le at hh
 obtain ⟨x1,hx1,hh⟩:=bs' hh
 refine L0.intro hC Tryz.func180 rfl rfl rfl (s' rfl rfl (E0.n hC rfl (E0.nf hC rfl (e' rfl (S' (p' 1 rfl (c' (Xo hx1) rfl rfl (e' rfl (t' rfl (ci' rfl hh (fun hh=>?_) (fun hh=>?_)))))))))))
 ·cases hh
  exact p' 2 rfl (E0.s hC rfl (e' rfl (re' (rt' rfl rfl rfl))))
 obtain ⟨x2,hx2,hh⟩:=bs' hh
 refine sk' (p' 2 rfl (g' [0] (W16 hx2) rfl rfl rfl rfl rfl rfl (o' 3 rfl (E0.nf hC rfl (E0.s hC rfl (e' rfl (S' (t' rfl (ci' rfl hh (fun hh=>?_) (fun hh=>?_))))))))))
 ·cases hh
  exact p' 1 rfl (E0.s hC rfl (e' rfl (re' (rt' rfl rfl rfl))))
 obtain ⟨x3,hx3,hh⟩:=bs' hh
 refine sk' (S' (p' 1 rfl (c' (Ay hx3) rfl rfl (n' (ci' rfl hh (fun hh=>?_) (fun hh=>?_))))))
 ·cases hh
  exact p' 1 rfl (E0.s hC rfl (e' rfl (re' (rt' rfl rfl rfl))))
 obtain ⟨x4,hx4,hh⟩:=bs' hh
 obtain ⟨x5,hx5,hh⟩:=bs' hh
 refine sk' (S' (sg' 8 rfl (a0' rfl (AG.c rfl rfl (fun _=>trivial) (fun _=>Z1b hx4) (G' 3 rfl (AG.c rfl rfl (fun hg=>⟨hg,trivial⟩) (fun hw=>Cy (I1 hw hx5)) (a1' rfl (po' rfl (an' (n' (ci' rfl hh (fun hh=>?_) (fun hh=>?_))))))))))))
 ·cases hh
  exact p' 1 rfl (E0.s hC rfl (e' rfl (re' (rt' rfl rfl rfl))))
 cases hh
 exact sk' (p' 1 rfl (E0.s hC rfl (e' rfl (re' (rt' rfl rfl rfl)))))
def V6 (decls:List D0)(t:A0)(m2:List (Str×A0))(v16:Int):Option (A0×Int):=
 if (decide (v16 < ((decls).length:Int)))=true then
  idx decls v16>>=fun x1=>
  if (x1.Kind != 0)=true then
   V6 decls t m2 (IntKind.i64.wrap (v16+1))
  else
   Jf x1.Name>>=fun x2=>
   if (!x2)=true then
    some ((A0.mk 0 0 0 0 [] [] []),7)
   else
    some (mgt x1.Name m2)>>=fun x3=>
    if x3.isSome=true then
     some ((A0.mk 0 0 0 0 [] [] []),8)
    else
     Le x1.TypeV m2>>=fun x4=>
     if (x4.2 != 0)=true then
      some ((A0.mk 0 0 0 0 [] [] []),x4.2)
     else
      V6 decls t (mpt x1.Name x4.1 m2) (IntKind.i64.wrap (v16+1))
 else
  Le t m2>>=fun x5=>
  some (x5.1,x5.2)
 partial_fixpoint
abbrev Rr (decls:List D0)(t:A0)(m2:List (Str×A0))(v16:Int)(res:A0×Int):Prop:=LM C 58 0 Tryz.f110 [1,1,0,1,4] [(3,.ref 0 0),(4,.ref 1 0),(6,.mp 2),(14,.d (.sl (D0.rows decls))),(15,.d (.int .i64 ((decls).length:Int))),(16,.d (.int .i64 v16))] [.row (A0.cells t) 40,.row [.d (.int .i64 0),.d (.int .i64 0),.d (.int .i64 0),.d (.int .i64 0),.d (.str []),.full (estr.rows []),.full (A0.rows [])] 40,.map (.s (A0.ents m2))] (Ret [] (.tup [.agg (A0.cells res.1),.d (.int .i64 res.2)]))
theorem D12 (decls:List D0)(t:A0):(∀ m2 v16 res,V6 decls t m2 v16=some res→Rr decls t m2 v16 res):=by
 refine V6.partial_correctness decls t _ ?_
 ·intro g0 ih0 m2 v16 res hh
  refine X0.unroll (t' rfl (S' (ci' rfl hh (fun hh=>?_) (fun hh=>?_))))
  ·obtain ⟨x1,hx1,hh⟩:=bs' hh
   refine sk' (S' (bk' (s' rfl rfl (i' rfl (T0 hx1) (D0.idx hx1) rfl (q' rfl (E0.nf hC rfl (E0.s hC rfl (n' (S' (t' rfl (ci' rfl hh (fun hh=>?_) (fun hh=>?_))))))))))))
   ·exact ex' (T' rfl (lw' (ih0 _ _ _ hh) rfl rfl rfl))
   obtain ⟨x2,hx2,hh⟩:=bs' hh
   refine sk' (S' (p' 2 rfl (c' (Lt hx2) rfl rfl (e' rfl (ci' rfl hh (fun hh=>?_) (fun hh=>?_))))))
   ·cases hh
    exact p' 1 rfl (E0.s hC rfl (e' rfl (re' (rt' rfl rfl rfl))))
   obtain ⟨x3,hx3,hh⟩:=bs' hh
   refine sk' (S' (p' 3 rfl (E0.me hC rfl (A0.lkT hx3) (o' 3 rfl (E0.nf hC rfl (E0.s hC rfl (e' rfl (t' rfl (ci' rfl hh (fun hh=>?_) (fun hh=>?_))))))))))
   ·cases hh
    exact p' 1 rfl (E0.s hC rfl (e' rfl (re' (rt' rfl rfl rfl))))
   obtain ⟨x4,hx4,hh⟩:=bs' hh
   refine sk' (p' 3 rfl (g' [2] (Pr hx4) rfl rfl rfl rfl rfl rfl (o' 3 rfl (E0.nf hC rfl (E0.s hC rfl (e' rfl (S' (t' rfl (ci' rfl hh (fun hh=>?_) (fun hh=>?_))))))))))
   ·cases hh
    exact p' 2 rfl (E0.s hC rfl (e' rfl (re' (rt' rfl rfl rfl))))
   exact sk' (P' 4 rfl (E0.ue hC rfl (A0.mput _ x4.1 _) rfl (n' (T' rfl (lw' (ih0 _ _ _ hh) rfl rfl rfl)))))
  obtain ⟨x5,hx5,hh⟩:=bs' hh
  cases hh
  exact ex' (p' 2 rfl (g' [2] (Pr hx5) rfl rfl rfl rfl rfl rfl (o' 2 rfl (E0.s hC rfl (e' rfl (re' (rt' rfl rfl rfl)))))))
theorem L14 {decls t m2 v16 res}(hh:V6 decls t m2 v16=some res):Rr decls t m2 v16 res:=(D12 decls t) _ _ _ hh
end Go.Proofs.YtdkabnfphmmmnaaGreatDoor

set_option maxRecDepth 100000
set_option maxHeartbeats 4000000
set_option synthInstance.maxSize 20000
set_option linter.unusedVariables false
namespace Go.Proofs.YtdkabnfphmmmnaaGreatDoor
open Go.Am
def Tj (decls:List D0)(t:A0):Option (A0×Int):=
 V6 decls t [] 0
theorem T1a {decls t res}(hh:Tj decls t=some res):L0 C 110 [.d (.sl (D0.rows decls)),.agg (A0.cells t)] [] (Ret [] (.tup [.agg (A0.cells res.1),.d (.int .i64 res.2)])):=by
 unfold Tj at hh
 exact L0.intro hC Tryz.func110 rfl rfl rfl (s' rfl rfl (E0.n hC rfl (E0.nf hC rfl (e' rfl (s' rfl rfl (E0.w rfl (e' rfl (S' (p' 1 rfl (qe' rfl trivial (D0.lenA _) (e' rfl (bk' (fw' (L14 hh) rfl rfl rfl)))))))))))))
def C4 (c:J0)(t:A0)(before:Int):Option (A0×Int):=
 slc c.p.Decls 0 before>>=fun x1=>
 Tj x1 t>>=fun x2=>
 some (x2.1,x2.2)
theorem Oc {c t before res}(hh:C4 c t before=some res):L0 C 55 [.d (.box (J0.row c)),.agg (A0.cells t),.d (.int .i64 before)] [] (Ret [] (.tup [.agg (A0.cells res.1),.d (.int .i64 res.2)])):=by
 unfold C4 at hh
 obtain ⟨x1,hx1,hh⟩:=bs' hh
 obtain ⟨x2,hx2,hh⟩:=bs' hh
 cases hh
 refine L0.intro hC Tryz.func55 rfl rfl rfl (s' rfl rfl (E0.n hC rfl (E0.nf hC rfl (e' rfl (S' (AEx.draw hC 11 rfl rfl rfl (O' 6 rfl (AQ.dx hC rfl (D0.part hx1) (D0.sz _) (Q' rfl (Qc' (T1a hx2) rfl rfl (E' rfl (E0.s hC rfl (e' rfl ?_)))))))))))))
 exact re' (rt' rfl rfl rfl)
def V5 (t:A0):Option Bool:=
 some (bif (t.Kind == 0) then true else (t.Kind == 1))
theorem Ye {t res}(hh:V5 t=some res):L0 C 56 [.agg (A0.cells t)] [] (Ret [] (.d (.bool res))):=by
 unfold V5 at hh
 cases hh
 exact L0.intro hC Tryz.func56 rfl rfl rfl (s' rfl rfl (E0.n hC rfl (e' rfl (sg' 9 rfl (G' 5 rfl (a1' rfl (a1' rfl (po' rfl (a0' rfl (an' (n' (re' (rt' rfl rfl rfl)))))))))))))
def X3 (s:Option I0):Option (List (Str×N0)×Option I0):=
 some ([],s)
theorem Vd {s res}(hh:X3 s=some res):L0 C 60 [.d (.bxo (I0.opt s))] [] (Ret [.map (.s (N0.ents res.1)),.row [.d (.bxo (I0.opt res.2)),.mp 0] 110] (.ref 1 0)):=by
 unfold X3 at hh
 cases hh
 exact L0.intro hC Tryz.func60 rfl rfl rfl (t' rfl (p' 1 rfl (E0.w rfl (q' rfl (E0.n hC rfl (e' rfl (re' (rt' rfl rfl rfl))))))))
def P2 (c:J0)(t:A0)(before:Int):Option A0:=
 C4 c t before>>=fun x1=>
 some x1.1
theorem A5 {c t before res}(hh:P2 c t before=some res):L0 C 61 [.d (.box (J0.row c)),.agg (A0.cells t),.d (.int .i64 before)] [] (Ret [] (.agg (A0.cells res))):=by
 unfold P2 at hh
 obtain ⟨x1,hx1,hh⟩:=bs' hh
 cases hh
 refine L0.intro hC Tryz.func61 rfl rfl rfl (s' rfl rfl (E0.n hC rfl (E0.nf hC rfl (n' (p' 3 rfl (c' (Oc hx1) rfl rfl (o' 3 rfl (E0.nf hC rfl (E0.s hC rfl (e' rfl (p' 1 rfl (E0.s hC rfl (n' ?_)))))))))))))
 exact re' (rt' rfl rfl rfl)
def J2 (c:J0)(variables:Bool)(m0:List (Str×N0))(x1:List (Str×N0)×Option I0)(x2:List D0)(v22:Int):Option (Option I0):=
 if (decide (v22 < ((x2).length:Int)))=true then
  idx x2 v22>>=fun x3=>
  if (bif (bif (bif (x3.Kind == 1) then true else (x3.Kind == 2)) then true else (x3.Kind == 3)) then true else (bif variables then (x3.Kind == 4) else false))=true then
   P2 c x3.TypeV v22>>=fun x4=>
   J2 c variables (mpt x3.Name (N0.mk x4 (bif (bif (x3.Kind == 1) then true else (x3.Kind == 2)) then true else (x3.Kind == 3))) m0) x1 x2 (IntKind.i64.wrap (v22+1))
  else
   J2 c variables m0 x1 x2 (IntKind.i64.wrap (v22+1))
 else
  some (some (I0.mk x1.2 m0))>>=fun x5=>
  some x5
 partial_fixpoint
abbrev Hg (c:J0)(variables:Bool)(m0:List (Str×N0))(x1:List (Str×N0)×Option I0)(x2:List D0)(v22:Int)(res:Option I0):Prop:=LM C 64 0 Tryz.f32 [1,1,1,0,1,4] [(0,.d (.box (J0.row c))),(2,.d (.bool variables)),(8,.ref 1 0),(20,.d (.sl (D0.rows x2))),(21,.d (.int .i64 ((x2).length:Int))),(22,.d (.int .i64 v22))] [.map (.s (N0.ents m0)),.row [.d (.bxo (I0.opt x1.2)),.mp 0] 110] (Ret [] (.d (.bxo (I0.opt res))))
theorem Wm (c:J0)(variables:Bool)(x1:List (Str×N0)×Option I0)(x2:List D0):(∀ m0 v22 res,J2 c variables m0 x1 x2 v22=some res→Hg c variables m0 x1 x2 v22 res):=by
 refine J2.partial_correctness c variables x1 x2 _ ?_
 ·intro g0 ih0 m0 v22 res hh
  refine X0.unroll (t' rfl (S' (ci' rfl hh (fun hh=>?_) (fun hh=>?_))))
  ·obtain ⟨x3,hx3,hh⟩:=bs' hh
   refine sk' (S' (bk' (p' 1 rfl (i' rfl (T0 hx3) (D0.idx hx3) rfl (q' rfl (E0.nf hC rfl (q' rfl (E0.s hC rfl (n' (sg' 14 rfl (G' 5 rfl (a1' rfl (a1' rfl ?_)))))))))))))
   refine po' rfl (G' 2 rfl (a1' rfl (a1' rfl (po' rfl (a0' rfl (an' (n' (sg' 9 rfl (G' 3 rfl (a1' rfl (a0' rfl (a1' rfl (a1' rfl ?_)))))))))))))
   refine pA' rfl (po' rfl (an' (n' (ci' rfl hh (fun hh=>?_) (fun hh=>?_)))))
   ·obtain ⟨x4,hx4,hh⟩:=bs' hh
    exact AEx.draw hC 13 rfl rfl rfl (O' 10 rfl (Qc' (A5 hx4) rfl rfl (E' rfl (E0.ue hC rfl (N0.mput _ (N0.mk x4 (bif (bif (x3.Kind == 1) then true else (x3.Kind == 2)) then true else (x3.Kind == 3))) _) rfl (n' (T' rfl (lw' (ih0 _ _ _ hh) rfl rfl rfl)))))))
   exact sk' (T' rfl (lw' (ih0 _ _ _ hh) rfl rfl rfl))
  obtain ⟨x5,hx5,hh⟩:=bs' hh
  refine ex' (p' 2 rfl (E0.fm 0 rfl rfl (E0.bx 1 (y:=.bxo (I0.opt x5)) (by cases hx5; exact .inr rfl) rfl rfl rfl (n' ?_))))
  cases hh
  exact re' (rt' rfl rfl rfl)
theorem Mn {c variables m0 x1 x2 v22 res}(hh:J2 c variables m0 x1 x2 v22=some res):Hg c variables m0 x1 x2 v22 res:=(Wm c variables x1 x2) _ _ _ hh
def D4 (c:J0)(before:Int)(variables:Bool):Option (Option I0):=
 X3 none>>=fun x1=>
 slc c.p.Decls 0 before>>=fun x2=>
 J2 c variables x1.1 x1 x2 0
theorem U0 {c before variables res}(hh:D4 c before variables=some res):L0 C 32 [.d (.box (J0.row c)),.d (.int .i64 before),.d (.bool variables)] [] (Ret [] (.d (.bxo (I0.opt res)))):=by
 unfold D4 at hh
 obtain ⟨x1,hx1,hh⟩:=bs' hh
 obtain ⟨x2,hx2,hh⟩:=bs' hh
 exact L0.intro hC Tryz.func32 rfl rfl rfl (t' rfl (t' rfl (p' 1 rfl (E0.g [] rfl (Vd hx1) ⟨.nbx,trivial⟩ rfl trivial rfl rfl (e' rfl (S' (p' 6 rfl (E0.dx hC rfl (D0.part hx2) (D0.sz _) (qe' rfl trivial (D0.lenA _) (e' rfl (bk' (fw' (Mn hh) rfl rfl rfl))))))))))))
def F2 (low:Int)(high:Int):Option A0:=
 some (A0.mk 1 low high 0 [] [] [])
theorem V2 {low high res}(hh:F2 low high=some res):L0 C 86 [.d (.int .i64 low),.d (.int .i64 high)] [] (Ret [] (.agg (A0.cells res))):=by
 unfold F2 at hh
 cases hh
 exact L0.intro hC Tryz.func86 rfl rfl rfl (s' rfl rfl (E0.nf hC rfl (n' (p' 3 rfl (E0.s hC rfl (n' (re' (rt' rfl rfl rfl))))))))
def R7 (t:A0):Option (A0×Int):=
 if (bif (t.Kind == 1) then (bif (decide (t.Low < (-1048576))) then true else (decide (t.High > 1048576))) else false)=true then
  some ((A0.mk 0 0 0 0 [] [] []),3)
 else
  some (t,0)
theorem Bl {t res}(hh:R7 t=some res):L0 C 85 [.agg (A0.cells t)] [] (Ret [] (.tup [.agg (A0.cells res.1),.d (.int .i64 res.2)])):=by
 unfold R7 at hh
 refine L0.intro hC Tryz.func85 rfl rfl rfl (s' rfl rfl (E0.n hC rfl (E0.nf hC rfl (e' rfl (S' (sg' 13 rfl (G' 5 rfl (a1' rfl (a1' rfl (a1' rfl (a0' rfl (a1' rfl (a1' rfl ?_)))))))))))))
 refine pO' rfl (pa' rfl (an' (n' (ci' rfl hh (fun hh=>?_) (fun hh=>?_)))))
 ·cases hh
  exact p' 1 rfl (E0.s hC rfl (e' rfl (re' (rt' rfl rfl rfl))))
 cases hh
 exact sk' (p' 1 rfl (E0.s hC rfl (e' rfl (re' (rt' rfl rfl rfl)))))
def A3 (name:Str)(s1:Option I0):Option (N0×Bool):=
 if (!s1.isNone)=true then
  s1>>=fun x1=>
  some (mgt name x1.vars)>>=fun x2=>
  if x2.isSome=true then
   some ((x2.getD N0.zero),true)
  else
   s1>>=fun x3=>
   A3 name x3.around
 else
  some ((N0.mk (A0.mk 0 0 0 0 [] [] []) false),false)
 partial_fixpoint
abbrev Ph (name:Str)(s1:Option I0)(res:N0×Bool):Prop:=LM C 26 0 Tryz.f87 [1,0,4] [(0,.d (.bxo (I0.opt s1))),(1,.d (.str name)),(4,.ref 0 0)] [.row [.d (.int .i64 0),.d (.int .i64 0),.d (.int .i64 0),.d (.int .i64 0),.d (.str []),.full (estr.rows []),.full (A0.rows []),.d (.bool false)] 107] (Ret [] (.tup [.agg (N0.cells res.1),.d (.bool res.2)]))
theorem Qo (name:Str):(∀ s1 res,A3 name s1=some res→Ph name s1 res):=by
 refine A3.partial_correctness name _ ?_
 ·intro g0 ih0 s1 res hh
  refine X0.unroll (S' (p' 1 rfl (E0.nq hC rfl (I0.opt_nilB s1) (n' (ci' rfl hh (fun hh=>?_) (fun hh=>?_))))))
  ·obtain ⟨x1,hx1,hh⟩:=bs' hh
   obtain ⟨x2,hx2,hh⟩:=bs' hh
   refine sk' (S' (bk' (p' 1 rfl (E0.nk hC rfl (I0.opt_some hx1) (o' 3 rfl (E0.fl hC rfl rfl (N0.lkT hx2) (o' 3 rfl (E0.nf hC rfl (E0.s hC rfl (e' rfl (t' rfl (ci' rfl hh (fun hh=>?_) (fun hh=>?_)))))))))))))
   ·cases hh
    exact p' 1 rfl (E0.s hC rfl (e' rfl (re' (rt' rfl rfl rfl))))
   obtain ⟨x3,hx3,hh⟩:=bs' hh
   exact sk' (P' 1 rfl (E0.nk hC rfl (I0.opt_some hx3) (e' rfl (lw' (ih0 _ _ hh) rfl rfl rfl))))
  cases hh
  exact ex' (p' 1 rfl (E0.s hC rfl (e' rfl (re' (rt' rfl rfl rfl)))))
theorem Pp {name s1 res}(hh:A3 name s1=some res):Ph name s1 res:=(Qo name) _ _ hh
def W4 (s:Option I0)(name:Str):Option (N0×Bool):=
 A3 name s
theorem Wd {s name res}(hh:W4 s name=some res):L0 C 87 [.d (.bxo (I0.opt s)),.d (.str name)] [] (Ret [] (.tup [.agg (N0.cells res.1),.d (.bool res.2)])):=by
 unfold W4 at hh
 exact L0.intro hC Tryz.func87 rfl rfl rfl (s' rfl rfl (E0.nf hC rfl (e' rfl (S' (bk' (fw' (Pp hh) rfl rfl rfl))))))
def Y3 (t:A0)(name:Str)(v15:Int):Option (A0×Int):=
 if (decide (v15 < ((t.Names).length:Int)))=true then
  idx t.Names v15>>=fun x1=>
  if (x1 == name)=true then
   idx t.Of v15>>=fun x2=>
   some (x2,0)
  else
   Y3 t name (IntKind.i64.wrap (v15+1))
 else
  some ((A0.mk 0 0 0 0 [] [] []),7)
 partial_fixpoint
abbrev Uj (t:A0)(name:Str)(v15:Int)(res:A0×Int):Prop:=LM C 30 0 Tryz.f88 [1,1,0,1,4] [(1,.d (.str name)),(2,.ref 0 0),(4,.ref 1 0),(13,.d (.sl (estr.rows t.Names))),(14,.d (.int .i64 ((t.Names).length:Int))),(15,.d (.int .i64 v15))] [.row (A0.cells t) 40,.row [.d (.int .i64 0),.d (.int .i64 0),.d (.int .i64 0),.d (.int .i64 0),.d (.str []),.full (estr.rows []),.full (A0.rows [])] 40] (Ret [] (.tup [.agg (A0.cells res.1),.d (.int .i64 res.2)]))
theorem Kr (t:A0)(name:Str):(∀ v15 res,Y3 t name v15=some res→Uj t name v15 res):=by
 refine Y3.partial_correctness t name _ ?_
 ·intro g0 ih0 v15 res hh
  refine X0.unroll (t' rfl (S' (ci' rfl hh (fun hh=>?_) (fun hh=>?_))))
  ·obtain ⟨x1,hx1,hh⟩:=bs' hh
   refine sk' (S' (bk' (p' 1 rfl (i' rfl (T0 hx1) (estr.idx hx1) rfl (e' rfl (t' rfl (ci' rfl hh (fun hh=>?_) (fun hh=>?_))))))))
   ·obtain ⟨x2,hx2,hh⟩:=bs' hh
    cases hh
    exact p' 3 rfl (i' rfl (T0 hx2) (A0.idx hx2) rfl (q' rfl (E0.s hC rfl (e' rfl (re' (rt' rfl rfl rfl))))))
   exact sk' (T' rfl (lw' (ih0 _ _ hh) rfl rfl rfl))
  cases hh
  exact ex' (p' 1 rfl (E0.s hC rfl (e' rfl (re' (rt' rfl rfl rfl)))))
theorem Rs {t name v15 res}(hh:Y3 t name v15=some res):Uj t name v15 res:=(Kr t name) _ _ hh
def T6 (t:A0)(name:Str):Option (A0×Int):=
 if (t.Kind != 3)=true then
  some ((A0.mk 0 0 0 0 [] [] []),9)
 else
  Y3 t name 0
theorem Ow {t name res}(hh:T6 t name=some res):L0 C 88 [.agg (A0.cells t),.d (.str name)] [] (Ret [] (.tup [.agg (A0.cells res.1),.d (.int .i64 res.2)])):=by
 unfold T6 at hh
 refine L0.intro hC Tryz.func88 rfl rfl rfl (s' rfl rfl (E0.n hC rfl (E0.nf hC rfl (e' rfl (S' (t' rfl (ci' rfl hh (fun hh=>?_) (fun hh=>?_))))))))
 ·cases hh
  exact p' 1 rfl (E0.s hC rfl (e' rfl (re' (rt' rfl rfl rfl))))
 exact sk' (S' (p' 2 rfl (qe' rfl trivial (estr.lenA _) (e' rfl (bk' (fw' (Rs hh) rfl rfl rfl))))))
def L3 (k:Int)(l:List A0)(v9:Int):Option Bool:=
 if (decide (v9 < ((l).length:Int)))=true then
  idx l v9>>=fun x1=>
  if (x1.Kind != k)=true then
   some false
  else
   L3 k l (IntKind.i64.wrap (v9+1))
 else
  some true
 partial_fixpoint
abbrev Li (k:Int)(l:List A0)(v9:Int)(res:Bool):Prop:=LM C 18 0 Tryz.f155 [1,0,1,4] [(0,.d (.int .i64 k)),(7,.d (.sl (A0.rows l))),(8,.d (.int .i64 ((l).length:Int))),(9,.d (.int .i64 v9))] [] (Ret [] (.d (.bool res)))
theorem Qp (k:Int)(l:List A0):(∀ v9 res,L3 k l v9=some res→Li k l v9 res):=by
 refine L3.partial_correctness k l _ ?_
 ·intro g0 ih0 v9 res hh
  refine X0.unroll (t' rfl (S' (ci' rfl hh (fun hh=>?_) (fun hh=>?_))))
  ·obtain ⟨x1,hx1,hh⟩:=bs' hh
   refine sk' (S' (bk' (s' rfl rfl (i' rfl (T0 hx1) (A0.idx hx1) rfl (q' rfl (E0.nf hC rfl (E0.s hC rfl (n' (t' rfl (ci' rfl hh (fun hh=>?_) (fun hh=>?_)))))))))))
   ·cases hh
    exact t' rfl (re' (rt' rfl rfl rfl))
   exact sk' (T' rfl (lw' (ih0 _ _ hh) rfl rfl rfl))
  cases hh
  exact ex' (t' rfl (re' (rt' rfl rfl rfl)))
theorem Oq {k l v9 res}(hh:L3 k l v9=some res):Li k l v9 res:=(Qp k l) _ _ hh
def E5 (k:Int)(l:List A0):Option Bool:=
 L3 k l 0
theorem Sa {k l res}(hh:E5 k l=some res):L0 C 155 [.d (.int .i64 k),.d (.sl (A0.rows l))] [] (Ret [] (.d (.bool res))):=by
 unfold E5 at hh
 exact L0.intro hC Tryz.func155 rfl rfl rfl (t' rfl (S' (p' 1 rfl (qe' rfl trivial (A0.lenA _) (e' rfl (bk' (fw' (Oq hh) rfl rfl rfl)))))))
def Ze (t:A0):Option Int:=
 some (max t.High (IntKind.i64.wrap (0 - t.Low)))
theorem Pw {t res}(hh:Ze t=some res):L0 C 200 [.agg (A0.cells t)] [] (Ret [] (.d (.int .i64 res))):=by
 unfold Ze at hh
 cases hh
 exact L0.intro hC Tryz.func200 rfl rfl rfl (s' rfl rfl (E0.n hC rfl (e' rfl (t' rfl (re' (rt' rfl rfl rfl))))))
def E8 (low:Int)(high:Int):Option A0:=
 F2 low high>>=fun x7=>
 some x7
theorem Mi {low high res}(hh:E8 low high=some res):JM C 135 0 Tryz.f156 [1,0,1,4,1,3,1,3,1,3,1,3,1,2,1,1,1] [(6,.ref 2 0),(12,.d (.int .i64 low)),(13,.d (.int .i64 high))] [.dead,.dead,.row [.d (.int .i64 0),.d (.int .i64 0),.d (.int .i64 0),.d (.int .i64 0),.d (.str []),.full (estr.rows []),.full (A0.rows [])] 40] (Ret [] (.agg (A0.cells res))):=by
 unfold E8 at hh
 obtain ⟨x7,hx7,hh⟩:=bs' hh
 cases hh
 exact p' 2 rfl (c' (V2 hx7) rfl rfl (E0.s hC rfl (n' (re' (rt' rfl rfl rfl)))))
def F8 (b:A0)(low:Int):Option A0:=
 if (decide (b.High > 0))=true then
  E8 low (max (IntKind.i64.wrap (b.High - 1)) 0)
 else
  E8 low 0
theorem Ni {b low res}(hh:F8 b low=some res):JM C 135 0 Tryz.f156 [1,0,1,4,1,3,1,3,1,3,1,3,1,2,1,1] [(5,.ref 1 0),(6,.ref 2 0),(12,.d (.int .i64 low)),(13,.d (.int .i64 0))] [.dead,.row (A0.cells b) 40,.row [.d (.int .i64 0),.d (.int .i64 0),.d (.int .i64 0),.d (.int .i64 0),.d (.str []),.full (estr.rows []),.full (A0.rows [])] 40] (Ret [] (.agg (A0.cells res))):=by
 unfold F8 at hh
 refine S' (t' rfl (ci' rfl hh (fun hh=>?_) (fun hh=>?_)))
 ·refine T' rfl ?_
  refine AEx.wk ?_ (Mi hh)
  exact ⟨⟨⟨.rfl,rfl⟩,⟨.rfl,rfl⟩,⟨.rfl,rfl⟩,trivial⟩,⟨trivial,trivial,⟨rfl,.refl _,rfl⟩,trivial⟩,rfl⟩
 refine sk' ?_
 refine AEx.wk ?_ (Mi hh)
 exact ⟨⟨⟨.rfl,rfl⟩,⟨.rfl,rfl⟩,⟨.rfl,rfl⟩,trivial⟩,⟨trivial,trivial,⟨rfl,.refl _,rfl⟩,trivial⟩,rfl⟩
def S7 (op:Int)(a:A0)(b:A0):Option A0:=
 if (op == 8)=true then
  F2 (IntKind.i64.wrap (a.Low+b.Low)) (IntKind.i64.wrap (a.High+b.High))>>=fun x1=>
  some x1
 else
  if (op == 9)=true then
   F2 (IntKind.i64.wrap (a.Low - b.High)) (IntKind.i64.wrap (a.High - b.Low))>>=fun x2=>
   some x2
  else
   if (op == 10)=true then
    F2 (min (min (min (IntKind.i64.wrap (a.Low * b.Low)) (IntKind.i64.wrap (a.Low * b.High))) (IntKind.i64.wrap (a.High * b.Low))) (IntKind.i64.wrap (a.High * b.High))) (max (max (max (IntKind.i64.wrap (a.Low * b.Low)) (IntKind.i64.wrap (a.Low * b.High))) (IntKind.i64.wrap (a.High * b.Low))) (IntKind.i64.wrap (a.High * b.High)))>>=fun x3=>
    some x3
   else
    if (op == 11)=true then
     Ze a>>=fun x4=>
     if (bif (decide (a.Low≥0)) then (decide (b.Low≥0)) else false)=true then
      F2 0 x4>>=fun x5=>
      some x5
     else
      F2 (IntKind.i64.wrap (0 - x4)) x4>>=fun x6=>
      some x6
    else
     if (op == 12)=true then
      if (decide (b.Low < 0))=true then
       F8 b (min (IntKind.i64.wrap (b.Low+1)) 0)
      else
       F8 b 0
     else
      if (op == 21)=true then
       F2 (min a.Low b.Low) (min a.High b.High)>>=fun x8=>
       some x8
      else
       F2 (max a.Low b.Low) (max a.High b.High)>>=fun x9=>
       some x9
theorem Dv {op a b res}(hh:S7 op a b=some res):L0 C 156 [.d (.int .i64 op),.agg (A0.cells a),.agg (A0.cells b)] [] (Ret [] (.agg (A0.cells res))):=by
 unfold S7 at hh
 refine L0.intro hC Tryz.func156 rfl rfl rfl (s' rfl rfl (E0.n hC rfl (E0.n hC rfl (E0.nf hC rfl (n' (S' (t' rfl (bk' (t' rfl (ci' rfl hh (fun hh=>?_) (fun hh=>?_)))))))))))
 ·obtain ⟨x1,hx1,hh⟩:=bs' hh
  cases hh
  exact p' 10 rfl (c' (V2 hx1) rfl rfl (E0.s hC rfl (n' (re' (rt' rfl rfl rfl)))))
 refine t' rfl (ci' rfl hh (fun hh=>?_) (fun hh=>?_))
 ·obtain ⟨x2,hx2,hh⟩:=bs' hh
  cases hh
  exact p' 10 rfl (c' (V2 hx2) rfl rfl (E0.s hC rfl (n' (re' (rt' rfl rfl rfl)))))
 refine t' rfl (ci' rfl hh (fun hh=>?_) (fun hh=>?_))
 ·obtain ⟨x3,hx3,hh⟩:=bs' hh
  cases hh
  exact S' (AEx.draw hC 24 rfl rfl rfl (E' rfl (n' (p' 10 rfl (c' (V2 hx3) rfl rfl (E0.s hC rfl (n' (re' (rt' rfl rfl rfl)))))))))
 refine t' rfl (ci' rfl hh (fun hh=>?_) (fun hh=>?_))
 ·obtain ⟨x4,hx4,hh⟩:=bs' hh
  refine p' 1 rfl (c' (Pw hx4) rfl rfl (e' rfl (S' (sg' 8 rfl (G' 5 rfl (a1' rfl (a1' rfl (pa' rfl (an' (n' (ci' rfl hh (fun hh=>?_) (fun hh=>?_))))))))))))
  ·obtain ⟨x5,hx5,hh⟩:=bs' hh
   cases hh
   exact p' 1 rfl (c' (V2 hx5) rfl rfl (E0.s hC rfl (n' (re' (rt' rfl rfl rfl)))))
  obtain ⟨x6,hx6,hh⟩:=bs' hh
  cases hh
  exact sk' (p' 3 rfl (c' (V2 hx6) rfl rfl (E0.s hC rfl (n' (re' (rt' rfl rfl rfl))))))
 refine t' rfl (ci' rfl hh (fun hh=>?_) (fun hh=>?_))
 ·refine t' rfl (S' (t' rfl (ci' rfl hh (fun hh=>?_) (fun hh=>?_))))
  ·refine T' rfl ?_
   refine AEx.wk ?_ (Ni hh)
   exact ⟨⟨⟨.rfl,rfl⟩,⟨.rfl,rfl⟩,⟨.rfl,rfl⟩,⟨.rfl,rfl⟩,trivial⟩,⟨trivial,⟨rfl,.refl _,rfl⟩,⟨rfl,.refl _,rfl⟩,trivial⟩,rfl⟩
  refine sk' ?_
  refine AEx.wk ?_ (Ni hh)
  exact ⟨⟨⟨.rfl,rfl⟩,⟨.rfl,rfl⟩,⟨.rfl,rfl⟩,⟨.rfl,rfl⟩,trivial⟩,⟨trivial,⟨rfl,.refl _,rfl⟩,⟨rfl,.refl _,rfl⟩,trivial⟩,rfl⟩
 refine t' rfl (ci' rfl hh (fun hh=>?_) (fun hh=>?_))
 ·obtain ⟨x8,hx8,hh⟩:=bs' hh
  cases hh
  exact p' 10 rfl (c' (V2 hx8) rfl rfl (E0.s hC rfl (n' (re' (rt' rfl rfl rfl)))))
 obtain ⟨x9,hx9,hh⟩:=bs' hh
 cases hh
 exact sk' (p' 10 rfl (c' (V2 hx9) rfl rfl (E0.s hC rfl (n' (re' (rt' rfl rfl rfl))))))
def J6 (op:Int)(kids:List A0)(x1:Bool)(v60:Bool):Option (A0×Int):=
 if v60=true then
  if x1=true then
   some ((A0.mk 0 0 0 0 [] [] []),0)
  else
   some ((A0.mk 0 0 0 0 [] [] []),9)
 else
  if (op == 23)=true then
   slc kids 1 ((kids).length:Int)>>=fun x7=>
   idx kids 0>>=fun x8=>
   if (x8.Kind != 0)=true then
    some ((A0.mk 0 0 0 0 [] [] []),9)
   else
    E5 1 x7>>=fun x9=>
    if x9=true then
     idx x7 0>>=fun x10=>
     idx x7 1>>=fun x11=>
     idx x7 0>>=fun x12=>
     idx x7 1>>=fun x13=>
     F2 (min x10.Low x11.Low) (max x12.High x13.High)>>=fun x14=>
     some (x14,0)
    else
     E5 0 x7>>=fun x15=>
     if x15=true then
      some ((A0.mk 0 0 0 0 [] [] []),0)
     else
      some ((A0.mk 0 0 0 0 [] [] []),9)
  else
   if x1=true then
    idx kids 0>>=fun x16=>
    idx kids 1>>=fun x17=>
    S7 op x16 x17>>=fun x18=>
    R7 x18>>=fun x19=>
    some (x19.1,x19.2)
   else
    some ((A0.mk 0 0 0 0 [] [] []),9)
theorem Na {op kids x1 v60 res}(hh:J6 op kids x1 v60=some res):JM C 103 0 Tryz.f89 [1,1,1,0,1,4,1,3,1,3,1,3,1] [(0,.d (.int .i64 op)),(1,.d (.sl (A0.rows kids))),(4,.ref 0 0),(6,.clo 155 []),(7,.d (.bool x1)),(16,.d (.int .i64 op)),(60,.d (.bool v60))] [.row [.d (.int .i64 0),.d (.int .i64 0),.d (.int .i64 0),.d (.int .i64 0),.d (.str []),.full (estr.rows []),.full (A0.rows [])] 40] (Ret [] (.tup [.agg (A0.cells res.1),.d (.int .i64 res.2)])):=by
 unfold J6 at hh
 refine ci' rfl hh (fun hh=>?_) (fun hh=>?_)
 ·refine t' rfl (ci' rfl hh (fun hh=>?_) (fun hh=>?_))
  ·cases hh
   exact p' 1 rfl (E0.s hC rfl (e' rfl (re' (rt' rfl rfl rfl))))
  cases hh
  exact sk' (p' 1 rfl (E0.s hC rfl (e' rfl (re' (rt' rfl rfl rfl)))))
 refine t' rfl (ci' rfl hh (fun hh=>?_) (fun hh=>?_))
 ·obtain ⟨x7,hx7,hh⟩:=bs' hh
  obtain ⟨x8,hx8,hh⟩:=bs' hh
  refine p' 1 rfl (E0.dx hC rfl (A0.part (by rw [A0.len]; exact hx7)) (A0.sz _) (e' rfl (S' (p' 1 rfl (i' rfl (T0 hx8) (A0.idx hx8) rfl (e' rfl (ci' rfl hh (fun hh=>?_) (fun hh=>?_))))))))
  ·cases hh
   exact ex' (p' 1 rfl (E0.s hC rfl (e' rfl (re' (rt' rfl rfl rfl)))))
  obtain ⟨x9,hx9,hh⟩:=bs' hh
  refine sk' (S' (p' 2 rfl (c' (Sa hx9) rfl rfl (n' (ci' rfl hh (fun hh=>?_) (fun hh=>?_))))))
  ·obtain ⟨x10,hx10,hh⟩:=bs' hh
   obtain ⟨x11,hx11,hh⟩:=bs' hh
   obtain ⟨x12,hx12,hh⟩:=bs' hh
   obtain ⟨x13,hx13,hh⟩:=bs' hh
   obtain ⟨x14,hx14,hh⟩:=bs' hh
   cases hh
   refine S' (AEx.draw hC 19 rfl rfl rfl (Q' rfl (AQ.i hC rfl (T0 hx10) (A0.idx hx10) rfl (O' 3 rfl (AQ.i hC rfl (T0 hx11) (A0.idx hx11) rfl (O' 4 rfl (AQ.i hC rfl (T0 hx12) (A0.idx hx12) rfl (O' 3 rfl (AQ.i hC rfl (T0 hx13) (A0.idx hx13) rfl (O' 3 rfl (Qc' (V2 hx14) rfl rfl (Qn' (E0.s hC rfl ?_)))))))))))))
   exact e' rfl (re' (rt' rfl rfl rfl))
  obtain ⟨x15,hx15,hh⟩:=bs' hh
  refine sk' (p' 2 rfl (c' (Sa hx15) rfl rfl (n' (ci' rfl hh (fun hh=>?_) (fun hh=>?_)))))
  ·cases hh
   exact p' 1 rfl (E0.s hC rfl (e' rfl (re' (rt' rfl rfl rfl))))
  cases hh
  exact sk' (p' 1 rfl (E0.s hC rfl (e' rfl (re' (rt' rfl rfl rfl)))))
 refine t' rfl (ci' rfl hh (fun hh=>?_) (fun hh=>?_))
 ·obtain ⟨x16,hx16,hh⟩:=bs' hh
  obtain ⟨x17,hx17,hh⟩:=bs' hh
  obtain ⟨x18,hx18,hh⟩:=bs' hh
  obtain ⟨x19,hx19,hh⟩:=bs' hh
  cases hh
  exact S' (AEx.draw hC 11 rfl rfl rfl (O' 2 rfl (AQ.i hC rfl (T0 hx16) (A0.idx hx16) rfl (O' 2 rfl (AQ.i hC rfl (T0 hx17) (A0.idx hx17) rfl (Q' rfl (Qc' (Dv hx18) rfl rfl (Qc' (Bl hx19) rfl rfl (E' rfl (E0.s hC rfl (e' rfl (re' (rt' rfl rfl rfl)))))))))))))
 cases hh
 exact sk' (p' 1 rfl (E0.s hC rfl (e' rfl (re' (rt' rfl rfl rfl)))))
def Hc (op:Int)(kids:List A0)(x1:Bool)(x2:Bool)(v52:Bool):Option (A0×Int):=
 if v52=true then
  if (bif x1 then true else x2)=true then
   some ((A0.mk 0 0 0 0 [] [] []),0)
  else
   some ((A0.mk 0 0 0 0 [] [] []),9)
 else
  if (op == 15)=true then
   J6 op kids x1 (op == 15)
  else
   if (op == 16)=true then
    J6 op kids x1 (op == 16)
   else
    if (op == 17)=true then
     J6 op kids x1 (op == 17)
    else
     J6 op kids x1 (op == 18)
theorem Cj {op kids x1 x2 v52 res}(hh:Hc op kids x1 x2 v52=some res):JM C 103 0 Tryz.f89 [1,1,1,0,1,4,1,3,1,3,1] [(0,.d (.int .i64 op)),(1,.d (.sl (A0.rows kids))),(4,.ref 0 0),(6,.clo 155 []),(7,.d (.bool x1)),(8,.d (.bool x2)),(16,.d (.int .i64 op)),(52,.d (.bool v52))] [.row [.d (.int .i64 0),.d (.int .i64 0),.d (.int .i64 0),.d (.int .i64 0),.d (.str []),.full (estr.rows []),.full (A0.rows [])] 40] (Ret [] (.tup [.agg (A0.cells res.1),.d (.int .i64 res.2)])):=by
 unfold Hc at hh
 refine ci' rfl hh (fun hh=>?_) (fun hh=>?_)
 ·refine sg' 4 rfl (G' 3 rfl (po' rfl (an' (n' (ci' rfl hh (fun hh=>?_) (fun hh=>?_))))))
  ·cases hh
   exact p' 1 rfl (E0.s hC rfl (e' rfl (re' (rt' rfl rfl rfl))))
  cases hh
  exact sk' (p' 1 rfl (E0.s hC rfl (e' rfl (re' (rt' rfl rfl rfl)))))
 refine S' (t' rfl (ci' rfl hh (fun hh=>?_) (fun hh=>?_)))
 ·exact sk' (ew' (Na hh) rfl rfl rfl)
 refine t' rfl (ci' rfl hh (fun hh=>?_) (fun hh=>?_))
 ·exact sk' (ew' (Na hh) rfl rfl rfl)
 refine t' rfl (ci' rfl hh (fun hh=>?_) (fun hh=>?_))
 ·exact sk' (ew' (Na hh) rfl rfl rfl)
 exact T' rfl (ew' (Na hh) rfl rfl rfl)
def K6 (op:Int)(kids:List A0)(x1:Bool)(x2:Bool)(v46:Bool):Option (A0×Int):=
 if v46=true then
  if x2=true then
   some ((A0.mk 0 0 0 0 [] [] []),0)
  else
   some ((A0.mk 0 0 0 0 [] [] []),9)
 else
  if (op == 13)=true then
   Hc op kids x1 x2 (op == 13)
  else
   Hc op kids x1 x2 (op == 14)
theorem Xd {op kids x1 x2 v46 res}(hh:K6 op kids x1 x2 v46=some res):JM C 103 0 Tryz.f89 [1,1,1,0,1,4,1,3,1] [(0,.d (.int .i64 op)),(1,.d (.sl (A0.rows kids))),(4,.ref 0 0),(6,.clo 155 []),(7,.d (.bool x1)),(8,.d (.bool x2)),(16,.d (.int .i64 op)),(46,.d (.bool v46))] [.row [.d (.int .i64 0),.d (.int .i64 0),.d (.int .i64 0),.d (.int .i64 0),.d (.str []),.full (estr.rows []),.full (A0.rows [])] 40] (Ret [] (.tup [.agg (A0.cells res.1),.d (.int .i64 res.2)])):=by
 unfold K6 at hh
 refine ci' rfl hh (fun hh=>?_) (fun hh=>?_)
 ·refine t' rfl (ci' rfl hh (fun hh=>?_) (fun hh=>?_))
  ·cases hh
   exact p' 1 rfl (E0.s hC rfl (e' rfl (re' (rt' rfl rfl rfl))))
  cases hh
  exact sk' (p' 1 rfl (E0.s hC rfl (e' rfl (re' (rt' rfl rfl rfl)))))
 refine S' (t' rfl (ci' rfl hh (fun hh=>?_) (fun hh=>?_)))
 ·exact sk' (ew' (Cj hh) rfl rfl rfl)
 exact T' rfl (ew' (Cj hh) rfl rfl rfl)
def V8 (op:Int)(kids:List A0):Option (A0×Int):=
 E5 1 kids>>=fun x1=>
 E5 0 kids>>=fun x2=>
 if (op == 6)=true then
  if x1=true then
   idx kids 0>>=fun x3=>
   idx kids 0>>=fun x4=>
   F2 (IntKind.i64.wrap (0 - x3.High)) (IntKind.i64.wrap (0 - x4.Low))>>=fun x5=>
   R7 x5>>=fun x6=>
   some (x6.1,x6.2)
  else
   some ((A0.mk 0 0 0 0 [] [] []),9)
 else
  if (op == 7)=true then
   K6 op kids x1 x2 (op == 7)
  else
   if (op == 19)=true then
    K6 op kids x1 x2 (op == 19)
   else
    K6 op kids x1 x2 (op == 20)
theorem Rw {op kids res}(hh:V8 op kids=some res):L0 C 89 [.d (.int .i64 op),.d (.sl (A0.rows kids))] [] (Ret [] (.tup [.agg (A0.cells res.1),.d (.int .i64 res.2)])):=by
 unfold V8 at hh
 obtain ⟨x1,hx1,hh⟩:=bs' hh
 obtain ⟨x2,hx2,hh⟩:=bs' hh
 refine L0.intro hC Tryz.func89 rfl rfl rfl (s' rfl rfl (E0.nf hC rfl (e' rfl (t' rfl (p' 2 rfl (c' (Sa hx1) rfl rfl (o' 2 rfl (c' (Sa hx2) rfl rfl (e' rfl (S' (t' rfl (bk' (t' rfl (ci' rfl hh (fun hh=>?_) (fun hh=>?_)))))))))))))))
 ·refine t' rfl (ci' rfl hh (fun hh=>?_) (fun hh=>?_))
  ·obtain ⟨x3,hx3,hh⟩:=bs' hh
   obtain ⟨x4,hx4,hh⟩:=bs' hh
   obtain ⟨x5,hx5,hh⟩:=bs' hh
   obtain ⟨x6,hx6,hh⟩:=bs' hh
   cases hh
   exact S' (AEx.draw hC 14 rfl rfl rfl (Q' rfl (AQ.i hC rfl (T0 hx3) (A0.idx hx3) rfl (O' 4 rfl (AQ.i hC rfl (T0 hx4) (A0.idx hx4) rfl (O' 3 rfl (Qc' (V2 hx5) rfl rfl (Qc' (Bl hx6) rfl rfl (E' rfl (E0.s hC rfl (e' rfl (re' (rt' rfl rfl rfl)))))))))))))
  cases hh
  exact sk' (p' 1 rfl (E0.s hC rfl (e' rfl (re' (rt' rfl rfl rfl)))))
 refine S' (t' rfl (ci' rfl hh (fun hh=>?_) (fun hh=>?_)))
 ·exact sk' (ew' (Xd hh) rfl rfl rfl)
 refine t' rfl (ci' rfl hh (fun hh=>?_) (fun hh=>?_))
 ·exact sk' (ew' (Xd hh) rfl rfl rfl)
 exact T' rfl (ew' (Xd hh) rfl rfl rfl)
def I8 (s:Option I0)(e:B0)(kids1:List A0)(v51:Bool):Option (A0×Int):=
 if v51=true then
  some ((A0.mk 0 0 0 0 [] [] []),0)
 else
  if (e.Op == 3)=true then
   W4 s e.Name>>=fun x4=>
   if (!x4.2)=true then
    some ((A0.mk 0 0 0 0 [] [] []),7)
   else
    some (x4.1.typ,0)
  else
   if (e.Op == 4)=true then
    idx kids1 0>>=fun x5=>
    T6 x5 e.Name>>=fun x6=>
    some (x6.1,x6.2)
   else
    if (e.Op == 5)=true then
     idx kids1 0>>=fun x7=>
     (if (!(x7.Kind != 2))=true then idx kids1 1 else some default)>>=fun x8=>
     if (bif (x7.Kind != 2) then true else (x8.Kind != 1))=true then
      some ((A0.mk 0 0 0 0 [] [] []),9)
     else
      idx kids1 0>>=fun x9=>
      idx x9.Of 0>>=fun x10=>
      some (x10,0)
    else
     V8 e.Op kids1>>=fun x11=>
     some (x11.1,x11.2)
theorem Nn {s e kids1 v51 res}(hh:I8 s e kids1 v51=some res):JM C 106 0 Tryz.f42 [1,1,1,0,1,4,1,3,1] [(0,.d (.bxo (I0.opt s))),(3,.ref 0 0),(4,.ref 1 0),(6,.osl 2 (A0.rows kids1)),(40,.d (.int .i64 e.Op)),(51,.d (.bool v51))] [.row (B0.cells e) 34,.row [.d (.int .i64 0),.d (.int .i64 0),.d (.int .i64 0),.d (.int .i64 0),.d (.str []),.full (estr.rows []),.full (A0.rows [])] 40,.tok 40 7] (Ret [] (.tup [.agg (A0.cells res.1),.d (.int .i64 res.2)])):=by
 unfold I8 at hh
 refine ci' rfl hh (fun hh=>?_) (fun hh=>?_)
 ·cases hh
  exact p' 1 rfl (E0.s hC rfl (e' rfl (re' (rt' rfl rfl rfl))))
 refine t' rfl (ci' rfl hh (fun hh=>?_) (fun hh=>?_))
 ·obtain ⟨x4,hx4,hh⟩:=bs' hh
  refine p' 3 rfl (c' (Wd hx4) rfl rfl (o' 3 rfl (E0.nf hC rfl (E0.s hC rfl (e' rfl (S' (t' rfl (ci' rfl hh (fun hh=>?_) (fun hh=>?_)))))))))
  ·cases hh
   exact p' 1 rfl (E0.s hC rfl (e' rfl (re' (rt' rfl rfl rfl))))
  cases hh
  exact sk' (p' 2 rfl (E0.s hC rfl (e' rfl (re' (rt' rfl rfl rfl)))))
 refine t' rfl (ci' rfl hh (fun hh=>?_) (fun hh=>?_))
 ·obtain ⟨x5,hx5,hh⟩:=bs' hh
  obtain ⟨x6,hx6,hh⟩:=bs' hh
  cases hh
  exact S' (AEx.draw hC 8 rfl rfl rfl (Q' rfl (AQ.i hC rfl (T0 hx5) (A0.idx hx5) rfl (O' 3 rfl (Qc' (Ow hx6) rfl rfl (E' rfl (E0.s hC rfl (e' rfl (re' (rt' rfl rfl rfl))))))))))
 refine t' rfl (ci' rfl hh (fun hh=>?_) (fun hh=>?_))
 ·obtain ⟨x7,hx7,hh⟩:=bs' hh
  obtain ⟨x8,hx8,hh⟩:=bs' hh
  refine S' (sg' 12 rfl (a0' rfl (AG.i hC rfl rfl (fun _=>trivial) (fun hw=>⟨T0 hx7,A0.idx hx7,rfl⟩) (G' 5 rfl (AG.i hC rfl rfl (fun hg=>⟨hg,trivial⟩) (fun hw=>⟨T0 (I1 hw hx8),A0.idx (I1 hw hx8),rfl⟩) (a1' rfl (a1' rfl (a1' rfl (po' rfl (an' (n' (ci' rfl hh (fun hh=>?_) (fun hh=>?_)))))))))))))
  ·cases hh
   exact p' 1 rfl (E0.s hC rfl (e' rfl (re' (rt' rfl rfl rfl))))
  obtain ⟨x9,hx9,hh⟩:=bs' hh
  obtain ⟨x10,hx10,hh⟩:=bs' hh
  cases hh
  exact sk' (p' 1 rfl (i' rfl (T0 hx9) (A0.idx hx9) rfl (o' 2 rfl (i' rfl (T0 hx10) (A0.idx hx10) rfl (q' rfl (E0.s hC rfl (e' rfl (re' (rt' rfl rfl rfl)))))))))
 obtain ⟨x11,hx11,hh⟩:=bs' hh
 cases hh
 exact sk' (p' 3 rfl (E0.cl rfl (Rw hx11) ⟨.rfl,.osl,trivial⟩ rfl (o' 2 rfl (E0.s hC rfl (e' rfl (re' (rt' rfl rfl rfl)))))))
mutual
def F3 (s:Option I0)(e:B0):Option (A0×Int):=
 if (decide (0≤((e.Kids).length:Int)∧((e.Kids).length:Int).toNat * 97≤140737488355328))=true then
  Ab s e [] 0
 else none
 partial_fixpoint
def Ab (s:Option I0)(e:B0)(kids:List A0)(v20:Int):Option (A0×Int):=
 if (decide (v20 < ((e.Kids).length:Int)))=true then
  idx e.Kids v20>>=fun x1=>
  F3 s x1>>=fun x12=>
  if (x12.2 != 0)=true then
   some ((A0.mk 0 0 0 0 [] [] []),x12.2)
  else
   if (decide ((kids.length+1) * 97≤140737488355328))=true then
    Ab s e (kids++[x12.1]) (IntKind.i64.wrap (v20+1))
   else none
 else
  if (e.Op == 0)=true then
   F2 e.NV e.NV>>=fun x2=>
   R7 x2>>=fun x3=>
   some (x3.1,x3.2)
  else
   if (e.Op == 1)=true then
    I8 s e kids (e.Op == 1)
   else
    I8 s e kids (e.Op == 2)
 partial_fixpoint
end
abbrev Xt (s:Option I0)(e:B0)(res:A0×Int):Prop:=L0 C 42 [.d (.bxo (I0.opt s)),.agg (B0.cells e)] [] (Ret [] (.tup [.agg (A0.cells res.1),.d (.int .i64 res.2)]))
abbrev E12 (s:Option I0)(e:B0)(kids:List A0)(v20:Int)(res:A0×Int):Prop:=LM C 106 0 Tryz.f42 [1,1,0,1,4] [(0,.d (.bxo (I0.opt s))),(3,.ref 0 0),(4,.ref 1 0),(6,.osl 2 (A0.rows kids)),(18,.d (.sl (B0.rows e.Kids))),(19,.d (.int .i64 ((e.Kids).length:Int))),(20,.d (.int .i64 v20))] [.row (B0.cells e) 34,.row [.d (.int .i64 0),.d (.int .i64 0),.d (.int .i64 0),.d (.int .i64 0),.d (.str []),.full (estr.rows []),.full (A0.rows [])] 40,.tok 40 7] (Ret [] (.tup [.agg (A0.cells res.1),.d (.int .i64 res.2)]))
theorem M14 (s:Option I0):(∀ e res,F3 s e=some res→Xt s e res)∧(∀ e kids v20 res,Ab s e kids v20=some res→E12 s e kids v20 res):=by
 refine F3.mutual_partial_correctness s _ _ ?_ ?_
 ·intro g1 ih1 e res hh
  obtain ⟨c16,hh⟩:=J1 hh
  exact L0.intro hC Tryz.func42 rfl rfl rfl (s' rfl rfl (E0.n hC rfl (E0.nf hC rfl (e' rfl (p' 2 rfl (qe' rfl trivial (B0.lenA _) (E0.mz hC rfl c16 rfl (e' rfl (S' (p' 2 rfl (qe' rfl trivial (B0.lenA _) (e' rfl (bk' (fw' (ih1 _ _ _ _ hh) rfl rfl rfl))))))))))))))
 ·intro g0 g1 ih0 ih1 e kids v20 res hh
  refine X0.unroll (t' rfl (S' (ci' rfl hh (fun hh=>?_) (fun hh=>?_))))
  ·obtain ⟨x1,hx1,hh⟩:=bs' hh
   obtain ⟨x12,hx12,hh⟩:=bs' hh
   refine sk' (S' (bk' (s' rfl rfl (i' rfl (T0 hx1) (B0.idx hx1) rfl (q' rfl (E0.nf hC rfl (E0.s hC rfl (n' (p' 2 rfl (c' (ih0 _ _ hx12) rfl rfl (o' 3 rfl (E0.nf hC rfl (E0.s hC rfl ?_)))))))))))))
   refine e' rfl (S' (t' rfl (ci' rfl hh (fun hh=>?_) (fun hh=>?_))))
   ·cases hh
    exact p' 2 rfl (E0.s hC rfl (e' rfl (re' (rt' rfl rfl rfl))))
   obtain ⟨c17,hh⟩:=J1 hh
   exact sk' (P' 2 rfl (E0.be hC rfl (A0.rows_map [x12.1]).symm (E0.ap hC rfl (rs:=A0.rows (kids++[x12.1])) (A0.app kids [x12.1]) (A0.sz kids) (A0.sz [x12.1]) (E3 (A0.len kids) (A0.len [x12.1]) c17) (e' rfl (T' rfl (lw' (ih1 _ _ _ _ hh) rfl rfl rfl))))))
  refine ex' (S' (t' rfl (bk' (t' rfl (ci' rfl hh (fun hh=>?_) (fun hh=>?_))))))
  ·obtain ⟨x2,hx2,hh⟩:=bs' hh
   obtain ⟨x3,hx3,hh⟩:=bs' hh
   cases hh
   exact p' 4 rfl (c' (V2 hx2) rfl rfl (c' (Bl hx3) rfl rfl (o' 2 rfl (E0.s hC rfl (e' rfl (re' (rt' rfl rfl rfl)))))))
  refine S' (t' rfl (ci' rfl hh (fun hh=>?_) (fun hh=>?_)))
  ·exact sk' (ew' (Nn hh) rfl rfl rfl)
  exact T' rfl (ew' (Nn hh) rfl rfl rfl)
theorem B1 {s e res}(hh:F3 s e=some res):Xt s e res:=(M14 s).1 _ _ hh
def Kg (e:B0):Option Bool:=
 some (bif (bif (e.Op == 3) then true else (e.Op == 4)) then true else (e.Op == 5))
theorem Uz {e res}(hh:Kg e=some res):L0 C 112 [.agg (B0.cells e)] [] (Ret [] (.d (.bool res))):=by
 unfold Kg at hh
 cases hh
 refine L0.intro hC Tryz.func112 rfl rfl rfl (s' rfl rfl (E0.n hC rfl (e' rfl (sg' 14 rfl (G' 5 rfl (a1' rfl (a1' rfl (po' rfl (G' 2 rfl (a1' rfl (a1' rfl (po' rfl (a0' rfl ?_)))))))))))))
 exact an' (n' (re' (rt' rfl rfl rfl)))
mutual
def Fe (a:A0)(b:A0):Option Bool:=
 (if (bif (bif (bif (bif (a.Kind == b.Kind) then (a.Low == b.Low) else false) then (a.High == b.High) else false) then (a.Size == b.Size) else false) then (a.Name == b.Name) else false)=true then X2 a.Names b.Names else some default)>>=fun x1=>
 (if (bif (bif (bif (bif (bif (a.Kind == b.Kind) then (a.Low == b.Low) else false) then (a.High == b.High) else false) then (a.Size == b.Size) else false) then (a.Name == b.Name) else false) then x1 else false)=true then D2 a.Of b.Of else some default)>>=fun x2=>
 some (bif (bif (bif (bif (bif (bif (a.Kind == b.Kind) then (a.Low == b.Low) else false) then (a.High == b.High) else false) then (a.Size == b.Size) else false) then (a.Name == b.Name) else false) then x1 else false) then x2 else false)
 partial_fixpoint
def D2 (s1:List A0)(s2:List A0):Option Bool:=
 if (((s1).length:Int) != ((s2).length:Int))=true then
  some false
 else
  E1 s1 s2 0
 partial_fixpoint
def E1 (s1:List A0)(s2:List A0)(v17:Int):Option Bool:=
 if (decide (v17 < ((s1).length:Int)))=true then
  idx s1 v17>>=fun x1=>
  idx s2 v17>>=fun x2=>
  Fe x1 x2>>=fun x3=>
  if (!x3)=true then
   some false
  else
   E1 s1 s2 (IntKind.i64.wrap (v17+1))
 else
  some true
 partial_fixpoint
end
abbrev R11 (a:A0)(b:A0)(res:Bool):Prop:=L0 C 181 [.agg (A0.cells a),.agg (A0.cells b)] [] (Ret [] (.d (.bool res)))
abbrev Sb (s1:List A0)(s2:List A0)(res:Bool):Prop:=L0 C 208 [.d (.sl (A0.rows s1)),.d (.sl (A0.rows s2)),.clo 181 []] [] (Ret [] (.d (.bool res)))
abbrev Ta (s1:List A0)(s2:List A0)(v17:Int)(res:Bool):Prop:=LM C 32 0 Tryz.f208 [1,1,0,1,4] [(1,.d (.sl (A0.rows s2))),(2,.clo 181 []),(15,.d (.sl (A0.rows s1))),(16,.d (.int .i64 ((s1).length:Int))),(17,.d (.int .i64 v17))] [] (Ret [] (.d (.bool res)))
theorem U1a:(∀ a b res,Fe a b=some res→R11 a b res)∧(∀ s1 s2 res,D2 s1 s2=some res→Sb s1 s2 res)∧(∀ s1 s2 v17 res,E1 s1 s2 v17=some res→Ta s1 s2 v17 res):=by
 refine Fe.mutual_partial_correctness _ _ _ ?_ ?_ ?_
 ·intro g1 ih1 a b res hh
  obtain ⟨x1,hx1,hh⟩:=bs' hh
  obtain ⟨x2,hx2,hh⟩:=bs' hh
  cases hh
  refine L0.intro hC Tryz.func181 rfl rfl rfl (s' rfl rfl (E0.n hC rfl (E0.n hC rfl (e' rfl (sg' 48 rfl (G' 7 rfl (a1' rfl (a0' rfl (a1' rfl (a2' rfl (pa' rfl (G' 2 rfl (a1' rfl ?_)))))))))))))
  refine a0' rfl (a1' rfl (a2' rfl (pa' rfl (G' 2 rfl (a1' rfl (a0' rfl (a1' rfl (a2' rfl (pa' rfl (G' 2 rfl (a1' rfl (a0' rfl (a1' rfl ?_)))))))))))))
  refine a2' rfl (pa' rfl (G' 2 rfl (a1' rfl (a0' rfl (a1' rfl (AG.c rfl rfl (fun hg=>⟨hg,hg,trivial⟩) (fun hw=>Gg (I1 hw hx1)) (pa' rfl (G' 2 rfl (a1' rfl (a0' rfl (a1' rfl (AG.c rfl rfl (fun hg=>⟨hg,hg,trivial⟩) (fun hw=>ih1 _ _ _ (I1 hw hx2)) (pa' rfl ?_)))))))))))))
  exact a0' rfl (an' (n' (re' (rt' rfl rfl rfl))))
 ·intro g2 ih2 s1 s2 res hh
  refine L0.intro hC Tryz.func208 rfl rfl rfl (t' rfl (S' (p' 1 rfl (qe' rfl trivial (A0.lenA _) (q' rfl (qe' rfl trivial (A0.lenA _) (e' rfl (ci' rfl hh (fun hh=>?_) (fun hh=>?_)))))))))
  ·cases hh
   exact t' rfl (re' (rt' rfl rfl rfl))
  exact sk' (S' (p' 1 rfl (qe' rfl trivial (A0.lenA _) (e' rfl (bk' (fw' (ih2 _ _ _ _ hh) rfl rfl rfl))))))
 ·intro g0 g2 ih0 ih2 s1 s2 v17 res hh
  refine X0.unroll (t' rfl (S' (ci' rfl hh (fun hh=>?_) (fun hh=>?_))))
  ·obtain ⟨x1,hx1,hh⟩:=bs' hh
   obtain ⟨x2,hx2,hh⟩:=bs' hh
   obtain ⟨x3,hx3,hh⟩:=bs' hh
   refine sk' (S' (bk' (p' 1 rfl (i' rfl (T0 hx1) (A0.idx hx1) rfl (q' rfl (E0.nf hC rfl (q' rfl (E0.s hC rfl (n' (p' 2 rfl (i' rfl (T0 hx2) (A0.idx hx2) rfl (q' rfl (E0.nf hC rfl ?_)))))))))))))
   refine E0.s hC rfl (n' (p' 3 rfl (c' (ih0 _ _ _ hx3) rfl rfl (e' rfl (ci' rfl hh (fun hh=>?_) (fun hh=>?_))))))
   ·cases hh
    exact t' rfl (re' (rt' rfl rfl rfl))
   exact sk' (T' rfl (lw' (ih2 _ _ _ _ hh) rfl rfl rfl))
  cases hh
  exact ex' (t' rfl (re' (rt' rfl rfl rfl)))
theorem A1c {a b res}(hh:Fe a b=some res):R11 a b res:=(U1a).1 _ _ _ hh
def W5 (fromV:A0)(to:A0)(place:Bool):Option Bool:=
 V5 fromV>>=fun x1=>
 (if (!x1)=true then V5 to else some default)>>=fun x2=>
 if (bif x1 then true else x2)=true then
  some (fromV.Kind == to.Kind)
 else
  (if place=true then Fe fromV to else some default)>>=fun x3=>
  some (bif place then x3 else false)
theorem Ff {fromV to place res}(hh:W5 fromV to place=some res):L0 C 111 [.agg (A0.cells fromV),.agg (A0.cells to),.d (.bool place)] [] (Ret [] (.d (.bool res))):=by
 unfold W5 at hh
 obtain ⟨x1,hx1,hh⟩:=bs' hh
 obtain ⟨x2,hx2,hh⟩:=bs' hh
 refine L0.intro hC Tryz.func111 rfl rfl rfl (s' rfl rfl (E0.n hC rfl (E0.n hC rfl (e' rfl (S' (sg' 6 rfl (a0' rfl (AG.c rfl rfl (fun _=>trivial) (fun _=>Ye hx1) (G' 2 rfl (AG.c rfl rfl (fun hg=>⟨hg,trivial⟩) (fun hw=>Ye (I1 hw hx2)) (po' rfl (an' (n' (ci' rfl hh (fun hh=>?_) (fun hh=>?_)))))))))))))))
 ·cases hh
  exact t' rfl (re' (rt' rfl rfl rfl))
 obtain ⟨x3,hx3,hh⟩:=bs' hh
 cases hh
 exact sk' (sg' 7 rfl (G' 4 rfl (AG.c rfl rfl (fun hg=>⟨hg,hg,trivial⟩) (fun hw=>A1c (I1 hw hx3)) (pa' rfl (a0' rfl (an' (n' (re' (rt' rfl rfl rfl)))))))))
def K8 (s:Option I0)(e:B0)(to:A0):Option Int:=
 F3 s e>>=fun x1=>
 (if (x1.2 == 0)=true then Kg e else some default)>>=fun x2=>
 (if (x1.2 == 0)=true then W5 x1.1 to x2 else some default)>>=fun x3=>
 if (bif (x1.2 == 0) then (!x3) else false)=true then
  some 9
 else
  some x1.2
theorem Sf {s e to res}(hh:K8 s e to=some res):L0 C 57 [.d (.bxo (I0.opt s)),.agg (B0.cells e),.agg (A0.cells to)] [] (Ret [] (.d (.int .i64 res))):=by
 unfold K8 at hh
 obtain ⟨x1,hx1,hh⟩:=bs' hh
 obtain ⟨x2,hx2,hh⟩:=bs' hh
 obtain ⟨x3,hx3,hh⟩:=bs' hh
 refine L0.intro hC Tryz.func57 rfl rfl rfl (s' rfl rfl (E0.n hC rfl (E0.n hC rfl (e' rfl (p' 2 rfl (c' (B1 hx1) rfl rfl (o' 3 rfl (E0.nf hC rfl (E0.s hC rfl (e' rfl (S' (S' (AEx.drawG hC 10 rfl rfl rfl ?_)))))))))))))
 refine G' 6 rfl (AG.c rfl rfl (fun hg=>⟨hg,trivial⟩) (fun hw=>Uz (I1 hw hx2)) (AG.c rfl rfl (fun hg=>⟨hg,hg,hg,trivial⟩) (fun hw=>Ff (I1 hw hx3)) (a1' rfl (pa' rfl (an' (n' (ci' rfl hh (fun hh=>?_) (fun hh=>?_))))))))
 ·cases hh
  exact T' rfl (t' rfl (re' (rt' rfl rfl rfl)))
 cases hh
 exact sk' (t' rfl (re' (rt' rfl rfl rfl)))
def N6 (o0:B0):Option Str:=
 if (bif (o0.Op != 3) then (decide (((o0.Kids).length:Int) > 0)) else false)=true then
  idx o0.Kids 0>>=fun x1=>
  N6 x1
 else
  some o0.Name
 partial_fixpoint
abbrev Yo (o0:B0)(res:Str):Prop:=LM C 18 0 Tryz.f182 [1,0,4] [(1,.ref 0 0)] [.row (B0.cells o0) 34] (Ret [] (.d (.str res)))
theorem Dy:(∀ o0 res,N6 o0=some res→Yo o0 res):=by
 refine N6.partial_correctness _ ?_
 ·intro g0 ih0 o0 res hh
  refine X0.unroll (S' (sg' 9 rfl (G' 5 rfl (a1' rfl (AG.qe hC rfl (fun hg=>⟨⟨hg,trivial⟩,trivial⟩) (B0.lenA _) (a1' rfl (pa' rfl (an' (n' (ci' rfl hh (fun hh=>?_) (fun hh=>?_)))))))))))
  ·obtain ⟨x1,hx1,hh⟩:=bs' hh
   exact sk' (bk' (P' 2 rfl (i' rfl (T0 hx1) (B0.idx hx1) rfl (q' rfl (E0.s hC rfl (n' (lw' (ih0 _ _ hh) rfl rfl rfl)))))))
  cases hh
  exact ex' (t' rfl (re' (rt' rfl rfl rfl)))
theorem Vz {o0 res}(hh:N6 o0=some res):Yo o0 res:=(Dy) _ _ hh
def Sk (e:B0):Option Str:=
 N6 e
theorem X16 {e res}(hh:Sk e=some res):L0 C 182 [.agg (B0.cells e)] [] (Ret [] (.d (.str res))):=by
 unfold Sk at hh
 exact L0.intro hC Tryz.func182 rfl rfl rfl (s' rfl rfl (E0.n hC rfl (e' rfl (S' (bk' (fw' (Vz hh) rfl rfl rfl))))))
def O9 (s:Option I0)(e:B0):Option (A0×Int):=
 F3 s e>>=fun x1=>
 if (x1.2 != 0)=true then
  some ((A0.mk 0 0 0 0 [] [] []),x1.2)
 else
  Sk e>>=fun x2=>
  W4 s x2>>=fun x3=>
  if x3.1.fixed=true then
   some ((A0.mk 0 0 0 0 [] [] []),15)
  else
   some (x1.1,0)
theorem Yi {s e res}(hh:O9 s e=some res):L0 C 113 [.d (.bxo (I0.opt s)),.agg (B0.cells e)] [] (Ret [] (.tup [.agg (A0.cells res.1),.d (.int .i64 res.2)])):=by
 unfold O9 at hh
 obtain ⟨x1,hx1,hh⟩:=bs' hh
 refine L0.intro hC Tryz.func113 rfl rfl rfl (s' rfl rfl (E0.n hC rfl (E0.nf hC rfl (e' rfl (p' 2 rfl (c' (B1 hx1) rfl rfl (o' 3 rfl (E0.nf hC rfl (E0.s hC rfl (e' rfl (S' (t' rfl (ci' rfl hh (fun hh=>?_) (fun hh=>?_))))))))))))))
 ·cases hh
  exact p' 2 rfl (E0.s hC rfl (e' rfl (re' (rt' rfl rfl rfl))))
 obtain ⟨x2,hx2,hh⟩:=bs' hh
 obtain ⟨x3,hx3,hh⟩:=bs' hh
 refine sk' (S' (p' 2 rfl (c' (X16 hx2) rfl rfl (c' (Wd hx3) rfl rfl (o' 3 rfl (E0.nf hC rfl (E0.s hC rfl (e' rfl (t' rfl (ci' rfl hh (fun hh=>?_) (fun hh=>?_)))))))))))
 ·cases hh
  exact p' 1 rfl (E0.s hC rfl (e' rfl (re' (rt' rfl rfl rfl))))
 cases hh
 exact sk' (p' 1 rfl (E0.s hC rfl (e' rfl (re' (rt' rfl rfl rfl)))))
def B3 (kind:Int)(name:Str)(x1:List D0)(v19:Int):Option Int:=
 if (decide (v19 < ((x1).length:Int)))=true then
  idx x1 v19>>=fun x2=>
  if (bif (x2.Kind == kind) then (x2.Name == name) else false)=true then
   some v19
  else
   B3 kind name x1 (IntKind.i64.wrap (v19+1))
 else
  some (-1)
 partial_fixpoint
abbrev Qh (kind:Int)(name:Str)(x1:List D0)(v19:Int)(res:Int):Prop:=LM C 36 0 Tryz.f183 [1,0,1,4] [(1,.d (.int .i64 kind)),(2,.d (.str name)),(17,.d (.sl (D0.rows x1))),(18,.d (.int .i64 ((x1).length:Int))),(19,.d (.int .i64 v19))] [] (Ret [] (.d (.int .i64 res)))
theorem Ro (kind:Int)(name:Str)(x1:List D0):(∀ v19 res,B3 kind name x1 v19=some res→Qh kind name x1 v19 res):=by
 refine B3.partial_correctness kind name x1 _ ?_
 ·intro g0 ih0 v19 res hh
  refine X0.unroll (t' rfl (S' (ci' rfl hh (fun hh=>?_) (fun hh=>?_))))
  ·obtain ⟨x2,hx2,hh⟩:=bs' hh
   refine sk' (S' (bk' (p' 1 rfl (i' rfl (T0 hx2) (D0.idx hx2) rfl (q' rfl (E0.nf hC rfl (q' rfl (E0.s hC rfl (n' (sg' 10 rfl (G' 6 rfl (a1' rfl (a0' rfl ?_)))))))))))))
   refine a2' rfl (pa' rfl (an' (n' (ci' rfl hh (fun hh=>?_) (fun hh=>?_)))))
   ·cases hh
    exact t' rfl (re' (rt' rfl rfl rfl))
   exact sk' (T' rfl (lw' (ih0 _ _ hh) rfl rfl rfl))
  cases hh
  exact ex' (t' rfl (re' (rt' rfl rfl rfl)))
theorem Rp {kind name x1 v19 res}(hh:B3 kind name x1 v19=some res):Qh kind name x1 v19 res:=(Ro kind name x1) _ _ hh
def L6 (c:J0)(kind:Int)(name:Str)(limit:Int):Option Int:=
 slc c.p.Decls 0 limit>>=fun x1=>
 B3 kind name x1 0
theorem Dj {c kind name limit res}(hh:L6 c kind name limit=some res):L0 C 183 [.d (.box (J0.row c)),.d (.int .i64 kind),.d (.str name),.d (.int .i64 limit)] [] (Ret [] (.d (.int .i64 res))):=by
 unfold L6 at hh
 obtain ⟨x1,hx1,hh⟩:=bs' hh
 exact L0.intro hC Tryz.func183 rfl rfl rfl (t' rfl (S' (p' 6 rfl (E0.dx hC rfl (D0.part hx1) (D0.sz _) (qe' rfl trivial (D0.lenA _) (e' rfl (bk' (fw' (Rp hh) rfl rfl rfl))))))))
def C3 (c:J0)(s:Option I0)(x:C0)(x1:A0×Int)(x3:D0)(x2:Int)(v52:Int):Option Int:=
 if (decide (v52 < ((x.Args).length:Int)))=true then
  idx x.Args v52>>=fun x4=>
  idx x3.Params v52>>=fun x5=>
  P2 c x5.TypeV x2>>=fun x6=>
  K8 s x4 x6>>=fun x7=>
  if (x7 != 0)=true then
   some x7
  else
   C3 c s x x1 x3 x2 (IntKind.i64.wrap (v52+1))
 else
  P2 c x3.TypeV x2>>=fun x8=>
  W5 x8 x1.1 true>>=fun x9=>
  if (!x9)=true then
   some 9
  else
   some 0
 partial_fixpoint
abbrev Rh (c:J0)(s:Option I0)(x:C0)(x1:A0×Int)(x3:D0)(x2:Int)(v52:Int)(res:Int):Prop:=LM C 81 0 Tryz.f114 [1,1,1,1,1,1,1,0,1,4] [(0,.d (.box (J0.row c))),(1,.d (.bxo (I0.opt s))),(7,.ref 1 0),(9,.d (.int .i64 x2)),(10,.ref 2 0),(50,.d (.sl (B0.rows x.Args))),(51,.d (.int .i64 ((x.Args).length:Int))),(52,.d (.int .i64 v52))] [.dead,.row (A0.cells x1.1) 40,.row (D0.cells x3) 59] (Ret [] (.d (.int .i64 res)))
theorem So (c:J0)(s:Option I0)(x:C0)(x1:A0×Int)(x3:D0)(x2:Int):(∀ v52 res,C3 c s x x1 x3 x2 v52=some res→Rh c s x x1 x3 x2 v52 res):=by
 refine C3.partial_correctness c s x x1 x3 x2 _ ?_
 ·intro g0 ih0 v52 res hh
  refine X0.unroll (t' rfl (S' (ci' rfl hh (fun hh=>?_) (fun hh=>?_))))
  ·obtain ⟨x4,hx4,hh⟩:=bs' hh
   obtain ⟨x5,hx5,hh⟩:=bs' hh
   obtain ⟨x6,hx6,hh⟩:=bs' hh
   obtain ⟨x7,hx7,hh⟩:=bs' hh
   refine sk' (S' (bk' (p' 1 rfl (i' rfl (T0 hx4) (B0.idx hx4) rfl (q' rfl (E0.nf hC rfl (q' rfl (E0.s hC rfl (n' (S' (AEx.draw hC 13 rfl rfl rfl (O' 6 rfl (AQ.i hC rfl (T0 hx5) (D0.idx hx5) rfl ?_)))))))))))))
   refine O' 3 rfl (Qc' (A5 hx6) rfl rfl (Qc' (Sf hx7) rfl rfl (E' rfl (n' (t' rfl (ci' rfl hh (fun hh=>?_) (fun hh=>?_)))))))
   ·cases hh
    exact t' rfl (re' (rt' rfl rfl rfl))
   refine sk' (T' rfl ?_)
   refine X0.wk ?_ (ih0 _ _ hh)
   exact ⟨⟨⟨.rfl,rfl⟩,⟨.rfl,rfl⟩,⟨.rfl,rfl⟩,⟨.rfl,rfl⟩,⟨.rfl,rfl⟩,⟨.rfl,rfl⟩,⟨.rfl,rfl⟩,⟨.rfl,rfl⟩,trivial⟩,⟨trivial,⟨rfl,.refl _,rfl⟩,⟨rfl,.refl _,rfl⟩,trivial⟩,rfl⟩
  obtain ⟨x8,hx8,hh⟩:=bs' hh
  obtain ⟨x9,hx9,hh⟩:=bs' hh
  refine ex' (S' (S' (AEx.draw hC 8 rfl rfl rfl (O' 4 rfl (Qc' (A5 hx8) rfl rfl (Q' rfl (Qc' (Ff hx9) rfl rfl (E' rfl (n' (ci' rfl hh (fun hh=>?_) (fun hh=>?_)))))))))))
  ·cases hh
   exact t' rfl (re' (rt' rfl rfl rfl))
  cases hh
  exact sk' (t' rfl (re' (rt' rfl rfl rfl)))
theorem Sp {c s x x1 x3 x2 v52 res}(hh:C3 c s x x1 x3 x2 v52=some res):Rh c s x x1 x3 x2 v52 res:=(So c s x x1 x3 x2) _ _ hh
end Go.Proofs.YtdkabnfphmmmnaaGreatDoor

set_option maxRecDepth 100000
set_option maxHeartbeats 4000000
set_option synthInstance.maxSize 20000
set_option linter.unusedVariables false
namespace Go.Proofs.YtdkabnfphmmmnaaGreatDoor
open Go.Am
def F9 (c:J0)(s:Option I0)(x:C0):Option Int:=
 O9 s x.Place>>=fun x1=>
 if (x1.2 != 0)=true then
  some x1.2
 else
  L6 c 6 x.Name c.atV>>=fun x2=>
  if (decide (x2 < 0))=true then
   some 7
  else
   idx c.p.Decls x2>>=fun x3=>
   if (((x.Args).length:Int) != ((x3.Params).length:Int))=true then
    some 2
   else
    C3 c s x x1 x3 x2 0
theorem Ss {c s x res}(hh:F9 c s x=some res):L0 C 114 [.d (.box (J0.row c)),.d (.bxo (I0.opt s)),.agg (C0.cells x)] [] (Ret [] (.d (.int .i64 res))):=by
 unfold F9 at hh
 obtain ⟨x1,hx1,hh⟩:=bs' hh
 refine L0.intro hC Tryz.func114 rfl rfl rfl (s' rfl rfl (E0.n hC rfl (e' rfl (p' 3 rfl (c' (Yi hx1) rfl rfl (o' 3 rfl (E0.nf hC rfl (E0.s hC rfl (e' rfl (S' (t' rfl (ci' rfl hh (fun hh=>?_) (fun hh=>?_)))))))))))))
 ·cases hh
  exact t' rfl (re' (rt' rfl rfl rfl))
 obtain ⟨x2,hx2,hh⟩:=bs' hh
 refine sk' (S' (AEx.draw hC 9 rfl rfl rfl (O' 7 rfl (Qc' (Dj hx2) rfl rfl (E' rfl (n' (S' (t' rfl (ci' rfl hh (fun hh=>?_) (fun hh=>?_))))))))))
 ·cases hh
  exact t' rfl (re' (rt' rfl rfl rfl))
 obtain ⟨x3,hx3,hh⟩:=bs' hh
 refine sk' (p' 6 rfl (i' rfl (T0 hx3) (D0.idx hx3) rfl (q' rfl (E0.nf hC rfl (E0.s hC rfl (n' (S' (p' 2 rfl (qe' rfl trivial (B0.lenA _) (o' 2 rfl (qe' rfl trivial (D0.lenA _) (e' rfl (ci' rfl hh (fun hh=>?_) (fun hh=>?_))))))))))))))
 ·cases hh
  exact t' rfl (re' (rt' rfl rfl rfl))
 refine sk' (S' (p' 2 rfl (qe' rfl trivial (B0.lenA _) (e' rfl (bk' ?_)))))
 refine AEx.ofLoop ?_
 refine X0.wk ?_ (Sp hh)
 exact ⟨⟨⟨.rfl,rfl⟩,⟨.rfl,rfl⟩,⟨.rfl,rfl⟩,⟨.rfl,rfl⟩,⟨.rfl,rfl⟩,⟨.rfl,rfl⟩,⟨.rfl,rfl⟩,⟨.rfl,rfl⟩,trivial⟩,⟨trivial,⟨rfl,.refl _,rfl⟩,⟨rfl,.refl _,rfl⟩,trivial⟩,rfl⟩
def W6 (c:J0)(s:Option I0)(x:C0):Option Int:=
 O9 s x.Place>>=fun x1=>
 if (x1.2 != 0)=true then
  some x1.2
 else
  if c.localV=true then
   some 15
  else
   L6 c 5 x.Name c.atV>>=fun x2=>
   if (decide (x2 < 0))=true then
    some 7
   else
    idx c.p.Decls x2>>=fun x3=>
    P2 c x3.TypeV x2>>=fun x4=>
    W5 x4 x1.1 false>>=fun x5=>
    if (!x5)=true then
     some 9
    else
     some 0
theorem Tp {c s x res}(hh:W6 c s x=some res):L0 C 115 [.d (.box (J0.row c)),.d (.bxo (I0.opt s)),.agg (C0.cells x)] [] (Ret [] (.d (.int .i64 res))):=by
 unfold W6 at hh
 obtain ⟨x1,hx1,hh⟩:=bs' hh
 refine L0.intro hC Tryz.func115 rfl rfl rfl (s' rfl rfl (E0.n hC rfl (e' rfl (p' 3 rfl (c' (Yi hx1) rfl rfl (o' 3 rfl (E0.nf hC rfl (E0.s hC rfl (e' rfl (S' (t' rfl (ci' rfl hh (fun hh=>?_) (fun hh=>?_)))))))))))))
 ·cases hh
  exact t' rfl (re' (rt' rfl rfl rfl))
 refine sk' (S' (t' rfl (ci' rfl hh (fun hh=>?_) (fun hh=>?_))))
 ·cases hh
  exact t' rfl (re' (rt' rfl rfl rfl))
 obtain ⟨x2,hx2,hh⟩:=bs' hh
 refine sk' (S' (AEx.draw hC 9 rfl rfl rfl (O' 7 rfl (Qc' (Dj hx2) rfl rfl (E' rfl (n' (S' (t' rfl (ci' rfl hh (fun hh=>?_) (fun hh=>?_))))))))))
 ·cases hh
  exact t' rfl (re' (rt' rfl rfl rfl))
 obtain ⟨x3,hx3,hh⟩:=bs' hh
 obtain ⟨x4,hx4,hh⟩:=bs' hh
 obtain ⟨x5,hx5,hh⟩:=bs' hh
 refine sk' (S' (S' (AEx.draw hC 15 rfl rfl rfl (O' 7 rfl (AQ.i hC rfl (T0 hx3) (D0.idx hx3) rfl (O' 3 rfl (Qc' (A5 hx4) rfl rfl (Q' rfl (Qc' (Ff hx5) rfl rfl (E' rfl (n' (ci' rfl hh (fun hh=>?_) (fun hh=>?_)))))))))))))
 ·cases hh
  exact t' rfl (re' (rt' rfl rfl rfl))
 cases hh
 exact sk' (t' rfl (re' (rt' rfl rfl rfl)))
def W8 (s:Option I0)(e:B0):Option Int:=
 F3 s e>>=fun x1=>
 if (bif (x1.2 == 0) then (x1.1.Kind != 0) else false)=true then
  some 9
 else
  some x1.2
theorem Kl {s e res}(hh:W8 s e=some res):L0 C 116 [.d (.bxo (I0.opt s)),.agg (B0.cells e)] [] (Ret [] (.d (.int .i64 res))):=by
 unfold W8 at hh
 obtain ⟨x1,hx1,hh⟩:=bs' hh
 refine L0.intro hC Tryz.func116 rfl rfl rfl (s' rfl rfl (E0.n hC rfl (e' rfl (p' 2 rfl (c' (B1 hx1) rfl rfl (o' 3 rfl (E0.nf hC rfl (E0.s hC rfl (e' rfl (S' (sg' 7 rfl (G' 4 rfl (a1' rfl ?_)))))))))))))
 refine a1' rfl (pa' rfl (an' (n' (ci' rfl hh (fun hh=>?_) (fun hh=>?_)))))
 ·cases hh
  exact T' rfl (t' rfl (re' (rt' rfl rfl rfl)))
 cases hh
 exact sk' (t' rfl (re' (rt' rfl rfl rfl)))
def Tb (s:Option I0)(name:Str):Option Bool:=
 W4 s name>>=fun x1=>
 some x1.2
theorem Sw {s name res}(hh:Tb s name=some res):L0 C 184 [.d (.bxo (I0.opt s)),.d (.str name)] [] (Ret [] (.d (.bool res))):=by
 unfold Tb at hh
 obtain ⟨x1,hx1,hh⟩:=bs' hh
 cases hh
 exact L0.intro hC Tryz.func184 rfl rfl rfl (t' rfl (p' 2 rfl (c' (Wd hx1) rfl rfl (o' 3 rfl (E0.nf hC rfl (E0.s hC rfl (e' rfl (t' rfl (re' (rt' rfl rfl rfl))))))))))
mutual
def U1 (c:J0)(s:Option I0)(l:List C0)(top:Bool):Option Int:=
 M4 c s l top 0
 partial_fixpoint
def M4 (c:J0)(s:Option I0)(l:List C0)(top:Bool)(v14:Int):Option Int:=
 if (decide (v14 < ((l).length:Int)))=true then
  idx l v14>>=fun x1=>
  Ic c s x1 (bif top then (v14 == (IntKind.i64.wrap (((l).length:Int) - 1))) else false)>>=fun x2=>
  if (x2 != 0)=true then
   some x2
  else
   M4 c s l top (IntKind.i64.wrap (v14+1))
 else
  some 0
 partial_fixpoint
def Ic (c:J0)(s:Option I0)(x:C0)(last:Bool):Option Int:=
 if (x.Verb == 0)=true then
  O9 s x.Place>>=fun x1=>
  if (x1.2 != 0)=true then
   some x1.2
  else
   K8 s x.Value x1.1>>=fun x2=>
   some x2
 else
  if (x.Verb == 1)=true then
   F9 c s x>>=fun x3=>
   some x3
  else
   if (x.Verb == 2)=true then
    W6 c s x>>=fun x4=>
    some x4
   else
    if (x.Verb == 3)=true then
     F3 s x.Value>>=fun x5=>
     (if (x5.2 == 0)=true then V5 x5.1 else some default)>>=fun x6=>
     if (bif (x5.2 == 0) then (!x6) else false)=true then
      some 9
     else
      some x5.2
    else
     if (x.Verb == 5)=true then
      W8 s x.Value>>=fun x7=>
      if (x7 != 0)=true then
       some x7
      else
       U1 c s x.Then false>>=fun x10=>
       if (x10 != 0)=true then
        some x10
       else
        U1 c s x.Else false>>=fun x11=>
        some x11
     else
      if (x.Verb == 6)=true then
       W8 s x.Value>>=fun x8=>
       if (x8 != 0)=true then
        some x8
       else
        U1 c s x.Then false>>=fun x12=>
        some x12
      else
       if (x.Verb == 7)=true then
        Eg c s x>>=fun x9=>
        some x9
       else
        if (x.Verb == 8)=true then
         if (!last)=true then
          some 15
         else
          some 0
        else
         some 0
 partial_fixpoint
def Eg (c:J0)(s:Option I0)(x:C0):Option Int:=
 some (mgt x.Name c.names)>>=fun x1=>
 (if (!(x1.getD ebool.zero))=true then Tb s x.Name else some default)>>=fun x2=>
 if (bif (x1.getD ebool.zero) then true else x2)=true then
  some 8
 else
  X3 s>>=fun x3=>
  F2 x.Low x.High>>=fun x4=>
  some (some (I0.mk x3.2 (mpt x.Name (N0.mk x4 true) x3.1)))>>=fun x5=>
  U1 c x5 x.Then false>>=fun x6=>
  some x6
 partial_fixpoint
end
abbrev Ej (c:J0)(s:Option I0)(l:List C0)(top:Bool)(res:Int):Prop:=L0 C 31 [.d (.box (J0.row c)),.d (.bxo (I0.opt s)),.d (.sl (C0.rows l)),.d (.bool top)] [] (Ret [] (.d (.int .i64 res)))
abbrev Up (c:J0)(s:Option I0)(l:List C0)(top:Bool)(v14:Int)(res:Int):Prop:=LM C 35 0 Tryz.f31 [1,0,1,4] [(0,.d (.box (J0.row c))),(1,.d (.bxo (I0.opt s))),(2,.d (.sl (C0.rows l))),(3,.d (.bool top)),(12,.d (.sl (C0.rows l))),(13,.d (.int .i64 ((l).length:Int))),(14,.d (.int .i64 v14))] [] (Ret [] (.d (.int .i64 res)))
abbrev Yt (c:J0)(s:Option I0)(x:C0)(last:Bool)(res:Int):Prop:=L0 C 59 [.d (.box (J0.row c)),.d (.bxo (I0.opt s)),.agg (C0.cells x),.d (.bool last)] [] (Ret [] (.d (.int .i64 res)))
abbrev Zt (c:J0)(s:Option I0)(x:C0)(res:Int):Prop:=L0 C 117 [.d (.box (J0.row c)),.d (.bxo (I0.opt s)),.agg (C0.cells x)] [] (Ret [] (.d (.int .i64 res)))
theorem Pq (c:J0):(∀ s l top res,U1 c s l top=some res→Ej c s l top res)∧(∀ s l top v14 res,M4 c s l top v14=some res→Up c s l top v14 res)∧(∀ s x last res,Ic c s x last=some res→Yt c s x last res)∧(∀ s x res,Eg c s x=some res→Zt c s x res):=by
 refine U1.mutual_partial_correctness c _ _ _ _ ?_ ?_ ?_ ?_
 ·intro g1 ih1 s l top res hh
  exact L0.intro hC Tryz.func31 rfl rfl rfl (t' rfl (S' (p' 1 rfl (qe' rfl trivial (C0.lenA _) (e' rfl (bk' (fw' (ih1 _ _ _ _ _ hh) rfl rfl rfl)))))))
 ·intro g1 g2 ih1 ih2 s l top v14 res hh
  refine X0.unroll (t' rfl (S' (ci' rfl hh (fun hh=>?_) (fun hh=>?_))))
  ·obtain ⟨x1,hx1,hh⟩:=bs' hh
   obtain ⟨x2,hx2,hh⟩:=bs' hh
   refine sk' (S' (bk' (p' 1 rfl (i' rfl (T0 hx1) (C0.idx hx1) rfl (q' rfl (E0.nf hC rfl (q' rfl (E0.s hC rfl (n' (sg' 13 rfl (G' 7 rfl (AG.qe hC rfl (fun hg=>⟨⟨hg,trivial⟩,trivial⟩) (C0.lenA _) (a1' rfl ?_)))))))))))))
   refine a2' rfl (pa' rfl (AG.c rfl rfl (fun _=>trivial) (fun _=>ih2 _ _ _ _ hx2) (a0' rfl (an' (n' (t' rfl (ci' rfl hh (fun hh=>?_) (fun hh=>?_))))))))
   ·cases hh
    exact t' rfl (re' (rt' rfl rfl rfl))
   exact sk' (T' rfl (lw' (ih1 _ _ _ _ _ hh) rfl rfl rfl))
  cases hh
  exact ex' (t' rfl (re' (rt' rfl rfl rfl)))
 ·intro g0 g3 ih0 ih3 s x last res hh
  refine L0.intro hC Tryz.func59 rfl rfl rfl (s' rfl rfl (E0.n hC rfl (e' rfl (S' (t' rfl (bk' (t' rfl (ci' rfl hh (fun hh=>?_) (fun hh=>?_)))))))))
  ·obtain ⟨x1,hx1,hh⟩:=bs' hh
   refine p' 3 rfl (c' (Yi hx1) rfl rfl (o' 3 rfl (E0.nf hC rfl (E0.s hC rfl (e' rfl (S' (t' rfl (ci' rfl hh (fun hh=>?_) (fun hh=>?_)))))))))
   ·cases hh
    exact t' rfl (re' (rt' rfl rfl rfl))
   obtain ⟨x2,hx2,hh⟩:=bs' hh
   cases hh
   exact sk' (p' 4 rfl (c' (Sf hx2) rfl rfl (e' rfl (re' (rt' rfl rfl rfl)))))
  refine t' rfl (ci' rfl hh (fun hh=>?_) (fun hh=>?_))
  ·obtain ⟨x3,hx3,hh⟩:=bs' hh
   cases hh
   exact p' 3 rfl (c' (Ss hx3) rfl rfl (e' rfl (re' (rt' rfl rfl rfl))))
  refine t' rfl (ci' rfl hh (fun hh=>?_) (fun hh=>?_))
  ·obtain ⟨x4,hx4,hh⟩:=bs' hh
   cases hh
   exact p' 3 rfl (c' (Tp hx4) rfl rfl (e' rfl (re' (rt' rfl rfl rfl))))
  refine t' rfl (ci' rfl hh (fun hh=>?_) (fun hh=>?_))
  ·obtain ⟨x5,hx5,hh⟩:=bs' hh
   obtain ⟨x6,hx6,hh⟩:=bs' hh
   refine p' 3 rfl (c' (B1 hx5) rfl rfl (o' 3 rfl (E0.nf hC rfl (E0.s hC rfl (e' rfl (S' (sg' 7 rfl (G' 4 rfl (AG.c rfl rfl (fun hg=>⟨hg,trivial⟩) (fun hw=>Ye (I1 hw hx6)) (a1' rfl (pa' rfl (an' (n' (ci' rfl hh (fun hh=>?_) (fun hh=>?_)))))))))))))))
   ·cases hh
    exact T' rfl (t' rfl (re' (rt' rfl rfl rfl)))
   cases hh
   exact sk' (t' rfl (re' (rt' rfl rfl rfl)))
  refine t' rfl (ci' rfl hh (fun hh=>?_) (fun hh=>?_))
  ·obtain ⟨x7,hx7,hh⟩:=bs' hh
   refine S' (p' 3 rfl (c' (Kl hx7) rfl rfl (e' rfl (t' rfl (ci' rfl hh (fun hh=>?_) (fun hh=>?_))))))
   ·cases hh
    exact t' rfl (re' (rt' rfl rfl rfl))
   obtain ⟨x10,hx10,hh⟩:=bs' hh
   refine sk' (S' (p' 4 rfl (c' (ih0 _ _ _ _ hx10) rfl rfl (e' rfl (t' rfl (ci' rfl hh (fun hh=>?_) (fun hh=>?_)))))))
   ·cases hh
    exact t' rfl (re' (rt' rfl rfl rfl))
   obtain ⟨x11,hx11,hh⟩:=bs' hh
   cases hh
   exact sk' (p' 4 rfl (c' (ih0 _ _ _ _ hx11) rfl rfl (e' rfl (re' (rt' rfl rfl rfl)))))
  refine t' rfl (ci' rfl hh (fun hh=>?_) (fun hh=>?_))
  ·obtain ⟨x8,hx8,hh⟩:=bs' hh
   refine S' (p' 3 rfl (c' (Kl hx8) rfl rfl (e' rfl (t' rfl (ci' rfl hh (fun hh=>?_) (fun hh=>?_))))))
   ·cases hh
    exact t' rfl (re' (rt' rfl rfl rfl))
   obtain ⟨x12,hx12,hh⟩:=bs' hh
   cases hh
   exact sk' (p' 4 rfl (c' (ih0 _ _ _ _ hx12) rfl rfl (e' rfl (re' (rt' rfl rfl rfl)))))
  refine t' rfl (ci' rfl hh (fun hh=>?_) (fun hh=>?_))
  ·obtain ⟨x9,hx9,hh⟩:=bs' hh
   cases hh
   exact p' 3 rfl (c' (ih3 _ _ _ hx9) rfl rfl (e' rfl (re' (rt' rfl rfl rfl))))
  refine t' rfl (ci' rfl hh (fun hh=>?_) (fun hh=>?_))
  ·refine t' rfl (ci' rfl hh (fun hh=>?_) (fun hh=>?_))
   ·cases hh
    exact t' rfl (re' (rt' rfl rfl rfl))
   cases hh
   exact sk' (t' rfl (re' (rt' rfl rfl rfl)))
  cases hh
  exact sk' (t' rfl (re' (rt' rfl rfl rfl)))
 ·intro g0 ih0 s x res hh
  obtain ⟨x1,hx1,hh⟩:=bs' hh
  obtain ⟨x2,hx2,hh⟩:=bs' hh
  refine L0.intro hC Tryz.func117 rfl rfl rfl (s' rfl rfl (E0.n hC rfl (e' rfl (S' (S' (AEx.drawG hC 13 rfl rfl rfl (G' 6 rfl (AG.fl hC rfl rfl (fun _=>trivial) (fun _=>rfl) (ebool.lk hx1) (G' 3 rfl (a1' rfl (AG.c rfl rfl (fun hg=>⟨hg,hg,trivial⟩) (fun hw=>Sw (I1 hw hx2)) (po' rfl (an' ?_)))))))))))))
  refine n' (ci' rfl hh (fun hh=>?_) (fun hh=>?_))
  ·cases hh
   exact t' rfl (re' (rt' rfl rfl rfl))
  obtain ⟨x3,hx3,hh⟩:=bs' hh
  obtain ⟨x4,hx4,hh⟩:=bs' hh
  obtain ⟨x5,hx5,hh⟩:=bs' hh
  obtain ⟨x6,hx6,hh⟩:=bs' hh
  refine sk' (p' 1 rfl (g' [] (Vd hx3) rfl rfl rfl rfl rfl rfl (e' rfl (S' (AEx.draw hC 12 rfl rfl rfl (O' 10 rfl (Qc' (V2 hx4) rfl rfl (E' rfl (E0.ue hC rfl (N0.mput _ (N0.mk x4 true) _) rfl (n' (p' 4 rfl (E0.fm 1 rfl rfl (E0.bx 2 (y:=.bxo (I0.opt x5)) (by cases hx5; exact .inr rfl) rfl rfl rfl ?_)))))))))))))
  refine c' (ih0 _ _ _ _ hx6) rfl rfl (e' rfl ?_)
  cases hh
  exact re' (rt' rfl rfl rfl)
theorem Oi {c s l top res}(hh:U1 c s l top=some res):Ej c s l top res:=(Pq c).1 _ _ _ _ hh
mutual
def P1 (c:J0)(i:Int)(result:A0)(x1:D0)(m21:List (Str×N0))(x2:List (Str×N0)×Option I0)(v34:Int):Option Int:=
 if (decide (v34 < (([x1.Params,x1.Vars]).length:Int)))=true then
  idx [x1.Params,x1.Vars] v34>>=fun x3=>
  U3 c i result x1 m21 x2 v34 x3 0
 else
  some (J0.mk c.p i true c.names)>>=fun x4=>
  some (some (I0.mk x2.2 m21))>>=fun x5=>
  U1 x4 x5 x1.Body false>>=fun x6=>
  if (x6 != 0)=true then
   some x6
  else
   K8 x5 x1.Value result>>=fun x7=>
   some x7
 partial_fixpoint
def U3 (c:J0)(i:Int)(result:A0)(x1:D0)(m2:List (Str×N0))(x2:List (Str×N0)×Option I0)(v341:Int)(x3:List D0)(v40:Int):Option Int:=
 if (decide (v40 < ((x3).length:Int)))=true then
  idx x3 v40>>=fun x8=>
  C4 c x8.TypeV i>>=fun x9=>
  if (x9.2 != 0)=true then
   some x9.2
  else
   U3 c i result x1 (mpt x8.Name (N0.mk x9.1 false) m2) x2 v341 x3 (IntKind.i64.wrap (v40+1))
 else
  P1 c i result x1 m2 x2 (IntKind.i64.wrap (v341+1))
 partial_fixpoint
end
abbrev Df (c:J0)(i:Int)(result:A0)(x1:D0)(m21:List (Str×N0))(x2:List (Str×N0)×Option I0)(v34:Int)(res:Int):Prop:=LM C 83 0 Tryz.f58 [1,1,1,1,0,1,4] [(0,.d (.box (J0.row c))),(1,.d (.int .i64 i)),(5,.ref 0 0),(7,.ref 1 0),(9,.ref 3 0),(32,.full (esl_ApiDecl.rows [x1.Params,x1.Vars])),(33,.d (.int .i64 (([x1.Params,x1.Vars]).length:Int))),(34,.d (.int .i64 v34))] [.row (A0.cells result) 40,.row (D0.cells x1) 59,.map (.s (N0.ents m21)),.row [.d (.bxo (I0.opt x2.2)),.mp 2] 110] (Ret [] (.d (.int .i64 res)))
abbrev Xm (c:J0)(i:Int)(result:A0)(x1:D0)(m2:List (Str×N0))(x2:List (Str×N0)×Option I0)(v341:Int)(x3:List D0)(v40:Int)(res:Int):Prop:=LM C 83 0 Tryz.f58 [1,1,1,1,0,1,4,5,1,1,0,4,1,1,4] [(0,.d (.box (J0.row c))),(1,.d (.int .i64 i)),(5,.ref 0 0),(7,.ref 1 0),(9,.ref 3 0),(32,.full (esl_ApiDecl.rows [x1.Params,x1.Vars])),(33,.d (.int .i64 (([x1.Params,x1.Vars]).length:Int))),(34,.d (.int .i64 v341)),(38,.d (.sl (D0.rows x3))),(39,.d (.int .i64 ((x3).length:Int))),(40,.d (.int .i64 v40))] [.row (A0.cells result) 40,.row (D0.cells x1) 59,.map (.s (N0.ents m2)),.row [.d (.bxo (I0.opt x2.2)),.mp 2] 110] (Ret [] (.d (.int .i64 res)))
theorem Ll (c:J0)(i:Int)(result:A0)(x1:D0)(x2:List (Str×N0)×Option I0):(∀ m21 v34 res,P1 c i result x1 m21 x2 v34=some res→Df c i result x1 m21 x2 v34 res)∧(∀ m2 v341 x3 v40 res,U3 c i result x1 m2 x2 v341 x3 v40=some res→Xm c i result x1 m2 x2 v341 x3 v40 res):=by
 refine P1.mutual_partial_correctness c i result x1 x2 _ _ ?_ ?_
 ·intro g1 ih1 m21 v34 res hh
  refine X0.unroll (t' rfl (S' (ci' rfl hh (fun hh=>?_) (fun hh=>?_))))
  ·obtain ⟨x3,hx3,hh⟩:=bs' hh
   exact sk' (S' (bk' (s' rfl rfl (i' rfl (T0 hx3) (esl_ApiDecl.idx hx3) rfl (e' rfl (p' 1 rfl (qe' rfl trivial (D0.lenA _) (e' rfl (bk' (fw' (ih1 _ _ _ _ _ hh) rfl rfl rfl))))))))))
  obtain ⟨x4,hx4,hh⟩:=bs' hh
  obtain ⟨x5,hx5,hh⟩:=bs' hh
  obtain ⟨x6,hx6,hh⟩:=bs' hh
  refine ex' (p' 3 rfl (E0.nf hC rfl (E0.s hC rfl (n' (p' 2 rfl (E0.s hC rfl (q' rfl (E0.s hC rfl (n' (S' (p' 3 rfl (E0.bx 4 (y:=.box (J0.row x4)) (by cases hx4; exact .inl rfl) rfl rfl rfl (E0.fm 2 rfl rfl ?_)))))))))))))
  refine E0.bx 3 (y:=.bxo (I0.opt x5)) (by cases hx5; exact .inr rfl) rfl rfl rfl (c' (Oi hx6) rfl rfl (e' rfl (t' rfl (ci' rfl hh (fun hh=>?_) (fun hh=>?_)))))
  ·cases hh
   exact t' rfl (re' (rt' rfl rfl rfl))
  obtain ⟨x7,hx7,hh⟩:=bs' hh
  cases hh
  exact sk' (p' 4 rfl (c' (Sf hx7) rfl rfl (e' rfl (re' (rt' rfl rfl rfl)))))
 ·intro g0 g1 ih0 ih1 m2 v341 x3 v40 res hh
  refine X0.unroll (t' rfl (S' (ci' rfl hh (fun hh=>?_) (fun hh=>?_))))
  ·obtain ⟨x8,hx8,hh⟩:=bs' hh
   obtain ⟨x9,hx9,hh⟩:=bs' hh
   refine sk' (S' (bk' (s' rfl rfl (i' rfl (T0 hx8) (D0.idx hx8) rfl (q' rfl (E0.nf hC rfl (E0.s hC rfl (n' (p' 4 rfl (c' (Oc hx9) rfl rfl (o' 3 rfl (E0.nf hC rfl (E0.s hC rfl ?_)))))))))))))
   refine e' rfl (S' (t' rfl (ci' rfl hh (fun hh=>?_) (fun hh=>?_))))
   ·cases hh
    exact t' rfl (re' (rt' rfl rfl rfl))
   exact sk' (AEx.draw hC 8 rfl rfl rfl (E' rfl (E0.ue hC rfl (N0.mput _ (N0.mk x9.1 false) _) rfl (n' (T' rfl (lw' (ih1 _ _ _ _ _ hh) rfl rfl rfl))))))
  exact ex' (T' rfl (lw' (ih0 _ _ _ hh) rfl rfl rfl))
theorem Mm {c i result x1 m21 x2 v34 res}(hh:P1 c i result x1 m21 x2 v34=some res):Df c i result x1 m21 x2 v34 res:=(Ll c i result x1 x2).1 _ _ _ hh
def B6 (c:J0)(i:Int)(result:A0):Option Int:=
 idx c.p.Decls i>>=fun x1=>
 X3 none>>=fun x2=>
 P1 c i result x1 x2.1 x2 0
theorem To {c i result res}(hh:B6 c i result=some res):L0 C 58 [.d (.box (J0.row c)),.d (.int .i64 i),.agg (A0.cells result)] [] (Ret [] (.d (.int .i64 res))):=by
 unfold B6 at hh
 obtain ⟨x1,hx1,hh⟩:=bs' hh
 obtain ⟨x2,hx2,hh⟩:=bs' hh
 refine L0.intro hC Tryz.func58 rfl rfl rfl (s' rfl rfl (E0.n hC rfl (e' rfl (p' 6 rfl (i' rfl (T0 hx1) (D0.idx hx1) rfl (q' rfl (E0.nf hC rfl (E0.s hC rfl (n' (t' rfl (p' 1 rfl (E0.g [] rfl (Vd hx2) ⟨.nbx,trivial⟩ rfl trivial rfl rfl (e' rfl ?_)))))))))))))
 exact S' (p' 4 rfl (E0.be hC rfl (esl_ApiDecl.rows_map [x1.Params,x1.Vars]).symm (qe' rfl trivial (esl_ApiDecl.lenA _) (e' rfl (bk' (fw' (Mm hh) rfl rfl rfl))))))
def G9 (c:J0)(i:Int):Option Int:=
 idx c.p.Decls i>>=fun x1=>
 C4 c x1.TypeV i>>=fun x2=>
 if (x2.2 != 0)=true then
  some x2.2
 else
  if (x1.Kind == 5)=true then
   V5 x2.1>>=fun x3=>
   if (!x3)=true then
    some 9
   else
    D4 c i false>>=fun x4=>
    K8 x4 x1.Value x2.1>>=fun x5=>
    some x5
  else
   if (x1.Kind == 6)=true then
    B6 c i x2.1>>=fun x6=>
    some x6
   else
    some 0
theorem Ts {c i res}(hh:G9 c i=some res):L0 C 30 [.d (.box (J0.row c)),.d (.int .i64 i)] [] (Ret [] (.d (.int .i64 res))):=by
 unfold G9 at hh
 obtain ⟨x1,hx1,hh⟩:=bs' hh
 obtain ⟨x2,hx2,hh⟩:=bs' hh
 refine L0.intro hC Tryz.func30 rfl rfl rfl (t' rfl (p' 6 rfl (i' rfl (T0 hx1) (D0.idx hx1) rfl (q' rfl (E0.nf hC rfl (E0.s hC rfl (n' (p' 4 rfl (c' (Oc hx2) rfl rfl (o' 3 rfl (E0.nf hC rfl (E0.s hC rfl (e' rfl ?_)))))))))))))
 refine S' (t' rfl (ci' rfl hh (fun hh=>?_) (fun hh=>?_)))
 ·cases hh
  exact t' rfl (re' (rt' rfl rfl rfl))
 refine sk' (S' (t' rfl (bk' (t' rfl (ci' rfl hh (fun hh=>?_) (fun hh=>?_))))))
 ·obtain ⟨x3,hx3,hh⟩:=bs' hh
  refine S' (p' 1 rfl (c' (Ye hx3) rfl rfl (e' rfl (ci' rfl hh (fun hh=>?_) (fun hh=>?_)))))
  ·cases hh
   exact t' rfl (re' (rt' rfl rfl rfl))
  obtain ⟨x4,hx4,hh⟩:=bs' hh
  obtain ⟨x5,hx5,hh⟩:=bs' hh
  cases hh
  exact sk' (S' (AEx.draw hC 8 rfl rfl rfl (O' 2 rfl (Qc' (U0 hx4) rfl rfl (O' 3 rfl (Qc' (Sf hx5) rfl rfl (E' rfl (n' (re' (rt' rfl rfl rfl))))))))))
 refine t' rfl (ci' rfl hh (fun hh=>?_) (fun hh=>?_))
 ·obtain ⟨x6,hx6,hh⟩:=bs' hh
  cases hh
  exact p' 3 rfl (c' (To hx6) rfl rfl (e' rfl (re' (rt' rfl rfl rfl))))
 cases hh
 exact sk' (t' rfl (re' (rt' rfl rfl rfl)))
mutual
def Ge (t:A0):Option Bool:=
 (if (!(t.Kind == 4))=true then X5 t.Of else some default)>>=fun x1=>
 some (bif (t.Kind == 4) then true else x1)
 partial_fixpoint
def X5 (s:List A0):Option Bool:=
 Z6 s>>=fun x1=>
 some (decide (x1≥0))
 partial_fixpoint
def Z6 (s:List A0):Option Int:=
 C2 s 0
 partial_fixpoint
def C2 (s:List A0)(v8:Int):Option Int:=
 if (decide (v8 < ((s).length:Int)))=true then
  idx s v8>>=fun x1=>
  Ge x1>>=fun x2=>
  if x2=true then
   some v8
  else
   C2 s (IntKind.i64.wrap (v8+1))
 else
  some (-1)
 partial_fixpoint
end
abbrev S11 (t:A0)(res:Bool):Prop:=L0 C 215 [.agg (A0.cells t)] [] (Ret [] (.d (.bool res)))
abbrev Dh (s:List A0)(res:Bool):Prop:=L0 C 227 [.d (.sl (A0.rows s)),.clo 215 []] [] (Ret [] (.d (.bool res)))
abbrev Pi (s:List A0)(res:Int):Prop:=L0 C 233 [.d (.sl (A0.rows s)),.clo 215 []] [] (Ret [] (.d (.int .i64 res)))
abbrev Eh (s:List A0)(v8:Int)(res:Int):Prop:=LM C 19 0 Tryz.f233 [1,0,1,4] [(0,.d (.sl (A0.rows s))),(1,.clo 215 []),(7,.d (.int .i64 ((s).length:Int))),(8,.d (.int .i64 v8))] [] (Ret [] (.d (.int .i64 res)))
theorem V1a:(∀ t res,Ge t=some res→S11 t res)∧(∀ s res,X5 s=some res→Dh s res)∧(∀ s res,Z6 s=some res→Pi s res)∧(∀ s v8 res,C2 s v8=some res→Eh s v8 res):=by
 refine Ge.mutual_partial_correctness _ _ _ _ ?_ ?_ ?_ ?_
 ·intro g1 ih1 t res hh
  obtain ⟨x1,hx1,hh⟩:=bs' hh
  cases hh
  exact L0.intro hC Tryz.func215 rfl rfl rfl (s' rfl rfl (E0.n hC rfl (e' rfl (sg' 9 rfl (G' 5 rfl (a1' rfl (AG.c rfl rfl (fun hg=>⟨hg,trivial⟩) (fun hw=>ih1 _ _ (I1 hw hx1)) (po' rfl (a0' rfl (an' (n' (re' (rt' rfl rfl rfl)))))))))))))
 ·intro g2 ih2 s res hh
  obtain ⟨x1,hx1,hh⟩:=bs' hh
  cases hh
  exact L0.intro hC Tryz.func227 rfl rfl rfl (t' rfl (p' 2 rfl (c' (ih2 _ _ hx1) rfl rfl (e' rfl (re' (rt' rfl rfl rfl))))))
 ·intro g3 ih3 s res hh
  exact L0.intro hC Tryz.func233 rfl rfl rfl (t' rfl (S' (p' 1 rfl (qe' rfl trivial (A0.lenA _) (e' rfl (bk' (fw' (ih3 _ _ _ hh) rfl rfl rfl)))))))
 ·intro g0 g3 ih0 ih3 s v8 res hh
  refine X0.unroll (t' rfl (S' (ci' rfl hh (fun hh=>?_) (fun hh=>?_))))
  ·obtain ⟨x1,hx1,hh⟩:=bs' hh
   obtain ⟨x2,hx2,hh⟩:=bs' hh
   refine sk' (S' (bk' (t' rfl (p' 3 rfl (i' rfl (T0 hx1) (A0.idx hx1) rfl (q' rfl (c' (ih0 _ _ hx2) rfl rfl (n' (ci' rfl hh (fun hh=>?_) (fun hh=>?_))))))))))
   ·cases hh
    exact t' rfl (re' (rt' rfl rfl rfl))
   exact sk' (T' rfl (lw' (ih3 _ _ _ hh) rfl rfl rfl))
  cases hh
  exact ex' (t' rfl (re' (rt' rfl rfl rfl)))
theorem B1c {t res}(hh:Ge t=some res):S11 t res:=(V1a).1 _ _ hh
def Aq (t:A0):Option Int:=
 Ge t>>=fun x1=>
 if x1=true then
  some 7
 else
  Gc t>>=fun x2=>
  if x2=true then
   some 8
  else
   Oa t>>=fun x3=>
   if (decide (x3 > 32))=true then
    some 4
   else
    some 0
theorem C1c {t res}(hh:Aq t=some res):L0 C 186 [.agg (A0.cells t)] [] (Ret [] (.d (.int .i64 res))):=by
 unfold Aq at hh
 obtain ⟨x1,hx1,hh⟩:=bs' hh
 refine L0.intro hC Tryz.func186 rfl rfl rfl (s' rfl rfl (E0.n hC rfl (e' rfl (S' (p' 1 rfl (c' (B1c hx1) rfl rfl (n' (ci' rfl hh (fun hh=>?_) (fun hh=>?_)))))))))
 ·cases hh
  exact t' rfl (re' (rt' rfl rfl rfl))
 obtain ⟨x2,hx2,hh⟩:=bs' hh
 refine sk' (S' (p' 1 rfl (c' (Ay hx2) rfl rfl (n' (ci' rfl hh (fun hh=>?_) (fun hh=>?_))))))
 ·cases hh
  exact t' rfl (re' (rt' rfl rfl rfl))
 obtain ⟨x3,hx3,hh⟩:=bs' hh
 refine sk' (S' (p' 1 rfl (c' (Cy hx3) rfl rfl (e' rfl (ci' rfl hh (fun hh=>?_) (fun hh=>?_))))))
 ·cases hh
  exact t' rfl (re' (rt' rfl rfl rfl))
 cases hh
 exact sk' (t' rfl (re' (rt' rfl rfl rfl)))
def Ml (t:A0):Option Int:=
 Yb t>>=fun x1=>
 if (x1 != 0)=true then
  some x1
 else
  Aq t>>=fun x2=>
  some x2
theorem D1c {t res}(hh:Ml t=some res):L0 C 118 [.agg (A0.cells t)] [] (Ret [] (.d (.int .i64 res))):=by
 unfold Ml at hh
 obtain ⟨x1,hx1,hh⟩:=bs' hh
 refine L0.intro hC Tryz.func118 rfl rfl rfl (s' rfl rfl (E0.n hC rfl (e' rfl (S' (p' 1 rfl (c' (Xo hx1) rfl rfl (e' rfl (t' rfl (ci' rfl hh (fun hh=>?_) (fun hh=>?_))))))))))
 ·cases hh
  exact t' rfl (re' (rt' rfl rfl rfl))
 obtain ⟨x2,hx2,hh⟩:=bs' hh
 cases hh
 exact sk' (p' 1 rfl (c' (C1c hx2) rfl rfl (e' rfl (re' (rt' rfl rfl rfl)))))
def Kf (s:Str):Option Str:=
 Y1b s>>=fun x1=>
 some x1
theorem Au {s res}(hh:Kf s=some res):L0 C 121 [.d (.str s)] [] (Ret [] (.d (.str res))):=by
 unfold Kf at hh
 obtain ⟨x1,hx1,hh⟩:=bs' hh
 cases hh
 exact L0.intro hC Tryz.func121 rfl rfl rfl (t' rfl (p' 1 rfl (c' (P1l hx1) rfl rfl (e' rfl (re' (rt' rfl rfl rfl))))))
def Pc (path:Str)(a1:Int)(x:A0)(s:List S0):Option (Bool×List S0):=
 if (x.Kind == 0)=true then
  Kf path>>=fun x1=>
  if (decide ((s.length+1) * 41≤140737488355328))=true then
   some (true,(s++[(S0.mk x1 true 0 1)]))
  else none
 else
  if (x.Kind == 1)=true then
   Kf path>>=fun x2=>
   if (decide ((s.length+1) * 41≤140737488355328))=true then
    some (true,(s++[(S0.mk x2 false x.Low x.High)]))
   else none
  else
   some (true,s)
theorem Ey {path a1 x s res}(hh:Pc path a1 x s=some res):L0 C 120 [.d (.str path),.d (.int .i64 a1),.agg (A0.cells x),.ref 0 0] [.row [.osl 1 (S0.rows s)] 113,.tok 117 4] (Ret [.row [.osl 1 (S0.rows res.2)] 113,.tok 117 4] (.d (.bool res.1))):=by
 unfold Pc at hh
 refine L0.intro hC Tryz.func120 rfl rfl rfl (s' rfl rfl (E0.n hC rfl (e' rfl (S' (t' rfl (bk' (t' rfl (ci' rfl hh (fun hh=>?_) (fun hh=>?_)))))))))
 ·obtain ⟨x1,hx1,hh⟩:=bs' hh
  obtain ⟨c11,hh⟩:=J1 hh
  cases hh
  refine AEx.draw hC 5 rfl rfl rfl (O' 2 rfl (Qc' (Au hx1) rfl rfl (Q' rfl (AQ.be hC rfl (S0.rows_map [(S0.mk x1 true 0 1)]).symm (Qn' ?_)))))
  exact E0.ap hC rfl (rs:=S0.rows (s++[(S0.mk x1 true 0 1)])) (S0.app s [(S0.mk x1 true 0 1)]) (S0.sz s) (S0.sz [(S0.mk x1 true 0 1)]) (E3 (S0.len s) (S0.len [(S0.mk x1 true 0 1)]) c11) (E0.s hC rfl (n' (t' rfl (re' (rt' rfl rfl rfl)))))
 refine t' rfl (ci' rfl hh (fun hh=>?_) (fun hh=>?_))
 ·obtain ⟨x2,hx2,hh⟩:=bs' hh
  obtain ⟨c12,hh⟩:=J1 hh
  cases hh
  refine AEx.draw hC 9 rfl rfl rfl (O' 2 rfl (Qc' (Au hx2) rfl rfl (O' 5 rfl (AQ.be hC rfl (S0.rows_map [(S0.mk x2 false x.Low x.High)]).symm (Qn' ?_)))))
  exact E0.ap hC rfl (rs:=S0.rows (s++[(S0.mk x2 false x.Low x.High)])) (S0.app s [(S0.mk x2 false x.Low x.High)]) (S0.sz s) (S0.sz [(S0.mk x2 false x.Low x.High)]) (E3 (S0.len s) (S0.len [(S0.mk x2 false x.Low x.High)]) c12) (E0.s hC rfl (n' (t' rfl (re' (rt' rfl rfl rfl)))))
 cases hh
 exact sk' (t' rfl (re' (rt' rfl rfl rfl)))
mutual
def G5 (path:Str)(t:A0)(s:Int)(s1:List S0):Option (Bool×Int×List S0):=
 Pc path s t s1>>=fun x1=>
 if (!x1.1)=true then
  some (false,s,x1.2)
 else
  if (t.Kind == 2)=true then
   G7 path t s x1.2 0
  else
   if (t.Kind == 3)=true then
    F7 path t s x1.2 0
   else
    some (true,(IntKind.i64.wrap (s+1)),x1.2)
 partial_fixpoint
def F7 (path:Str)(t:A0)(o11:Int)(o31:List S0)(v46:Int):Option (Bool×Int×List S0):=
 if (decide (v46 < ((t.Of).length:Int)))=true then
  idx t.Of v46>>=fun x4=>
  if (decide (path.length+1≤maxLen))=true then
   idx t.Names v46>>=fun x5=>
   if (decide ((path++[46]).length+x5.length≤maxLen))=true then
    G5 ((path++[46])++x5) x4 o11 o31>>=fun x7=>
    if (!x7.1)=true then
     some (false,x7.2.1,x7.2.2)
    else
     F7 path t x7.2.1 x7.2.2 (IntKind.i64.wrap (v46+1))
   else none
  else none
 else
  some (true,o11,o31)
 partial_fixpoint
def G7 (path:Str)(t:A0)(o1:Int)(o3:List S0)(v25:Int):Option (Bool×Int×List S0):=
 if (decide (v25 < t.Size))=true then
  if (decide (path.length+1≤maxLen))=true then
   L1a v25>>=fun x2=>
   if (decide ((path++[46]).length+x2.length≤maxLen))=true then
    idx t.Of 0>>=fun x3=>
    G5 ((path++[46])++x2) x3 o1 o3>>=fun x6=>
    if (!x6.1)=true then
     some (false,x6.2.1,x6.2.2)
    else
     G7 path t x6.2.1 x6.2.2 (IntKind.i64.wrap (v25+1))
   else none
  else none
 else
  some (true,o1,o3)
 partial_fixpoint
end
abbrev Sr (path:Str)(t:A0)(s:Int)(s1:List S0)(res:Bool×Int×List S0):Prop:=L0 C 187 [.d (.str path),.agg (A0.cells t),.ref 0 0,.ref 1 0,.ref 2 0] [.row [.clo 120 [.ref 3 0]] 171,.row [.d (.int .i64 s)] 3,.row [.clo 187 [.ref 0 0,.ref 1 0,.ref 2 0]] 215,.row [.osl 4 (S0.rows s1)] 113,.tok 117 4] (Ret [.row [.clo 120 [.ref 3 0]] 171,.row [.d (.int .i64 res.2.1)] 3,.row [.clo 187 [.ref 0 0,.ref 1 0,.ref 2 0]] 215,.row [.osl 4 (S0.rows res.2.2)] 113,.tok 117 4] (.d (.bool res.1)))
abbrev Wz (path:Str)(t:A0)(o11:Int)(o31:List S0)(v46:Int)(res:Bool×Int×List S0):Prop:=LM C 64 5 Tryz.f187 [1,1,0,1,4,1,3,1,2,1,4] [(0,.d (.str path)),(4,.ref 2 0),(6,.ref 5 0),(44,.d (.sl (A0.rows t.Of))),(45,.d (.int .i64 ((t.Of).length:Int))),(46,.d (.int .i64 v46))] [.row [.clo 120 [.ref 3 0]] 171,.row [.d (.int .i64 o11)] 3,.row [.clo 187 [.ref 0 0,.ref 1 0,.ref 2 0]] 215,.row [.osl 4 (S0.rows o31)] 113,.tok 117 4,.row (A0.cells t) 40] (Ret [.row [.clo 120 [.ref 3 0]] 171,.row [.d (.int .i64 res.2.1)] 3,.row [.clo 187 [.ref 0 0,.ref 1 0,.ref 2 0]] 215,.row [.osl 4 (S0.rows res.2.2)] 113,.tok 117 4] (.d (.bool res.1)))
abbrev Xz (path:Str)(t:A0)(o1:Int)(o3:List S0)(v25:Int)(res:Bool×Int×List S0):Prop:=LM C 64 5 Tryz.f187 [1,1,0,1,4,1,2,1,4] [(0,.d (.str path)),(4,.ref 2 0),(6,.ref 5 0),(24,.d (.int .i64 t.Size)),(25,.d (.int .i64 v25))] [.row [.clo 120 [.ref 3 0]] 171,.row [.d (.int .i64 o1)] 3,.row [.clo 187 [.ref 0 0,.ref 1 0,.ref 2 0]] 215,.row [.osl 4 (S0.rows o3)] 113,.tok 117 4,.row (A0.cells t) 40] (Ret [.row [.clo 120 [.ref 3 0]] 171,.row [.d (.int .i64 res.2.1)] 3,.row [.clo 187 [.ref 0 0,.ref 1 0,.ref 2 0]] 215,.row [.osl 4 (S0.rows res.2.2)] 113,.tok 117 4] (.d (.bool res.1)))
theorem F12:(∀ path t s s1 res,G5 path t s s1=some res→Sr path t s s1 res)∧(∀ path t o11 o31 v46 res,F7 path t o11 o31 v46=some res→Wz path t o11 o31 v46 res)∧(∀ path t o1 o3 v25 res,G7 path t o1 o3 v25=some res→Xz path t o1 o3 v25 res):=by
 refine G5.mutual_partial_correctness _ _ _ ?_ ?_ ?_
 ·intro g1 g2 ih1 ih2 path t s s1 res hh
  obtain ⟨x1,hx1,hh⟩:=bs' hh
  refine L0.intro hC Tryz.func187 rfl rfl rfl (s' rfl rfl (E0.n hC rfl (e' rfl (S' (p' 4 rfl (g' [3,4] (Ey hx1) rfl rfl rfl rfl rfl rfl (e' rfl (ci' rfl hh (fun hh=>?_) (fun hh=>?_)))))))))
  ·cases hh
   exact t' rfl (re' (rt' rfl rfl rfl))
  refine sk' (S' (t' rfl (bk' (t' rfl (ci' rfl hh (fun hh=>?_) (fun hh=>?_))))))
  ·exact t' rfl (bk' (fw' (ih2 _ _ _ _ _ _ hh) rfl rfl rfl))
  refine t' rfl (ci' rfl hh (fun hh=>?_) (fun hh=>?_))
  ·exact p' 2 rfl (qe' rfl trivial (A0.lenA _) (e' rfl (bk' (fw' (ih1 _ _ _ _ _ _ hh) rfl rfl rfl))))
  cases hh
  exact P' 2 rfl (E0.s hC rfl (n' (t' rfl (re' (rt' rfl rfl rfl)))))
 ·intro g0 g1 ih0 ih1 path t o11 o31 v46 res hh
  refine X0.unroll (t' rfl (S' (ci' rfl hh (fun hh=>?_) (fun hh=>?_))))
  ·obtain ⟨x4,hx4,hh⟩:=bs' hh
   obtain ⟨c29,hh⟩:=J1 hh
   obtain ⟨x5,hx5,hh⟩:=bs' hh
   obtain ⟨c30,hh⟩:=J1 hh
   obtain ⟨x7,hx7,hh⟩:=bs' hh
   refine sk' (S' (bk' (p' 1 rfl (i' rfl (T0 hx4) (A0.idx hx4) rfl (q' rfl (E0.nf hC rfl (q' rfl (E0.s hC rfl (n' (S' (AEx.draw hC 10 rfl rfl rfl (O' 2 rfl (AQ.q hC rfl c29 ?_)))))))))))))
   refine O' 3 rfl (AQ.i hC rfl (T0 hx5) (estr.idx hx5) rfl (Q' rfl (AQ.q hC rfl c30 (E' rfl (g' [0,1,2,3,4] (ih0 _ _ _ _ _ hx7) rfl rfl rfl rfl rfl rfl (e' rfl (ci' rfl hh (fun hh=>?_) (fun hh=>?_))))))))
   ·cases hh
    exact t' rfl (re' (rt' rfl rfl rfl))
   exact sk' (T' rfl (lw' (ih1 _ _ _ _ _ _ hh) rfl rfl rfl))
  cases hh
  exact ex' (t' rfl (re' (rt' rfl rfl rfl)))
 ·intro g0 g2 ih0 ih2 path t o1 o3 v25 res hh
  refine X0.unroll (t' rfl (S' (ci' rfl hh (fun hh=>?_) (fun hh=>?_))))
  ·obtain ⟨c27,hh⟩:=J1 hh
   obtain ⟨x2,hx2,hh⟩:=bs' hh
   obtain ⟨c28,hh⟩:=J1 hh
   obtain ⟨x3,hx3,hh⟩:=bs' hh
   obtain ⟨x6,hx6,hh⟩:=bs' hh
   refine sk' (S' (bk' (t' rfl (S' (AEx.draw hC 10 rfl rfl rfl (O' 2 rfl (AQ.q hC rfl c27 (Q' rfl (Qc' (X1n hx2) rfl rfl (AQ.q hC rfl c28 (O' 2 rfl (AQ.i hC rfl (T0 hx3) (A0.idx hx3) rfl (E' rfl ?_)))))))))))))
   refine g' [0,1,2,3,4] (ih0 _ _ _ _ _ hx6) rfl rfl rfl rfl rfl rfl (e' rfl (ci' rfl hh (fun hh=>?_) (fun hh=>?_)))
   ·cases hh
    exact t' rfl (re' (rt' rfl rfl rfl))
   exact sk' (T' rfl (lw' (ih2 _ _ _ _ _ _ hh) rfl rfl rfl))
  cases hh
  exact ex' (t' rfl (re' (rt' rfl rfl rfl)))
theorem N14 {path t s s1 res}(hh:G5 path t s s1=some res):Sr path t s s1 res:=(F12).1 _ _ _ _ _ hh
def Zl (t:A0)(s:List S0):Option (List S0):=
 G5 [] t 0 s>>=fun x1=>
 some x1.2.2
theorem H18 {t s res}(hh:Zl t s=some res):L0 C 119 [.agg (A0.cells t),.clo 120 [.ref 0 0]] [.row [.osl 1 (S0.rows s)] 113,.tok 117 4] (Ret [.row [.osl 1 (S0.rows res)] 113,.tok 117 4] (.tup [])):=by
 unfold Zl at hh
 obtain ⟨x1,hx1,hh⟩:=bs' hh
 cases hh
 refine L0.intro hC Tryz.func119 rfl rfl rfl (s' rfl rfl (E0.n hC rfl (E0.n hC rfl (n' (s' rfl rfl (E0.n hC rfl (E0.s hC rfl (n' (s' rfl rfl (E0.n hC rfl (n' (p' 1 rfl (E0.s hC rfl ?_)))))))))))))
 exact n' (P' 2 rfl (g' [3,4,5,0,1] (N14 hx1) rfl rfl rfl rfl rfl rfl (n' (rn' rfl rfl rfl))))
def Qi (t:A0):Option (List S0×Int):=
 Ml t>>=fun x1=>
 if (x1 != 0)=true then
  some ([],x1)
 else
  Zl t []>>=fun x2=>
  some (x2,0)
theorem I18 {t res}(hh:Qi t=some res):L0 C 62 [.agg (A0.cells t)] [] (Ret [] (.tup [.d (.sl (S0.rows res.1)),.d (.int .i64 res.2)])):=by
 unfold Qi at hh
 obtain ⟨x1,hx1,hh⟩:=bs' hh
 refine L0.intro hC Tryz.func62 rfl rfl rfl (s' rfl rfl (E0.n hC rfl (e' rfl (S' (p' 1 rfl (c' (D1c hx1) rfl rfl (e' rfl (t' rfl (ci' rfl hh (fun hh=>?_) (fun hh=>?_))))))))))
 ·refine t' rfl (re' ?_)
  obtain rfl:=oi' hh
  exact ⟨_,.tup [.d (.sl (S0.rows [])),.d (.int .i64 x1)],[],rfl,(.tupL ⟨.full,.rfl,trivial⟩),trivial,rfl,rfl,rfl,rfl⟩
 obtain ⟨x2,hx2,hh⟩:=bs' hh
 refine sk' (s' rfl rfl (E0.nf hC rfl (E0.tokC 1 0 117 4 rfl rfl rfl rfl rfl (n' (p' 2 rfl (g' [1,2] (H18 hx2) rfl rfl rfl rfl rfl rfl (n' (t' rfl (re' ?_)))))))))
 obtain rfl:=oi' hh
 exact ⟨_,.tup [.d (.sl (S0.rows x2)),.d (.int .i64 0)],[],rfl,(.tupL ⟨.osl,.rfl,trivial⟩),trivial,rfl,rfl,rfl,rfl⟩
def Dd (a:Int)(b:Int):Option Int:=
 some (min (IntKind.i64.wrap (a * b)) 1073741824)
theorem Vj {a b res}(hh:Dd a b=some res):L0 C 63 [.d (.int .i64 a),.d (.int .i64 b)] [] (Ret [] (.d (.int .i64 res))):=by
 unfold Dd at hh
 cases hh
 exact L0.intro hC Tryz.func63 rfl rfl rfl (t' rfl (t' rfl (re' (rt' rfl rfl rfl))))
def Fh (a:Int)(b:Int):Option Int:=
 some (min (IntKind.i64.wrap (a+b)) 1073741824)
theorem Cl {a b res}(hh:Fh a b=some res):L0 C 203 [.d (.int .i64 a),.d (.int .i64 b)] [] (Ret [] (.d (.int .i64 res))):=by
 unfold Fh at hh
 cases hh
 exact L0.intro hC Tryz.func203 rfl rfl rfl (t' rfl (t' rfl (re' (rt' rfl rfl rfl))))
def T7 (a:K0)(b:K0):Option K0:=
 Fh a.steps b.steps>>=fun x1=>
 Fh a.outputs b.outputs>>=fun x2=>
 some (K0.mk x1 x2)
theorem Yk {a b res}(hh:T7 a b=some res):L0 C 164 [.agg (K0.cells a),.agg (K0.cells b)] [] (Ret [] (.agg (K0.cells res))):=by
 unfold T7 at hh
 obtain ⟨x1,hx1,hh⟩:=bs' hh
 obtain ⟨x2,hx2,hh⟩:=bs' hh
 cases hh
 refine L0.intro hC Tryz.func164 rfl rfl rfl (s' rfl rfl (E0.n hC rfl (E0.n hC rfl (E0.n hC rfl (n' (S' (AEx.draw hC 11 rfl rfl rfl (O' 4 rfl (Qc' (Cl hx1) rfl rfl (O' 4 rfl (Qc' (Cl hx2) rfl rfl (E' rfl (E0.s hC rfl ?_)))))))))))))
 exact n' (re' (rt' rfl rfl rfl))
def Gh (a:K0)(b:K0):Option K0:=
 some (K0.mk (max a.steps b.steps) (max a.outputs b.outputs))
theorem Bu {a b res}(hh:Gh a b=some res):L0 C 204 [.agg (K0.cells a),.agg (K0.cells b)] [] (Ret [] (.agg (K0.cells res))):=by
 unfold Gh at hh
 cases hh
 exact L0.intro hC Tryz.func204 rfl rfl rfl (s' rfl rfl (E0.n hC rfl (E0.n hC rfl (E0.n hC rfl (n' (p' 11 rfl (E0.s hC rfl (n' (re' (rt' rfl rfl rfl))))))))))
def Ci (n:Int)(body:K0):Option K0:=
 Fh 1 body.steps>>=fun x1=>
 Dd n x1>>=fun x2=>
 Dd n body.outputs>>=fun x3=>
 some (K0.mk x2 x3)
theorem Zo {n body res}(hh:Ci n body=some res):L0 C 205 [.d (.int .i64 n),.agg (K0.cells body)] [] (Ret [] (.agg (K0.cells res))):=by
 unfold Ci at hh
 obtain ⟨x1,hx1,hh⟩:=bs' hh
 obtain ⟨x2,hx2,hh⟩:=bs' hh
 obtain ⟨x3,hx3,hh⟩:=bs' hh
 cases hh
 refine L0.intro hC Tryz.func205 rfl rfl rfl (s' rfl rfl (E0.n hC rfl (E0.n hC rfl (n' (S' (AEx.draw hC 10 rfl rfl rfl (O' 3 rfl (Qc' (Cl hx1) rfl rfl (Qc' (Vj hx2) rfl rfl (O' 3 rfl (Qc' (Vj hx3) rfl rfl (E' rfl (E0.s hC rfl ?_)))))))))))))
 exact n' (re' (rt' rfl rfl rfl))
mutual
def V1 (l:List C0)(m:List (Str×K0)):Option K0:=
 N4 l m (K0.mk 0 0) 0
 partial_fixpoint
def N4 (l:List C0)(m:List (Str×K0))(o3:K0)(v11:Int):Option K0:=
 if (decide (v11 < ((l).length:Int)))=true then
  idx l v11>>=fun x1=>
  T7 o3 (K0.mk 1 0)>>=fun x2=>
  Jc x1 m>>=fun x3=>
  T7 x2 x3>>=fun x4=>
  N4 l m x4 (IntKind.i64.wrap (v11+1))
 else
  some o3
 partial_fixpoint
def Jc (x:C0)(m:List (Str×K0)):Option K0:=
 if (x.Verb == 3)=true then
  some (K0.mk 0 1)
 else
  if (x.Verb == 1)=true then
   some (mgt x.Name m)>>=fun x1=>
   some (x1.getD K0.zero)
  else
   if (x.Verb == 5)=true then
    V1 x.Then m>>=fun x2=>
    V1 x.Else m>>=fun x3=>
    Gh x2 x3>>=fun x4=>
    some x4
   else
    if (x.Verb == 6)=true then
     V1 x.Then m>>=fun x5=>
     Ci x.NV x5>>=fun x6=>
     some x6
    else
     if (x.Verb == 7)=true then
      V1 x.Then m>>=fun x7=>
      Ci (IntKind.i64.wrap ((IntKind.i64.wrap (x.High - x.Low))+1)) x7>>=fun x8=>
      some x8
     else
      some (K0.mk 0 0)
 partial_fixpoint
end
abbrev Fj (l:List C0)(m:List (Str×K0))(res:K0):Prop:=L0 C 97 [.agg [.mp 0],.d (.sl (C0.rows l))] [.map (.s (K0.ents m))] (Ret [.map (.s (K0.ents m))] (.agg (K0.cells res)))
abbrev Vp (l:List C0)(m:List (Str×K0))(o3:K0)(v11:Int)(res:K0):Prop:=LM C 24 1 Tryz.f97 [1,1,0,1,4] [(2,.ref 1 0),(4,.ref 2 0),(5,.ref 3 0),(9,.d (.sl (C0.rows l))),(10,.d (.int .i64 ((l).length:Int))),(11,.d (.int .i64 v11))] [.map (.s (K0.ents m)),.row [.mp 0] 151,.row [.d (.int .i64 0),.d (.int .i64 0)] 85,.row (K0.cells o3) 85] (Ret [.map (.s (K0.ents m))] (.agg (K0.cells res)))
abbrev Cu (x:C0)(m:List (Str×K0))(res:K0):Prop:=L0 C 165 [.agg [.mp 0],.agg (C0.cells x)] [.map (.s (K0.ents m))] (Ret [.map (.s (K0.ents m))] (.agg (K0.cells res)))
theorem Qq (m:List (Str×K0)):(∀ l res,V1 l m=some res→Fj l m res)∧(∀ l o3 v11 res,N4 l m o3 v11=some res→Vp l m o3 v11 res)∧(∀ x res,Jc x m=some res→Cu x m res):=by
 refine V1.mutual_partial_correctness m _ _ _ ?_ ?_ ?_
 ·intro g1 ih1 l res hh
  exact L0.intro hC Tryz.func97 rfl rfl rfl (s' rfl rfl (E0.n hC rfl (E0.n hC rfl (n' (p' 1 rfl (E0.n hC rfl (E0.s hC rfl (n' (S' (p' 1 rfl (qe' rfl trivial (C0.lenA _) (e' rfl (bk' (fw' (ih1 _ _ _ _ hh) rfl rfl rfl))))))))))))))
 ·intro g1 g2 ih1 ih2 l o3 v11 res hh
  refine X0.unroll (t' rfl (S' (ci' rfl hh (fun hh=>?_) (fun hh=>?_))))
  ·obtain ⟨x1,hx1,hh⟩:=bs' hh
   obtain ⟨x2,hx2,hh⟩:=bs' hh
   obtain ⟨x3,hx3,hh⟩:=bs' hh
   obtain ⟨x4,hx4,hh⟩:=bs' hh
   refine sk' (S' (bk' (s' rfl rfl (i' rfl (T0 hx1) (C0.idx hx1) rfl (q' rfl (E0.nf hC rfl (E0.s hC rfl (n' (AEx.draw hC 5 rfl rfl rfl (O' 2 rfl (Qc' (Yk hx2) rfl rfl (E' rfl (g' [0] (ih2 _ _ hx3) rfl rfl rfl rfl rfl rfl ?_)))))))))))))
   exact c' (Yk hx4) rfl rfl (E0.s hC rfl (n' (T' rfl (lw' (ih1 _ _ _ _ hh) rfl rfl rfl))))
  cases hh
  exact ex' (p' 1 rfl (E0.s hC rfl (n' (re' (rt' rfl rfl rfl)))))
 ·intro g0 ih0 x res hh
  refine L0.intro hC Tryz.func165 rfl rfl rfl (s' rfl rfl (E0.n hC rfl (E0.n hC rfl (E0.n hC rfl (n' (S' (t' rfl (bk' (t' rfl (ci' rfl hh (fun hh=>?_) (fun hh=>?_)))))))))))
  ·cases hh
   exact p' 1 rfl (E0.s hC rfl (n' (re' (rt' rfl rfl rfl))))
  refine t' rfl (ci' rfl hh (fun hh=>?_) (fun hh=>?_))
  ·obtain ⟨x1,hx1,hh⟩:=bs' hh
   cases hh
   exact p' 4 rfl (E0.me hC rfl (K0.lk hx1) (E0.s hC rfl (n' (re' (rt' rfl rfl rfl)))))
  refine t' rfl (ci' rfl hh (fun hh=>?_) (fun hh=>?_))
  ·obtain ⟨x2,hx2,hh⟩:=bs' hh
   obtain ⟨x3,hx3,hh⟩:=bs' hh
   obtain ⟨x4,hx4,hh⟩:=bs' hh
   cases hh
   refine S' (AEx.drawL hC 7 [3] [] [[.map (.s (K0.ents m)),.row [.mp 0] 151,.row (C0.cells x) 53,.row [.d (.int .i64 0),.d (.int .i64 0)] 85],[.map (.s (K0.ents m)),.row [.mp 0] 151,.row (C0.cells x) 53,.row [.d (.int .i64 0),.d (.int .i64 0)] 85]] rfl rfl rfl rfl rfl rfl rfl rfl rfl rfl (AS.q hC rfl rfl rfl rfl (AS.q hC rfl rfl rfl rfl (AS.q hC rfl rfl rfl rfl ?_))))
   exact AS.g [0] (ih0 _ _ hx2) rfl rfl rfl rfl rfl rfl rfl rfl rfl rfl rfl rfl (AS.q hC rfl rfl rfl rfl (AS.q hC rfl rfl rfl rfl (AS.q hC rfl rfl rfl rfl (AS.nil (g' [0] (ih0 _ _ hx3) rfl rfl rfl rfl rfl rfl (c' (Bu hx4) rfl rfl (E0.s hC rfl (n' (re' (rt' rfl rfl rfl))))))))))
  refine t' rfl (ci' rfl hh (fun hh=>?_) (fun hh=>?_))
  ·obtain ⟨x5,hx5,hh⟩:=bs' hh
   obtain ⟨x6,hx6,hh⟩:=bs' hh
   cases hh
   refine S' (AEx.drawL hC 6 [5] [] [[.map (.s (K0.ents m)),.row [.mp 0] 151,.row (C0.cells x) 53,.row [.d (.int .i64 0),.d (.int .i64 0)] 85],[.map (.s (K0.ents m)),.row [.mp 0] 151,.row (C0.cells x) 53,.row [.d (.int .i64 0),.d (.int .i64 0)] 85]] rfl rfl rfl rfl rfl rfl rfl rfl rfl rfl (AS.q hC rfl rfl rfl rfl (AS.q hC rfl rfl rfl rfl (AS.q hC rfl rfl rfl rfl ?_))))
   exact AS.q hC rfl rfl rfl rfl (AS.q hC rfl rfl rfl rfl (AS.g [0] (ih0 _ _ hx5) rfl rfl rfl rfl rfl rfl rfl rfl rfl rfl rfl rfl (AS.nil (c' (Zo hx6) rfl rfl (E0.s hC rfl (n' (re' (rt' rfl rfl rfl))))))))
  refine t' rfl (ci' rfl hh (fun hh=>?_) (fun hh=>?_))
  ·obtain ⟨x7,hx7,hh⟩:=bs' hh
   obtain ⟨x8,hx8,hh⟩:=bs' hh
   cases hh
   refine S' (AEx.drawL hC 10 [9] [] [[.map (.s (K0.ents m)),.row [.mp 0] 151,.row (C0.cells x) 53,.row [.d (.int .i64 0),.d (.int .i64 0)] 85],[.map (.s (K0.ents m)),.row [.mp 0] 151,.row (C0.cells x) 53,.row [.d (.int .i64 0),.d (.int .i64 0)] 85]] rfl rfl rfl rfl rfl rfl rfl rfl rfl rfl (AS.q hC rfl rfl rfl rfl (AS.q hC rfl rfl rfl rfl (AS.q hC rfl rfl rfl rfl ?_))))
   iterate 6 refine AS.q hC rfl rfl rfl rfl ?_
   exact AS.g [0] (ih0 _ _ hx7) rfl rfl rfl rfl rfl rfl rfl rfl rfl rfl rfl rfl (AS.nil (c' (Zo hx8) rfl rfl (E0.s hC rfl (n' (re' (rt' rfl rfl rfl))))))
  cases hh
  exact sk' (p' 1 rfl (E0.s hC rfl (n' (re' (rt' rfl rfl rfl)))))
theorem Ri {l m res}(hh:V1 l m=some res):Fj l m res:=(Qq m).1 _ _ hh
def V3 (p:O0)(m2:List (Str×K0))(v11:Int):Option K0:=
 if (decide (v11 < ((p.Decls).length:Int)))=true then
  idx p.Decls v11>>=fun x1=>
  if (x1.Kind == 6)=true then
   V1 x1.Body m2>>=fun x2=>
   V3 p (mpt x1.Name x2 m2) (IntKind.i64.wrap (v11+1))
  else
   V3 p m2 (IntKind.i64.wrap (v11+1))
 else
  V1 p.Body m2>>=fun x3=>
  some x3
 partial_fixpoint
abbrev Nl (p:O0)(m2:List (Str×K0))(v11:Int)(res:K0):Prop:=LM C 31 0 Tryz.f45 [1,1,0,1,4] [(1,.ref 0 0),(2,.ref 1 0),(3,.ref 3 0),(9,.d (.sl (D0.rows p.Decls))),(10,.d (.int .i64 ((p.Decls).length:Int))),(11,.d (.int .i64 v11))] [.row (O0.cells p) 25,.row [.d (.int .i64 0),.d (.int .i64 0)] 85,.map (.s (K0.ents m2)),.row [.mp 2] 151] (Ret [] (.agg (K0.cells res)))
theorem Du (p:O0):(∀ m2 v11 res,V3 p m2 v11=some res→Nl p m2 v11 res):=by
 refine V3.partial_correctness p _ ?_
 ·intro g0 ih0 m2 v11 res hh
  refine X0.unroll (t' rfl (S' (ci' rfl hh (fun hh=>?_) (fun hh=>?_))))
  ·obtain ⟨x1,hx1,hh⟩:=bs' hh
   refine sk' (S' (bk' (s' rfl rfl (i' rfl (T0 hx1) (D0.idx hx1) rfl (q' rfl (E0.nf hC rfl (E0.s hC rfl (n' (t' rfl (ci' rfl hh (fun hh=>?_) (fun hh=>?_)))))))))))
   ·obtain ⟨x2,hx2,hh⟩:=bs' hh
    refine AEx.drawL hC 8 [7] [] [[.row (O0.cells p) 25,.row [.d (.int .i64 0),.d (.int .i64 0)] 85,.map (.s (K0.ents m2)),.row [.mp 2] 151,.row (D0.cells x1) 59],[.row (O0.cells p) 25,.row [.d (.int .i64 0),.d (.int .i64 0)] 85,.map (.s (K0.ents m2)),.row [.mp 2] 151,.row (D0.cells x1) 59]] rfl rfl rfl rfl rfl rfl rfl rfl rfl rfl ?_
    iterate 7 refine AS.q hC rfl rfl rfl rfl ?_
    exact AS.g [2] (Ri hx2) rfl rfl rfl rfl rfl rfl rfl rfl rfl rfl rfl rfl (AS.nil (E0.ue hC rfl (K0.mput _ x2 _) rfl (n' (T' rfl (lw' (ih0 _ _ _ hh) rfl rfl rfl)))))
   exact sk' (T' rfl (lw' (ih0 _ _ _ hh) rfl rfl rfl))
  obtain ⟨x3,hx3,hh⟩:=bs' hh
  cases hh
  exact ex' (p' 3 rfl (g' [2] (Ri hx3) rfl rfl rfl rfl rfl rfl (E0.s hC rfl (n' (re' (rt' rfl rfl rfl))))))
theorem Ev {p m2 v11 res}(hh:V3 p m2 v11=some res):Nl p m2 v11 res:=(Du p) _ _ _ hh
def Nd (p:O0):Option K0:=
 V3 p [] 0
theorem On {p res}(hh:Nd p=some res):L0 C 45 [.agg (O0.cells p)] [] (Ret [] (.agg (K0.cells res))):=by
 unfold Nd at hh
 refine L0.intro hC Tryz.func45 rfl rfl rfl (s' rfl rfl (E0.n hC rfl (E0.n hC rfl (n' (s' rfl rfl (E0.w rfl (q' rfl (E0.n hC rfl (E0.s hC rfl (n' (S' (p' 2 rfl (qe' rfl trivial (D0.lenA _) ?_)))))))))))))
 exact e' rfl (bk' (fw' (Ev hh) rfl rfl rfl))
end Go.Proofs.YtdkabnfphmmmnaaGreatDoor

set_option maxRecDepth 100000
set_option maxHeartbeats 4000000
set_option synthInstance.maxSize 20000
set_option linter.unusedVariables false
namespace Go.Proofs.YtdkabnfphmmmnaaGreatDoor
open Go.Am
mutual
def W1 (c:J0)(m0:List (Int×Int))(scalars:Int)(hatches1:Int)(v23:Int):Option Int:=
 if (decide (v23 < ((c.p.Decls).length:Int)))=true then
  idx c.p.Decls v23>>=fun x1=>
  some (O7 x1.Kind m0)>>=fun x2=>
  if (x1.Kind == 5)=true then
   O5 c m0 x1 scalars (IntKind.i64.wrap (hatches1+1)) v23 x2 v23
  else
   O5 c m0 x1 scalars hatches1 v23 x2 v23
 else
  Nd c.p>>=fun x5=>
  if (decide (scalars > 64))=true then
   if (decide (scalars > 64))=true then
    some 4
   else
    some 0
  else
   if (decide (hatches1 > 8))=true then
    if (decide (hatches1 > 8))=true then
     some 4
    else
     some 0
   else
    some (O7 1 m0)>>=fun x6=>
    if (decide ((x6.getD ei64.zero) > 4096))=true then
     if (decide ((x6.getD ei64.zero) > 4096))=true then
      some 4
     else
      some 0
    else
     some (O7 2 m0)>>=fun x7=>
     if (decide ((x7.getD ei64.zero) > 4096))=true then
      if (decide ((x7.getD ei64.zero) > 4096))=true then
       some 4
      else
       some 0
     else
      some (O7 3 m0)>>=fun x8=>
      if (decide ((x8.getD ei64.zero) > 256))=true then
       if (decide ((x8.getD ei64.zero) > 256))=true then
        some 4
       else
        some 0
      else
       if (decide (x5.steps > 4096))=true then
        if (decide (x5.steps > 4096))=true then
         some 4
        else
         some 0
       else
        if (decide (x5.outputs > 8))=true then
         some 4
        else
         some 0
 partial_fixpoint
def O5 (c:J0)(m01:List (Int×Int))(x1:D0)(scalars1:Int)(hatches:Int)(i:Int)(x2:Option Int)(v231:Int):Option Int:=
 if (bif (!x2.isSome) then (x1.Kind != 4) else false)=true then
  W1 c m01 scalars1 hatches (IntKind.i64.wrap (v231+1))
 else
  P2 c x1.TypeV i>>=fun x3=>
  Qi x3>>=fun x4=>
  M3 c m01 x1 (IntKind.i64.wrap (scalars1+((x4.1).length:Int))) hatches (x2.getD ei64.zero) x2 v231 x4 0
 partial_fixpoint
def M3 (c:J0)(m02:List (Int×Int))(x1:D0)(scalars2:Int)(hatches:Int)(n:Int)(x2:Option Int)(v231:Int)(x4:List S0×Int)(v62:Int):Option Int:=
 if (decide (v62 < ((x4.1).length:Int)))=true then
  idx x4.1 v62>>=fun x9=>
  if x2.isSome=true then
   Dd n (IntKind.i64.wrap ((IntKind.i64.wrap (x9.High - x9.Low))+1))>>=fun x10=>
   M3 c m02 x1 scalars2 hatches x10 x2 v231 x4 (IntKind.i64.wrap (v62+1))
  else
   M3 c m02 x1 scalars2 hatches n x2 v231 x4 (IntKind.i64.wrap (v62+1))
 else
  if x2.isSome=true then
   W1 c (Dn x1.Kind n m02) scalars2 hatches (IntKind.i64.wrap (v231+1))
  else
   W1 c m02 scalars2 hatches (IntKind.i64.wrap (v231+1))
 partial_fixpoint
end
abbrev Ig (c:J0)(m0:List (Int×Int))(scalars:Int)(hatches1:Int)(v23:Int)(res:Int):Prop:=LM C 107 0 Tryz.f33 [1,1,1,0,1,4] [(0,.d (.box (J0.row c))),(3,.d (.int .i64 scalars)),(4,.d (.int .i64 hatches1)),(5,.mp 0),(21,.d (.sl (D0.rows c.p.Decls))),(22,.d (.int .i64 ((c.p.Decls).length:Int))),(23,.d (.int .i64 v23))] [.map (.i .i64 (ei64.entsI m0))] (Ret [] (.d (.int .i64 res)))
abbrev Uo (c:J0)(m01:List (Int×Int))(x1:D0)(scalars1:Int)(hatches:Int)(i:Int)(x2:Option Int)(v231:Int)(res:Int):Prop:=JM C 107 0 Tryz.f33 [1,1,1,0,1,4,5,1,1,0,4,1,1,1] [(0,.d (.box (J0.row c))),(3,.d (.int .i64 scalars1)),(4,.d (.int .i64 hatches)),(5,.mp 0),(6,.d (.int .i64 i)),(7,.ref 1 0),(8,.d (.int .i64 (x2.getD ei64.zero))),(9,.d (.bool x2.isSome)),(21,.d (.sl (D0.rows c.p.Decls))),(22,.d (.int .i64 ((c.p.Decls).length:Int))),(23,.d (.int .i64 v231))] [.map (.i .i64 (ei64.entsI m01)),.row (D0.cells x1) 59] (Ret [] (.d (.int .i64 res)))
abbrev Vo (c:J0)(m02:List (Int×Int))(x1:D0)(scalars2:Int)(hatches:Int)(n:Int)(x2:Option Int)(v231:Int)(x4:List S0×Int)(v62:Int)(res:Int):Prop:=LM C 107 0 Tryz.f33 [1,1,1,0,1,4,5,1,1,0,4,1,1,1,1,1,1,0,1,4] [(0,.d (.box (J0.row c))),(3,.d (.int .i64 scalars2)),(4,.d (.int .i64 hatches)),(5,.mp 0),(7,.ref 1 0),(8,.d (.int .i64 n)),(9,.d (.bool x2.isSome)),(21,.d (.sl (D0.rows c.p.Decls))),(22,.d (.int .i64 ((c.p.Decls).length:Int))),(23,.d (.int .i64 v231)),(60,.d (.sl (S0.rows x4.1))),(61,.d (.int .i64 ((x4.1).length:Int))),(62,.d (.int .i64 v62))] [.map (.i .i64 (ei64.entsI m02)),.row (D0.cells x1) 59] (Ret [] (.d (.int .i64 res)))
theorem Ym (c:J0):(∀ m0 scalars hatches1 v23 res,W1 c m0 scalars hatches1 v23=some res→Ig c m0 scalars hatches1 v23 res)∧(∀ m01 x1 scalars1 hatches i x2 v231 res,O5 c m01 x1 scalars1 hatches i x2 v231=some res→Uo c m01 x1 scalars1 hatches i x2 v231 res)∧(∀ m02 x1 scalars2 hatches n x2 v231 x4 v62 res,M3 c m02 x1 scalars2 hatches n x2 v231 x4 v62=some res→Vo c m02 x1 scalars2 hatches n x2 v231 x4 v62 res):=by
 refine W1.mutual_partial_correctness c _ _ _ ?_ ?_ ?_
 ·intro g1 ih1 m0 scalars hatches1 v23 res hh
  refine X0.unroll (t' rfl (S' (ci' rfl hh (fun hh=>?_) (fun hh=>?_))))
  ·obtain ⟨x1,hx1,hh⟩:=bs' hh
   obtain ⟨x2,hx2,hh⟩:=bs' hh
   refine sk' (S' (bk' (p' 1 rfl (i' rfl (T0 hx1) (D0.idx hx1) rfl (q' rfl (E0.nf hC rfl (q' rfl (E0.s hC rfl (n' (p' 3 rfl (E0.mi hC rfl (ei64.lkIT hx2) (e' rfl (S' ?_)))))))))))))
   refine t' rfl (ci' rfl hh (fun hh=>?_) (fun hh=>?_))
   ·exact T' rfl (ew' (ih1 _ _ _ _ _ _ _ _ hh) rfl rfl rfl)
   exact sk' (ew' (ih1 _ _ _ _ _ _ _ _ hh) rfl rfl rfl)
  obtain ⟨x5,hx5,hh⟩:=bs' hh
  refine ex' (p' 4 rfl (c' (On hx5) rfl rfl (E0.n hC rfl (E0.s hC rfl (n' (S' (bk' (S' (t' rfl (ci' rfl hh (fun hh=>?_) (fun hh=>?_)))))))))))
  ·refine sk' (ci' rfl hh (fun hh=>?_) (fun hh=>?_))
   ·cases hh
    exact t' rfl (re' (rt' rfl rfl rfl))
   cases hh
   exact sk' (t' rfl (re' (rt' rfl rfl rfl)))
  refine t' rfl (ci' rfl hh (fun hh=>?_) (fun hh=>?_))
  ·refine sk' (ci' rfl hh (fun hh=>?_) (fun hh=>?_))
   ·cases hh
    exact t' rfl (re' (rt' rfl rfl rfl))
   cases hh
   exact sk' (t' rfl (re' (rt' rfl rfl rfl)))
  obtain ⟨x6,hx6,hh⟩:=bs' hh
  refine p' 1 rfl (E0.mi hC rfl (ei64.lkI hx6) (e' rfl (ci' rfl hh (fun hh=>?_) (fun hh=>?_))))
  ·refine sk' (ci' rfl hh (fun hh=>?_) (fun hh=>?_))
   ·cases hh
    exact t' rfl (re' (rt' rfl rfl rfl))
   cases hh
   exact sk' (t' rfl (re' (rt' rfl rfl rfl)))
  obtain ⟨x7,hx7,hh⟩:=bs' hh
  refine p' 1 rfl (E0.mi hC rfl (ei64.lkI hx7) (e' rfl (ci' rfl hh (fun hh=>?_) (fun hh=>?_))))
  ·refine sk' (ci' rfl hh (fun hh=>?_) (fun hh=>?_))
   ·cases hh
    exact t' rfl (re' (rt' rfl rfl rfl))
   cases hh
   exact sk' (t' rfl (re' (rt' rfl rfl rfl)))
  obtain ⟨x8,hx8,hh⟩:=bs' hh
  refine p' 1 rfl (E0.mi hC rfl (ei64.lkI hx8) (e' rfl (ci' rfl hh (fun hh=>?_) (fun hh=>?_))))
  ·refine sk' (ci' rfl hh (fun hh=>?_) (fun hh=>?_))
   ·cases hh
    exact t' rfl (re' (rt' rfl rfl rfl))
   cases hh
   exact sk' (t' rfl (re' (rt' rfl rfl rfl)))
  refine t' rfl (ci' rfl hh (fun hh=>?_) (fun hh=>?_))
  ·refine sk' (ci' rfl hh (fun hh=>?_) (fun hh=>?_))
   ·cases hh
    exact t' rfl (re' (rt' rfl rfl rfl))
   cases hh
   exact sk' (t' rfl (re' (rt' rfl rfl rfl)))
  refine T' rfl (ci' rfl hh (fun hh=>?_) (fun hh=>?_))
  ·cases hh
   exact t' rfl (re' (rt' rfl rfl rfl))
  cases hh
  exact sk' (t' rfl (re' (rt' rfl rfl rfl)))
 ·intro g0 g2 ih0 ih2 m01 x1 scalars1 hatches i x2 v231 res hh
  refine S' (sg' 7 rfl (G' 4 rfl (a1' rfl (a1' rfl (pa' rfl (an' (n' (ci' rfl hh (fun hh=>?_) (fun hh=>?_)))))))))
  ·exact ex' (T' rfl (lw' (ih0 _ _ _ _ _ hh) rfl rfl rfl))
  obtain ⟨x3,hx3,hh⟩:=bs' hh
  obtain ⟨x4,hx4,hh⟩:=bs' hh
  exact sk' (p' 4 rfl (c' (A5 hx3) rfl rfl (c' (I18 hx4) rfl rfl (e' rfl (p' 2 rfl (qe' rfl trivial (S0.lenA _) (e' rfl (S' (p' 1 rfl (qe' rfl trivial (S0.lenA _) (e' rfl (bk' (fw' (ih2 _ _ _ _ _ _ _ _ _ _ hh) rfl rfl rfl)))))))))))))
 ·intro g0 g2 ih0 ih2 m02 x1 scalars2 hatches n x2 v231 x4 v62 res hh
  refine X0.unroll (t' rfl (S' (ci' rfl hh (fun hh=>?_) (fun hh=>?_))))
  ·obtain ⟨x9,hx9,hh⟩:=bs' hh
   refine sk' (S' (bk' (s' rfl rfl (i' rfl (T0 hx9) (S0.idx hx9) rfl (q' rfl (E0.n hC rfl (E0.s hC rfl (n' (t' rfl (ci' rfl hh (fun hh=>?_) (fun hh=>?_)))))))))))
   ·obtain ⟨x10,hx10,hh⟩:=bs' hh
    exact P' 7 rfl (c' (Vj hx10) rfl rfl (e' rfl (T' rfl (lw' (ih2 _ _ _ _ _ _ _ _ _ _ hh) rfl rfl rfl))))
   exact sk' (T' rfl (lw' (ih2 _ _ _ _ _ _ _ _ _ _ hh) rfl rfl rfl))
  refine ex' (t' rfl (ci' rfl hh (fun hh=>?_) (fun hh=>?_)))
  ·exact P' 4 rfl (E0.ui hC rfl (ei64.mputI _ n _) rfl (n' (T' rfl (lw' (ih0 _ _ _ _ _ hh) rfl rfl rfl))))
  exact sk' (T' rfl (lw' (ih0 _ _ _ _ _ hh) rfl rfl rfl))
theorem Pn {c m0 scalars hatches1 v23 res}(hh:W1 c m0 scalars hatches1 v23=some res):Ig c m0 scalars hatches1 v23 res:=(Ym c).1 _ _ _ _ _ hh
def Ua (c:J0):Option Int:=
 W1 c (Dn 3 1 (Dn 2 1 (Dn 1 1 []))) 0 0 0
theorem Rq {c res}(hh:Ua c=some res):L0 C 33 [.d (.box (J0.row c))] [] (Ret [] (.d (.int .i64 res))):=by
 unfold Ua at hh
 exact L0.intro hC Tryz.func33 rfl rfl rfl (t' rfl (t' rfl (s' rfl rfl (E0.wi .i64 rfl (E0.ui hC rfl (ei64.mputI _ 1 []) rfl (E0.ui hC rfl (ei64.mputI _ 1 _) rfl (E0.ui hC rfl (ei64.mputI _ 1 _) rfl (e' rfl (S' (p' 5 rfl (qe' rfl trivial (D0.lenA _) (e' rfl (bk' (fw' (Pn hh) rfl rfl rfl))))))))))))))
def R4 (p:O0)(x3:J0)(v46:Int):Option (Int×Int):=
 if (decide (v46 < ((p.Decls).length:Int)))=true then
  G9 x3 v46>>=fun x5=>
  if (x5 != 0)=true then
   some (v46,x5)
  else
   R4 p x3 (IntKind.i64.wrap (v46+1))
 else
  D4 x3 ((p.Decls).length:Int) true>>=fun x6=>
  U1 x3 x6 p.Body true>>=fun x7=>
  if (x7 != 0)=true then
   some ((-1),x7)
  else
   Ua x3>>=fun x8=>
   some ((-1),x8)
 partial_fixpoint
abbrev Qn (p:O0)(x3:J0)(v46:Int)(res:Int×Int):Prop:=LM C 71 0 Tryz.f13 [1,1,1,1,1,0,1,4] [(1,.ref 0 0),(5,.d (.box (J0.row x3))),(45,.d (.int .i64 ((p.Decls).length:Int))),(46,.d (.int .i64 v46))] [.row (O0.cells p) 25] (Ret [] (.tup [.d (.int .i64 res.1),.d (.int .i64 res.2)]))
theorem Tw (p:O0)(x3:J0):(∀ v46 res,R4 p x3 v46=some res→Qn p x3 v46 res):=by
 refine R4.partial_correctness p x3 _ ?_
 ·intro g0 ih0 v46 res hh
  refine X0.unroll (t' rfl (S' (ci' rfl hh (fun hh=>?_) (fun hh=>?_))))
  ·obtain ⟨x5,hx5,hh⟩:=bs' hh
   refine sk' (S' (bk' (t' rfl (p' 2 rfl (c' (Ts hx5) rfl rfl (e' rfl (t' rfl (ci' rfl hh (fun hh=>?_) (fun hh=>?_)))))))))
   ·cases hh
    exact t' rfl (re' (rt' rfl rfl rfl))
   exact sk' (T' rfl (lw' (ih0 _ _ hh) rfl rfl rfl))
  obtain ⟨x6,hx6,hh⟩:=bs' hh
  obtain ⟨x7,hx7,hh⟩:=bs' hh
  refine ex' (S' (S' (AEx.draw hC 10 rfl rfl rfl (O' 4 rfl (AQ.qe hC rfl trivial (D0.lenA _) (Qc' (U0 hx6) rfl rfl (O' 2 rfl (Qc' (Oi hx7) rfl rfl (E' rfl (n' (t' rfl (ci' rfl hh (fun hh=>?_) (fun hh=>?_)))))))))))))
  ·cases hh
   exact t' rfl (re' (rt' rfl rfl rfl))
  obtain ⟨x8,hx8,hh⟩:=bs' hh
  cases hh
  exact sk' (p' 1 rfl (c' (Rq hx8) rfl rfl (e' rfl (re' (rt' rfl rfl rfl)))))
theorem Fy {p x3 v46 res}(hh:R4 p x3 v46=some res):Qn p x3 v46 res:=(Tw p x3) _ _ hh
def P5 (p:O0)(m1:List (Str×Bool))(v27:Int):Option (Int×Int):=
 if (decide (v27 < ((p.Decls).length:Int)))=true then
  idx p.Decls v27>>=fun x2=>
  P5 p (mpt x2.Name true m1) (IntKind.i64.wrap (v27+1))
 else
  some (J0.mk p ((p.Decls).length:Int) false m1)>>=fun x3=>
  N5 x3>>=fun x4=>
  if (decide (x4≥0))=true then
   some (x4,8)
  else
   R4 p x3 0
 partial_fixpoint
abbrev Tn (p:O0)(m1:List (Str×Bool))(v27:Int)(res:Int×Int):Prop:=LM C 71 0 Tryz.f13 [1,1,1,0,1,4] [(1,.ref 0 0),(5,.ref 2 0),(25,.d (.sl (D0.rows p.Decls))),(26,.d (.int .i64 ((p.Decls).length:Int))),(27,.d (.int .i64 v27))] [.row (O0.cells p) 25,.map (.s (ebool.ents m1)),.row [.d (.sl (D0.rows p.Decls)),.d (.sl (C0.rows p.Body)),.d (.int .i64 ((p.Decls).length:Int)),.d (.bool false),.mp 1] 66] (Ret [] (.tup [.d (.int .i64 res.1),.d (.int .i64 res.2)]))
theorem Uw (p:O0):(∀ m1 v27 res,P5 p m1 v27=some res→Tn p m1 v27 res):=by
 refine P5.partial_correctness p _ ?_
 ·intro g0 ih0 m1 v27 res hh
  refine X0.unroll (t' rfl (S' (ci' rfl hh (fun hh=>?_) (fun hh=>?_))))
  ·obtain ⟨x2,hx2,hh⟩:=bs' hh
   exact sk' (S' (bk' (s' rfl rfl (i' rfl (T0 hx2) (D0.idx hx2) rfl (q' rfl (E0.nf hC rfl (E0.s hC rfl (n' (AEx.draw hC 6 rfl rfl rfl (E' rfl (E0.ue hC rfl (ebool.mput _ true _) rfl (n' (T' rfl (lw' (ih0 _ _ _ hh) rfl rfl rfl))))))))))))))
  obtain ⟨x3,hx3,hh⟩:=bs' hh
  obtain ⟨x4,hx4,hh⟩:=bs' hh
  refine ex' (S' (p' 1 rfl (E0.fm 1 rfl rfl (E0.bx 2 (y:=.box (J0.row x3)) (by cases hx3; exact .inl rfl) rfl rfl rfl (c' (Ln hx4) rfl rfl (e' rfl (t' rfl (ci' rfl hh (fun hh=>?_) (fun hh=>?_)))))))))
  ·cases hh
   exact t' rfl (re' (rt' rfl rfl rfl))
  exact sk' (S' (p' 2 rfl (qe' rfl trivial (D0.lenA _) (e' rfl (bk' (fw' (Fy hh) rfl rfl rfl))))))
theorem Gy {p m1 v27 res}(hh:P5 p m1 v27=some res):Tn p m1 v27 res:=(Uw p) _ _ _ hh
def A4 (p:O0):Option (Int×Int):=
 Rj p>>=fun x1=>
 if (x1 != 0)=true then
  some ((-1),x1)
 else
  P5 p [] 0
theorem U9 {p res}(hh:A4 p=some res):L0 C 13 [.agg (O0.cells p)] [] (Ret [] (.tup [.d (.int .i64 res.1),.d (.int .i64 res.2)])):=by
 unfold A4 at hh
 obtain ⟨x1,hx1,hh⟩:=bs' hh
 refine L0.intro hC Tryz.func13 rfl rfl rfl (s' rfl rfl (E0.n hC rfl (e' rfl (S' (p' 1 rfl (c' (P1a hx1) rfl rfl (e' rfl (t' rfl (ci' rfl hh (fun hh=>?_) (fun hh=>?_))))))))))
 ·cases hh
  exact t' rfl (re' (rt' rfl rfl rfl))
 exact sk' (p' 3 rfl (qe' rfl trivial (D0.lenA _) (E0.w rfl (q' rfl (E0.n hC rfl (e' rfl (S' (p' 2 rfl (qe' rfl trivial (D0.lenA _) (e' rfl (bk' (fw' (Gy hh) rfl rfl rfl))))))))))))
def Ue (e:B0):Option Int:=
 Y2 e 1 (F0.mk 0 0 false false false)>>=fun x1=>
 M5 x1>>=fun x2=>
 some x2
theorem G12 {e res}(hh:Ue e=some res):L0 C 41 [.agg (B0.cells e)] [] (Ret [] (.d (.int .i64 res))):=by
 unfold Ue at hh
 obtain ⟨x1,hx1,hh⟩:=bs' hh
 obtain ⟨x2,hx2,hh⟩:=bs' hh
 cases hh
 exact L0.intro hC Tryz.func41 rfl rfl rfl (s' rfl rfl (E0.n hC rfl (e' rfl (p' 1 rfl (E0.n hC rfl (e' rfl (p' 2 rfl (g' [1] (Ah hx1) rfl rfl rfl rfl rfl rfl (n' (p' 1 rfl (g' [1] (Ch hx2) rfl rfl rfl rfl rfl rfl (e' rfl (re' (rt' rfl rfl rfl))))))))))))))
def Ve (p:O0)(e:B0):Option (A0×Int):=
 A4 p>>=fun x1=>
 if (x1.2 != 0)=true then
  some ((A0.mk 0 0 0 0 [] [] []),x1.2)
 else
  Ue e>>=fun x2=>
  if (x2 != 0)=true then
   some ((A0.mk 0 0 0 0 [] [] []),x2)
  else
   some (J0.mk p 0 false [])>>=fun x3=>
   D4 x3 ((p.Decls).length:Int) true>>=fun x4=>
   F3 x4 e>>=fun x5=>
   some (x5.1,x5.2)
theorem H12 {p e res}(hh:Ve p e=some res):L0 C 16 [.agg (O0.cells p),.agg (B0.cells e)] [] (Ret [] (.tup [.agg (A0.cells res.1),.d (.int .i64 res.2)])):=by
 unfold Ve at hh
 obtain ⟨x1,hx1,hh⟩:=bs' hh
 refine L0.intro hC Tryz.func16 rfl rfl rfl (s' rfl rfl (E0.n hC rfl (E0.n hC rfl (E0.nf hC rfl (e' rfl (S' (p' 1 rfl (c' (U9 hx1) rfl rfl (e' rfl (t' rfl (ci' rfl hh (fun hh=>?_) (fun hh=>?_))))))))))))
 ·cases hh
  exact p' 2 rfl (E0.s hC rfl (e' rfl (re' (rt' rfl rfl rfl))))
 obtain ⟨x2,hx2,hh⟩:=bs' hh
 refine sk' (S' (p' 1 rfl (c' (G12 hx2) rfl rfl (e' rfl (t' rfl (ci' rfl hh (fun hh=>?_) (fun hh=>?_)))))))
 ·cases hh
  exact p' 2 rfl (E0.s hC rfl (e' rfl (re' (rt' rfl rfl rfl))))
 obtain ⟨x3,hx3,hh⟩:=bs' hh
 obtain ⟨x4,hx4,hh⟩:=bs' hh
 obtain ⟨x5,hx5,hh⟩:=bs' hh
 refine sk' (p' 2 rfl (E0.n hC rfl (e' rfl (S' (AEx.drawE hC ?_)))))
 refine Q0.step rfl (j0:=0) (js:=[1,5]) (by kernel_rfl) ⟨⟨_,rfl,?_⟩,⟨_,rfl,?_⟩,⟨_,rfl,?_⟩,trivial⟩
 ·refine e' rfl ?_
  refine Q0.step rfl (j0:=1) (js:=[5]) (by kernel_rfl) ⟨⟨_,rfl,?_⟩,⟨_,rfl,?_⟩,trivial⟩
  ·refine e' rfl ?_
   refine Q0.step rfl (j0:=2) (js:=[5]) (by kernel_rfl) ⟨⟨_,rfl,?_⟩,⟨_,rfl,?_⟩,trivial⟩
   ·refine e' rfl ?_
    refine Q0.step rfl (j0:=3) (js:=[5]) (by kernel_rfl) ⟨⟨_,rfl,?_⟩,⟨_,rfl,?_⟩,trivial⟩
    ·refine qe' rfl trivial (D0.lenA _) (n' ?_)
     refine Q0.step rfl (j0:=4) (js:=[5]) (by kernel_rfl) ⟨⟨_,rfl,?_⟩,⟨_,rfl,?_⟩,trivial⟩
     ·refine E0.bx 3 (y:=.box (J0.row x3)) (by cases hx3; exact .inl rfl) rfl rfl rfl (c' (U0 hx4) rfl rfl (n' ?_))
      refine Q0.step rfl (j0:=5) (js:=[]) (by kernel_rfl) ⟨⟨_,rfl,?_⟩,trivial⟩
      refine e' rfl ?_
      refine Q0.step rfl (j0:=6) (js:=[]) (by kernel_rfl) ⟨⟨_,rfl,?_⟩,trivial⟩
      refine c' (B1 hx5) rfl rfl (n' ?_)
      refine Q0.step rfl (j0:=7) (js:=[8]) (by kernel_rfl) ⟨⟨_,rfl,?_⟩,⟨_,rfl,?_⟩,trivial⟩
      ·refine e' rfl ?_
       refine Q0.step rfl (j0:=8) (js:=[]) (by kernel_rfl) ⟨⟨_,rfl,?_⟩,trivial⟩
       refine e' rfl ?_
       refine Q0.step rfl (j0:=9) (js:=[]) (by kernel_rfl) ⟨⟨_,rfl,?_⟩,trivial⟩
       refine E0.s hC rfl (n' ?_)
       refine Q0.step rfl (j0:=10) (js:=[]) (by kernel_rfl) ⟨⟨_,rfl,?_⟩,trivial⟩
       cases hh
       exact e' rfl (Q0.nil (by kernel_rfl) (re' (rt' rfl rfl rfl)))
      ·refine e' rfl ?_
       refine Q0.step rfl (j0:=7) (js:=[]) (by kernel_rfl) ⟨⟨_,rfl,?_⟩,trivial⟩
       refine e' rfl ?_
       refine Q0.step rfl (j0:=9) (js:=[]) (by kernel_rfl) ⟨⟨_,rfl,?_⟩,trivial⟩
       refine E0.s hC rfl (n' ?_)
       refine Q0.step rfl (j0:=10) (js:=[]) (by kernel_rfl) ⟨⟨_,rfl,?_⟩,trivial⟩
       cases hh
       exact e' rfl (Q0.nil (by kernel_rfl) (re' (rt' rfl rfl rfl)))
     ·refine e' rfl ?_
      refine Q0.step rfl (j0:=4) (js:=[]) (by kernel_rfl) ⟨⟨_,rfl,?_⟩,trivial⟩
      refine E0.bx 3 (y:=.box (J0.row x3)) (by cases hx3; exact .inl rfl) rfl rfl rfl (c' (U0 hx4) rfl rfl (n' ?_))
      refine Q0.step rfl (j0:=6) (js:=[]) (by kernel_rfl) ⟨⟨_,rfl,?_⟩,trivial⟩
      refine c' (B1 hx5) rfl rfl (n' ?_)
      refine Q0.step rfl (j0:=7) (js:=[8]) (by kernel_rfl) ⟨⟨_,rfl,?_⟩,⟨_,rfl,?_⟩,trivial⟩
      ·refine e' rfl ?_
       refine Q0.step rfl (j0:=8) (js:=[]) (by kernel_rfl) ⟨⟨_,rfl,?_⟩,trivial⟩
       refine e' rfl ?_
       refine Q0.step rfl (j0:=9) (js:=[]) (by kernel_rfl) ⟨⟨_,rfl,?_⟩,trivial⟩
       refine E0.s hC rfl (n' ?_)
       refine Q0.step rfl (j0:=10) (js:=[]) (by kernel_rfl) ⟨⟨_,rfl,?_⟩,trivial⟩
       cases hh
       exact e' rfl (Q0.nil (by kernel_rfl) (re' (rt' rfl rfl rfl)))
      ·refine e' rfl ?_
       refine Q0.step rfl (j0:=7) (js:=[]) (by kernel_rfl) ⟨⟨_,rfl,?_⟩,trivial⟩
       refine e' rfl ?_
       refine Q0.step rfl (j0:=9) (js:=[]) (by kernel_rfl) ⟨⟨_,rfl,?_⟩,trivial⟩
       refine E0.s hC rfl (n' ?_)
       refine Q0.step rfl (j0:=10) (js:=[]) (by kernel_rfl) ⟨⟨_,rfl,?_⟩,trivial⟩
       cases hh
       exact e' rfl (Q0.nil (by kernel_rfl) (re' (rt' rfl rfl rfl)))
    ·refine e' rfl ?_
     refine Q0.step rfl (j0:=3) (js:=[]) (by kernel_rfl) ⟨⟨_,rfl,?_⟩,trivial⟩
     refine qe' rfl trivial (D0.lenA _) (n' ?_)
     refine Q0.step rfl (j0:=4) (js:=[]) (by kernel_rfl) ⟨⟨_,rfl,?_⟩,trivial⟩
     refine E0.bx 3 (y:=.box (J0.row x3)) (by cases hx3; exact .inl rfl) rfl rfl rfl (c' (U0 hx4) rfl rfl (n' ?_))
     refine Q0.step rfl (j0:=6) (js:=[]) (by kernel_rfl) ⟨⟨_,rfl,?_⟩,trivial⟩
     refine c' (B1 hx5) rfl rfl (n' ?_)
     refine Q0.step rfl (j0:=7) (js:=[8]) (by kernel_rfl) ⟨⟨_,rfl,?_⟩,⟨_,rfl,?_⟩,trivial⟩
     ·refine e' rfl ?_
      refine Q0.step rfl (j0:=8) (js:=[]) (by kernel_rfl) ⟨⟨_,rfl,?_⟩,trivial⟩
      refine e' rfl ?_
      refine Q0.step rfl (j0:=9) (js:=[]) (by kernel_rfl) ⟨⟨_,rfl,?_⟩,trivial⟩
      refine E0.s hC rfl (n' ?_)
      refine Q0.step rfl (j0:=10) (js:=[]) (by kernel_rfl) ⟨⟨_,rfl,?_⟩,trivial⟩
      cases hh
      exact e' rfl (Q0.nil (by kernel_rfl) (re' (rt' rfl rfl rfl)))
     ·refine e' rfl ?_
      refine Q0.step rfl (j0:=7) (js:=[]) (by kernel_rfl) ⟨⟨_,rfl,?_⟩,trivial⟩
      refine e' rfl ?_
      refine Q0.step rfl (j0:=9) (js:=[]) (by kernel_rfl) ⟨⟨_,rfl,?_⟩,trivial⟩
      refine E0.s hC rfl (n' ?_)
      refine Q0.step rfl (j0:=10) (js:=[]) (by kernel_rfl) ⟨⟨_,rfl,?_⟩,trivial⟩
      cases hh
      exact e' rfl (Q0.nil (by kernel_rfl) (re' (rt' rfl rfl rfl)))
   ·refine e' rfl ?_
    refine Q0.step rfl (j0:=2) (js:=[]) (by kernel_rfl) ⟨⟨_,rfl,?_⟩,trivial⟩
    refine e' rfl ?_
    refine Q0.step rfl (j0:=3) (js:=[]) (by kernel_rfl) ⟨⟨_,rfl,?_⟩,trivial⟩
    refine qe' rfl trivial (D0.lenA _) (n' ?_)
    refine Q0.step rfl (j0:=4) (js:=[]) (by kernel_rfl) ⟨⟨_,rfl,?_⟩,trivial⟩
    refine E0.bx 3 (y:=.box (J0.row x3)) (by cases hx3; exact .inl rfl) rfl rfl rfl (c' (U0 hx4) rfl rfl (n' ?_))
    refine Q0.step rfl (j0:=6) (js:=[]) (by kernel_rfl) ⟨⟨_,rfl,?_⟩,trivial⟩
    refine c' (B1 hx5) rfl rfl (n' ?_)
    refine Q0.step rfl (j0:=7) (js:=[8]) (by kernel_rfl) ⟨⟨_,rfl,?_⟩,⟨_,rfl,?_⟩,trivial⟩
    ·refine e' rfl ?_
     refine Q0.step rfl (j0:=8) (js:=[]) (by kernel_rfl) ⟨⟨_,rfl,?_⟩,trivial⟩
     refine e' rfl ?_
     refine Q0.step rfl (j0:=9) (js:=[]) (by kernel_rfl) ⟨⟨_,rfl,?_⟩,trivial⟩
     refine E0.s hC rfl (n' ?_)
     refine Q0.step rfl (j0:=10) (js:=[]) (by kernel_rfl) ⟨⟨_,rfl,?_⟩,trivial⟩
     cases hh
     exact e' rfl (Q0.nil (by kernel_rfl) (re' (rt' rfl rfl rfl)))
    ·refine e' rfl ?_
     refine Q0.step rfl (j0:=7) (js:=[]) (by kernel_rfl) ⟨⟨_,rfl,?_⟩,trivial⟩
     refine e' rfl ?_
     refine Q0.step rfl (j0:=9) (js:=[]) (by kernel_rfl) ⟨⟨_,rfl,?_⟩,trivial⟩
     refine E0.s hC rfl (n' ?_)
     refine Q0.step rfl (j0:=10) (js:=[]) (by kernel_rfl) ⟨⟨_,rfl,?_⟩,trivial⟩
     cases hh
     exact e' rfl (Q0.nil (by kernel_rfl) (re' (rt' rfl rfl rfl)))
  ·refine e' rfl ?_
   refine Q0.step rfl (j0:=1) (js:=[]) (by kernel_rfl) ⟨⟨_,rfl,?_⟩,trivial⟩
   refine e' rfl ?_
   refine Q0.step rfl (j0:=2) (js:=[]) (by kernel_rfl) ⟨⟨_,rfl,?_⟩,trivial⟩
   refine e' rfl ?_
   refine Q0.step rfl (j0:=3) (js:=[]) (by kernel_rfl) ⟨⟨_,rfl,?_⟩,trivial⟩
   refine qe' rfl trivial (D0.lenA _) (n' ?_)
   refine Q0.step rfl (j0:=4) (js:=[]) (by kernel_rfl) ⟨⟨_,rfl,?_⟩,trivial⟩
   refine E0.bx 3 (y:=.box (J0.row x3)) (by cases hx3; exact .inl rfl) rfl rfl rfl (c' (U0 hx4) rfl rfl (n' ?_))
   refine Q0.step rfl (j0:=6) (js:=[]) (by kernel_rfl) ⟨⟨_,rfl,?_⟩,trivial⟩
   refine c' (B1 hx5) rfl rfl (n' ?_)
   refine Q0.step rfl (j0:=7) (js:=[8]) (by kernel_rfl) ⟨⟨_,rfl,?_⟩,⟨_,rfl,?_⟩,trivial⟩
   ·refine e' rfl ?_
    refine Q0.step rfl (j0:=8) (js:=[]) (by kernel_rfl) ⟨⟨_,rfl,?_⟩,trivial⟩
    refine e' rfl ?_
    refine Q0.step rfl (j0:=9) (js:=[]) (by kernel_rfl) ⟨⟨_,rfl,?_⟩,trivial⟩
    refine E0.s hC rfl (n' ?_)
    refine Q0.step rfl (j0:=10) (js:=[]) (by kernel_rfl) ⟨⟨_,rfl,?_⟩,trivial⟩
    cases hh
    exact e' rfl (Q0.nil (by kernel_rfl) (re' (rt' rfl rfl rfl)))
   ·refine e' rfl ?_
    refine Q0.step rfl (j0:=7) (js:=[]) (by kernel_rfl) ⟨⟨_,rfl,?_⟩,trivial⟩
    refine e' rfl ?_
    refine Q0.step rfl (j0:=9) (js:=[]) (by kernel_rfl) ⟨⟨_,rfl,?_⟩,trivial⟩
    refine E0.s hC rfl (n' ?_)
    refine Q0.step rfl (j0:=10) (js:=[]) (by kernel_rfl) ⟨⟨_,rfl,?_⟩,trivial⟩
    cases hh
    exact e' rfl (Q0.nil (by kernel_rfl) (re' (rt' rfl rfl rfl)))
 ·refine e' rfl ?_
  refine Q0.step rfl (j0:=0) (js:=[2,5]) (by kernel_rfl) ⟨⟨_,rfl,?_⟩,⟨_,rfl,?_⟩,⟨_,rfl,?_⟩,trivial⟩
  ·refine e' rfl ?_
   refine Q0.step rfl (j0:=2) (js:=[5]) (by kernel_rfl) ⟨⟨_,rfl,?_⟩,⟨_,rfl,?_⟩,trivial⟩
   ·refine e' rfl ?_
    refine Q0.step rfl (j0:=3) (js:=[5]) (by kernel_rfl) ⟨⟨_,rfl,?_⟩,⟨_,rfl,?_⟩,trivial⟩
    ·refine qe' rfl trivial (D0.lenA _) (n' ?_)
     refine Q0.step rfl (j0:=4) (js:=[5]) (by kernel_rfl) ⟨⟨_,rfl,?_⟩,⟨_,rfl,?_⟩,trivial⟩
     ·refine E0.bx 3 (y:=.box (J0.row x3)) (by cases hx3; exact .inl rfl) rfl rfl rfl (c' (U0 hx4) rfl rfl (n' ?_))
      refine Q0.step rfl (j0:=5) (js:=[]) (by kernel_rfl) ⟨⟨_,rfl,?_⟩,trivial⟩
      refine e' rfl ?_
      refine Q0.step rfl (j0:=6) (js:=[]) (by kernel_rfl) ⟨⟨_,rfl,?_⟩,trivial⟩
      refine c' (B1 hx5) rfl rfl (n' ?_)
      refine Q0.step rfl (j0:=7) (js:=[8]) (by kernel_rfl) ⟨⟨_,rfl,?_⟩,⟨_,rfl,?_⟩,trivial⟩
      ·refine e' rfl ?_
       refine Q0.step rfl (j0:=8) (js:=[]) (by kernel_rfl) ⟨⟨_,rfl,?_⟩,trivial⟩
       refine e' rfl ?_
       refine Q0.step rfl (j0:=9) (js:=[]) (by kernel_rfl) ⟨⟨_,rfl,?_⟩,trivial⟩
       refine E0.s hC rfl (n' ?_)
       refine Q0.step rfl (j0:=10) (js:=[]) (by kernel_rfl) ⟨⟨_,rfl,?_⟩,trivial⟩
       cases hh
       exact e' rfl (Q0.nil (by kernel_rfl) (re' (rt' rfl rfl rfl)))
      ·refine e' rfl ?_
       refine Q0.step rfl (j0:=7) (js:=[]) (by kernel_rfl) ⟨⟨_,rfl,?_⟩,trivial⟩
       refine e' rfl ?_
       refine Q0.step rfl (j0:=9) (js:=[]) (by kernel_rfl) ⟨⟨_,rfl,?_⟩,trivial⟩
       refine E0.s hC rfl (n' ?_)
       refine Q0.step rfl (j0:=10) (js:=[]) (by kernel_rfl) ⟨⟨_,rfl,?_⟩,trivial⟩
       cases hh
       exact e' rfl (Q0.nil (by kernel_rfl) (re' (rt' rfl rfl rfl)))
     ·refine e' rfl ?_
      refine Q0.step rfl (j0:=4) (js:=[]) (by kernel_rfl) ⟨⟨_,rfl,?_⟩,trivial⟩
      refine E0.bx 3 (y:=.box (J0.row x3)) (by cases hx3; exact .inl rfl) rfl rfl rfl (c' (U0 hx4) rfl rfl (n' ?_))
      refine Q0.step rfl (j0:=6) (js:=[]) (by kernel_rfl) ⟨⟨_,rfl,?_⟩,trivial⟩
      refine c' (B1 hx5) rfl rfl (n' ?_)
      refine Q0.step rfl (j0:=7) (js:=[8]) (by kernel_rfl) ⟨⟨_,rfl,?_⟩,⟨_,rfl,?_⟩,trivial⟩
      ·refine e' rfl ?_
       refine Q0.step rfl (j0:=8) (js:=[]) (by kernel_rfl) ⟨⟨_,rfl,?_⟩,trivial⟩
       refine e' rfl ?_
       refine Q0.step rfl (j0:=9) (js:=[]) (by kernel_rfl) ⟨⟨_,rfl,?_⟩,trivial⟩
       refine E0.s hC rfl (n' ?_)
       refine Q0.step rfl (j0:=10) (js:=[]) (by kernel_rfl) ⟨⟨_,rfl,?_⟩,trivial⟩
       cases hh
       exact e' rfl (Q0.nil (by kernel_rfl) (re' (rt' rfl rfl rfl)))
      ·refine e' rfl ?_
       refine Q0.step rfl (j0:=7) (js:=[]) (by kernel_rfl) ⟨⟨_,rfl,?_⟩,trivial⟩
       refine e' rfl ?_
       refine Q0.step rfl (j0:=9) (js:=[]) (by kernel_rfl) ⟨⟨_,rfl,?_⟩,trivial⟩
       refine E0.s hC rfl (n' ?_)
       refine Q0.step rfl (j0:=10) (js:=[]) (by kernel_rfl) ⟨⟨_,rfl,?_⟩,trivial⟩
       cases hh
       exact e' rfl (Q0.nil (by kernel_rfl) (re' (rt' rfl rfl rfl)))
    ·refine e' rfl ?_
     refine Q0.step rfl (j0:=3) (js:=[]) (by kernel_rfl) ⟨⟨_,rfl,?_⟩,trivial⟩
     refine qe' rfl trivial (D0.lenA _) (n' ?_)
     refine Q0.step rfl (j0:=4) (js:=[]) (by kernel_rfl) ⟨⟨_,rfl,?_⟩,trivial⟩
     refine E0.bx 3 (y:=.box (J0.row x3)) (by cases hx3; exact .inl rfl) rfl rfl rfl (c' (U0 hx4) rfl rfl (n' ?_))
     refine Q0.step rfl (j0:=6) (js:=[]) (by kernel_rfl) ⟨⟨_,rfl,?_⟩,trivial⟩
     refine c' (B1 hx5) rfl rfl (n' ?_)
     refine Q0.step rfl (j0:=7) (js:=[8]) (by kernel_rfl) ⟨⟨_,rfl,?_⟩,⟨_,rfl,?_⟩,trivial⟩
     ·refine e' rfl ?_
      refine Q0.step rfl (j0:=8) (js:=[]) (by kernel_rfl) ⟨⟨_,rfl,?_⟩,trivial⟩
      refine e' rfl ?_
      refine Q0.step rfl (j0:=9) (js:=[]) (by kernel_rfl) ⟨⟨_,rfl,?_⟩,trivial⟩
      refine E0.s hC rfl (n' ?_)
      refine Q0.step rfl (j0:=10) (js:=[]) (by kernel_rfl) ⟨⟨_,rfl,?_⟩,trivial⟩
      cases hh
      exact e' rfl (Q0.nil (by kernel_rfl) (re' (rt' rfl rfl rfl)))
     ·refine e' rfl ?_
      refine Q0.step rfl (j0:=7) (js:=[]) (by kernel_rfl) ⟨⟨_,rfl,?_⟩,trivial⟩
      refine e' rfl ?_
      refine Q0.step rfl (j0:=9) (js:=[]) (by kernel_rfl) ⟨⟨_,rfl,?_⟩,trivial⟩
      refine E0.s hC rfl (n' ?_)
      refine Q0.step rfl (j0:=10) (js:=[]) (by kernel_rfl) ⟨⟨_,rfl,?_⟩,trivial⟩
      cases hh
      exact e' rfl (Q0.nil (by kernel_rfl) (re' (rt' rfl rfl rfl)))
   ·refine e' rfl ?_
    refine Q0.step rfl (j0:=2) (js:=[]) (by kernel_rfl) ⟨⟨_,rfl,?_⟩,trivial⟩
    refine e' rfl ?_
    refine Q0.step rfl (j0:=3) (js:=[]) (by kernel_rfl) ⟨⟨_,rfl,?_⟩,trivial⟩
    refine qe' rfl trivial (D0.lenA _) (n' ?_)
    refine Q0.step rfl (j0:=4) (js:=[]) (by kernel_rfl) ⟨⟨_,rfl,?_⟩,trivial⟩
    refine E0.bx 3 (y:=.box (J0.row x3)) (by cases hx3; exact .inl rfl) rfl rfl rfl (c' (U0 hx4) rfl rfl (n' ?_))
    refine Q0.step rfl (j0:=6) (js:=[]) (by kernel_rfl) ⟨⟨_,rfl,?_⟩,trivial⟩
    refine c' (B1 hx5) rfl rfl (n' ?_)
    refine Q0.step rfl (j0:=7) (js:=[8]) (by kernel_rfl) ⟨⟨_,rfl,?_⟩,⟨_,rfl,?_⟩,trivial⟩
    ·refine e' rfl ?_
     refine Q0.step rfl (j0:=8) (js:=[]) (by kernel_rfl) ⟨⟨_,rfl,?_⟩,trivial⟩
     refine e' rfl ?_
     refine Q0.step rfl (j0:=9) (js:=[]) (by kernel_rfl) ⟨⟨_,rfl,?_⟩,trivial⟩
     refine E0.s hC rfl (n' ?_)
     refine Q0.step rfl (j0:=10) (js:=[]) (by kernel_rfl) ⟨⟨_,rfl,?_⟩,trivial⟩
     cases hh
     exact e' rfl (Q0.nil (by kernel_rfl) (re' (rt' rfl rfl rfl)))
    ·refine e' rfl ?_
     refine Q0.step rfl (j0:=7) (js:=[]) (by kernel_rfl) ⟨⟨_,rfl,?_⟩,trivial⟩
     refine e' rfl ?_
     refine Q0.step rfl (j0:=9) (js:=[]) (by kernel_rfl) ⟨⟨_,rfl,?_⟩,trivial⟩
     refine E0.s hC rfl (n' ?_)
     refine Q0.step rfl (j0:=10) (js:=[]) (by kernel_rfl) ⟨⟨_,rfl,?_⟩,trivial⟩
     cases hh
     exact e' rfl (Q0.nil (by kernel_rfl) (re' (rt' rfl rfl rfl)))
  ·refine e' rfl ?_
   refine Q0.step rfl (j0:=0) (js:=[3,5]) (by kernel_rfl) ⟨⟨_,rfl,?_⟩,⟨_,rfl,?_⟩,⟨_,rfl,?_⟩,trivial⟩
   ·refine e' rfl ?_
    refine Q0.step rfl (j0:=3) (js:=[5]) (by kernel_rfl) ⟨⟨_,rfl,?_⟩,⟨_,rfl,?_⟩,trivial⟩
    ·refine qe' rfl trivial (D0.lenA _) (n' ?_)
     refine Q0.step rfl (j0:=4) (js:=[5]) (by kernel_rfl) ⟨⟨_,rfl,?_⟩,⟨_,rfl,?_⟩,trivial⟩
     ·refine E0.bx 3 (y:=.box (J0.row x3)) (by cases hx3; exact .inl rfl) rfl rfl rfl (c' (U0 hx4) rfl rfl (n' ?_))
      refine Q0.step rfl (j0:=5) (js:=[]) (by kernel_rfl) ⟨⟨_,rfl,?_⟩,trivial⟩
      refine e' rfl ?_
      refine Q0.step rfl (j0:=6) (js:=[]) (by kernel_rfl) ⟨⟨_,rfl,?_⟩,trivial⟩
      refine c' (B1 hx5) rfl rfl (n' ?_)
      refine Q0.step rfl (j0:=7) (js:=[8]) (by kernel_rfl) ⟨⟨_,rfl,?_⟩,⟨_,rfl,?_⟩,trivial⟩
      ·refine e' rfl ?_
       refine Q0.step rfl (j0:=8) (js:=[]) (by kernel_rfl) ⟨⟨_,rfl,?_⟩,trivial⟩
       refine e' rfl ?_
       refine Q0.step rfl (j0:=9) (js:=[]) (by kernel_rfl) ⟨⟨_,rfl,?_⟩,trivial⟩
       refine E0.s hC rfl (n' ?_)
       refine Q0.step rfl (j0:=10) (js:=[]) (by kernel_rfl) ⟨⟨_,rfl,?_⟩,trivial⟩
       cases hh
       exact e' rfl (Q0.nil (by kernel_rfl) (re' (rt' rfl rfl rfl)))
      ·refine e' rfl ?_
       refine Q0.step rfl (j0:=7) (js:=[]) (by kernel_rfl) ⟨⟨_,rfl,?_⟩,trivial⟩
       refine e' rfl ?_
       refine Q0.step rfl (j0:=9) (js:=[]) (by kernel_rfl) ⟨⟨_,rfl,?_⟩,trivial⟩
       refine E0.s hC rfl (n' ?_)
       refine Q0.step rfl (j0:=10) (js:=[]) (by kernel_rfl) ⟨⟨_,rfl,?_⟩,trivial⟩
       cases hh
       exact e' rfl (Q0.nil (by kernel_rfl) (re' (rt' rfl rfl rfl)))
     ·refine e' rfl ?_
      refine Q0.step rfl (j0:=4) (js:=[]) (by kernel_rfl) ⟨⟨_,rfl,?_⟩,trivial⟩
      refine E0.bx 3 (y:=.box (J0.row x3)) (by cases hx3; exact .inl rfl) rfl rfl rfl (c' (U0 hx4) rfl rfl (n' ?_))
      refine Q0.step rfl (j0:=6) (js:=[]) (by kernel_rfl) ⟨⟨_,rfl,?_⟩,trivial⟩
      refine c' (B1 hx5) rfl rfl (n' ?_)
      refine Q0.step rfl (j0:=7) (js:=[8]) (by kernel_rfl) ⟨⟨_,rfl,?_⟩,⟨_,rfl,?_⟩,trivial⟩
      ·refine e' rfl ?_
       refine Q0.step rfl (j0:=8) (js:=[]) (by kernel_rfl) ⟨⟨_,rfl,?_⟩,trivial⟩
       refine e' rfl ?_
       refine Q0.step rfl (j0:=9) (js:=[]) (by kernel_rfl) ⟨⟨_,rfl,?_⟩,trivial⟩
       refine E0.s hC rfl (n' ?_)
       refine Q0.step rfl (j0:=10) (js:=[]) (by kernel_rfl) ⟨⟨_,rfl,?_⟩,trivial⟩
       cases hh
       exact e' rfl (Q0.nil (by kernel_rfl) (re' (rt' rfl rfl rfl)))
      ·refine e' rfl ?_
       refine Q0.step rfl (j0:=7) (js:=[]) (by kernel_rfl) ⟨⟨_,rfl,?_⟩,trivial⟩
       refine e' rfl ?_
       refine Q0.step rfl (j0:=9) (js:=[]) (by kernel_rfl) ⟨⟨_,rfl,?_⟩,trivial⟩
       refine E0.s hC rfl (n' ?_)
       refine Q0.step rfl (j0:=10) (js:=[]) (by kernel_rfl) ⟨⟨_,rfl,?_⟩,trivial⟩
       cases hh
       exact e' rfl (Q0.nil (by kernel_rfl) (re' (rt' rfl rfl rfl)))
    ·refine e' rfl ?_
     refine Q0.step rfl (j0:=3) (js:=[]) (by kernel_rfl) ⟨⟨_,rfl,?_⟩,trivial⟩
     refine qe' rfl trivial (D0.lenA _) (n' ?_)
     refine Q0.step rfl (j0:=4) (js:=[]) (by kernel_rfl) ⟨⟨_,rfl,?_⟩,trivial⟩
     refine E0.bx 3 (y:=.box (J0.row x3)) (by cases hx3; exact .inl rfl) rfl rfl rfl (c' (U0 hx4) rfl rfl (n' ?_))
     refine Q0.step rfl (j0:=6) (js:=[]) (by kernel_rfl) ⟨⟨_,rfl,?_⟩,trivial⟩
     refine c' (B1 hx5) rfl rfl (n' ?_)
     refine Q0.step rfl (j0:=7) (js:=[8]) (by kernel_rfl) ⟨⟨_,rfl,?_⟩,⟨_,rfl,?_⟩,trivial⟩
     ·refine e' rfl ?_
      refine Q0.step rfl (j0:=8) (js:=[]) (by kernel_rfl) ⟨⟨_,rfl,?_⟩,trivial⟩
      refine e' rfl ?_
      refine Q0.step rfl (j0:=9) (js:=[]) (by kernel_rfl) ⟨⟨_,rfl,?_⟩,trivial⟩
      refine E0.s hC rfl (n' ?_)
      refine Q0.step rfl (j0:=10) (js:=[]) (by kernel_rfl) ⟨⟨_,rfl,?_⟩,trivial⟩
      cases hh
      exact e' rfl (Q0.nil (by kernel_rfl) (re' (rt' rfl rfl rfl)))
     ·refine e' rfl ?_
      refine Q0.step rfl (j0:=7) (js:=[]) (by kernel_rfl) ⟨⟨_,rfl,?_⟩,trivial⟩
      refine e' rfl ?_
      refine Q0.step rfl (j0:=9) (js:=[]) (by kernel_rfl) ⟨⟨_,rfl,?_⟩,trivial⟩
      refine E0.s hC rfl (n' ?_)
      refine Q0.step rfl (j0:=10) (js:=[]) (by kernel_rfl) ⟨⟨_,rfl,?_⟩,trivial⟩
      cases hh
      exact e' rfl (Q0.nil (by kernel_rfl) (re' (rt' rfl rfl rfl)))
   ·refine qe' rfl trivial (D0.lenA _) (n' ?_)
    refine Q0.step rfl (j0:=0) (js:=[5]) (by kernel_rfl) ⟨⟨_,rfl,?_⟩,⟨_,rfl,?_⟩,trivial⟩
    ·refine e' rfl ?_
     refine Q0.step rfl (j0:=4) (js:=[5]) (by kernel_rfl) ⟨⟨_,rfl,?_⟩,⟨_,rfl,?_⟩,trivial⟩
     ·refine E0.bx 3 (y:=.box (J0.row x3)) (by cases hx3; exact .inl rfl) rfl rfl rfl (c' (U0 hx4) rfl rfl (n' ?_))
      refine Q0.step rfl (j0:=5) (js:=[]) (by kernel_rfl) ⟨⟨_,rfl,?_⟩,trivial⟩
      refine e' rfl ?_
      refine Q0.step rfl (j0:=6) (js:=[]) (by kernel_rfl) ⟨⟨_,rfl,?_⟩,trivial⟩
      refine c' (B1 hx5) rfl rfl (n' ?_)
      refine Q0.step rfl (j0:=7) (js:=[8]) (by kernel_rfl) ⟨⟨_,rfl,?_⟩,⟨_,rfl,?_⟩,trivial⟩
      ·refine e' rfl ?_
       refine Q0.step rfl (j0:=8) (js:=[]) (by kernel_rfl) ⟨⟨_,rfl,?_⟩,trivial⟩
       refine e' rfl ?_
       refine Q0.step rfl (j0:=9) (js:=[]) (by kernel_rfl) ⟨⟨_,rfl,?_⟩,trivial⟩
       refine E0.s hC rfl (n' ?_)
       refine Q0.step rfl (j0:=10) (js:=[]) (by kernel_rfl) ⟨⟨_,rfl,?_⟩,trivial⟩
       cases hh
       exact e' rfl (Q0.nil (by kernel_rfl) (re' (rt' rfl rfl rfl)))
      ·refine e' rfl ?_
       refine Q0.step rfl (j0:=7) (js:=[]) (by kernel_rfl) ⟨⟨_,rfl,?_⟩,trivial⟩
       refine e' rfl ?_
       refine Q0.step rfl (j0:=9) (js:=[]) (by kernel_rfl) ⟨⟨_,rfl,?_⟩,trivial⟩
       refine E0.s hC rfl (n' ?_)
       refine Q0.step rfl (j0:=10) (js:=[]) (by kernel_rfl) ⟨⟨_,rfl,?_⟩,trivial⟩
       cases hh
       exact e' rfl (Q0.nil (by kernel_rfl) (re' (rt' rfl rfl rfl)))
     ·refine e' rfl ?_
      refine Q0.step rfl (j0:=4) (js:=[]) (by kernel_rfl) ⟨⟨_,rfl,?_⟩,trivial⟩
      refine E0.bx 3 (y:=.box (J0.row x3)) (by cases hx3; exact .inl rfl) rfl rfl rfl (c' (U0 hx4) rfl rfl (n' ?_))
      refine Q0.step rfl (j0:=6) (js:=[]) (by kernel_rfl) ⟨⟨_,rfl,?_⟩,trivial⟩
      refine c' (B1 hx5) rfl rfl (n' ?_)
      refine Q0.step rfl (j0:=7) (js:=[8]) (by kernel_rfl) ⟨⟨_,rfl,?_⟩,⟨_,rfl,?_⟩,trivial⟩
      ·refine e' rfl ?_
       refine Q0.step rfl (j0:=8) (js:=[]) (by kernel_rfl) ⟨⟨_,rfl,?_⟩,trivial⟩
       refine e' rfl ?_
       refine Q0.step rfl (j0:=9) (js:=[]) (by kernel_rfl) ⟨⟨_,rfl,?_⟩,trivial⟩
       refine E0.s hC rfl (n' ?_)
       refine Q0.step rfl (j0:=10) (js:=[]) (by kernel_rfl) ⟨⟨_,rfl,?_⟩,trivial⟩
       cases hh
       exact e' rfl (Q0.nil (by kernel_rfl) (re' (rt' rfl rfl rfl)))
      ·refine e' rfl ?_
       refine Q0.step rfl (j0:=7) (js:=[]) (by kernel_rfl) ⟨⟨_,rfl,?_⟩,trivial⟩
       refine e' rfl ?_
       refine Q0.step rfl (j0:=9) (js:=[]) (by kernel_rfl) ⟨⟨_,rfl,?_⟩,trivial⟩
       refine E0.s hC rfl (n' ?_)
       refine Q0.step rfl (j0:=10) (js:=[]) (by kernel_rfl) ⟨⟨_,rfl,?_⟩,trivial⟩
       cases hh
       exact e' rfl (Q0.nil (by kernel_rfl) (re' (rt' rfl rfl rfl)))
    ·refine e' rfl ?_
     refine Q0.step rfl (j0:=0) (js:=[]) (by kernel_rfl) ⟨⟨_,rfl,?_⟩,trivial⟩
     refine e' rfl ?_
     refine Q0.step rfl (j0:=4) (js:=[]) (by kernel_rfl) ⟨⟨_,rfl,?_⟩,trivial⟩
     refine E0.bx 3 (y:=.box (J0.row x3)) (by cases hx3; exact .inl rfl) rfl rfl rfl (c' (U0 hx4) rfl rfl (n' ?_))
     refine Q0.step rfl (j0:=6) (js:=[]) (by kernel_rfl) ⟨⟨_,rfl,?_⟩,trivial⟩
     refine c' (B1 hx5) rfl rfl (n' ?_)
     refine Q0.step rfl (j0:=7) (js:=[8]) (by kernel_rfl) ⟨⟨_,rfl,?_⟩,⟨_,rfl,?_⟩,trivial⟩
     ·refine e' rfl ?_
      refine Q0.step rfl (j0:=8) (js:=[]) (by kernel_rfl) ⟨⟨_,rfl,?_⟩,trivial⟩
      refine e' rfl ?_
      refine Q0.step rfl (j0:=9) (js:=[]) (by kernel_rfl) ⟨⟨_,rfl,?_⟩,trivial⟩
      refine E0.s hC rfl (n' ?_)
      refine Q0.step rfl (j0:=10) (js:=[]) (by kernel_rfl) ⟨⟨_,rfl,?_⟩,trivial⟩
      cases hh
      exact e' rfl (Q0.nil (by kernel_rfl) (re' (rt' rfl rfl rfl)))
     ·refine e' rfl ?_
      refine Q0.step rfl (j0:=7) (js:=[]) (by kernel_rfl) ⟨⟨_,rfl,?_⟩,trivial⟩
      refine e' rfl ?_
      refine Q0.step rfl (j0:=9) (js:=[]) (by kernel_rfl) ⟨⟨_,rfl,?_⟩,trivial⟩
      refine E0.s hC rfl (n' ?_)
      refine Q0.step rfl (j0:=10) (js:=[]) (by kernel_rfl) ⟨⟨_,rfl,?_⟩,trivial⟩
      cases hh
      exact e' rfl (Q0.nil (by kernel_rfl) (re' (rt' rfl rfl rfl)))
   ·refine e' rfl ?_
    refine Q0.step rfl (j0:=0) (js:=[3]) (by kernel_rfl) ⟨⟨_,rfl,?_⟩,⟨_,rfl,?_⟩,trivial⟩
    ·refine e' rfl ?_
     refine Q0.step rfl (j0:=3) (js:=[]) (by kernel_rfl) ⟨⟨_,rfl,?_⟩,trivial⟩
     refine qe' rfl trivial (D0.lenA _) (n' ?_)
     refine Q0.step rfl (j0:=4) (js:=[]) (by kernel_rfl) ⟨⟨_,rfl,?_⟩,trivial⟩
     refine E0.bx 3 (y:=.box (J0.row x3)) (by cases hx3; exact .inl rfl) rfl rfl rfl (c' (U0 hx4) rfl rfl (n' ?_))
     refine Q0.step rfl (j0:=6) (js:=[]) (by kernel_rfl) ⟨⟨_,rfl,?_⟩,trivial⟩
     refine c' (B1 hx5) rfl rfl (n' ?_)
     refine Q0.step rfl (j0:=7) (js:=[8]) (by kernel_rfl) ⟨⟨_,rfl,?_⟩,⟨_,rfl,?_⟩,trivial⟩
     ·refine e' rfl ?_
      refine Q0.step rfl (j0:=8) (js:=[]) (by kernel_rfl) ⟨⟨_,rfl,?_⟩,trivial⟩
      refine e' rfl ?_
      refine Q0.step rfl (j0:=9) (js:=[]) (by kernel_rfl) ⟨⟨_,rfl,?_⟩,trivial⟩
      refine E0.s hC rfl (n' ?_)
      refine Q0.step rfl (j0:=10) (js:=[]) (by kernel_rfl) ⟨⟨_,rfl,?_⟩,trivial⟩
      cases hh
      exact e' rfl (Q0.nil (by kernel_rfl) (re' (rt' rfl rfl rfl)))
     ·refine e' rfl ?_
      refine Q0.step rfl (j0:=7) (js:=[]) (by kernel_rfl) ⟨⟨_,rfl,?_⟩,trivial⟩
      refine e' rfl ?_
      refine Q0.step rfl (j0:=9) (js:=[]) (by kernel_rfl) ⟨⟨_,rfl,?_⟩,trivial⟩
      refine E0.s hC rfl (n' ?_)
      refine Q0.step rfl (j0:=10) (js:=[]) (by kernel_rfl) ⟨⟨_,rfl,?_⟩,trivial⟩
      cases hh
      exact e' rfl (Q0.nil (by kernel_rfl) (re' (rt' rfl rfl rfl)))
    ·refine qe' rfl trivial (D0.lenA _) (n' ?_)
     refine Q0.step rfl (j0:=0) (js:=[]) (by kernel_rfl) ⟨⟨_,rfl,?_⟩,trivial⟩
     refine e' rfl ?_
     refine Q0.step rfl (j0:=4) (js:=[]) (by kernel_rfl) ⟨⟨_,rfl,?_⟩,trivial⟩
     refine E0.bx 3 (y:=.box (J0.row x3)) (by cases hx3; exact .inl rfl) rfl rfl rfl (c' (U0 hx4) rfl rfl (n' ?_))
     refine Q0.step rfl (j0:=6) (js:=[]) (by kernel_rfl) ⟨⟨_,rfl,?_⟩,trivial⟩
     refine c' (B1 hx5) rfl rfl (n' ?_)
     refine Q0.step rfl (j0:=7) (js:=[8]) (by kernel_rfl) ⟨⟨_,rfl,?_⟩,⟨_,rfl,?_⟩,trivial⟩
     ·refine e' rfl ?_
      refine Q0.step rfl (j0:=8) (js:=[]) (by kernel_rfl) ⟨⟨_,rfl,?_⟩,trivial⟩
      refine e' rfl ?_
      refine Q0.step rfl (j0:=9) (js:=[]) (by kernel_rfl) ⟨⟨_,rfl,?_⟩,trivial⟩
      refine E0.s hC rfl (n' ?_)
      refine Q0.step rfl (j0:=10) (js:=[]) (by kernel_rfl) ⟨⟨_,rfl,?_⟩,trivial⟩
      cases hh
      exact e' rfl (Q0.nil (by kernel_rfl) (re' (rt' rfl rfl rfl)))
     ·refine e' rfl ?_
      refine Q0.step rfl (j0:=7) (js:=[]) (by kernel_rfl) ⟨⟨_,rfl,?_⟩,trivial⟩
      refine e' rfl ?_
      refine Q0.step rfl (j0:=9) (js:=[]) (by kernel_rfl) ⟨⟨_,rfl,?_⟩,trivial⟩
      refine E0.s hC rfl (n' ?_)
      refine Q0.step rfl (j0:=10) (js:=[]) (by kernel_rfl) ⟨⟨_,rfl,?_⟩,trivial⟩
      cases hh
      exact e' rfl (Q0.nil (by kernel_rfl) (re' (rt' rfl rfl rfl)))
  ·refine e' rfl ?_
   refine Q0.step rfl (j0:=0) (js:=[2]) (by kernel_rfl) ⟨⟨_,rfl,?_⟩,⟨_,rfl,?_⟩,trivial⟩
   ·refine e' rfl ?_
    refine Q0.step rfl (j0:=2) (js:=[]) (by kernel_rfl) ⟨⟨_,rfl,?_⟩,trivial⟩
    refine e' rfl ?_
    refine Q0.step rfl (j0:=3) (js:=[]) (by kernel_rfl) ⟨⟨_,rfl,?_⟩,trivial⟩
    refine qe' rfl trivial (D0.lenA _) (n' ?_)
    refine Q0.step rfl (j0:=4) (js:=[]) (by kernel_rfl) ⟨⟨_,rfl,?_⟩,trivial⟩
    refine E0.bx 3 (y:=.box (J0.row x3)) (by cases hx3; exact .inl rfl) rfl rfl rfl (c' (U0 hx4) rfl rfl (n' ?_))
    refine Q0.step rfl (j0:=6) (js:=[]) (by kernel_rfl) ⟨⟨_,rfl,?_⟩,trivial⟩
    refine c' (B1 hx5) rfl rfl (n' ?_)
    refine Q0.step rfl (j0:=7) (js:=[8]) (by kernel_rfl) ⟨⟨_,rfl,?_⟩,⟨_,rfl,?_⟩,trivial⟩
    ·refine e' rfl ?_
     refine Q0.step rfl (j0:=8) (js:=[]) (by kernel_rfl) ⟨⟨_,rfl,?_⟩,trivial⟩
     refine e' rfl ?_
     refine Q0.step rfl (j0:=9) (js:=[]) (by kernel_rfl) ⟨⟨_,rfl,?_⟩,trivial⟩
     refine E0.s hC rfl (n' ?_)
     refine Q0.step rfl (j0:=10) (js:=[]) (by kernel_rfl) ⟨⟨_,rfl,?_⟩,trivial⟩
     cases hh
     exact e' rfl (Q0.nil (by kernel_rfl) (re' (rt' rfl rfl rfl)))
    ·refine e' rfl ?_
     refine Q0.step rfl (j0:=7) (js:=[]) (by kernel_rfl) ⟨⟨_,rfl,?_⟩,trivial⟩
     refine e' rfl ?_
     refine Q0.step rfl (j0:=9) (js:=[]) (by kernel_rfl) ⟨⟨_,rfl,?_⟩,trivial⟩
     refine E0.s hC rfl (n' ?_)
     refine Q0.step rfl (j0:=10) (js:=[]) (by kernel_rfl) ⟨⟨_,rfl,?_⟩,trivial⟩
     cases hh
     exact e' rfl (Q0.nil (by kernel_rfl) (re' (rt' rfl rfl rfl)))
   ·refine e' rfl ?_
    refine Q0.step rfl (j0:=0) (js:=[3]) (by kernel_rfl) ⟨⟨_,rfl,?_⟩,⟨_,rfl,?_⟩,trivial⟩
    ·refine e' rfl ?_
     refine Q0.step rfl (j0:=3) (js:=[]) (by kernel_rfl) ⟨⟨_,rfl,?_⟩,trivial⟩
     refine qe' rfl trivial (D0.lenA _) (n' ?_)
     refine Q0.step rfl (j0:=4) (js:=[]) (by kernel_rfl) ⟨⟨_,rfl,?_⟩,trivial⟩
     refine E0.bx 3 (y:=.box (J0.row x3)) (by cases hx3; exact .inl rfl) rfl rfl rfl (c' (U0 hx4) rfl rfl (n' ?_))
     refine Q0.step rfl (j0:=6) (js:=[]) (by kernel_rfl) ⟨⟨_,rfl,?_⟩,trivial⟩
     refine c' (B1 hx5) rfl rfl (n' ?_)
     refine Q0.step rfl (j0:=7) (js:=[8]) (by kernel_rfl) ⟨⟨_,rfl,?_⟩,⟨_,rfl,?_⟩,trivial⟩
     ·refine e' rfl ?_
      refine Q0.step rfl (j0:=8) (js:=[]) (by kernel_rfl) ⟨⟨_,rfl,?_⟩,trivial⟩
      refine e' rfl ?_
      refine Q0.step rfl (j0:=9) (js:=[]) (by kernel_rfl) ⟨⟨_,rfl,?_⟩,trivial⟩
      refine E0.s hC rfl (n' ?_)
      refine Q0.step rfl (j0:=10) (js:=[]) (by kernel_rfl) ⟨⟨_,rfl,?_⟩,trivial⟩
      cases hh
      exact e' rfl (Q0.nil (by kernel_rfl) (re' (rt' rfl rfl rfl)))
     ·refine e' rfl ?_
      refine Q0.step rfl (j0:=7) (js:=[]) (by kernel_rfl) ⟨⟨_,rfl,?_⟩,trivial⟩
      refine e' rfl ?_
      refine Q0.step rfl (j0:=9) (js:=[]) (by kernel_rfl) ⟨⟨_,rfl,?_⟩,trivial⟩
      refine E0.s hC rfl (n' ?_)
      refine Q0.step rfl (j0:=10) (js:=[]) (by kernel_rfl) ⟨⟨_,rfl,?_⟩,trivial⟩
      cases hh
      exact e' rfl (Q0.nil (by kernel_rfl) (re' (rt' rfl rfl rfl)))
    ·refine qe' rfl trivial (D0.lenA _) (n' ?_)
     refine Q0.step rfl (j0:=0) (js:=[]) (by kernel_rfl) ⟨⟨_,rfl,?_⟩,trivial⟩
     refine e' rfl ?_
     refine Q0.step rfl (j0:=4) (js:=[]) (by kernel_rfl) ⟨⟨_,rfl,?_⟩,trivial⟩
     refine E0.bx 3 (y:=.box (J0.row x3)) (by cases hx3; exact .inl rfl) rfl rfl rfl (c' (U0 hx4) rfl rfl (n' ?_))
     refine Q0.step rfl (j0:=6) (js:=[]) (by kernel_rfl) ⟨⟨_,rfl,?_⟩,trivial⟩
     refine c' (B1 hx5) rfl rfl (n' ?_)
     refine Q0.step rfl (j0:=7) (js:=[8]) (by kernel_rfl) ⟨⟨_,rfl,?_⟩,⟨_,rfl,?_⟩,trivial⟩
     ·refine e' rfl ?_
      refine Q0.step rfl (j0:=8) (js:=[]) (by kernel_rfl) ⟨⟨_,rfl,?_⟩,trivial⟩
      refine e' rfl ?_
      refine Q0.step rfl (j0:=9) (js:=[]) (by kernel_rfl) ⟨⟨_,rfl,?_⟩,trivial⟩
      refine E0.s hC rfl (n' ?_)
      refine Q0.step rfl (j0:=10) (js:=[]) (by kernel_rfl) ⟨⟨_,rfl,?_⟩,trivial⟩
      cases hh
      exact e' rfl (Q0.nil (by kernel_rfl) (re' (rt' rfl rfl rfl)))
     ·refine e' rfl ?_
      refine Q0.step rfl (j0:=7) (js:=[]) (by kernel_rfl) ⟨⟨_,rfl,?_⟩,trivial⟩
      refine e' rfl ?_
      refine Q0.step rfl (j0:=9) (js:=[]) (by kernel_rfl) ⟨⟨_,rfl,?_⟩,trivial⟩
      refine E0.s hC rfl (n' ?_)
      refine Q0.step rfl (j0:=10) (js:=[]) (by kernel_rfl) ⟨⟨_,rfl,?_⟩,trivial⟩
      cases hh
      exact e' rfl (Q0.nil (by kernel_rfl) (re' (rt' rfl rfl rfl)))
 ·refine e' rfl ?_
  refine Q0.step rfl (j0:=0) (js:=[1]) (by kernel_rfl) ⟨⟨_,rfl,?_⟩,⟨_,rfl,?_⟩,trivial⟩
  ·refine e' rfl ?_
   refine Q0.step rfl (j0:=1) (js:=[]) (by kernel_rfl) ⟨⟨_,rfl,?_⟩,trivial⟩
   refine e' rfl ?_
   refine Q0.step rfl (j0:=2) (js:=[]) (by kernel_rfl) ⟨⟨_,rfl,?_⟩,trivial⟩
   refine e' rfl ?_
   refine Q0.step rfl (j0:=3) (js:=[]) (by kernel_rfl) ⟨⟨_,rfl,?_⟩,trivial⟩
   refine qe' rfl trivial (D0.lenA _) (n' ?_)
   refine Q0.step rfl (j0:=4) (js:=[]) (by kernel_rfl) ⟨⟨_,rfl,?_⟩,trivial⟩
   refine E0.bx 3 (y:=.box (J0.row x3)) (by cases hx3; exact .inl rfl) rfl rfl rfl (c' (U0 hx4) rfl rfl (n' ?_))
   refine Q0.step rfl (j0:=6) (js:=[]) (by kernel_rfl) ⟨⟨_,rfl,?_⟩,trivial⟩
   refine c' (B1 hx5) rfl rfl (n' ?_)
   refine Q0.step rfl (j0:=7) (js:=[8]) (by kernel_rfl) ⟨⟨_,rfl,?_⟩,⟨_,rfl,?_⟩,trivial⟩
   ·refine e' rfl ?_
    refine Q0.step rfl (j0:=8) (js:=[]) (by kernel_rfl) ⟨⟨_,rfl,?_⟩,trivial⟩
    refine e' rfl ?_
    refine Q0.step rfl (j0:=9) (js:=[]) (by kernel_rfl) ⟨⟨_,rfl,?_⟩,trivial⟩
    refine E0.s hC rfl (n' ?_)
    refine Q0.step rfl (j0:=10) (js:=[]) (by kernel_rfl) ⟨⟨_,rfl,?_⟩,trivial⟩
    cases hh
    exact e' rfl (Q0.nil (by kernel_rfl) (re' (rt' rfl rfl rfl)))
   ·refine e' rfl ?_
    refine Q0.step rfl (j0:=7) (js:=[]) (by kernel_rfl) ⟨⟨_,rfl,?_⟩,trivial⟩
    refine e' rfl ?_
    refine Q0.step rfl (j0:=9) (js:=[]) (by kernel_rfl) ⟨⟨_,rfl,?_⟩,trivial⟩
    refine E0.s hC rfl (n' ?_)
    refine Q0.step rfl (j0:=10) (js:=[]) (by kernel_rfl) ⟨⟨_,rfl,?_⟩,trivial⟩
    cases hh
    exact e' rfl (Q0.nil (by kernel_rfl) (re' (rt' rfl rfl rfl)))
  ·refine e' rfl ?_
   refine Q0.step rfl (j0:=0) (js:=[2]) (by kernel_rfl) ⟨⟨_,rfl,?_⟩,⟨_,rfl,?_⟩,trivial⟩
   ·refine e' rfl ?_
    refine Q0.step rfl (j0:=2) (js:=[]) (by kernel_rfl) ⟨⟨_,rfl,?_⟩,trivial⟩
    refine e' rfl ?_
    refine Q0.step rfl (j0:=3) (js:=[]) (by kernel_rfl) ⟨⟨_,rfl,?_⟩,trivial⟩
    refine qe' rfl trivial (D0.lenA _) (n' ?_)
    refine Q0.step rfl (j0:=4) (js:=[]) (by kernel_rfl) ⟨⟨_,rfl,?_⟩,trivial⟩
    refine E0.bx 3 (y:=.box (J0.row x3)) (by cases hx3; exact .inl rfl) rfl rfl rfl (c' (U0 hx4) rfl rfl (n' ?_))
    refine Q0.step rfl (j0:=6) (js:=[]) (by kernel_rfl) ⟨⟨_,rfl,?_⟩,trivial⟩
    refine c' (B1 hx5) rfl rfl (n' ?_)
    refine Q0.step rfl (j0:=7) (js:=[8]) (by kernel_rfl) ⟨⟨_,rfl,?_⟩,⟨_,rfl,?_⟩,trivial⟩
    ·refine e' rfl ?_
     refine Q0.step rfl (j0:=8) (js:=[]) (by kernel_rfl) ⟨⟨_,rfl,?_⟩,trivial⟩
     refine e' rfl ?_
     refine Q0.step rfl (j0:=9) (js:=[]) (by kernel_rfl) ⟨⟨_,rfl,?_⟩,trivial⟩
     refine E0.s hC rfl (n' ?_)
     refine Q0.step rfl (j0:=10) (js:=[]) (by kernel_rfl) ⟨⟨_,rfl,?_⟩,trivial⟩
     cases hh
     exact e' rfl (Q0.nil (by kernel_rfl) (re' (rt' rfl rfl rfl)))
    ·refine e' rfl ?_
     refine Q0.step rfl (j0:=7) (js:=[]) (by kernel_rfl) ⟨⟨_,rfl,?_⟩,trivial⟩
     refine e' rfl ?_
     refine Q0.step rfl (j0:=9) (js:=[]) (by kernel_rfl) ⟨⟨_,rfl,?_⟩,trivial⟩
     refine E0.s hC rfl (n' ?_)
     refine Q0.step rfl (j0:=10) (js:=[]) (by kernel_rfl) ⟨⟨_,rfl,?_⟩,trivial⟩
     cases hh
     exact e' rfl (Q0.nil (by kernel_rfl) (re' (rt' rfl rfl rfl)))
   ·refine e' rfl ?_
    refine Q0.step rfl (j0:=0) (js:=[3]) (by kernel_rfl) ⟨⟨_,rfl,?_⟩,⟨_,rfl,?_⟩,trivial⟩
    ·refine e' rfl ?_
     refine Q0.step rfl (j0:=3) (js:=[]) (by kernel_rfl) ⟨⟨_,rfl,?_⟩,trivial⟩
     refine qe' rfl trivial (D0.lenA _) (n' ?_)
     refine Q0.step rfl (j0:=4) (js:=[]) (by kernel_rfl) ⟨⟨_,rfl,?_⟩,trivial⟩
     refine E0.bx 3 (y:=.box (J0.row x3)) (by cases hx3; exact .inl rfl) rfl rfl rfl (c' (U0 hx4) rfl rfl (n' ?_))
     refine Q0.step rfl (j0:=6) (js:=[]) (by kernel_rfl) ⟨⟨_,rfl,?_⟩,trivial⟩
     refine c' (B1 hx5) rfl rfl (n' ?_)
     refine Q0.step rfl (j0:=7) (js:=[8]) (by kernel_rfl) ⟨⟨_,rfl,?_⟩,⟨_,rfl,?_⟩,trivial⟩
     ·refine e' rfl ?_
      refine Q0.step rfl (j0:=8) (js:=[]) (by kernel_rfl) ⟨⟨_,rfl,?_⟩,trivial⟩
      refine e' rfl ?_
      refine Q0.step rfl (j0:=9) (js:=[]) (by kernel_rfl) ⟨⟨_,rfl,?_⟩,trivial⟩
      refine E0.s hC rfl (n' ?_)
      refine Q0.step rfl (j0:=10) (js:=[]) (by kernel_rfl) ⟨⟨_,rfl,?_⟩,trivial⟩
      cases hh
      exact e' rfl (Q0.nil (by kernel_rfl) (re' (rt' rfl rfl rfl)))
     ·refine e' rfl ?_
      refine Q0.step rfl (j0:=7) (js:=[]) (by kernel_rfl) ⟨⟨_,rfl,?_⟩,trivial⟩
      refine e' rfl ?_
      refine Q0.step rfl (j0:=9) (js:=[]) (by kernel_rfl) ⟨⟨_,rfl,?_⟩,trivial⟩
      refine E0.s hC rfl (n' ?_)
      refine Q0.step rfl (j0:=10) (js:=[]) (by kernel_rfl) ⟨⟨_,rfl,?_⟩,trivial⟩
      cases hh
      exact e' rfl (Q0.nil (by kernel_rfl) (re' (rt' rfl rfl rfl)))
    ·refine qe' rfl trivial (D0.lenA _) (n' ?_)
     refine Q0.step rfl (j0:=0) (js:=[]) (by kernel_rfl) ⟨⟨_,rfl,?_⟩,trivial⟩
     refine e' rfl ?_
     refine Q0.step rfl (j0:=4) (js:=[]) (by kernel_rfl) ⟨⟨_,rfl,?_⟩,trivial⟩
     refine E0.bx 3 (y:=.box (J0.row x3)) (by cases hx3; exact .inl rfl) rfl rfl rfl (c' (U0 hx4) rfl rfl (n' ?_))
     refine Q0.step rfl (j0:=6) (js:=[]) (by kernel_rfl) ⟨⟨_,rfl,?_⟩,trivial⟩
     refine c' (B1 hx5) rfl rfl (n' ?_)
     refine Q0.step rfl (j0:=7) (js:=[8]) (by kernel_rfl) ⟨⟨_,rfl,?_⟩,⟨_,rfl,?_⟩,trivial⟩
     ·refine e' rfl ?_
      refine Q0.step rfl (j0:=8) (js:=[]) (by kernel_rfl) ⟨⟨_,rfl,?_⟩,trivial⟩
      refine e' rfl ?_
      refine Q0.step rfl (j0:=9) (js:=[]) (by kernel_rfl) ⟨⟨_,rfl,?_⟩,trivial⟩
      refine E0.s hC rfl (n' ?_)
      refine Q0.step rfl (j0:=10) (js:=[]) (by kernel_rfl) ⟨⟨_,rfl,?_⟩,trivial⟩
      cases hh
      exact e' rfl (Q0.nil (by kernel_rfl) (re' (rt' rfl rfl rfl)))
     ·refine e' rfl ?_
      refine Q0.step rfl (j0:=7) (js:=[]) (by kernel_rfl) ⟨⟨_,rfl,?_⟩,trivial⟩
      refine e' rfl ?_
      refine Q0.step rfl (j0:=9) (js:=[]) (by kernel_rfl) ⟨⟨_,rfl,?_⟩,trivial⟩
      refine E0.s hC rfl (n' ?_)
      refine Q0.step rfl (j0:=10) (js:=[]) (by kernel_rfl) ⟨⟨_,rfl,?_⟩,trivial⟩
      cases hh
      exact e' rfl (Q0.nil (by kernel_rfl) (re' (rt' rfl rfl rfl)))
end Go.Proofs.YtdkabnfphmmmnaaGreatDoor

