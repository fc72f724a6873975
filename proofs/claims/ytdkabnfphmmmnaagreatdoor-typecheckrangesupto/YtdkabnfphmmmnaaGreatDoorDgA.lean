/- A part of the proof of TypecheckRanges. -/
import Derived.Test.YtdkabnfphmmmnaaGreatDoorXxA
import Derived.Test.YtdkabnfphmmmnaaGreatDoorAmB
set_option maxRecDepth 100000
set_option maxHeartbeats 4000000
set_option synthInstance.maxSize 20000
set_option linter.unusedVariables false
namespace Go.Proofs.YtdkabnfphmmmnaaGreatDoor
open Go.Am
instance:Nonempty (O1 C):=⟨hC⟩
def ebool.zero:Bool:=false
def ebool.row (x:Bool):Row:=[.bool x]
def ebool.ents (m:List (Str×Bool)):List (Str×Row):=Uj ebool.row m
def ebool.val (x:Bool):A:=.d (.bool x)
theorem ebool.lk {k:Str}{m:List (Str×Bool)}{x:Option Bool}(hx:some (mgt k m)=some x):lkA (Yg k (ebool.ents m)) (ebool.val ebool.zero) false=ebool.val (x.getD ebool.zero):=K24 (h:=ebool.val) (fun _=>rfl) rfl hx
theorem ebool.mput (k:Str)(x:Bool)(m:List (Str×Bool)):mput k (ebool.row x) (ebool.ents m)=ebool.ents (mpt k x m):=(Jy ebool.row k x m).symm
def estr.row (x:Str):Row:=[.str x]
def estr.rows (l:List Str):List Row:=l.map estr.row
theorem estr.rows_map (l:List Str):estr.rows l=l.map estr.row:=rfl
theorem estr.idx {l:List Str}{n:Int}{x:Str}(h:idx l n=some x):(estr.rows l)[n.toNat]?=some (estr.row x):=El estr.rows_map h
theorem estr.app (l m:List Str):estr.rows (l++m)=estr.rows l++estr.rows m:=Wt estr.rows_map l m
theorem estr.len (l:List Str):(estr.rows l).length=l.length:=Gq estr.rows_map l
theorem estr.lenA (l:List Str):A.d (.int .i64 ((estr.rows l).length:Nat))=A.d (.int .i64 (l.length:Nat)):=Li estr.rows_map l
theorem estr.sz (l:List Str):∀ r∈estr.rows l,r.length=1:=Cy estr.rows_map (fun _=>rfl) l
theorem estr.part {l x:List Str}{a b:Int}(h:slc l a b=some x):a=(a.toNat:Int)∧b=(b.toNat:Int)∧a.toNat≤b.toNat∧b.toNat≤(estr.rows l).length∧estr.rows x=((estr.rows l).take b.toNat).drop a.toNat:=S19 estr.rows_map h
def ei64.zero:Int:=0
def ei64.row (x:Int):Row:=[.int .i64 x]
def ei64.rows (l:List Int):List Row:=l.map ei64.row
theorem ei64.rows_map (l:List Int):ei64.rows l=l.map ei64.row:=rfl
theorem ei64.idx {l:List Int}{n:Int}{x:Int}(h:idx l n=some x):(ei64.rows l)[n.toNat]?=some (ei64.row x):=El ei64.rows_map h
theorem ei64.lenA (l:List Int):A.d (.int .i64 ((ei64.rows l).length:Nat))=A.d (.int .i64 (l.length:Nat)):=Li ei64.rows_map l
def ei64.val (x:Int):A:=.d (.int .i64 x)
def ei64.entsI (m:List (Int×Int)):List (Int×Row):=Am.entsI ei64.row m
theorem ei64.lkIT {k:Int}{m:List (Int×Int)}{x:Option Int}(hx:some (Z7 k m)=some x):lkA (Jo k (ei64.entsI m)) (ei64.val ei64.zero) true = .tup [ei64.val (x.getD ei64.zero),.d (.bool x.isSome)]:=E25 (h:=ei64.val) (fun _=>rfl) rfl hx
theorem ei64.lkI {k:Int}{m:List (Int×Int)}{x:Option Int}(hx:some (Z7 k m)=some x):lkA (Jo k (ei64.entsI m)) (ei64.val ei64.zero) false=ei64.val (x.getD ei64.zero):=F25 (h:=ei64.val) (fun _=>rfl) rfl hx
theorem ei64.mputI (k:Int)(x:Int)(m:List (Int×Int)):Am.mputI k (ei64.row x) (ei64.entsI m)=ei64.entsI (Kr k x m):=(X1m ei64.row k x m).symm
structure A0 where
 Kind:Int
 Low:Int
 High:Int
 Size:Int
 Name:Str
 Names:List Str
 Of:List A0
def A0.zero:A0:=⟨0,0,0,0,[],[],[]⟩
instance:Inhabited A0:=⟨A0.zero⟩
mutual
def A0.rowX:A0→Row
 | .mk y0 y1 y2 y3 y4 y5 y6=>[.int .i64 y0,.int .i64 y1,.int .i64 y2,.int .i64 y3,.str y4,.sl (estr.rows y5),.sl (A0.rowsX y6)]
def A0.rowsX:List A0→List Row
 | []=>[]
 | x::r=>A0.rowX x::A0.rowsX r
end
def A0.rows (l:List A0):List Row:=A0.rowsX l
def A0.row (x:A0):Row:=[.int .i64 x.Kind,.int .i64 x.Low,.int .i64 x.High,.int .i64 x.Size,.str x.Name,.sl (estr.rows x.Names),.sl (A0.rows x.Of)]
theorem A0.rows_map:∀ l,A0.rows l=l.map A0.row
 | []=>rfl
 | x::r=>by
  show A0.rowX x::A0.rows r=A0.row x::r.map A0.row
  rw [A0.rows_map r]
  cases x
  rfl
def A0.cells (x:A0):List A:=[.d (.int .i64 x.Kind),.d (.int .i64 x.Low),.d (.int .i64 x.High),.d (.int .i64 x.Size),.d (.str x.Name),.d (.sl (estr.rows x.Names)),.d (.sl (A0.rows x.Of))]
theorem A0.idx {l:List A0}{n:Int}{x:A0}(h:idx l n=some x):(A0.rows l)[n.toNat]?=some (A0.row x):=El A0.rows_map h
theorem A0.app (l m:List A0):A0.rows (l++m)=A0.rows l++A0.rows m:=Wt A0.rows_map l m
theorem A0.len (l:List A0):(A0.rows l).length=l.length:=Gq A0.rows_map l
theorem A0.lenA (l:List A0):A.d (.int .i64 ((A0.rows l).length:Nat))=A.d (.int .i64 (l.length:Nat)):=Li A0.rows_map l
theorem A0.sz (l:List A0):∀ r∈A0.rows l,r.length=7:=Cy A0.rows_map (fun _=>rfl) l
theorem A0.part {l x:List A0}{a b:Int}(h:slc l a b=some x):a=(a.toNat:Int)∧b=(b.toNat:Int)∧a.toNat≤b.toNat∧b.toNat≤(A0.rows l).length∧A0.rows x=((A0.rows l).take b.toNat).drop a.toNat:=S19 A0.rows_map h
def A0.ents (m:List (Str×A0)):List (Str×Row):=Uj A0.row m
def A0.val (x:A0):A:=.agg (A0.cells x)
theorem A0.lkT {k:Str}{m:List (Str×A0)}{x:Option A0}(hx:some (mgt k m)=some x):lkA (Yg k (A0.ents m)) (A0.val A0.zero) true = .tup [A0.val (x.getD A0.zero),.d (.bool x.isSome)]:=J24 (h:=A0.val) (fun _=>rfl) rfl hx
theorem A0.mput (k:Str)(x:A0)(m:List (Str×A0)):mput k (A0.row x) (A0.ents m)=A0.ents (mpt k x m):=(Jy A0.row k x m).symm
structure D0 where
 Op:Int
 NV:Int
 Name:Str
 Kids:List D0
def D0.zero:D0:=⟨0,0,[],[]⟩
instance:Inhabited D0:=⟨D0.zero⟩
mutual
def D0.rowX:D0→Row
 | .mk y0 y1 y2 y3=>[.int .i64 y0,.int .i64 y1,.str y2,.sl (D0.rowsX y3)]
def D0.rowsX:List D0→List Row
 | []=>[]
 | x::r=>D0.rowX x::D0.rowsX r
end
def D0.rows (l:List D0):List Row:=D0.rowsX l
def D0.row (x:D0):Row:=[.int .i64 x.Op,.int .i64 x.NV,.str x.Name,.sl (D0.rows x.Kids)]
theorem D0.rows_map:∀ l,D0.rows l=l.map D0.row
 | []=>rfl
 | x::r=>by
  show D0.rowX x::D0.rows r=D0.row x::r.map D0.row
  rw [D0.rows_map r]
  cases x
  rfl
def D0.cells (x:D0):List A:=[.d (.int .i64 x.Op),.d (.int .i64 x.NV),.d (.str x.Name),.d (.sl (D0.rows x.Kids))]
theorem D0.idx {l:List D0}{n:Int}{x:D0}(h:idx l n=some x):(D0.rows l)[n.toNat]?=some (D0.row x):=El D0.rows_map h
theorem D0.lenA (l:List D0):A.d (.int .i64 ((D0.rows l).length:Nat))=A.d (.int .i64 (l.length:Nat)):=Li D0.rows_map l
structure C0 where
 Verb:Int
 Place:D0
 Value:D0
 Name:Str
 Args:List D0
 NV:Int
 Low:Int
 High:Int
 Numbers:List Int
 Then:List C0
 Else:List C0
def C0.zero:C0:=⟨0,⟨0,0,[],[]⟩,⟨0,0,[],[]⟩,[],[],0,0,0,[],[],[]⟩
instance:Inhabited C0:=⟨C0.zero⟩
mutual
def C0.rowX:C0→Row
 | .mk y0 y1 y2 y3 y4 y5 y6 y7 y8 y9 y10=>[.int .i64 y0,.int .i64 y1.Op,.int .i64 y1.NV,.str y1.Name,.sl (D0.rows y1.Kids),.int .i64 y2.Op,.int .i64 y2.NV,.str y2.Name,.sl (D0.rows y2.Kids),.str y3,.sl (D0.rows y4),.int .i64 y5,.int .i64 y6,.int .i64 y7,.sl (ei64.rows y8),.sl (C0.rowsX y9),.sl (C0.rowsX y10)]
def C0.rowsX:List C0→List Row
 | []=>[]
 | x::r=>C0.rowX x::C0.rowsX r
end
def C0.rows (l:List C0):List Row:=C0.rowsX l
def C0.row (x:C0):Row:=[.int .i64 x.Verb,.int .i64 x.Place.Op,.int .i64 x.Place.NV,.str x.Place.Name,.sl (D0.rows x.Place.Kids),.int .i64 x.Value.Op,.int .i64 x.Value.NV,.str x.Value.Name,.sl (D0.rows x.Value.Kids),.str x.Name,.sl (D0.rows x.Args),.int .i64 x.NV,.int .i64 x.Low,.int .i64 x.High,.sl (ei64.rows x.Numbers),.sl (C0.rows x.Then),.sl (C0.rows x.Else)]
theorem C0.rows_map:∀ l,C0.rows l=l.map C0.row
 | []=>rfl
 | x::r=>by
  show C0.rowX x::C0.rows r=C0.row x::r.map C0.row
  rw [C0.rows_map r]
  cases x
  rfl
def C0.cells (x:C0):List A:=[.d (.int .i64 x.Verb),.d (.int .i64 x.Place.Op),.d (.int .i64 x.Place.NV),.d (.str x.Place.Name),.d (.sl (D0.rows x.Place.Kids)),.d (.int .i64 x.Value.Op),.d (.int .i64 x.Value.NV),.d (.str x.Value.Name),.d (.sl (D0.rows x.Value.Kids)),.d (.str x.Name),.d (.sl (D0.rows x.Args)),.d (.int .i64 x.NV),.d (.int .i64 x.Low),.d (.int .i64 x.High),.d (.sl (ei64.rows x.Numbers)),.d (.sl (C0.rows x.Then)),.d (.sl (C0.rows x.Else))]
theorem C0.idx {l:List C0}{n:Int}{x:C0}(h:idx l n=some x):(C0.rows l)[n.toNat]?=some (C0.row x):=El C0.rows_map h
theorem C0.app (l m:List C0):C0.rows (l++m)=C0.rows l++C0.rows m:=Wt C0.rows_map l m
theorem C0.len (l:List C0):(C0.rows l).length=l.length:=Gq C0.rows_map l
theorem C0.lenA (l:List C0):A.d (.int .i64 ((C0.rows l).length:Nat))=A.d (.int .i64 (l.length:Nat)):=Li C0.rows_map l
theorem C0.sz (l:List C0):∀ r∈C0.rows l,r.length=17:=Cy C0.rows_map (fun _=>rfl) l
structure B0 where
 Kind:Int
 Name:Str
 TypeV:A0
 Init:Int
 Value:D0
 Params:List B0
 Vars:List B0
 Body:List C0
def B0.zero:B0:=⟨0,[],⟨0,0,0,0,[],[],[]⟩,0,⟨0,0,[],[]⟩,[],[],[]⟩
instance:Inhabited B0:=⟨B0.zero⟩
mutual
def B0.rowX:B0→Row
 | .mk y0 y1 y2 y3 y4 y5 y6 y7=>[.int .i64 y0,.str y1,.int .i64 y2.Kind,.int .i64 y2.Low,.int .i64 y2.High,.int .i64 y2.Size,.str y2.Name,.sl (estr.rows y2.Names),.sl (A0.rows y2.Of),.int .i64 y3,.int .i64 y4.Op,.int .i64 y4.NV,.str y4.Name,.sl (D0.rows y4.Kids),.sl (B0.rowsX y5),.sl (B0.rowsX y6),.sl (C0.rows y7)]
def B0.rowsX:List B0→List Row
 | []=>[]
 | x::r=>B0.rowX x::B0.rowsX r
end
def B0.rows (l:List B0):List Row:=B0.rowsX l
def B0.row (x:B0):Row:=[.int .i64 x.Kind,.str x.Name,.int .i64 x.TypeV.Kind,.int .i64 x.TypeV.Low,.int .i64 x.TypeV.High,.int .i64 x.TypeV.Size,.str x.TypeV.Name,.sl (estr.rows x.TypeV.Names),.sl (A0.rows x.TypeV.Of),.int .i64 x.Init,.int .i64 x.Value.Op,.int .i64 x.Value.NV,.str x.Value.Name,.sl (D0.rows x.Value.Kids),.sl (B0.rows x.Params),.sl (B0.rows x.Vars),.sl (C0.rows x.Body)]
theorem B0.rows_map:∀ l,B0.rows l=l.map B0.row
 | []=>rfl
 | x::r=>by
  show B0.rowX x::B0.rows r=B0.row x::r.map B0.row
  rw [B0.rows_map r]
  cases x
  rfl
def B0.cells (x:B0):List A:=[.d (.int .i64 x.Kind),.d (.str x.Name),.d (.int .i64 x.TypeV.Kind),.d (.int .i64 x.TypeV.Low),.d (.int .i64 x.TypeV.High),.d (.int .i64 x.TypeV.Size),.d (.str x.TypeV.Name),.d (.sl (estr.rows x.TypeV.Names)),.d (.sl (A0.rows x.TypeV.Of)),.d (.int .i64 x.Init),.d (.int .i64 x.Value.Op),.d (.int .i64 x.Value.NV),.d (.str x.Value.Name),.d (.sl (D0.rows x.Value.Kids)),.d (.sl (B0.rows x.Params)),.d (.sl (B0.rows x.Vars)),.d (.sl (C0.rows x.Body))]
theorem B0.idx {l:List B0}{n:Int}{x:B0}(h:idx l n=some x):(B0.rows l)[n.toNat]?=some (B0.row x):=El B0.rows_map h
theorem B0.app (l m:List B0):B0.rows (l++m)=B0.rows l++B0.rows m:=Wt B0.rows_map l m
theorem B0.len (l:List B0):(B0.rows l).length=l.length:=Gq B0.rows_map l
theorem B0.lenA (l:List B0):A.d (.int .i64 ((B0.rows l).length:Nat))=A.d (.int .i64 (l.length:Nat)):=Li B0.rows_map l
theorem B0.sz (l:List B0):∀ r∈B0.rows l,r.length=17:=Cy B0.rows_map (fun _=>rfl) l
theorem B0.part {l x:List B0}{a b:Int}(h:slc l a b=some x):a=(a.toNat:Int)∧b=(b.toNat:Int)∧a.toNat≤b.toNat∧b.toNat≤(B0.rows l).length∧B0.rows x=((B0.rows l).take b.toNat).drop a.toNat:=S19 B0.rows_map h
def B0.flat (l:List B0):List A:=(B0.rows l).flatten.map A.d
theorem B0.ne {l:List B0}(h:0 < l.length):B0.rows l≠[]:=fun e=>by have:=B0.len l; rw [e] at this; simp at this; omega
theorem B0.flat_get {l:List B0}{i j:Nat}{x:B0}{d:D}(h:l[i]?=some x)(hj:(B0.row x)[j]?=some d):(B0.flat l)[0+i * 17+j]?=some (.d d):=by rw [Nat.zero_add]; exact Am.flat_get B0.rows_map (fun _=>rfl) h hj
theorem B0.flat_lt {l:List B0}{i j:Nat}{x:B0}(h:l[i]?=some x)(hj:j < 17):0+i * 17+j < (B0.flat l).length:=by rw [Nat.zero_add]; exact Am.flat_lt B0.rows_map (fun _=>rfl) h hj
theorem B0.flat_set {l:List B0}{i j:Nat}{x y:B0}{d:D}(h:l[i]?=some x)(hj:j < 17)(hy:B0.row y=(B0.row x).set j d):B0.flat (l.set i y)=Pb (B0.flat l) (0+i * 17+j) [.d d]:=by rw [Nat.zero_add]; exact Am.flat_set B0.rows_map (fun _=>rfl) h hj hy
structure I0 where
 Decls:List B0
 Body:List C0
def I0.zero:I0:=⟨[],[]⟩
instance:Inhabited I0:=⟨I0.zero⟩
def I0.row (x:I0):Row:=[.sl (B0.rows x.Decls),.sl (C0.rows x.Body)]
def I0.rows (l:List I0):List Row:=l.map I0.row
theorem I0.rows_map (l:List I0):I0.rows l=l.map I0.row:=rfl
def I0.cells (x:I0):List A:=[.d (.sl (B0.rows x.Decls)),.d (.sl (C0.rows x.Body))]
structure F0 where
 nodes:Int
 depth:Int
 badForm:Bool
 badName:Bool
 badNumber:Bool
def F0.zero:F0:=⟨0,0,false,false,false⟩
instance:Inhabited F0:=⟨F0.zero⟩
def F0.cells (x:F0):List A:=[.d (.int .i64 x.nodes),.d (.int .i64 x.depth),.d (.bool x.badForm),.d (.bool x.badName),.d (.bool x.badNumber)]
structure I2 where
 place:Bool
 value:Bool
 name:Bool
 args:Bool
 n:Bool
 bounds:Bool
 numbers:Bool
 thenV:Bool
 other:Bool
def I2.zero:I2:=⟨false,false,false,false,false,false,false,false,false⟩
instance:Inhabited I2:=⟨I2.zero⟩
def I2.cells (x:I2):List A:=[.d (.bool x.place),.d (.bool x.value),.d (.bool x.name),.d (.bool x.args),.d (.bool x.n),.d (.bool x.bounds),.d (.bool x.numbers),.d (.bool x.thenV),.d (.bool x.other)]
structure N0 where
 p:I0
 atV:Int
 localV:Bool
 names:List (Str×Bool)
def N0.zero:N0:=⟨⟨[],[]⟩,0,false,[]⟩
instance:Inhabited N0:=⟨N0.zero⟩
def N0.row (x:N0):Row:=[.sl (B0.rows x.p.Decls),.sl (C0.rows x.p.Body),.int .i64 x.atV,.bool x.localV,.mp (ebool.ents x.names)]
structure P0 where
 typ:A0
 fixed:Bool
def P0.zero:P0:=⟨⟨0,0,0,0,[],[],[]⟩,false⟩
instance:Inhabited P0:=⟨P0.zero⟩
def P0.row (x:P0):Row:=[.int .i64 x.typ.Kind,.int .i64 x.typ.Low,.int .i64 x.typ.High,.int .i64 x.typ.Size,.str x.typ.Name,.sl (estr.rows x.typ.Names),.sl (A0.rows x.typ.Of),.bool x.fixed]
def P0.cells (x:P0):List A:=[.d (.int .i64 x.typ.Kind),.d (.int .i64 x.typ.Low),.d (.int .i64 x.typ.High),.d (.int .i64 x.typ.Size),.d (.str x.typ.Name),.d (.sl (estr.rows x.typ.Names)),.d (.sl (A0.rows x.typ.Of)),.d (.bool x.fixed)]
def P0.ents (m:List (Str×P0)):List (Str×Row):=Uj P0.row m
def P0.val (x:P0):A:=.agg (P0.cells x)
theorem P0.lkT {k:Str}{m:List (Str×P0)}{x:Option P0}(hx:some (mgt k m)=some x):lkA (Yg k (P0.ents m)) (P0.val P0.zero) true = .tup [P0.val (x.getD P0.zero),.d (.bool x.isSome)]:=J24 (h:=P0.val) (fun _=>rfl) rfl hx
theorem P0.mput (k:Str)(x:P0)(m:List (Str×P0)):mput k (P0.row x) (P0.ents m)=P0.ents (mpt k x m):=(Jy P0.row k x m).symm
structure L0 where
 around:Option L0
 vars:List (Str×P0)
def L0.zero:L0:=⟨none,[]⟩
instance:Inhabited L0:=⟨L0.zero⟩
mutual
def L0.rowX:L0→Row
 | .mk y0 y1=>[.bxo (L0.optX y0),.mp (P0.ents y1)]
def L0.optX:Option L0→Option Row
 | none=>none
 | some x=>some (L0.rowX x)
end
def L0.opt (x:Option L0):Option Row:=L0.optX x
def L0.row (x:L0):Row:=[.bxo (L0.opt x.around),.mp (P0.ents x.vars)]
theorem L0.opt_some {x:Option L0}{y:L0}(h:x=some y):D.bxo (L0.opt x) = .bxo (some (L0.row y)):=by subst h; cases y; rfl
theorem L0.opt_nilB (x:Option L0):Y19 (.bxo (L0.opt x))=some x.isNone:=by cases x <;> rfl
structure R0 where
 Path:Str
 Bool:Bool
 Low:Int
 High:Int
def R0.zero:R0:=⟨[],false,0,0⟩
instance:Inhabited R0:=⟨R0.zero⟩
def R0.row (x:R0):Row:=[.str x.Path,.bool x.Bool,.int .i64 x.Low,.int .i64 x.High]
def R0.rows (l:List R0):List Row:=l.map R0.row
theorem R0.rows_map (l:List R0):R0.rows l=l.map R0.row:=rfl
theorem R0.idx {l:List R0}{n:Int}{x:R0}(h:idx l n=some x):(R0.rows l)[n.toNat]?=some (R0.row x):=El R0.rows_map h
theorem R0.app (l m:List R0):R0.rows (l++m)=R0.rows l++R0.rows m:=Wt R0.rows_map l m
theorem R0.len (l:List R0):(R0.rows l).length=l.length:=Gq R0.rows_map l
theorem R0.lenA (l:List R0):A.d (.int .i64 ((R0.rows l).length:Nat))=A.d (.int .i64 (l.length:Nat)):=Li R0.rows_map l
theorem R0.sz (l:List R0):∀ r∈R0.rows l,r.length=4:=Cy R0.rows_map (fun _=>rfl) l
structure O0 where
 steps:Int
 outputs:Int
def O0.zero:O0:=⟨0,0⟩
instance:Inhabited O0:=⟨O0.zero⟩
def O0.row (x:O0):Row:=[.int .i64 x.steps,.int .i64 x.outputs]
def O0.cells (x:O0):List A:=[.d (.int .i64 x.steps),.d (.int .i64 x.outputs)]
def O0.ents (m:List (Str×O0)):List (Str×Row):=Uj O0.row m
def O0.val (x:O0):A:=.agg (O0.cells x)
theorem O0.lk {k:Str}{m:List (Str×O0)}{x:Option O0}(hx:some (mgt k m)=some x):lkA (Yg k (O0.ents m)) (O0.val O0.zero) false=O0.val (x.getD O0.zero):=K24 (h:=O0.val) (fun _=>rfl) rfl hx
theorem O0.mput (k:Str)(x:O0)(m:List (Str×O0)):mput k (O0.row x) (O0.ents m)=O0.ents (mpt k x m):=(Jy O0.row k x m).symm
structure V0 where
 nodes:Int
 depth:Int
def V0.zero:V0:=⟨0,0⟩
instance:Inhabited V0:=⟨V0.zero⟩
def V0.cells (x:V0):List A:=[.d (.int .i64 x.nodes),.d (.int .i64 x.depth)]
structure J0 where
 Name:Str
 TypeV:A0
 Fixed:Bool
def J0.zero:J0:=⟨[],⟨0,0,0,0,[],[],[]⟩,false⟩
instance:Inhabited J0:=⟨J0.zero⟩
def J0.row (x:J0):Row:=[.str x.Name,.int .i64 x.TypeV.Kind,.int .i64 x.TypeV.Low,.int .i64 x.TypeV.High,.int .i64 x.TypeV.Size,.str x.TypeV.Name,.sl (estr.rows x.TypeV.Names),.sl (A0.rows x.TypeV.Of),.bool x.Fixed]
def J0.rows (l:List J0):List Row:=l.map J0.row
theorem J0.rows_map (l:List J0):J0.rows l=l.map J0.row:=rfl
def J0.cells (x:J0):List A:=[.d (.str x.Name),.d (.int .i64 x.TypeV.Kind),.d (.int .i64 x.TypeV.Low),.d (.int .i64 x.TypeV.High),.d (.int .i64 x.TypeV.Size),.d (.str x.TypeV.Name),.d (.sl (estr.rows x.TypeV.Names)),.d (.sl (A0.rows x.TypeV.Of)),.d (.bool x.Fixed)]
theorem J0.idx {l:List J0}{n:Int}{x:J0}(h:idx l n=some x):(J0.rows l)[n.toNat]?=some (J0.row x):=El J0.rows_map h
theorem J0.app (l m:List J0):J0.rows (l++m)=J0.rows l++J0.rows m:=Wt J0.rows_map l m
theorem J0.len (l:List J0):(J0.rows l).length=l.length:=Gq J0.rows_map l
theorem J0.lenA (l:List J0):A.d (.int .i64 ((J0.rows l).length:Nat))=A.d (.int .i64 (l.length:Nat)):=Li J0.rows_map l
theorem J0.sz (l:List J0):∀ r∈J0.rows l,r.length=9:=Cy J0.rows_map (fun _=>rfl) l
structure T0 where
 Program:I0
 Function:Int
 Vars:List J0
 Taken:List Str
def T0.zero:T0:=⟨⟨[],[]⟩,0,[],[]⟩
instance:Inhabited T0:=⟨T0.zero⟩
def T0.cells (x:T0):List A:=[.d (.sl (B0.rows x.Program.Decls)),.d (.sl (C0.rows x.Program.Body)),.d (.int .i64 x.Function),.d (.sl (J0.rows x.Vars)),.d (.sl (estr.rows x.Taken))]
def esl_ApiDecl.row (x:List B0):Row:=[.sl (B0.rows x)]
def esl_ApiDecl.rows (l:List (List B0)):List Row:=l.map esl_ApiDecl.row
theorem esl_ApiDecl.rows_map (l:List (List B0)):esl_ApiDecl.rows l=l.map esl_ApiDecl.row:=rfl
theorem esl_ApiDecl.idx {l:List (List B0)}{n:Int}{x:(List B0)}(h:idx l n=some x):(esl_ApiDecl.rows l)[n.toNat]?=some (esl_ApiDecl.row x):=El esl_ApiDecl.rows_map h
theorem esl_ApiDecl.lenA (l:List (List B0)):A.d (.int .i64 ((esl_ApiDecl.rows l).length:Nat))=A.d (.int .i64 (l.length:Nat)):=Li esl_ApiDecl.rows_map l
end Go.Proofs.YtdkabnfphmmmnaaGreatDoor

set_option maxRecDepth 100000
set_option maxHeartbeats 4000000
set_option synthInstance.maxSize 20000
set_option linter.unusedVariables false
namespace Go.Proofs.YtdkabnfphmmmnaaGreatDoor
open Go.Am
def Ka (l:List Str):Option (List Str):=if decide ((0+l.length) * 17≤140737488355328)=true then some l else none
theorem Zs {l res:List Str}(hh:Ka l=some res):K0 C 225 [.d (.sl (estr.rows l))] [] (fun x H'=>H'=[]∧x = .d (.sl (estr.rows res))):=by
 obtain ⟨hroom,hh⟩:=I1 hh
 cases hh
 refine K0.intro hC Tryz.func225 rfl rfl rfl ?_
 refine AEx.seq ?_
 refine AEx.regionN rfl rfl ?_
 refine E0.q hC rfl trivial ?_
 refine E0.nil ?_
 refine AEx.seq ?_
 refine AEx.seq ?_
 refine AEx.regionN rfl rfl ?_
 refine E0.q hC rfl trivial ?_
 refine E0.z hC rfl fun b hnil=>?_
 refine E0.nil ?_
 refine AEx.cond rfl (fun hb=>?_) (fun hb=>?_)
 ·obtain rfl:l=[]:=List.eq_nil_of_length_eq_zero (by have:=estr.len l; rw [hnil hb] at this; exact this.symm)
  refine AEx.seq ?_
  refine AEx.regionN rfl rfl ?_
  refine E0.q hC rfl trivial ?_
  skip
  refine E0.nil ?_
  refine AEx.ret ?_
  exact ⟨_,.d (.sl (estr.rows [])),[],rfl,.full,trivial,rfl,rfl,rfl,rfl⟩
 ·refine AEx.skip ?_
  refine AEx.seq ?_
  refine AEx.regionN rfl rfl ?_
  refine E0.b hC rfl ?_
  refine E0.q hC rfl trivial ?_
  refine E0.ap hC rfl (rs:=estr.rows l) rfl (fun r hr=>absurd hr (List.not_mem_nil)) (estr.sz l) (E4 rfl (estr.len l) hroom) ?_
  refine E0.q hC rfl trivial ?_
  refine E0.nil ?_
  refine AEx.ret ?_
  exact ⟨_,.d (.sl (estr.rows l)),[],rfl,.osl,trivial,rfl,rfl,rfl,rfl⟩
def Gl (s:Str):Option D0:=
 some (D0.mk 3 0 s [])
theorem Aq {s res}(hh:Gl s=some res):K0 C 25 [.d (.str s)] [] (Ret [] (.agg (D0.cells res))):=by
 unfold Gl at hh
 cases hh
 exact K0.intro hC Tryz.func25 rfl rfl rfl (s' rfl rfl (E0.nf hC rfl (n' (p' 2 rfl (E0.s hC rfl (n' (re' (rt' rfl rfl rfl))))))))
def Fn (n:Int):Option D0:=
 some (D0.mk 0 n [] [])
theorem Mr {n res}(hh:Fn n=some res):K0 C 26 [.d (.int .i64 n)] [] (Ret [] (.agg (D0.cells res))):=by
 unfold Fn at hh
 cases hh
 exact K0.intro hC Tryz.func26 rfl rfl rfl (s' rfl rfl (E0.nf hC rfl (n' (p' 2 rfl (E0.s hC rfl (n' (re' (rt' rfl rfl rfl))))))))
def Ko (o:Int)(kids:List D0):Option D0:=
 some (D0.mk o 0 [] kids)
theorem Jw {o kids res}(hh:Ko o kids=some res):K0 C 24 [.d (.int .i64 o),.d (.sl (D0.rows kids))] [] (Ret [] (.agg (D0.cells res))):=by
 unfold Ko at hh
 cases hh
 exact K0.intro hC Tryz.func24 rfl rfl rfl (s' rfl rfl (E0.nf hC rfl (n' (p' 3 rfl (E0.s hC rfl (n' (re' (rt' rfl rfl rfl))))))))
def Rm (k:Int):Option (Bool×Bool):=
 some ((bif (decide (k≥0)) then (decide (k≤6)) else false),(bif (k == 5) then true else (k == 6)))
theorem E1a {k res}(hh:Rm k=some res):K0 C 173 [.d (.int .i64 k)] [] (Ret [] (.tup [.d (.bool res.1),.d (.bool res.2)])):=by
 unfold Rm at hh
 cases hh
 exact K0.intro hC Tryz.func173 rfl rfl rfl (t' rfl (sg' 14 rfl (G' 4 rfl (a1' rfl (pa' rfl (G' 4 rfl (a1' rfl (po' rfl (G' 2 rfl (an' (n' (re' (rt' rfl rfl rfl)))))))))))))
def Y0 (ok:Bool)(syntaxReport:F0):Option F0:=
 some (F0.mk syntaxReport.nodes syntaxReport.depth (bif syntaxReport.badForm then true else (!ok)) syntaxReport.badName syntaxReport.badNumber)
theorem B1 {ok syntaxReport res}(hh:Y0 ok syntaxReport=some res):K0 C 149 [.ref 0 0,.d (.bool ok)] [.row (F0.cells syntaxReport) 135] (Ret [.row (F0.cells res) 135] (.tup [])):=by
 unfold Y0 at hh
 cases hh
 exact K0.intro hC Tryz.func149 rfl rfl rfl (AEx.regionG 11 rfl (G' 7 rfl (a1' rfl (po' rfl (G' 2 rfl (an' (E0.s hC rfl (n' (rn' rfl rfl rfl)))))))))
def P1 (s1:List Str)(s2:List Str)(v13:Int):Option Bool:=
 if (decide (v13 < ((s1).length:Int)))=true then
  idx s1 v13>>=fun x1=>
  idx s2 v13>>=fun x2=>
  if (!(x1 == x2))=true then
   some false
  else
   P1 s1 s2 (IntKind.i64.wrap (v13+1))
 else
  some true
 partial_fixpoint
abbrev Uh (s1:List Str)(s2:List Str)(v13:Int)(res:Bool):Prop:=LM C 26 0 Tryz.f207 [1,1,0,1,4] [(0,.d (.sl (estr.rows s1))),(1,.d (.sl (estr.rows s2))),(12,.d (.int .i64 ((s1).length:Int))),(13,.d (.int .i64 v13))] [] (Ret [] (.d (.bool res)))
theorem Hp (s1:List Str)(s2:List Str):(∀ v13 res,P1 s1 s2 v13=some res→Uh s1 s2 v13 res):=by
 refine P1.partial_correctness s1 s2 _ ?_
 ·intro g0 ih0 v13 res hh
  refine W0.unroll (t' rfl (S' (ci' rfl hh (fun hh=>?_) (fun hh=>?_))))
  ·obtain ⟨x1,hx1,hh⟩:=bs' hh
   obtain ⟨x2,hx2,hh⟩:=bs' hh
   refine sk' (S' (bk' (t' rfl (S' (AEx.draw hC 9 rfl rfl rfl (O' 2 rfl (AQ.i hC rfl (U0 hx1) (estr.idx hx1) rfl (O' 3 rfl (AQ.i hC rfl (U0 hx2) (estr.idx hx2) rfl (E' rfl (n' (ci' rfl hh (fun hh=>?_) (fun hh=>?_)))))))))))))
   ·cases hh
    exact t' rfl (re' (rt' rfl rfl rfl))
   exact sk' (T' rfl (lw' (ih0 _ _ hh) rfl rfl rfl))
  cases hh
  exact ex' (t' rfl (re' (rt' rfl rfl rfl)))
theorem Hq {s1 s2 v13 res}(hh:P1 s1 s2 v13=some res):Uh s1 s2 v13 res:=(Hp s1 s2) _ _ hh
def H3 (s1:List Str)(s2:List Str):Option Bool:=
 if (((s1).length:Int) != ((s2).length:Int))=true then
  some false
 else
  P1 s1 s2 0
theorem Kj {s1 s2 res}(hh:H3 s1 s2=some res):K0 C 207 [.d (.sl (estr.rows s1)),.d (.sl (estr.rows s2))] [] (Ret [] (.d (.bool res))):=by
 unfold H3 at hh
 refine K0.intro hC Tryz.func207 rfl rfl rfl (t' rfl (S' (p' 1 rfl (qe' rfl trivial (estr.lenA _) (q' rfl (qe' rfl trivial (estr.lenA _) (e' rfl (ci' rfl hh (fun hh=>?_) (fun hh=>?_)))))))))
 ·cases hh
  exact t' rfl (re' (rt' rfl rfl rfl))
 exact sk' (S' (p' 1 rfl (qe' rfl trivial (estr.lenA _) (e' rfl (bk' (fw' (Hq hh) rfl rfl rfl))))))
mutual
def I8 (a:A0)(b:A0):Option Bool:=
 (if (bif (bif (bif (bif (a.Kind == b.Kind) then (a.Low == b.Low) else false) then (a.High == b.High) else false) then (a.Size == b.Size) else false) then (a.Name == b.Name) else false)=true then H3 a.Names b.Names else some default)>>=fun x1=>
 (if (bif (bif (bif (bif (bif (a.Kind == b.Kind) then (a.Low == b.Low) else false) then (a.High == b.High) else false) then (a.Size == b.Size) else false) then (a.Name == b.Name) else false) then x1 else false)=true then V2 a.Of b.Of else some default)>>=fun x2=>
 some (bif (bif (bif (bif (bif (bif (a.Kind == b.Kind) then (a.Low == b.Low) else false) then (a.High == b.High) else false) then (a.Size == b.Size) else false) then (a.Name == b.Name) else false) then x1 else false) then x2 else false)
 partial_fixpoint
def V2 (s1:List A0)(s2:List A0):Option Bool:=
 if (((s1).length:Int) != ((s2).length:Int))=true then
  some false
 else
  K1 s1 s2 0
 partial_fixpoint
def K1 (s1:List A0)(s2:List A0)(v17:Int):Option Bool:=
 if (decide (v17 < ((s1).length:Int)))=true then
  idx s1 v17>>=fun x1=>
  idx s2 v17>>=fun x2=>
  I8 x1 x2>>=fun x3=>
  if (!x3)=true then
   some false
  else
   K1 s1 s2 (IntKind.i64.wrap (v17+1))
 else
  some true
 partial_fixpoint
end
abbrev Gv (a:A0)(b:A0)(res:Bool):Prop:=K0 C 174 [.agg (A0.cells a),.agg (A0.cells b)] [] (Ret [] (.d (.bool res)))
abbrev Ie (s1:List A0)(s2:List A0)(res:Bool):Prop:=K0 C 208 [.d (.sl (A0.rows s1)),.d (.sl (A0.rows s2)),.clo 174 []] [] (Ret [] (.d (.bool res)))
abbrev Id (s1:List A0)(s2:List A0)(v17:Int)(res:Bool):Prop:=LM C 32 0 Tryz.f208 [1,1,0,1,4] [(1,.d (.sl (A0.rows s2))),(2,.clo 174 []),(15,.d (.sl (A0.rows s1))),(16,.d (.int .i64 ((s1).length:Int))),(17,.d (.int .i64 v17))] [] (Ret [] (.d (.bool res)))
theorem F15:(∀ a b res,I8 a b=some res→Gv a b res)∧(∀ s1 s2 res,V2 s1 s2=some res→Ie s1 s2 res)∧(∀ s1 s2 v17 res,K1 s1 s2 v17=some res→Id s1 s2 v17 res):=by
 refine I8.mutual_partial_correctness _ _ _ ?_ ?_ ?_
 ·intro g1 ih1 a b res hh
  obtain ⟨x1,hx1,hh⟩:=bs' hh
  obtain ⟨x2,hx2,hh⟩:=bs' hh
  cases hh
  refine K0.intro hC Tryz.func174 rfl rfl rfl (s' rfl rfl (E0.n hC rfl (E0.n hC rfl (e' rfl (sg' 48 rfl (G' 7 rfl (a1' rfl (a0' rfl (a1' rfl (a2' rfl (pa' rfl (G' 2 rfl (a1' rfl ?_)))))))))))))
  refine a0' rfl (a1' rfl (a2' rfl (pa' rfl (G' 2 rfl (a1' rfl (a0' rfl (a1' rfl (a2' rfl (pa' rfl (G' 2 rfl (a1' rfl (a0' rfl (a1' rfl ?_)))))))))))))
  refine a2' rfl (pa' rfl (G' 2 rfl (a1' rfl (a0' rfl (a1' rfl (AG.c rfl rfl (fun hg=>⟨hg,hg,trivial⟩) (fun hw=>Kj (G1 hw hx1)) (pa' rfl (G' 2 rfl (a1' rfl (a0' rfl (a1' rfl (AG.c rfl rfl (fun hg=>⟨hg,hg,trivial⟩) (fun hw=>ih1 _ _ _ (G1 hw hx2)) (pa' rfl ?_)))))))))))))
  exact a0' rfl (an' (n' (re' (rt' rfl rfl rfl))))
 ·intro g2 ih2 s1 s2 res hh
  refine K0.intro hC Tryz.func208 rfl rfl rfl (t' rfl (S' (p' 1 rfl (qe' rfl trivial (A0.lenA _) (q' rfl (qe' rfl trivial (A0.lenA _) (e' rfl (ci' rfl hh (fun hh=>?_) (fun hh=>?_)))))))))
  ·cases hh
   exact t' rfl (re' (rt' rfl rfl rfl))
  exact sk' (S' (p' 1 rfl (qe' rfl trivial (A0.lenA _) (e' rfl (bk' (fw' (ih2 _ _ _ _ hh) rfl rfl rfl))))))
 ·intro g0 g2 ih0 ih2 s1 s2 v17 res hh
  refine W0.unroll (t' rfl (S' (ci' rfl hh (fun hh=>?_) (fun hh=>?_))))
  ·obtain ⟨x1,hx1,hh⟩:=bs' hh
   obtain ⟨x2,hx2,hh⟩:=bs' hh
   obtain ⟨x3,hx3,hh⟩:=bs' hh
   refine sk' (S' (bk' (p' 1 rfl (i' rfl (U0 hx1) (A0.idx hx1) rfl (q' rfl (E0.nf hC rfl (q' rfl (E0.s hC rfl (n' (p' 2 rfl (i' rfl (U0 hx2) (A0.idx hx2) rfl (q' rfl (E0.nf hC rfl ?_)))))))))))))
   refine E0.s hC rfl (n' (p' 3 rfl (c' (ih0 _ _ _ hx3) rfl rfl (e' rfl (ci' rfl hh (fun hh=>?_) (fun hh=>?_))))))
   ·cases hh
    exact t' rfl (re' (rt' rfl rfl rfl))
   exact sk' (T' rfl (lw' (ih2 _ _ _ _ hh) rfl rfl rfl))
  cases hh
  exact ex' (t' rfl (re' (rt' rfl rfl rfl)))
theorem U17 {a b res}(hh:I8 a b=some res):Gv a b res:=(F15).1 _ _ _ hh
def J8 (d:Int)(syntaxReport:F0):Option F0:=
 some (F0.mk syntaxReport.nodes (max syntaxReport.depth d) syntaxReport.badForm syntaxReport.badName syntaxReport.badNumber)
theorem Vj {d syntaxReport res}(hh:J8 d syntaxReport=some res):K0 C 148 [.ref 0 0,.d (.int .i64 d)] [.row (F0.cells syntaxReport) 135] (Ret [.row (F0.cells res) 135] (.tup [])):=by
 unfold J8 at hh
 cases hh
 exact K0.intro hC Tryz.func148 rfl rfl rfl (P' 9 rfl (E0.s hC rfl (n' (rn' rfl rfl rfl))))
def Q3 (n:Int)(low:Int)(high:Int):Option Bool:=
 some (bif (decide (n≥low)) then (decide (n≤high)) else false)
theorem C4 {n low high res}(hh:Q3 n low high=some res):K0 C 154 [.d (.int .i64 n),.d (.int .i64 low),.d (.int .i64 high)] [] (Ret [] (.d (.bool res))):=by
 unfold Q3 at hh
 cases hh
 exact K0.intro hC Tryz.func154 rfl rfl rfl (t' rfl (sg' 9 rfl (G' 6 rfl (a2' rfl (pa' rfl (a0' rfl (an' (n' (re' (rt' rfl rfl rfl))))))))))
def X1 (ok:Bool)(syntaxReport:F0):Option F0:=
 some (F0.mk syntaxReport.nodes syntaxReport.depth syntaxReport.badForm syntaxReport.badName (bif syntaxReport.badNumber then true else (!ok)))
theorem A3 {ok syntaxReport res}(hh:X1 ok syntaxReport=some res):K0 C 153 [.ref 0 0,.d (.bool ok)] [.row (F0.cells syntaxReport) 135] (Ret [.row (F0.cells res) 135] (.tup [])):=by
 unfold X1 at hh
 cases hh
 exact K0.intro hC Tryz.func153 rfl rfl rfl (AEx.regionG 11 rfl (G' 7 rfl (a1' rfl (po' rfl (G' 2 rfl (an' (E0.s hC rfl (n' (rn' rfl rfl rfl)))))))))
def Lo (c:Int):Option Bool:=
 some (bif (decide (c≥97)) then (decide (c≤122)) else false)
theorem L1d {c res}(hh:Lo c=some res):K0 C 229 [.d (.int .u8 c)] [] (Ret [] (.d (.bool res))):=by
 unfold Lo at hh
 cases hh
 exact K0.intro hC Tryz.func229 rfl rfl rfl (t' rfl (sg' 7 rfl (G' 4 rfl (a1' rfl (pa' rfl (a0' rfl (an' (n' (re' (rt' rfl rfl rfl))))))))))
def Bq (c:Int):Option Bool:=
 some (bif (decide (c≥48)) then (decide (c≤57)) else false)
theorem S1f {c res}(hh:Bq c=some res):K0 C 230 [.d (.int .u8 c)] [] (Ret [] (.d (.bool res))):=by
 unfold Bq at hh
 cases hh
 exact K0.intro hC Tryz.func230 rfl rfl rfl (t' rfl (sg' 7 rfl (G' 4 rfl (a1' rfl (pa' rfl (a0' rfl (an' (n' (re' (rt' rfl rfl rfl))))))))))
def P9 (s:Str)(v6:Int):Option Bool:=
 if (decide (v6 < ((s).length:Int)))=true then
  idx s v6>>=fun x1=>
  Lo (x1.toNat:Int)>>=fun x2=>
  (if ((!x2)&&(!(v6 == 0)))=true then idx s v6 else some default)>>=fun x3=>
  (if ((!x2)&&(!(v6 == 0)))=true then Bq (x3.toNat:Int) else some default)>>=fun x4=>
  if (bif (!x2) then (bif (v6 == 0) then true else (!x4)) else false)=true then
   some false
  else
   P9 s (IntKind.i64.wrap (v6+1))
 else
  some (!(s == []))
 partial_fixpoint
abbrev Lw (s:Str)(v6:Int)(res:Bool):Prop:=LM C 28 0 Tryz.f223 [1,0,1,4] [(0,.d (.str s)),(5,.d (.int .i64 ((s).length:Int))),(6,.d (.int .i64 v6))] [] (Ret [] (.d (.bool res)))
theorem V17 (s:Str):(∀ v6 res,P9 s v6=some res→Lw s v6 res):=by
 refine P9.partial_correctness s _ ?_
 ·intro g0 ih0 v6 res hh
  refine W0.unroll (t' rfl (S' (ci' rfl hh (fun hh=>?_) (fun hh=>?_))))
  ·obtain ⟨x1,hx1,hh⟩:=bs' hh
   obtain ⟨x2,hx2,hh⟩:=bs' hh
   obtain ⟨x3,hx3,hh⟩:=bs' hh
   obtain ⟨x4,hx4,hh⟩:=bs' hh
   refine sk' (S' (bk' (t' rfl (sg' 16 rfl (G' 2 rfl (AG.x hC rfl rfl (fun _=>trivial) (fun hw=>⟨U0 hx1,Di hx1⟩) (AG.c rfl rfl (fun _=>trivial) (fun _=>L1d hx2) (G' 3 rfl (a1' rfl (a1' rfl (G' 2 rfl (AG.x hC rfl rfl (fun hg=>⟨hg,hg,trivial⟩) (fun hw=>⟨U0 (G1 hw hx3),Di (G1 hw hx3)⟩) (AG.c rfl rfl (fun hg=>⟨hg,trivial⟩) (fun hw=>S1f (G1 hw hx4)) ?_)))))))))))))
   refine a1' rfl (pO' rfl (pa' rfl (an' (n' (ci' rfl hh (fun hh=>?_) (fun hh=>?_))))))
   ·cases hh
    exact t' rfl (re' (rt' rfl rfl rfl))
   exact sk' (T' rfl (lw' (ih0 _ _ hh) rfl rfl rfl))
  cases hh
  exact ex' (t' rfl (re' (rt' rfl rfl rfl)))
theorem F1a {s v6 res}(hh:P9 s v6=some res):Lw s v6 res:=(V17 s) _ _ hh
def Nr (s:Str):Option Bool:=
 P9 s 0
theorem R1i {s res}(hh:Nr s=some res):K0 C 223 [.d (.str s)] [] (Ret [] (.d (.bool res))):=by
 unfold Nr at hh
 exact K0.intro hC Tryz.func223 rfl rfl rfl (t' rfl (S' (t' rfl (bk' (fw' (F1a hh) rfl rfl rfl)))))
def Wj (Pm:Str):Option Bool:=
 (if (!(Pm == []))=true then Lr Pm [32] else some default)>>=fun x1=>
 if (!(bif (!(Pm == [])) then (!x1) else false)||(decide (1+Pm.length≤maxLen)))=true then
  if (!(bif (!(Pm == [])) then (!x1) else false)||(decide (([32]++Pm).length+1≤maxLen)))=true then
   (if (bif (!(Pm == [])) then (!x1) else false)=true then Lr [32,116,121,112,101,32,115,101,99,114,101,116,32,112,117,98,108,105,99,32,114,97,110,100,111,109,32,118,97,114,32,104,97,116,99,104,32,102,117,110,99,32,114,101,116,117,114,110,32,98,101,103,105,110,32,101,110,100,32,98,111,111,108,32,105,110,116,32,97,114,114,97,121,32,111,102,32,114,101,99,111,114,100,32,116,114,117,101,32,102,97,108,115,101,32,99,97,108,108,32,114,101,108,101,97,115,101,32,111,117,116,112,117,116,32,119,97,105,116,32,105,102,32,101,108,115,101,32,119,104,105,108,101,32,108,105,109,105,116,32,102,111,114,32,116,111,32,115,101,116,116,108,101,32,109,105,110,32,109,97,120,32] (([32]++Pm)++[32]) else some default)>>=fun x2=>
   some (bif (bif (!(Pm == [])) then (!x1) else false) then x2 else false)
  else none
 else none
theorem M1d {Pm res}(hh:Wj Pm=some res):K0 C 224 [.d (.str Pm)] [] (Ret [] (.d (.bool res))):=by
 unfold Wj at hh
 obtain ⟨x1,hx1,hh⟩:=bs' hh
 obtain ⟨c11,hh⟩:=F1p hh
 obtain ⟨c12,hh⟩:=F1p hh
 obtain ⟨x2,hx2,hh⟩:=bs' hh
 cases hh
 refine K0.intro hC Tryz.func224 rfl rfl rfl (t' rfl (sg' 14 rfl (G' 4 rfl (AG.c rfl rfl (fun hg=>⟨hg,trivial⟩) (fun hw=>D17 (G1 hw hx1)) (a1' rfl (pa' rfl (G' 2 rfl (ag' rfl (fun hg=>⟨⟨hg,trivial⟩,(c11 hg)⟩) (ag' rfl (fun hg=>⟨⟨hg,trivial⟩,(c12 hg)⟩) (AG.c rfl rfl (fun hg=>⟨hg,trivial⟩) (fun hw=>D17 (G1 hw hx2)) (pa' rfl (a0' rfl (an' ?_)))))))))))))
 exact n' (re' (rt' rfl rfl rfl))
def Pr (s:Str):Option Bool:=
 (if (decide (((s).length:Int)≤12))=true then Nr s else some default)>>=fun x1=>
 (if (bif (decide (((s).length:Int)≤12)) then x1 else false)=true then Wj s else some default)>>=fun x2=>
 some (bif (bif (decide (((s).length:Int)≤12)) then x1 else false) then (!x2) else false)
theorem S1i {s res}(hh:Pr s=some res):K0 C 210 [.d (.str s)] [] (Ret [] (.d (.bool res))):=by
 unfold Pr at hh
 obtain ⟨x1,hx1,hh⟩:=bs' hh
 obtain ⟨x2,hx2,hh⟩:=bs' hh
 cases hh
 exact K0.intro hC Tryz.func210 rfl rfl rfl (t' rfl (sg' 13 rfl (G' 5 rfl (AG.c rfl rfl (fun hg=>⟨hg,trivial⟩) (fun hw=>R1i (G1 hw hx1)) (pa' rfl (G' 2 rfl (AG.c rfl rfl (fun hg=>⟨hg,trivial⟩) (fun hw=>M1d (G1 hw hx2)) (a1' rfl (pa' rfl (a0' rfl (an' (n' (re' (rt' rfl rfl rfl))))))))))))))
def Ei (s:Str):Option Bool:=
 Pr s>>=fun x1=>
 some x1
theorem Ly {s res}(hh:Ei s=some res):K0 C 179 [.d (.str s)] [] (Ret [] (.d (.bool res))):=by
 unfold Ei at hh
 obtain ⟨x1,hx1,hh⟩:=bs' hh
 cases hh
 exact K0.intro hC Tryz.func179 rfl rfl rfl (t' rfl (p' 1 rfl (c' (S1i hx1) rfl rfl (e' rfl (re' (rt' rfl rfl rfl))))))
def H4 (s:Str)(syntaxReport:F0):Option F0:=
 (if (!syntaxReport.badName)=true then Ei s else some default)>>=fun x1=>
 some (F0.mk syntaxReport.nodes syntaxReport.depth syntaxReport.badForm (bif syntaxReport.badName then true else (!x1)) syntaxReport.badNumber)
theorem Ta {s syntaxReport res}(hh:H4 s syntaxReport=some res):K0 C 152 [.ref 0 0,.d (.str s)] [.row (F0.cells syntaxReport) 135] (Ret [.row (F0.cells res) 135] (.tup [])):=by
 unfold H4 at hh
 obtain ⟨x1,hx1,hh⟩:=bs' hh
 cases hh
 exact K0.intro hC Tryz.func152 rfl rfl rfl (AEx.regionG 12 rfl (G' 7 rfl (AG.c rfl rfl (fun hg=>⟨hg,trivial⟩) (fun hw=>Ly (G1 hw hx1)) (a1' rfl (po' rfl (G' 2 rfl (an' (E0.s hC rfl (n' (rn' rfl rfl rfl))))))))))
mutual
def S4 (t:A0)(depth:Int)(syntaxReport:F0):Option F0:=
 J8 depth (F0.mk (IntKind.i64.wrap (syntaxReport.nodes+1)) syntaxReport.depth syntaxReport.badForm syntaxReport.badName syntaxReport.badNumber)>>=fun x1=>
 Y0 (bif (decide (t.Kind≥0)) then (decide (t.Kind≤4)) else false) x1>>=fun x2=>
 Y0 (bif (t.Kind == 1) then true else (bif (t.Low == 0) then (t.High == 0) else false)) x2>>=fun x3=>
 Y0 (bif (t.Kind == 2) then true else (t.Size == 0)) x3>>=fun x4=>
 Y0 (bif (t.Kind == 4) then true else (t.Name == [])) x4>>=fun x5=>
 Y0 (bif (t.Kind == 3) then true else (((t.Names).length:Int) == 0)) x5>>=fun x6=>
 if (t.Kind == 2)=true then
  Y0 (((t.Of).length:Int) == 1) x6>>=fun x7=>
  Q3 t.Size 1 32>>=fun x8=>
  X1 x8 x7>>=fun x9=>
  Y8 t depth x9
 else
  if (t.Kind == 3)=true then
   Y0 (bif (decide (((t.Of).length:Int)≥1)) then (((t.Of).length:Int) == ((t.Names).length:Int)) else false) x6>>=fun x14=>
   X1 (decide (((t.Of).length:Int)≤32)) x14>>=fun x15=>
   Y8 t depth x15
  else
   Y0 (((t.Of).length:Int) == 0) x6>>=fun x16=>
   Y8 t depth x16
 partial_fixpoint
def Y8 (t:A0)(depth:Int)(o0:F0):Option F0:=
 if (t.Kind == 1)=true then
  Q3 t.Low (-1048576) 1048576>>=fun x10=>
  (if x10=true then Q3 t.High t.Low 1048576 else some default)>>=fun x11=>
  X1 (bif x10 then x11 else false) o0>>=fun x12=>
  Z8 t depth x12
 else
  Z8 t depth o0
 partial_fixpoint
def Z8 (t:A0)(depth:Int)(o01:F0):Option F0:=
 if (t.Kind == 4)=true then
  H4 t.Name o01>>=fun x13=>
  Xb t depth x13
 else
  Xb t depth o01
 partial_fixpoint
def Xb (t:A0)(depth:Int)(o02:F0):Option F0:=
 B5 t depth o02 0
 partial_fixpoint
def B5 (t:A0)(depth:Int)(o03:F0)(v147:Int):Option F0:=
 if (decide (v147 < ((t.Names).length:Int)))=true then
  idx t.Names v147>>=fun x17=>
  H4 x17 o03>>=fun x18=>
  B5 t depth x18 (IntKind.i64.wrap (v147+1))
 else
  P6 t depth o03 0
 partial_fixpoint
def P6 (t:A0)(depth:Int)(o04:F0)(v158:Int):Option F0:=
 if (decide (v158 < ((t.Of).length:Int)))=true then
  idx t.Of v158>>=fun x19=>
  S4 x19 (IntKind.i64.wrap (depth+1)) o04>>=fun x20=>
  P6 t depth x20 (IntKind.i64.wrap (v158+1))
 else
  some o04
 partial_fixpoint
end
abbrev Ht (t:A0)(depth:Int)(syntaxReport:F0)(res:F0):Prop:=K0 C 175 [.ref 0 0,.agg (A0.cells t),.d (.int .i64 depth)] [.row (F0.cells syntaxReport) 135] (Ret [.row (F0.cells res) 135] (.tup []))
abbrev X11 (t:A0)(depth:Int)(o0:F0)(res:F0):Prop:=JM C 168 1 Tryz.f175 [1,1,1,1,1,1,1,1,1,1] [(0,.ref 0 0),(2,.d (.int .i64 depth)),(4,.ref 1 0),(6,.d (.bool (t.Kind == 1))),(9,.d (.bool (t.Kind == 4)))] [.row (F0.cells o0) 135,.row (A0.cells t) 40] (Ret [.row (F0.cells res) 135] (.tup []))
abbrev Y11 (t:A0)(depth:Int)(o01:F0)(res:F0):Prop:=JM C 168 1 Tryz.f175 [1,1,1,1,1,1,1,1,1,1,1] [(0,.ref 0 0),(2,.d (.int .i64 depth)),(4,.ref 1 0),(9,.d (.bool (t.Kind == 4)))] [.row (F0.cells o01) 135,.row (A0.cells t) 40] (Ret [.row (F0.cells res) 135] (.tup []))
abbrev Z11 (t:A0)(depth:Int)(o02:F0)(res:F0):Prop:=JM C 168 1 Tryz.f175 [1,1,1,1,1,1,1,1,1,1,1,1] [(0,.ref 0 0),(2,.d (.int .i64 depth)),(4,.ref 1 0)] [.row (F0.cells o02) 135,.row (A0.cells t) 40] (Ret [.row (F0.cells res) 135] (.tup []))
abbrev A12 (t:A0)(depth:Int)(o03:F0)(v147:Int)(res:F0):Prop:=LM C 168 1 Tryz.f175 [1,1,1,1,1,1,1,1,1,1,1,1,0,1,4] [(0,.ref 0 0),(2,.d (.int .i64 depth)),(4,.ref 1 0),(145,.d (.sl (estr.rows t.Names))),(146,.d (.int .i64 ((t.Names).length:Int))),(147,.d (.int .i64 v147))] [.row (F0.cells o03) 135,.row (A0.cells t) 40] (Ret [.row (F0.cells res) 135] (.tup []))
abbrev B12 (t:A0)(depth:Int)(o04:F0)(v158:Int)(res:F0):Prop:=LM C 168 1 Tryz.f175 [1,1,1,1,1,1,1,1,1,1,1,1,1,1,4] [(0,.ref 0 0),(2,.d (.int .i64 depth)),(156,.d (.sl (A0.rows t.Of))),(157,.d (.int .i64 ((t.Of).length:Int))),(158,.d (.int .i64 v158))] [.row (F0.cells o04) 135] (Ret [.row (F0.cells res) 135] (.tup []))
theorem O13:(∀ t depth syntaxReport res,S4 t depth syntaxReport=some res→Ht t depth syntaxReport res)∧(∀ t depth o0 res,Y8 t depth o0=some res→X11 t depth o0 res)∧(∀ t depth o01 res,Z8 t depth o01=some res→Y11 t depth o01 res)∧(∀ t depth o02 res,Xb t depth o02=some res→Z11 t depth o02 res)∧(∀ t depth o03 v147 res,B5 t depth o03 v147=some res→A12 t depth o03 v147 res)∧(∀ t depth o04 v158 res,P6 t depth o04 v158=some res→B12 t depth o04 v158 res):=by
 refine S4.mutual_partial_correctness _ _ _ _ _ _ ?_ ?_ ?_ ?_ ?_ ?_
 ·intro g1 ih1 t depth syntaxReport res hh
  obtain ⟨x1,hx1,hh⟩:=bs' hh
  obtain ⟨x2,hx2,hh⟩:=bs' hh
  obtain ⟨x3,hx3,hh⟩:=bs' hh
  obtain ⟨x4,hx4,hh⟩:=bs' hh
  obtain ⟨x5,hx5,hh⟩:=bs' hh
  obtain ⟨x6,hx6,hh⟩:=bs' hh
  refine K0.intro hC Tryz.func175 rfl rfl rfl (s' rfl rfl (E0.n hC rfl (n' (p' 7 rfl (E0.s hC rfl (n' (p' 2 rfl (g' [0] (Vj hx1) rfl rfl rfl rfl rfl rfl (n' (sg' 9 rfl (G' 6 rfl (a1' rfl (a1' rfl ?_)))))))))))))
  refine pa' rfl (an' (g' [0] (B1 hx2) rfl rfl rfl rfl rfl rfl (n' (S' (AEx.draw hC 16 rfl rfl rfl (E' rfl (n' (sg' 12 rfl (G' 4 rfl (a1' rfl (a1' rfl (a1' rfl (a0' rfl ?_)))))))))))))
  refine a1' rfl (a1' rfl (pA' rfl (po' rfl (an' (g' [0] (B1 hx3) rfl rfl rfl rfl rfl rfl (n' (sg' 7 rfl (G' 4 rfl (a1' rfl (a1' rfl (po' rfl (an' (g' [0] (B1 hx4) rfl rfl rfl rfl rfl rfl ?_)))))))))))))
  refine n' (sg' 7 rfl (G' 4 rfl (a1' rfl (a1' rfl (po' rfl (an' (g' [0] (B1 hx5) rfl rfl rfl rfl rfl rfl (n' (sg' 8 rfl (G' 4 rfl (a1' rfl (AG.qe hC rfl (fun hg=>⟨⟨hg,trivial⟩,trivial⟩) (estr.lenA _) (a1' rfl ?_)))))))))))))
  refine po' rfl (an' (g' [0] (B1 hx6) rfl rfl rfl rfl rfl rfl (n' (S' (bk' (t' rfl (ci' rfl hh (fun hh=>?_) (fun hh=>?_))))))))
  ·obtain ⟨x7,hx7,hh⟩:=bs' hh
   obtain ⟨x8,hx8,hh⟩:=bs' hh
   obtain ⟨x9,hx9,hh⟩:=bs' hh
   exact p' 3 rfl (qe' rfl trivial (A0.lenA _) (q' rfl (g' [0] (B1 hx7) rfl rfl rfl rfl rfl rfl (n' (P' 3 rfl (c' (C4 hx8) rfl rfl (g' [0] (A3 hx9) rfl rfl rfl rfl rfl rfl (n' (ew' (ih1 _ _ _ _ hh) rfl rfl rfl)))))))))
  refine t' rfl (ci' rfl hh (fun hh=>?_) (fun hh=>?_))
  ·obtain ⟨x14,hx14,hh⟩:=bs' hh
   obtain ⟨x15,hx15,hh⟩:=bs' hh
   refine sg' 14 rfl (G' 3 rfl (AG.qe hC rfl (fun hg=>⟨trivial,trivial⟩) (A0.lenA _) (G' 3 rfl (a1' rfl (AG.qe hC rfl (fun hg=>⟨⟨hg,trivial⟩,trivial⟩) (A0.lenA _) (a0' rfl (a1' rfl (AG.qe hC rfl (fun hg=>⟨⟨hg,trivial⟩,trivial⟩) (estr.lenA _) (a2' rfl (pa' rfl (an' (g' [0] (B1 hx14) rfl rfl rfl rfl rfl rfl (n' ?_)))))))))))))
   exact P' 3 rfl (qe' rfl trivial (A0.lenA _) (q' rfl (g' [0] (A3 hx15) rfl rfl rfl rfl rfl rfl (n' (ew' (ih1 _ _ _ _ hh) rfl rfl rfl)))))
  obtain ⟨x16,hx16,hh⟩:=bs' hh
  exact P' 3 rfl (qe' rfl trivial (A0.lenA _) (q' rfl (g' [0] (B1 hx16) rfl rfl rfl rfl rfl rfl (n' (ew' (ih1 _ _ _ _ hh) rfl rfl rfl)))))
 ·intro g2 ih2 t depth o0 res hh
  refine S' (t' rfl (ci' rfl hh (fun hh=>?_) (fun hh=>?_)))
  ·obtain ⟨x10,hx10,hh⟩:=bs' hh
   obtain ⟨x11,hx11,hh⟩:=bs' hh
   obtain ⟨x12,hx12,hh⟩:=bs' hh
   exact AEx.regionG 11 rfl (G' 3 rfl (AG.c rfl rfl (fun _=>trivial) (fun _=>C4 hx10) (G' 2 rfl (a1' rfl (a0' rfl (a1' rfl (AG.c rfl rfl (fun hg=>⟨hg,hg,trivial⟩) (fun hw=>C4 (G1 hw hx11)) (pa' rfl (an' (g' [0] (A3 hx12) rfl rfl rfl rfl rfl rfl (n' (ew' (ih2 _ _ _ _ hh) rfl rfl rfl))))))))))))
  exact sk' (ew' (ih2 _ _ _ _ hh) rfl rfl rfl)
 ·intro g3 ih3 t depth o01 res hh
  refine S' (t' rfl (ci' rfl hh (fun hh=>?_) (fun hh=>?_)))
  ·obtain ⟨x13,hx13,hh⟩:=bs' hh
   exact P' 3 rfl (g' [0] (Ta hx13) rfl rfl rfl rfl rfl rfl (n' (ew' (ih3 _ _ _ _ hh) rfl rfl rfl)))
  exact sk' (ew' (ih3 _ _ _ _ hh) rfl rfl rfl)
 ·intro g4 ih4 t depth o02 res hh
  exact S' (p' 2 rfl (qe' rfl trivial (estr.lenA _) (e' rfl (bk' (fw' (ih4 _ _ _ _ _ hh) rfl rfl rfl)))))
 ·intro g4 g5 ih4 ih5 t depth o03 v147 res hh
  refine W0.unroll (t' rfl (S' (ci' rfl hh (fun hh=>?_) (fun hh=>?_))))
  ·obtain ⟨x17,hx17,hh⟩:=bs' hh
   obtain ⟨x18,hx18,hh⟩:=bs' hh
   exact sk' (S' (bk' (s' rfl rfl (i' rfl (U0 hx17) (estr.idx hx17) rfl (e' rfl (P' 2 rfl (g' [0] (Ta hx18) rfl rfl rfl rfl rfl rfl (n' (T' rfl (lw' (ih4 _ _ _ _ _ hh) rfl rfl rfl))))))))))
  exact ex' (p' 2 rfl (qe' rfl trivial (A0.lenA _) (e' rfl (bk' (fw' (ih5 _ _ _ _ _ hh) rfl rfl rfl)))))
 ·intro g0 g5 ih0 ih5 t depth o04 v158 res hh
  refine W0.unroll (t' rfl (S' (ci' rfl hh (fun hh=>?_) (fun hh=>?_))))
  ·obtain ⟨x19,hx19,hh⟩:=bs' hh
   obtain ⟨x20,hx20,hh⟩:=bs' hh
   exact sk' (S' (bk' (s' rfl rfl (i' rfl (U0 hx19) (A0.idx hx19) rfl (q' rfl (E0.nf hC rfl (E0.s hC rfl (n' (P' 4 rfl (g' [0] (ih0 _ _ _ _ hx20) rfl rfl rfl rfl rfl rfl (n' (T' rfl (lw' (ih5 _ _ _ _ _ hh) rfl rfl rfl)))))))))))))
  cases hh
  exact ex' (rn' rfl rfl rfl)
theorem Rr {t depth syntaxReport res}(hh:S4 t depth syntaxReport=some res):Ht t depth syntaxReport res:=(O13).1 _ _ _ _ hh
mutual
def Q6 (a:D0)(b:D0):Option Bool:=
 (if (bif (bif (a.Op == b.Op) then (a.NV == b.NV) else false) then (a.Name == b.Name) else false)=true then W2 a.Kids b.Kids else some default)>>=fun x1=>
 some (bif (bif (bif (a.Op == b.Op) then (a.NV == b.NV) else false) then (a.Name == b.Name) else false) then x1 else false)
 partial_fixpoint
def W2 (s1:List D0)(s2:List D0):Option Bool:=
 if (((s1).length:Int) != ((s2).length:Int))=true then
  some false
 else
  N1 s1 s2 0
 partial_fixpoint
def N1 (s1:List D0)(s2:List D0)(v17:Int):Option Bool:=
 if (decide (v17 < ((s1).length:Int)))=true then
  idx s1 v17>>=fun x1=>
  idx s2 v17>>=fun x2=>
  Q6 x1 x2>>=fun x3=>
  if (!x3)=true then
   some false
  else
   N1 s1 s2 (IntKind.i64.wrap (v17+1))
 else
  some true
 partial_fixpoint
end
abbrev Hv (a:D0)(b:D0)(res:Bool):Prop:=K0 C 209 [.agg (D0.cells a),.agg (D0.cells b)] [] (Ret [] (.d (.bool res)))
abbrev Je (s1:List D0)(s2:List D0)(res:Bool):Prop:=K0 C 222 [.d (.sl (D0.rows s1)),.d (.sl (D0.rows s2)),.clo 209 []] [] (Ret [] (.d (.bool res)))
abbrev Jd (s1:List D0)(s2:List D0)(v17:Int)(res:Bool):Prop:=LM C 32 0 Tryz.f222 [1,1,0,1,4] [(1,.d (.sl (D0.rows s2))),(2,.clo 209 []),(15,.d (.sl (D0.rows s1))),(16,.d (.int .i64 ((s1).length:Int))),(17,.d (.int .i64 v17))] [] (Ret [] (.d (.bool res)))
theorem G15:(∀ a b res,Q6 a b=some res→Hv a b res)∧(∀ s1 s2 res,W2 s1 s2=some res→Je s1 s2 res)∧(∀ s1 s2 v17 res,N1 s1 s2 v17=some res→Jd s1 s2 v17 res):=by
 refine Q6.mutual_partial_correctness _ _ _ ?_ ?_ ?_
 ·intro g1 ih1 a b res hh
  obtain ⟨x1,hx1,hh⟩:=bs' hh
  cases hh
  refine K0.intro hC Tryz.func209 rfl rfl rfl (s' rfl rfl (E0.n hC rfl (E0.n hC rfl (e' rfl (sg' 27 rfl (G' 7 rfl (a1' rfl (a0' rfl (a1' rfl (a2' rfl (pa' rfl (G' 2 rfl (a1' rfl ?_)))))))))))))
  exact a0' rfl (a1' rfl (a2' rfl (pa' rfl (G' 2 rfl (a1' rfl (a0' rfl (a1' rfl (AG.c rfl rfl (fun hg=>⟨hg,hg,trivial⟩) (fun hw=>ih1 _ _ _ (G1 hw hx1)) (pa' rfl (a0' rfl (an' (n' (re' (rt' rfl rfl rfl))))))))))))))
 ·intro g2 ih2 s1 s2 res hh
  refine K0.intro hC Tryz.func222 rfl rfl rfl (t' rfl (S' (p' 1 rfl (qe' rfl trivial (D0.lenA _) (q' rfl (qe' rfl trivial (D0.lenA _) (e' rfl (ci' rfl hh (fun hh=>?_) (fun hh=>?_)))))))))
  ·cases hh
   exact t' rfl (re' (rt' rfl rfl rfl))
  exact sk' (S' (p' 1 rfl (qe' rfl trivial (D0.lenA _) (e' rfl (bk' (fw' (ih2 _ _ _ _ hh) rfl rfl rfl))))))
 ·intro g0 g2 ih0 ih2 s1 s2 v17 res hh
  refine W0.unroll (t' rfl (S' (ci' rfl hh (fun hh=>?_) (fun hh=>?_))))
  ·obtain ⟨x1,hx1,hh⟩:=bs' hh
   obtain ⟨x2,hx2,hh⟩:=bs' hh
   obtain ⟨x3,hx3,hh⟩:=bs' hh
   refine sk' (S' (bk' (p' 1 rfl (i' rfl (U0 hx1) (D0.idx hx1) rfl (q' rfl (E0.nf hC rfl (q' rfl (E0.s hC rfl (n' (p' 2 rfl (i' rfl (U0 hx2) (D0.idx hx2) rfl (q' rfl (E0.nf hC rfl ?_)))))))))))))
   refine E0.s hC rfl (n' (p' 3 rfl (c' (ih0 _ _ _ hx3) rfl rfl (e' rfl (ci' rfl hh (fun hh=>?_) (fun hh=>?_))))))
   ·cases hh
    exact t' rfl (re' (rt' rfl rfl rfl))
   exact sk' (T' rfl (lw' (ih2 _ _ _ _ hh) rfl rfl rfl))
  cases hh
  exact ex' (t' rfl (re' (rt' rfl rfl rfl)))
theorem W17 {a b res}(hh:Q6 a b=some res):Hv a b res:=(G15).1 _ _ _ hh
def Se (op:Int)(v9:Bool):Option Int:=
 if v9=true then
  some 1
 else
  if (op == 5)=true then
   some 2
  else
   if (op == 23)=true then
    some 3
   else
    if (bif (decide (op≥8)) then (decide (op≤22)) else false)=true then
     some 2
    else
     some (-1)
theorem Gn {op v9 res}(hh:Se op v9=some res):JM C 23 0 Tryz.f150 [1,0,1,4,1,3,1] [(0,.d (.int .i64 op)),(3,.d (.int .i64 op)),(9,.d (.bool v9))] [] (Ret [] (.d (.int .i64 res))):=by
 unfold Se at hh
 refine ci' rfl hh (fun hh=>?_) (fun hh=>?_)
 ·cases hh
  exact t' rfl (re' (rt' rfl rfl rfl))
 refine t' rfl (ci' rfl hh (fun hh=>?_) (fun hh=>?_))
 ·cases hh
  exact t' rfl (re' (rt' rfl rfl rfl))
 refine t' rfl (ci' rfl hh (fun hh=>?_) (fun hh=>?_))
 ·cases hh
  exact t' rfl (re' (rt' rfl rfl rfl))
 refine sk' (S' (sg' 6 rfl (G' 4 rfl (a1' rfl (pa' rfl (an' (n' (ci' rfl hh (fun hh=>?_) (fun hh=>?_)))))))))
 ·cases hh
  exact t' rfl (re' (rt' rfl rfl rfl))
 cases hh
 exact sk' (t' rfl (re' (rt' rfl rfl rfl)))
def Yb (op:Int)(v4:Bool):Option Int:=
 if v4=true then
  some 0
 else
  if (op == 4)=true then
   Se op (op == 4)
  else
   if (op == 6)=true then
    Se op (op == 6)
   else
    Se op (op == 7)
theorem Mi {op v4 res}(hh:Yb op v4=some res):JM C 23 0 Tryz.f150 [1,0,1,4,1] [(0,.d (.int .i64 op)),(3,.d (.int .i64 op)),(4,.d (.bool v4))] [] (Ret [] (.d (.int .i64 res))):=by
 unfold Yb at hh
 refine ci' rfl hh (fun hh=>?_) (fun hh=>?_)
 ·cases hh
  exact t' rfl (re' (rt' rfl rfl rfl))
 refine S' (t' rfl (ci' rfl hh (fun hh=>?_) (fun hh=>?_)))
 ·exact sk' (ew' (Gn hh) rfl rfl rfl)
 refine t' rfl (ci' rfl hh (fun hh=>?_) (fun hh=>?_))
 ·exact sk' (ew' (Gn hh) rfl rfl rfl)
 exact T' rfl (ew' (Gn hh) rfl rfl rfl)
def Hn (op:Int):Option Int:=
 if (op == 0)=true then
  Yb op (op == 0)
 else
  if (op == 1)=true then
   Yb op (op == 1)
  else
   if (op == 2)=true then
    Yb op (op == 2)
   else
    Yb op (op == 3)
theorem T1i {op res}(hh:Hn op=some res):K0 C 150 [.d (.int .i64 op)] [] (Ret [] (.d (.int .i64 res))):=by
 unfold Hn at hh
 refine K0.intro hC Tryz.func150 rfl rfl rfl (t' rfl (S' (t' rfl (bk' (S' (t' rfl (ci' rfl hh (fun hh=>?_) (fun hh=>?_))))))))
 ·exact sk' (ew' (Mi hh) rfl rfl rfl)
 refine t' rfl (ci' rfl hh (fun hh=>?_) (fun hh=>?_))
 ·exact sk' (ew' (Mi hh) rfl rfl rfl)
 refine t' rfl (ci' rfl hh (fun hh=>?_) (fun hh=>?_))
 ·exact sk' (ew' (Mi hh) rfl rfl rfl)
 exact T' rfl (ew' (Mi hh) rfl rfl rfl)
def Te (o0:D0):Option Bool:=
 if (bif (o0.Op == 4) then true else (o0.Op == 5))=true then
  if (((o0.Kids).length:Int) == 0)=true then
   some false
  else
   idx o0.Kids 0>>=fun x1=>
   Te x1
 else
  some (o0.Op == 3)
 partial_fixpoint
abbrev Mw (o0:D0)(res:Bool):Prop:=LM C 22 0 Tryz.f151 [1,0,4] [(1,.ref 0 0)] [.row (D0.cells o0) 34] (Ret [] (.d (.bool res)))
theorem X17:(∀ o0 res,Te o0=some res→Mw o0 res):=by
 refine Te.partial_correctness _ ?_
 ·intro g0 ih0 o0 res hh
  refine W0.unroll (S' (sg' 8 rfl (G' 5 rfl (a1' rfl (a1' rfl (po' rfl (an' (n' (ci' rfl hh (fun hh=>?_) (fun hh=>?_))))))))))
  ·refine sk' (bk' (S' (p' 2 rfl (qe' rfl trivial (D0.lenA _) (e' rfl (ci' rfl hh (fun hh=>?_) (fun hh=>?_)))))))
   ·cases hh
    exact t' rfl (re' (rt' rfl rfl rfl))
   obtain ⟨x1,hx1,hh⟩:=bs' hh
   exact sk' (P' 2 rfl (i' rfl (U0 hx1) (D0.idx hx1) rfl (q' rfl (E0.s hC rfl (n' (lw' (ih0 _ _ hh) rfl rfl rfl))))))
  cases hh
  exact ex' (t' rfl (re' (rt' rfl rfl rfl)))
theorem G1a {o0 res}(hh:Te o0=some res):Mw o0 res:=(X17) _ _ hh
def Xj (e:D0):Option Bool:=
 Te e
theorem B11 {e res}(hh:Xj e=some res):K0 C 151 [.agg (D0.cells e)] [] (Ret [] (.d (.bool res))):=by
 unfold Xj at hh
 exact K0.intro hC Tryz.func151 rfl rfl rfl (s' rfl rfl (E0.n hC rfl (e' rfl (S' (bk' (fw' (G1a hh) rfl rfl rfl))))))
mutual
def I3 (e:D0)(depth:Int)(syntaxReport:F0):Option F0:=
 J8 depth (F0.mk (IntKind.i64.wrap (syntaxReport.nodes+1)) syntaxReport.depth syntaxReport.badForm syntaxReport.badName syntaxReport.badNumber)>>=fun x1=>
 Hn e.Op>>=fun x2=>
 Y0 (x2 == ((e.Kids).length:Int)) x1>>=fun x3=>
 Y0 (bif (e.NV == 0) then true else (e.Op == 0)) x3>>=fun x4=>
 Y0 (bif (e.Name == []) then true else (bif (e.Op == 3) then true else (e.Op == 4))) x4>>=fun x5=>
 if (bif (e.Op == 4) then true else (e.Op == 5))=true then
  Xj e>>=fun x6=>
  Y0 x6 x5>>=fun x7=>
  Ua e depth x7
 else
  Ua e depth x5
 partial_fixpoint
def Ua (e:D0)(depth:Int)(o0:F0):Option F0:=
 if (bif (e.Op == 3) then true else (e.Op == 4))=true then
  H4 e.Name o0>>=fun x8=>
  Ue e depth x8
 else
  Ue e depth o0
 partial_fixpoint
def Ue (e:D0)(depth:Int)(o01:F0):Option F0:=
 if (e.Op == 0)=true then
  Q3 e.NV 0 1048576>>=fun x9=>
  X1 x9 o01>>=fun x10=>
  Ve e depth x10
 else
  Ve e depth o01
 partial_fixpoint
def Ve (e:D0)(depth:Int)(o02:F0):Option F0:=
 R4 e depth o02 0
 partial_fixpoint
def R4 (e:D0)(depth:Int)(o03:F0)(v82:Int):Option F0:=
 if (decide (v82 < ((e.Kids).length:Int)))=true then
  idx e.Kids v82>>=fun x11=>
  I3 x11 (IntKind.i64.wrap (depth+1)) o03>>=fun x12=>
  R4 e depth x12 (IntKind.i64.wrap (v82+1))
 else
  some o03
 partial_fixpoint
end
abbrev Sr (e:D0)(depth:Int)(syntaxReport:F0)(res:F0):Prop:=K0 C 84 [.ref 0 0,.agg (D0.cells e),.d (.int .i64 depth)] [.row (F0.cells syntaxReport) 135] (Ret [.row (F0.cells res) 135] (.tup []))
abbrev D10 (e:D0)(depth:Int)(o0:F0)(res:F0):Prop:=JM C 92 1 Tryz.f84 [1,1,1,1,1,1,1,1] [(0,.ref 0 0),(2,.d (.int .i64 depth)),(4,.ref 1 0),(6,.d (.bool (bif (e.Op == 3) then true else (e.Op == 4))))] [.row (F0.cells o0) 135,.row (D0.cells e) 34] (Ret [.row (F0.cells res) 135] (.tup []))
abbrev E10 (e:D0)(depth:Int)(o01:F0)(res:F0):Prop:=JM C 92 1 Tryz.f84 [1,1,1,1,1,1,1,1,1] [(0,.ref 0 0),(2,.d (.int .i64 depth)),(4,.ref 1 0)] [.row (F0.cells o01) 135,.row (D0.cells e) 34] (Ret [.row (F0.cells res) 135] (.tup []))
abbrev F10 (e:D0)(depth:Int)(o02:F0)(res:F0):Prop:=JM C 92 1 Tryz.f84 [1,1,1,1,1,1,1,1,1,1] [(0,.ref 0 0),(2,.d (.int .i64 depth)),(4,.ref 1 0)] [.row (F0.cells o02) 135,.row (D0.cells e) 34] (Ret [.row (F0.cells res) 135] (.tup []))
abbrev G10 (e:D0)(depth:Int)(o03:F0)(v82:Int)(res:F0):Prop:=LM C 92 1 Tryz.f84 [1,1,1,1,1,1,1,1,1,1,1,4] [(0,.ref 0 0),(2,.d (.int .i64 depth)),(80,.d (.sl (D0.rows e.Kids))),(81,.d (.int .i64 ((e.Kids).length:Int))),(82,.d (.int .i64 v82))] [.row (F0.cells o03) 135] (Ret [.row (F0.cells res) 135] (.tup []))
theorem C12:(∀ e depth syntaxReport res,I3 e depth syntaxReport=some res→Sr e depth syntaxReport res)∧(∀ e depth o0 res,Ua e depth o0=some res→D10 e depth o0 res)∧(∀ e depth o01 res,Ue e depth o01=some res→E10 e depth o01 res)∧(∀ e depth o02 res,Ve e depth o02=some res→F10 e depth o02 res)∧(∀ e depth o03 v82 res,R4 e depth o03 v82=some res→G10 e depth o03 v82 res):=by
 refine I3.mutual_partial_correctness _ _ _ _ _ ?_ ?_ ?_ ?_ ?_
 ·intro g1 ih1 e depth syntaxReport res hh
  obtain ⟨x1,hx1,hh⟩:=bs' hh
  obtain ⟨x2,hx2,hh⟩:=bs' hh
  obtain ⟨x3,hx3,hh⟩:=bs' hh
  obtain ⟨x4,hx4,hh⟩:=bs' hh
  obtain ⟨x5,hx5,hh⟩:=bs' hh
  refine K0.intro hC Tryz.func84 rfl rfl rfl (s' rfl rfl (E0.n hC rfl (n' (p' 7 rfl (E0.s hC rfl (n' (p' 2 rfl (g' [0] (Vj hx1) rfl rfl rfl rfl rfl rfl (n' (S' (AEx.draw hC 8 rfl rfl rfl (O' 3 rfl (Qc' (T1i hx2) rfl rfl ?_)))))))))))))
  refine O' 2 rfl (AQ.qe hC rfl trivial (D0.lenA _) (E' rfl (g' [0] (B1 hx3) rfl rfl rfl rfl rfl rfl (n' (sg' 9 rfl (G' 6 rfl (a1' rfl (a1' rfl (po' rfl (an' (g' [0] (B1 hx4) rfl rfl rfl rfl rfl rfl (n' (sg' 9 rfl ?_)))))))))))))
  refine G' 5 rfl (a1' rfl (a1' rfl (po' rfl (a0' rfl (an' (n' (sg' 7 rfl (G' 6 rfl (po' rfl (an' (g' [0] (B1 hx5) rfl rfl rfl rfl rfl rfl (n' (S' ?_)))))))))))))
  refine sg' 8 rfl (G' 5 rfl (a1' rfl (a1' rfl (po' rfl (an' (n' (ci' rfl hh (fun hh=>?_) (fun hh=>?_))))))))
  ·obtain ⟨x6,hx6,hh⟩:=bs' hh
   obtain ⟨x7,hx7,hh⟩:=bs' hh
   exact P' 2 rfl (c' (B11 hx6) rfl rfl (g' [0] (B1 hx7) rfl rfl rfl rfl rfl rfl (n' (ew' (ih1 _ _ _ _ hh) rfl rfl rfl))))
  exact sk' (ew' (ih1 _ _ _ _ hh) rfl rfl rfl)
 ·intro g2 ih2 e depth o0 res hh
  refine S' (t' rfl (ci' rfl hh (fun hh=>?_) (fun hh=>?_)))
  ·obtain ⟨x8,hx8,hh⟩:=bs' hh
   exact P' 3 rfl (g' [0] (Ta hx8) rfl rfl rfl rfl rfl rfl (n' (ew' (ih2 _ _ _ _ hh) rfl rfl rfl)))
  exact sk' (ew' (ih2 _ _ _ _ hh) rfl rfl rfl)
 ·intro g3 ih3 e depth o01 res hh
  refine S' (t' rfl (ci' rfl hh (fun hh=>?_) (fun hh=>?_)))
  ·obtain ⟨x9,hx9,hh⟩:=bs' hh
   obtain ⟨x10,hx10,hh⟩:=bs' hh
   exact P' 3 rfl (c' (C4 hx9) rfl rfl (g' [0] (A3 hx10) rfl rfl rfl rfl rfl rfl (n' (ew' (ih3 _ _ _ _ hh) rfl rfl rfl))))
  exact sk' (ew' (ih3 _ _ _ _ hh) rfl rfl rfl)
 ·intro g4 ih4 e depth o02 res hh
  exact p' 2 rfl (qe' rfl trivial (D0.lenA _) (e' rfl (bk' (fw' (ih4 _ _ _ _ _ hh) rfl rfl rfl))))
 ·intro g0 g4 ih0 ih4 e depth o03 v82 res hh
  refine W0.unroll (t' rfl (S' (ci' rfl hh (fun hh=>?_) (fun hh=>?_))))
  ·obtain ⟨x11,hx11,hh⟩:=bs' hh
   obtain ⟨x12,hx12,hh⟩:=bs' hh
   exact sk' (S' (bk' (s' rfl rfl (i' rfl (U0 hx11) (D0.idx hx11) rfl (q' rfl (E0.nf hC rfl (E0.s hC rfl (n' (P' 4 rfl (g' [0] (ih0 _ _ _ _ hx12) rfl rfl rfl rfl rfl rfl (n' (T' rfl (lw' (ih4 _ _ _ _ _ hh) rfl rfl rfl)))))))))))))
  cases hh
  exact ex' (rn' rfl rfl rfl)
theorem Yj {e depth syntaxReport res}(hh:I3 e depth syntaxReport=some res):Sr e depth syntaxReport res:=(C12).1 _ _ _ _ hh
def R3 (e:D0)(used:Bool)(syntaxReport:F0):Option F0:=
 (if (!used)=true then Q6 e (D0.mk 0 0 [] []) else some default)>>=fun x1=>
 if (bif (!used) then x1 else false)=true then
  some syntaxReport
 else
  Y0 used syntaxReport>>=fun x2=>
  I3 e 1 x2>>=fun x3=>
  some x3
theorem Wf {e used syntaxReport res}(hh:R3 e used syntaxReport=some res):K0 C 176 [.ref 0 0,.agg (D0.cells e),.d (.bool used)] [.row (F0.cells syntaxReport) 135] (Ret [.row (F0.cells res) 135] (.tup [])):=by
 unfold R3 at hh
 obtain ⟨x1,hx1,hh⟩:=bs' hh
 refine K0.intro hC Tryz.func176 rfl rfl rfl (s' rfl rfl (E0.n hC rfl (n' (S' (sg' 7 rfl (G' 5 rfl (AG.c rfl rfl (fun hg=>⟨hg,hg,trivial⟩) (fun hw=>W17 (G1 hw hx1)) (pa' rfl (an' (n' (ci' rfl hh (fun hh=>?_) (fun hh=>?_))))))))))))
 ·cases hh
  exact re' (rt' rfl rfl rfl)
 obtain ⟨x2,hx2,hh⟩:=bs' hh
 obtain ⟨x3,hx3,hh⟩:=bs' hh
 cases hh
 exact sk' (p' 2 rfl (g' [0] (B1 hx2) rfl rfl rfl rfl rfl rfl (n' (P' 2 rfl (g' [0] (Yj hx3) rfl rfl rfl rfl rfl rfl (n' (rn' rfl rfl rfl)))))))
def Ah (v:Int):Option (I2×Bool):=
 if (v == 0)=true then
  some ((I2.mk true true false false false false false false false),true)
 else
  if (v == 1)=true then
   some ((I2.mk true false true true false false false false false),true)
  else
   if (v == 2)=true then
    some ((I2.mk true false true false false false false false false),true)
   else
    if (v == 3)=true then
     some ((I2.mk false true false false false false false false false),true)
    else
     if (v == 4)=true then
      some ((I2.mk false false false false true false false false false),true)
     else
      if (v == 5)=true then
       some ((I2.mk false true false false false false false true true),true)
      else
       if (v == 6)=true then
        some ((I2.mk false true false false true false false true false),true)
       else
        if (v == 7)=true then
         some ((I2.mk false false true false false true false true false),true)
        else
         if (v == 8)=true then
          some ((I2.mk false false false false false false true false false),true)
         else
          some ((I2.mk false false false false false false false false false),false)
theorem Y17 {v res}(hh:Ah v=some res):K0 C 177 [.d (.int .i64 v)] [] (Ret [] (.tup [.agg (I2.cells res.1),.d (.bool res.2)])):=by
 unfold Ah at hh
 refine K0.intro hC Tryz.func177 rfl rfl rfl (s' rfl rfl (E0.n hC rfl (e' rfl (S' (t' rfl (bk' (t' rfl (ci' rfl hh (fun hh=>?_) (fun hh=>?_)))))))))
 ·cases hh
  exact p' 1 rfl (E0.s hC rfl (e' rfl (re' (rt' rfl rfl rfl))))
 refine t' rfl (ci' rfl hh (fun hh=>?_) (fun hh=>?_))
 ·cases hh
  exact p' 1 rfl (E0.s hC rfl (e' rfl (re' (rt' rfl rfl rfl))))
 refine t' rfl (ci' rfl hh (fun hh=>?_) (fun hh=>?_))
 ·cases hh
  exact p' 1 rfl (E0.s hC rfl (e' rfl (re' (rt' rfl rfl rfl))))
 refine t' rfl (ci' rfl hh (fun hh=>?_) (fun hh=>?_))
 ·cases hh
  exact p' 1 rfl (E0.s hC rfl (e' rfl (re' (rt' rfl rfl rfl))))
 refine t' rfl (ci' rfl hh (fun hh=>?_) (fun hh=>?_))
 ·cases hh
  exact p' 1 rfl (E0.s hC rfl (e' rfl (re' (rt' rfl rfl rfl))))
 refine t' rfl (ci' rfl hh (fun hh=>?_) (fun hh=>?_))
 ·cases hh
  exact p' 1 rfl (E0.s hC rfl (e' rfl (re' (rt' rfl rfl rfl))))
 refine t' rfl (ci' rfl hh (fun hh=>?_) (fun hh=>?_))
 ·cases hh
  exact p' 1 rfl (E0.s hC rfl (e' rfl (re' (rt' rfl rfl rfl))))
 refine t' rfl (ci' rfl hh (fun hh=>?_) (fun hh=>?_))
 ·cases hh
  exact p' 1 rfl (E0.s hC rfl (e' rfl (re' (rt' rfl rfl rfl))))
 refine t' rfl (ci' rfl hh (fun hh=>?_) (fun hh=>?_))
 ·cases hh
  exact p' 1 rfl (E0.s hC rfl (e' rfl (re' (rt' rfl rfl rfl))))
 cases hh
 exact sk' (p' 1 rfl (E0.s hC rfl (e' rfl (re' (rt' rfl rfl rfl)))))
def S3 (s:C0)(o0:F0)(last:Int)(v58:Int):Option F0:=
 if (decide (v58 < ((s.Numbers).length:Int)))=true then
  idx s.Numbers v58>>=fun x10=>
  Q3 x10 0 1048576>>=fun x11=>
  X1 (bif x11 then (decide (x10 > last)) else false) o0>>=fun x12=>
  S3 s x12 x10 (IntKind.i64.wrap (v58+1))
 else
  some o0
 partial_fixpoint
abbrev Pl (s:C0)(o0:F0)(last:Int)(v58:Int)(res:F0):Prop:=LM C 73 1 Tryz.f178 [1,1,4,1,3,1,3,1,3,1,2,1,1,1,4] [(0,.ref 0 0),(5,.d (.int .i64 last)),(56,.d (.sl (ei64.rows s.Numbers))),(57,.d (.int .i64 ((s.Numbers).length:Int))),(58,.d (.int .i64 v58))] [.row (F0.cells o0) 135] (Ret [.row (F0.cells res) 135] (.tup []))
theorem Yt (s:C0):(∀ o0 last v58 res,S3 s o0 last v58=some res→Pl s o0 last v58 res):=by
 refine S3.partial_correctness s _ ?_
 ·intro g0 ih0 o0 last v58 res hh
  refine W0.unroll (t' rfl (S' (ci' rfl hh (fun hh=>?_) (fun hh=>?_))))
  ·obtain ⟨x10,hx10,hh⟩:=bs' hh
   obtain ⟨x11,hx11,hh⟩:=bs' hh
   obtain ⟨x12,hx12,hh⟩:=bs' hh
   refine sk' (S' (bk' (s' rfl rfl (i' rfl (U0 hx10) (ei64.idx hx10) rfl (e' rfl (sg' 8 rfl (G' 2 rfl (AG.c rfl rfl (fun _=>trivial) (fun _=>C4 hx11) (G' 3 rfl (a2' rfl (pa' rfl (an' (g' [0] (A3 hx12) rfl rfl rfl rfl rfl rfl ?_)))))))))))))
   exact n' (T' rfl (T' rfl (lw' (ih0 _ _ _ _ hh) rfl rfl rfl)))
  cases hh
  exact ex' (rn' rfl rfl rfl)
theorem Iv {s o0 last v58 res}(hh:S3 s o0 last v58=some res):Pl s o0 last v58 res:=(Yt s) _ _ _ _ hh
def C8 (s:C0)(syntaxReport:F0):Option F0:=
 if (s.Verb == 4)=true then
  Q3 s.NV 0 1048576>>=fun x1=>
  X1 x1 syntaxReport>>=fun x2=>
  some x2
 else
  if (s.Verb == 6)=true then
   Q3 s.NV 0 4096>>=fun x3=>
   X1 x3 syntaxReport>>=fun x4=>
   some x4
  else
   if (s.Verb == 7)=true then
    Q3 s.Low (-1048576) 1048576>>=fun x5=>
    (if x5=true then Q3 s.High s.Low 1048576 else some default)>>=fun x6=>
    X1 (bif (bif x5 then x6 else false) then (decide ((IntKind.i64.wrap (s.High - s.Low)) < 4096)) else false) syntaxReport>>=fun x7=>
    some x7
   else
    if (s.Verb == 8)=true then
     Q3 ((s.Numbers).length:Int) 1 32>>=fun x8=>
     X1 x8 syntaxReport>>=fun x9=>
     S3 s x9 (-1) 0
    else
     some syntaxReport
theorem My {s syntaxReport res}(hh:C8 s syntaxReport=some res):K0 C 178 [.ref 0 0,.agg (C0.cells s)] [.row (F0.cells syntaxReport) 135] (Ret [.row (F0.cells res) 135] (.tup [])):=by
 unfold C8 at hh
 refine K0.intro hC Tryz.func178 rfl rfl rfl (s' rfl rfl (E0.n hC rfl (n' (t' rfl (bk' (t' rfl (ci' rfl hh (fun hh=>?_) (fun hh=>?_))))))))
 ·obtain ⟨x1,hx1,hh⟩:=bs' hh
  obtain ⟨x2,hx2,hh⟩:=bs' hh
  cases hh
  exact P' 3 rfl (c' (C4 hx1) rfl rfl (g' [0] (A3 hx2) rfl rfl rfl rfl rfl rfl (n' (rn' rfl rfl rfl))))
 refine t' rfl (ci' rfl hh (fun hh=>?_) (fun hh=>?_))
 ·obtain ⟨x3,hx3,hh⟩:=bs' hh
  obtain ⟨x4,hx4,hh⟩:=bs' hh
  cases hh
  exact P' 3 rfl (c' (C4 hx3) rfl rfl (g' [0] (A3 hx4) rfl rfl rfl rfl rfl rfl (n' (rn' rfl rfl rfl))))
 refine t' rfl (ci' rfl hh (fun hh=>?_) (fun hh=>?_))
 ·obtain ⟨x5,hx5,hh⟩:=bs' hh
  obtain ⟨x6,hx6,hh⟩:=bs' hh
  obtain ⟨x7,hx7,hh⟩:=bs' hh
  cases hh
  refine sg' 11 rfl (G' 2 rfl (AG.c rfl rfl (fun _=>trivial) (fun _=>C4 hx5) (G' 2 rfl (a1' rfl (a0' rfl (a1' rfl (AG.c rfl rfl (fun hg=>⟨hg,hg,trivial⟩) (fun hw=>C4 (G1 hw hx6)) (pa' rfl (a0' rfl (an' (n' (AEx.regionG 10 rfl (G' 4 rfl ?_)))))))))))))
  exact a1' rfl (a0' rfl (a1' rfl (a2' rfl (a1' rfl (pa' rfl (an' (g' [0] (A3 hx7) rfl rfl rfl rfl rfl rfl (n' (rn' rfl rfl rfl)))))))))
 refine t' rfl (ci' rfl hh (fun hh=>?_) (fun hh=>?_))
 ·obtain ⟨x8,hx8,hh⟩:=bs' hh
  obtain ⟨x9,hx9,hh⟩:=bs' hh
  exact p' 3 rfl (qe' rfl trivial (ei64.lenA _) (c' (C4 hx8) rfl rfl (g' [0] (A3 hx9) rfl rfl rfl rfl rfl rfl (n' (t' rfl (p' 2 rfl (qe' rfl trivial (ei64.lenA _) (e' rfl (bk' (fw' (Iv hh) rfl rfl rfl))))))))))
 cases hh
 exact sk' (rn' rfl rfl rfl)
end Go.Proofs.YtdkabnfphmmmnaaGreatDoor

set_option maxRecDepth 100000
set_option maxHeartbeats 4000000
set_option synthInstance.maxSize 20000
set_option linter.unusedVariables false
namespace Go.Proofs.YtdkabnfphmmmnaaGreatDoor
open Go.Am
mutual
def K3 (l:List C0)(nesting:Int)(syntaxReport:F0):Option F0:=
 K5 l nesting syntaxReport 0
 partial_fixpoint
def K5 (l:List C0)(nesting:Int)(o03:F0)(v14:Int):Option F0:=
 if (decide (v14 < ((l).length:Int)))=true then
  idx l v14>>=fun x1=>
  J8 nesting (F0.mk (IntKind.i64.wrap (o03.nodes+1)) o03.depth o03.badForm o03.badName o03.badNumber)>>=fun x2=>
  Ah x1.Verb>>=fun x3=>
  Y0 x3.2 x2>>=fun x4=>
  R3 x1.Place x3.1.place x4>>=fun x5=>
  if x3.1.place=true then
   Xj x1.Place>>=fun x6=>
   Y0 x6 x5>>=fun x7=>
   B7 l nesting x7 x1 x3 v14
  else
   B7 l nesting x5 x1 x3 v14
 else
  some o03
 partial_fixpoint
def B7 (l:List C0)(nesting:Int)(o0:F0)(x1:C0)(x3:I2×Bool)(v141:Int):Option F0:=
 R3 x1.Value x3.1.value o0>>=fun x8=>
 Y0 (bif x3.1.name then true else (x1.Name == [])) x8>>=fun x9=>
 if x3.1.name=true then
  H4 x1.Name x9>>=fun x10=>
  C7 l nesting x10 x1 x3 v141
 else
  C7 l nesting x9 x1 x3 v141
 partial_fixpoint
def C7 (l:List C0)(nesting:Int)(o01:F0)(x1:C0)(x3:I2×Bool)(v142:Int):Option F0:=
 Y0 (bif x3.1.args then true else (((x1.Args).length:Int) == 0)) o01>>=fun x11=>
 Da l nesting x11 x1 x3 v142 0
 partial_fixpoint
def Da (l:List C0)(nesting:Int)(o02:F0)(x1:C0)(x3:I2×Bool)(v143:Int)(v84:Int):Option F0:=
 if (decide (v84 < ((x1.Args).length:Int)))=true then
  idx x1.Args v84>>=fun x12=>
  I3 x12 1 o02>>=fun x13=>
  Da l nesting x13 x1 x3 v143 (IntKind.i64.wrap (v84+1))
 else
  Y0 (bif x3.1.n then true else (x1.NV == 0)) o02>>=fun x14=>
  Y0 (bif x3.1.bounds then true else (bif (x1.Low == 0) then (x1.High == 0) else false)) x14>>=fun x15=>
  Y0 (bif x3.1.numbers then true else (((x1.Numbers).length:Int) == 0)) x15>>=fun x16=>
  Y0 (bif x3.1.thenV then true else (((x1.Then).length:Int) == 0)) x16>>=fun x17=>
  Y0 (bif x3.1.other then true else (((x1.Else).length:Int) == 0)) x17>>=fun x18=>
  C8 x1 x18>>=fun x19=>
  K3 x1.Then (IntKind.i64.wrap (nesting+1)) x19>>=fun x20=>
  K3 x1.Else (IntKind.i64.wrap (nesting+1)) x20>>=fun x21=>
  K5 l nesting x21 (IntKind.i64.wrap (v143+1))
 partial_fixpoint
end
abbrev Tq (l:List C0)(nesting:Int)(syntaxReport:F0)(res:F0):Prop:=K0 C 109 [.ref 0 0,.d (.sl (C0.rows l)),.d (.int .i64 nesting)] [.row (F0.cells syntaxReport) 135] (Ret [.row (F0.cells res) 135] (.tup []))
abbrev Ny (l:List C0)(nesting:Int)(o03:F0)(v14:Int)(res:F0):Prop:=LM C 161 1 Tryz.f109 [1,4] [(0,.ref 0 0),(2,.d (.int .i64 nesting)),(12,.d (.sl (C0.rows l))),(13,.d (.int .i64 ((l).length:Int))),(14,.d (.int .i64 v14))] [.row (F0.cells o03) 135] (Ret [.row (F0.cells res) 135] (.tup []))
abbrev Oy (l:List C0)(nesting:Int)(o0:F0)(x1:C0)(x3:I2×Bool)(v141:Int)(res:F0):Prop:=JM C 161 1 Tryz.f109 [1,4,5,1,1,0,4,1,1,1,1,1,1,1] [(0,.ref 0 0),(2,.d (.int .i64 nesting)),(7,.ref 1 0),(8,.ref 2 0),(12,.d (.sl (C0.rows l))),(13,.d (.int .i64 ((l).length:Int))),(14,.d (.int .i64 v141))] [.row (F0.cells o0) 135,.row (C0.cells x1) 53,.row (I2.cells x3.1) 206] (Ret [.row (F0.cells res) 135] (.tup []))
abbrev Py (l:List C0)(nesting:Int)(o01:F0)(x1:C0)(x3:I2×Bool)(v142:Int)(res:F0):Prop:=JM C 161 1 Tryz.f109 [1,4,5,1,1,0,4,1,1,1,1,1,1,1,1,1,1] [(0,.ref 0 0),(2,.d (.int .i64 nesting)),(7,.ref 1 0),(8,.ref 2 0),(12,.d (.sl (C0.rows l))),(13,.d (.int .i64 ((l).length:Int))),(14,.d (.int .i64 v142))] [.row (F0.cells o01) 135,.row (C0.cells x1) 53,.row (I2.cells x3.1) 206] (Ret [.row (F0.cells res) 135] (.tup []))
abbrev Qy (l:List C0)(nesting:Int)(o02:F0)(x1:C0)(x3:I2×Bool)(v143:Int)(v84:Int)(res:F0):Prop:=LM C 161 1 Tryz.f109 [1,4,5,1,1,0,4,1,1,1,1,1,1,1,1,1,1,1,0,1,4] [(0,.ref 0 0),(2,.d (.int .i64 nesting)),(7,.ref 1 0),(8,.ref 2 0),(12,.d (.sl (C0.rows l))),(13,.d (.int .i64 ((l).length:Int))),(14,.d (.int .i64 v143)),(82,.d (.sl (D0.rows x1.Args))),(83,.d (.int .i64 ((x1.Args).length:Int))),(84,.d (.int .i64 v84))] [.row (F0.cells o02) 135,.row (C0.cells x1) 53,.row (I2.cells x3.1) 206] (Ret [.row (F0.cells res) 135] (.tup []))
theorem H10:(∀ l nesting syntaxReport res,K3 l nesting syntaxReport=some res→Tq l nesting syntaxReport res)∧(∀ l nesting o03 v14 res,K5 l nesting o03 v14=some res→Ny l nesting o03 v14 res)∧(∀ l nesting o0 x1 x3 v141 res,B7 l nesting o0 x1 x3 v141=some res→Oy l nesting o0 x1 x3 v141 res)∧(∀ l nesting o01 x1 x3 v142 res,C7 l nesting o01 x1 x3 v142=some res→Py l nesting o01 x1 x3 v142 res)∧(∀ l nesting o02 x1 x3 v143 v84 res,Da l nesting o02 x1 x3 v143 v84=some res→Qy l nesting o02 x1 x3 v143 v84 res):=by
 refine K3.mutual_partial_correctness _ _ _ _ _ ?_ ?_ ?_ ?_ ?_
 ·intro g1 ih1 l nesting syntaxReport res hh
  exact K0.intro hC Tryz.func109 rfl rfl rfl (p' 1 rfl (qe' rfl trivial (C0.lenA _) (e' rfl (bk' (fw' (ih1 _ _ _ _ _ hh) rfl rfl rfl)))))
 ·intro g2 ih2 l nesting o03 v14 res hh
  refine W0.unroll (t' rfl (S' (ci' rfl hh (fun hh=>?_) (fun hh=>?_))))
  ·obtain ⟨x1,hx1,hh⟩:=bs' hh
   obtain ⟨x2,hx2,hh⟩:=bs' hh
   obtain ⟨x3,hx3,hh⟩:=bs' hh
   obtain ⟨x4,hx4,hh⟩:=bs' hh
   obtain ⟨x5,hx5,hh⟩:=bs' hh
   refine sk' (S' (bk' (s' rfl rfl (i' rfl (U0 hx1) (C0.idx hx1) rfl (q' rfl (E0.nf hC rfl (E0.s hC rfl (n' (p' 7 rfl (E0.s hC rfl (n' (p' 2 rfl (g' [0] (Vj hx2) rfl rfl rfl rfl rfl rfl ?_)))))))))))))
   refine n' (p' 2 rfl (c' (Y17 hx3) rfl rfl (o' 3 rfl (E0.n hC rfl (E0.s hC rfl (e' rfl (p' 2 rfl (g' [0] (B1 hx4) rfl rfl rfl rfl rfl rfl (n' (p' 5 rfl (g' [0] (Wf hx5) rfl rfl rfl rfl rfl rfl (n' (S' ?_)))))))))))))
   refine t' rfl (ci' rfl hh (fun hh=>?_) (fun hh=>?_))
   ·obtain ⟨x6,hx6,hh⟩:=bs' hh
    obtain ⟨x7,hx7,hh⟩:=bs' hh
    exact P' 3 rfl (c' (B11 hx6) rfl rfl (g' [0] (B1 hx7) rfl rfl rfl rfl rfl rfl (n' (ew' (ih2 _ _ _ _ _ _ _ hh) rfl rfl rfl))))
   exact sk' (ew' (ih2 _ _ _ _ _ _ _ hh) rfl rfl rfl)
  cases hh
  exact ex' (rn' rfl rfl rfl)
 ·intro g3 ih3 l nesting o0 x1 x3 v141 res hh
  obtain ⟨x8,hx8,hh⟩:=bs' hh
  obtain ⟨x9,hx9,hh⟩:=bs' hh
  refine p' 5 rfl (g' [0] (Wf hx8) rfl rfl rfl rfl rfl rfl (n' (sg' 8 rfl (G' 5 rfl (a1' rfl (a1' rfl (po' rfl (an' (g' [0] (B1 hx9) rfl rfl rfl rfl rfl rfl (n' (S' (t' rfl (ci' rfl hh (fun hh=>?_) (fun hh=>?_))))))))))))))
  ·obtain ⟨x10,hx10,hh⟩:=bs' hh
   exact P' 3 rfl (g' [0] (Ta hx10) rfl rfl rfl rfl rfl rfl (n' (ew' (ih3 _ _ _ _ _ _ _ hh) rfl rfl rfl)))
  exact sk' (ew' (ih3 _ _ _ _ _ _ _ hh) rfl rfl rfl)
 ·intro g4 ih4 l nesting o01 x1 x3 v142 res hh
  obtain ⟨x11,hx11,hh⟩:=bs' hh
  exact sg' 9 rfl (G' 5 rfl (a1' rfl (AG.qe hC rfl (fun hg=>⟨⟨hg,trivial⟩,trivial⟩) (D0.lenA _) (a1' rfl (po' rfl (an' (g' [0] (B1 hx11) rfl rfl rfl rfl rfl rfl (n' (S' (p' 2 rfl (qe' rfl trivial (D0.lenA _) (e' rfl (bk' (fw' (ih4 _ _ _ _ _ _ _ _ hh) rfl rfl rfl))))))))))))))
 ·intro g0 g1 g4 ih0 ih1 ih4 l nesting o02 x1 x3 v143 v84 res hh
  refine W0.unroll (t' rfl (S' (ci' rfl hh (fun hh=>?_) (fun hh=>?_))))
  ·obtain ⟨x12,hx12,hh⟩:=bs' hh
   obtain ⟨x13,hx13,hh⟩:=bs' hh
   exact sk' (S' (bk' (s' rfl rfl (i' rfl (U0 hx12) (D0.idx hx12) rfl (q' rfl (E0.nf hC rfl (E0.s hC rfl (n' (P' 2 rfl (g' [0] (Yj hx13) rfl rfl rfl rfl rfl rfl (n' (T' rfl (lw' (ih4 _ _ _ _ _ _ _ _ hh) rfl rfl rfl)))))))))))))
  obtain ⟨x14,hx14,hh⟩:=bs' hh
  obtain ⟨x15,hx15,hh⟩:=bs' hh
  obtain ⟨x16,hx16,hh⟩:=bs' hh
  obtain ⟨x17,hx17,hh⟩:=bs' hh
  obtain ⟨x18,hx18,hh⟩:=bs' hh
  obtain ⟨x19,hx19,hh⟩:=bs' hh
  obtain ⟨x20,hx20,hh⟩:=bs' hh
  obtain ⟨x21,hx21,hh⟩:=bs' hh
  refine ex' (sg' 8 rfl (G' 5 rfl (a1' rfl (a1' rfl (po' rfl (an' (g' [0] (B1 hx14) rfl rfl rfl rfl rfl rfl (n' (sg' 13 rfl (G' 5 rfl (a1' rfl (a1' rfl (a1' rfl ?_)))))))))))))
  refine a0' rfl (a1' rfl (a1' rfl (pA' rfl (po' rfl (an' (g' [0] (B1 hx15) rfl rfl rfl rfl rfl rfl (n' (sg' 9 rfl (G' 5 rfl (a1' rfl (AG.qe hC rfl (fun hg=>⟨⟨hg,trivial⟩,trivial⟩) (ei64.lenA _) (a1' rfl (po' rfl ?_)))))))))))))
  refine an' (g' [0] (B1 hx16) rfl rfl rfl rfl rfl rfl (n' (sg' 9 rfl (G' 5 rfl (a1' rfl (AG.qe hC rfl (fun hg=>⟨⟨hg,trivial⟩,trivial⟩) (C0.lenA _) (a1' rfl (po' rfl (an' (g' [0] (B1 hx17) rfl rfl rfl rfl rfl rfl (n' (sg' 9 rfl (G' 5 rfl ?_)))))))))))))
  refine a1' rfl (AG.qe hC rfl (fun hg=>⟨⟨hg,trivial⟩,trivial⟩) (C0.lenA _) (a1' rfl (po' rfl (an' (g' [0] (B1 hx18) rfl rfl rfl rfl rfl rfl (n' (p' 2 rfl (g' [0] (My hx19) rfl rfl rfl rfl rfl rfl (n' (p' 5 rfl (g' [0] (ih0 _ _ _ _ hx20) rfl rfl rfl rfl rfl rfl (n' (P' 5 rfl ?_)))))))))))))
  exact g' [0] (ih0 _ _ _ _ hx21) rfl rfl rfl rfl rfl rfl (n' (T' rfl (lw' (ih1 _ _ _ _ _ hh) rfl rfl rfl)))
theorem Ip {l nesting syntaxReport res}(hh:K3 l nesting syntaxReport=some res):Tq l nesting syntaxReport res:=(H10).1 _ _ _ _ hh
mutual
def Q5 (l:List B0)(syntaxReport:F0):Option F0:=
 D7 l syntaxReport 0
 partial_fixpoint
def D7 (l:List B0)(o03:F0)(v15:Int):Option F0:=
 if (decide (v15 < ((l).length:Int)))=true then
  idx l v15>>=fun x1=>
  Rm x1.Kind>>=fun x2=>
  Y0 x2.1 (F0.mk (IntKind.i64.wrap (o03.nodes+1)) o03.depth o03.badForm o03.badName o03.badNumber)>>=fun x3=>
  (if (!x2.1)=true then I8 x1.TypeV (A0.mk 0 0 0 0 [] [] []) else some default)>>=fun x4=>
  if (bif x2.1 then true else (!x4))=true then
   S4 x1.TypeV 1 x3>>=fun x5=>
   Ea l x5 x1 x2 v15
  else
   Ea l x3 x1 x2 v15
 else
  some o03
 partial_fixpoint
def Ea (l:List B0)(o0:F0)(x1:B0)(x2:Bool×Bool)(v151:Int):Option F0:=
 H4 x1.Name o0>>=fun x6=>
 R3 x1.Value x2.2 x6>>=fun x7=>
 Y0 (bif (x1.Kind == 4) then true else (x1.Init == 0)) x7>>=fun x8=>
 Q3 x1.Init (-1048576) 1048576>>=fun x9=>
 (if (x9&&(!(x1.TypeV.Kind != 0)))=true then Q3 x1.Init 0 1 else some default)>>=fun x10=>
 X1 (bif x9 then (bif (x1.TypeV.Kind != 0) then true else x10) else false) x8>>=fun x11=>
 Y0 (bif (x1.Kind == 6) then true else (bif (bif (((x1.Params).length:Int) == 0) then (((x1.Vars).length:Int) == 0) else false) then (((x1.Body).length:Int) == 0) else false)) x11>>=fun x12=>
 E7 l x12 x1 v151 0
 partial_fixpoint
def E7 (l:List B0)(o01:F0)(x1:B0)(v152:Int)(v109:Int):Option F0:=
 if (decide (v109 < ((x1.Params).length:Int)))=true then
  idx x1.Params v109>>=fun x13=>
  Y0 (bif (x13.Kind == 4) then (x13.Init == 0) else false) o01>>=fun x14=>
  E7 l x14 x1 v152 (IntKind.i64.wrap (v109+1))
 else
  Fa l o01 x1 v152 0
 partial_fixpoint
def Fa (l:List B0)(o02:F0)(x1:B0)(v153:Int)(v127:Int):Option F0:=
 if (decide (v127 < ((x1.Vars).length:Int)))=true then
  idx x1.Vars v127>>=fun x15=>
  Y0 (x15.Kind == 4) o02>>=fun x16=>
  Fa l x16 x1 v153 (IntKind.i64.wrap (v127+1))
 else
  Q5 x1.Params o02>>=fun x17=>
  Q5 x1.Vars x17>>=fun x18=>
  K3 x1.Body 1 x18>>=fun x19=>
  D7 l x19 (IntKind.i64.wrap (v153+1))
 partial_fixpoint
end
abbrev Uq (l:List B0)(syntaxReport:F0)(res:F0):Prop:=K0 C 108 [.ref 0 0,.d (.sl (B0.rows l))] [.row (F0.cells syntaxReport) 135] (Ret [.row (F0.cells res) 135] (.tup []))
abbrev Ry (l:List B0)(o03:F0)(v15:Int)(res:F0):Prop:=LM C 150 1 Tryz.f108 [1,4] [(0,.ref 0 0),(13,.d (.sl (B0.rows l))),(14,.d (.int .i64 ((l).length:Int))),(15,.d (.int .i64 v15))] [.row (F0.cells o03) 135] (Ret [.row (F0.cells res) 135] (.tup []))
abbrev Sy (l:List B0)(o0:F0)(x1:B0)(x2:Bool×Bool)(v151:Int)(res:F0):Prop:=JM C 150 1 Tryz.f108 [1,4,5,1,1,0,4,1,1,1,1,1] [(0,.ref 0 0),(5,.ref 1 0),(7,.d (.bool x2.2)),(13,.d (.sl (B0.rows l))),(14,.d (.int .i64 ((l).length:Int))),(15,.d (.int .i64 v151))] [.row (F0.cells o0) 135,.row (B0.cells x1) 59] (Ret [.row (F0.cells res) 135] (.tup []))
abbrev Ty (l:List B0)(o01:F0)(x1:B0)(v152:Int)(v109:Int)(res:F0):Prop:=LM C 150 1 Tryz.f108 [1,4,5,1,1,0,4,1,1,1,1,1,1,1,1,1,1,1,0,1,4] [(0,.ref 0 0),(5,.ref 1 0),(13,.d (.sl (B0.rows l))),(14,.d (.int .i64 ((l).length:Int))),(15,.d (.int .i64 v152)),(107,.d (.sl (B0.rows x1.Params))),(108,.d (.int .i64 ((x1.Params).length:Int))),(109,.d (.int .i64 v109))] [.row (F0.cells o01) 135,.row (B0.cells x1) 59] (Ret [.row (F0.cells res) 135] (.tup []))
abbrev Uy (l:List B0)(o02:F0)(x1:B0)(v153:Int)(v127:Int)(res:F0):Prop:=LM C 150 1 Tryz.f108 [1,4,5,1,1,0,4,1,1,1,1,1,1,1,1,1,1,1,1,0,1,4] [(0,.ref 0 0),(5,.ref 1 0),(13,.d (.sl (B0.rows l))),(14,.d (.int .i64 ((l).length:Int))),(15,.d (.int .i64 v153)),(125,.d (.sl (B0.rows x1.Vars))),(126,.d (.int .i64 ((x1.Vars).length:Int))),(127,.d (.int .i64 v127))] [.row (F0.cells o02) 135,.row (B0.cells x1) 59] (Ret [.row (F0.cells res) 135] (.tup []))
theorem I10:(∀ l syntaxReport res,Q5 l syntaxReport=some res→Uq l syntaxReport res)∧(∀ l o03 v15 res,D7 l o03 v15=some res→Ry l o03 v15 res)∧(∀ l o0 x1 x2 v151 res,Ea l o0 x1 x2 v151=some res→Sy l o0 x1 x2 v151 res)∧(∀ l o01 x1 v152 v109 res,E7 l o01 x1 v152 v109=some res→Ty l o01 x1 v152 v109 res)∧(∀ l o02 x1 v153 v127 res,Fa l o02 x1 v153 v127=some res→Uy l o02 x1 v153 v127 res):=by
 refine Q5.mutual_partial_correctness _ _ _ _ _ ?_ ?_ ?_ ?_ ?_
 ·intro g1 ih1 l syntaxReport res hh
  exact K0.intro hC Tryz.func108 rfl rfl rfl (p' 1 rfl (qe' rfl trivial (B0.lenA _) (e' rfl (bk' (fw' (ih1 _ _ _ _ hh) rfl rfl rfl)))))
 ·intro g2 ih2 l o03 v15 res hh
  refine W0.unroll (t' rfl (S' (ci' rfl hh (fun hh=>?_) (fun hh=>?_))))
  ·obtain ⟨x1,hx1,hh⟩:=bs' hh
   obtain ⟨x2,hx2,hh⟩:=bs' hh
   obtain ⟨x3,hx3,hh⟩:=bs' hh
   obtain ⟨x4,hx4,hh⟩:=bs' hh
   refine sk' (S' (bk' (s' rfl rfl (i' rfl (U0 hx1) (B0.idx hx1) rfl (q' rfl (E0.nf hC rfl (E0.s hC rfl (n' (p' 7 rfl (E0.s hC rfl (n' (p' 2 rfl (c' (E1a hx2) rfl rfl ?_)))))))))))))
   refine e' rfl (p' 2 rfl (g' [0] (B1 hx3) rfl rfl rfl rfl rfl rfl (n' (S' (sg' 8 rfl (G' 3 rfl (a1' rfl (a0' rfl (AG.c rfl rfl (fun hg=>⟨hg,hg,trivial⟩) (fun hw=>U17 (G1 hw hx4)) (a1' rfl (po' rfl (an' (n' (ci' rfl hh (fun hh=>?_) (fun hh=>?_)))))))))))))))
   ·obtain ⟨x5,hx5,hh⟩:=bs' hh
    exact P' 3 rfl (g' [0] (Rr hx5) rfl rfl rfl rfl rfl rfl (n' (ew' (ih2 _ _ _ _ _ _ hh) rfl rfl rfl)))
   exact sk' (ew' (ih2 _ _ _ _ _ _ hh) rfl rfl rfl)
  cases hh
  exact ex' (rn' rfl rfl rfl)
 ·intro g3 ih3 l o0 x1 x2 v151 res hh
  obtain ⟨x6,hx6,hh⟩:=bs' hh
  obtain ⟨x7,hx7,hh⟩:=bs' hh
  obtain ⟨x8,hx8,hh⟩:=bs' hh
  obtain ⟨x9,hx9,hh⟩:=bs' hh
  obtain ⟨x10,hx10,hh⟩:=bs' hh
  obtain ⟨x11,hx11,hh⟩:=bs' hh
  obtain ⟨x12,hx12,hh⟩:=bs' hh
  refine p' 3 rfl (g' [0] (Ta hx6) rfl rfl rfl rfl rfl rfl (n' (p' 4 rfl (g' [0] (Wf hx7) rfl rfl rfl rfl rfl rfl (n' (sg' 9 rfl (G' 6 rfl (a1' rfl (a1' rfl (po' rfl (an' (g' [0] (B1 hx8) rfl rfl rfl rfl rfl rfl (n' ?_)))))))))))))
  refine sg' 15 rfl (G' 3 rfl (AG.c rfl rfl (fun _=>trivial) (fun _=>C4 hx9) (G' 2 rfl (a1' rfl (a1' rfl (a1' rfl (a1' rfl (a0' rfl (a1' rfl (AG.c rfl rfl (fun hg=>⟨hg,trivial⟩) (fun hw=>C4 (G1 hw hx10)) (pO' rfl (pa' rfl (an' ?_)))))))))))))
  refine g' [0] (A3 hx11) rfl rfl rfl rfl rfl rfl (n' (t' rfl (sg' 20 rfl (G' 4 rfl (a1' rfl (AG.qe hC rfl (fun hg=>⟨⟨hg,trivial⟩,trivial⟩) (B0.lenA _) (a1' rfl (a1' rfl (a0' rfl (a1' rfl (AG.qe hC rfl (fun hg=>⟨⟨hg,trivial⟩,trivial⟩) (B0.lenA _) (a1' rfl (pA' rfl ?_)))))))))))))
  refine a1' rfl (a0' rfl (a1' rfl (AG.qe hC rfl (fun hg=>⟨⟨hg,trivial⟩,trivial⟩) (C0.lenA _) (a1' rfl (pA' rfl (po' rfl (an' (g' [0] (B1 hx12) rfl rfl rfl rfl rfl rfl (n' (S' (p' 2 rfl (qe' rfl trivial (B0.lenA _) (e' rfl ?_)))))))))))))
  exact bk' (fw' (ih3 _ _ _ _ _ _ hh) rfl rfl rfl)
 ·intro g3 g4 ih3 ih4 l o01 x1 v152 v109 res hh
  refine W0.unroll (t' rfl (S' (ci' rfl hh (fun hh=>?_) (fun hh=>?_))))
  ·obtain ⟨x13,hx13,hh⟩:=bs' hh
   obtain ⟨x14,hx14,hh⟩:=bs' hh
   refine sk' (S' (bk' (s' rfl rfl (i' rfl (U0 hx13) (B0.idx hx13) rfl (q' rfl (E0.nf hC rfl (E0.s hC rfl (n' (AEx.regionG 9 rfl (G' 6 rfl (a1' rfl (a1' rfl (pa' rfl ?_)))))))))))))
   exact an' (g' [0] (B1 hx14) rfl rfl rfl rfl rfl rfl (n' (T' rfl (lw' (ih3 _ _ _ _ _ _ hh) rfl rfl rfl))))
  exact ex' (S' (p' 2 rfl (qe' rfl trivial (B0.lenA _) (e' rfl (bk' (fw' (ih4 _ _ _ _ _ _ hh) rfl rfl rfl))))))
 ·intro g0 g1 g4 ih0 ih1 ih4 l o02 x1 v153 v127 res hh
  refine W0.unroll (t' rfl (S' (ci' rfl hh (fun hh=>?_) (fun hh=>?_))))
  ·obtain ⟨x15,hx15,hh⟩:=bs' hh
   obtain ⟨x16,hx16,hh⟩:=bs' hh
   exact sk' (S' (bk' (s' rfl rfl (i' rfl (U0 hx15) (B0.idx hx15) rfl (q' rfl (E0.nf hC rfl (E0.s hC rfl (n' (P' 4 rfl (g' [0] (B1 hx16) rfl rfl rfl rfl rfl rfl (n' (T' rfl (lw' (ih4 _ _ _ _ _ _ hh) rfl rfl rfl)))))))))))))
  obtain ⟨x17,hx17,hh⟩:=bs' hh
  obtain ⟨x18,hx18,hh⟩:=bs' hh
  obtain ⟨x19,hx19,hh⟩:=bs' hh
  exact ex' (p' 3 rfl (g' [0] (ih0 _ _ _ hx17) rfl rfl rfl rfl rfl rfl (n' (p' 3 rfl (g' [0] (ih0 _ _ _ hx18) rfl rfl rfl rfl rfl rfl (n' (P' 3 rfl (g' [0] (Ip hx19) rfl rfl rfl rfl rfl rfl (n' (T' rfl (lw' (ih1 _ _ _ _ hh) rfl rfl rfl)))))))))))
theorem D12 {l syntaxReport res}(hh:Q5 l syntaxReport=some res):Uq l syntaxReport res:=(I10).1 _ _ _ hh
def Zj (p:I0):Option F0:=
 Q5 p.Decls (F0.mk 0 0 false false false)>>=fun x1=>
 K3 p.Body 1 x1>>=fun x2=>
 some x2
theorem N1d {p res}(hh:Zj p=some res):K0 C 53 [.agg (I0.cells p)] [] (Ret [.dead,.row (F0.cells res) 135] (.ref 1 0)):=by
 unfold Zj at hh
 obtain ⟨x1,hx1,hh⟩:=bs' hh
 obtain ⟨x2,hx2,hh⟩:=bs' hh
 refine K0.intro hC Tryz.func53 rfl rfl rfl (s' rfl rfl (E0.n hC rfl (e' rfl (p' 1 rfl (E0.n hC rfl (e' rfl (p' 3 rfl (g' [1] (D12 hx1) rfl rfl rfl rfl rfl rfl (n' (p' 3 rfl (g' [1] (Ip hx2) rfl rfl rfl rfl rfl rfl (n' (t' rfl ?_)))))))))))))
 refine re' ?_
 obtain rfl:=oi' hh
 exact ⟨_,_,[.dead,.row (F0.cells x2) 135],rfl,.rfl,⟨trivial,⟨rfl,.refl _,rfl⟩,trivial⟩,rfl,rfl,rfl,rfl⟩
def F6 (syntaxReport:F0):Option Int:=
 if (bif (decide (syntaxReport.nodes > 1024)) then true else (decide (syntaxReport.depth > 12)))=true then
  some 4
 else
  if syntaxReport.badForm=true then
   some 1
  else
   if syntaxReport.badName=true then
    some 7
   else
    if syntaxReport.badNumber=true then
     some 3
    else
     some 0
theorem Ak {syntaxReport res}(hh:F6 syntaxReport=some res):K0 C 54 [.ref 0 0] [.row (F0.cells syntaxReport) 135] (Ret [.row (F0.cells syntaxReport) 135] (.d (.int .i64 res))):=by
 unfold F6 at hh
 refine K0.intro hC Tryz.func54 rfl rfl rfl (t' rfl (S' (bk' (sg' 13 rfl (G' 7 rfl (a1' rfl (a1' rfl (a1' rfl (a1' rfl (po' rfl (a0' rfl (an' (n' (ci' rfl hh (fun hh=>?_) (fun hh=>?_)))))))))))))))
 ·cases hh
  exact t' rfl (re' (rt' rfl rfl rfl))
 refine t' rfl (ci' rfl hh (fun hh=>?_) (fun hh=>?_))
 ·cases hh
  exact t' rfl (re' (rt' rfl rfl rfl))
 refine t' rfl (ci' rfl hh (fun hh=>?_) (fun hh=>?_))
 ·cases hh
  exact t' rfl (re' (rt' rfl rfl rfl))
 refine t' rfl (ci' rfl hh (fun hh=>?_) (fun hh=>?_))
 ·cases hh
  exact t' rfl (re' (rt' rfl rfl rfl))
 cases hh
 exact sk' (t' rfl (re' (rt' rfl rfl rfl)))
def Jn (p:I0):Option Int:=
 Zj p>>=fun x1=>
 F6 x1>>=fun x2=>
 some x2
theorem U1i {p res}(hh:Jn p=some res):K0 C 28 [.agg (I0.cells p)] [] (Ret [] (.d (.int .i64 res))):=by
 unfold Jn at hh
 obtain ⟨x1,hx1,hh⟩:=bs' hh
 obtain ⟨x2,hx2,hh⟩:=bs' hh
 cases hh
 exact K0.intro hC Tryz.func28 rfl rfl rfl (s' rfl rfl (E0.n hC rfl (e' rfl (p' 1 rfl (g' [] (N1d hx1) rfl rfl rfl rfl rfl rfl (g' [2] (Ak hx2) rfl rfl rfl rfl rfl rfl (e' rfl (re' (rt' rfl rfl rfl)))))))))
mutual
def Q2 (c:N0)(m0:List (Str×Bool))(v18:Int):Option Int:=
 if (decide (v18 < ((c.p.Decls).length:Int)))=true then
  idx c.p.Decls v18>>=fun x1=>
  some (mgt x1.Name m0)>>=fun x2=>
  if (x2.getD ebool.zero)=true then
   some v18
  else
   W1 c (mpt x1.Name true m0) [] v18 v18 x1 0
 else
  some (-1)
 partial_fixpoint
def W1 (c:N0)(m01:List (Str×Bool))(m21:List (Str×Bool))(i:Int)(v181:Int)(x1:B0)(v38:Int):Option Int:=
 if (decide (v38 < (([x1.Params,x1.Vars]).length:Int)))=true then
  idx [x1.Params,x1.Vars] v38>>=fun x3=>
  W3 c m01 m21 i v181 x1 v38 x3 0
 else
  Q2 c m01 (IntKind.i64.wrap (v181+1))
 partial_fixpoint
def W3 (c:N0)(m02:List (Str×Bool))(m2:List (Str×Bool))(i1:Int)(v182:Int)(x1:B0)(v381:Int)(x3:List B0)(v44:Int):Option Int:=
 if (decide (v44 < ((x3).length:Int)))=true then
  idx x3 v44>>=fun x4=>
  some (mgt x4.Name c.names)>>=fun x5=>
  some (mgt x4.Name m2)>>=fun x6=>
  if (bif (x5.getD ebool.zero) then true else (x6.getD ebool.zero))=true then
   some i1
  else
   W3 c m02 (mpt x4.Name true m2) i1 v182 x1 v381 x3 (IntKind.i64.wrap (v44+1))
 else
  W1 c m02 m2 i1 v182 x1 (IntKind.i64.wrap (v381+1))
 partial_fixpoint
end
abbrev Bh (c:N0)(m0:List (Str×Bool))(v18:Int)(res:Int):Prop:=LM C 68 0 Tryz.f29 [1,1,0,1,4] [(0,.d (.box (N0.row c))),(3,.mp 0),(16,.d (.sl (B0.rows c.p.Decls))),(17,.d (.int .i64 ((c.p.Decls).length:Int))),(18,.d (.int .i64 v18))] [.map (.s (ebool.ents m0))] (Ret [] (.d (.int .i64 res)))
abbrev Iq (c:N0)(m01:List (Str×Bool))(m21:List (Str×Bool))(i:Int)(v181:Int)(x1:B0)(v38:Int)(res:Int):Prop:=LM C 68 0 Tryz.f29 [1,1,0,1,4,5,1,1,0,4,1,1,1,1,1,4] [(0,.d (.box (N0.row c))),(3,.mp 0),(4,.d (.int .i64 i)),(6,.mp 2),(16,.d (.sl (B0.rows c.p.Decls))),(17,.d (.int .i64 ((c.p.Decls).length:Int))),(18,.d (.int .i64 v181)),(36,.full (esl_ApiDecl.rows [x1.Params,x1.Vars])),(37,.d (.int .i64 (([x1.Params,x1.Vars]).length:Int))),(38,.d (.int .i64 v38))] [.map (.s (ebool.ents m01)),.dead,.map (.s (ebool.ents m21))] (Ret [] (.d (.int .i64 res)))
abbrev Jq (c:N0)(m02:List (Str×Bool))(m2:List (Str×Bool))(i1:Int)(v182:Int)(x1:B0)(v381:Int)(x3:List B0)(v44:Int)(res:Int):Prop:=LM C 68 0 Tryz.f29 [1,1,0,1,4,5,1,1,0,4,1,1,1,1,1,4,5,1,1,0,4,1,1,4] [(0,.d (.box (N0.row c))),(3,.mp 0),(4,.d (.int .i64 i1)),(6,.mp 2),(16,.d (.sl (B0.rows c.p.Decls))),(17,.d (.int .i64 ((c.p.Decls).length:Int))),(18,.d (.int .i64 v182)),(36,.full (esl_ApiDecl.rows [x1.Params,x1.Vars])),(37,.d (.int .i64 (([x1.Params,x1.Vars]).length:Int))),(38,.d (.int .i64 v381)),(42,.d (.sl (B0.rows x3))),(43,.d (.int .i64 ((x3).length:Int))),(44,.d (.int .i64 v44))] [.map (.s (ebool.ents m02)),.dead,.map (.s (ebool.ents m2))] (Ret [] (.d (.int .i64 res)))
theorem Yo (c:N0):(∀ m0 v18 res,Q2 c m0 v18=some res→Bh c m0 v18 res)∧(∀ m01 m21 i v181 x1 v38 res,W1 c m01 m21 i v181 x1 v38=some res→Iq c m01 m21 i v181 x1 v38 res)∧(∀ m02 m2 i1 v182 x1 v381 x3 v44 res,W3 c m02 m2 i1 v182 x1 v381 x3 v44=some res→Jq c m02 m2 i1 v182 x1 v381 x3 v44 res):=by
 refine Q2.mutual_partial_correctness c _ _ _ ?_ ?_ ?_
 ·intro g1 ih1 m0 v18 res hh
  refine W0.unroll (t' rfl (S' (ci' rfl hh (fun hh=>?_) (fun hh=>?_))))
  ·obtain ⟨x1,hx1,hh⟩:=bs' hh
   obtain ⟨x2,hx2,hh⟩:=bs' hh
   refine sk' (S' (bk' (p' 1 rfl (i' rfl (U0 hx1) (B0.idx hx1) rfl (q' rfl (E0.nf hC rfl (q' rfl (E0.s hC rfl (n' (S' (p' 3 rfl (E0.me hC rfl (ebool.lk hx2) (n' (ci' rfl hh (fun hh=>?_) (fun hh=>?_)))))))))))))))
   ·cases hh
    exact t' rfl (re' (rt' rfl rfl rfl))
   refine sk' (p' 3 rfl (E0.ue hC rfl (ebool.mput _ true _) rfl (n' (s' rfl rfl (E0.w rfl (e' rfl (p' 4 rfl (E0.be hC rfl (esl_ApiDecl.rows_map [x1.Params,x1.Vars]).symm (qe' rfl trivial (esl_ApiDecl.lenA _) (e' rfl (bk' ?_)))))))))))
   refine AEx.ofLoop ?_
   refine W0.wk ?_ (ih1 _ _ _ _ _ _ _ hh)
   exact ⟨⟨⟨.rfl,rfl⟩,⟨.rfl,rfl⟩,⟨.rfl,rfl⟩,⟨.rfl,rfl⟩,⟨.rfl,rfl⟩,⟨.rfl,rfl⟩,⟨.rfl,rfl⟩,⟨.rfl,rfl⟩,⟨.rfl,rfl⟩,⟨.rfl,rfl⟩,trivial⟩,⟨rfl,trivial,rfl,trivial⟩,rfl⟩
  cases hh
  exact ex' (t' rfl (re' (rt' rfl rfl rfl)))
 ·intro g0 g2 ih0 ih2 m01 m21 i v181 x1 v38 res hh
  refine W0.unroll (t' rfl (S' (ci' rfl hh (fun hh=>?_) (fun hh=>?_))))
  ·obtain ⟨x3,hx3,hh⟩:=bs' hh
   refine sk' (S' (bk' (s' rfl rfl (i' rfl (U0 hx3) (esl_ApiDecl.idx hx3) rfl (e' rfl (p' 1 rfl (qe' rfl trivial (B0.lenA _) (e' rfl (bk' ?_)))))))))
   refine AEx.ofLoop ?_
   refine W0.wk ?_ (ih2 _ _ _ _ _ _ _ _ _ hh)
   exact ⟨⟨⟨.rfl,rfl⟩,⟨.rfl,rfl⟩,⟨.rfl,rfl⟩,⟨.rfl,rfl⟩,⟨.rfl,rfl⟩,⟨.rfl,rfl⟩,⟨.rfl,rfl⟩,⟨.rfl,rfl⟩,⟨.rfl,rfl⟩,⟨.rfl,rfl⟩,⟨.rfl,rfl⟩,⟨.rfl,rfl⟩,⟨.rfl,rfl⟩,trivial⟩,⟨rfl,trivial,rfl,trivial⟩,rfl⟩
  exact ex' (T' rfl (lw' (ih0 _ _ _ hh) rfl rfl rfl))
 ·intro g1 g2 ih1 ih2 m02 m2 i1 v182 x1 v381 x3 v44 res hh
  refine W0.unroll (t' rfl (S' (ci' rfl hh (fun hh=>?_) (fun hh=>?_))))
  ·obtain ⟨x4,hx4,hh⟩:=bs' hh
   obtain ⟨x5,hx5,hh⟩:=bs' hh
   obtain ⟨x6,hx6,hh⟩:=bs' hh
   refine sk' (S' (bk' (s' rfl rfl (i' rfl (U0 hx4) (B0.idx hx4) rfl (q' rfl (E0.nf hC rfl (E0.s hC rfl (n' (S' (S' (AEx.drawG hC 13 rfl rfl rfl (G' 6 rfl (AG.fl hC rfl rfl (fun _=>trivial) (fun _=>rfl) (ebool.lk hx5) ?_)))))))))))))
   refine G' 3 rfl (a1' rfl (AG.me hC rfl rfl (fun hg=>⟨hg,hg,trivial⟩) (ebool.lk hx6) (po' rfl (an' (n' (ci' rfl hh (fun hh=>?_) (fun hh=>?_)))))))
   ·cases hh
    exact t' rfl (re' (rt' rfl rfl rfl))
   refine sk' (P' 3 rfl (E0.ue hC rfl (ebool.mput _ true _) rfl (n' (T' rfl ?_))))
   refine W0.wk ?_ (ih2 _ _ _ _ _ _ _ _ _ hh)
   exact ⟨⟨⟨.rfl,rfl⟩,⟨.rfl,rfl⟩,⟨.rfl,rfl⟩,⟨.rfl,rfl⟩,⟨.rfl,rfl⟩,⟨.rfl,rfl⟩,⟨.rfl,rfl⟩,⟨.rfl,rfl⟩,⟨.rfl,rfl⟩,⟨.rfl,rfl⟩,⟨.rfl,rfl⟩,⟨.rfl,rfl⟩,⟨.rfl,rfl⟩,trivial⟩,⟨rfl,trivial,rfl,trivial⟩,rfl⟩
  refine ex' (T' rfl ?_)
  refine W0.wk ?_ (ih1 _ _ _ _ _ _ _ hh)
  exact ⟨⟨⟨.rfl,rfl⟩,⟨.rfl,rfl⟩,⟨.rfl,rfl⟩,⟨.rfl,rfl⟩,⟨.rfl,rfl⟩,⟨.rfl,rfl⟩,⟨.rfl,rfl⟩,⟨.rfl,rfl⟩,⟨.rfl,rfl⟩,⟨.rfl,rfl⟩,trivial⟩,⟨rfl,trivial,rfl,trivial⟩,rfl⟩
theorem Jp {c m0 v18 res}(hh:Q2 c m0 v18=some res):Bh c m0 v18 res:=(Yo c).1 _ _ _ hh
def G6 (c:N0):Option Int:=
 Q2 c [] 0
theorem Tr {c res}(hh:G6 c=some res):K0 C 29 [.d (.box (N0.row c))] [] (Ret [] (.d (.int .i64 res))):=by
 unfold G6 at hh
 exact K0.intro hC Tryz.func29 rfl rfl rfl (t' rfl (s' rfl rfl (E0.w rfl (e' rfl (S' (p' 5 rfl (qe' rfl trivial (B0.lenA _) (e' rfl (bk' (fw' (Jp hh) rfl rfl rfl))))))))))
def Nd (t:A0):Option Int:=
 S4 t 1 (F0.mk 0 0 false false false)>>=fun x1=>
 F6 x1>>=fun x2=>
 some x2
theorem It {t res}(hh:Nd t=some res):K0 C 185 [.agg (A0.cells t)] [] (Ret [] (.d (.int .i64 res))):=by
 unfold Nd at hh
 obtain ⟨x1,hx1,hh⟩:=bs' hh
 obtain ⟨x2,hx2,hh⟩:=bs' hh
 cases hh
 exact K0.intro hC Tryz.func185 rfl rfl rfl (s' rfl rfl (E0.n hC rfl (e' rfl (p' 1 rfl (E0.n hC rfl (e' rfl (p' 2 rfl (g' [1] (Rr hx1) rfl rfl rfl rfl rfl rfl (n' (p' 1 rfl (g' [1] (Ak hx2) rfl rfl rfl rfl rfl rfl (e' rfl (re' (rt' rfl rfl rfl))))))))))))))
mutual
def W4 (t:A0)(m:List (Str×A0)):Option (A0×Bool):=
 if (t.Kind == 4)=true then
  some (mgt t.Name m)>>=fun x1=>
  if (!x1.isSome)=true then
   some ((A0.mk 0 0 0 0 [] [] []),false)
  else
   Mc m (x1.getD A0.zero)
 else
  Mc m t
 partial_fixpoint
def Mc (m:List (Str×A0))(o1:A0):Option (A0×Bool):=
 Ka o1.Names>>=fun x2=>
 R5 m o1 x2 [] 0
 partial_fixpoint
def R5 (m:List (Str×A0))(o1:A0)(x2:List Str)(o3_Of:List A0)(v36:Int):Option (A0×Bool):=
 if (decide (v36 < ((o1.Of).length:Int)))=true then
  idx o1.Of v36>>=fun x3=>
  W4 x3 m>>=fun x4=>
  if (!x4.2)=true then
   some ((A0.mk 0 0 0 0 [] [] []),false)
  else
   if (decide ((o3_Of.length+1) * 97≤140737488355328))=true then
    R5 m o1 x2 (o3_Of++[x4.1]) (IntKind.i64.wrap (v36+1))
   else none
 else
  some ((A0.mk o1.Kind o1.Low o1.High o1.Size o1.Name x2 o3_Of),true)
 partial_fixpoint
end
abbrev Vy (t:A0)(m:List (Str×A0))(res:A0×Bool):Prop:=K0 C 211 [.mp 0,.agg (A0.cells t)] [.map (.s (A0.ents m))] (Ret [.map (.s (A0.ents m))] (.tup [.agg (A0.cells res.1),.d (.bool res.2)]))
abbrev Z17 (m:List (Str×A0))(o1:A0)(res:A0×Bool):Prop:=JM C 57 1 Tryz.f211 [1,1] [(0,.mp 0),(3,.ref 1 0),(4,.ref 2 0)] [.map (.s (A0.ents m)),.row (A0.cells o1) 40,.row [.d (.int .i64 0),.d (.int .i64 0),.d (.int .i64 0),.d (.int .i64 0),.d (.str []),.full (estr.rows []),.full (A0.rows [])] 40] (Ret [.map (.s (A0.ents m))] (.tup [.agg (A0.cells res.1),.d (.bool res.2)]))
abbrev A18 (m:List (Str×A0))(o1:A0)(x2:List Str)(o3_Of:List A0)(v36:Int)(res:A0×Bool):Prop:=LM C 57 1 Tryz.f211 [1,1,1,1,1,0,1,4] [(0,.mp 0),(4,.ref 2 0),(8,.ref 3 0),(34,.d (.sl (A0.rows o1.Of))),(35,.d (.int .i64 ((o1.Of).length:Int))),(36,.d (.int .i64 v36))] [.map (.s (A0.ents m)),.dead,.row [.d (.int .i64 0),.d (.int .i64 0),.d (.int .i64 0),.d (.int .i64 0),.d (.str []),.full (estr.rows []),.full (A0.rows [])] 40,.row [.d (.int .i64 o1.Kind),.d (.int .i64 o1.Low),.d (.int .i64 o1.High),.d (.int .i64 o1.Size),.d (.str o1.Name),.d (.sl (estr.rows x2)),.osl 4 (A0.rows o3_Of)] 40,.tok 40 7] (Ret [.map (.s (A0.ents m))] (.tup [.agg (A0.cells res.1),.d (.bool res.2)]))
theorem H1a (m:List (Str×A0)):(∀ t res,W4 t m=some res→Vy t m res)∧(∀ o1 res,Mc m o1=some res→Z17 m o1 res)∧(∀ o1 x2 o3_Of v36 res,R5 m o1 x2 o3_Of v36=some res→A18 m o1 x2 o3_Of v36 res):=by
 refine W4.mutual_partial_correctness m _ _ _ ?_ ?_ ?_
 ·intro g1 ih1 t res hh
  refine K0.intro hC Tryz.func211 rfl rfl rfl (s' rfl rfl (E0.n hC rfl (E0.nf hC rfl (e' rfl (S' (t' rfl (ci' rfl hh (fun hh=>?_) (fun hh=>?_))))))))
  ·obtain ⟨x1,hx1,hh⟩:=bs' hh
   refine p' 3 rfl (E0.me hC rfl (A0.lkT hx1) (o' 3 rfl (E0.nf hC rfl (E0.s hC rfl (e' rfl (S' (t' rfl (ci' rfl hh (fun hh=>?_) (fun hh=>?_)))))))))
   ·cases hh
    exact p' 1 rfl (E0.s hC rfl (e' rfl (re' (rt' rfl rfl rfl))))
   exact sk' (P' 1 rfl (E0.s hC rfl (n' (ew' (ih1 _ _ hh) rfl rfl rfl))))
  exact sk' (ew' (ih1 _ _ hh) rfl rfl rfl)
 ·intro g2 ih2 o1 res hh
  obtain ⟨x2,hx2,hh⟩:=bs' hh
  refine p' 1 rfl (E0.nf hC rfl (E0.s hC rfl (n' (p' 2 rfl (c' (Zs hx2) rfl rfl (q' rfl (E0.s hC rfl (n' (p' 1 rfl (E0.s hC rfl (E0.tokC 3 6 40 7 rfl rfl rfl rfl rfl (n' (S' ?_)))))))))))))
  refine p' 2 rfl (qe' rfl trivial (A0.lenA _) (e' rfl (bk' ?_)))
  refine AEx.ofLoop ?_
  refine W0.wk ?_ (ih2 _ _ _ _ _ hh)
  exact ⟨⟨⟨.rfl,rfl⟩,⟨.rfl,rfl⟩,⟨.rfl,rfl⟩,⟨.rfl,rfl⟩,⟨.rfl,rfl⟩,⟨.rfl,rfl⟩,trivial⟩,⟨rfl,trivial,⟨rfl,.refl _,rfl⟩,⟨rfl,.refl _,rfl⟩,rfl,trivial⟩,rfl⟩
 ·intro g0 g2 ih0 ih2 o1 x2 o3_Of v36 res hh
  refine W0.unroll (t' rfl (S' (ci' rfl hh (fun hh=>?_) (fun hh=>?_))))
  ·obtain ⟨x3,hx3,hh⟩:=bs' hh
   obtain ⟨x4,hx4,hh⟩:=bs' hh
   refine sk' (S' (bk' (s' rfl rfl (i' rfl (U0 hx3) (A0.idx hx3) rfl (q' rfl (E0.nf hC rfl (E0.s hC rfl (n' (p' 2 rfl (g' [0] (ih0 _ _ hx4) rfl rfl rfl rfl rfl rfl (o' 3 rfl (E0.nf hC rfl (E0.s hC rfl ?_)))))))))))))
   refine e' rfl (S' (t' rfl (ci' rfl hh (fun hh=>?_) (fun hh=>?_))))
   ·cases hh
    exact p' 1 rfl (E0.s hC rfl (e' rfl (re' (rt' rfl rfl rfl))))
   obtain ⟨c7,hh⟩:=I1 hh
   refine sk' (P' 3 rfl (E0.be hC rfl (A0.rows_map [x4.1]).symm (E0.ap hC rfl (rs:=A0.rows (o3_Of++[x4.1])) (A0.app o3_Of [x4.1]) (A0.sz o3_Of) (A0.sz [x4.1]) (E4 (A0.len o3_Of) (A0.len [x4.1]) c7) (q' rfl (E0.s hC rfl (n' (T' rfl ?_)))))))
   refine W0.wk ?_ (ih2 _ _ _ _ _ hh)
   exact ⟨⟨⟨.rfl,rfl⟩,⟨.rfl,rfl⟩,⟨.rfl,rfl⟩,⟨.rfl,rfl⟩,⟨.rfl,rfl⟩,⟨.rfl,rfl⟩,trivial⟩,⟨rfl,trivial,⟨rfl,.refl _,rfl⟩,⟨rfl,.refl _,rfl⟩,rfl,trivial⟩,rfl⟩
  refine ex' (p' 1 rfl (E0.s hC rfl (e' rfl (re' ?_))))
  obtain rfl:=oi' hh
  exact ⟨_,.tup [.agg [.d (.int .i64 o1.Kind),.d (.int .i64 o1.Low),.d (.int .i64 o1.High),.d (.int .i64 o1.Size),.d (.str o1.Name),.d (.sl (estr.rows x2)),.d (.sl (A0.rows o3_Of))],.d (.bool true)],[.map (.s (A0.ents m))],rfl,(.tupL ⟨(.aggL ⟨.rfl,.rfl,.rfl,.rfl,.rfl,.rfl,.osl,trivial⟩),.rfl,trivial⟩),⟨rfl,trivial⟩,rfl,rfl,rfl,rfl⟩
theorem O1d {t m res}(hh:W4 t m=some res):Vy t m res:=(H1a m).1 _ _ hh
def U2 (s:List Str)(v:Str)(v8:Int):Option Int:=
 if (decide (v8 < ((s).length:Int)))=true then
  idx s v8>>=fun x1=>
  if (v == x1)=true then
   some v8
  else
   U2 s v (IntKind.i64.wrap (v8+1))
 else
  some (-1)
 partial_fixpoint
abbrev Vh (s:List Str)(v:Str)(v8:Int)(res:Int):Prop:=LM C 19 0 Tryz.f232 [1,0,1,4] [(0,.d (.sl (estr.rows s))),(1,.d (.str v)),(7,.d (.int .i64 ((s).length:Int))),(8,.d (.int .i64 v8))] [] (Ret [] (.d (.int .i64 res)))
theorem Kp (s:List Str)(v:Str):(∀ v8 res,U2 s v v8=some res→Vh s v v8 res):=by
 refine U2.partial_correctness s v _ ?_
 ·intro g0 ih0 v8 res hh
  refine W0.unroll (t' rfl (S' (ci' rfl hh (fun hh=>?_) (fun hh=>?_))))
  ·obtain ⟨x1,hx1,hh⟩:=bs' hh
   refine sk' (S' (bk' (t' rfl (p' 3 rfl (i' rfl (U0 hx1) (estr.idx hx1) rfl (e' rfl (ci' rfl hh (fun hh=>?_) (fun hh=>?_))))))))
   ·cases hh
    exact t' rfl (re' (rt' rfl rfl rfl))
   exact sk' (T' rfl (lw' (ih0 _ _ hh) rfl rfl rfl))
  cases hh
  exact ex' (t' rfl (re' (rt' rfl rfl rfl)))
theorem Kq {s v v8 res}(hh:U2 s v v8=some res):Vh s v v8 res:=(Kp s v) _ _ hh
def La (s:List Str)(v:Str):Option Int:=
 U2 s v 0
theorem At {s v res}(hh:La s v=some res):K0 C 232 [.d (.sl (estr.rows s)),.d (.str v)] [] (Ret [] (.d (.int .i64 res))):=by
 unfold La at hh
 exact K0.intro hC Tryz.func232 rfl rfl rfl (t' rfl (S' (p' 1 rfl (qe' rfl trivial (estr.lenA _) (e' rfl (bk' (fw' (Kq hh) rfl rfl rfl)))))))
def O5 (s:List Str)(v:Str):Option Bool:=
 La s v>>=fun x1=>
 some (decide (x1≥0))
theorem Lq {s v res}(hh:O5 s v=some res):K0 C 226 [.d (.sl (estr.rows s)),.d (.str v)] [] (Ret [] (.d (.bool res))):=by
 unfold O5 at hh
 obtain ⟨x1,hx1,hh⟩:=bs' hh
 cases hh
 exact K0.intro hC Tryz.func226 rfl rfl rfl (t' rfl (p' 2 rfl (c' (At hx1) rfl rfl (e' rfl (re' (rt' rfl rfl rfl))))))
mutual
def De (t:A0):Option Bool:=
 Ng t 0
 partial_fixpoint
def Ng (t:A0)(v8:Int):Option Bool:=
 if (decide (v8 < ((t.Names).length:Int)))=true then
  idx t.Names v8>>=fun x1=>
  slc t.Names 0 v8>>=fun x2=>
  O5 x2 x1>>=fun x3=>
  if x3=true then
   some true
  else
   Ng t (IntKind.i64.wrap (v8+1))
 else
  P3 t.Of>>=fun x4=>
  some x4
 partial_fixpoint
def P3 (s:List A0):Option Bool:=
 N9 s>>=fun x1=>
 some (decide (x1≥0))
 partial_fixpoint
def N9 (s:List A0):Option Int:=
 Z2 s 0
 partial_fixpoint
def Z2 (s:List A0)(v8:Int):Option Int:=
 if (decide (v8 < ((s).length:Int)))=true then
  idx s v8>>=fun x1=>
  De x1>>=fun x2=>
  if x2=true then
   some v8
  else
   Z2 s (IntKind.i64.wrap (v8+1))
 else
  some (-1)
 partial_fixpoint
end
abbrev E17 (t:A0)(res:Bool):Prop:=K0 C 212 [.agg (A0.cells t)] [] (Ret [] (.d (.bool res)))
abbrev T1f (t:A0)(v8:Int)(res:Bool):Prop:=LM C 23 0 Tryz.f212 [1,0,1,4] [(1,.ref 0 0),(6,.d (.sl (estr.rows t.Names))),(7,.d (.int .i64 ((t.Names).length:Int))),(8,.d (.int .i64 v8))] [.row (A0.cells t) 40] (Ret [] (.d (.bool res)))
abbrev Ql (s:List A0)(res:Bool):Prop:=K0 C 227 [.d (.sl (A0.rows s)),.clo 212 []] [] (Ret [] (.d (.bool res)))
abbrev Kn (s:List A0)(res:Int):Prop:=K0 C 233 [.d (.sl (A0.rows s)),.clo 212 []] [] (Ret [] (.d (.int .i64 res)))
abbrev Rl (s:List A0)(v8:Int)(res:Int):Prop:=LM C 19 0 Tryz.f233 [1,0,1,4] [(0,.d (.sl (A0.rows s))),(1,.clo 212 []),(7,.d (.int .i64 ((s).length:Int))),(8,.d (.int .i64 v8))] [] (Ret [] (.d (.int .i64 res)))
theorem V1i:(∀ t res,De t=some res→E17 t res)∧(∀ t v8 res,Ng t v8=some res→T1f t v8 res)∧(∀ s res,P3 s=some res→Ql s res)∧(∀ s res,N9 s=some res→Kn s res)∧(∀ s v8 res,Z2 s v8=some res→Rl s v8 res):=by
 refine De.mutual_partial_correctness _ _ _ _ _ ?_ ?_ ?_ ?_ ?_
 ·intro g1 ih1 t res hh
  exact K0.intro hC Tryz.func212 rfl rfl rfl (s' rfl rfl (E0.n hC rfl (e' rfl (S' (p' 2 rfl (qe' rfl trivial (estr.lenA _) (e' rfl (bk' (fw' (ih1 _ _ _ hh) rfl rfl rfl)))))))))
 ·intro g1 g2 ih1 ih2 t v8 res hh
  refine W0.unroll (t' rfl (S' (ci' rfl hh (fun hh=>?_) (fun hh=>?_))))
  ·obtain ⟨x1,hx1,hh⟩:=bs' hh
   obtain ⟨x2,hx2,hh⟩:=bs' hh
   obtain ⟨x3,hx3,hh⟩:=bs' hh
   refine sk' (S' (bk' (p' 1 rfl (i' rfl (U0 hx1) (estr.idx hx1) rfl (e' rfl (p' 3 rfl (E0.dx hC rfl (estr.part hx2) (estr.sz _) (q' rfl (c' (Lq hx3) rfl rfl (n' (ci' rfl hh (fun hh=>?_) (fun hh=>?_))))))))))))
   ·cases hh
    exact t' rfl (re' (rt' rfl rfl rfl))
   exact sk' (T' rfl (lw' (ih1 _ _ _ hh) rfl rfl rfl))
  obtain ⟨x4,hx4,hh⟩:=bs' hh
  cases hh
  exact ex' (p' 2 rfl (c' (ih2 _ _ hx4) rfl rfl (e' rfl (re' (rt' rfl rfl rfl)))))
 ·intro g3 ih3 s res hh
  obtain ⟨x1,hx1,hh⟩:=bs' hh
  cases hh
  exact K0.intro hC Tryz.func227 rfl rfl rfl (t' rfl (p' 2 rfl (c' (ih3 _ _ hx1) rfl rfl (e' rfl (re' (rt' rfl rfl rfl))))))
 ·intro g4 ih4 s res hh
  exact K0.intro hC Tryz.func233 rfl rfl rfl (t' rfl (S' (p' 1 rfl (qe' rfl trivial (A0.lenA _) (e' rfl (bk' (fw' (ih4 _ _ _ hh) rfl rfl rfl)))))))
 ·intro g0 g4 ih0 ih4 s v8 res hh
  refine W0.unroll (t' rfl (S' (ci' rfl hh (fun hh=>?_) (fun hh=>?_))))
  ·obtain ⟨x1,hx1,hh⟩:=bs' hh
   obtain ⟨x2,hx2,hh⟩:=bs' hh
   refine sk' (S' (bk' (t' rfl (p' 3 rfl (i' rfl (U0 hx1) (A0.idx hx1) rfl (q' rfl (c' (ih0 _ _ hx2) rfl rfl (n' (ci' rfl hh (fun hh=>?_) (fun hh=>?_))))))))))
   ·cases hh
    exact t' rfl (re' (rt' rfl rfl rfl))
   exact sk' (T' rfl (lw' (ih4 _ _ _ hh) rfl rfl rfl))
  cases hh
  exact ex' (t' rfl (re' (rt' rfl rfl rfl)))
theorem P13 {t res}(hh:De t=some res):E17 t res:=(V1i).1 _ _ hh
mutual
def Gg (t:A0):Option Int:=
 Og t 0 0
 partial_fixpoint
def Og (t:A0)(d:Int)(v9:Int):Option Int:=
 if (decide (v9 < ((t.Of).length:Int)))=true then
  idx t.Of v9>>=fun x1=>
  Gg x1>>=fun x2=>
  Og t (max d x2) (IntKind.i64.wrap (v9+1))
 else
  some (IntKind.i64.wrap (d+1))
 partial_fixpoint
end
abbrev F17 (t:A0)(res:Int):Prop:=K0 C 213 [.agg (A0.cells t)] [] (Ret [] (.d (.int .i64 res)))
abbrev U1f (t:A0)(d:Int)(v9:Int)(res:Int):Prop:=LM C 20 0 Tryz.f213 [1,1,0,1,4] [(3,.d (.int .i64 d)),(7,.d (.sl (A0.rows t.Of))),(8,.d (.int .i64 ((t.Of).length:Int))),(9,.d (.int .i64 v9))] [] (Ret [] (.d (.int .i64 res)))
theorem W1i:(∀ t res,Gg t=some res→F17 t res)∧(∀ t d v9 res,Og t d v9=some res→U1f t d v9 res):=by
 refine Gg.mutual_partial_correctness _ _ ?_ ?_
 ·intro g1 ih1 t res hh
  exact K0.intro hC Tryz.func213 rfl rfl rfl (s' rfl rfl (E0.n hC rfl (e' rfl (t' rfl (S' (p' 2 rfl (qe' rfl trivial (A0.lenA _) (e' rfl (bk' (fw' (ih1 _ _ _ _ hh) rfl rfl rfl))))))))))
 ·intro g0 g1 ih0 ih1 t d v9 res hh
  refine W0.unroll (t' rfl (S' (ci' rfl hh (fun hh=>?_) (fun hh=>?_))))
  ·obtain ⟨x1,hx1,hh⟩:=bs' hh
   obtain ⟨x2,hx2,hh⟩:=bs' hh
   exact sk' (S' (bk' (s' rfl rfl (i' rfl (U0 hx1) (A0.idx hx1) rfl (q' rfl (E0.nf hC rfl (E0.s hC rfl (n' (P' 2 rfl (c' (ih0 _ _ hx2) rfl rfl (e' rfl (T' rfl (lw' (ih1 _ _ _ _ hh) rfl rfl rfl)))))))))))))
  cases hh
  exact ex' (t' rfl (re' (rt' rfl rfl rfl)))
theorem D1l {t res}(hh:Gg t=some res):F17 t res:=(W1i).1 _ _ hh
mutual
def Rb (t:A0):Option Int:=
 if (t.Kind == 2)=true then
  idx t.Of 0>>=fun x1=>
  Rb x1>>=fun x3=>
  some (min (IntKind.i64.wrap ((min t.Size 33) * x3)) 33)
 else
  if (t.Kind == 3)=true then
   Pg t 0 0
  else
   some (min 1 33)
 partial_fixpoint
def Pg (t:A0)(n:Int)(v24:Int):Option Int:=
 if (decide (v24 < ((t.Of).length:Int)))=true then
  idx t.Of v24>>=fun x2=>
  Rb x2>>=fun x4=>
  Pg t (IntKind.i64.wrap (n+x4)) (IntKind.i64.wrap (v24+1))
 else
  some (min n 33)
 partial_fixpoint
end
abbrev G17 (t:A0)(res:Int):Prop:=K0 C 214 [.agg (A0.cells t)] [] (Ret [] (.d (.int .i64 res)))
abbrev V1f (t:A0)(n:Int)(v24:Int)(res:Int):Prop:=LM C 35 0 Tryz.f214 [1,1,0,1,4,1,3,1,2,1,4] [(3,.d (.int .i64 n)),(22,.d (.sl (A0.rows t.Of))),(23,.d (.int .i64 ((t.Of).length:Int))),(24,.d (.int .i64 v24))] [] (Ret [] (.d (.int .i64 res)))
theorem X1i:(∀ t res,Rb t=some res→G17 t res)∧(∀ t n v24 res,Pg t n v24=some res→V1f t n v24 res):=by
 refine Rb.mutual_partial_correctness _ _ ?_ ?_
 ·intro g0 g1 ih0 ih1 t res hh
  refine K0.intro hC Tryz.func214 rfl rfl rfl (s' rfl rfl (E0.n hC rfl (e' rfl (t' rfl (S' (t' rfl (bk' (t' rfl (ci' rfl hh (fun hh=>?_) (fun hh=>?_))))))))))
  ·obtain ⟨x1,hx1,hh⟩:=bs' hh
   obtain ⟨x3,hx3,hh⟩:=bs' hh
   cases hh
   exact AEx.draw hC 10 rfl rfl rfl (O' 5 rfl (AQ.i hC rfl (U0 hx1) (A0.idx hx1) rfl (Q' rfl (Qc' (ih0 _ _ hx3) rfl rfl (E' rfl (n' (t' rfl (re' (rt' rfl rfl rfl)))))))))
  refine t' rfl (ci' rfl hh (fun hh=>?_) (fun hh=>?_))
  ·exact p' 2 rfl (qe' rfl trivial (A0.lenA _) (e' rfl (bk' (fw' (ih1 _ _ _ _ hh) rfl rfl rfl))))
  cases hh
  exact T' rfl (t' rfl (re' (rt' rfl rfl rfl)))
 ·intro g0 g1 ih0 ih1 t n v24 res hh
  refine W0.unroll (t' rfl (S' (ci' rfl hh (fun hh=>?_) (fun hh=>?_))))
  ·obtain ⟨x2,hx2,hh⟩:=bs' hh
   obtain ⟨x4,hx4,hh⟩:=bs' hh
   exact sk' (S' (bk' (s' rfl rfl (i' rfl (U0 hx2) (A0.idx hx2) rfl (q' rfl (E0.nf hC rfl (E0.s hC rfl (n' (P' 2 rfl (c' (ih0 _ _ hx4) rfl rfl (e' rfl (T' rfl (lw' (ih1 _ _ _ _ hh) rfl rfl rfl)))))))))))))
  cases hh
  exact ex' (t' rfl (re' (rt' rfl rfl rfl)))
theorem Q13 {t res}(hh:Rb t=some res):G17 t res:=(X1i).1 _ _ hh
def Qg (t:A0)(m:List (Str×A0)):Option (A0×Int):=
 Nd t>>=fun x1=>
 if (x1 != 0)=true then
  some ((A0.mk 0 0 0 0 [] [] []),x1)
 else
  W4 t m>>=fun x2=>
  if (!x2.2)=true then
   some ((A0.mk 0 0 0 0 [] [] []),7)
  else
   De x2.1>>=fun x3=>
   if x3=true then
    some ((A0.mk 0 0 0 0 [] [] []),8)
   else
    Gg x2.1>>=fun x4=>
    (if (!(decide (x4 > 12)))=true then Rb x2.1 else some default)>>=fun x5=>
    if (bif (decide (x4 > 12)) then true else (decide (x5 > 32)))=true then
     some ((A0.mk 0 0 0 0 [] [] []),4)
    else
     some (x2.1,0)
theorem Nw {t m res}(hh:Qg t m=some res):K0 C 180 [.mp 0,.agg (A0.cells t)] [.map (.s (A0.ents m))] (Ret [.map (.s (A0.ents m))] (.tup [.agg (A0.cells res.1),.d (.int .i64 res.2)])):=by
 unfold Qg at hh
 obtain ⟨x1,hx1,hh⟩:=bs' hh
 refine K0.intro hC Tryz.func180 rfl rfl rfl (s' rfl rfl (E0.n hC rfl (E0.nf hC rfl (e' rfl (S' (p' 1 rfl (c' (It hx1) rfl rfl (e' rfl (t' rfl (ci' rfl hh (fun hh=>?_) (fun hh=>?_)))))))))))
 ·cases hh
  exact p' 2 rfl (E0.s hC rfl (e' rfl (re' (rt' rfl rfl rfl))))
 obtain ⟨x2,hx2,hh⟩:=bs' hh
 refine sk' (p' 2 rfl (g' [0] (O1d hx2) rfl rfl rfl rfl rfl rfl (o' 3 rfl (E0.nf hC rfl (E0.s hC rfl (e' rfl (S' (t' rfl (ci' rfl hh (fun hh=>?_) (fun hh=>?_))))))))))
 ·cases hh
  exact p' 1 rfl (E0.s hC rfl (e' rfl (re' (rt' rfl rfl rfl))))
 obtain ⟨x3,hx3,hh⟩:=bs' hh
 refine sk' (S' (p' 1 rfl (c' (P13 hx3) rfl rfl (n' (ci' rfl hh (fun hh=>?_) (fun hh=>?_))))))
 ·cases hh
  exact p' 1 rfl (E0.s hC rfl (e' rfl (re' (rt' rfl rfl rfl))))
 obtain ⟨x4,hx4,hh⟩:=bs' hh
 obtain ⟨x5,hx5,hh⟩:=bs' hh
 refine sk' (S' (sg' 8 rfl (a0' rfl (AG.c rfl rfl (fun _=>trivial) (fun _=>D1l hx4) (G' 3 rfl (AG.c rfl rfl (fun hg=>⟨hg,trivial⟩) (fun hw=>Q13 (G1 hw hx5)) (a1' rfl (po' rfl (an' (n' (ci' rfl hh (fun hh=>?_) (fun hh=>?_))))))))))))
 ·cases hh
  exact p' 1 rfl (E0.s hC rfl (e' rfl (re' (rt' rfl rfl rfl))))
 cases hh
 exact sk' (p' 1 rfl (E0.s hC rfl (e' rfl (re' (rt' rfl rfl rfl)))))
def Q7 (decls:List B0)(t:A0)(m2:List (Str×A0))(v16:Int):Option (A0×Int):=
 if (decide (v16 < ((decls).length:Int)))=true then
  idx decls v16>>=fun x1=>
  if (x1.Kind != 0)=true then
   Q7 decls t m2 (IntKind.i64.wrap (v16+1))
  else
   Ei x1.Name>>=fun x2=>
   if (!x2)=true then
    some ((A0.mk 0 0 0 0 [] [] []),7)
   else
    some (mgt x1.Name m2)>>=fun x3=>
    if x3.isSome=true then
     some ((A0.mk 0 0 0 0 [] [] []),8)
    else
     Qg x1.TypeV m2>>=fun x4=>
     if (x4.2 != 0)=true then
      some ((A0.mk 0 0 0 0 [] [] []),x4.2)
     else
      Q7 decls t (mpt x1.Name x4.1 m2) (IntKind.i64.wrap (v16+1))
 else
  Qg t m2>>=fun x5=>
  some (x5.1,x5.2)
 partial_fixpoint
abbrev Ow (decls:List B0)(t:A0)(m2:List (Str×A0))(v16:Int)(res:A0×Int):Prop:=LM C 58 0 Tryz.f110 [1,1,0,1,4] [(3,.ref 0 0),(4,.ref 1 0),(6,.mp 2),(14,.d (.sl (B0.rows decls))),(15,.d (.int .i64 ((decls).length:Int))),(16,.d (.int .i64 v16))] [.row (A0.cells t) 40,.row [.d (.int .i64 0),.d (.int .i64 0),.d (.int .i64 0),.d (.int .i64 0),.d (.str []),.full (estr.rows []),.full (A0.rows [])] 40,.map (.s (A0.ents m2))] (Ret [] (.tup [.agg (A0.cells res.1),.d (.int .i64 res.2)]))
theorem B18 (decls:List B0)(t:A0):(∀ m2 v16 res,Q7 decls t m2 v16=some res→Ow decls t m2 v16 res):=by
 refine Q7.partial_correctness decls t _ ?_
 ·intro g0 ih0 m2 v16 res hh
  refine W0.unroll (t' rfl (S' (ci' rfl hh (fun hh=>?_) (fun hh=>?_))))
  ·obtain ⟨x1,hx1,hh⟩:=bs' hh
   refine sk' (S' (bk' (s' rfl rfl (i' rfl (U0 hx1) (B0.idx hx1) rfl (q' rfl (E0.nf hC rfl (E0.s hC rfl (n' (S' (t' rfl (ci' rfl hh (fun hh=>?_) (fun hh=>?_))))))))))))
   ·exact ex' (T' rfl (lw' (ih0 _ _ _ hh) rfl rfl rfl))
   obtain ⟨x2,hx2,hh⟩:=bs' hh
   refine sk' (S' (p' 2 rfl (c' (Ly hx2) rfl rfl (e' rfl (ci' rfl hh (fun hh=>?_) (fun hh=>?_))))))
   ·cases hh
    exact p' 1 rfl (E0.s hC rfl (e' rfl (re' (rt' rfl rfl rfl))))
   obtain ⟨x3,hx3,hh⟩:=bs' hh
   refine sk' (S' (p' 3 rfl (E0.me hC rfl (A0.lkT hx3) (o' 3 rfl (E0.nf hC rfl (E0.s hC rfl (e' rfl (t' rfl (ci' rfl hh (fun hh=>?_) (fun hh=>?_))))))))))
   ·cases hh
    exact p' 1 rfl (E0.s hC rfl (e' rfl (re' (rt' rfl rfl rfl))))
   obtain ⟨x4,hx4,hh⟩:=bs' hh
   refine sk' (p' 3 rfl (g' [2] (Nw hx4) rfl rfl rfl rfl rfl rfl (o' 3 rfl (E0.nf hC rfl (E0.s hC rfl (e' rfl (S' (t' rfl (ci' rfl hh (fun hh=>?_) (fun hh=>?_))))))))))
   ·cases hh
    exact p' 2 rfl (E0.s hC rfl (e' rfl (re' (rt' rfl rfl rfl))))
   exact sk' (P' 4 rfl (E0.ue hC rfl (A0.mput _ x4.1 _) rfl (n' (T' rfl (lw' (ih0 _ _ _ hh) rfl rfl rfl)))))
  obtain ⟨x5,hx5,hh⟩:=bs' hh
  cases hh
  exact ex' (p' 2 rfl (g' [2] (Nw hx5) rfl rfl rfl rfl rfl rfl (o' 2 rfl (E0.s hC rfl (e' rfl (re' (rt' rfl rfl rfl)))))))
theorem I1a {decls t m2 v16 res}(hh:Q7 decls t m2 v16=some res):Ow decls t m2 v16 res:=(B18 decls t) _ _ _ hh
end Go.Proofs.YtdkabnfphmmmnaaGreatDoor

set_option maxRecDepth 100000
set_option maxHeartbeats 4000000
set_option synthInstance.maxSize 20000
set_option linter.unusedVariables false
namespace Go.Proofs.YtdkabnfphmmmnaaGreatDoor
open Go.Am
def Ln (decls:List B0)(t:A0):Option (A0×Int):=
 Q7 decls t [] 0
theorem Y1i {decls t res}(hh:Ln decls t=some res):K0 C 110 [.d (.sl (B0.rows decls)),.agg (A0.cells t)] [] (Ret [] (.tup [.agg (A0.cells res.1),.d (.int .i64 res.2)])):=by
 unfold Ln at hh
 exact K0.intro hC Tryz.func110 rfl rfl rfl (s' rfl rfl (E0.n hC rfl (E0.nf hC rfl (e' rfl (s' rfl rfl (E0.w rfl (e' rfl (S' (p' 1 rfl (qe' rfl trivial (B0.lenA _) (e' rfl (bk' (fw' (I1a hh) rfl rfl rfl)))))))))))))
def L4 (c:N0)(t:A0)(before:Int):Option (A0×Int):=
 slc c.p.Decls 0 before>>=fun x1=>
 Ln x1 t>>=fun x2=>
 some (x2.1,x2.2)
theorem Ke {c t before res}(hh:L4 c t before=some res):K0 C 55 [.d (.box (N0.row c)),.agg (A0.cells t),.d (.int .i64 before)] [] (Ret [] (.tup [.agg (A0.cells res.1),.d (.int .i64 res.2)])):=by
 unfold L4 at hh
 obtain ⟨x1,hx1,hh⟩:=bs' hh
 obtain ⟨x2,hx2,hh⟩:=bs' hh
 cases hh
 refine K0.intro hC Tryz.func55 rfl rfl rfl (s' rfl rfl (E0.n hC rfl (E0.nf hC rfl (e' rfl (S' (AEx.draw hC 11 rfl rfl rfl (O' 6 rfl (AQ.dx hC rfl (B0.part hx1) (B0.sz _) (Q' rfl (Qc' (Y1i hx2) rfl rfl (E' rfl (E0.s hC rfl (e' rfl ?_)))))))))))))
 exact re' (rt' rfl rfl rfl)
def R6 (t:A0):Option Bool:=
 some (bif (t.Kind == 0) then true else (t.Kind == 1))
theorem Ph {t res}(hh:R6 t=some res):K0 C 56 [.agg (A0.cells t)] [] (Ret [] (.d (.bool res))):=by
 unfold R6 at hh
 cases hh
 exact K0.intro hC Tryz.func56 rfl rfl rfl (s' rfl rfl (E0.n hC rfl (e' rfl (sg' 9 rfl (G' 5 rfl (a1' rfl (a1' rfl (po' rfl (a0' rfl (an' (n' (re' (rt' rfl rfl rfl)))))))))))))
def I4 (s:Option L0):Option (List (Str×P0)×Option L0):=
 some ([],s)
theorem Xf {s res}(hh:I4 s=some res):K0 C 60 [.d (.bxo (L0.opt s))] [] (Ret [.map (.s (P0.ents res.1)),.row [.d (.bxo (L0.opt res.2)),.mp 0] 110] (.ref 1 0)):=by
 unfold I4 at hh
 cases hh
 exact K0.intro hC Tryz.func60 rfl rfl rfl (t' rfl (p' 1 rfl (E0.w rfl (q' rfl (E0.n hC rfl (e' rfl (re' (rt' rfl rfl rfl))))))))
def X2 (c:N0)(t:A0)(before:Int):Option A0:=
 L4 c t before>>=fun x1=>
 some x1.1
theorem P5 {c t before res}(hh:X2 c t before=some res):K0 C 61 [.d (.box (N0.row c)),.agg (A0.cells t),.d (.int .i64 before)] [] (Ret [] (.agg (A0.cells res))):=by
 unfold X2 at hh
 obtain ⟨x1,hx1,hh⟩:=bs' hh
 cases hh
 refine K0.intro hC Tryz.func61 rfl rfl rfl (s' rfl rfl (E0.n hC rfl (E0.nf hC rfl (n' (p' 3 rfl (c' (Ke hx1) rfl rfl (o' 3 rfl (E0.nf hC rfl (E0.s hC rfl (e' rfl (p' 1 rfl (E0.s hC rfl (n' ?_)))))))))))))
 exact re' (rt' rfl rfl rfl)
def R2 (c:N0)(variables:Bool)(m0:List (Str×P0))(x1:List (Str×P0)×Option L0)(x2:List B0)(v22:Int):Option (Option L0):=
 if (decide (v22 < ((x2).length:Int)))=true then
  idx x2 v22>>=fun x3=>
  if (bif (bif (bif (x3.Kind == 1) then true else (x3.Kind == 2)) then true else (x3.Kind == 3)) then true else (bif variables then (x3.Kind == 4) else false))=true then
   X2 c x3.TypeV v22>>=fun x4=>
   R2 c variables (mpt x3.Name (P0.mk x4 (bif (bif (x3.Kind == 1) then true else (x3.Kind == 2)) then true else (x3.Kind == 3))) m0) x1 x2 (IntKind.i64.wrap (v22+1))
  else
   R2 c variables m0 x1 x2 (IntKind.i64.wrap (v22+1))
 else
  some (some (L0.mk x1.2 m0))>>=fun x5=>
  some x5
 partial_fixpoint
abbrev Lj (c:N0)(variables:Bool)(m0:List (Str×P0))(x1:List (Str×P0)×Option L0)(x2:List B0)(v22:Int)(res:Option L0):Prop:=LM C 64 0 Tryz.f32 [1,1,1,0,1,4] [(0,.d (.box (N0.row c))),(2,.d (.bool variables)),(8,.ref 1 0),(20,.d (.sl (B0.rows x2))),(21,.d (.int .i64 ((x2).length:Int))),(22,.d (.int .i64 v22))] [.map (.s (P0.ents m0)),.row [.d (.bxo (L0.opt x1.2)),.mp 0] 110] (Ret [] (.d (.bxo (L0.opt res))))
theorem Zq (c:N0)(variables:Bool)(x1:List (Str×P0)×Option L0)(x2:List B0):(∀ m0 v22 res,R2 c variables m0 x1 x2 v22=some res→Lj c variables m0 x1 x2 v22 res):=by
 refine R2.partial_correctness c variables x1 x2 _ ?_
 ·intro g0 ih0 m0 v22 res hh
  refine W0.unroll (t' rfl (S' (ci' rfl hh (fun hh=>?_) (fun hh=>?_))))
  ·obtain ⟨x3,hx3,hh⟩:=bs' hh
   refine sk' (S' (bk' (p' 1 rfl (i' rfl (U0 hx3) (B0.idx hx3) rfl (q' rfl (E0.nf hC rfl (q' rfl (E0.s hC rfl (n' (sg' 14 rfl (G' 5 rfl (a1' rfl (a1' rfl ?_)))))))))))))
   refine po' rfl (G' 2 rfl (a1' rfl (a1' rfl (po' rfl (a0' rfl (an' (n' (sg' 9 rfl (G' 3 rfl (a1' rfl (a0' rfl (a1' rfl (a1' rfl ?_)))))))))))))
   refine pA' rfl (po' rfl (an' (n' (ci' rfl hh (fun hh=>?_) (fun hh=>?_)))))
   ·obtain ⟨x4,hx4,hh⟩:=bs' hh
    exact AEx.draw hC 13 rfl rfl rfl (O' 10 rfl (Qc' (P5 hx4) rfl rfl (E' rfl (E0.ue hC rfl (P0.mput _ (P0.mk x4 (bif (bif (x3.Kind == 1) then true else (x3.Kind == 2)) then true else (x3.Kind == 3))) _) rfl (n' (T' rfl (lw' (ih0 _ _ _ hh) rfl rfl rfl)))))))
   exact sk' (T' rfl (lw' (ih0 _ _ _ hh) rfl rfl rfl))
  obtain ⟨x5,hx5,hh⟩:=bs' hh
  refine ex' (p' 2 rfl (E0.fm 0 rfl rfl (E0.bx 1 (y:=.bxo (L0.opt x5)) (by cases hx5; exact .inr rfl) rfl rfl rfl (n' ?_))))
  cases hh
  exact re' (rt' rfl rfl rfl)
theorem Ur {c variables m0 x1 x2 v22 res}(hh:R2 c variables m0 x1 x2 v22=some res):Lj c variables m0 x1 x2 v22 res:=(Zq c variables x1 x2) _ _ _ hh
def M4 (c:N0)(before:Int)(variables:Bool):Option (Option L0):=
 I4 none>>=fun x1=>
 slc c.p.Decls 0 before>>=fun x2=>
 R2 c variables x1.1 x1 x2 0
theorem X0 {c before variables res}(hh:M4 c before variables=some res):K0 C 32 [.d (.box (N0.row c)),.d (.int .i64 before),.d (.bool variables)] [] (Ret [] (.d (.bxo (L0.opt res)))):=by
 unfold M4 at hh
 obtain ⟨x1,hx1,hh⟩:=bs' hh
 obtain ⟨x2,hx2,hh⟩:=bs' hh
 exact K0.intro hC Tryz.func32 rfl rfl rfl (t' rfl (t' rfl (p' 1 rfl (E0.g [] rfl (Xf hx1) ⟨.nbx,trivial⟩ rfl trivial rfl rfl (e' rfl (S' (p' 6 rfl (E0.dx hC rfl (B0.part hx2) (B0.sz _) (qe' rfl trivial (B0.lenA _) (e' rfl (bk' (fw' (Ur hh) rfl rfl rfl))))))))))))
def P2 (low:Int)(high:Int):Option A0:=
 some (A0.mk 1 low high 0 [] [] [])
theorem C3 {low high res}(hh:P2 low high=some res):K0 C 86 [.d (.int .i64 low),.d (.int .i64 high)] [] (Ret [] (.agg (A0.cells res))):=by
 unfold P2 at hh
 cases hh
 exact K0.intro hC Tryz.func86 rfl rfl rfl (s' rfl rfl (E0.nf hC rfl (n' (p' 3 rfl (E0.s hC rfl (n' (re' (rt' rfl rfl rfl))))))))
def A9 (t:A0):Option (A0×Int):=
 if (bif (t.Kind == 1) then (bif (decide (t.Low < (-1048576))) then true else (decide (t.High > 1048576))) else false)=true then
  some ((A0.mk 0 0 0 0 [] [] []),3)
 else
  some (t,0)
theorem Zo {t res}(hh:A9 t=some res):K0 C 85 [.agg (A0.cells t)] [] (Ret [] (.tup [.agg (A0.cells res.1),.d (.int .i64 res.2)])):=by
 unfold A9 at hh
 refine K0.intro hC Tryz.func85 rfl rfl rfl (s' rfl rfl (E0.n hC rfl (E0.nf hC rfl (e' rfl (S' (sg' 13 rfl (G' 5 rfl (a1' rfl (a1' rfl (a1' rfl (a0' rfl (a1' rfl (a1' rfl ?_)))))))))))))
 refine pO' rfl (pa' rfl (an' (n' (ci' rfl hh (fun hh=>?_) (fun hh=>?_)))))
 ·cases hh
  exact p' 1 rfl (E0.s hC rfl (e' rfl (re' (rt' rfl rfl rfl))))
 cases hh
 exact sk' (p' 1 rfl (E0.s hC rfl (e' rfl (re' (rt' rfl rfl rfl)))))
def L3 (name:Str)(s1:Option L0):Option (P0×Bool):=
 if (!s1.isNone)=true then
  s1>>=fun x1=>
  some (mgt name x1.vars)>>=fun x2=>
  if x2.isSome=true then
   some ((x2.getD P0.zero),true)
  else
   s1>>=fun x3=>
   L3 name x3.around
 else
  some ((P0.mk (A0.mk 0 0 0 0 [] [] []) false),false)
 partial_fixpoint
abbrev Xk (name:Str)(s1:Option L0)(res:P0×Bool):Prop:=LM C 26 0 Tryz.f87 [1,0,4] [(0,.d (.bxo (L0.opt s1))),(1,.d (.str name)),(4,.ref 0 0)] [.row [.d (.int .i64 0),.d (.int .i64 0),.d (.int .i64 0),.d (.int .i64 0),.d (.str []),.full (estr.rows []),.full (A0.rows []),.d (.bool false)] 107] (Ret [] (.tup [.agg (P0.cells res.1),.d (.bool res.2)]))
theorem Bt (name:Str):(∀ s1 res,L3 name s1=some res→Xk name s1 res):=by
 refine L3.partial_correctness name _ ?_
 ·intro g0 ih0 s1 res hh
  refine W0.unroll (S' (p' 1 rfl (E0.nq hC rfl (L0.opt_nilB s1) (n' (ci' rfl hh (fun hh=>?_) (fun hh=>?_))))))
  ·obtain ⟨x1,hx1,hh⟩:=bs' hh
   obtain ⟨x2,hx2,hh⟩:=bs' hh
   refine sk' (S' (bk' (p' 1 rfl (E0.nk hC rfl (L0.opt_some hx1) (o' 3 rfl (E0.fl hC rfl rfl (P0.lkT hx2) (o' 3 rfl (E0.nf hC rfl (E0.s hC rfl (e' rfl (t' rfl (ci' rfl hh (fun hh=>?_) (fun hh=>?_)))))))))))))
   ·cases hh
    exact p' 1 rfl (E0.s hC rfl (e' rfl (re' (rt' rfl rfl rfl))))
   obtain ⟨x3,hx3,hh⟩:=bs' hh
   exact sk' (P' 1 rfl (E0.nk hC rfl (L0.opt_some hx3) (e' rfl (lw' (ih0 _ _ hh) rfl rfl rfl))))
  cases hh
  exact ex' (p' 1 rfl (E0.s hC rfl (e' rfl (re' (rt' rfl rfl rfl)))))
theorem Zt {name s1 res}(hh:L3 name s1=some res):Xk name s1 res:=(Bt name) _ _ hh
def L5 (s:Option L0)(name:Str):Option (P0×Bool):=
 L3 name s
theorem Yf {s name res}(hh:L5 s name=some res):K0 C 87 [.d (.bxo (L0.opt s)),.d (.str name)] [] (Ret [] (.tup [.agg (P0.cells res.1),.d (.bool res.2)])):=by
 unfold L5 at hh
 exact K0.intro hC Tryz.func87 rfl rfl rfl (s' rfl rfl (E0.nf hC rfl (e' rfl (S' (bk' (fw' (Zt hh) rfl rfl rfl))))))
def J4 (t:A0)(name:Str)(v15:Int):Option (A0×Int):=
 if (decide (v15 < ((t.Names).length:Int)))=true then
  idx t.Names v15>>=fun x1=>
  if (x1 == name)=true then
   idx t.Of v15>>=fun x2=>
   some (x2,0)
  else
   J4 t name (IntKind.i64.wrap (v15+1))
 else
  some ((A0.mk 0 0 0 0 [] [] []),7)
 partial_fixpoint
abbrev Mn (t:A0)(name:Str)(v15:Int)(res:A0×Int):Prop:=LM C 30 0 Tryz.f88 [1,1,0,1,4] [(1,.d (.str name)),(2,.ref 0 0),(4,.ref 1 0),(13,.d (.sl (estr.rows t.Names))),(14,.d (.int .i64 ((t.Names).length:Int))),(15,.d (.int .i64 v15))] [.row (A0.cells t) 40,.row [.d (.int .i64 0),.d (.int .i64 0),.d (.int .i64 0),.d (.int .i64 0),.d (.str []),.full (estr.rows []),.full (A0.rows [])] 40] (Ret [] (.tup [.agg (A0.cells res.1),.d (.int .i64 res.2)]))
theorem Kw (t:A0)(name:Str):(∀ v15 res,J4 t name v15=some res→Mn t name v15 res):=by
 refine J4.partial_correctness t name _ ?_
 ·intro g0 ih0 v15 res hh
  refine W0.unroll (t' rfl (S' (ci' rfl hh (fun hh=>?_) (fun hh=>?_))))
  ·obtain ⟨x1,hx1,hh⟩:=bs' hh
   refine sk' (S' (bk' (p' 1 rfl (i' rfl (U0 hx1) (estr.idx hx1) rfl (e' rfl (t' rfl (ci' rfl hh (fun hh=>?_) (fun hh=>?_))))))))
   ·obtain ⟨x2,hx2,hh⟩:=bs' hh
    cases hh
    exact p' 3 rfl (i' rfl (U0 hx2) (A0.idx hx2) rfl (q' rfl (E0.s hC rfl (e' rfl (re' (rt' rfl rfl rfl))))))
   exact sk' (T' rfl (lw' (ih0 _ _ hh) rfl rfl rfl))
  cases hh
  exact ex' (p' 1 rfl (E0.s hC rfl (e' rfl (re' (rt' rfl rfl rfl)))))
theorem Ux {t name v15 res}(hh:J4 t name v15=some res):Mn t name v15 res:=(Kw t name) _ _ hh
def O7 (t:A0)(name:Str):Option (A0×Int):=
 if (t.Kind != 3)=true then
  some ((A0.mk 0 0 0 0 [] [] []),9)
 else
  J4 t name 0
theorem E12 {t name res}(hh:O7 t name=some res):K0 C 88 [.agg (A0.cells t),.d (.str name)] [] (Ret [] (.tup [.agg (A0.cells res.1),.d (.int .i64 res.2)])):=by
 unfold O7 at hh
 refine K0.intro hC Tryz.func88 rfl rfl rfl (s' rfl rfl (E0.n hC rfl (E0.nf hC rfl (e' rfl (S' (t' rfl (ci' rfl hh (fun hh=>?_) (fun hh=>?_))))))))
 ·cases hh
  exact p' 1 rfl (E0.s hC rfl (e' rfl (re' (rt' rfl rfl rfl))))
 exact sk' (S' (p' 2 rfl (qe' rfl trivial (estr.lenA _) (e' rfl (bk' (fw' (Ux hh) rfl rfl rfl))))))
def T3 (k:Int)(l:List A0)(v9:Int):Option Bool:=
 if (decide (v9 < ((l).length:Int)))=true then
  idx l v9>>=fun x1=>
  if (x1.Kind != k)=true then
   some false
  else
   T3 k l (IntKind.i64.wrap (v9+1))
 else
  some true
 partial_fixpoint
abbrev Sl (k:Int)(l:List A0)(v9:Int)(res:Bool):Prop:=LM C 18 0 Tryz.f155 [1,0,1,4] [(0,.d (.int .i64 k)),(7,.d (.sl (A0.rows l))),(8,.d (.int .i64 ((l).length:Int))),(9,.d (.int .i64 v9))] [] (Ret [] (.d (.bool res)))
theorem Au (k:Int)(l:List A0):(∀ v9 res,T3 k l v9=some res→Sl k l v9 res):=by
 refine T3.partial_correctness k l _ ?_
 ·intro g0 ih0 v9 res hh
  refine W0.unroll (t' rfl (S' (ci' rfl hh (fun hh=>?_) (fun hh=>?_))))
  ·obtain ⟨x1,hx1,hh⟩:=bs' hh
   refine sk' (S' (bk' (s' rfl rfl (i' rfl (U0 hx1) (A0.idx hx1) rfl (q' rfl (E0.nf hC rfl (E0.s hC rfl (n' (t' rfl (ci' rfl hh (fun hh=>?_) (fun hh=>?_)))))))))))
   ·cases hh
    exact t' rfl (re' (rt' rfl rfl rfl))
   exact sk' (T' rfl (lw' (ih0 _ _ hh) rfl rfl rfl))
  cases hh
  exact ex' (t' rfl (re' (rt' rfl rfl rfl)))
theorem Jv {k l v9 res}(hh:T3 k l v9=some res):Sl k l v9 res:=(Au k l) _ _ hh
def W5 (k:Int)(l:List A0):Option Bool:=
 T3 k l 0
theorem Zb {k l res}(hh:W5 k l=some res):K0 C 155 [.d (.int .i64 k),.d (.sl (A0.rows l))] [] (Ret [] (.d (.bool res))):=by
 unfold W5 at hh
 exact K0.intro hC Tryz.func155 rfl rfl rfl (t' rfl (S' (p' 1 rfl (qe' rfl trivial (A0.lenA _) (e' rfl (bk' (fw' (Jv hh) rfl rfl rfl)))))))
def Qh (t:A0):Option Int:=
 some (max t.High (IntKind.i64.wrap (0 - t.Low)))
theorem F12 {t res}(hh:Qh t=some res):K0 C 200 [.agg (A0.cells t)] [] (Ret [] (.d (.int .i64 res))):=by
 unfold Qh at hh
 cases hh
 exact K0.intro hC Tryz.func200 rfl rfl rfl (s' rfl rfl (E0.n hC rfl (e' rfl (t' rfl (re' (rt' rfl rfl rfl))))))
def L9 (low:Int)(high:Int):Option A0:=
 P2 low high>>=fun x7=>
 some x7
theorem Tl {low high res}(hh:L9 low high=some res):JM C 135 0 Tryz.f156 [1,0,1,4,1,3,1,3,1,3,1,3,1,2,1,1,1] [(6,.ref 2 0),(12,.d (.int .i64 low)),(13,.d (.int .i64 high))] [.dead,.dead,.row [.d (.int .i64 0),.d (.int .i64 0),.d (.int .i64 0),.d (.int .i64 0),.d (.str []),.full (estr.rows []),.full (A0.rows [])] 40] (Ret [] (.agg (A0.cells res))):=by
 unfold L9 at hh
 obtain ⟨x7,hx7,hh⟩:=bs' hh
 cases hh
 exact p' 2 rfl (c' (C3 hx7) rfl rfl (E0.s hC rfl (n' (re' (rt' rfl rfl rfl)))))
def M9 (b:A0)(low:Int):Option A0:=
 if (decide (b.High > 0))=true then
  L9 low (max (IntKind.i64.wrap (b.High - 1)) 0)
 else
  L9 low 0
theorem Ul {b low res}(hh:M9 b low=some res):JM C 135 0 Tryz.f156 [1,0,1,4,1,3,1,3,1,3,1,3,1,2,1,1] [(5,.ref 1 0),(6,.ref 2 0),(12,.d (.int .i64 low)),(13,.d (.int .i64 0))] [.dead,.row (A0.cells b) 40,.row [.d (.int .i64 0),.d (.int .i64 0),.d (.int .i64 0),.d (.int .i64 0),.d (.str []),.full (estr.rows []),.full (A0.rows [])] 40] (Ret [] (.agg (A0.cells res))):=by
 unfold M9 at hh
 refine S' (t' rfl (ci' rfl hh (fun hh=>?_) (fun hh=>?_)))
 ·refine T' rfl ?_
  refine AEx.wk ?_ (Tl hh)
  exact ⟨⟨⟨.rfl,rfl⟩,⟨.rfl,rfl⟩,⟨.rfl,rfl⟩,trivial⟩,⟨trivial,trivial,⟨rfl,.refl _,rfl⟩,trivial⟩,rfl⟩
 refine sk' ?_
 refine AEx.wk ?_ (Tl hh)
 exact ⟨⟨⟨.rfl,rfl⟩,⟨.rfl,rfl⟩,⟨.rfl,rfl⟩,trivial⟩,⟨trivial,trivial,⟨rfl,.refl _,rfl⟩,trivial⟩,rfl⟩
def B9 (op:Int)(a:A0)(b:A0):Option A0:=
 if (op == 8)=true then
  P2 (IntKind.i64.wrap (a.Low+b.Low)) (IntKind.i64.wrap (a.High+b.High))>>=fun x1=>
  some x1
 else
  if (op == 9)=true then
   P2 (IntKind.i64.wrap (a.Low - b.High)) (IntKind.i64.wrap (a.High - b.Low))>>=fun x2=>
   some x2
  else
   if (op == 10)=true then
    P2 (min (min (min (IntKind.i64.wrap (a.Low * b.Low)) (IntKind.i64.wrap (a.Low * b.High))) (IntKind.i64.wrap (a.High * b.Low))) (IntKind.i64.wrap (a.High * b.High))) (max (max (max (IntKind.i64.wrap (a.Low * b.Low)) (IntKind.i64.wrap (a.Low * b.High))) (IntKind.i64.wrap (a.High * b.Low))) (IntKind.i64.wrap (a.High * b.High)))>>=fun x3=>
    some x3
   else
    if (op == 11)=true then
     Qh a>>=fun x4=>
     if (bif (decide (a.Low≥0)) then (decide (b.Low≥0)) else false)=true then
      P2 0 x4>>=fun x5=>
      some x5
     else
      P2 (IntKind.i64.wrap (0 - x4)) x4>>=fun x6=>
      some x6
    else
     if (op == 12)=true then
      if (decide (b.Low < 0))=true then
       M9 b (min (IntKind.i64.wrap (b.Low+1)) 0)
      else
       M9 b 0
     else
      if (op == 21)=true then
       P2 (min a.Low b.Low) (min a.High b.High)>>=fun x8=>
       some x8
      else
       P2 (max a.Low b.Low) (max a.High b.High)>>=fun x9=>
       some x9
theorem J10 {op a b res}(hh:B9 op a b=some res):K0 C 156 [.d (.int .i64 op),.agg (A0.cells a),.agg (A0.cells b)] [] (Ret [] (.agg (A0.cells res))):=by
 unfold B9 at hh
 refine K0.intro hC Tryz.func156 rfl rfl rfl (s' rfl rfl (E0.n hC rfl (E0.n hC rfl (E0.nf hC rfl (n' (S' (t' rfl (bk' (t' rfl (ci' rfl hh (fun hh=>?_) (fun hh=>?_)))))))))))
 ·obtain ⟨x1,hx1,hh⟩:=bs' hh
  cases hh
  exact p' 10 rfl (c' (C3 hx1) rfl rfl (E0.s hC rfl (n' (re' (rt' rfl rfl rfl)))))
 refine t' rfl (ci' rfl hh (fun hh=>?_) (fun hh=>?_))
 ·obtain ⟨x2,hx2,hh⟩:=bs' hh
  cases hh
  exact p' 10 rfl (c' (C3 hx2) rfl rfl (E0.s hC rfl (n' (re' (rt' rfl rfl rfl)))))
 refine t' rfl (ci' rfl hh (fun hh=>?_) (fun hh=>?_))
 ·obtain ⟨x3,hx3,hh⟩:=bs' hh
  cases hh
  exact S' (AEx.draw hC 24 rfl rfl rfl (E' rfl (n' (p' 10 rfl (c' (C3 hx3) rfl rfl (E0.s hC rfl (n' (re' (rt' rfl rfl rfl)))))))))
 refine t' rfl (ci' rfl hh (fun hh=>?_) (fun hh=>?_))
 ·obtain ⟨x4,hx4,hh⟩:=bs' hh
  refine p' 1 rfl (c' (F12 hx4) rfl rfl (e' rfl (S' (sg' 8 rfl (G' 5 rfl (a1' rfl (a1' rfl (pa' rfl (an' (n' (ci' rfl hh (fun hh=>?_) (fun hh=>?_))))))))))))
  ·obtain ⟨x5,hx5,hh⟩:=bs' hh
   cases hh
   exact p' 1 rfl (c' (C3 hx5) rfl rfl (E0.s hC rfl (n' (re' (rt' rfl rfl rfl)))))
  obtain ⟨x6,hx6,hh⟩:=bs' hh
  cases hh
  exact sk' (p' 3 rfl (c' (C3 hx6) rfl rfl (E0.s hC rfl (n' (re' (rt' rfl rfl rfl))))))
 refine t' rfl (ci' rfl hh (fun hh=>?_) (fun hh=>?_))
 ·refine t' rfl (S' (t' rfl (ci' rfl hh (fun hh=>?_) (fun hh=>?_))))
  ·refine T' rfl ?_
   refine AEx.wk ?_ (Ul hh)
   exact ⟨⟨⟨.rfl,rfl⟩,⟨.rfl,rfl⟩,⟨.rfl,rfl⟩,⟨.rfl,rfl⟩,trivial⟩,⟨trivial,⟨rfl,.refl _,rfl⟩,⟨rfl,.refl _,rfl⟩,trivial⟩,rfl⟩
  refine sk' ?_
  refine AEx.wk ?_ (Ul hh)
  exact ⟨⟨⟨.rfl,rfl⟩,⟨.rfl,rfl⟩,⟨.rfl,rfl⟩,⟨.rfl,rfl⟩,trivial⟩,⟨trivial,⟨rfl,.refl _,rfl⟩,⟨rfl,.refl _,rfl⟩,trivial⟩,rfl⟩
 refine t' rfl (ci' rfl hh (fun hh=>?_) (fun hh=>?_))
 ·obtain ⟨x8,hx8,hh⟩:=bs' hh
  cases hh
  exact p' 10 rfl (c' (C3 hx8) rfl rfl (E0.s hC rfl (n' (re' (rt' rfl rfl rfl)))))
 obtain ⟨x9,hx9,hh⟩:=bs' hh
 cases hh
 exact sk' (p' 10 rfl (c' (C3 hx9) rfl rfl (E0.s hC rfl (n' (re' (rt' rfl rfl rfl))))))
def F7 (op:Int)(kids:List A0)(x1:Bool)(v60:Bool):Option (A0×Int):=
 if v60=true then
  if x1=true then
   some ((A0.mk 0 0 0 0 [] [] []),0)
  else
   some ((A0.mk 0 0 0 0 [] [] []),9)
 else
  if (op == 23)=true then
   slc kids 1 ((kids).length:Int)>>=fun x7=>
   idx kids 0>>=fun x8=>
   if (x8.Kind != 0)=true then
    some ((A0.mk 0 0 0 0 [] [] []),9)
   else
    W5 1 x7>>=fun x9=>
    if x9=true then
     idx x7 0>>=fun x10=>
     idx x7 1>>=fun x11=>
     idx x7 0>>=fun x12=>
     idx x7 1>>=fun x13=>
     P2 (min x10.Low x11.Low) (max x12.High x13.High)>>=fun x14=>
     some (x14,0)
    else
     W5 0 x7>>=fun x15=>
     if x15=true then
      some ((A0.mk 0 0 0 0 [] [] []),0)
     else
      some ((A0.mk 0 0 0 0 [] [] []),9)
  else
   if x1=true then
    idx kids 0>>=fun x16=>
    idx kids 1>>=fun x17=>
    B9 op x16 x17>>=fun x18=>
    A9 x18>>=fun x19=>
    some (x19.1,x19.2)
   else
    some ((A0.mk 0 0 0 0 [] [] []),9)
theorem Qb {op kids x1 v60 res}(hh:F7 op kids x1 v60=some res):JM C 103 0 Tryz.f89 [1,1,1,0,1,4,1,3,1,3,1,3,1] [(0,.d (.int .i64 op)),(1,.d (.sl (A0.rows kids))),(4,.ref 0 0),(6,.clo 155 []),(7,.d (.bool x1)),(16,.d (.int .i64 op)),(60,.d (.bool v60))] [.row [.d (.int .i64 0),.d (.int .i64 0),.d (.int .i64 0),.d (.int .i64 0),.d (.str []),.full (estr.rows []),.full (A0.rows [])] 40] (Ret [] (.tup [.agg (A0.cells res.1),.d (.int .i64 res.2)])):=by
 unfold F7 at hh
 refine ci' rfl hh (fun hh=>?_) (fun hh=>?_)
 ·refine t' rfl (ci' rfl hh (fun hh=>?_) (fun hh=>?_))
  ·cases hh
   exact p' 1 rfl (E0.s hC rfl (e' rfl (re' (rt' rfl rfl rfl))))
  cases hh
  exact sk' (p' 1 rfl (E0.s hC rfl (e' rfl (re' (rt' rfl rfl rfl)))))
 refine t' rfl (ci' rfl hh (fun hh=>?_) (fun hh=>?_))
 ·obtain ⟨x7,hx7,hh⟩:=bs' hh
  obtain ⟨x8,hx8,hh⟩:=bs' hh
  refine p' 1 rfl (E0.dx hC rfl (A0.part (by rw [A0.len]; exact hx7)) (A0.sz _) (e' rfl (S' (p' 1 rfl (i' rfl (U0 hx8) (A0.idx hx8) rfl (e' rfl (ci' rfl hh (fun hh=>?_) (fun hh=>?_))))))))
  ·cases hh
   exact ex' (p' 1 rfl (E0.s hC rfl (e' rfl (re' (rt' rfl rfl rfl)))))
  obtain ⟨x9,hx9,hh⟩:=bs' hh
  refine sk' (S' (p' 2 rfl (c' (Zb hx9) rfl rfl (n' (ci' rfl hh (fun hh=>?_) (fun hh=>?_))))))
  ·obtain ⟨x10,hx10,hh⟩:=bs' hh
   obtain ⟨x11,hx11,hh⟩:=bs' hh
   obtain ⟨x12,hx12,hh⟩:=bs' hh
   obtain ⟨x13,hx13,hh⟩:=bs' hh
   obtain ⟨x14,hx14,hh⟩:=bs' hh
   cases hh
   refine S' (AEx.draw hC 19 rfl rfl rfl (Q' rfl (AQ.i hC rfl (U0 hx10) (A0.idx hx10) rfl (O' 3 rfl (AQ.i hC rfl (U0 hx11) (A0.idx hx11) rfl (O' 4 rfl (AQ.i hC rfl (U0 hx12) (A0.idx hx12) rfl (O' 3 rfl (AQ.i hC rfl (U0 hx13) (A0.idx hx13) rfl (O' 3 rfl (Qc' (C3 hx14) rfl rfl (Qn' (E0.s hC rfl ?_)))))))))))))
   exact e' rfl (re' (rt' rfl rfl rfl))
  obtain ⟨x15,hx15,hh⟩:=bs' hh
  refine sk' (p' 2 rfl (c' (Zb hx15) rfl rfl (n' (ci' rfl hh (fun hh=>?_) (fun hh=>?_)))))
  ·cases hh
   exact p' 1 rfl (E0.s hC rfl (e' rfl (re' (rt' rfl rfl rfl))))
  cases hh
  exact sk' (p' 1 rfl (E0.s hC rfl (e' rfl (re' (rt' rfl rfl rfl)))))
 refine t' rfl (ci' rfl hh (fun hh=>?_) (fun hh=>?_))
 ·obtain ⟨x16,hx16,hh⟩:=bs' hh
  obtain ⟨x17,hx17,hh⟩:=bs' hh
  obtain ⟨x18,hx18,hh⟩:=bs' hh
  obtain ⟨x19,hx19,hh⟩:=bs' hh
  cases hh
  exact S' (AEx.draw hC 11 rfl rfl rfl (O' 2 rfl (AQ.i hC rfl (U0 hx16) (A0.idx hx16) rfl (O' 2 rfl (AQ.i hC rfl (U0 hx17) (A0.idx hx17) rfl (Q' rfl (Qc' (J10 hx18) rfl rfl (Qc' (Zo hx19) rfl rfl (E' rfl (E0.s hC rfl (e' rfl (re' (rt' rfl rfl rfl)))))))))))))
 cases hh
 exact sk' (p' 1 rfl (E0.s hC rfl (e' rfl (re' (rt' rfl rfl rfl)))))
def Ee (op:Int)(kids:List A0)(x1:Bool)(x2:Bool)(v52:Bool):Option (A0×Int):=
 if v52=true then
  if (bif x1 then true else x2)=true then
   some ((A0.mk 0 0 0 0 [] [] []),0)
  else
   some ((A0.mk 0 0 0 0 [] [] []),9)
 else
  if (op == 15)=true then
   F7 op kids x1 (op == 15)
  else
   if (op == 16)=true then
    F7 op kids x1 (op == 16)
   else
    if (op == 17)=true then
     F7 op kids x1 (op == 17)
    else
     F7 op kids x1 (op == 18)
theorem Sm {op kids x1 x2 v52 res}(hh:Ee op kids x1 x2 v52=some res):JM C 103 0 Tryz.f89 [1,1,1,0,1,4,1,3,1,3,1] [(0,.d (.int .i64 op)),(1,.d (.sl (A0.rows kids))),(4,.ref 0 0),(6,.clo 155 []),(7,.d (.bool x1)),(8,.d (.bool x2)),(16,.d (.int .i64 op)),(52,.d (.bool v52))] [.row [.d (.int .i64 0),.d (.int .i64 0),.d (.int .i64 0),.d (.int .i64 0),.d (.str []),.full (estr.rows []),.full (A0.rows [])] 40] (Ret [] (.tup [.agg (A0.cells res.1),.d (.int .i64 res.2)])):=by
 unfold Ee at hh
 refine ci' rfl hh (fun hh=>?_) (fun hh=>?_)
 ·refine sg' 4 rfl (G' 3 rfl (po' rfl (an' (n' (ci' rfl hh (fun hh=>?_) (fun hh=>?_))))))
  ·cases hh
   exact p' 1 rfl (E0.s hC rfl (e' rfl (re' (rt' rfl rfl rfl))))
  cases hh
  exact sk' (p' 1 rfl (E0.s hC rfl (e' rfl (re' (rt' rfl rfl rfl)))))
 refine S' (t' rfl (ci' rfl hh (fun hh=>?_) (fun hh=>?_)))
 ·exact sk' (ew' (Qb hh) rfl rfl rfl)
 refine t' rfl (ci' rfl hh (fun hh=>?_) (fun hh=>?_))
 ·exact sk' (ew' (Qb hh) rfl rfl rfl)
 refine t' rfl (ci' rfl hh (fun hh=>?_) (fun hh=>?_))
 ·exact sk' (ew' (Qb hh) rfl rfl rfl)
 exact T' rfl (ew' (Qb hh) rfl rfl rfl)
def G7 (op:Int)(kids:List A0)(x1:Bool)(x2:Bool)(v46:Bool):Option (A0×Int):=
 if v46=true then
  if x2=true then
   some ((A0.mk 0 0 0 0 [] [] []),0)
  else
   some ((A0.mk 0 0 0 0 [] [] []),9)
 else
  if (op == 13)=true then
   Ee op kids x1 x2 (op == 13)
  else
   Ee op kids x1 x2 (op == 14)
theorem Zf {op kids x1 x2 v46 res}(hh:G7 op kids x1 x2 v46=some res):JM C 103 0 Tryz.f89 [1,1,1,0,1,4,1,3,1] [(0,.d (.int .i64 op)),(1,.d (.sl (A0.rows kids))),(4,.ref 0 0),(6,.clo 155 []),(7,.d (.bool x1)),(8,.d (.bool x2)),(16,.d (.int .i64 op)),(46,.d (.bool v46))] [.row [.d (.int .i64 0),.d (.int .i64 0),.d (.int .i64 0),.d (.int .i64 0),.d (.str []),.full (estr.rows []),.full (A0.rows [])] 40] (Ret [] (.tup [.agg (A0.cells res.1),.d (.int .i64 res.2)])):=by
 unfold G7 at hh
 refine ci' rfl hh (fun hh=>?_) (fun hh=>?_)
 ·refine t' rfl (ci' rfl hh (fun hh=>?_) (fun hh=>?_))
  ·cases hh
   exact p' 1 rfl (E0.s hC rfl (e' rfl (re' (rt' rfl rfl rfl))))
  cases hh
  exact sk' (p' 1 rfl (E0.s hC rfl (e' rfl (re' (rt' rfl rfl rfl)))))
 refine S' (t' rfl (ci' rfl hh (fun hh=>?_) (fun hh=>?_)))
 ·exact sk' (ew' (Sm hh) rfl rfl rfl)
 exact T' rfl (ew' (Sm hh) rfl rfl rfl)
def Z9 (op:Int)(kids:List A0):Option (A0×Int):=
 W5 1 kids>>=fun x1=>
 W5 0 kids>>=fun x2=>
 if (op == 6)=true then
  if x1=true then
   idx kids 0>>=fun x3=>
   idx kids 0>>=fun x4=>
   P2 (IntKind.i64.wrap (0 - x3.High)) (IntKind.i64.wrap (0 - x4.Low))>>=fun x5=>
   A9 x5>>=fun x6=>
   some (x6.1,x6.2)
  else
   some ((A0.mk 0 0 0 0 [] [] []),9)
 else
  if (op == 7)=true then
   G7 op kids x1 x2 (op == 7)
  else
   if (op == 19)=true then
    G7 op kids x1 x2 (op == 19)
   else
    G7 op kids x1 x2 (op == 20)
theorem G12 {op kids res}(hh:Z9 op kids=some res):K0 C 89 [.d (.int .i64 op),.d (.sl (A0.rows kids))] [] (Ret [] (.tup [.agg (A0.cells res.1),.d (.int .i64 res.2)])):=by
 unfold Z9 at hh
 obtain ⟨x1,hx1,hh⟩:=bs' hh
 obtain ⟨x2,hx2,hh⟩:=bs' hh
 refine K0.intro hC Tryz.func89 rfl rfl rfl (s' rfl rfl (E0.nf hC rfl (e' rfl (t' rfl (p' 2 rfl (c' (Zb hx1) rfl rfl (o' 2 rfl (c' (Zb hx2) rfl rfl (e' rfl (S' (t' rfl (bk' (t' rfl (ci' rfl hh (fun hh=>?_) (fun hh=>?_)))))))))))))))
 ·refine t' rfl (ci' rfl hh (fun hh=>?_) (fun hh=>?_))
  ·obtain ⟨x3,hx3,hh⟩:=bs' hh
   obtain ⟨x4,hx4,hh⟩:=bs' hh
   obtain ⟨x5,hx5,hh⟩:=bs' hh
   obtain ⟨x6,hx6,hh⟩:=bs' hh
   cases hh
   exact S' (AEx.draw hC 14 rfl rfl rfl (Q' rfl (AQ.i hC rfl (U0 hx3) (A0.idx hx3) rfl (O' 4 rfl (AQ.i hC rfl (U0 hx4) (A0.idx hx4) rfl (O' 3 rfl (Qc' (C3 hx5) rfl rfl (Qc' (Zo hx6) rfl rfl (E' rfl (E0.s hC rfl (e' rfl (re' (rt' rfl rfl rfl)))))))))))))
  cases hh
  exact sk' (p' 1 rfl (E0.s hC rfl (e' rfl (re' (rt' rfl rfl rfl)))))
 refine S' (t' rfl (ci' rfl hh (fun hh=>?_) (fun hh=>?_)))
 ·exact sk' (ew' (Zf hh) rfl rfl rfl)
 refine t' rfl (ci' rfl hh (fun hh=>?_) (fun hh=>?_))
 ·exact sk' (ew' (Zf hh) rfl rfl rfl)
 exact T' rfl (ew' (Zf hh) rfl rfl rfl)
def O9 (s:Option L0)(e:D0)(kids1:List A0)(v51:Bool):Option (A0×Int):=
 if v51=true then
  some ((A0.mk 0 0 0 0 [] [] []),0)
 else
  if (e.Op == 3)=true then
   L5 s e.Name>>=fun x4=>
   if (!x4.2)=true then
    some ((A0.mk 0 0 0 0 [] [] []),7)
   else
    some (x4.1.typ,0)
  else
   if (e.Op == 4)=true then
    idx kids1 0>>=fun x5=>
    O7 x5 e.Name>>=fun x6=>
    some (x6.1,x6.2)
   else
    if (e.Op == 5)=true then
     idx kids1 0>>=fun x7=>
     (if (!(x7.Kind != 2))=true then idx kids1 1 else some default)>>=fun x8=>
     if (bif (x7.Kind != 2) then true else (x8.Kind != 1))=true then
      some ((A0.mk 0 0 0 0 [] [] []),9)
     else
      idx kids1 0>>=fun x9=>
      idx x9.Of 0>>=fun x10=>
      some (x10,0)
    else
     Z9 e.Op kids1>>=fun x11=>
     some (x11.1,x11.2)
theorem Vr {s e kids1 v51 res}(hh:O9 s e kids1 v51=some res):JM C 106 0 Tryz.f42 [1,1,1,0,1,4,1,3,1] [(0,.d (.bxo (L0.opt s))),(3,.ref 0 0),(4,.ref 1 0),(6,.osl 2 (A0.rows kids1)),(40,.d (.int .i64 e.Op)),(51,.d (.bool v51))] [.row (D0.cells e) 34,.row [.d (.int .i64 0),.d (.int .i64 0),.d (.int .i64 0),.d (.int .i64 0),.d (.str []),.full (estr.rows []),.full (A0.rows [])] 40,.tok 40 7] (Ret [] (.tup [.agg (A0.cells res.1),.d (.int .i64 res.2)])):=by
 unfold O9 at hh
 refine ci' rfl hh (fun hh=>?_) (fun hh=>?_)
 ·cases hh
  exact p' 1 rfl (E0.s hC rfl (e' rfl (re' (rt' rfl rfl rfl))))
 refine t' rfl (ci' rfl hh (fun hh=>?_) (fun hh=>?_))
 ·obtain ⟨x4,hx4,hh⟩:=bs' hh
  refine p' 3 rfl (c' (Yf hx4) rfl rfl (o' 3 rfl (E0.nf hC rfl (E0.s hC rfl (e' rfl (S' (t' rfl (ci' rfl hh (fun hh=>?_) (fun hh=>?_)))))))))
  ·cases hh
   exact p' 1 rfl (E0.s hC rfl (e' rfl (re' (rt' rfl rfl rfl))))
  cases hh
  exact sk' (p' 2 rfl (E0.s hC rfl (e' rfl (re' (rt' rfl rfl rfl)))))
 refine t' rfl (ci' rfl hh (fun hh=>?_) (fun hh=>?_))
 ·obtain ⟨x5,hx5,hh⟩:=bs' hh
  obtain ⟨x6,hx6,hh⟩:=bs' hh
  cases hh
  exact S' (AEx.draw hC 8 rfl rfl rfl (Q' rfl (AQ.i hC rfl (U0 hx5) (A0.idx hx5) rfl (O' 3 rfl (Qc' (E12 hx6) rfl rfl (E' rfl (E0.s hC rfl (e' rfl (re' (rt' rfl rfl rfl))))))))))
 refine t' rfl (ci' rfl hh (fun hh=>?_) (fun hh=>?_))
 ·obtain ⟨x7,hx7,hh⟩:=bs' hh
  obtain ⟨x8,hx8,hh⟩:=bs' hh
  refine S' (sg' 12 rfl (a0' rfl (AG.i hC rfl rfl (fun _=>trivial) (fun hw=>⟨U0 hx7,A0.idx hx7,rfl⟩) (G' 5 rfl (AG.i hC rfl rfl (fun hg=>⟨hg,trivial⟩) (fun hw=>⟨U0 (G1 hw hx8),A0.idx (G1 hw hx8),rfl⟩) (a1' rfl (a1' rfl (a1' rfl (po' rfl (an' (n' (ci' rfl hh (fun hh=>?_) (fun hh=>?_)))))))))))))
  ·cases hh
   exact p' 1 rfl (E0.s hC rfl (e' rfl (re' (rt' rfl rfl rfl))))
  obtain ⟨x9,hx9,hh⟩:=bs' hh
  obtain ⟨x10,hx10,hh⟩:=bs' hh
  cases hh
  exact sk' (p' 1 rfl (i' rfl (U0 hx9) (A0.idx hx9) rfl (o' 2 rfl (i' rfl (U0 hx10) (A0.idx hx10) rfl (q' rfl (E0.s hC rfl (e' rfl (re' (rt' rfl rfl rfl)))))))))
 obtain ⟨x11,hx11,hh⟩:=bs' hh
 cases hh
 exact sk' (p' 3 rfl (E0.cl rfl (G12 hx11) ⟨.rfl,.osl,trivial⟩ rfl (o' 2 rfl (E0.s hC rfl (e' rfl (re' (rt' rfl rfl rfl)))))))
mutual
def O3 (s:Option L0)(e:D0):Option (A0×Int):=
 if (decide (0≤((e.Kids).length:Int)∧((e.Kids).length:Int).toNat * 97≤140737488355328))=true then
  Nc s e [] 0
 else none
 partial_fixpoint
def Nc (s:Option L0)(e:D0)(kids:List A0)(v20:Int):Option (A0×Int):=
 if (decide (v20 < ((e.Kids).length:Int)))=true then
  idx e.Kids v20>>=fun x1=>
  O3 s x1>>=fun x12=>
  if (x12.2 != 0)=true then
   some ((A0.mk 0 0 0 0 [] [] []),x12.2)
  else
   if (decide ((kids.length+1) * 97≤140737488355328))=true then
    Nc s e (kids++[x12.1]) (IntKind.i64.wrap (v20+1))
   else none
 else
  if (e.Op == 0)=true then
   P2 e.NV e.NV>>=fun x2=>
   A9 x2>>=fun x3=>
   some (x3.1,x3.2)
  else
   if (e.Op == 1)=true then
    O9 s e kids (e.Op == 1)
   else
    O9 s e kids (e.Op == 2)
 partial_fixpoint
end
abbrev Wy (s:Option L0)(e:D0)(res:A0×Int):Prop:=K0 C 42 [.d (.bxo (L0.opt s)),.agg (D0.cells e)] [] (Ret [] (.tup [.agg (A0.cells res.1),.d (.int .i64 res.2)]))
abbrev C18 (s:Option L0)(e:D0)(kids:List A0)(v20:Int)(res:A0×Int):Prop:=LM C 106 0 Tryz.f42 [1,1,0,1,4] [(0,.d (.bxo (L0.opt s))),(3,.ref 0 0),(4,.ref 1 0),(6,.osl 2 (A0.rows kids)),(18,.d (.sl (D0.rows e.Kids))),(19,.d (.int .i64 ((e.Kids).length:Int))),(20,.d (.int .i64 v20))] [.row (D0.cells e) 34,.row [.d (.int .i64 0),.d (.int .i64 0),.d (.int .i64 0),.d (.int .i64 0),.d (.str []),.full (estr.rows []),.full (A0.rows [])] 40,.tok 40 7] (Ret [] (.tup [.agg (A0.cells res.1),.d (.int .i64 res.2)]))
theorem J1a (s:Option L0):(∀ e res,O3 s e=some res→Wy s e res)∧(∀ e kids v20 res,Nc s e kids v20=some res→C18 s e kids v20 res):=by
 refine O3.mutual_partial_correctness s _ _ ?_ ?_
 ·intro g1 ih1 e res hh
  obtain ⟨c16,hh⟩:=I1 hh
  exact K0.intro hC Tryz.func42 rfl rfl rfl (s' rfl rfl (E0.n hC rfl (E0.nf hC rfl (e' rfl (p' 2 rfl (qe' rfl trivial (D0.lenA _) (E0.mz hC rfl c16 rfl (e' rfl (S' (p' 2 rfl (qe' rfl trivial (D0.lenA _) (e' rfl (bk' (fw' (ih1 _ _ _ _ hh) rfl rfl rfl))))))))))))))
 ·intro g0 g1 ih0 ih1 e kids v20 res hh
  refine W0.unroll (t' rfl (S' (ci' rfl hh (fun hh=>?_) (fun hh=>?_))))
  ·obtain ⟨x1,hx1,hh⟩:=bs' hh
   obtain ⟨x12,hx12,hh⟩:=bs' hh
   refine sk' (S' (bk' (s' rfl rfl (i' rfl (U0 hx1) (D0.idx hx1) rfl (q' rfl (E0.nf hC rfl (E0.s hC rfl (n' (p' 2 rfl (c' (ih0 _ _ hx12) rfl rfl (o' 3 rfl (E0.nf hC rfl (E0.s hC rfl ?_)))))))))))))
   refine e' rfl (S' (t' rfl (ci' rfl hh (fun hh=>?_) (fun hh=>?_))))
   ·cases hh
    exact p' 2 rfl (E0.s hC rfl (e' rfl (re' (rt' rfl rfl rfl))))
   obtain ⟨c17,hh⟩:=I1 hh
   exact sk' (P' 2 rfl (E0.be hC rfl (A0.rows_map [x12.1]).symm (E0.ap hC rfl (rs:=A0.rows (kids++[x12.1])) (A0.app kids [x12.1]) (A0.sz kids) (A0.sz [x12.1]) (E4 (A0.len kids) (A0.len [x12.1]) c17) (e' rfl (T' rfl (lw' (ih1 _ _ _ _ hh) rfl rfl rfl))))))
  refine ex' (S' (t' rfl (bk' (t' rfl (ci' rfl hh (fun hh=>?_) (fun hh=>?_))))))
  ·obtain ⟨x2,hx2,hh⟩:=bs' hh
   obtain ⟨x3,hx3,hh⟩:=bs' hh
   cases hh
   exact p' 4 rfl (c' (C3 hx2) rfl rfl (c' (Zo hx3) rfl rfl (o' 2 rfl (E0.s hC rfl (e' rfl (re' (rt' rfl rfl rfl)))))))
  refine S' (t' rfl (ci' rfl hh (fun hh=>?_) (fun hh=>?_)))
  ·exact sk' (ew' (Vr hh) rfl rfl rfl)
  exact T' rfl (ew' (Vr hh) rfl rfl rfl)
theorem F1 {s e res}(hh:O3 s e=some res):Wy s e res:=(J1a s).1 _ _ hh
def Nj (e:D0):Option Bool:=
 some (bif (bif (e.Op == 3) then true else (e.Op == 4)) then true else (e.Op == 5))
theorem H15 {e res}(hh:Nj e=some res):K0 C 112 [.agg (D0.cells e)] [] (Ret [] (.d (.bool res))):=by
 unfold Nj at hh
 cases hh
 refine K0.intro hC Tryz.func112 rfl rfl rfl (s' rfl rfl (E0.n hC rfl (e' rfl (sg' 14 rfl (G' 5 rfl (a1' rfl (a1' rfl (po' rfl (G' 2 rfl (a1' rfl (a1' rfl (po' rfl (a0' rfl ?_)))))))))))))
 exact an' (n' (re' (rt' rfl rfl rfl)))
mutual
def Hg (a:A0)(b:A0):Option Bool:=
 (if (bif (bif (bif (bif (a.Kind == b.Kind) then (a.Low == b.Low) else false) then (a.High == b.High) else false) then (a.Size == b.Size) else false) then (a.Name == b.Name) else false)=true then H3 a.Names b.Names else some default)>>=fun x1=>
 (if (bif (bif (bif (bif (bif (a.Kind == b.Kind) then (a.Low == b.Low) else false) then (a.High == b.High) else false) then (a.Size == b.Size) else false) then (a.Name == b.Name) else false) then x1 else false)=true then O2 a.Of b.Of else some default)>>=fun x2=>
 some (bif (bif (bif (bif (bif (bif (a.Kind == b.Kind) then (a.Low == b.Low) else false) then (a.High == b.High) else false) then (a.Size == b.Size) else false) then (a.Name == b.Name) else false) then x1 else false) then x2 else false)
 partial_fixpoint
def O2 (s1:List A0)(s2:List A0):Option Bool:=
 if (((s1).length:Int) != ((s2).length:Int))=true then
  some false
 else
  J1 s1 s2 0
 partial_fixpoint
def J1 (s1:List A0)(s2:List A0)(v17:Int):Option Bool:=
 if (decide (v17 < ((s1).length:Int)))=true then
  idx s1 v17>>=fun x1=>
  idx s2 v17>>=fun x2=>
  Hg x1 x2>>=fun x3=>
  if (!x3)=true then
   some false
  else
   J1 s1 s2 (IntKind.i64.wrap (v17+1))
 else
  some true
 partial_fixpoint
end
abbrev H17 (a:A0)(b:A0)(res:Bool):Prop:=K0 C 181 [.agg (A0.cells a),.agg (A0.cells b)] [] (Ret [] (.d (.bool res)))
abbrev Kd (s1:List A0)(s2:List A0)(res:Bool):Prop:=K0 C 208 [.d (.sl (A0.rows s1)),.d (.sl (A0.rows s2)),.clo 181 []] [] (Ret [] (.d (.bool res)))
abbrev Ac (s1:List A0)(s2:List A0)(v17:Int)(res:Bool):Prop:=LM C 32 0 Tryz.f208 [1,1,0,1,4] [(1,.d (.sl (A0.rows s2))),(2,.clo 181 []),(15,.d (.sl (A0.rows s1))),(16,.d (.int .i64 ((s1).length:Int))),(17,.d (.int .i64 v17))] [] (Ret [] (.d (.bool res)))
theorem Z1i:(∀ a b res,Hg a b=some res→H17 a b res)∧(∀ s1 s2 res,O2 s1 s2=some res→Kd s1 s2 res)∧(∀ s1 s2 v17 res,J1 s1 s2 v17=some res→Ac s1 s2 v17 res):=by
 refine Hg.mutual_partial_correctness _ _ _ ?_ ?_ ?_
 ·intro g1 ih1 a b res hh
  obtain ⟨x1,hx1,hh⟩:=bs' hh
  obtain ⟨x2,hx2,hh⟩:=bs' hh
  cases hh
  refine K0.intro hC Tryz.func181 rfl rfl rfl (s' rfl rfl (E0.n hC rfl (E0.n hC rfl (e' rfl (sg' 48 rfl (G' 7 rfl (a1' rfl (a0' rfl (a1' rfl (a2' rfl (pa' rfl (G' 2 rfl (a1' rfl ?_)))))))))))))
  refine a0' rfl (a1' rfl (a2' rfl (pa' rfl (G' 2 rfl (a1' rfl (a0' rfl (a1' rfl (a2' rfl (pa' rfl (G' 2 rfl (a1' rfl (a0' rfl (a1' rfl ?_)))))))))))))
  refine a2' rfl (pa' rfl (G' 2 rfl (a1' rfl (a0' rfl (a1' rfl (AG.c rfl rfl (fun hg=>⟨hg,hg,trivial⟩) (fun hw=>Kj (G1 hw hx1)) (pa' rfl (G' 2 rfl (a1' rfl (a0' rfl (a1' rfl (AG.c rfl rfl (fun hg=>⟨hg,hg,trivial⟩) (fun hw=>ih1 _ _ _ (G1 hw hx2)) (pa' rfl ?_)))))))))))))
  exact a0' rfl (an' (n' (re' (rt' rfl rfl rfl))))
 ·intro g2 ih2 s1 s2 res hh
  refine K0.intro hC Tryz.func208 rfl rfl rfl (t' rfl (S' (p' 1 rfl (qe' rfl trivial (A0.lenA _) (q' rfl (qe' rfl trivial (A0.lenA _) (e' rfl (ci' rfl hh (fun hh=>?_) (fun hh=>?_)))))))))
  ·cases hh
   exact t' rfl (re' (rt' rfl rfl rfl))
  exact sk' (S' (p' 1 rfl (qe' rfl trivial (A0.lenA _) (e' rfl (bk' (fw' (ih2 _ _ _ _ hh) rfl rfl rfl))))))
 ·intro g0 g2 ih0 ih2 s1 s2 v17 res hh
  refine W0.unroll (t' rfl (S' (ci' rfl hh (fun hh=>?_) (fun hh=>?_))))
  ·obtain ⟨x1,hx1,hh⟩:=bs' hh
   obtain ⟨x2,hx2,hh⟩:=bs' hh
   obtain ⟨x3,hx3,hh⟩:=bs' hh
   refine sk' (S' (bk' (p' 1 rfl (i' rfl (U0 hx1) (A0.idx hx1) rfl (q' rfl (E0.nf hC rfl (q' rfl (E0.s hC rfl (n' (p' 2 rfl (i' rfl (U0 hx2) (A0.idx hx2) rfl (q' rfl (E0.nf hC rfl ?_)))))))))))))
   refine E0.s hC rfl (n' (p' 3 rfl (c' (ih0 _ _ _ hx3) rfl rfl (e' rfl (ci' rfl hh (fun hh=>?_) (fun hh=>?_))))))
   ·cases hh
    exact t' rfl (re' (rt' rfl rfl rfl))
   exact sk' (T' rfl (lw' (ih2 _ _ _ _ hh) rfl rfl rfl))
  cases hh
  exact ex' (t' rfl (re' (rt' rfl rfl rfl)))
theorem E1l {a b res}(hh:Hg a b=some res):H17 a b res:=(Z1i).1 _ _ _ hh
def S6 (fromV:A0)(to:A0)(place:Bool):Option Bool:=
 R6 fromV>>=fun x1=>
 (if (!x1)=true then R6 to else some default)>>=fun x2=>
 if (bif x1 then true else x2)=true then
  some (fromV.Kind == to.Kind)
 else
  (if place=true then Hg fromV to else some default)>>=fun x3=>
  some (bif place then x3 else false)
theorem Zh {fromV to place res}(hh:S6 fromV to place=some res):K0 C 111 [.agg (A0.cells fromV),.agg (A0.cells to),.d (.bool place)] [] (Ret [] (.d (.bool res))):=by
 unfold S6 at hh
 obtain ⟨x1,hx1,hh⟩:=bs' hh
 obtain ⟨x2,hx2,hh⟩:=bs' hh
 refine K0.intro hC Tryz.func111 rfl rfl rfl (s' rfl rfl (E0.n hC rfl (E0.n hC rfl (e' rfl (S' (sg' 6 rfl (a0' rfl (AG.c rfl rfl (fun _=>trivial) (fun _=>Ph hx1) (G' 2 rfl (AG.c rfl rfl (fun hg=>⟨hg,trivial⟩) (fun hw=>Ph (G1 hw hx2)) (po' rfl (an' (n' (ci' rfl hh (fun hh=>?_) (fun hh=>?_)))))))))))))))
 ·cases hh
  exact t' rfl (re' (rt' rfl rfl rfl))
 obtain ⟨x3,hx3,hh⟩:=bs' hh
 cases hh
 exact sk' (sg' 7 rfl (G' 4 rfl (AG.c rfl rfl (fun hg=>⟨hg,hg,trivial⟩) (fun hw=>E1l (G1 hw hx3)) (pa' rfl (a0' rfl (an' (n' (re' (rt' rfl rfl rfl)))))))))
def Q9 (s:Option L0)(e:D0)(to:A0):Option Int:=
 O3 s e>>=fun x1=>
 (if (x1.2 == 0)=true then Nj e else some default)>>=fun x2=>
 (if (x1.2 == 0)=true then S6 x1.1 to x2 else some default)>>=fun x3=>
 if (bif (x1.2 == 0) then (!x3) else false)=true then
  some 9
 else
  some x1.2
theorem Ni {s e to res}(hh:Q9 s e to=some res):K0 C 57 [.d (.bxo (L0.opt s)),.agg (D0.cells e),.agg (A0.cells to)] [] (Ret [] (.d (.int .i64 res))):=by
 unfold Q9 at hh
 obtain ⟨x1,hx1,hh⟩:=bs' hh
 obtain ⟨x2,hx2,hh⟩:=bs' hh
 obtain ⟨x3,hx3,hh⟩:=bs' hh
 refine K0.intro hC Tryz.func57 rfl rfl rfl (s' rfl rfl (E0.n hC rfl (E0.n hC rfl (e' rfl (p' 2 rfl (c' (F1 hx1) rfl rfl (o' 3 rfl (E0.nf hC rfl (E0.s hC rfl (e' rfl (S' (S' (AEx.drawG hC 10 rfl rfl rfl ?_)))))))))))))
 refine G' 6 rfl (AG.c rfl rfl (fun hg=>⟨hg,trivial⟩) (fun hw=>H15 (G1 hw hx2)) (AG.c rfl rfl (fun hg=>⟨hg,hg,hg,trivial⟩) (fun hw=>Zh (G1 hw hx3)) (a1' rfl (pa' rfl (an' (n' (ci' rfl hh (fun hh=>?_) (fun hh=>?_))))))))
 ·cases hh
  exact T' rfl (t' rfl (re' (rt' rfl rfl rfl)))
 cases hh
 exact sk' (t' rfl (re' (rt' rfl rfl rfl)))
def J7 (o0:D0):Option Str:=
 if (bif (o0.Op != 3) then (decide (((o0.Kids).length:Int) > 0)) else false)=true then
  idx o0.Kids 0>>=fun x1=>
  J7 x1
 else
  some o0.Name
 partial_fixpoint
abbrev Jt (o0:D0)(res:Str):Prop:=LM C 18 0 Tryz.f182 [1,0,4] [(1,.ref 0 0)] [.row (D0.cells o0) 34] (Ret [] (.d (.str res)))
theorem R13:(∀ o0 res,J7 o0=some res→Jt o0 res):=by
 refine J7.partial_correctness _ ?_
 ·intro g0 ih0 o0 res hh
  refine W0.unroll (S' (sg' 9 rfl (G' 5 rfl (a1' rfl (AG.qe hC rfl (fun hg=>⟨⟨hg,trivial⟩,trivial⟩) (D0.lenA _) (a1' rfl (pa' rfl (an' (n' (ci' rfl hh (fun hh=>?_) (fun hh=>?_)))))))))))
  ·obtain ⟨x1,hx1,hh⟩:=bs' hh
   exact sk' (bk' (P' 2 rfl (i' rfl (U0 hx1) (D0.idx hx1) rfl (q' rfl (E0.s hC rfl (n' (lw' (ih0 _ _ hh) rfl rfl rfl)))))))
  cases hh
  exact ex' (t' rfl (re' (rt' rfl rfl rfl)))
theorem I15 {o0 res}(hh:J7 o0=some res):Jt o0 res:=(R13) _ _ hh
def Mo (e:D0):Option Str:=
 J7 e
theorem P1d {e res}(hh:Mo e=some res):K0 C 182 [.agg (D0.cells e)] [] (Ret [] (.d (.str res))):=by
 unfold Mo at hh
 exact K0.intro hC Tryz.func182 rfl rfl rfl (s' rfl rfl (E0.n hC rfl (e' rfl (S' (bk' (fw' (I15 hh) rfl rfl rfl))))))
def Oa (s:Option L0)(e:D0):Option (A0×Int):=
 O3 s e>>=fun x1=>
 if (x1.2 != 0)=true then
  some ((A0.mk 0 0 0 0 [] [] []),x1.2)
 else
  Mo e>>=fun x2=>
  L5 s x2>>=fun x3=>
  if x3.1.fixed=true then
   some ((A0.mk 0 0 0 0 [] [] []),15)
  else
   some (x1.1,0)
theorem Mm {s e res}(hh:Oa s e=some res):K0 C 113 [.d (.bxo (L0.opt s)),.agg (D0.cells e)] [] (Ret [] (.tup [.agg (A0.cells res.1),.d (.int .i64 res.2)])):=by
 unfold Oa at hh
 obtain ⟨x1,hx1,hh⟩:=bs' hh
 refine K0.intro hC Tryz.func113 rfl rfl rfl (s' rfl rfl (E0.n hC rfl (E0.nf hC rfl (e' rfl (p' 2 rfl (c' (F1 hx1) rfl rfl (o' 3 rfl (E0.nf hC rfl (E0.s hC rfl (e' rfl (S' (t' rfl (ci' rfl hh (fun hh=>?_) (fun hh=>?_))))))))))))))
 ·cases hh
  exact p' 2 rfl (E0.s hC rfl (e' rfl (re' (rt' rfl rfl rfl))))
 obtain ⟨x2,hx2,hh⟩:=bs' hh
 obtain ⟨x3,hx3,hh⟩:=bs' hh
 refine sk' (S' (p' 2 rfl (c' (P1d hx2) rfl rfl (c' (Yf hx3) rfl rfl (o' 3 rfl (E0.nf hC rfl (E0.s hC rfl (e' rfl (t' rfl (ci' rfl hh (fun hh=>?_) (fun hh=>?_)))))))))))
 ·cases hh
  exact p' 1 rfl (E0.s hC rfl (e' rfl (re' (rt' rfl rfl rfl))))
 cases hh
 exact sk' (p' 1 rfl (E0.s hC rfl (e' rfl (re' (rt' rfl rfl rfl)))))
def M3 (kind:Int)(name:Str)(x1:List B0)(v19:Int):Option Int:=
 if (decide (v19 < ((x1).length:Int)))=true then
  idx x1 v19>>=fun x2=>
  if (bif (x2.Kind == kind) then (x2.Name == name) else false)=true then
   some v19
  else
   M3 kind name x1 (IntKind.i64.wrap (v19+1))
 else
  some (-1)
 partial_fixpoint
abbrev Yk (kind:Int)(name:Str)(x1:List B0)(v19:Int)(res:Int):Prop:=LM C 36 0 Tryz.f183 [1,0,1,4] [(1,.d (.int .i64 kind)),(2,.d (.str name)),(17,.d (.sl (B0.rows x1))),(18,.d (.int .i64 ((x1).length:Int))),(19,.d (.int .i64 v19))] [] (Ret [] (.d (.int .i64 res)))
theorem Ct (kind:Int)(name:Str)(x1:List B0):(∀ v19 res,M3 kind name x1 v19=some res→Yk kind name x1 v19 res):=by
 refine M3.partial_correctness kind name x1 _ ?_
 ·intro g0 ih0 v19 res hh
  refine W0.unroll (t' rfl (S' (ci' rfl hh (fun hh=>?_) (fun hh=>?_))))
  ·obtain ⟨x2,hx2,hh⟩:=bs' hh
   refine sk' (S' (bk' (p' 1 rfl (i' rfl (U0 hx2) (B0.idx hx2) rfl (q' rfl (E0.nf hC rfl (q' rfl (E0.s hC rfl (n' (sg' 10 rfl (G' 6 rfl (a1' rfl (a0' rfl ?_)))))))))))))
   refine a2' rfl (pa' rfl (an' (n' (ci' rfl hh (fun hh=>?_) (fun hh=>?_)))))
   ·cases hh
    exact t' rfl (re' (rt' rfl rfl rfl))
   exact sk' (T' rfl (lw' (ih0 _ _ hh) rfl rfl rfl))
  cases hh
  exact ex' (t' rfl (re' (rt' rfl rfl rfl)))
theorem Bu {kind name x1 v19 res}(hh:M3 kind name x1 v19=some res):Yk kind name x1 v19 res:=(Ct kind name x1) _ _ hh
def H7 (c:N0)(kind:Int)(name:Str)(limit:Int):Option Int:=
 slc c.p.Decls 0 limit>>=fun x1=>
 M3 kind name x1 0
theorem Tm {c kind name limit res}(hh:H7 c kind name limit=some res):K0 C 183 [.d (.box (N0.row c)),.d (.int .i64 kind),.d (.str name),.d (.int .i64 limit)] [] (Ret [] (.d (.int .i64 res))):=by
 unfold H7 at hh
 obtain ⟨x1,hx1,hh⟩:=bs' hh
 exact K0.intro hC Tryz.func183 rfl rfl rfl (t' rfl (S' (p' 6 rfl (E0.dx hC rfl (B0.part hx1) (B0.sz _) (qe' rfl trivial (B0.lenA _) (e' rfl (bk' (fw' (Bu hh) rfl rfl rfl))))))))
def N3 (c:N0)(s:Option L0)(x:C0)(x1:A0×Int)(x3:B0)(x2:Int)(v52:Int):Option Int:=
 if (decide (v52 < ((x.Args).length:Int)))=true then
  idx x.Args v52>>=fun x4=>
  idx x3.Params v52>>=fun x5=>
  X2 c x5.TypeV x2>>=fun x6=>
  Q9 s x4 x6>>=fun x7=>
  if (x7 != 0)=true then
   some x7
  else
   N3 c s x x1 x3 x2 (IntKind.i64.wrap (v52+1))
 else
  X2 c x3.TypeV x2>>=fun x8=>
  S6 x8 x1.1 true>>=fun x9=>
  if (!x9)=true then
   some 9
  else
   some 0
 partial_fixpoint
abbrev Zk (c:N0)(s:Option L0)(x:C0)(x1:A0×Int)(x3:B0)(x2:Int)(v52:Int)(res:Int):Prop:=LM C 81 0 Tryz.f114 [1,1,1,1,1,1,1,0,1,4] [(0,.d (.box (N0.row c))),(1,.d (.bxo (L0.opt s))),(7,.ref 1 0),(9,.d (.int .i64 x2)),(10,.ref 2 0),(50,.d (.sl (D0.rows x.Args))),(51,.d (.int .i64 ((x.Args).length:Int))),(52,.d (.int .i64 v52))] [.dead,.row (A0.cells x1.1) 40,.row (B0.cells x3) 59] (Ret [] (.d (.int .i64 res)))
theorem Dt (c:N0)(s:Option L0)(x:C0)(x1:A0×Int)(x3:B0)(x2:Int):(∀ v52 res,N3 c s x x1 x3 x2 v52=some res→Zk c s x x1 x3 x2 v52 res):=by
 refine N3.partial_correctness c s x x1 x3 x2 _ ?_
 ·intro g0 ih0 v52 res hh
  refine W0.unroll (t' rfl (S' (ci' rfl hh (fun hh=>?_) (fun hh=>?_))))
  ·obtain ⟨x4,hx4,hh⟩:=bs' hh
   obtain ⟨x5,hx5,hh⟩:=bs' hh
   obtain ⟨x6,hx6,hh⟩:=bs' hh
   obtain ⟨x7,hx7,hh⟩:=bs' hh
   refine sk' (S' (bk' (p' 1 rfl (i' rfl (U0 hx4) (D0.idx hx4) rfl (q' rfl (E0.nf hC rfl (q' rfl (E0.s hC rfl (n' (S' (AEx.draw hC 13 rfl rfl rfl (O' 6 rfl (AQ.i hC rfl (U0 hx5) (B0.idx hx5) rfl ?_)))))))))))))
   refine O' 3 rfl (Qc' (P5 hx6) rfl rfl (Qc' (Ni hx7) rfl rfl (E' rfl (n' (t' rfl (ci' rfl hh (fun hh=>?_) (fun hh=>?_)))))))
   ·cases hh
    exact t' rfl (re' (rt' rfl rfl rfl))
   refine sk' (T' rfl ?_)
   refine W0.wk ?_ (ih0 _ _ hh)
   exact ⟨⟨⟨.rfl,rfl⟩,⟨.rfl,rfl⟩,⟨.rfl,rfl⟩,⟨.rfl,rfl⟩,⟨.rfl,rfl⟩,⟨.rfl,rfl⟩,⟨.rfl,rfl⟩,⟨.rfl,rfl⟩,trivial⟩,⟨trivial,⟨rfl,.refl _,rfl⟩,⟨rfl,.refl _,rfl⟩,trivial⟩,rfl⟩
  obtain ⟨x8,hx8,hh⟩:=bs' hh
  obtain ⟨x9,hx9,hh⟩:=bs' hh
  refine ex' (S' (S' (AEx.draw hC 8 rfl rfl rfl (O' 4 rfl (Qc' (P5 hx8) rfl rfl (Q' rfl (Qc' (Zh hx9) rfl rfl (E' rfl (n' (ci' rfl hh (fun hh=>?_) (fun hh=>?_)))))))))))
  ·cases hh
   exact t' rfl (re' (rt' rfl rfl rfl))
  cases hh
  exact sk' (t' rfl (re' (rt' rfl rfl rfl)))
theorem Cu {c s x x1 x3 x2 v52 res}(hh:N3 c s x x1 x3 x2 v52=some res):Zk c s x x1 x3 x2 v52 res:=(Dt c s x x1 x3 x2) _ _ hh
end Go.Proofs.YtdkabnfphmmmnaaGreatDoor

set_option maxRecDepth 100000
set_option maxHeartbeats 4000000
set_option synthInstance.maxSize 20000
set_option linter.unusedVariables false
namespace Go.Proofs.YtdkabnfphmmmnaaGreatDoor
open Go.Am
def Ga (c:N0)(s:Option L0)(x:C0):Option Int:=
 Oa s x.Place>>=fun x1=>
 if (x1.2 != 0)=true then
  some x1.2
 else
  H7 c 6 x.Name c.atV>>=fun x2=>
  if (decide (x2 < 0))=true then
   some 7
  else
   idx c.p.Decls x2>>=fun x3=>
   if (((x.Args).length:Int) != ((x3.Params).length:Int))=true then
    some 2
   else
    N3 c s x x1 x3 x2 0
theorem Vx {c s x res}(hh:Ga c s x=some res):K0 C 114 [.d (.box (N0.row c)),.d (.bxo (L0.opt s)),.agg (C0.cells x)] [] (Ret [] (.d (.int .i64 res))):=by
 unfold Ga at hh
 obtain ⟨x1,hx1,hh⟩:=bs' hh
 refine K0.intro hC Tryz.func114 rfl rfl rfl (s' rfl rfl (E0.n hC rfl (e' rfl (p' 3 rfl (c' (Mm hx1) rfl rfl (o' 3 rfl (E0.nf hC rfl (E0.s hC rfl (e' rfl (S' (t' rfl (ci' rfl hh (fun hh=>?_) (fun hh=>?_)))))))))))))
 ·cases hh
  exact t' rfl (re' (rt' rfl rfl rfl))
 obtain ⟨x2,hx2,hh⟩:=bs' hh
 refine sk' (S' (AEx.draw hC 9 rfl rfl rfl (O' 7 rfl (Qc' (Tm hx2) rfl rfl (E' rfl (n' (S' (t' rfl (ci' rfl hh (fun hh=>?_) (fun hh=>?_))))))))))
 ·cases hh
  exact t' rfl (re' (rt' rfl rfl rfl))
 obtain ⟨x3,hx3,hh⟩:=bs' hh
 refine sk' (p' 6 rfl (i' rfl (U0 hx3) (B0.idx hx3) rfl (q' rfl (E0.nf hC rfl (E0.s hC rfl (n' (S' (p' 2 rfl (qe' rfl trivial (D0.lenA _) (o' 2 rfl (qe' rfl trivial (B0.lenA _) (e' rfl (ci' rfl hh (fun hh=>?_) (fun hh=>?_))))))))))))))
 ·cases hh
  exact t' rfl (re' (rt' rfl rfl rfl))
 refine sk' (S' (p' 2 rfl (qe' rfl trivial (D0.lenA _) (e' rfl (bk' ?_)))))
 refine AEx.ofLoop ?_
 refine W0.wk ?_ (Cu hh)
 exact ⟨⟨⟨.rfl,rfl⟩,⟨.rfl,rfl⟩,⟨.rfl,rfl⟩,⟨.rfl,rfl⟩,⟨.rfl,rfl⟩,⟨.rfl,rfl⟩,⟨.rfl,rfl⟩,⟨.rfl,rfl⟩,trivial⟩,⟨trivial,⟨rfl,.refl _,rfl⟩,⟨rfl,.refl _,rfl⟩,trivial⟩,rfl⟩
def R7 (c:N0)(s:Option L0)(x:C0):Option Int:=
 Oa s x.Place>>=fun x1=>
 if (x1.2 != 0)=true then
  some x1.2
 else
  if c.localV=true then
   some 15
  else
   H7 c 5 x.Name c.atV>>=fun x2=>
   if (decide (x2 < 0))=true then
    some 7
   else
    idx c.p.Decls x2>>=fun x3=>
    X2 c x3.TypeV x2>>=fun x4=>
    S6 x4 x1.1 false>>=fun x5=>
    if (!x5)=true then
     some 9
    else
     some 0
theorem Du {c s x res}(hh:R7 c s x=some res):K0 C 115 [.d (.box (N0.row c)),.d (.bxo (L0.opt s)),.agg (C0.cells x)] [] (Ret [] (.d (.int .i64 res))):=by
 unfold R7 at hh
 obtain ⟨x1,hx1,hh⟩:=bs' hh
 refine K0.intro hC Tryz.func115 rfl rfl rfl (s' rfl rfl (E0.n hC rfl (e' rfl (p' 3 rfl (c' (Mm hx1) rfl rfl (o' 3 rfl (E0.nf hC rfl (E0.s hC rfl (e' rfl (S' (t' rfl (ci' rfl hh (fun hh=>?_) (fun hh=>?_)))))))))))))
 ·cases hh
  exact t' rfl (re' (rt' rfl rfl rfl))
 refine sk' (S' (t' rfl (ci' rfl hh (fun hh=>?_) (fun hh=>?_))))
 ·cases hh
  exact t' rfl (re' (rt' rfl rfl rfl))
 obtain ⟨x2,hx2,hh⟩:=bs' hh
 refine sk' (S' (AEx.draw hC 9 rfl rfl rfl (O' 7 rfl (Qc' (Tm hx2) rfl rfl (E' rfl (n' (S' (t' rfl (ci' rfl hh (fun hh=>?_) (fun hh=>?_))))))))))
 ·cases hh
  exact t' rfl (re' (rt' rfl rfl rfl))
 obtain ⟨x3,hx3,hh⟩:=bs' hh
 obtain ⟨x4,hx4,hh⟩:=bs' hh
 obtain ⟨x5,hx5,hh⟩:=bs' hh
 refine sk' (S' (S' (AEx.draw hC 15 rfl rfl rfl (O' 7 rfl (AQ.i hC rfl (U0 hx3) (B0.idx hx3) rfl (O' 3 rfl (Qc' (P5 hx4) rfl rfl (Q' rfl (Qc' (Zh hx5) rfl rfl (E' rfl (n' (ci' rfl hh (fun hh=>?_) (fun hh=>?_)))))))))))))
 ·cases hh
  exact t' rfl (re' (rt' rfl rfl rfl))
 cases hh
 exact sk' (t' rfl (re' (rt' rfl rfl rfl)))
def Aa (s:Option L0)(e:D0):Option Int:=
 O3 s e>>=fun x1=>
 if (bif (x1.2 == 0) then (x1.1.Kind != 0) else false)=true then
  some 9
 else
  some x1.2
theorem Lp {s e res}(hh:Aa s e=some res):K0 C 116 [.d (.bxo (L0.opt s)),.agg (D0.cells e)] [] (Ret [] (.d (.int .i64 res))):=by
 unfold Aa at hh
 obtain ⟨x1,hx1,hh⟩:=bs' hh
 refine K0.intro hC Tryz.func116 rfl rfl rfl (s' rfl rfl (E0.n hC rfl (e' rfl (p' 2 rfl (c' (F1 hx1) rfl rfl (o' 3 rfl (E0.nf hC rfl (E0.s hC rfl (e' rfl (S' (sg' 7 rfl (G' 4 rfl (a1' rfl ?_)))))))))))))
 refine a1' rfl (pa' rfl (an' (n' (ci' rfl hh (fun hh=>?_) (fun hh=>?_)))))
 ·cases hh
  exact T' rfl (t' rfl (re' (rt' rfl rfl rfl)))
 cases hh
 exact sk' (t' rfl (re' (rt' rfl rfl rfl)))
def Ld (s:Option L0)(name:Str):Option Bool:=
 L5 s name>>=fun x1=>
 some x1.2
theorem H12 {s name res}(hh:Ld s name=some res):K0 C 184 [.d (.bxo (L0.opt s)),.d (.str name)] [] (Ret [] (.d (.bool res))):=by
 unfold Ld at hh
 obtain ⟨x1,hx1,hh⟩:=bs' hh
 cases hh
 exact K0.intro hC Tryz.func184 rfl rfl rfl (t' rfl (p' 2 rfl (c' (Yf hx1) rfl rfl (o' 3 rfl (E0.nf hC rfl (E0.s hC rfl (e' rfl (t' rfl (re' (rt' rfl rfl rfl))))))))))
mutual
def D2 (c:N0)(s:Option L0)(l:List C0)(top:Bool):Option Int:=
 X4 c s l top 0
 partial_fixpoint
def X4 (c:N0)(s:Option L0)(l:List C0)(top:Bool)(v14:Int):Option Int:=
 if (decide (v14 < ((l).length:Int)))=true then
  idx l v14>>=fun x1=>
  Fe c s x1 (bif top then (v14 == (IntKind.i64.wrap (((l).length:Int) - 1))) else false)>>=fun x2=>
  if (x2 != 0)=true then
   some x2
  else
   X4 c s l top (IntKind.i64.wrap (v14+1))
 else
  some 0
 partial_fixpoint
def Fe (c:N0)(s:Option L0)(x:C0)(last:Bool):Option Int:=
 if (x.Verb == 0)=true then
  Oa s x.Place>>=fun x1=>
  if (x1.2 != 0)=true then
   some x1.2
  else
   Q9 s x.Value x1.1>>=fun x2=>
   some x2
 else
  if (x.Verb == 1)=true then
   Ga c s x>>=fun x3=>
   some x3
  else
   if (x.Verb == 2)=true then
    R7 c s x>>=fun x4=>
    some x4
   else
    if (x.Verb == 3)=true then
     O3 s x.Value>>=fun x5=>
     (if (x5.2 == 0)=true then R6 x5.1 else some default)>>=fun x6=>
     if (bif (x5.2 == 0) then (!x6) else false)=true then
      some 9
     else
      some x5.2
    else
     if (x.Verb == 5)=true then
      Aa s x.Value>>=fun x7=>
      if (x7 != 0)=true then
       some x7
      else
       D2 c s x.Then false>>=fun x10=>
       if (x10 != 0)=true then
        some x10
       else
        D2 c s x.Else false>>=fun x11=>
        some x11
     else
      if (x.Verb == 6)=true then
       Aa s x.Value>>=fun x8=>
       if (x8 != 0)=true then
        some x8
       else
        D2 c s x.Then false>>=fun x12=>
        some x12
      else
       if (x.Verb == 7)=true then
        Hj c s x>>=fun x9=>
        some x9
       else
        if (x.Verb == 8)=true then
         if (!last)=true then
          some 15
         else
          some 0
        else
         some 0
 partial_fixpoint
def Hj (c:N0)(s:Option L0)(x:C0):Option Int:=
 some (mgt x.Name c.names)>>=fun x1=>
 (if (!(x1.getD ebool.zero))=true then Ld s x.Name else some default)>>=fun x2=>
 if (bif (x1.getD ebool.zero) then true else x2)=true then
  some 8
 else
  I4 s>>=fun x3=>
  P2 x.Low x.High>>=fun x4=>
  some (some (L0.mk x3.2 (mpt x.Name (P0.mk x4 true) x3.1)))>>=fun x5=>
  D2 c x5 x.Then false>>=fun x6=>
  some x6
 partial_fixpoint
end
abbrev Um (c:N0)(s:Option L0)(l:List C0)(top:Bool)(res:Int):Prop:=K0 C 31 [.d (.box (N0.row c)),.d (.bxo (L0.opt s)),.d (.sl (C0.rows l)),.d (.bool top)] [] (Ret [] (.d (.int .i64 res)))
abbrev Eu (c:N0)(s:Option L0)(l:List C0)(top:Bool)(v14:Int)(res:Int):Prop:=LM C 35 0 Tryz.f31 [1,0,1,4] [(0,.d (.box (N0.row c))),(1,.d (.bxo (L0.opt s))),(2,.d (.sl (C0.rows l))),(3,.d (.bool top)),(12,.d (.sl (C0.rows l))),(13,.d (.int .i64 ((l).length:Int))),(14,.d (.int .i64 v14))] [] (Ret [] (.d (.int .i64 res)))
abbrev Xy (c:N0)(s:Option L0)(x:C0)(last:Bool)(res:Int):Prop:=K0 C 59 [.d (.box (N0.row c)),.d (.bxo (L0.opt s)),.agg (C0.cells x),.d (.bool last)] [] (Ret [] (.d (.int .i64 res)))
abbrev Yy (c:N0)(s:Option L0)(x:C0)(res:Int):Prop:=K0 C 117 [.d (.box (N0.row c)),.d (.bxo (L0.opt s)),.agg (C0.cells x)] [] (Ret [] (.d (.int .i64 res)))
theorem Kv (c:N0):(∀ s l top res,D2 c s l top=some res→Um c s l top res)∧(∀ s l top v14 res,X4 c s l top v14=some res→Eu c s l top v14 res)∧(∀ s x last res,Fe c s x last=some res→Xy c s x last res)∧(∀ s x res,Hj c s x=some res→Yy c s x res):=by
 refine D2.mutual_partial_correctness c _ _ _ _ ?_ ?_ ?_ ?_
 ·intro g1 ih1 s l top res hh
  exact K0.intro hC Tryz.func31 rfl rfl rfl (t' rfl (S' (p' 1 rfl (qe' rfl trivial (C0.lenA _) (e' rfl (bk' (fw' (ih1 _ _ _ _ _ hh) rfl rfl rfl)))))))
 ·intro g1 g2 ih1 ih2 s l top v14 res hh
  refine W0.unroll (t' rfl (S' (ci' rfl hh (fun hh=>?_) (fun hh=>?_))))
  ·obtain ⟨x1,hx1,hh⟩:=bs' hh
   obtain ⟨x2,hx2,hh⟩:=bs' hh
   refine sk' (S' (bk' (p' 1 rfl (i' rfl (U0 hx1) (C0.idx hx1) rfl (q' rfl (E0.nf hC rfl (q' rfl (E0.s hC rfl (n' (sg' 13 rfl (G' 7 rfl (AG.qe hC rfl (fun hg=>⟨⟨hg,trivial⟩,trivial⟩) (C0.lenA _) (a1' rfl ?_)))))))))))))
   refine a2' rfl (pa' rfl (AG.c rfl rfl (fun _=>trivial) (fun _=>ih2 _ _ _ _ hx2) (a0' rfl (an' (n' (t' rfl (ci' rfl hh (fun hh=>?_) (fun hh=>?_))))))))
   ·cases hh
    exact t' rfl (re' (rt' rfl rfl rfl))
   exact sk' (T' rfl (lw' (ih1 _ _ _ _ _ hh) rfl rfl rfl))
  cases hh
  exact ex' (t' rfl (re' (rt' rfl rfl rfl)))
 ·intro g0 g3 ih0 ih3 s x last res hh
  refine K0.intro hC Tryz.func59 rfl rfl rfl (s' rfl rfl (E0.n hC rfl (e' rfl (S' (t' rfl (bk' (t' rfl (ci' rfl hh (fun hh=>?_) (fun hh=>?_)))))))))
  ·obtain ⟨x1,hx1,hh⟩:=bs' hh
   refine p' 3 rfl (c' (Mm hx1) rfl rfl (o' 3 rfl (E0.nf hC rfl (E0.s hC rfl (e' rfl (S' (t' rfl (ci' rfl hh (fun hh=>?_) (fun hh=>?_)))))))))
   ·cases hh
    exact t' rfl (re' (rt' rfl rfl rfl))
   obtain ⟨x2,hx2,hh⟩:=bs' hh
   cases hh
   exact sk' (p' 4 rfl (c' (Ni hx2) rfl rfl (e' rfl (re' (rt' rfl rfl rfl)))))
  refine t' rfl (ci' rfl hh (fun hh=>?_) (fun hh=>?_))
  ·obtain ⟨x3,hx3,hh⟩:=bs' hh
   cases hh
   exact p' 3 rfl (c' (Vx hx3) rfl rfl (e' rfl (re' (rt' rfl rfl rfl))))
  refine t' rfl (ci' rfl hh (fun hh=>?_) (fun hh=>?_))
  ·obtain ⟨x4,hx4,hh⟩:=bs' hh
   cases hh
   exact p' 3 rfl (c' (Du hx4) rfl rfl (e' rfl (re' (rt' rfl rfl rfl))))
  refine t' rfl (ci' rfl hh (fun hh=>?_) (fun hh=>?_))
  ·obtain ⟨x5,hx5,hh⟩:=bs' hh
   obtain ⟨x6,hx6,hh⟩:=bs' hh
   refine p' 3 rfl (c' (F1 hx5) rfl rfl (o' 3 rfl (E0.nf hC rfl (E0.s hC rfl (e' rfl (S' (sg' 7 rfl (G' 4 rfl (AG.c rfl rfl (fun hg=>⟨hg,trivial⟩) (fun hw=>Ph (G1 hw hx6)) (a1' rfl (pa' rfl (an' (n' (ci' rfl hh (fun hh=>?_) (fun hh=>?_)))))))))))))))
   ·cases hh
    exact T' rfl (t' rfl (re' (rt' rfl rfl rfl)))
   cases hh
   exact sk' (t' rfl (re' (rt' rfl rfl rfl)))
  refine t' rfl (ci' rfl hh (fun hh=>?_) (fun hh=>?_))
  ·obtain ⟨x7,hx7,hh⟩:=bs' hh
   refine S' (p' 3 rfl (c' (Lp hx7) rfl rfl (e' rfl (t' rfl (ci' rfl hh (fun hh=>?_) (fun hh=>?_))))))
   ·cases hh
    exact t' rfl (re' (rt' rfl rfl rfl))
   obtain ⟨x10,hx10,hh⟩:=bs' hh
   refine sk' (S' (p' 4 rfl (c' (ih0 _ _ _ _ hx10) rfl rfl (e' rfl (t' rfl (ci' rfl hh (fun hh=>?_) (fun hh=>?_)))))))
   ·cases hh
    exact t' rfl (re' (rt' rfl rfl rfl))
   obtain ⟨x11,hx11,hh⟩:=bs' hh
   cases hh
   exact sk' (p' 4 rfl (c' (ih0 _ _ _ _ hx11) rfl rfl (e' rfl (re' (rt' rfl rfl rfl)))))
  refine t' rfl (ci' rfl hh (fun hh=>?_) (fun hh=>?_))
  ·obtain ⟨x8,hx8,hh⟩:=bs' hh
   refine S' (p' 3 rfl (c' (Lp hx8) rfl rfl (e' rfl (t' rfl (ci' rfl hh (fun hh=>?_) (fun hh=>?_))))))
   ·cases hh
    exact t' rfl (re' (rt' rfl rfl rfl))
   obtain ⟨x12,hx12,hh⟩:=bs' hh
   cases hh
   exact sk' (p' 4 rfl (c' (ih0 _ _ _ _ hx12) rfl rfl (e' rfl (re' (rt' rfl rfl rfl)))))
  refine t' rfl (ci' rfl hh (fun hh=>?_) (fun hh=>?_))
  ·obtain ⟨x9,hx9,hh⟩:=bs' hh
   cases hh
   exact p' 3 rfl (c' (ih3 _ _ _ hx9) rfl rfl (e' rfl (re' (rt' rfl rfl rfl))))
  refine t' rfl (ci' rfl hh (fun hh=>?_) (fun hh=>?_))
  ·refine t' rfl (ci' rfl hh (fun hh=>?_) (fun hh=>?_))
   ·cases hh
    exact t' rfl (re' (rt' rfl rfl rfl))
   cases hh
   exact sk' (t' rfl (re' (rt' rfl rfl rfl)))
  cases hh
  exact sk' (t' rfl (re' (rt' rfl rfl rfl)))
 ·intro g0 ih0 s x res hh
  obtain ⟨x1,hx1,hh⟩:=bs' hh
  obtain ⟨x2,hx2,hh⟩:=bs' hh
  refine K0.intro hC Tryz.func117 rfl rfl rfl (s' rfl rfl (E0.n hC rfl (e' rfl (S' (S' (AEx.drawG hC 13 rfl rfl rfl (G' 6 rfl (AG.fl hC rfl rfl (fun _=>trivial) (fun _=>rfl) (ebool.lk hx1) (G' 3 rfl (a1' rfl (AG.c rfl rfl (fun hg=>⟨hg,hg,trivial⟩) (fun hw=>H12 (G1 hw hx2)) (po' rfl (an' ?_)))))))))))))
  refine n' (ci' rfl hh (fun hh=>?_) (fun hh=>?_))
  ·cases hh
   exact t' rfl (re' (rt' rfl rfl rfl))
  obtain ⟨x3,hx3,hh⟩:=bs' hh
  obtain ⟨x4,hx4,hh⟩:=bs' hh
  obtain ⟨x5,hx5,hh⟩:=bs' hh
  obtain ⟨x6,hx6,hh⟩:=bs' hh
  refine sk' (p' 1 rfl (g' [] (Xf hx3) rfl rfl rfl rfl rfl rfl (e' rfl (S' (AEx.draw hC 12 rfl rfl rfl (O' 10 rfl (Qc' (C3 hx4) rfl rfl (E' rfl (E0.ue hC rfl (P0.mput _ (P0.mk x4 true) _) rfl (n' (p' 4 rfl (E0.fm 1 rfl rfl (E0.bx 2 (y:=.bxo (L0.opt x5)) (by cases hx5; exact .inr rfl) rfl rfl rfl ?_)))))))))))))
  refine c' (ih0 _ _ _ _ hx6) rfl rfl (e' rfl ?_)
  cases hh
  exact re' (rt' rfl rfl rfl)
theorem Vl {c s l top res}(hh:D2 c s l top=some res):Um c s l top res:=(Kv c).1 _ _ _ _ hh
mutual
def Y1 (c:N0)(i:Int)(result:A0)(x1:B0)(m21:List (Str×P0))(x2:List (Str×P0)×Option L0)(v34:Int):Option Int:=
 if (decide (v34 < (([x1.Params,x1.Vars]).length:Int)))=true then
  idx [x1.Params,x1.Vars] v34>>=fun x3=>
  F4 c i result x1 m21 x2 v34 x3 0
 else
  some (N0.mk c.p i true c.names)>>=fun x4=>
  some (some (L0.mk x2.2 m21))>>=fun x5=>
  D2 x4 x5 x1.Body false>>=fun x6=>
  if (x6 != 0)=true then
   some x6
  else
   Q9 x5 x1.Value result>>=fun x7=>
   some x7
 partial_fixpoint
def F4 (c:N0)(i:Int)(result:A0)(x1:B0)(m2:List (Str×P0))(x2:List (Str×P0)×Option L0)(v341:Int)(x3:List B0)(v40:Int):Option Int:=
 if (decide (v40 < ((x3).length:Int)))=true then
  idx x3 v40>>=fun x8=>
  L4 c x8.TypeV i>>=fun x9=>
  if (x9.2 != 0)=true then
   some x9.2
  else
   F4 c i result x1 (mpt x8.Name (P0.mk x9.1 false) m2) x2 v341 x3 (IntKind.i64.wrap (v40+1))
 else
  Y1 c i result x1 m2 x2 (IntKind.i64.wrap (v341+1))
 partial_fixpoint
end
abbrev Wh (c:N0)(i:Int)(result:A0)(x1:B0)(m21:List (Str×P0))(x2:List (Str×P0)×Option L0)(v34:Int)(res:Int):Prop:=LM C 83 0 Tryz.f58 [1,1,1,1,0,1,4] [(0,.d (.box (N0.row c))),(1,.d (.int .i64 i)),(5,.ref 0 0),(7,.ref 1 0),(9,.ref 3 0),(32,.full (esl_ApiDecl.rows [x1.Params,x1.Vars])),(33,.d (.int .i64 (([x1.Params,x1.Vars]).length:Int))),(34,.d (.int .i64 v34))] [.row (A0.cells result) 40,.row (B0.cells x1) 59,.map (.s (P0.ents m21)),.row [.d (.bxo (L0.opt x2.2)),.mp 2] 110] (Ret [] (.d (.int .i64 res)))
abbrev Ar (c:N0)(i:Int)(result:A0)(x1:B0)(m2:List (Str×P0))(x2:List (Str×P0)×Option L0)(v341:Int)(x3:List B0)(v40:Int)(res:Int):Prop:=LM C 83 0 Tryz.f58 [1,1,1,1,0,1,4,5,1,1,0,4,1,1,4] [(0,.d (.box (N0.row c))),(1,.d (.int .i64 i)),(5,.ref 0 0),(7,.ref 1 0),(9,.ref 3 0),(32,.full (esl_ApiDecl.rows [x1.Params,x1.Vars])),(33,.d (.int .i64 (([x1.Params,x1.Vars]).length:Int))),(34,.d (.int .i64 v341)),(38,.d (.sl (B0.rows x3))),(39,.d (.int .i64 ((x3).length:Int))),(40,.d (.int .i64 v40))] [.row (A0.cells result) 40,.row (B0.cells x1) 59,.map (.s (P0.ents m2)),.row [.d (.bxo (L0.opt x2.2)),.mp 2] 110] (Ret [] (.d (.int .i64 res)))
theorem Mp (c:N0)(i:Int)(result:A0)(x1:B0)(x2:List (Str×P0)×Option L0):(∀ m21 v34 res,Y1 c i result x1 m21 x2 v34=some res→Wh c i result x1 m21 x2 v34 res)∧(∀ m2 v341 x3 v40 res,F4 c i result x1 m2 x2 v341 x3 v40=some res→Ar c i result x1 m2 x2 v341 x3 v40 res):=by
 refine Y1.mutual_partial_correctness c i result x1 x2 _ _ ?_ ?_
 ·intro g1 ih1 m21 v34 res hh
  refine W0.unroll (t' rfl (S' (ci' rfl hh (fun hh=>?_) (fun hh=>?_))))
  ·obtain ⟨x3,hx3,hh⟩:=bs' hh
   exact sk' (S' (bk' (s' rfl rfl (i' rfl (U0 hx3) (esl_ApiDecl.idx hx3) rfl (e' rfl (p' 1 rfl (qe' rfl trivial (B0.lenA _) (e' rfl (bk' (fw' (ih1 _ _ _ _ _ hh) rfl rfl rfl))))))))))
  obtain ⟨x4,hx4,hh⟩:=bs' hh
  obtain ⟨x5,hx5,hh⟩:=bs' hh
  obtain ⟨x6,hx6,hh⟩:=bs' hh
  refine ex' (p' 3 rfl (E0.nf hC rfl (E0.s hC rfl (n' (p' 2 rfl (E0.s hC rfl (q' rfl (E0.s hC rfl (n' (S' (p' 3 rfl (E0.bx 4 (y:=.box (N0.row x4)) (by cases hx4; exact .inl rfl) rfl rfl rfl (E0.fm 2 rfl rfl ?_)))))))))))))
  refine E0.bx 3 (y:=.bxo (L0.opt x5)) (by cases hx5; exact .inr rfl) rfl rfl rfl (c' (Vl hx6) rfl rfl (e' rfl (t' rfl (ci' rfl hh (fun hh=>?_) (fun hh=>?_)))))
  ·cases hh
   exact t' rfl (re' (rt' rfl rfl rfl))
  obtain ⟨x7,hx7,hh⟩:=bs' hh
  cases hh
  exact sk' (p' 4 rfl (c' (Ni hx7) rfl rfl (e' rfl (re' (rt' rfl rfl rfl)))))
 ·intro g0 g1 ih0 ih1 m2 v341 x3 v40 res hh
  refine W0.unroll (t' rfl (S' (ci' rfl hh (fun hh=>?_) (fun hh=>?_))))
  ·obtain ⟨x8,hx8,hh⟩:=bs' hh
   obtain ⟨x9,hx9,hh⟩:=bs' hh
   refine sk' (S' (bk' (s' rfl rfl (i' rfl (U0 hx8) (B0.idx hx8) rfl (q' rfl (E0.nf hC rfl (E0.s hC rfl (n' (p' 4 rfl (c' (Ke hx9) rfl rfl (o' 3 rfl (E0.nf hC rfl (E0.s hC rfl ?_)))))))))))))
   refine e' rfl (S' (t' rfl (ci' rfl hh (fun hh=>?_) (fun hh=>?_))))
   ·cases hh
    exact t' rfl (re' (rt' rfl rfl rfl))
   exact sk' (AEx.draw hC 8 rfl rfl rfl (E' rfl (E0.ue hC rfl (P0.mput _ (P0.mk x9.1 false) _) rfl (n' (T' rfl (lw' (ih1 _ _ _ _ _ hh) rfl rfl rfl))))))
  exact ex' (T' rfl (lw' (ih0 _ _ _ hh) rfl rfl rfl))
theorem Mq {c i result x1 m21 x2 v34 res}(hh:Y1 c i result x1 m21 x2 v34=some res):Wh c i result x1 m21 x2 v34 res:=(Mp c i result x1 x2).1 _ _ _ hh
def W6 (c:N0)(i:Int)(result:A0):Option Int:=
 idx c.p.Decls i>>=fun x1=>
 I4 none>>=fun x2=>
 Y1 c i result x1 x2.1 x2 0
theorem Et {c i result res}(hh:W6 c i result=some res):K0 C 58 [.d (.box (N0.row c)),.d (.int .i64 i),.agg (A0.cells result)] [] (Ret [] (.d (.int .i64 res))):=by
 unfold W6 at hh
 obtain ⟨x1,hx1,hh⟩:=bs' hh
 obtain ⟨x2,hx2,hh⟩:=bs' hh
 refine K0.intro hC Tryz.func58 rfl rfl rfl (s' rfl rfl (E0.n hC rfl (e' rfl (p' 6 rfl (i' rfl (U0 hx1) (B0.idx hx1) rfl (q' rfl (E0.nf hC rfl (E0.s hC rfl (n' (t' rfl (p' 1 rfl (E0.g [] rfl (Xf hx2) ⟨.nbx,trivial⟩ rfl trivial rfl rfl (e' rfl ?_)))))))))))))
 exact S' (p' 4 rfl (E0.be hC rfl (esl_ApiDecl.rows_map [x1.Params,x1.Vars]).symm (qe' rfl trivial (esl_ApiDecl.lenA _) (e' rfl (bk' (fw' (Mq hh) rfl rfl rfl))))))
def Ha (c:N0)(i:Int):Option Int:=
 idx c.p.Decls i>>=fun x1=>
 L4 c x1.TypeV i>>=fun x2=>
 if (x2.2 != 0)=true then
  some x2.2
 else
  if (x1.Kind == 5)=true then
   R6 x2.1>>=fun x3=>
   if (!x3)=true then
    some 9
   else
    M4 c i false>>=fun x4=>
    Q9 x4 x1.Value x2.1>>=fun x5=>
    some x5
  else
   if (x1.Kind == 6)=true then
    W6 c i x2.1>>=fun x6=>
    some x6
   else
    some 0
theorem Wx {c i res}(hh:Ha c i=some res):K0 C 30 [.d (.box (N0.row c)),.d (.int .i64 i)] [] (Ret [] (.d (.int .i64 res))):=by
 unfold Ha at hh
 obtain ⟨x1,hx1,hh⟩:=bs' hh
 obtain ⟨x2,hx2,hh⟩:=bs' hh
 refine K0.intro hC Tryz.func30 rfl rfl rfl (t' rfl (p' 6 rfl (i' rfl (U0 hx1) (B0.idx hx1) rfl (q' rfl (E0.nf hC rfl (E0.s hC rfl (n' (p' 4 rfl (c' (Ke hx2) rfl rfl (o' 3 rfl (E0.nf hC rfl (E0.s hC rfl (e' rfl ?_)))))))))))))
 refine S' (t' rfl (ci' rfl hh (fun hh=>?_) (fun hh=>?_)))
 ·cases hh
  exact t' rfl (re' (rt' rfl rfl rfl))
 refine sk' (S' (t' rfl (bk' (t' rfl (ci' rfl hh (fun hh=>?_) (fun hh=>?_))))))
 ·obtain ⟨x3,hx3,hh⟩:=bs' hh
  refine S' (p' 1 rfl (c' (Ph hx3) rfl rfl (e' rfl (ci' rfl hh (fun hh=>?_) (fun hh=>?_)))))
  ·cases hh
   exact t' rfl (re' (rt' rfl rfl rfl))
  obtain ⟨x4,hx4,hh⟩:=bs' hh
  obtain ⟨x5,hx5,hh⟩:=bs' hh
  cases hh
  exact sk' (S' (AEx.draw hC 8 rfl rfl rfl (O' 2 rfl (Qc' (X0 hx4) rfl rfl (O' 3 rfl (Qc' (Ni hx5) rfl rfl (E' rfl (n' (re' (rt' rfl rfl rfl))))))))))
 refine t' rfl (ci' rfl hh (fun hh=>?_) (fun hh=>?_))
 ·obtain ⟨x6,hx6,hh⟩:=bs' hh
  cases hh
  exact p' 3 rfl (c' (Et hx6) rfl rfl (e' rfl (re' (rt' rfl rfl rfl))))
 cases hh
 exact sk' (t' rfl (re' (rt' rfl rfl rfl)))
mutual
def Ig (t:A0):Option Bool:=
 (if (!(t.Kind == 4))=true then T6 t.Of else some default)>>=fun x1=>
 some (bif (t.Kind == 4) then true else x1)
 partial_fixpoint
def T6 (s:List A0):Option Bool:=
 A8 s>>=fun x1=>
 some (decide (x1≥0))
 partial_fixpoint
def A8 (s:List A0):Option Int:=
 N2 s 0
 partial_fixpoint
def N2 (s:List A0)(v8:Int):Option Int:=
 if (decide (v8 < ((s).length:Int)))=true then
  idx s v8>>=fun x1=>
  Ig x1>>=fun x2=>
  if x2=true then
   some v8
  else
   N2 s (IntKind.i64.wrap (v8+1))
 else
  some (-1)
 partial_fixpoint
end
abbrev I17 (t:A0)(res:Bool):Prop:=K0 C 215 [.agg (A0.cells t)] [] (Ret [] (.d (.bool res)))
abbrev Bk (s:List A0)(res:Bool):Prop:=K0 C 227 [.d (.sl (A0.rows s)),.clo 215 []] [] (Ret [] (.d (.bool res)))
abbrev Wl (s:List A0)(res:Int):Prop:=K0 C 233 [.d (.sl (A0.rows s)),.clo 215 []] [] (Ret [] (.d (.int .i64 res)))
abbrev Ck (s:List A0)(v8:Int)(res:Int):Prop:=LM C 19 0 Tryz.f233 [1,0,1,4] [(0,.d (.sl (A0.rows s))),(1,.clo 215 []),(7,.d (.int .i64 ((s).length:Int))),(8,.d (.int .i64 v8))] [] (Ret [] (.d (.int .i64 res)))
theorem A1j:(∀ t res,Ig t=some res→I17 t res)∧(∀ s res,T6 s=some res→Bk s res)∧(∀ s res,A8 s=some res→Wl s res)∧(∀ s v8 res,N2 s v8=some res→Ck s v8 res):=by
 refine Ig.mutual_partial_correctness _ _ _ _ ?_ ?_ ?_ ?_
 ·intro g1 ih1 t res hh
  obtain ⟨x1,hx1,hh⟩:=bs' hh
  cases hh
  exact K0.intro hC Tryz.func215 rfl rfl rfl (s' rfl rfl (E0.n hC rfl (e' rfl (sg' 9 rfl (G' 5 rfl (a1' rfl (AG.c rfl rfl (fun hg=>⟨hg,trivial⟩) (fun hw=>ih1 _ _ (G1 hw hx1)) (po' rfl (a0' rfl (an' (n' (re' (rt' rfl rfl rfl)))))))))))))
 ·intro g2 ih2 s res hh
  obtain ⟨x1,hx1,hh⟩:=bs' hh
  cases hh
  exact K0.intro hC Tryz.func227 rfl rfl rfl (t' rfl (p' 2 rfl (c' (ih2 _ _ hx1) rfl rfl (e' rfl (re' (rt' rfl rfl rfl))))))
 ·intro g3 ih3 s res hh
  exact K0.intro hC Tryz.func233 rfl rfl rfl (t' rfl (S' (p' 1 rfl (qe' rfl trivial (A0.lenA _) (e' rfl (bk' (fw' (ih3 _ _ _ hh) rfl rfl rfl)))))))
 ·intro g0 g3 ih0 ih3 s v8 res hh
  refine W0.unroll (t' rfl (S' (ci' rfl hh (fun hh=>?_) (fun hh=>?_))))
  ·obtain ⟨x1,hx1,hh⟩:=bs' hh
   obtain ⟨x2,hx2,hh⟩:=bs' hh
   refine sk' (S' (bk' (t' rfl (p' 3 rfl (i' rfl (U0 hx1) (A0.idx hx1) rfl (q' rfl (c' (ih0 _ _ hx2) rfl rfl (n' (ci' rfl hh (fun hh=>?_) (fun hh=>?_))))))))))
   ·cases hh
    exact t' rfl (re' (rt' rfl rfl rfl))
   exact sk' (T' rfl (lw' (ih3 _ _ _ hh) rfl rfl rfl))
  cases hh
  exact ex' (t' rfl (re' (rt' rfl rfl rfl)))
theorem F1l {t res}(hh:Ig t=some res):I17 t res:=(A1j).1 _ _ hh
def Tu (t:A0):Option Int:=
 Ig t>>=fun x1=>
 if x1=true then
  some 7
 else
  De t>>=fun x2=>
  if x2=true then
   some 8
  else
   Rb t>>=fun x3=>
   if (decide (x3 > 32))=true then
    some 4
   else
    some 0
theorem G1l {t res}(hh:Tu t=some res):K0 C 186 [.agg (A0.cells t)] [] (Ret [] (.d (.int .i64 res))):=by
 unfold Tu at hh
 obtain ⟨x1,hx1,hh⟩:=bs' hh
 refine K0.intro hC Tryz.func186 rfl rfl rfl (s' rfl rfl (E0.n hC rfl (e' rfl (S' (p' 1 rfl (c' (F1l hx1) rfl rfl (n' (ci' rfl hh (fun hh=>?_) (fun hh=>?_)))))))))
 ·cases hh
  exact t' rfl (re' (rt' rfl rfl rfl))
 obtain ⟨x2,hx2,hh⟩:=bs' hh
 refine sk' (S' (p' 1 rfl (c' (P13 hx2) rfl rfl (n' (ci' rfl hh (fun hh=>?_) (fun hh=>?_))))))
 ·cases hh
  exact t' rfl (re' (rt' rfl rfl rfl))
 obtain ⟨x3,hx3,hh⟩:=bs' hh
 refine sk' (S' (p' 1 rfl (c' (Q13 hx3) rfl rfl (e' rfl (ci' rfl hh (fun hh=>?_) (fun hh=>?_))))))
 ·cases hh
  exact t' rfl (re' (rt' rfl rfl rfl))
 cases hh
 exact sk' (t' rfl (re' (rt' rfl rfl rfl)))
def Np (t:A0):Option Int:=
 Nd t>>=fun x1=>
 if (x1 != 0)=true then
  some x1
 else
  Tu t>>=fun x2=>
  some x2
theorem H1l {t res}(hh:Np t=some res):K0 C 118 [.agg (A0.cells t)] [] (Ret [] (.d (.int .i64 res))):=by
 unfold Np at hh
 obtain ⟨x1,hx1,hh⟩:=bs' hh
 refine K0.intro hC Tryz.func118 rfl rfl rfl (s' rfl rfl (E0.n hC rfl (e' rfl (S' (p' 1 rfl (c' (It hx1) rfl rfl (e' rfl (t' rfl (ci' rfl hh (fun hh=>?_) (fun hh=>?_))))))))))
 ·cases hh
  exact t' rfl (re' (rt' rfl rfl rfl))
 obtain ⟨x2,hx2,hh⟩:=bs' hh
 cases hh
 exact sk' (p' 1 rfl (c' (G1l hx2) rfl rfl (e' rfl (re' (rt' rfl rfl rfl)))))
def Fi (s:Str):Option Str:=
 C1l s>>=fun x1=>
 some x1
theorem Zy {s res}(hh:Fi s=some res):K0 C 121 [.d (.str s)] [] (Ret [] (.d (.str res))):=by
 unfold Fi at hh
 obtain ⟨x1,hx1,hh⟩:=bs' hh
 cases hh
 exact K0.intro hC Tryz.func121 rfl rfl rfl (t' rfl (p' 1 rfl (c' (A1w hx1) rfl rfl (e' rfl (re' (rt' rfl rfl rfl))))))
def Le (path:Str)(a1:Int)(x:A0)(s:List R0):Option (Bool×List R0):=
 if (x.Kind == 0)=true then
  Fi path>>=fun x1=>
  if (decide ((s.length+1) * 41≤140737488355328))=true then
   some (true,(s++[(R0.mk x1 true 0 1)]))
  else none
 else
  if (x.Kind == 1)=true then
   Fi path>>=fun x2=>
   if (decide ((s.length+1) * 41≤140737488355328))=true then
    some (true,(s++[(R0.mk x2 false x.Low x.High)]))
   else none
  else
   some (true,s)
theorem S13 {path a1 x s res}(hh:Le path a1 x s=some res):K0 C 120 [.d (.str path),.d (.int .i64 a1),.agg (A0.cells x),.ref 0 0] [.row [.osl 1 (R0.rows s)] 113,.tok 117 4] (Ret [.row [.osl 1 (R0.rows res.2)] 113,.tok 117 4] (.d (.bool res.1))):=by
 unfold Le at hh
 refine K0.intro hC Tryz.func120 rfl rfl rfl (s' rfl rfl (E0.n hC rfl (e' rfl (S' (t' rfl (bk' (t' rfl (ci' rfl hh (fun hh=>?_) (fun hh=>?_)))))))))
 ·obtain ⟨x1,hx1,hh⟩:=bs' hh
  obtain ⟨c11,hh⟩:=I1 hh
  cases hh
  refine AEx.draw hC 5 rfl rfl rfl (O' 2 rfl (Qc' (Zy hx1) rfl rfl (Q' rfl (AQ.be hC rfl (R0.rows_map [(R0.mk x1 true 0 1)]).symm (Qn' ?_)))))
  exact E0.ap hC rfl (rs:=R0.rows (s++[(R0.mk x1 true 0 1)])) (R0.app s [(R0.mk x1 true 0 1)]) (R0.sz s) (R0.sz [(R0.mk x1 true 0 1)]) (E4 (R0.len s) (R0.len [(R0.mk x1 true 0 1)]) c11) (E0.s hC rfl (n' (t' rfl (re' (rt' rfl rfl rfl)))))
 refine t' rfl (ci' rfl hh (fun hh=>?_) (fun hh=>?_))
 ·obtain ⟨x2,hx2,hh⟩:=bs' hh
  obtain ⟨c12,hh⟩:=I1 hh
  cases hh
  refine AEx.draw hC 9 rfl rfl rfl (O' 2 rfl (Qc' (Zy hx2) rfl rfl (O' 5 rfl (AQ.be hC rfl (R0.rows_map [(R0.mk x2 false x.Low x.High)]).symm (Qn' ?_)))))
  exact E0.ap hC rfl (rs:=R0.rows (s++[(R0.mk x2 false x.Low x.High)])) (R0.app s [(R0.mk x2 false x.Low x.High)]) (R0.sz s) (R0.sz [(R0.mk x2 false x.Low x.High)]) (E4 (R0.len s) (R0.len [(R0.mk x2 false x.Low x.High)]) c12) (E0.s hC rfl (n' (t' rfl (re' (rt' rfl rfl rfl)))))
 cases hh
 exact sk' (t' rfl (re' (rt' rfl rfl rfl)))
mutual
def A6 (path:Str)(t:A0)(s:Int)(s1:List R0):Option (Bool×Int×List R0):=
 Le path s t s1>>=fun x1=>
 if (!x1.1)=true then
  some (false,s,x1.2)
 else
  if (t.Kind == 2)=true then
   L8 path t s x1.2 0
  else
   if (t.Kind == 3)=true then
    K8 path t s x1.2 0
   else
    some (true,(IntKind.i64.wrap (s+1)),x1.2)
 partial_fixpoint
def K8 (path:Str)(t:A0)(o11:Int)(o31:List R0)(v46:Int):Option (Bool×Int×List R0):=
 if (decide (v46 < ((t.Of).length:Int)))=true then
  idx t.Of v46>>=fun x4=>
  if (decide (path.length+1≤maxLen))=true then
   idx t.Names v46>>=fun x5=>
   if (decide ((path++[46]).length+x5.length≤maxLen))=true then
    A6 ((path++[46])++x5) x4 o11 o31>>=fun x7=>
    if (!x7.1)=true then
     some (false,x7.2.1,x7.2.2)
    else
     K8 path t x7.2.1 x7.2.2 (IntKind.i64.wrap (v46+1))
   else none
  else none
 else
  some (true,o11,o31)
 partial_fixpoint
def L8 (path:Str)(t:A0)(o1:Int)(o3:List R0)(v25:Int):Option (Bool×Int×List R0):=
 if (decide (v25 < t.Size))=true then
  if (decide (path.length+1≤maxLen))=true then
   Q1i v25>>=fun x2=>
   if (decide ((path++[46]).length+x2.length≤maxLen))=true then
    idx t.Of 0>>=fun x3=>
    A6 ((path++[46])++x2) x3 o1 o3>>=fun x6=>
    if (!x6.1)=true then
     some (false,x6.2.1,x6.2.2)
    else
     L8 path t x6.2.1 x6.2.2 (IntKind.i64.wrap (v25+1))
   else none
  else none
 else
  some (true,o1,o3)
 partial_fixpoint
end
abbrev Pw (path:Str)(t:A0)(s:Int)(s1:List R0)(res:Bool×Int×List R0):Prop:=K0 C 187 [.d (.str path),.agg (A0.cells t),.ref 0 0,.ref 1 0,.ref 2 0] [.row [.clo 120 [.ref 3 0]] 171,.row [.d (.int .i64 s)] 3,.row [.clo 187 [.ref 0 0,.ref 1 0,.ref 2 0]] 215,.row [.osl 4 (R0.rows s1)] 113,.tok 117 4] (Ret [.row [.clo 120 [.ref 3 0]] 171,.row [.d (.int .i64 res.2.1)] 3,.row [.clo 187 [.ref 0 0,.ref 1 0,.ref 2 0]] 215,.row [.osl 4 (R0.rows res.2.2)] 113,.tok 117 4] (.d (.bool res.1)))
abbrev J15 (path:Str)(t:A0)(o11:Int)(o31:List R0)(v46:Int)(res:Bool×Int×List R0):Prop:=LM C 64 5 Tryz.f187 [1,1,0,1,4,1,3,1,2,1,4] [(0,.d (.str path)),(4,.ref 2 0),(6,.ref 5 0),(44,.d (.sl (A0.rows t.Of))),(45,.d (.int .i64 ((t.Of).length:Int))),(46,.d (.int .i64 v46))] [.row [.clo 120 [.ref 3 0]] 171,.row [.d (.int .i64 o11)] 3,.row [.clo 187 [.ref 0 0,.ref 1 0,.ref 2 0]] 215,.row [.osl 4 (R0.rows o31)] 113,.tok 117 4,.row (A0.cells t) 40] (Ret [.row [.clo 120 [.ref 3 0]] 171,.row [.d (.int .i64 res.2.1)] 3,.row [.clo 187 [.ref 0 0,.ref 1 0,.ref 2 0]] 215,.row [.osl 4 (R0.rows res.2.2)] 113,.tok 117 4] (.d (.bool res.1)))
abbrev K15 (path:Str)(t:A0)(o1:Int)(o3:List R0)(v25:Int)(res:Bool×Int×List R0):Prop:=LM C 64 5 Tryz.f187 [1,1,0,1,4,1,2,1,4] [(0,.d (.str path)),(4,.ref 2 0),(6,.ref 5 0),(24,.d (.int .i64 t.Size)),(25,.d (.int .i64 v25))] [.row [.clo 120 [.ref 3 0]] 171,.row [.d (.int .i64 o1)] 3,.row [.clo 187 [.ref 0 0,.ref 1 0,.ref 2 0]] 215,.row [.osl 4 (R0.rows o3)] 113,.tok 117 4,.row (A0.cells t) 40] (Ret [.row [.clo 120 [.ref 3 0]] 171,.row [.d (.int .i64 res.2.1)] 3,.row [.clo 187 [.ref 0 0,.ref 1 0,.ref 2 0]] 215,.row [.osl 4 (R0.rows res.2.2)] 113,.tok 117 4] (.d (.bool res.1)))
theorem D18:(∀ path t s s1 res,A6 path t s s1=some res→Pw path t s s1 res)∧(∀ path t o11 o31 v46 res,K8 path t o11 o31 v46=some res→J15 path t o11 o31 v46 res)∧(∀ path t o1 o3 v25 res,L8 path t o1 o3 v25=some res→K15 path t o1 o3 v25 res):=by
 refine A6.mutual_partial_correctness _ _ _ ?_ ?_ ?_
 ·intro g1 g2 ih1 ih2 path t s s1 res hh
  obtain ⟨x1,hx1,hh⟩:=bs' hh
  refine K0.intro hC Tryz.func187 rfl rfl rfl (s' rfl rfl (E0.n hC rfl (e' rfl (S' (p' 4 rfl (g' [3,4] (S13 hx1) rfl rfl rfl rfl rfl rfl (e' rfl (ci' rfl hh (fun hh=>?_) (fun hh=>?_)))))))))
  ·cases hh
   exact t' rfl (re' (rt' rfl rfl rfl))
  refine sk' (S' (t' rfl (bk' (t' rfl (ci' rfl hh (fun hh=>?_) (fun hh=>?_))))))
  ·exact t' rfl (bk' (fw' (ih2 _ _ _ _ _ _ hh) rfl rfl rfl))
  refine t' rfl (ci' rfl hh (fun hh=>?_) (fun hh=>?_))
  ·exact p' 2 rfl (qe' rfl trivial (A0.lenA _) (e' rfl (bk' (fw' (ih1 _ _ _ _ _ _ hh) rfl rfl rfl))))
  cases hh
  exact P' 2 rfl (E0.s hC rfl (n' (t' rfl (re' (rt' rfl rfl rfl)))))
 ·intro g0 g1 ih0 ih1 path t o11 o31 v46 res hh
  refine W0.unroll (t' rfl (S' (ci' rfl hh (fun hh=>?_) (fun hh=>?_))))
  ·obtain ⟨x4,hx4,hh⟩:=bs' hh
   obtain ⟨c29,hh⟩:=I1 hh
   obtain ⟨x5,hx5,hh⟩:=bs' hh
   obtain ⟨c30,hh⟩:=I1 hh
   obtain ⟨x7,hx7,hh⟩:=bs' hh
   refine sk' (S' (bk' (p' 1 rfl (i' rfl (U0 hx4) (A0.idx hx4) rfl (q' rfl (E0.nf hC rfl (q' rfl (E0.s hC rfl (n' (S' (AEx.draw hC 10 rfl rfl rfl (O' 2 rfl (AQ.q hC rfl c29 ?_)))))))))))))
   refine O' 3 rfl (AQ.i hC rfl (U0 hx5) (estr.idx hx5) rfl (Q' rfl (AQ.q hC rfl c30 (E' rfl (g' [0,1,2,3,4] (ih0 _ _ _ _ _ hx7) rfl rfl rfl rfl rfl rfl (e' rfl (ci' rfl hh (fun hh=>?_) (fun hh=>?_))))))))
   ·cases hh
    exact t' rfl (re' (rt' rfl rfl rfl))
   exact sk' (T' rfl (lw' (ih1 _ _ _ _ _ _ hh) rfl rfl rfl))
  cases hh
  exact ex' (t' rfl (re' (rt' rfl rfl rfl)))
 ·intro g0 g2 ih0 ih2 path t o1 o3 v25 res hh
  refine W0.unroll (t' rfl (S' (ci' rfl hh (fun hh=>?_) (fun hh=>?_))))
  ·obtain ⟨c27,hh⟩:=I1 hh
   obtain ⟨x2,hx2,hh⟩:=bs' hh
   obtain ⟨c28,hh⟩:=I1 hh
   obtain ⟨x3,hx3,hh⟩:=bs' hh
   obtain ⟨x6,hx6,hh⟩:=bs' hh
   refine sk' (S' (bk' (t' rfl (S' (AEx.draw hC 10 rfl rfl rfl (O' 2 rfl (AQ.q hC rfl c27 (Q' rfl (Qc' (M1y hx2) rfl rfl (AQ.q hC rfl c28 (O' 2 rfl (AQ.i hC rfl (U0 hx3) (A0.idx hx3) rfl (E' rfl ?_)))))))))))))
   refine g' [0,1,2,3,4] (ih0 _ _ _ _ _ hx6) rfl rfl rfl rfl rfl rfl (e' rfl (ci' rfl hh (fun hh=>?_) (fun hh=>?_)))
   ·cases hh
    exact t' rfl (re' (rt' rfl rfl rfl))
   exact sk' (T' rfl (lw' (ih2 _ _ _ _ _ _ hh) rfl rfl rfl))
  cases hh
  exact ex' (t' rfl (re' (rt' rfl rfl rfl)))
theorem K1a {path t s s1 res}(hh:A6 path t s s1=some res):Pw path t s s1 res:=(D18).1 _ _ _ _ _ hh
def Cq (t:A0)(s:List R0):Option (List R0):=
 A6 [] t 0 s>>=fun x1=>
 some x1.2.2
theorem W1f {t s res}(hh:Cq t s=some res):K0 C 119 [.agg (A0.cells t),.clo 120 [.ref 0 0]] [.row [.osl 1 (R0.rows s)] 113,.tok 117 4] (Ret [.row [.osl 1 (R0.rows res)] 113,.tok 117 4] (.tup [])):=by
 unfold Cq at hh
 obtain ⟨x1,hx1,hh⟩:=bs' hh
 cases hh
 refine K0.intro hC Tryz.func119 rfl rfl rfl (s' rfl rfl (E0.n hC rfl (E0.n hC rfl (n' (s' rfl rfl (E0.n hC rfl (E0.s hC rfl (n' (s' rfl rfl (E0.n hC rfl (n' (p' 1 rfl (E0.s hC rfl ?_)))))))))))))
 exact n' (P' 2 rfl (g' [3,4,5,0,1] (K1a hx1) rfl rfl rfl rfl rfl rfl (n' (rn' rfl rfl rfl))))
def Xl (t:A0):Option (List R0×Int):=
 Np t>>=fun x1=>
 if (x1 != 0)=true then
  some ([],x1)
 else
  Cq t []>>=fun x2=>
  some (x2,0)
theorem X1f {t res}(hh:Xl t=some res):K0 C 62 [.agg (A0.cells t)] [] (Ret [] (.tup [.d (.sl (R0.rows res.1)),.d (.int .i64 res.2)])):=by
 unfold Xl at hh
 obtain ⟨x1,hx1,hh⟩:=bs' hh
 refine K0.intro hC Tryz.func62 rfl rfl rfl (s' rfl rfl (E0.n hC rfl (e' rfl (S' (p' 1 rfl (c' (H1l hx1) rfl rfl (e' rfl (t' rfl (ci' rfl hh (fun hh=>?_) (fun hh=>?_))))))))))
 ·refine t' rfl (re' ?_)
  obtain rfl:=oi' hh
  exact ⟨_,.tup [.d (.sl (R0.rows [])),.d (.int .i64 x1)],[],rfl,(.tupL ⟨.full,.rfl,trivial⟩),trivial,rfl,rfl,rfl,rfl⟩
 obtain ⟨x2,hx2,hh⟩:=bs' hh
 refine sk' (s' rfl rfl (E0.nf hC rfl (E0.tokC 1 0 117 4 rfl rfl rfl rfl rfl (n' (p' 2 rfl (g' [1,2] (W1f hx2) rfl rfl rfl rfl rfl rfl (n' (t' rfl (re' ?_)))))))))
 obtain rfl:=oi' hh
 exact ⟨_,.tup [.d (.sl (R0.rows x2)),.d (.int .i64 0)],[],rfl,(.tupL ⟨.osl,.rfl,trivial⟩),trivial,rfl,rfl,rfl,rfl⟩
def We (a:Int)(b:Int):Option Int:=
 some (min (IntKind.i64.wrap (a * b)) 1073741824)
theorem Nn {a b res}(hh:We a b=some res):K0 C 63 [.d (.int .i64 a),.d (.int .i64 b)] [] (Ret [] (.d (.int .i64 res))):=by
 unfold We at hh
 cases hh
 exact K0.intro hC Tryz.func63 rfl rfl rfl (t' rfl (t' rfl (re' (rt' rfl rfl rfl))))
def Dk (a:Int)(b:Int):Option Int:=
 some (min (IntKind.i64.wrap (a+b)) 1073741824)
theorem Bp {a b res}(hh:Dk a b=some res):K0 C 203 [.d (.int .i64 a),.d (.int .i64 b)] [] (Ret [] (.d (.int .i64 res))):=by
 unfold Dk at hh
 cases hh
 exact K0.intro hC Tryz.func203 rfl rfl rfl (t' rfl (t' rfl (re' (rt' rfl rfl rfl))))
def C9 (a:O0)(b:O0):Option O0:=
 Dk a.steps b.steps>>=fun x1=>
 Dk a.outputs b.outputs>>=fun x2=>
 some (O0.mk x1 x2)
theorem Wo {a b res}(hh:C9 a b=some res):K0 C 164 [.agg (O0.cells a),.agg (O0.cells b)] [] (Ret [] (.agg (O0.cells res))):=by
 unfold C9 at hh
 obtain ⟨x1,hx1,hh⟩:=bs' hh
 obtain ⟨x2,hx2,hh⟩:=bs' hh
 cases hh
 refine K0.intro hC Tryz.func164 rfl rfl rfl (s' rfl rfl (E0.n hC rfl (E0.n hC rfl (E0.n hC rfl (n' (S' (AEx.draw hC 11 rfl rfl rfl (O' 4 rfl (Qc' (Bp hx1) rfl rfl (O' 4 rfl (Qc' (Bp hx2) rfl rfl (E' rfl (E0.s hC rfl ?_)))))))))))))
 exact n' (re' (rt' rfl rfl rfl))
def Ek (a:O0)(b:O0):Option O0:=
 some (O0.mk (max a.steps b.steps) (max a.outputs b.outputs))
theorem Az {a b res}(hh:Ek a b=some res):K0 C 204 [.agg (O0.cells a),.agg (O0.cells b)] [] (Ret [] (.agg (O0.cells res))):=by
 unfold Ek at hh
 cases hh
 exact K0.intro hC Tryz.func204 rfl rfl rfl (s' rfl rfl (E0.n hC rfl (E0.n hC rfl (E0.n hC rfl (n' (p' 11 rfl (E0.s hC rfl (n' (re' (rt' rfl rfl rfl))))))))))
def Hl (n:Int)(body:O0):Option O0:=
 Dk 1 body.steps>>=fun x1=>
 We n x1>>=fun x2=>
 We n body.outputs>>=fun x3=>
 some (O0.mk x2 x3)
theorem Kt {n body res}(hh:Hl n body=some res):K0 C 205 [.d (.int .i64 n),.agg (O0.cells body)] [] (Ret [] (.agg (O0.cells res))):=by
 unfold Hl at hh
 obtain ⟨x1,hx1,hh⟩:=bs' hh
 obtain ⟨x2,hx2,hh⟩:=bs' hh
 obtain ⟨x3,hx3,hh⟩:=bs' hh
 cases hh
 refine K0.intro hC Tryz.func205 rfl rfl rfl (s' rfl rfl (E0.n hC rfl (E0.n hC rfl (n' (S' (AEx.draw hC 10 rfl rfl rfl (O' 3 rfl (Qc' (Bp hx1) rfl rfl (Qc' (Nn hx2) rfl rfl (O' 3 rfl (Qc' (Nn hx3) rfl rfl (E' rfl (E0.s hC rfl ?_)))))))))))))
 exact n' (re' (rt' rfl rfl rfl))
mutual
def E2 (l:List C0)(m:List (Str×O0)):Option O0:=
 Y4 l m (O0.mk 0 0) 0
 partial_fixpoint
def Y4 (l:List C0)(m:List (Str×O0))(o3:O0)(v11:Int):Option O0:=
 if (decide (v11 < ((l).length:Int)))=true then
  idx l v11>>=fun x1=>
  C9 o3 (O0.mk 1 0)>>=fun x2=>
  Ge x1 m>>=fun x3=>
  C9 x2 x3>>=fun x4=>
  Y4 l m x4 (IntKind.i64.wrap (v11+1))
 else
  some o3
 partial_fixpoint
def Ge (x:C0)(m:List (Str×O0)):Option O0:=
 if (x.Verb == 3)=true then
  some (O0.mk 0 1)
 else
  if (x.Verb == 1)=true then
   some (mgt x.Name m)>>=fun x1=>
   some (x1.getD O0.zero)
  else
   if (x.Verb == 5)=true then
    E2 x.Then m>>=fun x2=>
    E2 x.Else m>>=fun x3=>
    Ek x2 x3>>=fun x4=>
    some x4
   else
    if (x.Verb == 6)=true then
     E2 x.Then m>>=fun x5=>
     Hl x.NV x5>>=fun x6=>
     some x6
    else
     if (x.Verb == 7)=true then
      E2 x.Then m>>=fun x7=>
      Hl (IntKind.i64.wrap ((IntKind.i64.wrap (x.High - x.Low))+1)) x7>>=fun x8=>
      some x8
     else
      some (O0.mk 0 0)
 partial_fixpoint
end
abbrev Vm (l:List C0)(m:List (Str×O0))(res:O0):Prop:=K0 C 97 [.agg [.mp 0],.d (.sl (C0.rows l))] [.map (.s (O0.ents m))] (Ret [.map (.s (O0.ents m))] (.agg (O0.cells res)))
abbrev Fu (l:List C0)(m:List (Str×O0))(o3:O0)(v11:Int)(res:O0):Prop:=LM C 24 1 Tryz.f97 [1,1,0,1,4] [(2,.ref 1 0),(4,.ref 2 0),(5,.ref 3 0),(9,.d (.sl (C0.rows l))),(10,.d (.int .i64 ((l).length:Int))),(11,.d (.int .i64 v11))] [.map (.s (O0.ents m)),.row [.mp 0] 151,.row [.d (.int .i64 0),.d (.int .i64 0)] 85,.row (O0.cells o3) 85] (Ret [.map (.s (O0.ents m))] (.agg (O0.cells res)))
abbrev Bz (x:C0)(m:List (Str×O0))(res:O0):Prop:=K0 C 165 [.agg [.mp 0],.agg (C0.cells x)] [.map (.s (O0.ents m))] (Ret [.map (.s (O0.ents m))] (.agg (O0.cells res)))
theorem Lv (m:List (Str×O0)):(∀ l res,E2 l m=some res→Vm l m res)∧(∀ l o3 v11 res,Y4 l m o3 v11=some res→Fu l m o3 v11 res)∧(∀ x res,Ge x m=some res→Bz x m res):=by
 refine E2.mutual_partial_correctness m _ _ _ ?_ ?_ ?_
 ·intro g1 ih1 l res hh
  exact K0.intro hC Tryz.func97 rfl rfl rfl (s' rfl rfl (E0.n hC rfl (E0.n hC rfl (n' (p' 1 rfl (E0.n hC rfl (E0.s hC rfl (n' (S' (p' 1 rfl (qe' rfl trivial (C0.lenA _) (e' rfl (bk' (fw' (ih1 _ _ _ _ hh) rfl rfl rfl))))))))))))))
 ·intro g1 g2 ih1 ih2 l o3 v11 res hh
  refine W0.unroll (t' rfl (S' (ci' rfl hh (fun hh=>?_) (fun hh=>?_))))
  ·obtain ⟨x1,hx1,hh⟩:=bs' hh
   obtain ⟨x2,hx2,hh⟩:=bs' hh
   obtain ⟨x3,hx3,hh⟩:=bs' hh
   obtain ⟨x4,hx4,hh⟩:=bs' hh
   refine sk' (S' (bk' (s' rfl rfl (i' rfl (U0 hx1) (C0.idx hx1) rfl (q' rfl (E0.nf hC rfl (E0.s hC rfl (n' (AEx.draw hC 5 rfl rfl rfl (O' 2 rfl (Qc' (Wo hx2) rfl rfl (E' rfl (g' [0] (ih2 _ _ hx3) rfl rfl rfl rfl rfl rfl ?_)))))))))))))
   exact c' (Wo hx4) rfl rfl (E0.s hC rfl (n' (T' rfl (lw' (ih1 _ _ _ _ hh) rfl rfl rfl))))
  cases hh
  exact ex' (p' 1 rfl (E0.s hC rfl (n' (re' (rt' rfl rfl rfl)))))
 ·intro g0 ih0 x res hh
  refine K0.intro hC Tryz.func165 rfl rfl rfl (s' rfl rfl (E0.n hC rfl (E0.n hC rfl (E0.n hC rfl (n' (S' (t' rfl (bk' (t' rfl (ci' rfl hh (fun hh=>?_) (fun hh=>?_)))))))))))
  ·cases hh
   exact p' 1 rfl (E0.s hC rfl (n' (re' (rt' rfl rfl rfl))))
  refine t' rfl (ci' rfl hh (fun hh=>?_) (fun hh=>?_))
  ·obtain ⟨x1,hx1,hh⟩:=bs' hh
   cases hh
   exact p' 4 rfl (E0.me hC rfl (O0.lk hx1) (E0.s hC rfl (n' (re' (rt' rfl rfl rfl)))))
  refine t' rfl (ci' rfl hh (fun hh=>?_) (fun hh=>?_))
  ·obtain ⟨x2,hx2,hh⟩:=bs' hh
   obtain ⟨x3,hx3,hh⟩:=bs' hh
   obtain ⟨x4,hx4,hh⟩:=bs' hh
   cases hh
   refine S' (AEx.drawL hC 7 [3] [] [[.map (.s (O0.ents m)),.row [.mp 0] 151,.row (C0.cells x) 53,.row [.d (.int .i64 0),.d (.int .i64 0)] 85],[.map (.s (O0.ents m)),.row [.mp 0] 151,.row (C0.cells x) 53,.row [.d (.int .i64 0),.d (.int .i64 0)] 85]] rfl rfl rfl rfl rfl rfl rfl rfl rfl rfl (AS.q hC rfl rfl rfl rfl (AS.q hC rfl rfl rfl rfl (AS.q hC rfl rfl rfl rfl ?_))))
   exact AS.g [0] (ih0 _ _ hx2) rfl rfl rfl rfl rfl rfl rfl rfl rfl rfl rfl rfl (AS.q hC rfl rfl rfl rfl (AS.q hC rfl rfl rfl rfl (AS.q hC rfl rfl rfl rfl (AS.nil (g' [0] (ih0 _ _ hx3) rfl rfl rfl rfl rfl rfl (c' (Az hx4) rfl rfl (E0.s hC rfl (n' (re' (rt' rfl rfl rfl))))))))))
  refine t' rfl (ci' rfl hh (fun hh=>?_) (fun hh=>?_))
  ·obtain ⟨x5,hx5,hh⟩:=bs' hh
   obtain ⟨x6,hx6,hh⟩:=bs' hh
   cases hh
   refine S' (AEx.drawL hC 6 [5] [] [[.map (.s (O0.ents m)),.row [.mp 0] 151,.row (C0.cells x) 53,.row [.d (.int .i64 0),.d (.int .i64 0)] 85],[.map (.s (O0.ents m)),.row [.mp 0] 151,.row (C0.cells x) 53,.row [.d (.int .i64 0),.d (.int .i64 0)] 85]] rfl rfl rfl rfl rfl rfl rfl rfl rfl rfl (AS.q hC rfl rfl rfl rfl (AS.q hC rfl rfl rfl rfl (AS.q hC rfl rfl rfl rfl ?_))))
   exact AS.q hC rfl rfl rfl rfl (AS.q hC rfl rfl rfl rfl (AS.g [0] (ih0 _ _ hx5) rfl rfl rfl rfl rfl rfl rfl rfl rfl rfl rfl rfl (AS.nil (c' (Kt hx6) rfl rfl (E0.s hC rfl (n' (re' (rt' rfl rfl rfl))))))))
  refine t' rfl (ci' rfl hh (fun hh=>?_) (fun hh=>?_))
  ·obtain ⟨x7,hx7,hh⟩:=bs' hh
   obtain ⟨x8,hx8,hh⟩:=bs' hh
   cases hh
   refine S' (AEx.drawL hC 10 [9] [] [[.map (.s (O0.ents m)),.row [.mp 0] 151,.row (C0.cells x) 53,.row [.d (.int .i64 0),.d (.int .i64 0)] 85],[.map (.s (O0.ents m)),.row [.mp 0] 151,.row (C0.cells x) 53,.row [.d (.int .i64 0),.d (.int .i64 0)] 85]] rfl rfl rfl rfl rfl rfl rfl rfl rfl rfl (AS.q hC rfl rfl rfl rfl (AS.q hC rfl rfl rfl rfl (AS.q hC rfl rfl rfl rfl ?_))))
   iterate 6 refine AS.q hC rfl rfl rfl rfl ?_
   exact AS.g [0] (ih0 _ _ hx7) rfl rfl rfl rfl rfl rfl rfl rfl rfl rfl rfl rfl (AS.nil (c' (Kt hx8) rfl rfl (E0.s hC rfl (n' (re' (rt' rfl rfl rfl))))))
  cases hh
  exact sk' (p' 1 rfl (E0.s hC rfl (n' (re' (rt' rfl rfl rfl)))))
theorem Yl {l m res}(hh:E2 l m=some res):Vm l m res:=(Lv m).1 _ _ hh
def G4 (p:I0)(m2:List (Str×O0))(v11:Int):Option O0:=
 if (decide (v11 < ((p.Decls).length:Int)))=true then
  idx p.Decls v11>>=fun x1=>
  if (x1.Kind == 6)=true then
   E2 x1.Body m2>>=fun x2=>
   G4 p (mpt x1.Name x2 m2) (IntKind.i64.wrap (v11+1))
  else
   G4 p m2 (IntKind.i64.wrap (v11+1))
 else
  E2 p.Body m2>>=fun x3=>
  some x3
 partial_fixpoint
abbrev Pp (p:I0)(m2:List (Str×O0))(v11:Int)(res:O0):Prop:=LM C 31 0 Tryz.f45 [1,1,0,1,4] [(1,.ref 0 0),(2,.ref 1 0),(3,.ref 3 0),(9,.d (.sl (B0.rows p.Decls))),(10,.d (.int .i64 ((p.Decls).length:Int))),(11,.d (.int .i64 v11))] [.row (I0.cells p) 25,.row [.d (.int .i64 0),.d (.int .i64 0)] 85,.map (.s (O0.ents m2)),.row [.mp 2] 151] (Ret [] (.agg (O0.cells res)))
theorem Cz (p:I0):(∀ m2 v11 res,G4 p m2 v11=some res→Pp p m2 v11 res):=by
 refine G4.partial_correctness p _ ?_
 ·intro g0 ih0 m2 v11 res hh
  refine W0.unroll (t' rfl (S' (ci' rfl hh (fun hh=>?_) (fun hh=>?_))))
  ·obtain ⟨x1,hx1,hh⟩:=bs' hh
   refine sk' (S' (bk' (s' rfl rfl (i' rfl (U0 hx1) (B0.idx hx1) rfl (q' rfl (E0.nf hC rfl (E0.s hC rfl (n' (t' rfl (ci' rfl hh (fun hh=>?_) (fun hh=>?_)))))))))))
   ·obtain ⟨x2,hx2,hh⟩:=bs' hh
    refine AEx.drawL hC 8 [7] [] [[.row (I0.cells p) 25,.row [.d (.int .i64 0),.d (.int .i64 0)] 85,.map (.s (O0.ents m2)),.row [.mp 2] 151,.row (B0.cells x1) 59],[.row (I0.cells p) 25,.row [.d (.int .i64 0),.d (.int .i64 0)] 85,.map (.s (O0.ents m2)),.row [.mp 2] 151,.row (B0.cells x1) 59]] rfl rfl rfl rfl rfl rfl rfl rfl rfl rfl ?_
    iterate 7 refine AS.q hC rfl rfl rfl rfl ?_
    exact AS.g [2] (Yl hx2) rfl rfl rfl rfl rfl rfl rfl rfl rfl rfl rfl rfl (AS.nil (E0.ue hC rfl (O0.mput _ x2 _) rfl (n' (T' rfl (lw' (ih0 _ _ _ hh) rfl rfl rfl)))))
   exact sk' (T' rfl (lw' (ih0 _ _ _ hh) rfl rfl rfl))
  obtain ⟨x3,hx3,hh⟩:=bs' hh
  cases hh
  exact ex' (p' 3 rfl (g' [2] (Yl hx3) rfl rfl rfl rfl rfl rfl (E0.s hC rfl (n' (re' (rt' rfl rfl rfl))))))
theorem K10 {p m2 v11 res}(hh:G4 p m2 v11=some res):Pp p m2 v11 res:=(Cz p) _ _ _ hh
def Nf (p:I0):Option O0:=
 G4 p [] 0
theorem Wr {p res}(hh:Nf p=some res):K0 C 45 [.agg (I0.cells p)] [] (Ret [] (.agg (O0.cells res))):=by
 unfold Nf at hh
 refine K0.intro hC Tryz.func45 rfl rfl rfl (s' rfl rfl (E0.n hC rfl (E0.n hC rfl (n' (s' rfl rfl (E0.w rfl (q' rfl (E0.n hC rfl (E0.s hC rfl (n' (S' (p' 2 rfl (qe' rfl trivial (B0.lenA _) ?_)))))))))))))
 exact e' rfl (bk' (fw' (K10 hh) rfl rfl rfl))
end Go.Proofs.YtdkabnfphmmmnaaGreatDoor

