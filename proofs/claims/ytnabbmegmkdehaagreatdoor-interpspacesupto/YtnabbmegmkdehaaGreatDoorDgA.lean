/- A part of the proof of InterpSpaces. -/
import Derived.Test.YtnabbmegmkdehaaGreatDoorXxA
import Derived.Test.YtnabbmegmkdehaaGreatDoorAmF
import Derived.RangeFuncBox
import Derived.RangeFuncLeaves
import Derived.Shelf.Abstract
import Derived.WalkKit
import Derived.OwnWalkIn
import Derived.TacticsInMore
import Derived.LoopNIn
import Derived.LoopIn
import Derived.Maps.AppendAt
import Derived.Sort.OwnSortedInts
import Derived.Shelf.SlMaps.Clone
set_option linter.defProp false
set_option maxRecDepth 100000
set_option maxHeartbeats 4000000
set_option synthInstance.maxSize 20000
set_option linter.unusedVariables false
namespace Go.Proofs.YtnabbmegmkdehaaGreatDoor
open Tryz
open IntKind (i64)
open Go.Am
variable {gm:Nat}
variable {a b:Int}{k:Str}
instance:Nonempty (T1 C):=⟨hC⟩
def ebool.zero:Bool:=false
def ebool.row (x:Bool):Row:=[.bool x]
def ebool.rows (l:List Bool):List Row:=l.map ebool.row
def ebool.rows_map (l:List Bool):ebool.rows l=l.map ebool.row:=rfl
def ebool.ents (m:List (Str×Bool)):List (Str×Row):=Zl ebool.row m
def ebool.val (x:Bool):A:=.d (.bool x)
def ebool.lk {m:List (Str×Bool)}{x:Option Bool}(b:some (mgt k m)=some x):lkA (Ch k (ebool.ents m)) (ebool.val ebool.zero) false=ebool.val (x.getD ebool.zero):=M26 (h:=ebool.val) (λ_=>rfl) rfl b
def ebool.mput (k:Str)(x:Bool)(m:List (Str×Bool)):mput k (ebool.row x) (ebool.ents m)=ebool.ents (mpt k x m):=(Xw ebool.row k x m).symm
def estr.row (x:Str):Row:=[.str x]
def estr.rows (l:List Str):List Row:=l.map estr.row
def estr.rows_map (l:List Str):estr.rows l=l.map estr.row:=rfl
def estr.len (l:List Str):(estr.rows l).length=l.length:=Ww estr.rows_map l
def estr.sz (l:List Str):∀r∈estr.rows l,r.length=1:=Q10 estr.rows_map (λ_=>rfl) l
def estr.part {l x:List Str}(h:slc l a b=some x):a=(a.toNat:Int)/\b=(b.toNat:Int)/\a.toNat<=b.toNat/\b.toNat<=(estr.rows l).length/\estr.rows x=((estr.rows l).take b.toNat).drop a.toNat:=D16 estr.rows_map h
def ei64.zero:Int:=0
def ei64.leaf (x:Int):D:=.int .i64 x
def ei64.cells (l:List Int):List A:=l.map λx=>.d (ei64.leaf x)
def ei64.row (x:Int):Row:=[.int .i64 x]
def ei64.rows (l:List Int):List Row:=l.map ei64.row
def ei64.rows_map (l:List Int):ei64.rows l=l.map ei64.row:=rfl
def ei64.idx {l:List Int}{n x:Int}(h:idx l n=some x):(ei64.rows l)[n.toNat]?=some (ei64.row x):=K14 ei64.rows_map h
def ei64.app (l m:List Int):ei64.rows (l++m)=ei64.rows l++ei64.rows m:=X1h ei64.rows_map l m
def ei64.len (l:List Int):(ei64.rows l).length=l.length:=Ww ei64.rows_map l
def ei64.lenA (l:List Int):A.d (.int .i64 ((ei64.rows l).length:Nat))=A.d (.int .i64 (l.length:Nat)):=G1d ei64.rows_map l
def ei64.sz (l:List Int):∀r∈ei64.rows l,r.length=1:=Q10 ei64.rows_map (λ_=>rfl) l
def ei64.part {l x:List Int}(h:slc l a b=some x):a=(a.toNat:Int)/\b=(b.toNat:Int)/\a.toNat<=b.toNat/\b.toNat<=(ei64.rows l).length/\ei64.rows x=((ei64.rows l).take b.toNat).drop a.toNat:=D16 ei64.rows_map h
def ei64.val (x:Int):A:=.d (.int .i64 x)
def ei64.entsI (m:List (Int×Int)):List (Int×Row):=Am.entsI ei64.row m
def ei64.lkIT {k:Int}{m:List (Int×Int)}{x:Option Int}(b:some (L6 k m)=some x):lkA (Rq k (ei64.entsI m)) (ei64.val ei64.zero) true = .tup [ei64.val (x.getD ei64.zero),.d (.bool x.isSome)]:=O28 (h:=ei64.val) (λ_=>rfl) rfl b
def ei64.lkI {k:Int}{m:List (Int×Int)}{x:Option Int}(b:some (L6 k m)=some x):lkA (Rq k (ei64.entsI m)) (ei64.val ei64.zero) false=ei64.val (x.getD ei64.zero):=O2c (h:=ei64.val) (λ_=>rfl) rfl b
def ei64.mputI (k x:Int)(m:List (Int×Int)):Am.mputI k (ei64.row x) (ei64.entsI m)=ei64.entsI (Oh k x m):=(R1d ei64.row k x m).symm
def ei64.ne {l:List Int}(h:0<l.length):ei64.rows l≠[]:=λe=>by have:=ei64.len l;rw[e]at this;simp at this;omega
instance:Rw Bool:=⟨ebool.row,ebool.rows,1,ebool.rows_map,λ_=>rfl⟩
instance:Rw Str:=⟨estr.row,estr.rows,1,estr.rows_map,λ_=>rfl⟩
instance:Rw Int:=⟨ei64.row,ei64.rows,1,ei64.rows_map,λ_=>rfl⟩
structure A0 where
 K:Int
 Low:Int
 H:Int
 E:Int
 Name:Str
 O:List Str
 Of:List A0
def A0.zero:A0:=⟨0,0,0,0,[],[],[]⟩
instance:Inhabited A0:=⟨A0.zero⟩
mutual
def A0.rowX:A0->Row
 |.mk y0 y1 y2 y3 y4 y5 y6=>[.int .i64 y0,.int .i64 y1,.int .i64 y2,.int .i64 y3,.str y4,.sl (estr.rows y5),.sl (A0.rowsX y6)]
def A0.rowsX:List A0->List Row
 |[]=>[]
 |x::r=>A0.rowX x::A0.rowsX r
end
def A0.rows (l:List A0):List Row:=A0.rowsX l
def A0.row (x:A0):Row:=[.int .i64 x.K,.int .i64 x.Low,.int .i64 x.H,.int .i64 x.E,.str x.Name,.sl (estr.rows x.O),.sl (A0.rows x.Of)]
def A0.rows_map:∀l,A0.rows l=l.map A0.row
 |[]=>rfl
 |x::r=>by
  show A0.rowX x::A0.rows r=A0.row x::r.map A0.row;rw[A0.rows_map r];cases x;rfl
def A0.cells (x:A0):List A:=[.d (.int .i64 x.K),.d (.int .i64 x.Low),.d (.int .i64 x.H),.d (.int .i64 x.E),.d (.str x.Name),.d (.sl (estr.rows x.O)),.d (.sl (A0.rows x.Of))]
def A0.len (l:List A0):(A0.rows l).length=l.length:=Ww A0.rows_map l
def A0.sz (l:List A0):∀r∈A0.rows l,r.length=7:=Q10 A0.rows_map (λ_=>rfl) l
def A0.part {l x:List A0}(h:slc l a b=some x):a=(a.toNat:Int)/\b=(b.toNat:Int)/\a.toNat<=b.toNat/\b.toNat<=(A0.rows l).length/\A0.rows x=((A0.rows l).take b.toNat).drop a.toNat:=D16 A0.rows_map h
def A0.ents (m:List (Str×A0)):List (Str×Row):=Zl A0.row m
def A0.val (x:A0):A:=.agg (A0.cells x)
def A0.lkT {m:List (Str×A0)}{x:Option A0}(b:some (mgt k m)=some x):lkA (Ch k (A0.ents m)) (A0.val A0.zero) true = .tup [A0.val (x.getD A0.zero),.d (.bool x.isSome)]:=A2b (h:=A0.val) (λ_=>rfl) rfl b
def A0.mput (k:Str)(x:A0)(m:List (Str×A0)):mput k (A0.row x) (A0.ents m)=A0.ents (mpt k x m):=(Xw A0.row k x m).symm
structure D0 where
 Op:Int
 NV:Int
 Name:Str
 V:List D0
def D0.zero:D0:=⟨0,0,[],[]⟩
instance:Inhabited D0:=⟨D0.zero⟩
mutual
def D0.rowX:D0->Row
 |.mk y0 y1 y2 y3=>[.int .i64 y0,.int .i64 y1,.str y2,.sl (D0.rowsX y3)]
def D0.rowsX:List D0->List Row
 |[]=>[]
 |x::r=>D0.rowX x::D0.rowsX r
end
def D0.rows (l:List D0):List Row:=D0.rowsX l
def D0.row (x:D0):Row:=[.int .i64 x.Op,.int .i64 x.NV,.str x.Name,.sl (D0.rows x.V)]
def D0.rows_map:∀l,D0.rows l=l.map D0.row
 |[]=>rfl
 |x::r=>by
  show D0.rowX x::D0.rows r=D0.row x::r.map D0.row;rw[D0.rows_map r];cases x;rfl
def D0.cells (x:D0):List A:=[.d (.int .i64 x.Op),.d (.int .i64 x.NV),.d (.str x.Name),.d (.sl (D0.rows x.V))]
def D0.idx {l:List D0}{n:Int}{x:D0}(h:idx l n=some x):(D0.rows l)[n.toNat]?=some (D0.row x):=K14 D0.rows_map h
def D0.app (l m:List D0):D0.rows (l++m)=D0.rows l++D0.rows m:=X1h D0.rows_map l m
def D0.len (l:List D0):(D0.rows l).length=l.length:=Ww D0.rows_map l
def D0.sz (l:List D0):∀r∈D0.rows l,r.length=4:=Q10 D0.rows_map (λ_=>rfl) l
structure E0 where
 S:Int
 I:D0
 Value:D0
 Name:Str
 B:List D0
 NV:Int
 Low:Int
 H:Int
 j:List Int
 Then:List E0
 Else:List E0
def E0.zero:E0:=⟨0,⟨0,0,[],[]⟩,⟨0,0,[],[]⟩,[],[],0,0,0,[],[],[]⟩
instance:Inhabited E0:=⟨E0.zero⟩
mutual
def E0.rowX:E0->Row
 |.mk y0 y1 y2 y3 y4 y5 y6 y7 y8 y9 y10=>[.int .i64 y0,.int .i64 y1.Op,.int .i64 y1.NV,.str y1.Name,.sl (D0.rows y1.V),.int .i64 y2.Op,.int .i64 y2.NV,.str y2.Name,.sl (D0.rows y2.V),.str y3,.sl (D0.rows y4),.int .i64 y5,.int .i64 y6,.int .i64 y7,.sl (ei64.rows y8),.sl (E0.rowsX y9),.sl (E0.rowsX y10)]
def E0.rowsX:List E0->List Row
 |[]=>[]
 |x::r=>E0.rowX x::E0.rowsX r
end
def E0.rows (l:List E0):List Row:=E0.rowsX l
def E0.row (x:E0):Row:=[.int .i64 x.S,.int .i64 x.I.Op,.int .i64 x.I.NV,.str x.I.Name,.sl (D0.rows x.I.V),.int .i64 x.Value.Op,.int .i64 x.Value.NV,.str x.Value.Name,.sl (D0.rows x.Value.V),.str x.Name,.sl (D0.rows x.B),.int .i64 x.NV,.int .i64 x.Low,.int .i64 x.H,.sl (ei64.rows x.j),.sl (E0.rows x.Then),.sl (E0.rows x.Else)]
def E0.rows_map:∀l,E0.rows l=l.map E0.row
 |[]=>rfl
 |x::r=>by
  show E0.rowX x::E0.rows r=E0.row x::r.map E0.row;rw[E0.rows_map r];cases x;rfl
def E0.cells (x:E0):List A:=[.d (.int .i64 x.S),.d (.int .i64 x.I.Op),.d (.int .i64 x.I.NV),.d (.str x.I.Name),.d (.sl (D0.rows x.I.V)),.d (.int .i64 x.Value.Op),.d (.int .i64 x.Value.NV),.d (.str x.Value.Name),.d (.sl (D0.rows x.Value.V)),.d (.str x.Name),.d (.sl (D0.rows x.B)),.d (.int .i64 x.NV),.d (.int .i64 x.Low),.d (.int .i64 x.H),.d (.sl (ei64.rows x.j)),.d (.sl (E0.rows x.Then)),.d (.sl (E0.rows x.Else))]
structure C0 where
 K:Int
 Name:Str
 N:A0
 h:Int
 Value:D0
 P:List C0
 Vars:List C0
 Body:List E0
def C0.zero:C0:=⟨0,[],⟨0,0,0,0,[],[],[]⟩,0,⟨0,0,[],[]⟩,[],[],[]⟩
instance:Inhabited C0:=⟨C0.zero⟩
mutual
def C0.rowX:C0->Row
 |.mk y0 y1 y2 y3 y4 y5 y6 y7=>[.int .i64 y0,.str y1,.int .i64 y2.K,.int .i64 y2.Low,.int .i64 y2.H,.int .i64 y2.E,.str y2.Name,.sl (estr.rows y2.O),.sl (A0.rows y2.Of),.int .i64 y3,.int .i64 y4.Op,.int .i64 y4.NV,.str y4.Name,.sl (D0.rows y4.V),.sl (C0.rowsX y5),.sl (C0.rowsX y6),.sl (E0.rows y7)]
def C0.rowsX:List C0->List Row
 |[]=>[]
 |x::r=>C0.rowX x::C0.rowsX r
end
def C0.rows (l:List C0):List Row:=C0.rowsX l
def C0.row (x:C0):Row:=[.int .i64 x.K,.str x.Name,.int .i64 x.N.K,.int .i64 x.N.Low,.int .i64 x.N.H,.int .i64 x.N.E,.str x.N.Name,.sl (estr.rows x.N.O),.sl (A0.rows x.N.Of),.int .i64 x.h,.int .i64 x.Value.Op,.int .i64 x.Value.NV,.str x.Value.Name,.sl (D0.rows x.Value.V),.sl (C0.rows x.P),.sl (C0.rows x.Vars),.sl (E0.rows x.Body)]
def C0.rows_map:∀l,C0.rows l=l.map C0.row
 |[]=>rfl
 |x::r=>by
  show C0.rowX x::C0.rows r=C0.row x::r.map C0.row;rw[C0.rows_map r];cases x;rfl
def C0.cells (x:C0):List A:=[.d (.int .i64 x.K),.d (.str x.Name),.d (.int .i64 x.N.K),.d (.int .i64 x.N.Low),.d (.int .i64 x.N.H),.d (.int .i64 x.N.E),.d (.str x.N.Name),.d (.sl (estr.rows x.N.O)),.d (.sl (A0.rows x.N.Of)),.d (.int .i64 x.h),.d (.int .i64 x.Value.Op),.d (.int .i64 x.Value.NV),.d (.str x.Value.Name),.d (.sl (D0.rows x.Value.V)),.d (.sl (C0.rows x.P)),.d (.sl (C0.rows x.Vars)),.d (.sl (E0.rows x.Body))]
def C0.idx {l:List C0}{n:Int}{x:C0}(h:idx l n=some x):(C0.rows l)[n.toNat]?=some (C0.row x):=K14 C0.rows_map h
def C0.len (l:List C0):(C0.rows l).length=l.length:=Ww C0.rows_map l
def C0.lenA (l:List C0):A.d (.int .i64 ((C0.rows l).length:Nat))=A.d (.int .i64 (l.length:Nat)):=G1d C0.rows_map l
def C0.sz (l:List C0):∀r∈C0.rows l,r.length=17:=Q10 C0.rows_map (λ_=>rfl) l
def C0.part {l x:List C0}(h:slc l a b=some x):a=(a.toNat:Int)/\b=(b.toNat:Int)/\a.toNat<=b.toNat/\b.toNat<=(C0.rows l).length/\C0.rows x=((C0.rows l).take b.toNat).drop a.toNat:=D16 C0.rows_map h
def C0.flat (l:List C0):List A:=(C0.rows l).flatten.map A.d
def C0.ne {l:List C0}(h:0<l.length):C0.rows l≠[]:=λe=>by have:=C0.len l;rw[e]at this;simp at this;omega
def C0.flat_get {l:List C0}{i j:Nat}{x:C0}{d:D}(h:l[i]?=some x)(b:(C0.row x)[j]?=some d):(C0.flat l)[0+i*17+j]?=some (.d d):=by rw[Nat.zero_add];exact Am.flat_get C0.rows_map (λ_=>rfl) h b
def C0.flat_lt {l:List C0}{i j:Nat}{x:C0}(h:l[i]?=some x)(b:j<17):0+i*17+j<(C0.flat l).length:=by rw[Nat.zero_add];exact Am.flat_lt C0.rows_map (λ_=>rfl) h b
def C0.flat_set {l:List C0}{i j:Nat}{x y:C0}{d:D}(h:l[i]?=some x)(c:j<17)(b:C0.row y=(C0.row x).set j d):C0.flat (l.set i y)=N8 (C0.flat l) (0+i*17+j) [.d d]:=by rw[Nat.zero_add];exact Am.flat_set C0.rows_map (λ_=>rfl) h c b
structure I0 where
 Decls:List C0
 Body:List E0
def I0.zero:I0:=⟨[],[]⟩
instance:Inhabited I0:=⟨I0.zero⟩
def I0.row (x:I0):Row:=[.sl (C0.rows x.Decls),.sl (E0.rows x.Body)]
def I0.rows (l:List I0):List Row:=l.map I0.row
def I0.rows_map (l:List I0):I0.rows l=l.map I0.row:=rfl
def I0.cells (x:I0):List A:=[.d (.sl (C0.rows x.Decls)),.d (.sl (E0.rows x.Body))]
structure C1 where
 Q:Int
 e:Int
 U:Int
 d:Int
 Z:Int
 Y:Int
 W:Int
 a:Int
 f:Int
 J:Int
 b:Int
 c:Int
 G:Int
def C1.zero:C1:=⟨0,0,0,0,0,0,0,0,0,0,0,0,0⟩
instance:Inhabited C1:=⟨C1.zero⟩
def C1.row (x:C1):Row:=[.int .i64 x.Q,.int .i64 x.e,.int .i64 x.U,.int .i64 x.d,.int .i64 x.Z,.int .i64 x.Y,.int .i64 x.W,.int .i64 x.a,.int .i64 x.f,.int .i64 x.J,.int .i64 x.b,.int .i64 x.c,.int .i64 x.G]
def C1.rows (l:List C1):List Row:=l.map C1.row
def C1.rows_map (l:List C1):C1.rows l=l.map C1.row:=rfl
def C1.cells (x:C1):List A:=[.d (.int .i64 x.Q),.d (.int .i64 x.e),.d (.int .i64 x.U),.d (.int .i64 x.d),.d (.int .i64 x.Z),.d (.int .i64 x.Y),.d (.int .i64 x.W),.d (.int .i64 x.a),.d (.int .i64 x.f),.d (.int .i64 x.J),.d (.int .i64 x.b),.d (.int .i64 x.c),.d (.int .i64 x.G)]
structure O1 where
 x:List Int
 z:List Int
 y:List Int
def O1.zero:O1:=⟨[],[],[]⟩
instance:Inhabited O1:=⟨O1.zero⟩
def O1.row (x:O1):Row:=[.sl (ei64.rows x.x),.sl (ei64.rows x.z),.sl (ei64.rows x.y)]
def O1.rows (l:List O1):List Row:=l.map O1.row
def O1.rows_map (l:List O1):O1.rows l=l.map O1.row:=rfl
def O1.cells (x:O1):List A:=[.d (.sl (ei64.rows x.x)),.d (.sl (ei64.rows x.z)),.d (.sl (ei64.rows x.y))]
structure N0 where
 nodes:Int
 depth:Int
 r:Bool
 o:Bool
 q:Bool
def N0.zero:N0:=⟨0,0,false,false,false⟩
instance:Inhabited N0:=⟨N0.zero⟩
def N0.row (x:N0):Row:=[.int .i64 x.nodes,.int .i64 x.depth,.bool x.r,.bool x.o,.bool x.q]
def N0.rows (l:List N0):List Row:=l.map N0.row
def N0.rows_map (l:List N0):N0.rows l=l.map N0.row:=rfl
def N0.cells (x:N0):List A:=[.d (.int .i64 x.nodes),.d (.int .i64 x.depth),.d (.bool x.r),.d (.bool x.o),.d (.bool x.q)]
structure L2 where
 place:Bool
 value:Bool
 name:Bool
 args:Bool
 n:Bool
 Ke:Bool
 Kd:Bool
 Kb:Bool
 Kc:Bool
def L2.zero:L2:=⟨false,false,false,false,false,false,false,false,false⟩
instance:Inhabited L2:=⟨L2.zero⟩
def L2.row (x:L2):Row:=[.bool x.place,.bool x.value,.bool x.name,.bool x.args,.bool x.n,.bool x.Ke,.bool x.Kd,.bool x.Kb,.bool x.Kc]
def L2.rows (l:List L2):List Row:=l.map L2.row
def L2.rows_map (l:List L2):L2.rows l=l.map L2.row:=rfl
def L2.cells (x:L2):List A:=[.d (.bool x.place),.d (.bool x.value),.d (.bool x.name),.d (.bool x.args),.d (.bool x.n),.d (.bool x.Ke),.d (.bool x.Kd),.d (.bool x.Kb),.d (.bool x.Kc)]
structure P0 where
 p:I0
 Kf:Int
 w:Bool
 names:List (Str×Bool)
def P0.zero:P0:=⟨⟨[],[]⟩,0,false,[]⟩
instance:Inhabited P0:=⟨P0.zero⟩
def P0.row (x:P0):Row:=[.sl (C0.rows x.p.Decls),.sl (E0.rows x.p.Body),.int .i64 x.Kf,.bool x.w,.mp (ebool.ents x.names)]
def P0.rows (l:List P0):List Row:=l.map P0.row
def P0.rows_map (l:List P0):P0.rows l=l.map P0.row:=rfl
structure L0 where
 l:A0
 fixed:Bool
def L0.zero:L0:=⟨⟨0,0,0,0,[],[],[]⟩,false⟩
instance:Inhabited L0:=⟨L0.zero⟩
def L0.row (x:L0):Row:=[.int .i64 x.l.K,.int .i64 x.l.Low,.int .i64 x.l.H,.int .i64 x.l.E,.str x.l.Name,.sl (estr.rows x.l.O),.sl (A0.rows x.l.Of),.bool x.fixed]
def L0.rows (l:List L0):List Row:=l.map L0.row
def L0.rows_map (l:List L0):L0.rows l=l.map L0.row:=rfl
def L0.cells (x:L0):List A:=[.d (.int .i64 x.l.K),.d (.int .i64 x.l.Low),.d (.int .i64 x.l.H),.d (.int .i64 x.l.E),.d (.str x.l.Name),.d (.sl (estr.rows x.l.O)),.d (.sl (A0.rows x.l.Of)),.d (.bool x.fixed)]
def L0.ents (m:List (Str×L0)):List (Str×Row):=Zl L0.row m
def L0.val (x:L0):A:=.agg (L0.cells x)
def L0.lkT {m:List (Str×L0)}{x:Option L0}(b:some (mgt k m)=some x):lkA (Ch k (L0.ents m)) (L0.val L0.zero) true = .tup [L0.val (x.getD L0.zero),.d (.bool x.isSome)]:=A2b (h:=L0.val) (λ_=>rfl) rfl b
def L0.mput (k:Str)(x:L0)(m:List (Str×L0)):mput k (L0.row x) (L0.ents m)=L0.ents (mpt k x m):=(Xw L0.row k x m).symm
structure J0 where
 around:Option J0
 vars:List (Str×L0)
def J0.zero:J0:=⟨none,[]⟩
instance:Inhabited J0:=⟨J0.zero⟩
mutual
def J0.rowX:J0->Row
 |.mk y0 y1=>[.bxo (J0.optX y0),.mp (L0.ents y1)]
def J0.optX:Option J0->Option Row
 |none=>none
 |some x=>some (J0.rowX x)
end
def J0.opt (x:Option J0):Option Row:=J0.optX x
def J0.row (x:J0):Row:=[.bxo (J0.opt x.around),.mp (L0.ents x.vars)]
def J0.rows (l:List J0):List Row:=l.map J0.row
def J0.rows_map (l:List J0):J0.rows l=l.map J0.row:=rfl
def J0.opt_some {x:Option J0}{y:J0}(h:x=some y):D.bxo (J0.opt x) = .bxo (some (J0.row y)):=by subst h;cases y;rfl
def J0.opt_nilB (x:Option J0):L1d (.bxo (J0.opt x))=some x.isNone:=by cases x<;>rfl
structure T0 where
 Kj:Str
 Bool:Bool
 Low:Int
 H:Int
def T0.zero:T0:=⟨[],false,0,0⟩
instance:Inhabited T0:=⟨T0.zero⟩
def T0.row (x:T0):Row:=[.str x.Kj,.bool x.Bool,.int .i64 x.Low,.int .i64 x.H]
def T0.rows (l:List T0):List Row:=l.map T0.row
def T0.rows_map (l:List T0):T0.rows l=l.map T0.row:=rfl
def T0.cells (x:T0):List A:=[.d (.str x.Kj),.d (.bool x.Bool),.d (.int .i64 x.Low),.d (.int .i64 x.H)]
def T0.idx {l:List T0}{n:Int}{x:T0}(h:idx l n=some x):(T0.rows l)[n.toNat]?=some (T0.row x):=K14 T0.rows_map h
def T0.lenA (l:List T0):A.d (.int .i64 ((T0.rows l).length:Nat))=A.d (.int .i64 (l.length:Nat)):=G1d T0.rows_map l
structure O0 where
 k:Int
 m:Int
def O0.zero:O0:=⟨0,0⟩
instance:Inhabited O0:=⟨O0.zero⟩
def O0.row (x:O0):Row:=[.int .i64 x.k,.int .i64 x.m]
def O0.rows (l:List O0):List Row:=l.map O0.row
def O0.rows_map (l:List O0):O0.rows l=l.map O0.row:=rfl
def O0.cells (x:O0):List A:=[.d (.int .i64 x.k),.d (.int .i64 x.m)]
def O0.ents (m:List (Str×O0)):List (Str×Row):=Zl O0.row m
def O0.val (x:O0):A:=.agg (O0.cells x)
def O0.lk {m:List (Str×O0)}{x:Option O0}(b:some (mgt k m)=some x):lkA (Ch k (O0.ents m)) (O0.val O0.zero) false=O0.val (x.getD O0.zero):=M26 (h:=O0.val) (λ_=>rfl) rfl b
def O0.mput (k:Str)(x:O0)(m:List (Str×O0)):mput k (O0.row x) (O0.ents m)=O0.ents (mpt k x m):=(Xw O0.row k x m).symm
structure J4 where
 x0:Int
 x1:Int
 x2:Int
 x3:Int
 x4:Int
 x5:Int
 x6:Int
 x7:Int
 x8:Int
 x9:Int
 Ki:Int
 Kh:Int
 Kg:Int
def J4.zero:J4:=⟨0,0,0,0,0,0,0,0,0,0,0,0,0⟩
instance:Inhabited J4:=⟨J4.zero⟩
def J4.row (x:J4):Row:=[.int .i64 x.x0,.int .i64 x.x1,.int .i64 x.x2,.int .i64 x.x3,.int .i64 x.x4,.int .i64 x.x5,.int .i64 x.x6,.int .i64 x.x7,.int .i64 x.x8,.int .i64 x.x9,.int .i64 x.Ki,.int .i64 x.Kh,.int .i64 x.Kg]
def J4.rows (l:List J4):List Row:=l.map J4.row
def J4.rows_map (l:List J4):J4.rows l=l.map J4.row:=rfl
def J4.cells (x:J4):List A:=[.d (.int .i64 x.x0),.d (.int .i64 x.x1),.d (.int .i64 x.x2),.d (.int .i64 x.x3),.d (.int .i64 x.x4),.d (.int .i64 x.x5),.d (.int .i64 x.x6),.d (.int .i64 x.x7),.d (.int .i64 x.x8),.d (.int .i64 x.x9),.d (.int .i64 x.Ki),.d (.int .i64 x.Kh),.d (.int .i64 x.Kg)]
structure Z0 where
 kind:A0
 t:List Int
def Z0.zero:Z0:=⟨⟨0,0,0,0,[],[],[]⟩,[]⟩
instance:Inhabited Z0:=⟨Z0.zero⟩
def Z0.row (x:Z0):Row:=[.int .i64 x.kind.K,.int .i64 x.kind.Low,.int .i64 x.kind.H,.int .i64 x.kind.E,.str x.kind.Name,.sl (estr.rows x.kind.O),.sl (A0.rows x.kind.Of),.sl (ei64.rows x.t)]
def Z0.rows (l:List Z0):List Row:=l.map Z0.row
def Z0.rows_map (l:List Z0):Z0.rows l=l.map Z0.row:=rfl
def Z0.cells (x:Z0):List A:=[.d (.int .i64 x.kind.K),.d (.int .i64 x.kind.Low),.d (.int .i64 x.kind.H),.d (.int .i64 x.kind.E),.d (.str x.kind.Name),.d (.sl (estr.rows x.kind.O)),.d (.sl (A0.rows x.kind.Of)),.d (.sl (ei64.rows x.t))]
def Z0.ents (m:List (Str×Z0)):List (Str×Row):=Zl Z0.row m
def Z0.val (x:Z0):A:=.agg (Z0.cells x)
def Z0.lk {m:List (Str×Z0)}{x:Option Z0}(b:some (mgt k m)=some x):lkA (Ch k (Z0.ents m)) (Z0.val Z0.zero) false=Z0.val (x.getD Z0.zero):=M26 (h:=Z0.val) (λ_=>rfl) rfl b
def Z0.mput (k:Str)(x:Z0)(m:List (Str×Z0)):mput k (Z0.row x) (Z0.ents m)=Z0.ents (mpt k x m):=(Xw Z0.row k x m).symm
structure Y0 where
 kind:A0
 t:Nat×Nat
def Y0.zero:Y0:=⟨⟨0,0,0,0,[],[],[]⟩,(0,0)⟩
instance:Inhabited Y0:=⟨Y0.zero⟩
def Y0.row (gm:Nat)(x:Y0):Row:=[.int .i64 x.kind.K,.int .i64 x.kind.Low,.int .i64 x.kind.H,.int .i64 x.kind.E,.str x.kind.Name,.sl (estr.rows x.kind.O),.sl (A0.rows x.kind.Of),.csl gm x.t.1 0 x.t.2]
def Y0.opt (gm:Nat)(x:Option Y0):Option Row:=x.map (Y0.row gm)
def Y0.opt_some {gm:Nat}{x:Option Y0}{y:Y0}(h:x=some y):D.bxo (Y0.opt gm x) = .bxo (some (Y0.row gm y)):=by subst h;rfl
def ArenaP.zero:Option Y0:=none
def ArenaP.row (gm:Nat)(x:Option Y0):Row:=[.bxo (Y0.opt gm x)]
def ArenaP.ents (gm:Nat)(m:List (Str×Option Y0)):List (Str×Row):=Zl (ArenaP.row gm) m
def ArenaP.lkw {gm:Nat}{m:List (Str×Option Y0)}{x:Option (Option Y0)}(b:some (mgt k m)=some x):LeA (.d (.bxo (Y0.opt gm (x.getD ArenaP.zero)))) (lkA (Ch k (ArenaP.ents gm m)) (.d (.nilv .ptr)) false):=by
 cases b;rw[ArenaP.ents,L14];cases mgt k m with
 |none=>exact .nbx
 |some y=>exact .rfl
def ArenaP.lkwT {gm:Nat}{m:List (Str×Option Y0)}{x:Option (Option Y0)}(b:some (mgt k m)=some x):LeA (.tup [.d (.bxo (Y0.opt gm (x.getD ArenaP.zero))),.d (.bool x.isSome)]) (lkA (Ch k (ArenaP.ents gm m)) (.d (.nilv .ptr)) true):=by
 cases b;rw[ArenaP.ents,L14];cases mgt k m with
 |none=>exact .tupL ⟨.nbx,.rfl,trivial⟩
 |some y=>exact .rfl
def ArenaP.mput {gm:Nat}(k:Str)(x:Option Y0)(m:List (Str×Option Y0)):mput k (ArenaP.row gm x) (ArenaP.ents gm m)=ArenaP.ents gm (mpt k x m):=(Xw (ArenaP.row gm) k x m).symm
structure J1 where
 g:List Int
 i:Int
def J1.zero:J1:=⟨[],0⟩
instance:Inhabited J1:=⟨J1.zero⟩
def J1.row (x:J1):Row:=[.sl (ei64.rows x.g),.int .i64 x.i]
def J1.rows (l:List J1):List Row:=l.map J1.row
def J1.rows_map (l:List J1):J1.rows l=l.map J1.row:=rfl
def J1.cells (x:J1):List A:=[.d (.sl (ei64.rows x.g)),.d (.int .i64 x.i)]
structure X0 where
 decls:List C0
 L:C1
 M:J1
def X0.zero:X0:=⟨[],⟨0,0,0,0,0,0,0,0,0,0,0,0,0⟩,[],0⟩
instance:Inhabited X0:=⟨X0.zero⟩
structure D5 where
 x0:C1
 x1:C1
def D5.zero:D5:=⟨⟨0,0,0,0,0,0,0,0,0,0,0,0,0⟩,0,0,0,0,0,0,0,0,0,0,0,0,0⟩
instance:Inhabited D5:=⟨D5.zero⟩
def D5.row (x:D5):Row:=[.int .i64 x.x0.Q,.int .i64 x.x0.e,.int .i64 x.x0.U,.int .i64 x.x0.d,.int .i64 x.x0.Z,.int .i64 x.x0.Y,.int .i64 x.x0.W,.int .i64 x.x0.a,.int .i64 x.x0.f,.int .i64 x.x0.J,.int .i64 x.x0.b,.int .i64 x.x0.c,.int .i64 x.x0.G,.int .i64 x.x1.Q,.int .i64 x.x1.e,.int .i64 x.x1.U,.int .i64 x.x1.d,.int .i64 x.x1.Z,.int .i64 x.x1.Y,.int .i64 x.x1.W,.int .i64 x.x1.a,.int .i64 x.x1.f,.int .i64 x.x1.J,.int .i64 x.x1.b,.int .i64 x.x1.c,.int .i64 x.x1.G]
def D5.rows (l:List D5):List Row:=l.map D5.row
def D5.rows_map (l:List D5):D5.rows l=l.map D5.row:=rfl
structure Ca where
 x0:Str
 x1:Str
def Ca.zero:Ca:=⟨[],[]⟩
instance:Inhabited Ca:=⟨Ca.zero⟩
def Ca.row (x:Ca):Row:=[.str x.x0,.str x.x1]
def Ca.rows (l:List Ca):List Row:=l.map Ca.row
def Ca.rows_map (l:List Ca):Ca.rows l=l.map Ca.row:=rfl
structure U0 where
 nodes:Int
 depth:Int
def U0.zero:U0:=⟨0,0⟩
instance:Inhabited U0:=⟨U0.zero⟩
def U0.row (x:U0):Row:=[.int .i64 x.nodes,.int .i64 x.depth]
def U0.rows (l:List U0):List Row:=l.map U0.row
def U0.rows_map (l:List U0):U0.rows l=l.map U0.row:=rfl
def U0.cells (x:U0):List A:=[.d (.int .i64 x.nodes),.d (.int .i64 x.depth)]
structure Q0 where
 Name:Str
 N:A0
 Ka:Bool
def Q0.zero:Q0:=⟨[],⟨0,0,0,0,[],[],[]⟩,false⟩
instance:Inhabited Q0:=⟨Q0.zero⟩
def Q0.row (x:Q0):Row:=[.str x.Name,.int .i64 x.N.K,.int .i64 x.N.Low,.int .i64 x.N.H,.int .i64 x.N.E,.str x.N.Name,.sl (estr.rows x.N.O),.sl (A0.rows x.N.Of),.bool x.Ka]
def Q0.rows (l:List Q0):List Row:=l.map Q0.row
def Q0.rows_map (l:List Q0):Q0.rows l=l.map Q0.row:=rfl
def Q0.cells (x:Q0):List A:=[.d (.str x.Name),.d (.int .i64 x.N.K),.d (.int .i64 x.N.Low),.d (.int .i64 x.N.H),.d (.int .i64 x.N.E),.d (.str x.N.Name),.d (.sl (estr.rows x.N.O)),.d (.sl (A0.rows x.N.Of)),.d (.bool x.Ka)]
def Q0.len (l:List Q0):(Q0.rows l).length=l.length:=Ww Q0.rows_map l
def Q0.sz (l:List Q0):∀r∈Q0.rows l,r.length=9:=Q10 Q0.rows_map (λ_=>rfl) l
structure S0 where
 s:I0
 v:Int
 Vars:List Q0
 u:List Str
def S0.zero:S0:=⟨⟨[],[]⟩,0,[],[]⟩
instance:Inhabited S0:=⟨S0.zero⟩
def S0.row (x:S0):Row:=[.sl (C0.rows x.s.Decls),.sl (E0.rows x.s.Body),.int .i64 x.v,.sl (Q0.rows x.Vars),.sl (estr.rows x.u)]
def S0.rows (l:List S0):List Row:=l.map S0.row
def S0.rows_map (l:List S0):S0.rows l=l.map S0.row:=rfl
def S0.cells (x:S0):List A:=[.d (.sl (C0.rows x.s.Decls)),.d (.sl (E0.rows x.s.Body)),.d (.int .i64 x.v),.d (.sl (Q0.rows x.Vars)),.d (.sl (estr.rows x.u))]
structure F5 where
 x0:List Int
 x1:List Int
 x2:List Int
def F5.zero:F5:=⟨[],[],[]⟩
instance:Inhabited F5:=⟨F5.zero⟩
def F5.row (x:F5):Row:=[.sl (ei64.rows x.x0),.sl (ei64.rows x.x1),.sl (ei64.rows x.x2)]
def F5.rows (l:List F5):List Row:=l.map F5.row
def F5.rows_map (l:List F5):F5.rows l=l.map F5.row:=rfl
structure J2 where
 Name:Str
 N:A0
 Value:List Int
def J2.zero:J2:=⟨[],⟨0,0,0,0,[],[],[]⟩,[]⟩
instance:Inhabited J2:=⟨J2.zero⟩
def J2.row (x:J2):Row:=[.str x.Name,.int .i64 x.N.K,.int .i64 x.N.Low,.int .i64 x.N.H,.int .i64 x.N.E,.str x.N.Name,.sl (estr.rows x.N.O),.sl (A0.rows x.N.Of),.sl (ei64.rows x.Value)]
def J2.rows (l:List J2):List Row:=l.map J2.row
def J2.rows_map (l:List J2):J2.rows l=l.map J2.row:=rfl
structure H3 where
 Vars:List J2
 La:List Int
 g:List Int
 i:Int
def H3.zero:H3:=⟨[],[],[],0⟩
instance:Inhabited H3:=⟨H3.zero⟩
def H3.row (x:H3):Row:=[.sl (J2.rows x.Vars),.sl (ei64.rows x.La),.sl (ei64.rows x.g),.int .i64 x.i]
def H3.rows (l:List H3):List Row:=l.map H3.row
def H3.rows_map (l:List H3):H3.rows l=l.map H3.row:=rfl
structure U3 where
 decls:List C0
 L:C1
def U3.zero:U3:=⟨[],0,0,0,0,0,0,0,0,0,0,0,0,0⟩
instance:Inhabited U3:=⟨U3.zero⟩
def U3.row (x:U3):Row:=[.sl (C0.rows x.decls),.int .i64 x.L.Q,.int .i64 x.L.e,.int .i64 x.L.U,.int .i64 x.L.d,.int .i64 x.L.Z,.int .i64 x.L.Y,.int .i64 x.L.W,.int .i64 x.L.a,.int .i64 x.L.f,.int .i64 x.L.J,.int .i64 x.L.b,.int .i64 x.L.c,.int .i64 x.L.G]
def U3.rows (l:List U3):List Row:=l.map U3.row
def U3.rows_map (l:List U3):U3.rows l=l.map U3.row:=rfl
def esl_ApiDecl.row (x:List C0):Row:=[.sl (C0.rows x)]
def esl_ApiDecl.rows (l:List (List C0)):List Row:=l.map esl_ApiDecl.row
def esl_ApiDecl.rows_map (l:List (List C0)):esl_ApiDecl.rows l=l.map esl_ApiDecl.row:=rfl
def esl_ei64.row (x:List Int):Row:=[.sl (ei64.rows x)]
def esl_ei64.rows (l:List (List Int)):List Row:=l.map esl_ei64.row
def esl_ei64.rows_map (l:List (List Int)):esl_ei64.rows l=l.map esl_ei64.row:=rfl
def esl_ei64.zero:List Int:=[]
def esl_ei64.val (x:(List Int)):A:=.d (.sl (ei64.rows x))
def esl_ei64.entsI (m:List (Int×(List Int))):List (Int×Row):=Am.entsI esl_ei64.row m
def esl_ei64.lkIT {k:Int}{m:List (Int×(List Int))}{x:Option (List Int)}(b:some (L6 k m)=some x):lkA (Rq k (esl_ei64.entsI m)) (esl_ei64.val esl_ei64.zero) true = .tup [esl_ei64.val (x.getD esl_ei64.zero),.d (.bool x.isSome)]:=O28 (h:=esl_ei64.val) (λ_=>rfl) rfl b
def esl_ei64.mputI (k:Int)(x:(List Int))(m:List (Int×(List Int))):Am.mputI k (esl_ei64.row x) (esl_ei64.entsI m)=esl_ei64.entsI (Oh k x m):=(R1d esl_ei64.row k x m).symm
instance:Rw A0:=⟨A0.row,A0.rows,7,A0.rows_map,λ_=>rfl⟩
instance:Rw D0:=⟨D0.row,D0.rows,4,D0.rows_map,λ_=>rfl⟩
instance:Rw E0:=⟨E0.row,E0.rows,17,E0.rows_map,λ_=>rfl⟩
instance:Rw C0:=⟨C0.row,C0.rows,17,C0.rows_map,λ_=>rfl⟩
instance:Rw I0:=⟨I0.row,I0.rows,2,I0.rows_map,λ_=>rfl⟩
instance:Rw C1:=⟨C1.row,C1.rows,13,C1.rows_map,λ_=>rfl⟩
instance:Rw O1:=⟨O1.row,O1.rows,3,O1.rows_map,λ_=>rfl⟩
instance:Rw N0:=⟨N0.row,N0.rows,5,N0.rows_map,λ_=>rfl⟩
instance:Rw L2:=⟨L2.row,L2.rows,9,L2.rows_map,λ_=>rfl⟩
instance:Rw P0:=⟨P0.row,P0.rows,5,P0.rows_map,λ_=>rfl⟩
instance:Rw L0:=⟨L0.row,L0.rows,8,L0.rows_map,λ_=>rfl⟩
instance:Rw J0:=⟨J0.row,J0.rows,2,J0.rows_map,λ_=>rfl⟩
instance:Rw T0:=⟨T0.row,T0.rows,4,T0.rows_map,λ_=>rfl⟩
instance:Rw O0:=⟨O0.row,O0.rows,2,O0.rows_map,λ_=>rfl⟩
instance:Rw J4:=⟨J4.row,J4.rows,13,J4.rows_map,λ_=>rfl⟩
instance:Rw Z0:=⟨Z0.row,Z0.rows,8,Z0.rows_map,λ_=>rfl⟩
instance:Rw J1:=⟨J1.row,J1.rows,2,J1.rows_map,λ_=>rfl⟩
instance:Rw D5:=⟨D5.row,D5.rows,26,D5.rows_map,λ_=>rfl⟩
instance:Rw Ca:=⟨Ca.row,Ca.rows,2,Ca.rows_map,λ_=>rfl⟩
instance:Rw U0:=⟨U0.row,U0.rows,2,U0.rows_map,λ_=>rfl⟩
instance:Rw Q0:=⟨Q0.row,Q0.rows,9,Q0.rows_map,λ_=>rfl⟩
instance:Rw S0:=⟨S0.row,S0.rows,5,S0.rows_map,λ_=>rfl⟩
instance:Rw F5:=⟨F5.row,F5.rows,3,F5.rows_map,λ_=>rfl⟩
instance:Rw J2:=⟨J2.row,J2.rows,9,J2.rows_map,λ_=>rfl⟩
instance:Rw H3:=⟨H3.row,H3.rows,4,H3.rows_map,λ_=>rfl⟩
instance:Rw U3:=⟨U3.row,U3.rows,14,U3.rows_map,λ_=>rfl⟩
instance:Rw (List C0):=⟨esl_ApiDecl.row,esl_ApiDecl.rows,1,esl_ApiDecl.rows_map,λ_=>rfl⟩
instance:Rw (List Int):=⟨esl_ei64.row,esl_ei64.rows,1,esl_ei64.rows_map,λ_=>rfl⟩
abbrev dI (n:Int):A:=.d (.int .i64 n)
abbrev dB (b:Bool):A:=.d (.bool b)
abbrev V0 (l:List C0):A:=.d (.sl (C0.rows l))
abbrev X5 (l:List Int):A:=.d (.sl (ei64.rows l))
abbrev X1 (l:List E0):A:=.d (.sl (E0.rows l))
abbrev Y5 (l:List Str):A:=.d (.sl (estr.rows l))
abbrev T2 (l:List A0):A:=.d (.sl (A0.rows l))
abbrev Yb (l:List D0):A:=.d (.sl (D0.rows l))
abbrev Z7 (l:List T0):A:=.d (.sl (T0.rows l))
abbrev rtI:Int->A->F0->Prop:=λr=>Ret [] (.d (.int .i64 r))
abbrev rtB:Bool->A->F0->Prop:=λr=>Ret [] (.d (.bool r))
abbrev Ue:Int×Int->A->F0->Prop:=λr=>Ret [] (.tup [.d (.int .i64 r.1),.d (.int .i64 r.2)])
abbrev O2b:List Int×Int->A->F0->Prop:=λr=>Ret [] (.tup [.d (.sl (ei64.rows r.1)),.d (.int .i64 r.2)])
abbrev X3 (x:X0)(a b:Nat):Ob:=.row [.d (.sl (C0.rows x.decls)),.d (.int .i64 x.L.Q),.d (.int .i64 x.L.e),.d (.int .i64 x.L.U),.d (.int .i64 x.L.d),.d (.int .i64 x.L.Z),.d (.int .i64 x.L.Y),.d (.int .i64 x.L.W),.d (.int .i64 x.L.a),.d (.int .i64 x.L.f),.d (.int .i64 x.L.J),.d (.int .i64 x.L.b),.d (.int .i64 x.L.c),.d (.int .i64 x.L.G),.mp a,.osl b (ei64.rows x.M.g),.d (.int .i64 x.M.i)] 88
abbrev G1 (x:A0):Ob:=.row (A0.cells x) 51
abbrev W0 (x:A0):A:=.agg (A0.cells x)
abbrev G1i (x:O0):Ob:=.row (O0.cells x) 218
abbrev Da (x:O0):A:=.agg (O0.cells x)
abbrev Ck:O0->A->F0->Prop:=λr=>Ret [] (.agg (O0.cells r))
abbrev Y1 (x:E0):Ob:=.row (E0.cells x) 111
abbrev Df (x:E0):A:=.agg (E0.cells x)
abbrev U1 (x:I0):Ob:=.row (I0.cells x) 25
abbrev S2 (x:I0):A:=.agg (I0.cells x)
abbrev L1t:I0->A->F0->Prop:=λr=>Ret [] (.agg (I0.cells r))
abbrev W1 (x:C0):Ob:=.row (C0.cells x) 57
abbrev M1t (x:C0):A:=.agg (C0.cells x)
abbrev U1k (x:T0):Ob:=.row (T0.cells x) 108
abbrev N3 (x:D0):Ob:=.row (D0.cells x) 55
abbrev A2 (x:D0):A:=.agg (D0.cells x)
abbrev R1p:D0->A->F0->Prop:=λr=>Ret [] (.agg (D0.cells r))
abbrev Nv (x:U0):Ob:=.row (U0.cells x) 164
abbrev Ng (x:U0):A:=.agg (U0.cells x)
abbrev H7:U0->A->F0->Prop:=λr=>Ret [] (.agg (U0.cells r))
abbrev Bl (x:C1):Ob:=.row (C1.cells x) 27
abbrev G5 (x:C1):A:=.agg (C1.cells x)
abbrev V1k:C1->A->F0->Prop:=λr=>Ret [] (.agg (C1.cells r))
abbrev B3 (x:S0):Ob:=.row (S0.cells x) 123
abbrev T4 (x:S0):A:=.agg (S0.cells x)
abbrev B10:S0->A->F0->Prop:=λr=>Ret [] (.agg (S0.cells r))
abbrev H1i (x:Q0):Ob:=.row (Q0.cells x) 240
abbrev Q14 (x:Q0):A:=.agg (Q0.cells x)
abbrev D1 (x:N0):Ob:=.row (N0.cells x) 265
abbrev L17 (x:L2):Ob:=.row (L2.cells x) 309
abbrev N1w (x:L2):A:=.agg (L2.cells x)
abbrev Tq (m:List (Str×A0)):Ob:=.map (.s (A0.ents m))
abbrev Qn (m:List (Str×L0)):Ob:=.map (.s (L0.ents m))
abbrev H4 (m:List (Str×O0)):Ob:=.map (.s (O0.ents m))
abbrev R0 (m:List (Str×Z0)):Ob:=.map (.s (Z0.ents m))
abbrev E1 (gm:Nat)(m:List (Str×Option Y0)):Ob:=.map (.s (ArenaP.ents gm m))
open Go.RowKit Go.Shelf
attribute [local go_sem] Oper.semAt_some
def upto (zs:List Int)(k:Nat):List Int:=(List.range k).map λj=>zs[j]?.getD 0
def S1p (zs:List Int)(k:Nat):upto zs (k+1)=upto zs k++[zs[k]?.getD 0]:=by simp[upto,List.range_succ]
def O1w (zs:List Int)(k:Nat):(upto zs k).length=k:=by simp[upto]
def D27 (zs:List Int):upto zs zs.length=zs:=by
 apply List.ext_getElem
 ·simp[upto]
 ·intro i c b;simp[upto,b]
def Y23 (zs:List Int){k:Nat}(b:k<=zs.length):upto zs k=zs.take k:=by
 apply List.ext_getElem
 ·simp[upto,b]
 ·intro i c d;have:i<zs.length:=by simp[upto]at c;omega
  simp[upto,this]
set_option maxRecDepth 100000 in
set_option maxHeartbeats 4000000 in
def E27 (F:Fence)(n:Nat)(h7:F.fn 216)(hro:F.round=none)(hn:1<=n)(l Bs n₀ b off len cap:Nat)(zs:List Int)(hreach:len*8<=140737488351232)(hb:b<n₀)(J Jx:List Int->World->Prop)
  (hY:∀pre x W,J pre W->pre.length<len->YieldAt F (n-1) Tryz.prog l #[.int .i64 x] W λe W'=>
   (e = .returned (.bool true)/\J (pre++[x]) W'/\Below n₀ W W')\/(e = .returned (.bool false)/\Jx (pre++[x]) W'))
  (W:World) (hBs:W.cell? ⟨Bs,0,none⟩=some (.slice (some ⟨b,off,none⟩) len cap)) (hc:∀j,j<len->W.cell? ⟨b,off+j,none⟩=some (.int .i64 (zs[j]?.getD 0))) (h0:J [] W) :
  CallsIn F n Tryz.prog 216 #[.func (.yield l) #[] #[],.pointer (some ⟨Bs,0,none⟩)] W λe W'=>(∃v,e = .returned v)/\
   ((∃ys,ys=upto zs len/\J ys W')\/(∃pre,(∃k,k<=len/\pre=upto zs k)/\Jx pre W')):=by
 refine callsIn_of_wp Tryz.func216 rfl h7 ?_ hro;simp only[Tryz.ntmps216,List.size_toArray,List.length_cons,List.length_nil,Nat.reduceAdd,Nat.reduceSub,Array.replicate_succ,Array.replicate_zero,List.push_toArray,List.append_toArray,List.nil_append,List.cons_append]
 gi_wp2
 gi_loopw [7] (λi wr=>∃k:Nat,k<=len/\i = .int .i64 k/\J (upto zs k) wr/\Below n₀ W wr)
  (λi _=>len-(intOf i).toNat)
 case atStart=>exact⟨0,Nat.zero_le _,rfl,h0,Below.refl _ _⟩
 case round=>
  obtain⟨k,hk,rfl,hJs,hnx⟩:=hrel;have hcx:k<len->wr.cell? ⟨b,off+k,none⟩=some (.int .i64 (zs[k]?.getD 0)):=λh=>(hnx.cell (p:=⟨b,off+k,none⟩) hb).trans (hc k h);by_cases hlt:k<len
  ·obtain⟨fn,tmps,assign,body,hy,hR⟩:=hY _ (zs[k]?.getD 0) wr hJs (by rw[O1w];exact hlt);have hcx':=hcx hlt
   gi_wp2
   refine hR.mono ?_;rintro e W3 (⟨rfl,hJ3,hk3⟩|⟨rfl,hJx3⟩)
   ·gi_wp2
    go_roundw
    case rel=>exact⟨k+1,by omega,by simp,by rw[S1p];exact hJ3,hnx.trans hk3⟩
    case measure=>simp[intOf];omega
   ·gi_wp2
    refine bodyPost_ret (results_none rfl _ _ _) rfl ?_;exact⟨⟨_,rfl⟩,.inr ⟨_,⟨k+1,by omega,(S1p _ _).symm⟩,hJx3⟩⟩
  ·obtain rfl:k=len:=by omega
   gi_wp2
   go_end0
   exact⟨⟨_,rfl⟩,.inl ⟨_,rfl,hJs⟩⟩
set_option maxRecDepth 100000 in
set_option maxHeartbeats 1000000 in
def N1t (F:Fence)(n:Nat)(h7:F.fn 216)(hro:F.round=none)(l Bs:Nat)(a:Option Addr)(cap:Nat)(J:List Int->World->Prop)(W:World)(hBs:W.cell? ⟨Bs,0,none⟩=some (.slice a 0 cap))(h0:J [] W) :
  CallsIn F n Tryz.prog 216 #[.func (.yield l) #[] #[],.pointer (some ⟨Bs,0,none⟩)] W λe W'=>(∃v,e = .returned v)/\J [] W':=by
 refine callsIn_of_wp Tryz.func216 rfl h7 ?_ hro;simp only[Tryz.ntmps216,List.size_toArray,List.length_cons,List.length_nil,Nat.reduceAdd,Nat.reduceSub,Array.replicate_succ,Array.replicate_zero,List.push_toArray,List.append_toArray,List.nil_append,List.cons_append]
 gi_wp2
 gi_loopw [7] (λi wr=>i = .int .i64 0/\J [] wr) (λ_ _=>0)
 case atStart=>exact⟨rfl,h0⟩
 case round=>
  obtain⟨rfl,hJs⟩:=hrel
  gi_wp2
  go_end0
  exact⟨⟨_,rfl⟩,hJs⟩
def P1a (n₀:Nat)(W:World)(sv:Value)(zs:List Int):Prop:=
 (∃a cap,sv = .slice a 0 cap/\zs=[])\/∃b off cap,sv = .slice (some ⟨b,off,none⟩) zs.length cap/\b<n₀/\∀j,j<zs.length->W.cell? ⟨b,off+j,none⟩=some (.int .i64 (zs[j]?.getD 0))
def P1a.below {d:Nat}{A B:World}(h:Below d A B){u:Value}{zs:List Int}:P1a d A u zs->P1a d B u zs
 |.inl e=>.inl e
 |.inr ⟨b,c,r,e,v,hc⟩=>.inr ⟨b,c,r,e,v,λj x=>(h.cell (p:=⟨b,c+j,none⟩) v).trans (hc j x)⟩
def P20 (F:Fence)(n:Nat)(h7:F.fn 216)(z:F.round=none)(hn:1<=n)(r D:Nat)(X:Value)(zs:List Int)(c:zs.length*8<=140737488351232)(w:World)(I:r<w.heap.size)(O:D<=w.heap.size)
  (hc:w.cell? ⟨r,0,none⟩=some X) (hI:P1a D w X zs) :
  SeqStopsK F n Tryz.prog 216 #[.pointer (some ⟨r,0,none⟩)] (λx:Int=>#[Value.int .i64 x]) (Below D) (λV=>V=zs) (λv=>v <+: zs) zs.length w:=λl J Jx W Z _ _ hY Y=>by
 have y:=(Z.cell (p:=⟨r,0,none⟩) I).trans hc;rcases hI.below (Z.mono O)with⟨a,d,rfl,rfl⟩|⟨b,U,d,rfl,hb,T⟩
 ·exact(N1t F n h7 z l r a d J W y Y).mono λe W' ⟨B,u⟩=>⟨B,.inl ⟨_,rfl,u⟩⟩
 ·refine(E27 F n h7 z hn l r D b U zs.length d zs c hb J Jx hY W y T Y).mono ?_;rintro e W' ⟨B,⟨V,rfl,u⟩|⟨v,⟨k,hk,rfl⟩,u⟩⟩
  ·exact⟨B,.inl ⟨_,D27 zs,u⟩⟩
  ·exact⟨B,.inr ⟨_,by rw[Y23 zs hk];exact List.take_prefix _ _,u⟩⟩
open Go.RowKit Go.Shelf
attribute [local go_sem] Oper.semAt_some
def S2c:(Tryz.prog.info? 3).map (λi=>(i.zero,i.size,i.bytes))=some (some (.int .i64 0),1,8):=by kernel_rfl
set_option maxRecDepth 100000 in
set_option maxHeartbeats 4000000 in
def O1t (F:Fence)(n:Nat)(h3:F.fn 274)(h7:F.fn 216)(hro:F.round=none)(hn:3<=n)(Bs:Nat)(sv:Value)(zs:List Int)(hlen:zs.length<=maxLen)(hreach:zs.length*8<=140737488351232)(w:World)(hBs:Bs<w.heap.size)
  (hc:w.cell? ⟨Bs,0,none⟩=some sv) (hI:P1a w.heap.size w sv zs) :
  CallsIn F n Tryz.prog 274 #[.slice none 0 0,.func (.func 216) #[] #[.pointer (some ⟨Bs,0,none⟩)]] w λe W'=>∃v,e = .returned v/\W'.ownsRow w.heap.size 3 1 v zs.length (zs.map (Value.int .i64))/\Below w.heap.size w W':=by
 have h1:1<=n:=by omega
 obtain⟨i0,hi,hz0,hz1,hz2⟩:=info_parts S2c;refine callsIn_of_wp_marks Tryz.func274 rfl h3 ?_ hro;simp only[Tryz.ntmps274,List.size_toArray,List.length_cons,List.length_nil,Nat.reduceAdd,Nat.reduceSub,Array.replicate_succ,Array.replicate_zero,List.push_toArray,List.append_toArray,List.nil_append,List.cons_append]
 gi_wp2
 have bO:=Boxed.new w 28 (.slice none 0 0);have hB0:Below w.heap.size w (w.alloc (.cells #[.slice none 0 0] 28)):=(Below.refl _ w).alloc (Nat.le_refl _) _
 refine wpIn_rangeFunc_ownG hro h1 (gf:=216) (lb:=#[.pointer (some ⟨Bs,0,none⟩)]) rfl h7 (enters_of Tryz.func216 (by kernel_rfl) rfl)
  (P20 F (n-1) h7 hro (by omega) Bs w.heap.size sv zs hreach _ (by simp;omega) (by simp) ((hB0.cell (p:=⟨Bs,0,none⟩) hBs).trans hc) (hI.below hB0)) belowK_t (belowK_b (by simp)) (Below.refl _ _) (λ_=>rfl)
  (λpre W=>(∃v,Boxed W w.heap.size 28 v/\W.ownsRow w.heap.size 3 1 v pre.length (pre.map (Value.int .i64))/\True)/\Below w.heap.size w W)
  (λ_ _ _=>False)
  (OwnFrom.and (Own.from (holdsRow_own w.heap.size w.heap.size 28 3 1 (λpre:List Int=>pre.length) (λpre=>pre.map (Value.int .i64)) (λ_ _=>True)) _) (ownFrom_below (Nat.le_refl _) (by simp)))
  (λ_ _ _ _ _ hs _ _=>hs)
  ⟨⟨_,bO,World.ownsRow_nil _ _ _ _,trivial⟩,hB0⟩
  (λx=>{ tmps:=#[.slice none 0 0,.func (.func 216) #[] #[.pointer (some ⟨Bs,0,none⟩)],.pointer (some ⟨w.heap.size,0,none⟩),undef,.slice none 0 0,.int .i64 x,.func (.func 216) #[] #[.pointer (some ⟨Bs,0,none⟩)],.int .i64 x,undef,undef,undef,undef,undef],defers:=[] }) ?assign ?body ?done ?stop
 case assign=>
  intro l x W K hK
  gi_wp2
  exact hK
 case body=>
  rintro l pre x W ⟨⟨v,hv,hrow,_⟩,hB⟩ hlt;have hc:=hv.cell
  gi_wp2_with (gi_at_builtin;refine wpListIn_append_own _ rfl _ _ 28 rfl w.heap.size 3 i0 (.int .i64 0) 1 8 Tryz.underlying28 hi hz0 hz1 hz2 rfl (by decide) _ _ _ rfl (hrow.alloc _) ⟨W.heap.size,0,none⟩ 1 1 [.int .i64 x] rfl rfl (cell_one_new _ _ _) (by simp[Value.oneCell']) (by omega) (by omega) (by have:=hB.size;simp;omega) ?_;intro v' w1 hown' hgrow _;obtain⟨g',cap',rfl⟩:=ownsRow_succ hown';obtain⟨hv1,hv2,hr2,hk2,hb2⟩:=hv.appended (by decide) hrow hB.size (Nat.le_refl _) hown' hgrow;have hc1:=hv1.cell;have hf1:=hv1.frozen)
  exact⟨hk2.from _,hb2,⟨_,hv2,by simpa using hr2,trivial⟩,hB.trans hb2⟩
 case done=>
  rintro D ys W hD rfl ⟨⟨v,hv,hrow,_⟩,hB⟩ hK;have hc:=hv.cell
  gi_wp2
  refine⟨by simp,.inl ⟨_,_,rfl,run_takeDeferred hK,?_⟩⟩;exact⟨_,results_tmp rfl _ _ _,v,rfl,ownsRow_putObj hrow _ hK rfl,hB.trans (belowK_b (w:=w) (Nat.le_refl _) W D _ _ (by simp at hD;omega) hK rfl rfl)⟩
 case stop=>
  rintro D c pre W _ _ h _;exact h.elim
set_option maxHeartbeats 4000000 in
def Q20 (F:Fence)(n:Nat)(z:F.fn 214)(B:F.fn 274)(J:F.fn 216)(r:F.round=none)(O:4<=n)(u:Nat)(y:Value)(zs:List Int)(d:zs.length<=maxLen)(b:zs.length*8<=140737488351232)(w:World)(x:u<w.heap.size)
  (hc:w.cell? ⟨u,0,none⟩=some y) (I:P1a w.heap.size w y zs) :
  CallsIn F n Tryz.prog 214 #[.func (.func 216) #[] #[.pointer (some ⟨u,0,none⟩)]] w λe W'=>∃v,e = .returned v/\W'.ownsRow w.heap.size 3 1 v zs.length (zs.map (Value.int .i64))/\Below w.heap.size w W':=by
 have T:1<=n:=by omega
 refine callsIn_of_wp Tryz.func214 rfl z ?_ r;simp only[Tryz.ntmps214,List.size_toArray,List.length_cons,List.length_nil,Nat.reduceAdd,Nat.reduceSub,Array.replicate_succ,Array.replicate_zero,List.push_toArray,List.append_toArray,List.nil_append,List.cons_append]
 gi_wp2_with (gi_at_call 274;refine(O1t F (n-1) B J r (by omega) u y zs d b _ x hc I).mono ?_;rintro e U ⟨v,rfl,c,D⟩)
 go_ret
 exact⟨v,rfl,c,D⟩
open Go.RowKit Go.Shelf Go.Sort
attribute [local go_sem] Oper.semAt_some
def srt (zs:List Int):List Int:=zs.mergeSort λx y=>decide (x<=y)
def V29 (zs:List Int):(srt zs).length=zs.length:=by simp[srt]
set_option maxRecDepth 100000 in
set_option maxHeartbeats 4000000 in
def Z23 (F:Fence)(n:Nat)(h6:F.fn 139)(h8:F.fn 214)(h9:F.fn 215)(h3:F.fn 274)(h7:F.fn 216)(hro:F.round=none)(hn:5<=n)
  (hs1:∀p cap w,CallsIn F (n-1) Tryz.prog 215 #[.slice p 0 cap] w λe w'=>e = .returned (.tuple #[])/\w'=w)
  (hs2:∀(blk off cap:Nat) (zs:List Int) (w:World),Holds (Value.int .i64) w blk off zs.toArray->blk<w.heap.size->zs.length<4611686018427387904->CallsIn F (n-1) Tryz.prog 215 #[.slice (some ⟨blk,off,none⟩) zs.length cap] w λe w'=>
   e = .returned (.tuple #[])/\∃n os,w'=grow (putRow (Value.int .i64) (Sort.ahead w n) blk off (zs.mergeSort λx y=>decide (x<=y)).toArray) os)
  (Bs:Nat) (sv:Value) (zs:List Int) (hlen:zs.length<=maxLen) (hreach:zs.length*8<=140737488351232) (w:World) (hBs:Bs<w.heap.size)
  (hc:w.cell? ⟨Bs,0,none⟩=some sv) (hI:P1a w.heap.size w sv zs) :
  CallsIn F n Tryz.prog 139 #[.func (.func 216) #[] #[.pointer (some ⟨Bs,0,none⟩)]] w λe W'=>∃v,e = .returned v/\W'.ownsRow w.heap.size 3 1 v (srt zs).length ((srt zs).map (Value.int .i64))/\Below w.heap.size w W':=by
 have h1:1<=n:=by omega
 refine callsIn_of_wp Tryz.func139 rfl h6 ?_ hro;simp only[Tryz.ntmps139,List.size_toArray,List.length_cons,List.length_nil,Nat.reduceAdd,Nat.reduceSub,Array.replicate_succ,Array.replicate_zero,List.push_toArray,List.append_toArray,List.nil_append,List.cons_append]
 gi_wp2_with (gi_at_call 214;refine(Q20 F (n-1) h8 h3 h7 hro (by omega) Bs sv zs hlen hreach _ hBs hc hI).mono ?_;rintro e W ⟨v,rfl,hrow,hb⟩)
 rcases hrow.2 with⟨rfl,hz⟩|⟨g,cap,cur,rfl,hbase,hgb,r1,r2,r3,r4⟩
 ·have hss:zs=[]:=List.eq_nil_of_length_eq_zero hz;subst hss
  gi_wp2_with (gi_at_call 215;refine(hs1 none 0 W).mono ?_;rintro e w' ⟨rfl,rfl⟩)
  go_ret
  exact⟨_,rfl,by simpa[srt]using hrow,hb⟩
 ·have hH:=holds_of_blockI hgb (by simpa using r4);have hgl:g<W.heap.size:=(Array.getElem?_eq_some_iff.1 hgb).1
  gi_wp2_with (gi_at_call 215;refine(hs2 g 0 cap zs W hH hgl (by unfold maxLen at hlen;omega)).mono ?_;rintro e w' ⟨rfl,nn,os,rfl⟩)
  go_ret
  exact⟨_,rfl,by rw[V29];exact ownsRow_sortedI (by simp) hbase hgb r1 r2 r3,hb.grown (grownBy_sortedI _) hb.size (λj hj=>by cases hj;exact hbase)⟩
def P1t (r:Nat)(x:Value)(zs:List Int)(d:zs.length<=maxLen)(b:zs.length*8<=140737488351232)(w:World)(u:r<w.heap.size)
  (hc:w.cell? ⟨r,0,none⟩=some x) (z:P1a w.heap.size w x zs) :
  Calls Tryz.prog 139 #[.func (.func 216) #[] #[.pointer (some ⟨r,0,none⟩)]] w λe W'=>∃v,e = .returned v/\W'.ownsRow w.heap.size 3 1 v (srt zs).length ((srt zs).map (Value.int .i64))/\Below w.heap.size w W':=
 (callsIn_wide (n:=5)).1 (Z23 Fence.wide 5 trivial trivial trivial trivial trivial rfl (Nat.le_refl _) (λp c w=>callsIn_wide.2 (Tryz.slices_Sort_int_none p c w)) (λblk y c zs w I D B=>callsIn_wide.2 (Tryz.slices_Sort_int blk y c zs w I D B)) r x zs d b w u hc z)
open Go.Am
variable {gm:Nat}
def Y1d (l:List Int):Option (List Int):=if decide (l.length*8<=140737488351232)=true then some (srt l)else none
def W1k {l V}(hh:Y1d l=some V):B4 C 139 [.clo 216 [.ref 0 0]] [.row [.d (.sl (ei64.rows l))] 28] ((λr=>Ret [.row [.d (.sl (ei64.rows l))] 28] (.d (.sl (ei64.rows r)))) V):=by
 obtain⟨hs,hh⟩:=G6 hh;cases hh;refine B4.ownInts (t:=3) (O18 Tryz.func139 rfl rfl) λM G w T hg b0 a3 hl hr=>?_;obtain⟨b,I,g1,g2,g3,g4,g5,g6⟩:=a3.obj 0 _ rfl;have a1:b<w.heap.size:=(Array.getElem?_eq_some_iff.1 g2).1;have a6:0<T.size:=by rw[<-hl];exact Nat.one_pos
 have h0:=hr 0 _ T[0] rfl (Array.getElem?_eq_getElem a6);have a8:T = #[.func (.func 216) #[] #[.pointer (some ⟨b,0,none⟩)]]:=by
  have e:T[0] = .func (.func 216) #[] #[.pointer (some ⟨b,0,none⟩)]:=by
   generalize T[0]=v at h0;cases h0;rename_i cs X a5;have h1:0<cs.size:=by rw[<-X];exact Nat.one_pos
   have h2:=a5 0 _ cs[0] rfl (Array.getElem?_eq_getElem h1);have:cs = #[.pointer (some ⟨b,0,none⟩)]:=by
    apply Array.ext (by rw[<-X];rfl);intro i q1 q2;have:i=0:=by simp at q2;omega
    subst this;generalize cs[0]=c at h2;cases h2;rename_i h;rw[g1]at h;cases h;rfl
   rw[this]
  apply Array.ext (by rw[<-hl];rfl);intro i q1 q2;have:i=0:=by simp at q2;omega
  subst this;exact e
 subst a8;have U:0<I.size:=Nat.lt_of_lt_of_le Nat.one_pos g3;have z:F2 M (.sl (ei64.rows l)) I[0]:=by
  have:=g5 0 _ I[0] rfl (Array.getElem?_eq_getElem U);cases this;assumption
 have J:w.cell? ⟨b,0,none⟩=some I[0]:=by rw[Ye g2];exact Array.getElem?_eq_getElem U
 have B:(∀x∈l,InK .i64 x)/\l.length<=maxLen/\P1a w.heap.size w I[0] l:=by
  generalize I[0]=v at z;have O:ei64.rows l=l.map λx=>[D.int .i64 x]:=rfl;rw[O]at z;generalize hR:(l.map λx=>[D.int .i64 x])=R at z;cases z with
  |slnil=>
   have:l=[]:=List.map_eq_nil_iff.1 hR;subst this;exact⟨λ_ h=>absurd h List.not_mem_nil,Nat.zero_le _,.inl ⟨_,_,rfl,rfl⟩⟩
  |sl sz N1 hl hc hm a2 hz e1 e2=>
   subst hR;subst hl;rename_i a a4;have y:∀i x,l[i]?=some x->InK .i64 x/\w.cell? (a.add (i*sz))=some (.int .i64 x)/\M (a.add (i*sz))=some (.int .i64 x):=λi x B=>by
    have Z:(l.map λx=>[D.int .i64 x])[i]?=some [D.int .i64 x]:=by rw[List.getElem?_map,B];rfl
    have m1:=e1 i 0 _ _ Z rfl;have m2:=e2 i 0 _ _ Z rfl;rw[Nat.add_zero]at m1;generalize N1 i 0=u at m1 m2;cases m2;exact⟨by assumption,hg.cell m1 (.int (by assumption)),m1⟩
   rw[List.length_map]at hc;refine⟨λx B=>?_,Nat.le_trans hc hm,?_⟩
   ·obtain⟨i,hi⟩:=List.getElem?_of_mem B;exact(y i x hi).1
   ·cases l with
    |nil=>exact .inl ⟨_,_,rfl,rfl⟩
    |cons x r=>
     have a7:sz=1:=(hz 0 _ rfl).symm;subst a7;have Y:a.spot=none:=a2.resolve_left (by simp at hc;omega);obtain⟨ab,ao,a9⟩:=a;simp only at Y;subst Y;refine .inr ⟨ab,ao,a4,by rw[List.length_map],?_,λj hj=>?_⟩
     ·have:=hg.lt (y 0 x rfl).2.2;exact this
     ·have a0:=List.getElem?_eq_getElem hj;have:=(y j _ a0).2.1;rw[B5,Nat.mul_one]at this;rw[this,a0];rfl
 obtain⟨h1,h2,h3⟩:=B;refine⟨λx B=>h1 x ?_,P1t b I[0] l h2 (of_decide_eq_true (by simpa using hs)) w a1 J h3⟩;exact(List.mergeSort_perm l _).mem_iff.1 B
def T2c:Go.Shelf.Ren:=⟨λ|5=>213|7=>273|n=>n,λ|23=>83|25=>9|3=>99|n=>n,λ|n=>n⟩
def P2b:SlLaysW.n5 Tryz.prog T2c:={
 mixed:=by kernel_rfl
 f5:=⟨"maps.Clone[keyhole/interp.frame,string,*keyhole/interp.slot]",rfl,Tryz.func213.trans (congrArg some (by kernel_rfl))⟩
 f7:=Tryz.func273.trans (congrArg some (by kernel_rfl))
 t4:=Tryz.underlying4
 a4:=Tryz.isAgg4
 z4:=Tryz.sizeOf4
 v4:=Tryz.zeroValue4
 t20:=Tryz.underlying20
 a20:=Tryz.isAgg20
 z20:=Tryz.sizeOf20
 v20:=Tryz.zeroValue20
 t23:=Tryz.underlying83
 a23:=Tryz.isAgg83
 z23:=Tryz.sizeOf83
 v23:=Tryz.zeroValue83 }
def Pd (m:List (Str×Option Y0)):Option (List (Str×Option Y0)):=some m
def Rn {m d}(v:Pd m=some d):B4 C 213 [.mp 0] [.map (.s (ArenaP.ents gm m))] ((λr=>Ret [.map (.s (ArenaP.ents gm m)),.map (.s (ArenaP.ents gm r))] (.mp 1)) d):=by
 cases v;exact .mapsClone (O18 Tryz.func213 rfl rfl) λb u c w h=>AnyW.maps_Clone P2b b u c w h
variable {gm:Nat}
def R8 (l:List Str):Option (List Str):=if decide ((0+l.length)*17<=140737488355328)=true then some l else none
def Xz {l d:List Str}(v:R8 l=some d):B4 C 311 [Y5 l] [] (λx H'=>H'=[]/\x=Y5 d):=by
 obtain⟨c,v⟩:=G6 v;cases v;refine B4.intro hC func311 R R R ?_;refine AEx.seq ?_;refine AEx.regionN R R ?_;refine K0.q hC R trivial ?_;refine K0.nil ?_;refine AEx.seq ?_;refine AEx.seq ?_;refine AEx.regionN R R ?_;refine K0.q hC R trivial ?_;refine K0.z hC R λb u=>?_;refine K0.nil ?_;refine AEx.cond R (λy=>?_) (λy=>?_)
 ·obtain rfl:l=[]:=List.eq_nil_of_length_eq_zero (by have:=estr.len l;rw[u y]at this;exact this.symm);refine AEx.seq ?_;refine AEx.regionN R R ?_;refine K0.q hC R trivial ?_
  skip
  refine K0.nil ?_;refine AEx.ret ?_;exact⟨_,Y5 [],[],R,.full,trivial,R,R,R,R⟩
 ·refine AEx.skip ?_;refine AEx.seq ?_;refine AEx.regionN R R ?_;refine K0.b hC R ?_;refine K0.q hC R trivial ?_;refine K0.ap hC R (rs:=estr.rows l) R (λr B=>absurd B (List.not_mem_nil)) (estr.sz l) (B14 R (estr.len l) c) ?_;refine K0.q hC R trivial ?_;refine K0.nil ?_;refine AEx.ret ?_;exact⟨_,Y5 l,[],R,.osl,trivial,R,R,R,R⟩
def Tn (s:Str):Option D0:=some (D0.mk 3 0 s [])
def Un {s}:SP C 62 [.d (.str s)] [] (Tn s) R1p:=fi func62 R lz
def Ms (op:Int)(a b:D0):Option D0:=some (D0.mk op 0 [] [a,b])
def It {op a b}:SP C 63 [dI op,A2 a,A2 b] [] (Ms op a b) R1p:=fi func63 R (xo 12 R λ_ c=>K0.be hC R (D0.rows_map [a,b]).symm (yo c lz))
def Jw:Option I0:=Tn [120]>>=λr=>Tn [112,105,110]>>=λb=>Ms 10 b (D0.mk 0 2 [] [])>>=λc=>Ms 8 c (D0.mk 0 1 [] [])>>=λu=>Tn [120]>>=λd=>Ms 13 d (D0.mk 0 3 [] [])>>=λx=>Tn [112,105,110]>>=λv=>some (I0.mk [(C0.mk 1 [112,105,110] (A0.mk 1 0 9 0 [] [] []) 0 (D0.mk 0 0 [] []) [] [] []),(C0.mk 4 [120] (A0.mk 1 0 3 0 [] [] []) 0 (D0.mk 0 0 [] []) [] [] [])] [(E0.mk 0 r u [] [] 0 0 0 [] [] []),(E0.mk 5 (D0.mk 0 0 [] []) x [] [] 0 0 0 [] [(E0.mk 3 (D0.mk 0 0 [] []) v [] [] 0 0 0 [] [] [])] [(E0.mk 4 (D0.mk 0 0 [] []) (D0.mk 0 0 [] []) [] [] 5 0 0 [] [] [])])])
def I1i:SP C 35 [] [] Jw L1t:=fi func35 R (xo 21 R λ_ b=>K0.be hC R (C0.rows_map [(C0.mk 1 [112,105,110] (A0.mk 1 0 9 0 [] [] []) 0 (D0.mk 0 0 [] []) [] [] []),(C0.mk 4 [120] (A0.mk 1 0 3 0 [] [] []) 0 (D0.mk 0 0 [] []) [] [] [])]).symm (yo b (kc Un R λd=>kc Un R λ_=>kc It R λ_=>kc It R λr=>kc Un R λ_=>kc It R λu=>kc Un R λc=>xo 2 R λ_ b=>K0.be hC R (E0.rows_map [(E0.mk 3 (D0.mk 0 0 [] []) c [] [] 0 0 0 [] [] [])]).symm (yo b (xo 1 R λ_ b=>K0.be hC R (E0.rows_map [(E0.mk 4 (D0.mk 0 0 [] []) (D0.mk 0 0 [] []) [] [] 5 0 0 [] [] [])]).symm (yo b (xo 1 R λ_ b=>K0.be hC R (E0.rows_map [(E0.mk 0 d r [] [] 0 0 0 [] [] []),(E0.mk 5 (D0.mk 0 0 [] []) u [] [] 0 0 0 [] [(E0.mk 3 (D0.mk 0 0 [] []) c [] [] 0 0 0 [] [] [])] [(E0.mk 4 (D0.mk 0 0 [] []) (D0.mk 0 0 [] []) [] [] 5 0 0 [] [] [])])]).symm (yo b lz))))))))
def Q1t (l:List Int):Option C1:=idx l 0>>=λI=>idx l 1>>=λu=>idx l 2>>=λJ=>idx l 3>>=λy=>idx l 4>>=λD=>idx l 5>>=λB=>idx l 6>>=λv=>idx l 7>>=λx=>idx l 8>>=λz=>idx l 9>>=λr=>idx l 10>>=λc=>idx l 11>>=λb=>idx l 12>>=λd=>some (C1.mk I u J y D B v x z r c b d)
def P1w {l}:SP C 27 [X5 l] [] (Q1t l) V1k:=fi func27 R (ix R λ_=>ix R λ_=>ix R λ_=>ix R λ_=>ix R λ_=>ix R λ_=>ix R λ_=>ix R λ_=>ix R λ_=>ix R λ_=>ix R λ_=>ix R λ_=>ix R λ_=>lz)
def Kw:Option C1:=Q1t [1,1,1,2,1,1,0,1,1,3,8,1,1]>>=λb=>some b
def J1i:SP C 29 [] [] Kw V1k:=fi func29 R (kc P1w R λ_=>lz)
def Py (k:Int):Option (Bool×Bool):=some ((bif (decide (k>=0))then(decide (k<=6))else false),(bif (k==5)then true else(k==6)))
def Z1d {k}:SP C 283 [dI k] [] (Py k) (λr=>Ret [] (.tup [dB r.1,dB r.2])):=fi func283 R lz
def F1 (c:Bool)(b:N0):Option N0:=some (N0.mk b.nodes b.depth (bif b.r then true else(!c)) b.o b.q)
def Q1 {c b}:SP C 284 [.ref 0 0,dB c] [D1 b] (F1 c b) (λr=>Ret [D1 r] (.tup [])):=fi func284 R lz
def E3 (c d:List Str)(b:Int):Option Bool:=if decide (b<(c.length:Int))then idx c b>>=λu=>idx d b>>=λr=>if !(u==r)then some false else E3 c d (i64.wrap (b+1))else some true partial_fixpoint
def Bx (c r:List Str):∀b,LP C f333 0 [1,1,0,1,4] [(0,Y5 c),(1,Y5 r),(12,dI (c.length:Int)),(13,dI b)] [] (E3 c r b) rtB:=E3.partial_correctness c r _ (λ_ d b=>lu (ci R (ix R λ_=>ix R λ_=>ci R lz (lp (d _) R)) lz))
def S5 (c b:List Str):Option Bool:=if (c.length:Int)!=(b.length:Int)then some false else E3 c b 0
def Cp {c b}:SP C 333 [Y5 c,Y5 b] [] (S5 c b) rtB:=fi func333 R (ln Str R (ln Str R (ci R lz (ln Str R (lp (Bx _ _ _) R)))))
mutual
def Id (a b:A0):Option Bool:=(if bif (bif (bif (bif (a.K==b.K)then(a.Low==b.Low)else false)then(a.H==b.H)else false)then(a.E==b.E)else false)then(a.Name==b.Name)else false then S5 a.O b.O else some default)>>=λc=>(if bif (bif (bif (bif (bif (a.K==b.K)then(a.Low==b.Low)else false)then(a.H==b.H)else false)then(a.E==b.E)else false)then(a.Name==b.Name)else false)then c else false then C4 a.Of b.Of else some default)>>=λd=>some (bif (bif (bif (bif (bif (bif (a.K==b.K)then(a.Low==b.Low)else false)then(a.H==b.H)else false)then(a.E==b.E)else false)then(a.Name==b.Name)else false)then c else false)then d else false) partial_fixpoint
def C4 (c b:List A0):Option Bool:=if (c.length:Int)!=(b.length:Int)then some false else N2 c b 0 partial_fixpoint
def N2 (c d:List A0)(b:Int):Option Bool:=if decide (b<(c.length:Int))then idx c b>>=λu=>idx d b>>=λr=>Id u r>>=λv=>if !v then some false else N2 c d (i64.wrap (b+1))else some true partial_fixpoint
end
def Q1a:(∀a b,SP C 285 [W0 a,W0 b] [] (Id a b) rtB)/\(∀c u,SP C 334 [T2 c,T2 u,.clo 285 []] [] (C4 c u) rtB)/\(∀c u r,LP C f334 0 [1,1,0,1,4] [(1,T2 u),(2,.clo 285 []),(15,T2 c),(16,dI (c.length:Int)),(17,dI r)] [] (N2 c u r) rtB):=Id.mutual_partial_correctness _ _ _ (λ_ x a b=>fi func285 R (kg Cp R λ_=>kg (x _ _) R λ_=>lz)) (λ_ d c u=>fi func334 R (ln A0 R (ln A0 R (ci R lz (ln A0 R (lp (d _ _ _) R)))))) (λ_ _ v d c u r=>lu (ci R (ix R λ_=>ix R λ_=>kc (v _ _) R λ_=>ci R lz (lp (d _ _ _) R)) lz))
def Ea (d:Int)(b:N0):Option N0:=some (N0.mk b.nodes (max b.depth d) b.r b.o b.q)
def Rp {d b}:SP C 291 [.ref 0 0,dI d] [D1 b] (Ea d b) (λr=>Ret [D1 r] (.tup [])):=fi func291 R lz
def Z4 (n c b:Int):Option Bool:=some (bif (decide (n>=c))then(decide (n<=b))else false)
def T5 {n c b}:SP C 290 [dI n,dI c,dI b] [] (Z4 n c b) rtB:=fi func290 R lz
def C3 (c:Bool)(b:N0):Option N0:=some (N0.mk b.nodes b.depth b.r b.o (bif b.q then true else(!c)))
def K4 {c b}:SP C 289 [.ref 0 0,dB c] [D1 b] (C3 c b) (λr=>Ret [D1 r] (.tup [])):=fi func289 R lz
def Pu (c:Int):Option Bool:=some (bif (decide (c>=97))then(decide (c<=122))else false)
def E1g {c}:SP C 343 [.d (.int .u8 c)] [] (Pu c) rtB:=fi func343 R lz
def U12 (c:Int):Option Bool:=some (bif (decide (c>=48))then(decide (c<=57))else false)
def K1i {c}:SP C 344 [.d (.int .u8 c)] [] (U12 c) rtB:=fi func344 R lz
def Zb (s:Str)(b:Int):Option Bool:=if decide (b<(s.length:Int))then idx s b>>=λd=>Pu (d.toNat:Int)>>=λc=>(if (!c)&&(!(b==0))then idx s b else some default)>>=λu=>(if (!c)&&(!(b==0))then U12 (u.toNat:Int)else some default)>>=λr=>if bif (!c)then(bif (b==0)then true else(!r))else false then some false else Zb s (i64.wrap (b+1))else some (!(s==[])) partial_fixpoint
def A1e (s:Str):∀y,LP C f309 0 [1,0,1,4] [(0,.d (.str s)),(5,dI (s.length:Int)),(6,dI y)] [] (Zb s y) rtB:=Zb.partial_correctness s _ (λ_ v y=>lu (ci R (bn λ_ c=>xg 14 R λ_ u=>AG.x hC R R (λ_=>trivial) (λr=>⟨M8 c,Dn c⟩) (yg u R (kc E1g R λ_=>bn λ_ b=>xg 8 R λ_ u=>AG.x hC R R (λz=>⟨z,z,trivial⟩) (λr=>⟨M8 (P10 r b),Dn (P10 r b)⟩) (yg u R (kg K1i R λ_=>ci R lz (lp (v _) R)))))) lz))
def Qy (s:Str):Option Bool:=Zb s 0
def X1k {s}:SP C 309 [.d (.str s)] [] (Qy s) rtB:=fi func309 R (lp (A1e _ _) R)
def Sp (Fs:Str):Option Bool:=(if !(Fs==[])then Ou Fs [32]else some default)>>=λb=>if !(bif (!(Fs==[]))then(!b)else false)||(decide (1+Fs.length<=maxLen))then if !(bif (!(Fs==[]))then(!b)else false)||(decide (([32]++Fs).length+1<=maxLen))then (if bif (!(Fs==[]))then(!b)else false then Ou [32,116,121,112,101,32,115,101,99,114,101,116,32,112,117,98,108,105,99,32,114,97,110,100,111,109,32,118,97,114,32,104,97,116,99,104,32,102,117,110,99,32,114,101,116,117,114,110,32,98,101,103,105,110,32,101,110,100,32,98,111,111,108,32,105,110,116,32,97,114,114,97,121,32,111,102,32,114,101,99,111,114,100,32,116,114,117,101,32,102,97,108,115,101,32,99,97,108,108,32,114,101,108,101,97,115,101,32,111,117,116,112,117,116,32,119,97,105,116,32,105,102,32,101,108,115,101,32,119,104,105,108,101,32,108,105,109,105,116,32,102,111,114,32,116,111,32,115,101,116,116,108,101,32,109,105,110,32,109,97,120,32] (([32]++Fs)++[32])else some default)>>=λc=>some (bif (bif (!(Fs==[]))then(!b)else false)then c else false)else none else none
def F1g {Fs}:SP C 310 [.d (.str Fs)] [] (Sp Fs) rtB:=fi func310 R (kg ((λ_=>S1b)) R λ_=>ai λc=>xg 5 R λ_ r=>ag' R (λb=>⟨⟨b,trivial⟩,(c b)⟩) (yg r R (ai λu=>xg 0 R λ_ r=>ag' R (λb=>⟨⟨b,trivial⟩,(u b)⟩) (yg r R (kg ((λ_=>S1b)) R λ_=>lz)))))
def Ry (s:Str):Option Bool:=(if decide ((s.length:Int)<=12)then Qy s else some default)>>=λb=>(if bif (decide ((s.length:Int)<=12))then b else false then Sp s else some default)>>=λc=>some (bif (bif (decide ((s.length:Int)<=12))then b else false)then(!c)else false)
def Y1k {s}:SP C 244 [.d (.str s)] [] (Ry s) rtB:=fi func244 R (kg X1k R λ_=>kg F1g R λ_=>lz)
def Fn (s:Str):Option Bool:=Ry s>>=λb=>some b
def R14 {s}:SP C 157 [.d (.str s)] [] (Fn s) rtB:=fi func157 R (kc Y1k R λ_=>lz)
def H6 (s:Str)(b:N0):Option N0:=(if !b.o then Fn s else some default)>>=λc=>some (N0.mk b.nodes b.depth b.r (bif b.o then true else(!c)) b.q)
def Qd {s b}:SP C 287 [.ref 0 0,.d (.str s)] [D1 b] (H6 s b) (λr=>Ret [D1 r] (.tup [])):=fi func287 R (kg R14 R λ_=>lz)
mutual
def V6 (t:A0)(c:Int)(b:N0):Option N0:=Ea c (N0.mk (i64.wrap (b.nodes+1)) b.depth b.r b.o b.q)>>=λT=>F1 (bif (decide (t.K>=0))then(decide (t.K<=4))else false) T>>=λy=>F1 (bif (t.K==1)then true else(bif (t.Low==0)then(t.H==0)else false)) y>>=λU=>F1 (bif (t.K==2)then true else(t.E==0)) U>>=λD=>F1 (bif (t.K==4)then true else(t.Name==[])) D>>=λJ=>F1 (bif (t.K==3)then true else((t.O.length:Int)==0)) J>>=λv=>if t.K==2 then F1 ((t.Of.length:Int)==1) v>>=λz=>Z4 t.E 1 32>>=λB=>C3 B z>>=λI=>O8 t c I else if t.K==3 then F1 (bif (decide ((t.Of.length:Int)>=1))then((t.Of.length:Int)==(t.O.length:Int))else false) v>>=λd=>C3 (decide ((t.Of.length:Int)<=32)) d>>=λx=>O8 t c x else F1 ((t.Of.length:Int)==0) v>>=λu=>O8 t c u partial_fixpoint
def O8 (t:A0)(b:Int)(u:N0):Option N0:=if t.K==1 then Z4 t.Low (-1048576) 1048576>>=λc=>(if c=true then Z4 t.H t.Low 1048576 else some default)>>=λr=>C3 (bif c then r else false) u>>=λd=>P8 t b d else P8 t b u partial_fixpoint
def P8 (t:A0)(b:Int)(c:N0):Option N0:=if t.K==4 then H6 t.Name c>>=λd=>Ib t b d else Ib t b c partial_fixpoint
def Ib (t:A0)(b:Int)(c:N0):Option N0:=B6 t b c 0 partial_fixpoint
def B6 (t:A0)(b:Int)(d:N0)(c:Int):Option N0:=if decide (c<(t.O.length:Int))then idx t.O c>>=λu=>H6 u d>>=λr=>B6 t b r (i64.wrap (c+1))else I7 t b d 0 partial_fixpoint
def I7 (t:A0)(b:Int)(d:N0)(c:Int):Option N0:=if decide (c<(t.Of.length:Int))then idx t.Of c>>=λu=>V6 u (i64.wrap (b+1)) d>>=λr=>I7 t b r (i64.wrap (c+1))else some d partial_fixpoint
end
def Tx:(∀t b c,SP C 286 [.ref 0 0,W0 t,dI b] [D1 c] (V6 t b c) (λr=>Ret [D1 r] (.tup [])))/\(∀t b V,JP C f286 1 [1,1,1,1,1,1,1,1,1,1] [(0,.ref 0 0),(2,dI b),(4,.ref 1 0),(6,dB (t.K==1)),(9,dB (t.K==4))] [D1 V,G1 t] (O8 t b V) (λr=>Ret [D1 r] (.tup [])))/\(∀t b I,JP C f286 1 [1,1,1,1,1,1,1,1,1,1,1] [(0,.ref 0 0),(2,dI b),(4,.ref 1 0),(9,dB (t.K==4))] [D1 I,G1 t] (P8 t b I) (λr=>Ret [D1 r] (.tup [])))/\(∀t b B,JP C f286 1 [1,1,1,1,1,1,1,1,1,1,1,1] [(0,.ref 0 0),(2,dI b),(4,.ref 1 0)] [D1 B,G1 t] (Ib t b B) (λr=>Ret [D1 r] (.tup [])))/\(∀t b y d,LP C f286 1 [1,1,1,1,1,1,1,1,1,1,1,1,0,1,4] [(0,.ref 0 0),(2,dI b),(4,.ref 1 0),(145,Y5 t.O),(146,dI (t.O.length:Int)),(147,dI d)] [D1 y,G1 t] (B6 t b y d) (λr=>Ret [D1 r] (.tup [])))/\(∀t b D u,LP C f286 1 [1,1,1,1,1,1,1,1,1,1,1,1,1,1,4] [(0,.ref 0 0),(2,dI b),(156,T2 t.Of),(157,dI (t.Of.length:Int)),(158,dI u)] [D1 D] (I7 t b D u) (λr=>Ret [D1 r] (.tup []))):=V6.mutual_partial_correctness _ _ _ _ _ _ (λ_ x t b c=>fi func286 R (kh [0] Rp R λ_=>dr 9 4 R (kh [0] Q1 R λ_=>dr 12 25 R (kh [0] Q1 R λ_=>dr 7 4 R (kh [0] Q1 R λ_=>dr 7 4 R (kh [0] Q1 R λ_=>dr 8 4 R (ln Str R (kh [0] Q1 R λ_=>ci R (ln A0 R (kh [0] Q1 R λ_=>kc T5 R λ_=>kh [0] K4 R λ_=>jo 3 (x _ _ _) R)) (ci R (dr 14 1 R (ln A0 R (ln A0 R (ln Str R (kh [0] Q1 R λ_=>ln A0 R (kh [0] K4 R λ_=>jo 3 (x _ _ _) R)))))) (ln A0 R (kh [0] Q1 R λ_=>jo 3 (x _ _ _) R))))))))))) (λ_ J t b V=>ci R (dr 11 0 R (kc T5 R λ_=>kg T5 R λ_=>kh [0] K4 R λ_=>jo 2 (J _ _ _) R)) (jo 1 (J _ _ _) R)) (λ_ T t b I=>ci R (kh [0] Qd R λ_=>jo 2 (T _ _ _) R) (jo 1 (T _ _ _) R)) (λ_ v t b B=>ln Str R (lp (v _ _ _ _) R)) (λ_ _ v z t b y d=>lu (ci R (ix R λ_=>kh [0] Qd R λ_=>lp (v _ _ _ _) R) (ln A0 R (lp (z _ _ _ _) R)))) (λ_ _ U z t b D u=>lu (ci R (ix R λ_=>kh [0] (U _ _ _) R λ_=>lp (z _ _ _ _) R) lz))
mutual
def Fa (a b:D0):Option Bool:=(if bif (bif (a.Op==b.Op)then(a.NV==b.NV)else false)then(a.Name==b.Name)else false then D4 a.V b.V else some default)>>=λc=>some (bif (bif (bif (a.Op==b.Op)then(a.NV==b.NV)else false)then(a.Name==b.Name)else false)then c else false) partial_fixpoint
def D4 (c b:List D0):Option Bool:=if (c.length:Int)!=(b.length:Int)then some false else O2 c b 0 partial_fixpoint
def O2 (c d:List D0)(b:Int):Option Bool:=if decide (b<(c.length:Int))then idx c b>>=λu=>idx d b>>=λr=>Fa u r>>=λv=>if !v then some false else O2 c d (i64.wrap (b+1))else some true partial_fixpoint
end
def R1a:(∀a b,SP C 335 [A2 a,A2 b] [] (Fa a b) rtB)/\(∀c u,SP C 358 [Yb c,Yb u,.clo 335 []] [] (D4 c u) rtB)/\(∀c u r,LP C f358 0 [1,1,0,1,4] [(1,Yb u),(2,.clo 335 []),(15,Yb c),(16,dI (c.length:Int)),(17,dI r)] [] (O2 c u r) rtB):=Fa.mutual_partial_correctness _ _ _ (λ_ x a b=>fi func335 R (kg (x _ _) R λ_=>lz)) (λ_ d c u=>fi func358 R (ln D0 R (ln D0 R (ci R lz (ln D0 R (lp (d _ _ _) R)))))) (λ_ _ v d c u r=>lu (ci R (ix R λ_=>ix R λ_=>kc (v _ _) R λ_=>ci R lz (lp (d _ _ _) R)) lz))
def Hj (op:Int)(b:Bool):Option Int:=if b=true then some 1 else if op==5 then some 2 else if op==23 then some 3 else if bif (decide (op>=8))then(decide (op<=22))else false then some 2 else some (-1)
def Jt {op b}:JP C f336 0 [1,0,1,4,1,3,1] [(0,dI op),(3,dI op),(9,dB b)] [] (Hj op b) rtI:=ci R lz (ci R lz (ci R lz (ci R lz lz)))
def Ef (op:Int)(b:Bool):Option Int:=if b=true then some 0 else if op==4 then Hj op (op==4)else if op==6 then Hj op (op==6)else Hj op (op==7)
def Vn {op b}:JP C f336 0 [1,0,1,4,1] [(0,dI op),(3,dI op),(4,dB b)] [] (Ef op b) rtI:=ci R lz (ci R (jo 1 Jt R) (ci R (jo 1 Jt R) (jo 4 Jt R)))
def Lt (op:Int):Option Int:=if op==0 then Ef op (op==0)else if op==1 then Ef op (op==1)else if op==2 then Ef op (op==2)else Ef op (op==3)
def Z1k {op}:SP C 336 [dI op] [] (Lt op) rtI:=fi func336 R (ci R (jo 1 Vn R) (ci R (jo 1 Vn R) (ci R (jo 1 Vn R) (jo 4 Vn R))))
def Wn (b:D0):Option Bool:=if bif (b.Op==4)then true else(b.Op==5)then if (b.V.length:Int)==0 then some false else idx b.V 0>>=λc=>Wn c else some (b.Op==3) partial_fixpoint
def B1e:∀c,LP C f293 0 [1,0,4] [(1,.ref 0 0)] [N3 c] (Wn c) rtB:=Wn.partial_correctness _ (λ_ b c=>lu (ci R (ln D0 R (ci R lz (ix R λ_=>lp (b _) R))) lz))
def Mt (e:D0):Option Bool:=Wn e
def F16 {e}:SP C 293 [A2 e] [] (Mt e) rtB:=fi func293 R (lp (B1e _) R)
mutual
def U4 (e:D0)(c:Int)(b:N0):Option N0:=Ea c (N0.mk (i64.wrap (b.nodes+1)) b.depth b.r b.o b.q)>>=λz=>Lt e.Op>>=λu=>F1 (u==(e.V.length:Int)) z>>=λB=>F1 (bif (e.NV==0)then true else(e.Op==0)) B>>=λx=>F1 (bif (e.Name==[])then true else(bif (e.Op==3)then true else(e.Op==4))) x>>=λd=>if bif (e.Op==4)then true else(e.Op==5)then Mt e>>=λy=>F1 y d>>=λv=>S9 e c v else S9 e c d partial_fixpoint
def S9 (e:D0)(b:Int)(c:N0):Option N0:=if bif (e.Op==3)then true else(e.Op==4)then H6 e.Name c>>=λd=>Sd e b d else Sd e b c partial_fixpoint
def Sd (e:D0)(b:Int)(c:N0):Option N0:=if e.Op==0 then Z4 e.NV 0 1048576>>=λr=>C3 r c>>=λd=>Td e b d else Td e b c partial_fixpoint
def Td (e:D0)(b:Int)(c:N0):Option N0:=N5 e b c 0 partial_fixpoint
def N5 (e:D0)(b:Int)(d:N0)(c:Int):Option N0:=if decide (c<(e.V.length:Int))then idx e.V c>>=λu=>U4 u (i64.wrap (b+1)) d>>=λr=>N5 e b r (i64.wrap (c+1))else some d partial_fixpoint
end
def Uo:(∀e b c,SP C 294 [.ref 0 0,A2 e,dI b] [D1 c] (U4 e b c) (λr=>Ret [D1 r] (.tup [])))/\(∀e b J,JP C f294 1 [1,1,1,1,1,1,1,1] [(0,.ref 0 0),(2,dI b),(4,.ref 1 0),(6,dB (bif (e.Op==3)then true else(e.Op==4)))] [D1 J,N3 e] (S9 e b J) (λr=>Ret [D1 r] (.tup [])))/\(∀e b y,JP C f294 1 [1,1,1,1,1,1,1,1,1] [(0,.ref 0 0),(2,dI b),(4,.ref 1 0)] [D1 y,N3 e] (Sd e b y) (λr=>Ret [D1 r] (.tup [])))/\(∀e b v,JP C f294 1 [1,1,1,1,1,1,1,1,1,1] [(0,.ref 0 0),(2,dI b),(4,.ref 1 0)] [D1 v,N3 e] (Td e b v) (λr=>Ret [D1 r] (.tup [])))/\(∀e b d u,LP C f294 1 [1,1,1,1,1,1,1,1,1,1,1,4] [(0,.ref 0 0),(2,dI b),(80,Yb e.V),(81,dI (e.V.length:Int)),(82,dI u)] [D1 d] (N5 e b d u) (λr=>Ret [D1 r] (.tup []))):=U4.mutual_partial_correctness _ _ _ _ _ (λ_ B e b c=>fi func294 R (kh [0] Rp R λ_=>dr 8 4 R (kc Z1k R λ_=>ln D0 R (kh [0] Q1 R λ_=>dr 9 4 R (kh [0] Q1 R λ_=>dr 7 18 R (kh [0] Q1 R λ_=>ci R (kc F16 R λ_=>kh [0] Q1 R λ_=>jo 2 (B _ _ _) R) (jo 1 (B _ _ _) R))))))) (λ_ z e b J=>ci R (kh [0] Qd R λ_=>jo 2 (z _ _ _) R) (jo 1 (z _ _ _) R)) (λ_ D e b y=>ci R (kc T5 R λ_=>kh [0] K4 R λ_=>jo 2 (D _ _ _) R) (jo 1 (D _ _ _) R)) (λ_ x e b v=>ln D0 R (lp (x _ _ _ _) R)) (λ_ _ I x e b d u=>lu (ci R (ix R λ_=>kh [0] (I _ _ _) R λ_=>lp (x _ _ _ _) R) lz))
def I6 (e:D0)(c:Bool)(b:N0):Option N0:=(if !c then Fa e (D0.mk 0 0 [] [])else some default)>>=λr=>if bif (!c)then r else false then some b else F1 c b>>=λd=>U4 e 1 d>>=λu=>some u
def Kk {e c b}:SP C 288 [.ref 0 0,A2 e,dB c] [D1 b] (I6 e c b) (λr=>Ret [D1 r] (.tup [])):=fi func288 R (kg (R1a.1 _ _) R λ_=>ci R lz (kh [0] Q1 R λ_=>kh [0] (Uo.1 _ _ _) R λ_=>lz))
def Uq (v:Int):Option (L2×Bool):=if v==0 then some ((L2.mk true true false false false false false false false),true)else if v==1 then some ((L2.mk true false true true false false false false false),true)else if v==2 then some ((L2.mk true false true false false false false false false),true)else if v==3 then some ((L2.mk false true false false false false false false false),true)else if v==4 then some ((L2.mk false false false false true false false false false),true)else if v==5 then some ((L2.mk false true false false false false false true true),true)else if v==6 then some ((L2.mk false true false false true false false true false),true)else if v==7 then some ((L2.mk false false true false false true false true false),true)else if v==8 then some ((L2.mk false false false false false false true false false),true)else some ((L2.mk false false false false false false false false false),false)
def Z1b {v}:SP C 292 [dI v] [] (Uq v) (λr=>Ret [] (.tup [N1w r.1,dB r.2])):=fi func292 R (ci R lz (ci R lz (ci R lz (ci R lz (ci R lz (ci R lz (ci R lz (ci R lz (ci R lz lz)))))))))
def O6 (s:E0)(v:N0)(d b:Int):Option N0:=if decide (b<(s.j.length:Int))then idx s.j b>>=λc=>Z4 c 0 1048576>>=λu=>C3 (bif u then(decide (c>d))else false) v>>=λr=>O6 s r c (i64.wrap (b+1))else some v partial_fixpoint
def A12 (s:E0):∀u b c,LP C f295 1 [1,1,4,1,3,1,3,1,3,1,2,1,1,1,4] [(0,.ref 0 0),(5,dI b),(56,X5 s.j),(57,dI (s.j.length:Int)),(58,dI c)] [D1 u] (O6 s u b c) (λr=>Ret [D1 r] (.tup [])):=O6.partial_correctness s _ (λ_ d u b c=>lu (ci R (ix R λ_=>dr 8 6 R (kc T5 R λ_=>kh [0] K4 R λ_=>lp (d _ _ _) R)) lz))
def Ud (s:E0)(b:N0):Option N0:=if s.S==4 then Z4 s.NV 0 1048576>>=λz=>C3 z b>>=λd=>some d else if s.S==6 then Z4 s.NV 0 4096>>=λB=>C3 B b>>=λv=>some v else if s.S==7 then Z4 s.Low (-1048576) 1048576>>=λc=>(if c=true then Z4 s.H s.Low 1048576 else some default)>>=λy=>C3 (bif (bif c then y else false)then(decide ((i64.wrap (s.H-s.Low))<4096))else false) b>>=λr=>some r else if s.S==8 then Z4 (s.j.length:Int) 1 32>>=λu=>C3 u b>>=λx=>O6 s x (-1) 0 else some b
def S14 {s b}:SP C 295 [.ref 0 0,Df s] [D1 b] (Ud s b) (λr=>Ret [D1 r] (.tup [])):=fi func295 R (ci R (kc T5 R λ_=>kh [0] K4 R λ_=>lz) (ci R (kc T5 R λ_=>kh [0] K4 R λ_=>lz) (ci R (kc T5 R λ_=>kg T5 R λ_=>dr 10 6 R (kh [0] K4 R λ_=>lz)) (ci R (ln Int R (kc T5 R λ_=>kh [0] K4 R λ_=>ln Int R (lp (A12 _ _ _ _) R))) lz))))
mutual
def R5 (l:List E0)(c:Int)(b:N0):Option N0:=P7 l c b 0 partial_fixpoint
def P7 (l:List E0)(b:Int)(c:N0)(d:Int):Option N0:=if decide (d<(l.length:Int))then idx l d>>=λu=>Ea b (N0.mk (i64.wrap (c.nodes+1)) c.depth c.r c.o c.q)>>=λy=>Uq u.S>>=λv=>F1 v.2 y>>=λB=>I6 u.I v.1.place B>>=λx=>if v.1.place=true then Mt u.I>>=λD=>F1 D x>>=λz=>W8 l b z u v d else W8 l b x u v d else some c partial_fixpoint
def W8 (l:List E0)(b:Int)(x:N0)(d:E0)(x3:L2×Bool)(c:Int):Option N0:=I6 d.Value x3.1.value x>>=λv=>F1 (bif x3.1.name then true else(d.Name==[])) v>>=λu=>if x3.1.name=true then H6 d.Name u>>=λr=>X8 l b r d x3 c else X8 l b u d x3 c partial_fixpoint
def X8 (l:List E0)(b:Int)(d:N0)(u:E0)(x3:L2×Bool)(c:Int):Option N0:=F1 (bif x3.1.args then true else((u.B.length:Int)==0)) d>>=λr=>Nc l b r u x3 c 0 partial_fixpoint
def Nc (l:List E0)(b:Int)(u:N0)(c:E0)(x3:L2×Bool)(d r:Int):Option N0:=if decide (r<(c.B.length:Int))then idx c.B r>>=λD=>U4 D 1 u>>=λO=>Nc l b O c x3 d (i64.wrap (r+1))else F1 (bif x3.1.n then true else(c.NV==0)) u>>=λv=>F1 (bif x3.1.Ke then true else(bif (c.Low==0)then(c.H==0)else false)) v>>=λT=>F1 (bif x3.1.Kd then true else((c.j.length:Int)==0)) T>>=λz=>F1 (bif x3.1.Kb then true else((c.Then.length:Int)==0)) z>>=λI=>F1 (bif x3.1.Kc then true else((c.Else.length:Int)==0)) I>>=λJ=>Ud c J>>=λU=>R5 c.Then (i64.wrap (b+1)) U>>=λx=>R5 c.Else (i64.wrap (b+1)) x>>=λy=>P7 l b y (i64.wrap (d+1)) partial_fixpoint
end
def Kv:(∀l b c,SP C 229 [.ref 0 0,X1 l,dI b] [D1 c] (R5 l b c) (λr=>Ret [D1 r] (.tup [])))/\(∀l b J z,LP C f229 1 [1,4] [(0,.ref 0 0),(2,dI b),(12,X1 l),(13,dI (l.length:Int)),(14,dI z)] [D1 J] (P7 l b J z) (λr=>Ret [D1 r] (.tup [])))/\(∀l b Y d x3 x,JP C f229 1 [1,4,5,1,1,0,4,1,1,1,1,1,1,1] [(0,.ref 0 0),(2,dI b),(7,.ref 1 0),(8,.ref 2 0),(12,X1 l),(13,dI (l.length:Int)),(14,dI x)] [D1 Y,Y1 d,L17 x3.1] (W8 l b Y d x3 x) (λr=>Ret [D1 r] (.tup [])))/\(∀l b T d x3 u,JP C f229 1 [1,4,5,1,1,0,4,1,1,1,1,1,1,1,1,1,1] [(0,.ref 0 0),(2,dI b),(7,.ref 1 0),(8,.ref 2 0),(12,X1 l),(13,dI (l.length:Int)),(14,dI u)] [D1 T,Y1 d,L17 x3.1] (X8 l b T d x3 u) (λr=>Ret [D1 r] (.tup [])))/\(∀l b O d x3 v D,LP C f229 1 [1,4,5,1,1,0,4,1,1,1,1,1,1,1,1,1,1,1,0,1,4] [(0,.ref 0 0),(2,dI b),(7,.ref 1 0),(8,.ref 2 0),(12,X1 l),(13,dI (l.length:Int)),(14,dI v),(82,Yb d.B),(83,dI (d.B.length:Int)),(84,dI D)] [D1 O,Y1 d,L17 x3.1] (Nc l b O d x3 v D) (λr=>Ret [D1 r] (.tup []))):=R5.mutual_partial_correctness _ _ _ _ _ (λ_ I l b c=>fi func229 R (ln E0 R (lp (I _ _ _ _) R))) (λ_ V l b J z=>lu (ci R (ix R λ_=>kh [0] Rp R λ_=>kc Z1b R λ_=>kh [0] Q1 R λ_=>kh [0] Kk R λ_=>ci R (kc F16 R λ_=>kh [0] Q1 R λ_=>jo 2 (V _ _ _ _ _ _) R) (jo 1 (V _ _ _ _ _ _) R)) lz)) (λ_ X l b Y d x3 x=>kh [0] Kk R λ_=>dr 8 4 R (kh [0] Q1 R λ_=>ci R (kh [0] Qd R λ_=>jo 2 (X _ _ _ _ _ _) R) (jo 1 (X _ _ _ _ _ _) R))) (λ_ y l b T d x3 u=>dr 9 1 R (ln D0 R (kh [0] Q1 R λ_=>ln D0 R (lp (y _ _ _ _ _ _ _) R)))) (λ_ _ _ U I y l b O d x3 v D=>lu (ci R (ix R λ_=>kh [0] (Uo.1 _ _ _) R λ_=>lp (y _ _ _ _ _ _ _) R) (dr 8 6 R (kh [0] Q1 R λ_=>dr 13 4 R (kh [0] Q1 R λ_=>dr 9 4 R (ln Int R (kh [0] Q1 R λ_=>dr 9 4 R (ln E0 R (kh [0] Q1 R λ_=>dr 9 4 R (ln E0 R (kh [0] Q1 R λ_=>kh [0] S14 R λ_=>kh [0] (U _ _ _) R λ_=>kh [0] (U _ _ _) R λ_=>lp (I _ _ _ _) R)))))))))))
mutual
def J9 (l:List C0)(b:N0):Option N0:=Y8 l b 0 partial_fixpoint
def Y8 (l:List C0)(b:N0)(c:Int):Option N0:=if decide (c<(l.length:Int))then idx l c>>=λu=>Py u.K>>=λd=>F1 d.1 (N0.mk (i64.wrap (b.nodes+1)) b.depth b.r b.o b.q)>>=λv=>(if !d.1 then Id u.N (A0.mk 0 0 0 0 [] [] [])else some default)>>=λy=>if bif d.1 then true else(!y)then V6 u.N 1 v>>=λx=>Oc l x u d c else Oc l v u d c else some b partial_fixpoint
def Oc (l:List C0)(z:N0)(b:C0)(x2:Bool×Bool)(c:Int):Option N0:=H6 b.Name z>>=λy=>I6 b.Value x2.2 y>>=λB=>F1 (bif (b.K==4)then true else(b.h==0)) B>>=λx=>Z4 b.h (-1048576) 1048576>>=λv=>(if v&&(!(b.N.K !=0))then Z4 b.h 0 1 else some default)>>=λu=>C3 (bif v then(bif (b.N.K !=0)then true else u)else false) x>>=λr=>F1 (bif (b.K==6)then true else(bif (bif ((b.P.length:Int)==0)then((b.Vars.length:Int)==0)else false)then((b.Body.length:Int)==0)else false)) r>>=λd=>Z8 l d b c 0 partial_fixpoint
def Z8 (l:List C0)(r:N0)(u:C0)(c b:Int):Option N0:=if decide (b<(u.P.length:Int))then idx u.P b>>=λd=>F1 (bif (d.K==4)then(d.h==0)else false) r>>=λv=>Z8 l v u c (i64.wrap (b+1))else Rc l r u c 0 partial_fixpoint
def Rc (l:List C0)(r:N0)(d:C0)(c b:Int):Option N0:=if decide (b<(d.Vars.length:Int))then idx d.Vars b>>=λy=>F1 (y.K==4) r>>=λu=>Rc l u d c (i64.wrap (b+1))else J9 d.P r>>=λv=>J9 d.Vars v>>=λx=>R5 d.Body 1 x>>=λz=>Y8 l z (i64.wrap (c+1)) partial_fixpoint
end
def R15:(∀l b,SP C 228 [.ref 0 0,V0 l] [D1 b] (J9 l b) (λr=>Ret [D1 r] (.tup [])))/\(∀l D I,LP C f228 1 [1,4] [(0,.ref 0 0),(13,V0 l),(14,dI (l.length:Int)),(15,dI I)] [D1 D] (Y8 l D I) (λr=>Ret [D1 r] (.tup [])))/\(∀l X c x2 y,JP C f228 1 [1,4,5,1,1,0,4,1,1,1,1,1] [(0,.ref 0 0),(5,.ref 1 0),(7,dB x2.2),(13,V0 l),(14,dI (l.length:Int)),(15,dI y)] [D1 X,W1 c] (Oc l X c x2 y) (λr=>Ret [D1 r] (.tup [])))/\(∀l O c d u,LP C f228 1 [1,4,5,1,1,0,4,1,1,1,1,1,1,1,1,1,1,1,0,1,4] [(0,.ref 0 0),(5,.ref 1 0),(13,V0 l),(14,dI (l.length:Int)),(15,dI d),(107,V0 c.P),(108,dI (c.P.length:Int)),(109,dI u)] [D1 O,W1 c] (Z8 l O c d u) (λr=>Ret [D1 r] (.tup [])))/\(∀l J c v x,LP C f228 1 [1,4,5,1,1,0,4,1,1,1,1,1,1,1,1,1,1,1,1,0,1,4] [(0,.ref 0 0),(5,.ref 1 0),(13,V0 l),(14,dI (l.length:Int)),(15,dI v),(125,V0 c.Vars),(126,dI (c.Vars.length:Int)),(127,dI x)] [D1 J,W1 c] (Rc l J c v x) (λr=>Ret [D1 r] (.tup []))):=J9.mutual_partial_correctness _ _ _ _ _ (λ_ B l b=>fi func228 R (ln C0 R (lp (B _ _ _) R))) (λ_ V l D I=>lu (ci R (ix R λ_=>kc Z1d R λ_=>kh [0] Q1 R λ_=>kg (Q1a.1 _ _) R λ_=>ci R (kh [0] (Tx.1 _ _ _) R λ_=>jo 2 (V _ _ _ _ _) R) (jo 1 (V _ _ _ _ _) R)) lz)) (λ_ T l X c x2 y=>kh [0] Qd R λ_=>kh [0] Kk R λ_=>dr 9 4 R (kh [0] Q1 R λ_=>dr 15 4 R (kc T5 R λ_=>kg T5 R λ_=>kh [0] K4 R λ_=>dr 20 12 R (ln C0 R (ln C0 R (ln E0 R (kh [0] Q1 R λ_=>ln C0 R (lp (T _ _ _ _ _) R)))))))) (λ_ _ T z l O c d u=>lu (ci R (ix R λ_=>dr 9 6 R (kh [0] Q1 R λ_=>lp (T _ _ _ _ _) R)) (ln C0 R (lp (z _ _ _ _ _) R)))) (λ_ _ _ U B z l J c v x=>lu (ci R (ix R λ_=>kh [0] Q1 R λ_=>lp (z _ _ _ _ _) R) (kh [0] (U _ _) R λ_=>kh [0] (U _ _) R λ_=>kh [0] (Kv.1 _ _ _) R λ_=>lp (B _ _ _) R)))
def Qu (p:I0):Option N0:=J9 p.Decls (N0.mk 0 0 false false false)>>=λc=>R5 p.Body 1 c>>=λb=>some b
def G1g {p}:SP C 142 [S2 p] [] (Qu p) (λr=>Ret [.dead,D1 r] (.ref 1 0)):=fi func142 R (kh [1] (R15.1 _ _) R λ_=>kh [1] (Kv.1 _ _ _) R λ_=>lz)
def E8 (b:N0):Option Int:=if bif (decide (b.nodes>1024))then true else(decide (b.depth>12))then some 4 else if b.r=true then some 1 else if b.o=true then some 7 else if b.q=true then some 3 else some 0
def Tp {b}:SP C 143 [.ref 0 0] [D1 b] (E8 b) (λr=>Ret [D1 b] (dI r)):=fi func143 R (ci R lz (ci R lz (ci R lz (ci R lz lz))))
def Sy (p:I0):Option Int:=Qu p>>=λc=>E8 c>>=λb=>some b
def A1l {p}:SP C 71 [S2 p] [] (Sy p) rtI:=fi func71 R (kh [] G1g R λ_=>kh [2] Tp R λ_=>lz)
mutual
def O4 (c:P0)(r:List (Str×Bool))(b:Int):Option Int:=if decide (b<(c.p.Decls.length:Int))then idx c.p.Decls b>>=λd=>some (mgt d.Name r)>>=λu=>if u.getD ebool.zero then some b else Y2 c (mpt d.Name true r) [] b b d 0 else some (-1) partial_fixpoint
def Y2 (c:P0)(r v:List (Str×Bool))(i b:Int)(u:C0)(d:Int):Option Int:=if decide (d<(([u.P,u.Vars]).length:Int))then idx [u.P,u.Vars] d>>=λx=>O5 c r v i b u d x 0 else O4 c r (i64.wrap (b+1)) partial_fixpoint
def O5 (c:P0)(u x:List (Str×Bool))(v b:Int)(z:C0)(d:Int)(x3:List C0)(r:Int):Option Int:=if decide (r<(x3.length:Int))then idx x3 r>>=λy=>some (mgt y.Name c.names)>>=λD=>some (mgt y.Name x)>>=λB=>if bif (D.getD ebool.zero)then true else(B.getD ebool.zero)then some v else O5 c u (mpt y.Name true x) v b z d x3 (i64.wrap (r+1))else Y2 c u x v b z (i64.wrap (d+1)) partial_fixpoint
end
def Ov (c:P0):(∀Z D,LP C f72 0 [1,1,0,1,4] [(0,.d (.box (P0.row c))),(3,.mp 0),(16,V0 c.p.Decls),(17,dI (c.p.Decls.length:Int)),(18,dI D)] [.map (.s (ebool.ents Z))] (O4 c Z D) rtI)/\(∀T B i u b z,LP C f72 0 [1,1,0,1,4,5,1,1,0,4,1,1,1,1,1,4] [(0,.d (.box (P0.row c))),(3,.mp 0),(4,dI i),(6,.mp 2),(16,V0 c.p.Decls),(17,dI (c.p.Decls.length:Int)),(18,dI u),(36,.full (esl_ApiDecl.rows [b.P,b.Vars])),(37,dI (([b.P,b.Vars]).length:Int)),(38,dI z)] [.map (.s (ebool.ents T)),.dead,.map (.s (ebool.ents B))] (Y2 c T B i u b z) rtI)/\(∀J U i1 r b x x3 y,LP C f72 0 [1,1,0,1,4,5,1,1,0,4,1,1,1,1,1,4,5,1,1,0,4,1,1,4] [(0,.d (.box (P0.row c))),(3,.mp 0),(4,dI i1),(6,.mp 2),(16,V0 c.p.Decls),(17,dI (c.p.Decls.length:Int)),(18,dI r),(36,.full (esl_ApiDecl.rows [b.P,b.Vars])),(37,dI (([b.P,b.Vars]).length:Int)),(38,dI x),(42,V0 x3),(43,dI (x3.length:Int)),(44,dI y)] [.map (.s (ebool.ents J)),.dead,.map (.s (ebool.ents U))] (O5 c J U i1 r b x x3 y) rtI):=O4.mutual_partial_correctness c _ _ _ (λ_ I Z D=>lu (ci R (ix R λb=>bn λ_ Y=>xo 13 R λ_ v=>K0.me hC R (ebool.lk Y) (yo v (ci R lz (xo 7 R λ_ v=>K0.ue hC R (ebool.mput _ true _) R (yo v (xo 4 R λ_ v=>K0.w R (yo v (ll [b.P,b.Vars] R (lp (I _ _ _ _ _ _) R))))))))) lz)) (λ_ _ X O T B i u b z=>lu (ci R (ix R λ_=>ln C0 R (lp (O _ _ _ _ _ _ _ _) R)) (lp (X _ _) R))) (λ_ _ I O J U i1 r b x x3 y=>lu (ci R (ix R λ_=>bn λ_ a0=>xg 15 R λ_ v=>AG.fl hC R R (λ_=>trivial) (λ_=>rfl) (ebool.lk a0) (yg v R (bn λ_ V=>xg 4 R λ_ v=>AG.me hC R R (λhg=>⟨hg,hg,trivial⟩) (ebool.lk V) (yg v R (ci R lz (xo 6 R λ_ v=>K0.ue hC R (ebool.mput _ true _) R (yo v (lp (O _ _ _ _ _ _ _ _) R)))))))) (lp (I _ _ _ _ _ _) R)))
def Ac (c:P0):Option Int:=O4 c [] 0
def Ty {c}:SP C 72 [.d (.box (P0.row c))] [] (Ac c) rtI:=fi func72 R (xo 7 R λ_ b=>K0.w R (yo b (ln C0 R (lp (((Ov _).1 _ _)) R))))
def Qh (t:A0):Option Int:=V6 t 1 (N0.mk 0 0 false false false)>>=λc=>E8 c>>=λb=>some b
def C10 {t}:SP C 239 [W0 t] [] (Qh t) rtI:=fi func239 R (kh [1] (Tx.1 _ _ _) R λ_=>kh [1] Tp R λ_=>lz)
mutual
def C7 (t:A0)(m:List (Str×A0)):Option (A0×Bool):=if t.K==4 then some (mgt t.Name m)>>=λb=>if !b.isSome then some ((A0.mk 0 0 0 0 [] [] []),false)else Sb m (b.getD A0.zero)else Sb m t partial_fixpoint
def Sb (m:List (Str×A0))(b:A0):Option (A0×Bool):=R8 b.O>>=λc=>W6 m b c [] 0 partial_fixpoint
def W6 (m:List (Str×A0))(c:A0)(x2:List Str)(b:List A0)(d:Int):Option (A0×Bool):=if decide (d<(c.Of.length:Int))then idx c.Of d>>=λu=>C7 u m>>=λr=>if !r.2 then some ((A0.mk 0 0 0 0 [] [] []),false)else if decide ((b.length+1)*97<=140737488355328)then W6 m c x2 (b++[r.1]) (i64.wrap (d+1))else none else some ((A0.mk c.K c.Low c.H c.E c.Name x2 b),true) partial_fixpoint
end
def C1e (m:List (Str×A0)):(∀t,SP C 245 [.mp 0,W0 t] [Tq m] (C7 t m) (λr=>Ret [Tq m] (.tup [W0 r.1,dB r.2])))/\(∀c,JP C f245 1 [1,1] [(0,.mp 0),(3,.ref 1 0),(4,.ref 2 0)] [Tq m,G1 c,.row [dI 0,dI 0,dI 0,dI 0,.d (.str []),.full (estr.rows []),.full (A0.rows [])] 51] (Sb m c) (λr=>Ret [Tq m] (.tup [W0 r.1,dB r.2])))/\(∀c x2 b u,LP C f245 1 [1,1,1,1,1,0,1,4] [(0,.mp 0),(4,.ref 2 0),(8,.ref 3 0),(34,T2 c.Of),(35,dI (c.Of.length:Int)),(36,dI u)] [Tq m,.dead,.row [dI 0,dI 0,dI 0,dI 0,.d (.str []),.full (estr.rows []),.full (A0.rows [])] 51,.row [dI c.K,dI c.Low,dI c.H,dI c.E,.d (.str c.Name),Y5 x2,.osl 4 (A0.rows b)] 51,.tok 51 7] (W6 m c x2 b u) (λr=>Ret [Tq m] (.tup [W0 r.1,dB r.2]))):=C7.mutual_partial_correctness m _ _ _ (λ_ x t=>fi func245 R (ci R (bn λ_ z=>xo 5 R λ_ y=>K0.me hC R (A0.lkT z) (yo y (ci R lz (jo 6 (x _) R)))) (jo 1 (x _) R))) (λ_ v c=>kc ((λ_=>Xz)) R λ_=>xo 9 R λ_ y=>K0.tokC 3 6 51 7 R R R R R (yo y (ln A0 R (lp (v _ _ _ _) R)))) (λ_ _ B v c x2 b u=>lu (ci R (ix R λ_=>kh [0] (B _) R λD=>ci R lz (ap [D.1] R (lp (v _ _ _ _) R))) lz))
def W4 (s:List Str)(v:Str)(b:Int):Option Int:=if decide (b<(s.length:Int))then idx s b>>=λc=>if v==c then some b else W4 s v (i64.wrap (b+1))else some (-1) partial_fixpoint
def Dx (s:List Str)(v:Str):∀c,LP C f262 0 [1,0,1,4] [(0,Y5 s),(1,.d (.str v)),(7,dI (s.length:Int)),(8,dI c)] [] (W4 s v c) rtI:=W4.partial_correctness s v _ (λ_ b c=>lu (ci R (ix R λ_=>ci R lz (lp (b _) R)) lz))
def S8 (s:List Str)(v:Str):Option Int:=W4 s v 0
def Dh {s v}:SP C 262 [Y5 s,.d (.str v)] [] (S8 s v) rtI:=fi func262 R (ln Str R (lp (Dx _ _ _) R))
variable {gm:Nat}
def X9 (s:List Str)(v:Str):Option Bool:=S8 s v>>=λb=>some (decide (b>=0))
def Gx {s v}:SP C 312 [Y5 s,.d (.str v)] [] (X9 s v) rtB:=fi func312 R (kc Dh R λ_=>lz)
mutual
def Qi (t:A0):Option Bool:=Rh t 0 partial_fixpoint
def Rh (t:A0)(b:Int):Option Bool:=if decide (b<(t.O.length:Int))then idx t.O b>>=λd=>slc t.O 0 b>>=λc=>X9 c d>>=λu=>if u=true then some true else Rh t (i64.wrap (b+1))else G4 t.Of>>=λr=>some r partial_fixpoint
def G4 (s:List A0):Option Bool:=U7 s>>=λb=>some (decide (b>=0)) partial_fixpoint
def U7 (s:List A0):Option Int:=L3 s 0 partial_fixpoint
def L3 (s:List A0)(b:Int):Option Int:=if decide (b<(s.length:Int))then idx s b>>=λd=>Qi d>>=λc=>if c=true then some b else L3 s (i64.wrap (b+1))else some (-1) partial_fixpoint
end
def G16:(∀t,SP C 246 [W0 t] [] (Qi t) rtB)/\(∀t c,LP C f246 0 [1,0,1,4] [(1,.ref 0 0),(6,Y5 t.O),(7,dI (t.O.length:Int)),(8,dI c)] [G1 t] (Rh t c) rtB)/\(∀s,SP C 313 [T2 s,.clo 246 []] [] (G4 s) rtB)/\(∀s,SP C 346 [T2 s,.clo 246 []] [] (U7 s) rtI)/\(∀s c,LP C f346 0 [1,0,1,4] [(0,T2 s),(1,.clo 246 []),(7,dI (s.length:Int)),(8,dI c)] [] (L3 s c) rtI):=Qi.mutual_partial_correctness _ _ _ _ _ (λ_ d t=>fi func246 R (ln Str R (lp (d _ _) R))) (λ_ _ d r t c=>lu (ci R (ix R λ_=>bn λ_ v=>xo 11 R λ_ y=>K0.dx hC R (estr.part v) (estr.sz _) (yo y (kc Gx R λ_=>ci R lz (lp (d _ _) R)))) (kc (r _) R λ_=>lz))) (λ_ x s=>fi func313 R (kc (x _) R λ_=>lz)) (λ_ b s=>fi func346 R (ln A0 R (lp (b _ _) R))) (λ_ _ u b s c=>lu (ci R (ix R λ_=>kc (u _) R λ_=>ci R lz (lp (b _ _) R)) lz))
mutual
def Cl (t:A0):Option Int:=Sh t 0 0 partial_fixpoint
def Sh (t:A0)(d b:Int):Option Int:=if decide (b<(t.Of.length:Int))then idx t.Of b>>=λr=>Cl r>>=λc=>Sh t (max d c) (i64.wrap (b+1))else some (i64.wrap (d+1)) partial_fixpoint
end
def B1l:(∀t,SP C 247 [W0 t] [] (Cl t) rtI)/\(∀t d r,LP C f247 0 [1,1,0,1,4] [(3,dI d),(7,T2 t.Of),(8,dI (t.Of.length:Int)),(9,dI r)] [] (Sh t d r) rtI):=Cl.mutual_partial_correctness _ _ (λ_ b t=>fi func247 R (ln A0 R (lp (b _ _ _) R))) (λ_ _ c b t d r=>lu (ci R (ix R λ_=>kc (c _) R λ_=>lp (b _ _ _) R) lz))
mutual
def Xe (t:A0):Option Int:=if t.K==2 then idx t.Of 0>>=λb=>Xe b>>=λc=>some (min (i64.wrap ((min t.E 33)*c)) 33)else if t.K==3 then Jl t 0 0 else some (min 1 33) partial_fixpoint
def Jl (t:A0)(n b:Int):Option Int:=if decide (b<(t.Of.length:Int))then idx t.Of b>>=λc=>Xe c>>=λd=>Jl t (i64.wrap (n+d)) (i64.wrap (b+1))else some (min n 33) partial_fixpoint
end
def H16:(∀t,SP C 248 [W0 t] [] (Xe t) rtI)/\(∀t n c,LP C f248 0 [1,1,0,1,4,1,3,1,2,1,4] [(3,dI n),(22,T2 t.Of),(23,dI (t.Of.length:Int)),(24,dI c)] [] (Jl t n c) rtI):=Xe.mutual_partial_correctness _ _ (λ_ _ b d t=>fi func248 R (ci R (ix R λ_=>kc (b _) R λ_=>lz) (ci R (ln A0 R (lp (d _ _ _) R)) lz))) (λ_ _ b d t n c=>lu (ci R (ix R λ_=>kc (b _) R λ_=>lp (d _ _ _) R) lz))
def Kl (t:A0)(m:List (Str×A0)):Option (A0×Int):=Qh t>>=λc=>if c !=0 then some ((A0.mk 0 0 0 0 [] [] []),c)else C7 t m>>=λb=>if !b.2 then some ((A0.mk 0 0 0 0 [] [] []),7)else Qi b.1>>=λu=>if u=true then some ((A0.mk 0 0 0 0 [] [] []),8)else Cl b.1>>=λd=>(if !(decide (d>12))then Xe b.1 else some default)>>=λr=>if bif (decide (d>12))then true else(decide (r>32))then some ((A0.mk 0 0 0 0 [] [] []),4)else some (b.1,0)
def Z12 {t m}:SP C 158 [.mp 0,W0 t] [Tq m] (Kl t m) (λr=>Ret [Tq m] (.tup [W0 r.1,dI r.2])):=fi func158 R (kc C10 R λ_=>ci R lz (kh [0] (((C1e _).1 _)) R λ_=>ci R lz (kc (G16.1 _) R λ_=>ci R lz (kc (B1l.1 _) R λ_=>kg (H16.1 _) R λ_=>ci R lz lz))))
def M9 (b:List C0)(t:A0)(d:List (Str×A0))(c:Int):Option (A0×Int):=if decide (c<(b.length:Int))then idx b c>>=λr=>if r.K !=0 then M9 b t d (i64.wrap (c+1))else Fn r.Name>>=λx=>if !x then some ((A0.mk 0 0 0 0 [] [] []),7)else some (mgt r.Name d)>>=λy=>if y.isSome=true then some ((A0.mk 0 0 0 0 [] [] []),8)else Kl r.N d>>=λu=>if u.2 !=0 then some ((A0.mk 0 0 0 0 [] [] []),u.2)else M9 b t (mpt r.Name u.1 d) (i64.wrap (c+1))else Kl t d>>=λv=>some (v.1,v.2) partial_fixpoint
def D1e (b:List C0)(t:A0):∀v c,LP C f78 0 [1,1,0,1,4] [(3,.ref 0 0),(4,.ref 1 0),(6,.mp 2),(14,V0 b),(15,dI (b.length:Int)),(16,dI c)] [G1 t,.row [dI 0,dI 0,dI 0,dI 0,.d (.str []),.full (estr.rows []),.full (A0.rows [])] 51,Tq v] (M9 b t v c) (λr=>Ret [] (.tup [W0 r.1,dI r.2])):=M9.partial_correctness b t _ (λ_ u v c=>lu (ci R (ix R λ_=>ci R (lp (u _ _) R) (kc R14 R λ_=>ci R lz (bn λ_ x=>xo 8 R λ_ y=>K0.me hC R (A0.lkT x) (yo y (ci R lz (kh [2] Z12 R λz=>ci R lz (xo 7 R λ_ y=>K0.ue hC R (A0.mput _ z.1 _) R (yo y (lp (u _ _) R))))))))) (kh [2] Z12 R λ_=>lz)))
def Yi (b:List C0)(t:A0):Option (A0×Int):=M9 b t [] 0
def Ns {b t}:SP C 78 [V0 b,W0 t] [] (Yi b t) (λr=>Ret [] (.tup [W0 r.1,dI r.2])):=fi func78 R (xo 9 R λ_ c=>K0.w R (yo c (ln C0 R (lp (D1e _ _ _ _) R))))
def W7 (c:P0)(t:A0)(b:Int):Option (A0×Int):=slc c.p.Decls 0 b>>=λr=>Yi r t>>=λd=>some (d.1,d.2)
def Zi {c t b}:SP C 144 [.d (.box (P0.row c)),W0 t,dI b] [] (W7 c t b) (λr=>Ret [] (.tup [W0 r.1,dI r.2])):=fi func144 R (bn λ_ u=>xq 15 R λ_ v=>AQ.dx hC R (C0.part u) (C0.sz _) (yq v R (kc Ns R λ_=>lz)))
def Ga (t:A0):Option Bool:=some (bif (t.K==0)then true else(t.K==1))
def Pm {t}:SP C 145 [W0 t] [] (Ga t) rtB:=fi func145 R lz
def Q7 (s:Option J0):Option (List (Str×L0)×Option J0):=some ([],s)
def Mk {s}:SP C 149 [.d (.bxo (J0.opt s))] [] (Q7 s) (λr=>Ret [Qn r.1,.row [.d (.bxo (J0.opt r.2)),.mp 0] 216] (.ref 1 0)):=fi func149 R (xo 8 R λ_ b=>K0.w R (yo b lz))
def V4 (c:P0)(t:A0)(b:Int):Option A0:=W7 c t b>>=λd=>some d.1
def T7 {c t b}:SP C 150 [.d (.box (P0.row c)),W0 t,dI b] [] (V4 c t b) (λr=>Ret [] (W0 r)):=fi func150 R (kc Zi R λ_=>lz)
def M4 (c:P0)(b:Bool)(u:List (Str×L0))(v:List (Str×L0)×Option J0)(x2:List C0)(d:Int):Option (Option J0):=if decide (d<(x2.length:Int))then idx x2 d>>=λr=>if bif (bif (bif (r.K==1)then true else(r.K==2))then true else(r.K==3))then true else(bif b then(r.K==4)else false)then V4 c r.N d>>=λx=>M4 c b (mpt r.Name (L0.mk x (bif (bif (r.K==1)then true else(r.K==2))then true else(r.K==3))) u) v x2 (i64.wrap (d+1))else M4 c b u v x2 (i64.wrap (d+1))else some (some (J0.mk v.2 u))>>=λy=>some y partial_fixpoint
def Uy (c:P0)(b:Bool)(D:List (Str×L0)×Option J0)(x2:List C0):∀B u,LP C f75 0 [1,1,1,0,1,4] [(0,.d (.box (P0.row c))),(2,dB b),(8,.ref 1 0),(20,V0 x2),(21,dI (x2.length:Int)),(22,dI u)] [Qn B,.row [.d (.bxo (J0.opt D.2)),.mp 0] 216] (M4 c b B D x2 u) (λr=>Ret [] (.d (.bxo (J0.opt r)))):=
 M4.partial_correctness c b D x2 _
 (λ_ x B u=>lu (ci R (ix R λI=>ci R (kc T7 R λJ=>xo 4 R λ_ v=>K0.ue hC rfl (L0.mput _ (L0.mk J (bif (bif (I.K==1)then true else(I.K==2))then true else(I.K==3))) _) rfl (yo v (lp (x _ _) R))) (lp (x _ _) R)) (xo 9 R λ_ v=>K0.fm 0 rfl rfl (yo v (bn λO z=>xo 0 R λ_ v=>K0.bx 1 (y:=.bxo (J0.opt O)) (by cases z;exact .inr rfl) rfl rfl rfl (yo v lz))))))
def Ha (c:P0)(d:Int)(b:Bool):Option (Option J0):=Q7 none>>=λr=>slc c.p.Decls 0 d>>=λu=>M4 c b r.1 r u 0
def Gq {c u b}:SP C 75 [.d (.box (P0.row c)),dI u,dB b] [] (Ha c u b) (λr=>Ret [] (.d (.bxo (J0.opt r)))):=fi func75 R (kh [] Mk R λ_=>bn λ_ v=>xo 13 R λ_ x=>K0.dx hC R (C0.part v) (C0.sz _) (yo x (ln C0 R (lp (Uy _ _ _ _ _ _) R))))
def I4 (c b:Int):Option A0:=some (A0.mk 1 c b 0 [] [] [])
def L4 {c b}:SP C 297 [dI c,dI b] [] (I4 c b) (λr=>Ret [] (W0 r)):=fi func297 R lz
def Wd (t:A0):Option (A0×Int):=if bif (t.K==1)then(bif (decide (t.Low<(-1048576)))then true else(decide (t.H>1048576)))else false then some ((A0.mk 0 0 0 0 [] [] []),3)else some (t,0)
def Pv {t}:SP C 296 [W0 t] [] (Wd t) (λr=>Ret [] (.tup [W0 r.1,dI r.2])):=fi func296 R (ci R lz lz)
def C6 (name:Str)(b:Option J0):Option (L0×Bool):=if !b.isNone then b>>=λd=>some (mgt name d.vars)>>=λc=>if c.isSome=true then some ((c.getD L0.zero),true)else b>>=λr=>C6 name r.around else some ((L0.mk (A0.mk 0 0 0 0 [] [] []) false),false) partial_fixpoint
def R10 (name:Str):∀c,LP C f298 0 [1,0,4] [(0,.d (.bxo (J0.opt c))),(1,.d (.str name)),(4,.ref 0 0)] [.row [dI 0,dI 0,dI 0,dI 0,.d (.str []),.full (estr.rows []),.full (A0.rows []),dB false] 213] (C6 name c) (λr=>Ret [] (.tup [.agg (L0.cells r.1),dB r.2])):=C6.partial_correctness name _ (λ_ x c=>lu (xo 4 R λ_ b=>K0.nq hC R (J0.opt_nilB c) (yo b (ci R (bn λ_ v=>xo 7 R λ_ b=>K0.nk hC R (J0.opt_some v) (yo b (bn λ_ y=>xo 3 R λ_ b=>K0.fl hC R R (L0.lkT y) (yo b (ci R lz (bn λ_ u=>xo 5 R λ_ b=>K0.nk hC R (J0.opt_some u) (yo b (lp (x _) R)))))))) lz))))
def A9 (s:Option J0)(name:Str):Option (L0×Bool):=C6 name s
def Qk {s name}:SP C 298 [.d (.bxo (J0.opt s)),.d (.str name)] [] (A9 s name) (λr=>Ret [] (.tup [.agg (L0.cells r.1),dB r.2])):=fi func298 R (lp (R10 _ _) R)
def R7 (t:A0)(name:Str)(b:Int):Option (A0×Int):=if decide (b<(t.O.length:Int))then idx t.O b>>=λd=>if d==name then idx t.Of b>>=λc=>some (c,0)else R7 t name (i64.wrap (b+1))else some ((A0.mk 0 0 0 0 [] [] []),7) partial_fixpoint
def M13 (t:A0)(name:Str):∀b,LP C f299 0 [1,1,0,1,4] [(1,.d (.str name)),(2,.ref 0 0),(4,.ref 1 0),(13,Y5 t.O),(14,dI (t.O.length:Int)),(15,dI b)] [G1 t,.row [dI 0,dI 0,dI 0,dI 0,.d (.str []),.full (estr.rows []),.full (A0.rows [])] 51] (R7 t name b) (λr=>Ret [] (.tup [W0 r.1,dI r.2])):=R7.partial_correctness t name _ (λ_ c b=>lu (ci R (ix R λ_=>ci R (ix R λ_=>lz) (lp (c _) R)) lz))
def Ic (t:A0)(name:Str):Option (A0×Int):=if t.K !=3 then some ((A0.mk 0 0 0 0 [] [] []),9)else R7 t name 0
def M17 {t name}:SP C 299 [W0 t,.d (.str name)] [] (Ic t name) (λr=>Ret [] (.tup [W0 r.1,dI r.2])):=fi func299 R (ci R lz (ln Str R (lp (M13 _ _ _) R)))
def P6 (k:Int)(l:List A0)(b:Int):Option Bool:=if decide (b<(l.length:Int))then idx l b>>=λc=>if c.K !=k then some false else P6 k l (i64.wrap (b+1))else some true partial_fixpoint
def B12 (k:Int)(l:List A0):∀c,LP C f337 0 [1,0,1,4] [(0,dI k),(7,T2 l),(8,dI (l.length:Int)),(9,dI c)] [] (P6 k l c) rtB:=P6.partial_correctness k l _ (λ_ b c=>lu (ci R (ix R λ_=>ci R lz (lp (b _) R)) lz))
def T9 (k:Int)(l:List A0):Option Bool:=P6 k l 0
def Ff {k l}:SP C 337 [dI k,T2 l] [] (T9 k l) rtB:=fi func337 R (ln A0 R (lp (B12 _ _ _) R))
def Zr (t:A0):Option Int:=some (max t.H (i64.wrap (0-t.Low)))
def N17 {t}:SP C 359 [W0 t] [] (Zr t) rtI:=fi func359 R lz
def Eh (c b:Int):Option A0:=I4 c b>>=λd=>some d
def Cr {c b}:JP C f338 0 [1,0,1,4,1,3,1,3,1,3,1,3,1,2,1,1,1] [(6,.ref 2 0),(12,dI c),(13,dI b)] [.dead,.dead,.row [dI 0,dI 0,dI 0,dI 0,.d (.str []),.full (estr.rows []),.full (A0.rows [])] 51] (Eh c b) (λr=>Ret [] (W0 r)):=kc L4 R λ_=>lz
def Fh (b:A0)(c:Int):Option A0:=if decide (b.H>0)then Eh c (max (i64.wrap (b.H-1)) 0)else Eh c 0
def Dr {b c}:JP C f338 0 [1,0,1,4,1,3,1,3,1,3,1,3,1,2,1,1] [(5,.ref 1 0),(6,.ref 2 0),(12,dI c),(13,dI 0)] [.dead,G1 b,.row [dI 0,dI 0,dI 0,dI 0,.d (.str []),.full (estr.rows []),.full (A0.rows [])] 51] (Fh b c) (λr=>Ret [] (W0 r)):=ci R (jo 7 Cr R) (jo 1 Cr R)
def Gf (op:Int)(a b:A0):Option A0:=if op==8 then I4 (i64.wrap (a.Low+b.Low)) (i64.wrap (a.H+b.H))>>=λy=>some y else if op==9 then I4 (i64.wrap (a.Low-b.H)) (i64.wrap (a.H-b.Low))>>=λd=>some d else if op==10 then I4 (min (min (min (i64.wrap (a.Low*b.Low)) (i64.wrap (a.Low*b.H))) (i64.wrap (a.H*b.Low))) (i64.wrap (a.H*b.H))) (max (max (max (i64.wrap (a.Low*b.Low)) (i64.wrap (a.Low*b.H))) (i64.wrap (a.H*b.Low))) (i64.wrap (a.H*b.H)))>>=λz=>some z else if op==11 then Zr a>>=λc=>if bif (decide (a.Low>=0))then(decide (b.Low>=0))else false then I4 0 c>>=λx=>some x else I4 (i64.wrap (0-c)) c>>=λv=>some v else if op==12 then if decide (b.Low<0)then Fh b (min (i64.wrap (b.Low+1)) 0)else Fh b 0 else if op==21 then I4 (min a.Low b.Low) (min a.H b.H)>>=λr=>some r else I4 (max a.Low b.Low) (max a.H b.H)>>=λu=>some u
def S15 {op a b}:SP C 338 [dI op,W0 a,W0 b] [] (Gf op a b) (λr=>Ret [] (W0 r)):=fi func338 R (ci R (kc L4 R λ_=>lz) (ci R (kc L4 R λ_=>lz) (ci R (kc L4 R λ_=>lz) (ci R (kc N17 R λ_=>ci R (kc L4 R λ_=>lz) (kc L4 R λ_=>lz)) (ci R (ci R (jo 7 Dr R) (jo 1 Dr R)) (ci R (kc L4 R λ_=>lz) (kc L4 R λ_=>lz)))))))
def Sc (op:Int)(b:List A0)(O u:Bool):Option (A0×Int):=if u=true then if O=true then some ((A0.mk 0 0 0 0 [] [] []),0)else some ((A0.mk 0 0 0 0 [] [] []),9)else if op==23 then slc b 1 (b.length:Int)>>=λc=>idx b 0>>=λT=>if T.K !=0 then some ((A0.mk 0 0 0 0 [] [] []),9)else T9 1 c>>=λU=>if U=true then idx c 0>>=λJ=>idx c 1>>=λz=>idx c 0>>=λx=>idx c 1>>=λD=>I4 (min J.Low z.Low) (max x.H D.H)>>=λr=>some (r,0)else T9 0 c>>=λI=>if I=true then some ((A0.mk 0 0 0 0 [] [] []),0)else some ((A0.mk 0 0 0 0 [] [] []),9)else if O=true then idx b 0>>=λv=>idx b 1>>=λy=>Gf op v y>>=λB=>Wd B>>=λd=>some (d.1,d.2)else some ((A0.mk 0 0 0 0 [] [] []),9)
def Re {op b v c}:JP C f300 0 [1,1,1,0,1,4,1,3,1,3,1,3,1] [(0,dI op),(1,T2 b),(4,.ref 0 0),(6,.clo 337 []),(7,dB v),(16,dI op),(60,dB c)] [.row [dI 0,dI 0,dI 0,dI 0,.d (.str []),.full (estr.rows []),.full (A0.rows [])] 51] (Sc op b v c) (λr=>Ret [] (.tup [W0 r.1,dI r.2])):=
 ci R (ci R lz lz) (ci R (bn λ_ u=>xo 3 R λ_ x=>K0.dx hC R (A0.part (by rw[A0.len];exact u)) (A0.sz _) (yo x (ix R λ_=>ci R lz (kc Ff R λ_=>ci R (ix R λ_=>ix R λ_=>ix R λ_=>ix R λ_=>kc L4 R λ_=>lz) (kc Ff R λ_=>ci R lz lz))))) (ci R (ix R λ_=>ix R λ_=>kc S15 R λ_=>kc Pv R λ_=>lz) lz))
def Vo (op:Int)(b:List A0)(c x2 d:Bool):Option (A0×Int):=if d=true then if bif c then true else x2 then some ((A0.mk 0 0 0 0 [] [] []),0)else some ((A0.mk 0 0 0 0 [] [] []),9)else if op==15 then Sc op b c (op==15)else if op==16 then Sc op b c (op==16)else if op==17 then Sc op b c (op==17)else Sc op b c (op==18)
def Ps {op b u x2 c}:JP C f300 0 [1,1,1,0,1,4,1,3,1,3,1] [(0,dI op),(1,T2 b),(4,.ref 0 0),(6,.clo 337 []),(7,dB u),(8,dB x2),(16,dI op),(52,dB c)] [.row [dI 0,dI 0,dI 0,dI 0,.d (.str []),.full (estr.rows []),.full (A0.rows [])] 51] (Vo op b u x2 c) (λr=>Ret [] (.tup [W0 r.1,dI r.2])):=ci R (ci R lz lz) (ci R (jo 1 Re R) (ci R (jo 1 Re R) (ci R (jo 1 Re R) (jo 4 Re R))))
def Tc (op:Int)(b:List A0)(d x2 c:Bool):Option (A0×Int):=if c=true then if x2=true then some ((A0.mk 0 0 0 0 [] [] []),0)else some ((A0.mk 0 0 0 0 [] [] []),9)else if op==13 then Vo op b d x2 (op==13)else Vo op b d x2 (op==14)
def Rk {op b u x2 c}:JP C f300 0 [1,1,1,0,1,4,1,3,1] [(0,dI op),(1,T2 b),(4,.ref 0 0),(6,.clo 337 []),(7,dB u),(8,dB x2),(16,dI op),(46,dB c)] [.row [dI 0,dI 0,dI 0,dI 0,.d (.str []),.full (estr.rows []),.full (A0.rows [])] 51] (Tc op b u x2 c) (λr=>Ret [] (.tup [W0 r.1,dI r.2])):=ci R (ci R lz lz) (ci R (jo 1 Ps R) (jo 4 Ps R))
def Jh (op:Int)(b:List A0):Option (A0×Int):=T9 1 b>>=λc=>T9 0 b>>=λd=>if op==6 then if c=true then idx b 0>>=λx=>idx b 0>>=λv=>I4 (i64.wrap (0-x.H)) (i64.wrap (0-v.Low))>>=λu=>Wd u>>=λr=>some (r.1,r.2)else some ((A0.mk 0 0 0 0 [] [] []),9)else if op==7 then Tc op b c d (op==7)else if op==19 then Tc op b c d (op==19)else Tc op b c d (op==20)
def O17 {op b}:SP C 300 [dI op,T2 b] [] (Jh op b) (λr=>Ret [] (.tup [W0 r.1,dI r.2])):=fi func300 R (kc Ff R λ_=>kc Ff R λ_=>ci R (ci R (ix R λ_=>ix R λ_=>kc L4 R λ_=>kc Pv R λ_=>lz) lz) (ci R (jo 1 Rk R) (ci R (jo 1 Rk R) (jo 4 Rk R))))
def Og (s:Option J0)(e:D0)(b:List A0)(d:Bool):Option (A0×Int):=if d=true then some ((A0.mk 0 0 0 0 [] [] []),0)else if e.Op==3 then A9 s e.Name>>=λu=>if !u.2 then some ((A0.mk 0 0 0 0 [] [] []),7)else some (u.1.l,0)else if e.Op==4 then idx b 0>>=λB=>Ic B e.Name>>=λv=>some (v.1,v.2)else if e.Op==5 then idx b 0>>=λx=>(if !(x.K !=2)then idx b 1 else some default)>>=λy=>if bif (x.K !=2)then true else(y.K !=1)then some ((A0.mk 0 0 0 0 [] [] []),9)else idx b 0>>=λz=>idx z.Of 0>>=λr=>some (r,0)else Jh e.Op b>>=λc=>some (c.1,c.2)
def Vy {s e b c}:JP C f230 0 [1,1,1,0,1,4,1,3,1] [(0,.d (.bxo (J0.opt s))),(3,.ref 0 0),(4,.ref 1 0),(6,.osl 2 (A0.rows b)),(40,dI e.Op),(51,dB c)] [N3 e,.row [dI 0,dI 0,dI 0,dI 0,.d (.str []),.full (estr.rows []),.full (A0.rows [])] 51,.tok 51 7] (Og s e b c) (λr=>Ret [] (.tup [W0 r.1,dI r.2])):=ci R lz (ci R (kc Qk R λ_=>ci R lz lz) (ci R (ix R λ_=>kc M17 R λ_=>lz) (ci R (ix R λ_=>ig R λ_=>ci R lz (ix R λ_=>ix R λ_=>lz)) (kc O17 R λ_=>lz))))
mutual
def M6 (s:Option J0)(e:D0):Option (A0×Int):=if decide (0<=(e.V.length:Int)/\(e.V.length:Int).toNat*97<=140737488355328)then Pg s e [] 0 else none partial_fixpoint
def Pg (s:Option J0)(e:D0)(b:List A0)(d:Int):Option (A0×Int):=if decide (d<(e.V.length:Int))then idx e.V d>>=λv=>M6 s v>>=λc=>if c.2 !=0 then some ((A0.mk 0 0 0 0 [] [] []),c.2)else if decide ((b.length+1)*97<=140737488355328)then Pg s e (b++[c.1]) (i64.wrap (d+1))else none else if e.Op==0 then I4 e.NV e.NV>>=λu=>Wd u>>=λr=>some (r.1,r.2)else if e.Op==1 then Og s e b (e.Op==1)else Og s e b (e.Op==2) partial_fixpoint
end
def Xn (s:Option J0):(∀e,SP C 230 [.d (.bxo (J0.opt s)),A2 e] [] (M6 s e) (λr=>Ret [] (.tup [W0 r.1,dI r.2])))/\(∀e b c,LP C f230 0 [1,1,0,1,4] [(0,.d (.bxo (J0.opt s))),(3,.ref 0 0),(4,.ref 1 0),(6,.osl 2 (A0.rows b)),(18,Yb e.V),(19,dI (e.V.length:Int)),(20,dI c)] [N3 e,.row [dI 0,dI 0,dI 0,dI 0,.d (.str []),.full (estr.rows []),.full (A0.rows [])] 51,.tok 51 7] (Pg s e b c) (λr=>Ret [] (.tup [W0 r.1,dI r.2]))):=M6.mutual_partial_correctness s _ _ (λ_ u e=>fi func230 R (ln D0 R (aa λy=>xo 1 R λ_ z=>K0.mz hC R y R (yo z (ln D0 R (lp (u _ _ _) R)))))) (λ_ _ x u e b c=>lu (ci R (ix R λ_=>kc (x _) R λv=>ci R lz (ap [v.1] R (lp (u _ _ _) R))) (ci R (kc L4 R λ_=>kc Pv R λ_=>lz) (ci R (jo 1 Vy R) (jo 4 Vy R)))))
def Qv (e:D0):Option Bool:=some (bif (bif (e.Op==3)then true else(e.Op==4))then true else(e.Op==5))
def S1a {e}:SP C 232 [A2 e] [] (Qv e) rtB:=fi func232 R lz
mutual
def Wo (a b:A0):Option Bool:=(if bif (bif (bif (bif (a.K==b.K)then(a.Low==b.Low)else false)then(a.H==b.H)else false)then(a.E==b.E)else false)then(a.Name==b.Name)else false then S5 a.O b.O else some default)>>=λc=>(if bif (bif (bif (bif (bif (a.K==b.K)then(a.Low==b.Low)else false)then(a.H==b.H)else false)then(a.E==b.E)else false)then(a.Name==b.Name)else false)then c else false then S3 a.Of b.Of else some default)>>=λd=>some (bif (bif (bif (bif (bif (bif (a.K==b.K)then(a.Low==b.Low)else false)then(a.H==b.H)else false)then(a.E==b.E)else false)then(a.Name==b.Name)else false)then c else false)then d else false) partial_fixpoint
def S3 (c b:List A0):Option Bool:=if (c.length:Int)!=(b.length:Int)then some false else I2 c b 0 partial_fixpoint
def I2 (c d:List A0)(b:Int):Option Bool:=if decide (b<(c.length:Int))then idx c b>>=λu=>idx d b>>=λr=>Wo u r>>=λv=>if !v then some false else I2 c d (i64.wrap (b+1))else some true partial_fixpoint
end
def C1l:(∀a b,SP C 301 [W0 a,W0 b] [] (Wo a b) rtB)/\(∀c u,SP C 334 [T2 c,T2 u,.clo 301 []] [] (S3 c u) rtB)/\(∀c u r,LP C f334 0 [1,1,0,1,4] [(1,T2 u),(2,.clo 301 []),(15,T2 c),(16,dI (c.length:Int)),(17,dI r)] [] (I2 c u r) rtB):=Wo.mutual_partial_correctness _ _ _ (λ_ x a b=>fi func301 R (kg Cp R λ_=>kg (x _ _) R λ_=>lz)) (λ_ d c u=>fi func334 R (ln A0 R (ln A0 R (ci R lz (ln A0 R (lp (d _ _ _) R)))))) (λ_ _ v d c u r=>lu (ci R (ix R λ_=>ix R λ_=>kc (v _ _) R λ_=>ci R lz (lp (d _ _ _) R)) lz))
def Jb (b d:A0)(c:Bool):Option Bool:=Ga b>>=λr=>(if !r then Ga d else some default)>>=λu=>if bif r then true else u then some (b.K==d.K)else (if c=true then Wo b d else some default)>>=λv=>some (bif c then v else false)
def Vm {c d b}:SP C 231 [W0 c,W0 d,dB b] [] (Jb c d b) rtB:=fi func231 R (kc Pm R λ_=>kg Pm R λ_=>ci R lz (kg (C1l.1 _ _) R λ_=>lz))
def Jf (s:Option J0)(e:D0)(d:A0):Option Int:=M6 s e>>=λb=>(if b.2==0 then Qv e else some default)>>=λc=>(if b.2==0 then Jb b.1 d c else some default)>>=λr=>if bif (b.2==0)then(!r)else false then some 9 else some b.2
def Yn {s e b}:SP C 146 [.d (.bxo (J0.opt s)),A2 e,W0 b] [] (Jf s e b) rtI:=fi func146 R (kc (((Xn _).1 _)) R λ_=>kg S1a R λ_=>kg Vm R λ_=>ci R lz lz)
def Tb (b:D0):Option Str:=if bif (b.Op !=3)then(decide ((b.V.length:Int)>0))else false then idx b.V 0>>=λc=>Tb c else some b.Name partial_fixpoint
def T1a:∀c,LP C f302 0 [1,0,4] [(1,.ref 0 0)] [N3 c] (Tb c) (λr=>Ret [] (.d (.str r))):=Tb.partial_correctness _ (λ_ b c=>lu (ln D0 R (ci R (ix R λ_=>lp (b _) R) lz)))
def S10 (e:D0):Option Str:=Tb e
def H1g {e}:SP C 302 [A2 e] [] (S10 e) (λr=>Ret [] (.d (.str r))):=fi func302 R (lp (T1a _) R)
def Th (s:Option J0)(e:D0):Option (A0×Int):=M6 s e>>=λb=>if b.2 !=0 then some ((A0.mk 0 0 0 0 [] [] []),b.2)else S10 e>>=λc=>A9 s c>>=λd=>if d.1.fixed=true then some ((A0.mk 0 0 0 0 [] [] []),15)else some (b.1,0)
def As {s e}:SP C 233 [.d (.bxo (J0.opt s)),A2 e] [] (Th s e) (λr=>Ret [] (.tup [W0 r.1,dI r.2])):=fi func233 R (kc (((Xn _).1 _)) R λ_=>ci R lz (kc H1g R λ_=>kc Qk R λ_=>ci R lz lz))
def D6 (c:Int)(name:Str)(d:List C0)(b:Int):Option Int:=if decide (b<(d.length:Int))then idx d b>>=λr=>if bif (r.K==c)then(r.Name==name)else false then some b else D6 c name d (i64.wrap (b+1))else some (-1) partial_fixpoint
def T10 (b:Int)(name:Str)(r:List C0):∀c,LP C f303 0 [1,0,1,4] [(1,dI b),(2,.d (.str name)),(17,V0 r),(18,dI (r.length:Int)),(19,dI c)] [] (D6 b name r c) rtI:=D6.partial_correctness b name r _ (λ_ u c=>lu (ci R (ix R λ_=>ci R lz (lp (u _) R)) lz))
def Uc (c:P0)(d:Int)(name:Str)(b:Int):Option Int:=slc c.p.Decls 0 b>>=λr=>D6 d name r 0
def Qs {c r name b}:SP C 303 [.d (.box (P0.row c)),dI r,.d (.str name),dI b] [] (Uc c r name b) rtI:=fi func303 R (bn λ_ u=>xo 14 R λ_ v=>K0.dx hC R (C0.part u) (C0.sz _) (yo v (ln C0 R (lp (T10 _ _ _ _) R))))
def E6 (c:P0)(s:Option J0)(x:E0)(d:A0×Int)(x3:C0)(x2 b:Int):Option Int:=if decide (b<(x.B.length:Int))then idx x.B b>>=λv=>idx x3.P b>>=λD=>V4 c D.N x2>>=λz=>Jf s v z>>=λr=>if r !=0 then some r else E6 c s x d x3 x2 (i64.wrap (b+1))else V4 c x3.N x2>>=λu=>Jb u d.1 true>>=λy=>if !y then some 9 else some 0 partial_fixpoint
def U10 (c:P0)(s:Option J0)(x:E0)(u:A0×Int)(x3:C0)(x2:Int):∀b,LP C f234 0 [1,1,1,1,1,1,1,0,1,4] [(0,.d (.box (P0.row c))),(1,.d (.bxo (J0.opt s))),(7,.ref 1 0),(9,dI x2),(10,.ref 2 0),(50,Yb x.B),(51,dI (x.B.length:Int)),(52,dI b)] [.dead,G1 u.1,W1 x3] (E6 c s x u x3 x2 b) rtI:=E6.partial_correctness c s x u x3 x2 _ (λ_ r b=>lu (ci R (ix R λ_=>ix R λ_=>kc T7 R λ_=>kc Yn R λ_=>ci R lz (lp (r _) R)) (kc T7 R λ_=>kc Vm R λ_=>ci R lz lz)))
def Ri (c:P0)(s:Option J0)(x:E0):Option Int:=Th s x.I>>=λd=>if d.2 !=0 then some d.2 else Uc c 6 x.Name c.Kf>>=λb=>if decide (b<0)then some 7 else idx c.p.Decls b>>=λr=>if (x.B.length:Int)!=(r.P.length:Int)then some 2 else E6 c s x d r b 0
def N13 {c s x}:SP C 234 [.d (.box (P0.row c)),.d (.bxo (J0.opt s)),Df x] [] (Ri c s x) rtI:=fi func234 R (kc As R λ_=>ci R lz (kc Qs R λ_=>ci R lz (ix R λ_=>ln D0 R (ln C0 R (ci R lz (ln D0 R (lp (U10 _ _ _ _ _ _ _) R)))))))
def Se (c:P0)(s:Option J0)(x:E0):Option Int:=Th s x.I>>=λd=>if d.2 !=0 then some d.2 else if c.w=true then some 15 else Uc c 5 x.Name c.Kf>>=λb=>if decide (b<0)then some 7 else idx c.p.Decls b>>=λv=>V4 c v.N b>>=λu=>Jb u d.1 false>>=λr=>if !r then some 9 else some 0
def V10 {c s x}:SP C 235 [.d (.box (P0.row c)),.d (.bxo (J0.opt s)),Df x] [] (Se c s x) rtI:=fi func235 R (kc As R λ_=>ci R lz (ci R lz (kc Qs R λ_=>ci R lz (ix R λ_=>kc T7 R λ_=>kc Vm R λ_=>ci R lz lz))))
def Lh (s:Option J0)(e:D0):Option Int:=M6 s e>>=λb=>if bif (b.2==0)then(b.1.K !=0)else false then some 9 else some b.2
def Wv {s e}:SP C 236 [.d (.bxo (J0.opt s)),A2 e] [] (Lh s e) rtI:=fi func236 R (kc (((Xn _).1 _)) R λ_=>ci R lz lz)
def Qm (s:Option J0)(name:Str):Option Bool:=A9 s name>>=λb=>some b.2
def P17 {s name}:SP C 304 [.d (.bxo (J0.opt s)),.d (.str name)] [] (Qm s name) rtB:=fi func304 R (kc Qk R λ_=>lz)
mutual
def P3 (c:P0)(s:Option J0)(l:List E0)(b:Bool):Option Int:=D7 c s l b 0 partial_fixpoint
def D7 (c:P0)(s:Option J0)(l:List E0)(d:Bool)(b:Int):Option Int:=if decide (b<(l.length:Int))then idx l b>>=λu=>Si c s u (bif d then(b==(i64.wrap ((l.length:Int)-1)))else false)>>=λr=>if r !=0 then some r else D7 c s l d (i64.wrap (b+1))else some 0 partial_fixpoint
def Si (c:P0)(s:Option J0)(x:E0)(b:Bool):Option Int:=if x.S==0 then Th s x.I>>=λy=>if y.2 !=0 then some y.2 else Jf s x.Value y.1>>=λD=>some D else if x.S==1 then Ri c s x>>=λU=>some U else if x.S==2 then Se c s x>>=λJ=>some J else if x.S==3 then M6 s x.Value>>=λr=>(if r.2==0 then Ga r.1 else some default)>>=λT=>if bif (r.2==0)then(!T)else false then some 9 else some r.2 else if x.S==5 then Lh s x.Value>>=λz=>if z !=0 then some z else P3 c s x.Then false>>=λd=>if d !=0 then some d else P3 c s x.Else false>>=λv=>some v else if x.S==6 then Lh s x.Value>>=λB=>if B !=0 then some B else P3 c s x.Then false>>=λu=>some u else if x.S==7 then Xo c s x>>=λO=>some O else if x.S==8 then if !b then some 15 else some 0 else some 0 partial_fixpoint
def Xo (c:P0)(s:Option J0)(x:E0):Option Int:=some (mgt x.Name c.names)>>=λb=>(if !(b.getD ebool.zero)then Qm s x.Name else some default)>>=λr=>if bif (b.getD ebool.zero)then true else r then some 8 else Q7 s>>=λd=>I4 x.Low x.H>>=λu=>some (some (J0.mk d.2 (mpt x.Name (L0.mk u true) d.1)))>>=λy=>P3 c y x.Then false>>=λv=>some v partial_fixpoint
end
def Hq (c:P0):(∀s l b,SP C 74 [.d (.box (P0.row c)),.d (.bxo (J0.opt s)),X1 l,dB b] [] (P3 c s l b) rtI)/\(∀s l b v,LP C f74 0 [1,0,1,4] [(0,.d (.box (P0.row c))),(1,.d (.bxo (J0.opt s))),(2,X1 l),(3,dB b),(12,X1 l),(13,dI (l.length:Int)),(14,dI v)] [] (D7 c s l b v) rtI)/\(∀s x u,SP C 148 [.d (.box (P0.row c)),.d (.bxo (J0.opt s)),Df x,dB u] [] (Si c s x u) rtI)/\(∀s x,SP C 237 [.d (.box (P0.row c)),.d (.bxo (J0.opt s)),Df x] [] (Xo c s x) rtI):=
 P3.mutual_partial_correctness c _ _ _ _
 (λ_ z s l b=>fi func74 R (ln E0 R (lp (z _ _ _ _) R)))
 (λ_ _ z D s l b v=>lu (ci R (ix R λ_=>ln E0 R (kc (D _ _ _) R λ_=>ci R lz (lp (z _ _ _ _) R))) lz))
 (λ_ _ r O s x u=>fi func148 R (ci R (kc As R λ_=>ci R lz (kc Yn R λ_=>lz)) (ci R (kc N13 R λ_=>lz) (ci R (kc V10 R λ_=>lz) (ci R (kc (((Xn _).1 _)) R λ_=>kg Pm R λ_=>ci R lz lz) (ci R (kc Wv R λ_=>ci R lz (kc (r _ _ _) R λ_=>ci R lz (kc (r _ _ _) R λ_=>lz))) (ci R (kc Wv R λ_=>ci R lz (kc (r _ _ _) R λ_=>lz)) (ci R (kc (O _ _) R λ_=>lz) (ci R (ci R lz lz) lz)))))))))
 (λ_ r s x=>fi func237 R (bn λ_ I=>xg 15 R λ_ B=>AG.fl hC rfl rfl (λ_=>trivial) (λ_=>rfl) (ebool.lk I) (yg B R (kg P17 R λ_=>ci R lz (kh [] Mk R λ_=>kc L4 R λT=>xo 3 R λ_ B=>K0.ue hC rfl (L0.mput _ (L0.mk T true) _) rfl (yo B (xo 8 R λ_ B=>K0.fm 1 rfl rfl (yo B (bn λU J=>xo 0 R λ_ B=>K0.bx 2 (y:=.bxo (J0.opt U)) (by cases J;exact .inr rfl) rfl rfl rfl (yo B (kc (r _ _ _) R λ_=>lz)))))))))))
mutual
def M3 (c:P0)(i:Int)(b:A0)(r:C0)(u:List (Str×L0))(x2:List (Str×L0)×Option J0)(d:Int):Option Int:=if decide (d<(([r.P,r.Vars]).length:Int))then idx [r.P,r.Vars] d>>=λy=>A6 c i b r u x2 d y 0 else some (P0.mk c.p i true c.names)>>=λz=>some (some (J0.mk x2.2 u))>>=λx=>P3 z x r.Body false>>=λv=>if v !=0 then some v else Jf x r.Value b>>=λB=>some B partial_fixpoint
def A6 (c:P0)(i:Int)(b:A0)(y:C0)(x:List (Str×L0))(x2:List (Str×L0)×Option J0)(d:Int)(x3:List C0)(r:Int):Option Int:=if decide (r<(x3.length:Int))then idx x3 r>>=λv=>W7 c v.N i>>=λu=>if u.2 !=0 then some u.2 else A6 c i b y (mpt v.Name (L0.mk u.1 false) x) x2 d x3 (i64.wrap (r+1))else M3 c i b y x x2 (i64.wrap (d+1)) partial_fixpoint
end
def Xv (c:P0)(i:Int)(b:A0)(r:C0)(x2:List (Str×L0)×Option J0):(∀v z,LP C f147 0 [1,1,1,1,0,1,4] [(0,.d (.box (P0.row c))),(1,dI i),(5,.ref 0 0),(7,.ref 1 0),(9,.ref 3 0),(32,.full (esl_ApiDecl.rows [r.P,r.Vars])),(33,dI (([r.P,r.Vars]).length:Int)),(34,dI z)] [G1 b,W1 r,Qn v,.row [.d (.bxo (J0.opt x2.2)),.mp 2] 216] (M3 c i b r v x2 z) rtI)/\(∀I u x3 D,LP C f147 0 [1,1,1,1,0,1,4,5,1,1,0,4,1,1,4] [(0,.d (.box (P0.row c))),(1,dI i),(5,.ref 0 0),(7,.ref 1 0),(9,.ref 3 0),(32,.full (esl_ApiDecl.rows [r.P,r.Vars])),(33,dI (([r.P,r.Vars]).length:Int)),(34,dI u),(38,V0 x3),(39,dI (x3.length:Int)),(40,dI D)] [G1 b,W1 r,Qn I,.row [.d (.bxo (J0.opt x2.2)),.mp 2] 216] (A6 c i b r I x2 u x3 D) rtI):=
 M3.mutual_partial_correctness c i b r x2 _ _
 (λ_ x v z=>lu (ci R (ix R λ_=>ln C0 R (lp (x _ _ _ _) R)) (bn λU O=>xo 29 R λ_ B=>K0.bx 4 (y:=.box (P0.row U)) (by cases O;exact .inl rfl) rfl rfl rfl (yo B (xo 0 R λ_ B=>K0.fm 2 rfl rfl (yo B (bn λX T=>xo 0 R λ_ B=>K0.bx 3 (y:=.bxo (J0.opt X)) (by cases T;exact .inr rfl) rfl rfl rfl (yo B (kc (((Hq _).1 _ _ _)) R λ_=>ci R lz (kc Yn R λ_=>lz))))))))))
 (λ_ _ J x I u x3 D=>lu (ci R (ix R λ_=>kc Zi R λV=>ci R lz (xo 12 R λ_ B=>K0.ue hC R (L0.mput _ (L0.mk V.1 false) _) R (yo B (lp (x _ _ _ _) R)))) (lp (J _ _) R)))
def Cd (c:P0)(i:Int)(b:A0):Option Int:=idx c.p.Decls i>>=λr=>Q7 none>>=λd=>M3 c i b r d.1 d 0
def Yz {c i b}:SP C 147 [.d (.box (P0.row c)),dI i,W0 b] [] (Cd c i b) rtI:=fi func147 R (ix R λr=>kh [] Mk R λ_=>ll [r.P,r.Vars] R (lp (((Xv _ _ _ _ _).1 _ _)) R))
def Ti (c:P0)(i:Int):Option Int:=idx c.p.Decls i>>=λd=>W7 c d.N i>>=λb=>if b.2 !=0 then some b.2 else if d.K==5 then Ga b.1>>=λv=>if !v then some 9 else Ha c i false>>=λu=>Jf u d.Value b.1>>=λr=>some r else if d.K==6 then Cd c i b.1>>=λx=>some x else some 0
def O13 {c i}:SP C 73 [.d (.box (P0.row c)),dI i] [] (Ti c i) rtI:=fi func73 R (ix R λ_=>kc Zi R λ_=>ci R lz (ci R (kc Pm R λ_=>ci R lz (kc Gq R λ_=>kc Yn R λ_=>lz)) (ci R (kc Yz R λ_=>lz) lz)))
mutual
def Dl (t:A0):Option Bool:=(if !(t.K==4)then F6 t.Of else some default)>>=λb=>some (bif (t.K==4)then true else b) partial_fixpoint
def F6 (s:List A0):Option Bool:=X6 s>>=λb=>some (decide (b>=0)) partial_fixpoint
def X6 (s:List A0):Option Int:=D3 s 0 partial_fixpoint
def D3 (s:List A0)(b:Int):Option Int:=if decide (b<(s.length:Int))then idx s b>>=λd=>Dl d>>=λc=>if c=true then some b else D3 s (i64.wrap (b+1))else some (-1) partial_fixpoint
end
def D1l:(∀t,SP C 307 [W0 t] [] (Dl t) rtB)/\(∀s,SP C 313 [T2 s,.clo 307 []] [] (F6 s) rtB)/\(∀s,SP C 346 [T2 s,.clo 307 []] [] (X6 s) rtI)/\(∀s r,LP C f346 0 [1,0,1,4] [(0,T2 s),(1,.clo 307 []),(7,dI (s.length:Int)),(8,dI r)] [] (D3 s r) rtI):=Dl.mutual_partial_correctness _ _ _ _ (λ_ u t=>fi func307 R (kg (u _) R λ_=>lz)) (λ_ c s=>fi func313 R (kc (c _) R λ_=>lz)) (λ_ b s=>fi func346 R (ln A0 R (lp (b _ _) R))) (λ_ _ d b s r=>lu (ci R (ix R λ_=>kc (d _) R λ_=>ci R lz (lp (b _ _) R)) lz))
def L11 (t:A0):Option Int:=Dl t>>=λc=>if c=true then some 7 else Qi t>>=λb=>if b=true then some 8 else Xe t>>=λd=>if decide (d>32)then some 4 else some 0
def O1n {t}:SP C 240 [W0 t] [] (L11 t) rtI:=fi func240 R (kc (D1l.1 _) R λ_=>ci R lz (kc (G16.1 _) R λ_=>ci R lz (kc (H16.1 _) R λ_=>ci R lz lz)))
def Yv (t:A0):Option Int:=Qh t>>=λb=>if b !=0 then some b else L11 t>>=λc=>some c
def P1n {t}:SP C 153 [W0 t] [] (Yv t) rtI:=fi func153 R (kc C10 R λ_=>ci R lz (kc O1n R λ_=>lz))
def Gn (s:Str):Option Str:=B1g s>>=λb=>some b
def T14 {s}:SP C 156 [.d (.str s)] [] (Gn s) (λr=>Ret [] (.d (.str r))):=fi func156 R (kc ((λ_=>O20)) R λ_=>lz)
def Aj (b:Str)(r:Int)(x:A0)(s:List T0):Option (Bool×List T0):=if x.K==0 then Gn b>>=λd=>if decide ((s.length+1)*41<=140737488355328)then some (true,(s++[(T0.mk d true 0 1)]))else none else if x.K==1 then Gn b>>=λc=>if decide ((s.length+1)*41<=140737488355328)then some (true,(s++[(T0.mk c false x.Low x.H)]))else none else some (true,s)
def D19 {b c x s}:SP C 155 [.d (.str b),dI c,W0 x,.ref 0 0] [.row [.osl 1 (T0.rows s)] 59,.tok 108 4] (Aj b c x s) (λr=>Ret [.row [.osl 1 (T0.rows r.2)] 59,.tok 108 4] (dB r.1)):=fi func155 R (ci R (kc T14 R λv=>ap [(T0.mk v true 0 1)] R lz) (ci R (kc T14 R λu=>ap [(T0.mk u false x.Low x.H)] R lz) lz))
variable {gm:Nat}
mutual
def A8 (b:Str)(t:A0)(s:Int)(d:List T0):Option (Bool×Int×List T0):=Aj b s t d>>=λc=>if !c.1 then some (false,s,c.2)else if t.K==2 then Ja b t s c.2 0 else if t.K==3 then Ia b t s c.2 0 else some (true,(i64.wrap (s+1)),c.2) partial_fixpoint
def Ia (b:Str)(t:A0)(r:Int)(d:List T0)(c:Int):Option (Bool×Int×List T0):=if decide (c<(t.Of.length:Int))then idx t.Of c>>=λx=>if decide (b.length+1<=maxLen)then idx t.O c>>=λv=>if decide ((b++[46]).length+v.length<=maxLen)then A8 ((b++[46])++v) x r d>>=λu=>if !u.1 then some (false,u.2.1,u.2.2)else Ia b t u.2.1 u.2.2 (i64.wrap (c+1))else none else none else some (true,r,d) partial_fixpoint
def Ja (b:Str)(t:A0)(v:Int)(u:List T0)(c:Int):Option (Bool×Int×List T0):=if decide (c<t.E)then if decide (b.length+1<=maxLen)then T1k c>>=λr=>if decide ((b++[46]).length+r.length<=maxLen)then idx t.Of 0>>=λx=>A8 ((b++[46])++r) x v u>>=λd=>if !d.1 then some (false,d.2.1,d.2.2)else Ja b t d.2.1 d.2.2 (i64.wrap (c+1))else none else none else some (true,v,u) partial_fixpoint
end
def A1c:(∀b t s T,SP C 241 [.d (.str b),W0 t,.ref 0 0,.ref 1 0,.ref 2 0] [.row [.clo 155 [.ref 3 0]] 222,.row [dI s] 3,.row [.clo 241 [.ref 0 0,.ref 1 0,.ref 2 0]] 276,.row [.osl 4 (T0.rows T)] 59,.tok 108 4] (A8 b t s T) (λr=>Ret [.row [.clo 155 [.ref 3 0]] 222,.row [dI r.2.1] 3,.row [.clo 241 [.ref 0 0,.ref 1 0,.ref 2 0]] 276,.row [.osl 4 (T0.rows r.2.2)] 59,.tok 108 4] (dB r.1)))/\(∀b t z y v,LP C f241 5 [1,1,0,1,4,1,3,1,2,1,4] [(0,.d (.str b)),(4,.ref 2 0),(6,.ref 5 0),(44,T2 t.Of),(45,dI (t.Of.length:Int)),(46,dI v)] [.row [.clo 155 [.ref 3 0]] 222,.row [dI z] 3,.row [.clo 241 [.ref 0 0,.ref 1 0,.ref 2 0]] 276,.row [.osl 4 (T0.rows y)] 59,.tok 108 4,G1 t] (Ia b t z y v) (λr=>Ret [.row [.clo 155 [.ref 3 0]] 222,.row [dI r.2.1] 3,.row [.clo 241 [.ref 0 0,.ref 1 0,.ref 2 0]] 276,.row [.osl 4 (T0.rows r.2.2)] 59,.tok 108 4] (dB r.1)))/\(∀b t V U c,LP C f241 5 [1,1,0,1,4,1,2,1,4] [(0,.d (.str b)),(4,.ref 2 0),(6,.ref 5 0),(24,dI t.E),(25,dI c)] [.row [.clo 155 [.ref 3 0]] 222,.row [dI V] 3,.row [.clo 241 [.ref 0 0,.ref 1 0,.ref 2 0]] 276,.row [.osl 4 (T0.rows U)] 59,.tok 108 4,G1 t] (Ja b t V U c) (λr=>Ret [.row [.clo 155 [.ref 3 0]] 222,.row [dI r.2.1] 3,.row [.clo 241 [.ref 0 0,.ref 1 0,.ref 2 0]] 276,.row [.osl 4 (T0.rows r.2.2)] 59,.tok 108 4] (dB r.1))):=A8.mutual_partial_correctness _ _ _ (λ_ _ x B b t s T=>fi func241 R (kh [3,4] D19 R λ_=>ci R lz (ci R (lp (B _ _ _ _ _) R) (ci R (ln A0 R (lp (x _ _ _ _ _) R)) lz)))) (λ_ _ u x b t z y v=>lu (ci R (ix R λ_=>dr 10 8 R (aa λO=>xq 2 R λ_ D=>AQ.q hC R O (yq D R (ix R λ_=>aa λc46=>xq 2 R λ_ D=>AQ.q hC R c46 (yq D R (kh [0,1,2,3,4] (u _ _ _ _) R λ_=>ci R lz (lp (x _ _ _ _ _) R))))))) lz)) (λ_ _ u B b t V U c=>lu (ci R (dr 10 11 R (aa λJ=>xq 2 R λ_ D=>AQ.q hC R J (yq D R (kc ((λ_=>X23)) R λ_=>aa λI=>xq 1 R λ_ D=>AQ.q hC R I (yq D R (ix R λ_=>kh [0,1,2,3,4] (u _ _ _ _) R λ_=>ci R lz (lp (B _ _ _ _ _) R))))))) lz))
def Lw (t:A0)(s:List T0):Option (List T0):=A8 [] t 0 s>>=λb=>some b.2.2
def L1i {t s}:SP C 154 [W0 t,.clo 155 [.ref 0 0]] [.row [.osl 1 (T0.rows s)] 59,.tok 108 4] (Lw t s) (λr=>Ret [.row [.osl 1 (T0.rows r)] 59,.tok 108 4] (.tup [])):=fi func154 R (kh [3,4,5,0,1] (A1c.1 _ _ _ _) R λ_=>lz)
def Db (t:A0):Option (List T0×Int):=Yv t>>=λb=>if b !=0 then some ([],b)else Lw t []>>=λc=>some (c,0)
def Uh {t}:SP C 77 [W0 t] [] (Db t) (λr=>Ret [] (.tup [Z7 r.1,dI r.2])):=fi func77 R (kc P1n R λ_=>ci R lz (xo 5 R λ_ b=>K0.tokC 1 0 108 4 R R R R R (yo b (kh [1,2] L1i R λ_=>lz))))
def Zn (a b:Int):Option Int:=some (min (i64.wrap (a*b)) 1073741824)
def Nt {a b}:SP C 151 [dI a,dI b] [] (Zn a b) rtI:=fi func151 R lz
def Ru (a b:Int):Option Int:=some (min (i64.wrap (a+b)) 1073741824)
def Rv {a b}:SP C 339 [dI a,dI b] [] (Ru a b) rtI:=fi func339 R lz
def Lf (a b:O0):Option O0:=Ru a.k b.k>>=λd=>Ru a.m b.m>>=λc=>some (O0.mk d c)
def Lv {a b}:SP C 305 [Da a,Da b] [] (Lf a b) Ck:=fi func305 R (kc Rv R λ_=>kc Rv R λ_=>lz)
def Ux (a b:O0):Option O0:=some (O0.mk (max a.k b.k) (max a.m b.m))
def U14 {a b}:SP C 340 [Da a,Da b] [] (Ux a b) Ck:=fi func340 R lz
def Hx (n:Int)(b:O0):Option O0:=Ru 1 b.k>>=λd=>Zn n d>>=λc=>Zn n b.m>>=λr=>some (O0.mk c r)
def D10 {n b}:SP C 341 [dI n,Da b] [] (Hx n b) Ck:=fi func341 R (kc Rv R λ_=>kc Nt R λ_=>kc Nt R λ_=>lz)
mutual
def Q3 (l:List E0)(m:List (Str×O0)):Option O0:=E7 l m (O0.mk 0 0) 0 partial_fixpoint
def E7 (l:List E0)(m:List (Str×O0))(c:O0)(b:Int):Option O0:=if decide (b<(l.length:Int))then idx l b>>=λu=>Lf c (O0.mk 1 0)>>=λd=>Ui u m>>=λv=>Lf d v>>=λr=>E7 l m r (i64.wrap (b+1))else some c partial_fixpoint
def Ui (x:E0)(m:List (Str×O0)):Option O0:=if x.S==3 then some (O0.mk 0 1)else if x.S==1 then some (mgt x.Name m)>>=λy=>some (y.getD O0.zero)else if x.S==5 then Q3 x.Then m>>=λb=>Q3 x.Else m>>=λz=>Ux b z>>=λr=>some r else if x.S==6 then Q3 x.Then m>>=λv=>Hx x.NV v>>=λu=>some u else if x.S==7 then Q3 x.Then m>>=λc=>Hx (i64.wrap ((i64.wrap (x.H-x.Low))+1)) c>>=λd=>some d else some (O0.mk 0 0) partial_fixpoint
end
def Iq (m:List (Str×O0)):(∀l,SP C 238 [.agg [.mp 0],X1 l] [H4 m] (Q3 l m) (λr=>Ret [H4 m] (Da r)))/\(∀l y c,LP C f238 1 [1,1,0,1,4] [(2,.ref 1 0),(4,.ref 2 0),(5,.ref 3 0),(9,X1 l),(10,dI (l.length:Int)),(11,dI c)] [H4 m,.row [.mp 0] 274,.row [dI 0,dI 0] 218,G1i y] (E7 l m y c) (λr=>Ret [H4 m] (Da r)))/\(∀x,SP C 306 [.agg [.mp 0],Df x] [H4 m] (Ui x m) (λr=>Ret [H4 m] (Da r))):=Q3.mutual_partial_correctness m _ _ _ (λ_ u l=>fi func238 R (ln E0 R (lp (u _ _ _) R))) (λ_ _ u z l y c=>lu (ci R (ix R λ_=>dr 5 6 R (kc Lv R λ_=>kh [0] (z _) R λ_=>kc Lv R λ_=>lp (u _ _ _) R)) lz)) (λ_ b x=>fi func306 R (ci R lz (ci R (bn λ_ B=>xo 6 R λ_ d=>K0.me hC R (O0.lk B) (yo d lz)) (ci R (bn λ_ D=>xe 1 R λ_ d=>AEx.drawL hC 7 [3] [] [[H4 m,.row [.mp 0] 274,Y1 x,.row [dI 0,dI 0] 218],[H4 m,.row [.mp 0] 274,Y1 x,.row [dI 0,dI 0] 218]] [] R R R R R R R R R R (AS.q hC R R R R (AS.q hC R R R R (AS.q hC R R R R (AS.g [0] ((b _) _ D) R R R R R R R R R R R R R (AS.q hC R R R R (AS.q hC R R R R (AS.q hC R R R R (AS.nil (yo d (kh [0] (b _) R λ_=>kc U14 R λ_=>lz))))))))))) (ci R (bn λ_ I=>xe 1 R λ_ d=>AEx.drawL hC 6 [5] [] [[H4 m,.row [.mp 0] 274,Y1 x,.row [dI 0,dI 0] 218],[H4 m,.row [.mp 0] 274,Y1 x,.row [dI 0,dI 0] 218]] [] R R R R R R R R R R (AS.q hC R R R R (AS.q hC R R R R (AS.q hC R R R R (AS.q hC R R R R (AS.q hC R R R R (AS.g [0] ((b _) _ I) R R R R R R R R R R R R R (AS.nil (yo d (kc D10 R λ_=>lz)))))))))) (ci R (bn λ_ v=>xe 1 R λ_ d=>AEx.drawL hC 10 [9] [] [[H4 m,.row [.mp 0] 274,Y1 x,.row [dI 0,dI 0] 218],[H4 m,.row [.mp 0] 274,Y1 x,.row [dI 0,dI 0] 218]] [] R R R R R R R R R R (AS.q hC R R R R (AS.q hC R R R R (AS.q hC R R R R (AS.q hC R R R R (AS.q hC R R R R (AS.q hC R R R R (AS.q hC R R R R (AS.q hC R R R R (AS.q hC R R R R (AS.g [0] ((b _) _ v) R R R R R R R R R R R R R (AS.nil (yo d (kc D10 R λ_=>lz)))))))))))))) lz))))))
def J7 (p:I0)(c:List (Str×O0))(b:Int):Option O0:=if decide (b<(p.Decls.length:Int))then idx p.Decls b>>=λd=>if d.K==6 then Q3 d.Body c>>=λr=>J7 p (mpt d.Name r c) (i64.wrap (b+1))else J7 p c (i64.wrap (b+1))else Q3 p.Body c>>=λu=>some u partial_fixpoint
def T15 (p:I0):∀c b,LP C f152 0 [1,1,0,1,4] [(1,.ref 0 0),(2,.ref 1 0),(3,.ref 3 0),(9,V0 p.Decls),(10,dI (p.Decls.length:Int)),(11,dI b)] [U1 p,.row [dI 0,dI 0] 218,H4 c,.row [.mp 2] 274] (J7 p c b) Ck:=J7.partial_correctness p _ (λ_ d c b=>lu (ci R (ix R λv=>ci R (bn λx u=>xe 0 R λ_ r=>AEx.drawL hC 8 [7] [] [[U1 p,.row [dI 0,dI 0] 218,H4 c,.row [.mp 2] 274,W1 v],[U1 p,.row [dI 0,dI 0] 218,H4 c,.row [.mp 2] 274,W1 v]] [] R R R R R R R R R R (AS.q hC R R R R (AS.q hC R R R R (AS.q hC R R R R (AS.q hC R R R R (AS.q hC R R R R (AS.q hC R R R R (AS.q hC R R R R (AS.g [2] (((Iq _).1 _) _ u) R R R R R R R R R R R R R (AS.nil (yo r (xo 0 R λ_ r=>K0.ue hC R (O0.mput _ x _) R (yo r (lp (d _ _) R)))))))))))))) (lp (d _ _) R)) (kh [2] (((Iq _).1 _)) R λ_=>lz)))
def Sv (p:I0):Option O0:=J7 p [] 0
def U1a {p}:SP C 152 [S2 p] [] (Sv p) Ck:=fi func152 R (xo 8 R λ_ b=>K0.w R (yo b (ln C0 R (lp (T15 _ _ _) R))))
mutual
def V3 (c:P0)(u:List (Int×Int))(d b r:Int):Option Int:=if decide (r<(c.p.Decls.length:Int))then idx c.p.Decls r>>=λv=>some (L6 v.K u)>>=λy=>if v.K==5 then F8 c u v d (i64.wrap (b+1)) r y r else F8 c u v d b r y r else Sv c.p>>=λx=>if decide (d>64)then if decide (d>64)then some 4 else some 0 else if decide (b>8)then if decide (b>8)then some 4 else some 0 else some (L6 1 u)>>=λB=>if decide ((B.getD ei64.zero)>4096)then if decide ((B.getD ei64.zero)>4096)then some 4 else some 0 else some (L6 2 u)>>=λD=>if decide ((D.getD ei64.zero)>4096)then if decide ((D.getD ei64.zero)>4096)then some 4 else some 0 else some (L6 3 u)>>=λz=>if decide ((z.getD ei64.zero)>256)then if decide ((z.getD ei64.zero)>256)then some 4 else some 0 else if decide (x.k>4096)then if decide (x.k>4096)then some 4 else some 0 else if decide (x.m>8)then some 4 else some 0 partial_fixpoint
def F8 (c:P0)(u:List (Int×Int))(v:C0)(b d i:Int)(x2:Option Int)(r:Int):Option Int:=if bif (!x2.isSome)then(v.K !=4)else false then V3 c u b d (i64.wrap (r+1))else V4 c v.N i>>=λy=>Db y>>=λx=>H5 c u v (i64.wrap (b+(x.1.length:Int))) d (x2.getD ei64.zero) x2 r x 0 partial_fixpoint
def H5 (c:P0)(u:List (Int×Int))(y:C0)(b d n:Int)(x2:Option Int)(r:Int)(x:List T0×Int)(v:Int):Option Int:=if decide (v<(x.1.length:Int))then idx x.1 v>>=λB=>if x2.isSome=true then Zn n (i64.wrap ((i64.wrap (B.H-B.Low))+1))>>=λz=>H5 c u y b d z x2 r x (i64.wrap (v+1))else H5 c u y b d n x2 r x (i64.wrap (v+1))else if x2.isSome=true then V3 c (Oh y.K n u) b d (i64.wrap (r+1))else V3 c u b d (i64.wrap (r+1)) partial_fixpoint
end
def Ay (c:P0):(∀m0 x r T,LP C f76 0 [1,1,1,0,1,4] [(0,.d (.box (P0.row c))),(3,dI x),(4,dI r),(5,.mp 0),(21,V0 c.p.Decls),(22,dI (c.p.Decls.length:Int)),(23,dI T)] [.map (.i .i64 (ei64.entsI m0))] (V3 c m0 x r T) rtI)/\(∀O U v b i x2 y,JP C f76 0 [1,1,1,0,1,4,5,1,1,0,4,1,1,1] [(0,.d (.box (P0.row c))),(3,dI v),(4,dI b),(5,.mp 0),(6,dI i),(7,.ref 1 0),(8,dI (x2.getD ei64.zero)),(9,dB x2.isSome),(21,V0 c.p.Decls),(22,dI (c.p.Decls.length:Int)),(23,dI y)] [.map (.i .i64 (ei64.entsI O)),W1 U] (F8 c O U v b i x2 y) rtI)/\(∀J U u b n x2 y X I,LP C f76 0 [1,1,1,0,1,4,5,1,1,0,4,1,1,1,1,1,1,0,1,4] [(0,.d (.box (P0.row c))),(3,dI u),(4,dI b),(5,.mp 0),(7,.ref 1 0),(8,dI n),(9,dB x2.isSome),(21,V0 c.p.Decls),(22,dI (c.p.Decls.length:Int)),(23,dI y),(60,Z7 X.1),(61,dI (X.1.length:Int)),(62,dI I)] [.map (.i .i64 (ei64.entsI J)),W1 U] (H5 c J U u b n x2 y X I) rtI):=V3.mutual_partial_correctness c _ _ _ (λ_ V m0 x r T=>lu (ci R (ix R λ_=>bn λ_ a0=>xo 12 R λ_ D=>K0.mi hC R (ei64.lkIT a0) (yo D (ci R (jo 5 (V _ _ _ _ _ _ _) R) (jo 1 (V _ _ _ _ _ _ _) R)))) (kc U1a R λ_=>ci R (ci R lz lz) (ci R (ci R lz lz) (bn λ_ Z=>xo 3 R λ_ D=>K0.mi hC R (ei64.lkI Z) (yo D (ci R (ci R lz lz) (bn λ_ Y=>xo 3 R λ_ D=>K0.mi hC R (ei64.lkI Y) (yo D (ci R (ci R lz lz) (bn λ_ a1=>xo 3 R λ_ D=>K0.mi hC R (ei64.lkI a1) (yo D (ci R (ci R lz lz) (ci R (ci R lz lz) (ci R lz lz))))))))))))))) (λ_ _ z B O U v b i x2 y=>ci R (lp (z _ _ _ _) R) (kc T7 R λ_=>kc Uh R λ_=>ln T0 R (ln T0 R (lp (B _ _ _ _ _ _ _ _ _) R)))) (λ_ _ z B J U u b n x2 y X I=>lu (ci R (ix R λ_=>ci R (kc Nt R λ_=>lp (B _ _ _ _ _ _ _ _ _) R) (lp (B _ _ _ _ _ _ _ _ _) R)) (ci R (xo 5 R λ_ D=>K0.ui hC R (ei64.mputI _ n _) R (yo D (lp (z _ _ _ _) R))) (lp (z _ _ _ _) R))))
def Bm (c:P0):Option Int:=V3 c (Oh 3 1 (Oh 2 1 (Oh 1 1 []))) 0 0 0
def C12 {c}:SP C 76 [.d (.box (P0.row c))] [] (Bm c) rtI:=fi func76 R (xo 13 R λ_ b=>K0.wi .i64 R (yo b (xo 0 R λ_ b=>K0.ui hC R (ei64.mputI _ 1 []) R (yo b (xo 0 R λ_ b=>K0.ui hC R (ei64.mputI _ 1 _) R (yo b (xo 0 R λ_ b=>K0.ui hC R (ei64.mputI _ 1 _) R (yo b (ln C0 R (lp (((Ay _).1 _ _ _ _)) R))))))))))
def G8 (p:I0)(x3:P0)(b:Int):Option (Int×Int):=if decide (b<(p.Decls.length:Int))then Ti x3 b>>=λc=>if c !=0 then some (b,c)else G8 p x3 (i64.wrap (b+1))else Ha x3 (p.Decls.length:Int) true>>=λu=>P3 x3 u p.Body true>>=λd=>if d !=0 then some ((-1),d)else Bm x3>>=λr=>some ((-1),r) partial_fixpoint
def E19 (p:I0)(x3:P0):∀b,LP C f41 0 [1,1,1,1,1,0,1,4] [(1,.ref 0 0),(5,.d (.box (P0.row x3))),(45,dI (p.Decls.length:Int)),(46,dI b)] [U1 p] (G8 p x3 b) Ue:=G8.partial_correctness p x3 _ (λ_ c b=>lu (ci R (kc O13 R λ_=>ci R lz (lp (c _) R)) (ln C0 R (kc Gq R λ_=>kc (((Hq _).1 _ _ _)) R λ_=>ci R lz (kc C12 R λ_=>lz)))))
def Ma (p:I0)(c:List (Str×Bool))(b:Int):Option (Int×Int):=if decide (b<(p.Decls.length:Int))then idx p.Decls b>>=λu=>Ma p (mpt u.Name true c) (i64.wrap (b+1))else some (P0.mk p (p.Decls.length:Int) false c)>>=λr=>Ac r>>=λd=>if decide (d>=0)then some (d,8)else G8 p r 0 partial_fixpoint
def F19 (p:I0):∀d b,LP C f41 0 [1,1,1,0,1,4] [(1,.ref 0 0),(5,.ref 2 0),(25,V0 p.Decls),(26,dI (p.Decls.length:Int)),(27,dI b)] [U1 p,.map (.s (ebool.ents d)),.row [V0 p.Decls,X1 p.Body,dI (p.Decls.length:Int),dB false,.mp 1] 144] (Ma p d b) Ue:=
 Ma.partial_correctness p _
 (λ_ u d b=>lu (ci R (ix R λ_=>xo 14 R λ_ c=>K0.ue hC rfl (ebool.mput _ true _) rfl (yo c (lp (u _ _) R))) (xo 9 R λ_ c=>K0.fm 1 rfl rfl (yo c (bn λv r=>xo 0 R λ_ c=>K0.bx 2 (y:=.box (P0.row v)) (by cases r;exact .inl rfl) rfl rfl rfl (yo c (kc Ty R λ_=>ci R lz (ln C0 R (lp (E19 _ _ _) R)))))))))
def Mf (p:I0):Option (Int×Int):=Sy p>>=λb=>if b !=0 then some ((-1),b)else Ma p [] 0
def Ot {p}:SP C 41 [S2 p] [] (Mf p) Ue:=fi func41 R (kc A1l R λ_=>ci R lz (ln C0 R (xo 1 R λ_ b=>K0.w R (yo b (ln C0 R (lp (F19 _ _ _) R))))))
def Q17 (c:C1):Option J4:=some (J4.mk c.Q c.e c.U c.d c.Z c.Y c.W c.a c.f c.J c.b c.c c.G)
def Q1n {c}:SP C 127 [G5 c] [] (Q17 c) (λr=>Ret [] (.agg (J4.cells r))):=fi func127 R lz
def Su (c:C1):Option Int:=Q17 c>>=λb=>if bif (decide (b.x0<0))then true else(decide (b.x0>100))then some 3 else if bif (decide (b.x1<0))then true else(decide (b.x1>100))then some 3 else if bif (decide (b.x2<0))then true else(decide (b.x2>100))then some 3 else if bif (decide (b.x3<0))then true else(decide (b.x3>100))then some 3 else if bif (decide (b.x4<0))then true else(decide (b.x4>100))then some 3 else if bif (decide (b.x5<0))then true else(decide (b.x5>100))then some 3 else if bif (decide (b.x6<0))then true else(decide (b.x6>100))then some 3 else if bif (decide (b.x7<0))then true else(decide (b.x7>100))then some 3 else if bif (decide (b.x8<0))then true else(decide (b.x8>100))then some 3 else if bif (decide (b.x9<0))then true else(decide (b.x9>100))then some 3 else if bif (decide (b.Ki<0))then true else(decide (b.Ki>100))then some 3 else if bif (decide (b.Kh<0))then true else(decide (b.Kh>100))then some 3 else if bif (decide (b.Kg<0))then true else(decide (b.Kg>100))then some 3 else some 0
def V12 {c}:SP C 67 [G5 c] [] (Su c) rtI:=fi func67 R (kc Q1n R λ_=>un R (ct R (vv R (ci R lz (un R (ct R (vv R (ci R lz (un R (ct R (vv R (ci R lz (un R (ct R (vv R (ci R lz (un R (ct R (vv R (ci R lz (un R (ct R (vv R (ci R lz (un R (ct R (vv R (ci R lz (un R (ct R (vv R (ci R lz (un R (ct R (vv R (ci R lz (un R (ct R (vv R (ci R lz (un R (ct R (vv R (ci R lz (un R (ct R (vv R (ci R lz (un R (ct R (vv R (ci R lz (un R (cf R lz))))))))))))))))))))))))))))))))))))))))))))))))))))))
def I5 (i:Int)(t:A0)(b:X0)(m:List (Str×Z0)):Option A0:=slc b.decls 0 i>>=λd=>Yi d t>>=λc=>some c.1
def U6 {i t u m}:SP C 43 [.ref 0 0,dI i,W0 t] [.row [V0 u.decls,dI u.L.Q,dI u.L.e,dI u.L.U,dI u.L.d,dI u.L.Z,dI u.L.Y,dI u.L.W,dI u.L.a,dI u.L.f,dI u.L.J,dI u.L.b,dI u.L.c,dI u.L.G,.mp 1,.full (ei64.rows u.M.g),dI u.M.i] 88,R0 m] (I5 i t u m) (λr=>Ret [.row [V0 u.decls,dI u.L.Q,dI u.L.e,dI u.L.U,dI u.L.d,dI u.L.Z,dI u.L.Y,dI u.L.W,dI u.L.a,dI u.L.f,dI u.L.J,dI u.L.b,dI u.L.c,dI u.L.G,.mp 1,.full (ei64.rows u.M.g),dI u.M.i] 88,R0 m] (W0 r)):=fi func43 R (bn λ_ v=>bn λy x=>xe 7 R λ_ z=>AEx.drawL hC 13 [12] [(11,4)] [[.row [V0 u.decls,dI u.L.Q,dI u.L.e,dI u.L.U,dI u.L.d,dI u.L.Z,dI u.L.Y,dI u.L.W,dI u.L.a,dI u.L.f,dI u.L.J,dI u.L.b,dI u.L.c,dI u.L.G,.mp 1,.full (ei64.rows u.M.g),dI u.M.i] 88,R0 m,G1 t,.row [dI 0,dI 0,dI 0,dI 0,.d (.str []),.full (estr.rows []),.full (A0.rows [])] 51,.row [dI 0,dI 0,dI 0,dI 0,.d (.str []),.full (estr.rows []),.full (A0.rows [])] 51],[.row [V0 u.decls,dI u.L.Q,dI u.L.e,dI u.L.U,dI u.L.d,dI u.L.Z,dI u.L.Y,dI u.L.W,dI u.L.a,dI u.L.f,dI u.L.J,dI u.L.b,dI u.L.c,dI u.L.G,.mp 1,.full (ei64.rows u.M.g),dI u.M.i] 88,R0 m,G1 t,.row [dI 0,dI 0,dI 0,dI 0,.d (.str []),.full (estr.rows []),.full (A0.rows [])] 51,G1 y.1]] [] R R R R R R R R R R (AS.q hC R R R R (AS.q hC R R R R (AS.q hC R R R R (AS.q hC R R R R (AS.q hC R R R R (AS.a R (λH=>AQ.dx hC R (C0.part v) (C0.sz _) (AQ.nil R)) R R (AS.q hC R R R R (AS.c (Ns _ x) R R R R (AS.q hC R R R R (AS.q hC R R R R (AS.q hC R R R R (AS.n hC R R R R (AS.s hC R R R R R R R (AS.nil (yo z lz))))))))))))))))
def Eb (t:A0):Option Int:=Db t>>=λb=>some (b.1.length:Int)
def B9 {t}:SP C 114 [W0 t] [] (Eb t) rtI:=fi func114 R (kc Uh R λ_=>ln T0 R lz)
def Pb (s:List Int)(ar:List (List Int)):Option ((Nat×Nat)×List (List Int)):=if decide ((0:Int).toNat<s.length)then if decide (0<s.length/\s.length*9<=140737488355328)then some ((ar.length,(s.length:Int).toNat),(ar++[s]))else none else none
def Er {s ar b}(c:Pb s ar=some b):B4 C 115 [X5 s] [.slots gm 3 (arI ar)] (Ret [.slots gm 3 (arI b.2)] (.d (.csl gm b.1.1 0 b.1.2))):=by
 unfold Pb at c;obtain⟨u,c⟩:=G6 c;obtain⟨r,c⟩:=G6 c;cases c;refine B4.intro hC func115 R R R (t' R (S' (p' 1 R (K0.nn hC R (by rw[ei64.len];exact u) (n' (AEx.cond_false R (sk' (s' R R (K0.be hC R (ei64.rows_map []).symm (q' R (K0.an hC R (ei64.ne r.1) (ei64.sz _) (by rw[ei64.len];exact r.2) (show ei64.cells s=_ from N1k _ _) (ei64.len _) R (q' R (K0.pua 1 0 (ls:=ar) (x:=s) R R R R ?_)))))))))))));exact n' (re' (rq R))
def Ll (c d:List Int)(r:List T0×Int)(b:Int):Option (List Int×Int):=if decide (b<(r.1.length:Int))then idx r.1 b>>=λu=>idx c b>>=λv=>if decide (0<=b/\b<((c.length:Int).toNat:Int))then if decide (b.toNat<d.length)then Ll c (d.set b.toNat (min (max v u.Low) u.H)) r (i64.wrap (b+1))else none else none else if decide (d.length=(c.length:Int).toNat)then some (d,0)else none partial_fixpoint
abbrev V14 (list a1:List Int)(x1:List T0×Int)(v29:Int)(res:List Int×Int):Prop:=LM C 49 0 f118 [1,1,1,1,1,0,1,4] [(1,X5 list),(8,.rsl 1 0 (list.length:Int).toNat (list.length:Int).toNat),(27,Z7 x1.1),(28,dI (x1.1.length:Int)),(29,dI v29)] [.dead,.row (ei64.cells a1) 3] (Ret [] (.tup [X5 res.1,dI res.2]))
def E1e (c:List Int)(I:List T0×Int):(∀z r d,Ll c z I r=some d->V14 c z I r d):=by
 refine Ll.partial_correctness c I _ ?_
 ·intro J B z r d b;refine T8.unroll (t' R (S' (ci' R b (λb=>?_) (λb=>?_))))
  ·obtain⟨O,v,b⟩:=bs' b;obtain⟨T,u,b⟩:=bs' b;obtain⟨D,b⟩:=G6 b;obtain⟨x,b⟩:=G6 b;refine sk' (S' (bk' (p' 1 R (i' R (M8 v) (T0.idx v) R (q' R (K0.n hC R (q' R (K0.s hC R (n' (AEx.draw hC 13 R R R (O' 4 R (AQ.i hC R (M8 u) (ei64.idx u) R (O' 7 R ?_)))))))))))));refine AQ.q hC R D (Qn' (K0.sx hC R (G1s x) (X1o x) R (n' (T' R ?_))));refine T8.wk ?_ (B _ _ _ b);exact⟨⟨⟨.rfl,R⟩,⟨.rfl,R⟩,⟨.rfl,R⟩,⟨.rfl,R⟩,⟨.rfl,R⟩,trivial⟩,⟨trivial,⟨R,.refl _,Dq _ _ _⟩,trivial⟩,R⟩
  obtain⟨y,b⟩:=G6 b;cases b;exact ex' (t' R (AEx.fz 4 1 (f:=ei64.leaf) R R y R (re' (rq R))))
def I1g {b u r d c}(v:Ll b u r d=some c):V14 b u r d c:=(E1e b r) _ _ _ v
def El (t:A0)(b:List Int):Option (List Int×Int):=Db t>>=λc=>if c.2 !=0 then some ([],c.2)else if (c.1.length:Int)!=(b.length:Int)then some ([],2)else if decide (0<=(b.length:Int)/\(b.length:Int).toNat*8<=140737488355328)then Ll b (List.replicate (b.length:Int).toNat 0) c 0 else none
def Up {t c d}(b:El t c=some d):B4 C 118 [W0 t,X5 c] [] (Ret [] (.tup [X5 d.1,dI d.2])):=by
 unfold El at b;obtain⟨x,r,b⟩:=bs' b;refine B4.intro hC func118 R R R (s' R R (K0.n hC R (e' R (p' 1 R (cq (Uh _ r) R (e' R (S' (t' R (ci' R b (λb=>?_) (λb=>?_))))))))))
 ·refine t' R (re' ?_);have v:=oi' b;subst v;exact⟨_,.tup [X5 [],dI x.2],[],R,(.tupL ⟨.full,.rfl,trivial⟩),trivial,R,R,R,R⟩
 refine sk' (S' (p' 1 R (qe' R trivial (T0.lenA _) (q' R (qe' R trivial (ei64.lenA _) (e' R (ci' R b (λb=>?_) (λb=>?_))))))))
 ·refine t' R (re' ?_);have v:=oi' b;subst v;exact⟨_,.tup [X5 [],dI 2],[],R,(.tupL ⟨.full,.rfl,trivial⟩),trivial,R,R,R,R⟩
 obtain⟨u,b⟩:=G6 b;refine sk' (p' 1 R (qe' R trivial (ei64.lenA _) (K0.mk hC R R u (cs:=ei64.cells _) (Y1o _ _ ei64.zero) R (e' R (S' (p' 1 R (qe' R trivial (T0.lenA _) (e' R (bk' ?_)))))))));refine AEx.ofLoop ?_;refine T8.wk ?_ (I1g b);exact⟨⟨⟨.rfl,R⟩,⟨.rfl,R⟩,⟨.rfl,R⟩,⟨.rfl,R⟩,⟨.rfl,R⟩,trivial⟩,⟨trivial,⟨R,.refl _,Dq _ _ _⟩,trivial⟩,R⟩
def Qb (c d:List Int)(b:Int):Option Bool:=if decide (b<(c.length:Int))then idx c b>>=λu=>idx d b>>=λr=>if u !=r then some false else Qb c d (i64.wrap (b+1))else some true partial_fixpoint
def W12 (c r:List Int):∀b,LP C f23 0 [1,1,0,1,4] [(0,X5 c),(1,X5 r),(12,dI (c.length:Int)),(13,dI b)] [] (Qb c r b) rtB:=Qb.partial_correctness c r _ (λ_ d b=>lu (ci R (ix R λ_=>ix R λ_=>ci R lz (lp (d _) R)) lz))
def Nf (c b:List Int):Option Bool:=if (c.length:Int)!=(b.length:Int)then some false else Qb c b 0
def Wm {c b}:SP C 23 [X5 c,X5 b] [] (Nf c b) rtB:=fi func23 R (ln Int R (ln Int R (ci R lz (ln Int R (lp (W12 _ _ _) R)))))
def Tu (t:A0)(b:List Int):Option Bool:=El t b>>=λc=>(if c.2==0 then Nf c.1 b else some default)>>=λd=>some (bif (c.2==0)then d else false)
def A13 {t b}:SP C 116 [W0 t,X5 b] [] (Tu t b) rtB:=fi func116 R (kc ((λ_=>Up)) R λ_=>kg Wm R λ_=>lz)
def Ij (t:A0)(n:Int)(ar:List (List Int))(c:List Int)(r:List T0×Int)(d:Int):Option (Option Y0×List (List Int)):=if decide (d<(r.1.length:Int))then idx r.1 d>>=λb=>if decide (0<[(min (max n b.Low) b.H)].length/\(c.length+[(min (max n b.Low) b.H)].length)*9<=140737488355328)then if bif b.Bool then(n !=0)else false then if decide (0<=(i64.wrap (((c++[(min (max n b.Low) b.H)]).length:Int)-1))/\(i64.wrap (((c++[(min (max n b.Low) b.H)]).length:Int)-1))<((c++[(min (max n b.Low) b.H)]).length:Int))then if decide ((i64.wrap (((c++[(min (max n b.Low) b.H)]).length:Int)-1)).toNat<(c++[(min (max n b.Low) b.H)]).length)then Ij t n ar ((c++[(min (max n b.Low) b.H)]).set (i64.wrap (((c++[(min (max n b.Low) b.H)]).length:Int)-1)).toNat 1) r (i64.wrap (d+1))else none else none else Ij t n ar (c++[(min (max n b.Low) b.H)]) r (i64.wrap (d+1))else none else if decide ((0:Int).toNat<c.length)then some (some (Y0.mk t (ar.length,c.length)))>>=λu=>some (u,(ar++[c]))else none partial_fixpoint
def F1e (t:A0)(n:Int)(ar:List (List Int))(B:List T0×Int):∀c u,LP C f117 1 [1,1,1,0,1,4] [(1,dI n),(7,.ref 2 0),(18,Z7 B.1),(19,dI (B.1.length:Int)),(20,dI u)] [.slots gm 3 (arI ar),.dead,.row [dI t.K,dI t.Low,dI t.H,dI t.E,.d (.str t.Name),Y5 t.O,T2 t.Of,.vsl 3] 102,.vec 3 1 (arD c)] (Ij t n ar c B u) (λr=>Ret [.slots gm 3 (arI r.2)] (.d (.bxo (Y0.opt gm r.1)))):=
 Ij.partial_correctness t n ar B _
 (λ_ D c u=>lu (ci R (ix R λb=>aa λT=>xe 7 R λ_ v=>AEx.drawL hC 14 [13] [] [[.slots gm 3 (arI ar),.dead,.row [dI t.K,dI t.Low,dI t.H,dI t.E,.d (.str t.Name),Y5 t.O,T2 t.Of,.vsl 3] 102,.vec 3 1 (arD c),U1k b],[.slots gm 3 (arI ar),.dead,.row [dI t.K,dI t.Low,dI t.H,dI t.E,.d (.str t.Name),Y5 t.O,T2 t.Of,.vsl 3] 102,.dead,U1k b,.vec 3 1 (arD (c++[(min (max n b.Low) b.H)]))]] [] rfl rfl rfl rfl rfl rfl rfl rfl rfl rfl (AS.q hC rfl rfl rfl rfl (AS.q hC rfl rfl rfl rfl (AS.q hC rfl rfl rfl rfl (AS.q hC rfl rfl rfl rfl (AS.q hC rfl rfl rfl rfl (AS.q hC rfl rfl rfl rfl (AS.q hC rfl rfl rfl rfl (AS.q hC rfl rfl rfl rfl (AS.q hC rfl rfl rfl rfl (AS.q hC rfl rfl rfl rfl (AS.q hC rfl rfl rfl rfl (AS.q hC rfl rfl rfl rfl (AS.a rfl (λH=>AQ.be hC rfl (ei64.rows_map [(min (max n b.Low) b.H)]).symm (AQ.nil rfl)) rfl rfl (AS.vm hC (x:=c) (y:=[(min (max n b.Low) b.H)]) (z:=(c++[(min (max n b.Low) b.H)])) rfl rfl rfl rfl rfl rfl T rfl rfl rfl rfl rfl (AS.nil (yo v (ci R (dr 10 0 R (xq 8 R λ_ v=>AQ.vlx hC rfl (yq v R (aa λU=>xo 2 R λ_ v=>K0.vix hC rfl U (yo v (aa λV=>xo 0 R λ_ v=>K0.vsx hC (z:=((c++[(min (max n b.Low) b.H)]).set (i64.wrap (((c++[(min (max n b.Low) b.H)]).length:Int)-1)).toNat 1)) rfl V rfl rfl (yo v (lpr [0,1,2,5] [(1,dI n),(7,.ref 2 0),(18,Z7 B.1),(19,dI (B.1.length:Int)),(20,dI (i64.wrap (u+1)))] [.slots gm 3 (arI ar),.dead,.row [dI t.K,dI t.Low,dI t.H,dI t.E,.d (.str t.Name),Y5 t.O,T2 t.Of,.vsl 3] 102,.vec 3 1 (arD ((c++[(min (max n b.Low) b.H)]).set (i64.wrap (((c++[(min (max n b.Low) b.H)]).length:Int)-1)).toNat 1))] (D _ _) R)))))))) (lpr [0,1,2,5] [(1,dI n),(7,.ref 2 0),(18,Z7 B.1),(19,dI (B.1.length:Int)),(20,dI (i64.wrap (u+1)))] [.slots gm 3 (arI ar),.dead,.row [dI t.K,dI t.Low,dI t.H,dI t.E,.d (.str t.Name),Y5 t.O,T2 t.Of,.vsl 3] 102,.vec 3 1 (arD (c++[(min (max n b.Low) b.H)]))] (D _ _) R))))))))))))))))))) (aa λI=>xo 9 R λ_ v=>K0.puv 3 0 (ls:=ar) (x:=c) rfl I rfl rfl (yo v (bn λX J=>xo 0 R λ_ v=>K0.bx 2 (y:=.bxo (Y0.opt gm X)) (by cases J;exact .inr rfl) rfl rfl rfl (yo v lz))))))
def Pt (t:A0)(n:Int)(ar:List (List Int)):Option (Option Y0×List (List Int)):=Db t>>=λb=>Ij t n ar [] b 0
def Wy {t n ar}:SP C 117 [W0 t,dI n] [.slots gm 3 (arI ar)] (Pt t n ar) (λr=>Ret [.slots gm 3 (arI r.2)] (.d (.bxo (Y0.opt gm r.1)))):=fi func117 R (kc Uh R λ_=>xo 11 R λ_ b=>K0.bz hC R (yo b (xo 1 R λ_ b=>K0.vc 2 7 3 1 R R R R R (yo b (ln T0 R (lp (F1e _ _ _ _ _ _) R))))))
def Uu (e:D0):Option Bool:=some (bif (bif (e.Op==3)then true else(e.Op==4))then true else(e.Op==5))
def B13 {e}:SP C 194 [A2 e] [] (Uu e) rtB:=fi func194 R lz
def Dd (b:X0)(m:List (Str×Option Y0))(ar:List (List Int))(B:List (Str×Z0))(y:Option Y0×Int×A0)(c u:Int)(d:List A0)(r:Int):Option (Option Y0×Int×A0):=if decide (r<(d.length:Int))then idx d r>>=λx=>Eb x>>=λz=>Dd b m ar B y (i64.wrap (c+z)) u d (i64.wrap (r+1))else idx y.2.2.Of u>>=λv=>some (y.1,c,v) partial_fixpoint
def Zz (u:X0)(m:List (Str×Option Y0))(ar:List (List Int))(D:List (Str×Z0))(B:Option Y0×Int×A0)(z:Int)(x:List A0):∀v y,LP C f195 4 [1,1,1,1,1,0,1,4] [(8,.ref 5 0),(10,.d (.bxo (Y0.opt gm B.1))),(11,dI v),(12,.ref 6 0),(14,dI z),(77,T2 x),(78,dI (x.length:Int)),(79,dI y)] [.row [V0 u.decls,dI u.L.Q,dI u.L.e,dI u.L.U,dI u.L.d,dI u.L.Z,dI u.L.Y,dI u.L.W,dI u.L.a,dI u.L.f,dI u.L.J,dI u.L.b,dI u.L.c,dI u.L.G,.mp 3,.full (ei64.rows u.M.g),dI u.M.i] 88,E1 gm m,.slots gm 3 (arI ar),R0 D,.dead,.row [dI 0,dI 0,dI 0,dI 0,.d (.str []),.full (estr.rows []),.full (A0.rows [])] 51,G1 B.2.2] (Dd u m ar D B v z x y) (λr=>Ret [.row [V0 u.decls,dI u.L.Q,dI u.L.e,dI u.L.U,dI u.L.d,dI u.L.Z,dI u.L.Y,dI u.L.W,dI u.L.a,dI u.L.f,dI u.L.J,dI u.L.b,dI u.L.c,dI u.L.G,.mp 3,.full (ei64.rows u.M.g),dI u.M.i] 88,E1 gm m,.slots gm 3 (arI ar),R0 D] (.tup [.d (.bxo (Y0.opt gm r.1)),dI r.2.1,W0 r.2.2])):=Dd.partial_correctness u m ar D B z x _ (λ_ I v y=>lu (ci R (ix R λ_=>kc B9 R λ_=>lp (I _ _) R) (ix R λ_=>lz)))
def X12 (x y:Int):Option Int:=if y==0 then some 0 else if decide (y≠0)then if bif ((i64.wrap ((i64.wrap (Int.tdiv x y))*y))!=x)then(!((decide (x<0))==(decide (y<0))))else false then some (i64.wrap ((i64.wrap (Int.tdiv x y))-1))else some (i64.wrap (Int.tdiv x y))else none
def W14 {x y}:SP C 270 [dI x,dI y] [] (X12 x y) rtI:=fi func270 R (ci R lz (aa λc9=>xo 6 R λ_ b=>K0.q hC R c9 (yo b (ci R lz lz))))
def Xy (op x y:Int):Option Bool:=if op==13 then some (x==y)else if op==14 then some (x !=y)else if op==15 then some (decide (x<y))else if op==16 then some (decide (x<=y))else if op==17 then some (decide (x>y))else if op==18 then some (decide (x>=y))else if op==19 then some (bif (x==1)then(y==1)else false)else some (bif (x==1)then true else(y==1))
def G1e {op x y}:SP C 272 [dI op,dI x,dI y] [] (Xy op x y) rtB:=fi func272 R (ci R lz (ci R lz (ci R lz (ci R lz (ci R lz (ci R lz (ci R lz lz)))))))
def R17 (b:Bool):Option Int:=if b=true then some 1 else some 0
def R1n {b}:SP C 271 [dB b] [] (R17 b) rtI:=fi func271 R (ci R lz lz)
def Mw (op x y:Int):Option Int:=if op==8 then some (i64.wrap (x+y))else if op==9 then some (i64.wrap (x-y))else if op==10 then some (i64.wrap (x*y))else if op==11 then X12 x y>>=λc=>some c else if op==12 then if y==0 then some 0 else X12 x y>>=λb=>some (i64.wrap (x-(i64.wrap (y*b))))else if op==21 then some (min x y)else if op==22 then some (max x y)else Xy op x y>>=λr=>R17 r>>=λd=>some d
def X14 {op x y}:SP C 211 [dI op,dI x,dI y] [] (Mw op x y) rtI:=fi func211 R (ci R lz (ci R lz (ci R lz (ci R (kc W14 R λ_=>lz) (ci R (ci R lz (kc W14 R λ_=>lz)) (ci R lz (ci R lz (kc G1e R λ_=>kc R1n R λ_=>lz))))))))
mutual
def Y3 (e:D0)(b:X0)(m:List (Str×Option Y0))(ar:List (List Int))(c:List (Str×Z0)):Option Int:=if e.Op==0 then some e.NV else if e.Op==1 then some 1 else if e.Op==2 then some 0 else if e.Op==3 then Te e b m ar c (e.Op==3)else if e.Op==4 then Te e b m ar c (e.Op==4)else Te e b m ar c (e.Op==5) partial_fixpoint
def Te (e:D0)(b:X0)(m:List (Str×Option Y0))(ar:List (List Int))(c:List (Str×Z0))(y:Bool):Option Int:=if y=true then Gh e b m ar c>>=λd=>d.1>>=λO=>if decide (0<=d.2.1/\d.2.1<(O.t.2:Int))then (la ar O.t.1 (0+d.2.1.toNat))>>=λx3=>some x3 else none else if e.Op==6 then idx e.V 0>>=λU=>Y3 U b m ar c>>=λT=>some (i64.wrap (0-T))else if e.Op==7 then idx e.V 0>>=λx5=>Y3 x5 b m ar c>>=λZ=>some (i64.wrap (1-Z))else if e.Op==23 then idx e.V 0>>=λX=>Y3 X b m ar c>>=λJ=>if J==1 then idx e.V 1>>=λD=>Y3 D b m ar c>>=λB=>some B else idx e.V 2>>=λv=>Y3 v b m ar c>>=λr=>some r else idx e.V 0>>=λY=>Y3 Y b m ar c>>=λx=>idx e.V 1>>=λz=>Y3 z b m ar c>>=λu=>Mw e.Op x u>>=λI=>some I partial_fixpoint
def Gh (e:D0)(b:X0)(m:List (Str×Option Y0))(ar:List (List Int))(r:List (Str×Z0)):Option (Option Y0×Int×A0):=if e.Op==3 then some (mgt e.Name m)>>=λv=>(v.getD ArenaP.zero)>>=λx=>some ((v.getD ArenaP.zero),0,x.kind)else idx e.V 0>>=λJ=>Gh J b m ar r>>=λc=>if e.Op==5 then idx e.V 1>>=λI=>Y3 I b m ar r>>=λD=>idx c.2.2.Of 0>>=λy=>Eb y>>=λz=>idx c.2.2.Of 0>>=λB=>some (c.1,(i64.wrap (c.2.1+(i64.wrap ((min (max D 0) (i64.wrap (c.2.2.E-1)))*z)))),B)else S8 c.2.2.O e.Name>>=λd=>slc c.2.2.Of 0 d>>=λu=>Dd b m ar r c c.2.1 d u 0 partial_fixpoint
end
def Gr (u:X0)(m:List (Str×Option Y0))(ar:List (List Int))(x:List (Str×Z0)):(∀e,SP C 135 [.ref 0 0,.mp 1,A2 e] [.row [V0 u.decls,dI u.L.Q,dI u.L.e,dI u.L.U,dI u.L.d,dI u.L.Z,dI u.L.Y,dI u.L.W,dI u.L.a,dI u.L.f,dI u.L.J,dI u.L.b,dI u.L.c,dI u.L.G,.mp 3,.full (ei64.rows u.M.g),dI u.M.i] 88,E1 gm m,.slots gm 3 (arI ar),R0 x] (Y3 e u m ar x) (λr=>Ret [.row [V0 u.decls,dI u.L.Q,dI u.L.e,dI u.L.U,dI u.L.d,dI u.L.Z,dI u.L.Y,dI u.L.W,dI u.L.a,dI u.L.f,dI u.L.J,dI u.L.b,dI u.L.c,dI u.L.G,.mp 3,.full (ei64.rows u.M.g),dI u.M.i] 88,E1 gm m,.slots gm 3 (arI ar),R0 x] (dI r)))/\(∀e D,JP C f135 4 [1,0,1,4,1,3,1,3,1,3,1] [(0,.ref 0 0),(1,.mp 1),(5,.ref 4 0),(11,dI e.Op),(20,dB D)] [.row [V0 u.decls,dI u.L.Q,dI u.L.e,dI u.L.U,dI u.L.d,dI u.L.Z,dI u.L.Y,dI u.L.W,dI u.L.a,dI u.L.f,dI u.L.J,dI u.L.b,dI u.L.c,dI u.L.G,.mp 3,.full (ei64.rows u.M.g),dI u.M.i] 88,E1 gm m,.slots gm 3 (arI ar),R0 x,N3 e] (Te e u m ar x D) (λr=>Ret [.row [V0 u.decls,dI u.L.Q,dI u.L.e,dI u.L.U,dI u.L.d,dI u.L.Z,dI u.L.Y,dI u.L.W,dI u.L.a,dI u.L.f,dI u.L.J,dI u.L.b,dI u.L.c,dI u.L.G,.mp 3,.full (ei64.rows u.M.g),dI u.M.i] 88,E1 gm m,.slots gm 3 (arI ar),R0 x] (dI r)))/\(∀e,SP C 195 [.ref 0 0,.mp 1,A2 e] [.row [V0 u.decls,dI u.L.Q,dI u.L.e,dI u.L.U,dI u.L.d,dI u.L.Z,dI u.L.Y,dI u.L.W,dI u.L.a,dI u.L.f,dI u.L.J,dI u.L.b,dI u.L.c,dI u.L.G,.mp 3,.full (ei64.rows u.M.g),dI u.M.i] 88,E1 gm m,.slots gm 3 (arI ar),R0 x] (Gh e u m ar x) (λr=>Ret [.row [V0 u.decls,dI u.L.Q,dI u.L.e,dI u.L.U,dI u.L.d,dI u.L.Z,dI u.L.Y,dI u.L.W,dI u.L.a,dI u.L.f,dI u.L.J,dI u.L.b,dI u.L.c,dI u.L.G,.mp 3,.full (ei64.rows u.M.g),dI u.M.i] 88,E1 gm m,.slots gm 3 (arI ar),R0 x] (.tup [.d (.bxo (Y0.opt gm r.1)),dI r.2.1,W0 r.2.2]))):=Y3.mutual_partial_correctness u m ar x _ _ _ (λ_ I e=>fi func135 R (ci R lz (ci R lz (ci R lz (ci R (jo 1 (I _ _) R) (ci R (jo 1 (I _ _) R) (jo 4 (I _ _) R))))))) (λ_ _ v O e D=>ci R (kh [0,1,2,3] (O _) R λ_=>bn λ_ B=>xo 14 R λ_ y=>K0.nk hC R (Y0.opt_some B) (yo y (aa λa2=>xo 3 R λ_ y=>K0.q hC R a2 (yo y (bn λ_ a4=>xo 0 R λ_ y=>K0.la 2 hC R a4 (yo y lz)))))) (ci R (ix R λ_=>kh [0,1,2,3] (v _) R λ_=>lz) (ci R (ix R λ_=>kh [0,1,2,3] (v _) R λ_=>lz) (ci R (ix R λ_=>kh [0,1,2,3] (v _) R λ_=>ci R (ix R λ_=>kh [0,1,2,3] (v _) R λ_=>lz) (ix R λ_=>kh [0,1,2,3] (v _) R λ_=>lz)) (bn λ_ T=>bn λ_ V=>bn λ_ z=>bn λ_ a1=>xe 4 R λ_ y=>AEx.drawL hC 16 [8,15] [] [[.row [V0 u.decls,dI u.L.Q,dI u.L.e,dI u.L.U,dI u.L.d,dI u.L.Z,dI u.L.Y,dI u.L.W,dI u.L.a,dI u.L.f,dI u.L.J,dI u.L.b,dI u.L.c,dI u.L.G,.mp 3,.full (ei64.rows u.M.g),dI u.M.i] 88,E1 gm m,.slots gm 3 (arI ar),R0 x,N3 e],[.row [V0 u.decls,dI u.L.Q,dI u.L.e,dI u.L.U,dI u.L.d,dI u.L.Z,dI u.L.Y,dI u.L.W,dI u.L.a,dI u.L.f,dI u.L.J,dI u.L.b,dI u.L.c,dI u.L.G,.mp 3,.full (ei64.rows u.M.g),dI u.M.i] 88,E1 gm m,.slots gm 3 (arI ar),R0 x,N3 e],[.row [V0 u.decls,dI u.L.Q,dI u.L.e,dI u.L.U,dI u.L.d,dI u.L.Z,dI u.L.Y,dI u.L.W,dI u.L.a,dI u.L.f,dI u.L.J,dI u.L.b,dI u.L.c,dI u.L.G,.mp 3,.full (ei64.rows u.M.g),dI u.M.i] 88,E1 gm m,.slots gm 3 (arI ar),R0 x,N3 e]] [] R R R R R R R R R R (AS.q hC R R R R (AS.q hC R R R R (AS.q hC R R R R (AS.q hC R R R R (AS.q hC R R R R (AS.q hC R R R R (AS.ix hC R (M8 T) (D0.idx T) R R R (AS.q hC R R R R (AS.g [0,1,2,3] ((v _) _ V) R R R R R R R R R R R R R (AS.q hC R R R R (AS.q hC R R R R (AS.q hC R R R R (AS.q hC R R R R (AS.ix hC R (M8 z) (D0.idx z) R R R (AS.q hC R R R R (AS.g [0,1,2,3] ((v _) _ a1) R R R R R R R R R R R R R (AS.nil (yo y (kc X14 R λ_=>lz)))))))))))))))))))))))) (λ_ _ v O e=>fi func195 R (ci R (bn λ_ a5=>xo 5 R λ_ y=>K0.mw hC R (ArenaP.lkw a5) (yo y (bn λ_ B=>xq 7 R λ_ y=>AQ.nk hC R (Y0.opt_some B) (yq y R lz)))) (ix R λ_=>kh [0,1,2,3] (O _) R λx4=>ci R (bn λ_ a0=>bn λ_ a3=>xe 1 R λ_ y=>AEx.drawL hC 11 [6] [] [[.row [V0 u.decls,dI u.L.Q,dI u.L.e,dI u.L.U,dI u.L.d,dI u.L.Z,dI u.L.Y,dI u.L.W,dI u.L.a,dI u.L.f,dI u.L.J,dI u.L.b,dI u.L.c,dI u.L.G,.mp 3,.full (ei64.rows u.M.g),dI u.M.i] 88,E1 gm m,.slots gm 3 (arI ar),R0 x,N3 e,.row [dI 0,dI 0,dI 0,dI 0,.d (.str []),.full (estr.rows []),.full (A0.rows [])] 51,G1 x4.2.2],[.row [V0 u.decls,dI u.L.Q,dI u.L.e,dI u.L.U,dI u.L.d,dI u.L.Z,dI u.L.Y,dI u.L.W,dI u.L.a,dI u.L.f,dI u.L.J,dI u.L.b,dI u.L.c,dI u.L.G,.mp 3,.full (ei64.rows u.M.g),dI u.M.i] 88,E1 gm m,.slots gm 3 (arI ar),R0 x,N3 e,.row [dI 0,dI 0,dI 0,dI 0,.d (.str []),.full (estr.rows []),.full (A0.rows [])] 51,G1 x4.2.2]] [] R R R R R R R R R R (AS.q hC R R R R (AS.q hC R R R R (AS.q hC R R R R (AS.q hC R R R R (AS.ix hC R (M8 a0) (D0.idx a0) R R R (AS.q hC R R R R (AS.g [0,1,2,3] ((v _) _ a3) R R R R R R R R R R R R R (AS.q hC R R R R (AS.q hC R R R R (AS.q hC R R R R (AS.q hC R R R R (AS.nil (yo y (ix R λ_=>kc B9 R λ_=>ix R λ_=>lz))))))))))))))) (kc Dh R λ_=>bn λ_ X=>xo 10 R λ_ y=>K0.dx hC R (A0.part X) (A0.sz _) (yo y (ln A0 R (lp (Zz _ _ _ _ _ _ _ _ _) R)))))))
variable {gm:Nat}
def Xm (d c b:Nat)(ar:List (List Int)):Option (List Int):=(R1k ar d c b)>>=λr=>if decide ((0+b)*9<=140737488355328)then some r else none
def Hr {b u c ar}:SP C 115 [.d (.csl gm b u c)] [.slots gm 3 (arI ar)] (Xm b u c ar) (λr=>Ret [.slots gm 3 (arI ar)] (X5 r)):=
 fi func115 R (xo 9 R λ_ v=>K0.nn hC R (by decide) (yo v (cf R (bn λz x=>aa λy=>xo 6 R λ_ v=>K0.asx 0 hC (rs:=ei64.rows z) R x (ei64.len []) (ei64.sz []) R y (yo v lz)))))
def Yo (e:D0)(b:X0)(m:List (Str×Option Y0))(ar:List (List Int))(r:List (Str×Z0)):Option (List Int):=Uu e>>=λy=>if !y then Y3 e b m ar r>>=λv=>some [v]else Gh e b m ar r>>=λc=>c.1>>=λu=>Eb c.2.2>>=λd=>if decide (0<=c.2.1/\c.2.1<(i64.wrap (c.2.1+d))/\(i64.wrap (c.2.1+d))<=(u.t.2:Int))then Xm u.t.1 (0+c.2.1.toNat) ((i64.wrap (c.2.1+d)).toNat-c.2.1.toNat) ar>>=λx=>some x else none
def Rs {e u m ar v}:SP C 119 [.ref 0 0,.mp 1,A2 e] [.row [V0 u.decls,dI u.L.Q,dI u.L.e,dI u.L.U,dI u.L.d,dI u.L.Z,dI u.L.Y,dI u.L.W,dI u.L.a,dI u.L.f,dI u.L.J,dI u.L.b,dI u.L.c,dI u.L.G,.mp 3,.full (ei64.rows u.M.g),dI u.M.i] 88,E1 gm m,.slots gm 3 (arI ar),R0 v] (Yo e u m ar v) (λr=>Ret [.row [V0 u.decls,dI u.L.Q,dI u.L.e,dI u.L.U,dI u.L.d,dI u.L.Z,dI u.L.Y,dI u.L.W,dI u.L.a,dI u.L.f,dI u.L.J,dI u.L.b,dI u.L.c,dI u.L.G,.mp 3,.full (ei64.rows u.M.g),dI u.M.i] 88,E1 gm m,.slots gm 3 (arI ar),R0 v] (X5 r)):=fi func119 R (kc B13 R λ_=>ci R (kh [0,1,2,3] (((Gr _ _ _ _).1 _)) R λ_=>lz) (kh [0,1,2,3] (((Gr _ _ _ _).2.2 _)) R λ_=>dr 10 12 R (bn λ_ y=>xq 1 R λ_ x=>AQ.nk hC R (Y0.opt_some y) (yq x R (kc B9 R λ_=>aa λc9=>xq 2 R λ_ x=>AQ.dc hC R c9 (yq x R (kh [2] Hr R λ_=>lz)))))))
def Jj (p:I0)(c:C1)(d:List (List Int))(v:List (Str×Z0))(x:List (Str×Option Y0))(b:Int):Option (Int×List (List Int)):=if decide (b<(p.Decls.length:Int))then idx p.Decls b>>=λr=>if r.K==5 then I5 b r.N (X0.mk p.Decls c (J1.mk [] 0)) v>>=λu=>Yo r.Value (X0.mk p.Decls c (J1.mk [] 0)) x d v>>=λz=>El u z>>=λy=>Jj p c d (mpt r.Name (Z0.mk u y.1) v) x (i64.wrap (b+1))else Jj p c d v x (i64.wrap (b+1))else some (0,d) partial_fixpoint
def H1e (p:I0)(c:C1)(u:List (List Int))(I:List (Str×Option Y0)):∀O v,LP C f60 1 [1,1,1,1,1,1,1,1,0,1,4] [(9,.ref 5 0),(10,.mp 6),(120,V0 p.Decls),(121,dI (p.Decls.length:Int)),(122,dI v)] [.slots gm 3 (arI u),.dead,.dead,.dead,R0 O,.row [V0 p.Decls,dI c.Q,dI c.e,dI c.U,dI c.d,dI c.Z,dI c.Y,dI c.W,dI c.a,dI c.f,dI c.J,dI c.b,dI c.c,dI c.G,.mp 4,.full (ei64.rows []),dI 0] 88,E1 gm I] (Jj p c u O I v) (λr=>Ret [.slots gm 3 (arI r.2)] (.tup [.junk,.junk,dI r.1])):=Jj.partial_correctness p c u I _ (λ_ B O v=>lu (ci R (ix R λD=>ci R (kh [5,4] U6 R λx=>bn λ_ y=>bn λT z=>xe 6 R λ_ V=>AEx.drawL hC 11 [5] [] [[.slots gm 3 (arI u),.dead,.dead,.dead,R0 O,.row [V0 p.Decls,dI c.Q,dI c.e,dI c.U,dI c.d,dI c.Z,dI c.Y,dI c.W,dI c.a,dI c.f,dI c.J,dI c.b,dI c.c,dI c.G,.mp 4,.full (ei64.rows []),dI 0] 88,E1 gm I,W1 D,G1 x],[.slots gm 3 (arI u),.dead,.dead,.dead,R0 O,.row [V0 p.Decls,dI c.Q,dI c.e,dI c.U,dI c.d,dI c.Z,dI c.Y,dI c.W,dI c.a,dI c.f,dI c.J,dI c.b,dI c.c,dI c.G,.mp 4,.full (ei64.rows []),dI 0] 88,E1 gm I,W1 D,G1 x]] [] R R R R R R R R R R (AS.q hC R R R R (AS.q hC R R R R (AS.q hC R R R R (AS.q hC R R R R (AS.q hC R R R R (AS.g [5,6,0,4] (Rs _ y) R R R R R R R R R R R R R (AS.c (Up z) R R R R (AS.q hC R R R R (AS.q hC R R R R (AS.q hC R R R R (AS.q hC R R R R (AS.nil (yo V (xo 14 R λ_ V=>K0.ue hC R (Z0.mput _ (Z0.mk x T.1) _) R (yo V (lp (B _ _) R))))))))))))))))) (lp (B _ _) R)) lz))
mutual
def Pf (p:I0)(c:C1)(r:List (List Int))(y:List (Str×Option Y0))(x:List (Int×List Int))(b d:Int):Option (Int×List (List Int)):=if decide (d<(p.Decls.length:Int))then idx p.Decls d>>=λu=>some (L6 u.K x)>>=λv=>if v.isSome=true then I5 d u.N (X0.mk p.Decls c (J1.mk [] 0)) []>>=λJ=>Eb J>>=λB=>if decide (((v.getD esl_ei64.zero).length:Int)<B)then some (1,r)else slc (v.getD esl_ei64.zero) 0 B>>=λV=>Pb V r>>=λD=>some (some (Y0.mk J D.1))>>=λO=>slc (v.getD esl_ei64.zero) 0 B>>=λT=>Tu J T>>=λU=>if !U then Ss p c D (mpt u.Name O y) x u 3 v B d else Ss p c D (mpt u.Name O y) x u b v B d else if u.K==4 then I5 d u.N (X0.mk p.Decls c (J1.mk [] 0)) []>>=λI=>Pt I u.h r>>=λz=>Pf p c z.2 (mpt u.Name z.1 y) x b (i64.wrap (d+1))else Pf p c r y x b (i64.wrap (d+1))else if K1t x then some (1,r)else if b !=0 then some (b,r)else Jj p c r [] y 0 partial_fixpoint
def Ss (p:I0)(c:C1)(y:(Nat×Nat)×List (List Int))(r:List (Str×Option Y0))(u:List (Int×List Int))(z:C0)(d:Int)(x2:Option (List Int))(x b:Int):Option (Int×List (List Int)):=slc (x2.getD esl_ei64.zero) x ((x2.getD esl_ei64.zero).length:Int)>>=λv=>Pf p c y.2 r (Oh z.K v u) d (i64.wrap (b+1)) partial_fixpoint
end
def B1c (p:I0)(c:C1):(∀z m6 T x a0,LP C f60 1 [1,1,1,1,1,0,1,4] [(3,.ref 1 0),(9,.ref 5 0),(10,.mp 6),(11,.mp 7),(12,dI x),(42,V0 p.Decls),(43,dI (p.Decls.length:Int)),(44,dI a0)] [.slots gm 3 (arI z),U1 p,.dead,.dead,R0 [],.row [V0 p.Decls,dI c.Q,dI c.e,dI c.U,dI c.d,dI c.Z,dI c.Y,dI c.W,dI c.a,dI c.f,dI c.J,dI c.b,dI c.c,dI c.G,.mp 4,.full (ei64.rows []),dI 0] 88,E1 gm m6,.map (.i .i64 (esl_ei64.entsI T))] (Pf p c z m6 T x a0) (λr=>Ret [.slots gm 3 (arI r.2)] (.tup [.junk,.junk,dI r.1])))/\(∀V a1 a2 I D x2 x4 B,JP C f60 1 [1,1,1,1,1,0,1,4,5,1,1,0,4,1,1,4,1,2,1,1,1,1,1] [(3,.ref 1 0),(9,.ref 5 0),(10,.mp 6),(11,.mp 7),(12,dI D),(14,.ref 8 0),(15,X5 (x2.getD esl_ei64.zero)),(18,dI x4),(42,V0 p.Decls),(43,dI (p.Decls.length:Int)),(44,dI B)] [.slots gm 3 (arI V.2),U1 p,.dead,.dead,R0 [],.row [V0 p.Decls,dI c.Q,dI c.e,dI c.U,dI c.d,dI c.Z,dI c.Y,dI c.W,dI c.a,dI c.f,dI c.J,dI c.b,dI c.c,dI c.G,.mp 4,.full (ei64.rows []),dI 0] 88,E1 gm a1,.map (.i .i64 (esl_ei64.entsI a2)),W1 I] (Ss p c V a1 a2 I D x2 x4 B) (λr=>Ret [.slots gm 3 (arI r.2)] (.tup [.junk,.junk,dI r.1]))):=
 Pf.mutual_partial_correctness p c _ _
 (λ_ _ X a7 z m6 T x a0=>lu (ci R (ix R λI=>bn λ_ b0=>xo 12 R λ_ u=>K0.mi hC rfl (esl_ei64.lkIT b0) (yo u (ci R (kh [5,4] U6 R λv=>kc B9 R λ_=>ln Int R (ci R lz (bn λ_ b3=>bn λV a9=>xe 3 R λ_ u=>AEx.drawL hC 10 [7] [(9,10)] [[.slots gm 3 (arI z),U1 p,.dead,.dead,R0 [],.row [V0 p.Decls,dI c.Q,dI c.e,dI c.U,dI c.d,dI c.Z,dI c.Y,dI c.W,dI c.a,dI c.f,dI c.J,dI c.b,dI c.c,dI c.G,.mp 4,.full (ei64.rows []),dI 0] 88,E1 gm m6,.map (.i .i64 (esl_ei64.entsI T)),W1 I,G1 v,.row [dI v.K,dI v.Low,dI v.H,dI v.E,.d (.str v.Name),Y5 v.O,T2 v.Of,.d (.csl gm V.1.1 0 V.1.2)] 102],[.slots gm 3 (arI V.2),U1 p,.dead,.dead,R0 [],.row [V0 p.Decls,dI c.Q,dI c.e,dI c.U,dI c.d,dI c.Z,dI c.Y,dI c.W,dI c.a,dI c.f,dI c.J,dI c.b,dI c.c,dI c.G,.mp 4,.full (ei64.rows []),dI 0] 88,E1 gm m6,.map (.i .i64 (esl_ei64.entsI T)),W1 I,G1 v,.row [dI v.K,dI v.Low,dI v.H,dI v.E,.d (.str v.Name),Y5 v.O,T2 v.Of,.d (.csl gm V.1.1 0 V.1.2)] 102]] [] rfl rfl rfl rfl rfl rfl rfl rfl rfl rfl (AS.q hC rfl rfl rfl rfl (AS.q hC rfl rfl rfl rfl (AS.q hC rfl rfl rfl rfl (AS.q hC rfl rfl rfl rfl (AS.q hC rfl rfl rfl rfl (AS.q hC rfl rfl rfl rfl (AS.a rfl (λH=>AQ.dx hC rfl (ei64.part b3) (ei64.sz _) (AQ.nil rfl)) rfl rfl (AS.g [0] (Er a9) rfl rfl rfl rfl rfl rfl rfl rfl rfl rfl rfl rfl rfl (AS.q hC rfl rfl rfl rfl (AS.n hC rfl rfl rfl rfl (AS.nil (yo u (bn λx7 a8=>xo 0 R λ_ u=>K0.bx 10 (y:=.bxo (Y0.opt gm x7)) (by cases a8;exact .inr rfl) rfl rfl rfl (yo u (xo 0 R λ_ u=>K0.ue hC rfl (ArenaP.mput _ x7 _) rfl (yo u (bn λ_ b2=>xq 8 R λ_ u=>AQ.dx hC rfl (ei64.part b2) (ei64.sz _) (yq u R (kc A13 R λ_=>ci R (jo 3 (a7 _ _ _ _ _ _ _ _) R) (jo 1 (a7 _ _ _ _ _ _ _ _) R))))))))))))))))))))))) (ci R (bn λ_ a3=>bn λa4 a5=>xe 0 R λ_ u=>AEx.drawL hC 11 [7,10] [] [[.slots gm 3 (arI z),U1 p,.dead,.dead,R0 [],.row [V0 p.Decls,dI c.Q,dI c.e,dI c.U,dI c.d,dI c.Z,dI c.Y,dI c.W,dI c.a,dI c.f,dI c.J,dI c.b,dI c.c,dI c.G,.mp 4,.full (ei64.rows []),dI 0] 88,E1 gm m6,.map (.i .i64 (esl_ei64.entsI T)),W1 I],[.slots gm 3 (arI z),U1 p,.dead,.dead,R0 [],.row [V0 p.Decls,dI c.Q,dI c.e,dI c.U,dI c.d,dI c.Z,dI c.Y,dI c.W,dI c.a,dI c.f,dI c.J,dI c.b,dI c.c,dI c.G,.mp 4,.full (ei64.rows []),dI 0] 88,E1 gm m6,.map (.i .i64 (esl_ei64.entsI T)),W1 I],[.slots gm 3 (arI a4.2),U1 p,.dead,.dead,R0 [],.row [V0 p.Decls,dI c.Q,dI c.e,dI c.U,dI c.d,dI c.Z,dI c.Y,dI c.W,dI c.a,dI c.f,dI c.J,dI c.b,dI c.c,dI c.G,.mp 4,.full (ei64.rows []),dI 0] 88,E1 gm m6,.map (.i .i64 (esl_ei64.entsI T)),W1 I]] [] rfl rfl rfl rfl rfl rfl rfl rfl rfl rfl (AS.q hC rfl rfl rfl rfl (AS.q hC rfl rfl rfl rfl (AS.q hC rfl rfl rfl rfl (AS.q hC rfl rfl rfl rfl (AS.q hC rfl rfl rfl rfl (AS.q hC rfl rfl rfl rfl (AS.q hC rfl rfl rfl rfl (AS.g [5,4] (U6 _ a3) rfl rfl rfl rfl rfl rfl rfl rfl rfl rfl rfl rfl rfl (AS.q hC rfl rfl rfl rfl (AS.q hC rfl rfl rfl rfl (AS.g [0] (Wy _ a5) rfl rfl rfl rfl rfl rfl rfl rfl rfl rfl rfl rfl rfl (AS.nil (yo u (xo 0 R λ_ u=>K0.ue hC rfl (ArenaP.mput _ a4.1 _) rfl (yo u (lp (X _ _ _ _ _) R))))))))))))))))) (lp (X _ _ _ _ _) R))))) (rg 6 ⟨11,107,108,109,110,111,112,20,113,114,115,178,28,3,3⟩ T R R R lz (ci R lz (ln C0 R (lp (H1e _ _ _ _ _ _) R))))))
 (λ_ X V a1 a2 I D x2 x4 B=>bn λb1 a6=>xq 6 R λ_ u=>AQ.dx hC R (ei64.part (by rw[ei64.len];exact a6)) (ei64.sz _) (yq u R (xo 1 R λ_ u=>K0.ui hC R (esl_ei64.mputI _ b1 _) R (yo u (lp (X _ _ _ _ _) R)))))
def Vp (p:I0)(c:C1)(b:O1)(ar:List (List Int)):Option (Int×List (List Int)):=Pf p c ar [] (Oh 3 b.y (Oh 2 b.z (Oh 1 b.x []))) 0 0
def I16 {p c d ar}:SP C 60 [S2 p,G5 c,.agg (O1.cells d)] [.slots gm 3 (arI ar)] (Vp p c d ar) (λr=>Ret [.slots gm 3 (arI r.2)] (.tup [.junk,.junk,dI r.1])):=fi func60 R (xo 15 R λ_ b=>K0.w R (yo b (xo 0 R λ_ b=>K0.bz hC R (yo b (xo 6 R λ_ b=>K0.w R (yo b (xo 5 R λ_ b=>K0.wi .i64 R (yo b (xo 2 R λ_ b=>K0.ui hC R (esl_ei64.mputI _ d.x []) R (yo b (xo 2 R λ_ b=>K0.ui hC R (esl_ei64.mputI _ d.z _) R (yo b (xo 2 R λ_ b=>K0.ui hC R (esl_ei64.mputI _ d.y _) R (yo b (ln C0 R (lp (((B1c _ _).1 _ _ _ _ _)) R))))))))))))))))
def Xd (p:I0)(c:C1)(d:List (List Int))(v:List (Str×Z0))(x:List (Str×Option Y0))(b:Int):Option (List (List Int)×List (Str×Z0)×X0×List (Str×Option Y0)):=if decide (b<(p.Decls.length:Int))then idx p.Decls b>>=λr=>if r.K==5 then I5 b r.N (X0.mk p.Decls c (J1.mk [] 0)) v>>=λu=>Yo r.Value (X0.mk p.Decls c (J1.mk [] 0)) x d v>>=λz=>El u z>>=λy=>Xd p c d (mpt r.Name (Z0.mk u y.1) v) x (i64.wrap (b+1))else Xd p c d v x (i64.wrap (b+1))else some (d,v,(X0.mk p.Decls c (J1.mk [] 0)),x) partial_fixpoint
def G19 (p:I0)(c:C1)(u:List (List Int))(I:List (Str×Option Y0)):∀O v,LP C f60 1 [1,1,1,1,1,1,1,1,0,1,4] [(9,.ref 5 0),(10,.mp 6),(120,V0 p.Decls),(121,dI (p.Decls.length:Int)),(122,dI v)] [.slots gm 3 (arI u),.dead,.dead,.dead,R0 O,.row [V0 p.Decls,dI c.Q,dI c.e,dI c.U,dI c.d,dI c.Z,dI c.Y,dI c.W,dI c.a,dI c.f,dI c.J,dI c.b,dI c.c,dI c.G,.mp 4,.full (ei64.rows []),dI 0] 88,E1 gm I] (Xd p c u O I v) (λr=>Ret [.slots gm 3 (arI r.1),.dead,.dead,.dead,R0 r.2.1,.row [V0 r.2.2.1.decls,dI r.2.2.1.L.Q,dI r.2.2.1.L.e,dI r.2.2.1.L.U,dI r.2.2.1.L.d,dI r.2.2.1.L.Z,dI r.2.2.1.L.Y,dI r.2.2.1.L.W,dI r.2.2.1.L.a,dI r.2.2.1.L.f,dI r.2.2.1.L.J,dI r.2.2.1.L.b,dI r.2.2.1.L.c,dI r.2.2.1.L.G,.mp 4,.full (ei64.rows r.2.2.1.M.g),dI r.2.2.1.M.i] 88,E1 gm r.2.2.2] (.tup [.ref 5 0,.mp 6,dI 0])):=Xd.partial_correctness p c u I _ (λ_ B O v=>lu (ci R (ix R λD=>ci R (kh [5,4] U6 R λx=>bn λ_ y=>bn λT z=>xe 6 R λ_ V=>AEx.drawL hC 11 [5] [] [[.slots gm 3 (arI u),.dead,.dead,.dead,R0 O,.row [V0 p.Decls,dI c.Q,dI c.e,dI c.U,dI c.d,dI c.Z,dI c.Y,dI c.W,dI c.a,dI c.f,dI c.J,dI c.b,dI c.c,dI c.G,.mp 4,.full (ei64.rows []),dI 0] 88,E1 gm I,W1 D,G1 x],[.slots gm 3 (arI u),.dead,.dead,.dead,R0 O,.row [V0 p.Decls,dI c.Q,dI c.e,dI c.U,dI c.d,dI c.Z,dI c.Y,dI c.W,dI c.a,dI c.f,dI c.J,dI c.b,dI c.c,dI c.G,.mp 4,.full (ei64.rows []),dI 0] 88,E1 gm I,W1 D,G1 x]] [] R R R R R R R R R R (AS.q hC R R R R (AS.q hC R R R R (AS.q hC R R R R (AS.q hC R R R R (AS.q hC R R R R (AS.g [5,6,0,4] (Rs _ y) R R R R R R R R R R R R R (AS.c (Up z) R R R R (AS.q hC R R R R (AS.q hC R R R R (AS.q hC R R R R (AS.q hC R R R R (AS.nil (yo V (xo 14 R λ_ V=>K0.ue hC R (Z0.mput _ (Z0.mk x T.1) _) R (yo V (lp (B _ _) R))))))))))))))))) (lp (B _ _) R)) lz))
mutual
def Na (p:I0)(c:C1)(u:List (List Int))(y:List (Str×Option Y0))(x:List (Int×List Int))(b d:Int):Option (List (List Int)×List (Str×Z0)×X0×List (Str×Option Y0)):=if decide (d<(p.Decls.length:Int))then idx p.Decls d>>=λr=>some (L6 r.K x)>>=λv=>if v.isSome=true then I5 d r.N (X0.mk p.Decls c (J1.mk [] 0)) []>>=λJ=>Eb J>>=λB=>if decide (((v.getD esl_ei64.zero).length:Int)<B)then none else slc (v.getD esl_ei64.zero) 0 B>>=λV=>Pb V u>>=λD=>some (some (Y0.mk J D.1))>>=λO=>slc (v.getD esl_ei64.zero) 0 B>>=λT=>Tu J T>>=λU=>if !U then Ao p c D (mpt r.Name O y) x r 3 v B d else Ao p c D (mpt r.Name O y) x r b v B d else if r.K==4 then I5 d r.N (X0.mk p.Decls c (J1.mk [] 0)) []>>=λI=>Pt I r.h u>>=λz=>Na p c z.2 (mpt r.Name z.1 y) x b (i64.wrap (d+1))else Na p c u y x b (i64.wrap (d+1))else if K1t x then none else if b !=0 then none else Xd p c u [] y 0 partial_fixpoint
def Ao (p:I0)(c:C1)(y:(Nat×Nat)×List (List Int))(r:List (Str×Option Y0))(u:List (Int×List Int))(z:C0)(d:Int)(x2:Option (List Int))(x b:Int):Option (List (List Int)×List (Str×Z0)×X0×List (Str×Option Y0)):=slc (x2.getD esl_ei64.zero) x ((x2.getD esl_ei64.zero).length:Int)>>=λv=>Na p c y.2 r (Oh z.K v u) d (i64.wrap (b+1)) partial_fixpoint
end
def S17 (p:I0)(c:C1):(∀z m6 T x a0,LP C f60 1 [1,1,1,1,1,0,1,4] [(3,.ref 1 0),(9,.ref 5 0),(10,.mp 6),(11,.mp 7),(12,dI x),(42,V0 p.Decls),(43,dI (p.Decls.length:Int)),(44,dI a0)] [.slots gm 3 (arI z),U1 p,.dead,.dead,R0 [],.row [V0 p.Decls,dI c.Q,dI c.e,dI c.U,dI c.d,dI c.Z,dI c.Y,dI c.W,dI c.a,dI c.f,dI c.J,dI c.b,dI c.c,dI c.G,.mp 4,.full (ei64.rows []),dI 0] 88,E1 gm m6,.map (.i .i64 (esl_ei64.entsI T))] (Na p c z m6 T x a0) (λr=>Ret [.slots gm 3 (arI r.1),.dead,.dead,.dead,R0 r.2.1,.row [V0 r.2.2.1.decls,dI r.2.2.1.L.Q,dI r.2.2.1.L.e,dI r.2.2.1.L.U,dI r.2.2.1.L.d,dI r.2.2.1.L.Z,dI r.2.2.1.L.Y,dI r.2.2.1.L.W,dI r.2.2.1.L.a,dI r.2.2.1.L.f,dI r.2.2.1.L.J,dI r.2.2.1.L.b,dI r.2.2.1.L.c,dI r.2.2.1.L.G,.mp 4,.full (ei64.rows r.2.2.1.M.g),dI r.2.2.1.M.i] 88,E1 gm r.2.2.2] (.tup [.ref 5 0,.mp 6,dI 0])))/\(∀V a1 a2 I D x2 x4 B,JP C f60 1 [1,1,1,1,1,0,1,4,5,1,1,0,4,1,1,4,1,2,1,1,1,1,1] [(3,.ref 1 0),(9,.ref 5 0),(10,.mp 6),(11,.mp 7),(12,dI D),(14,.ref 8 0),(15,X5 (x2.getD esl_ei64.zero)),(18,dI x4),(42,V0 p.Decls),(43,dI (p.Decls.length:Int)),(44,dI B)] [.slots gm 3 (arI V.2),U1 p,.dead,.dead,R0 [],.row [V0 p.Decls,dI c.Q,dI c.e,dI c.U,dI c.d,dI c.Z,dI c.Y,dI c.W,dI c.a,dI c.f,dI c.J,dI c.b,dI c.c,dI c.G,.mp 4,.full (ei64.rows []),dI 0] 88,E1 gm a1,.map (.i .i64 (esl_ei64.entsI a2)),W1 I] (Ao p c V a1 a2 I D x2 x4 B) (λr=>Ret [.slots gm 3 (arI r.1),.dead,.dead,.dead,R0 r.2.1,.row [V0 r.2.2.1.decls,dI r.2.2.1.L.Q,dI r.2.2.1.L.e,dI r.2.2.1.L.U,dI r.2.2.1.L.d,dI r.2.2.1.L.Z,dI r.2.2.1.L.Y,dI r.2.2.1.L.W,dI r.2.2.1.L.a,dI r.2.2.1.L.f,dI r.2.2.1.L.J,dI r.2.2.1.L.b,dI r.2.2.1.L.c,dI r.2.2.1.L.G,.mp 4,.full (ei64.rows r.2.2.1.M.g),dI r.2.2.1.M.i] 88,E1 gm r.2.2.2] (.tup [.ref 5 0,.mp 6,dI 0]))):=
 Na.mutual_partial_correctness p c _ _
 (λ_ _ X a7 z m6 T x a0=>lu (ci R (ix R λI=>bn λ_ b0=>xo 12 R λ_ u=>K0.mi hC rfl (esl_ei64.lkIT b0) (yo u (ci R (kh [5,4] U6 R λv=>kc B9 R λ_=>ln Int R (ci R nn (bn λ_ b3=>bn λV a9=>xe 3 R λ_ u=>AEx.drawL hC 10 [7] [(9,10)] [[.slots gm 3 (arI z),U1 p,.dead,.dead,R0 [],.row [V0 p.Decls,dI c.Q,dI c.e,dI c.U,dI c.d,dI c.Z,dI c.Y,dI c.W,dI c.a,dI c.f,dI c.J,dI c.b,dI c.c,dI c.G,.mp 4,.full (ei64.rows []),dI 0] 88,E1 gm m6,.map (.i .i64 (esl_ei64.entsI T)),W1 I,G1 v,.row [dI v.K,dI v.Low,dI v.H,dI v.E,.d (.str v.Name),Y5 v.O,T2 v.Of,.d (.csl gm V.1.1 0 V.1.2)] 102],[.slots gm 3 (arI V.2),U1 p,.dead,.dead,R0 [],.row [V0 p.Decls,dI c.Q,dI c.e,dI c.U,dI c.d,dI c.Z,dI c.Y,dI c.W,dI c.a,dI c.f,dI c.J,dI c.b,dI c.c,dI c.G,.mp 4,.full (ei64.rows []),dI 0] 88,E1 gm m6,.map (.i .i64 (esl_ei64.entsI T)),W1 I,G1 v,.row [dI v.K,dI v.Low,dI v.H,dI v.E,.d (.str v.Name),Y5 v.O,T2 v.Of,.d (.csl gm V.1.1 0 V.1.2)] 102]] [] rfl rfl rfl rfl rfl rfl rfl rfl rfl rfl (AS.q hC rfl rfl rfl rfl (AS.q hC rfl rfl rfl rfl (AS.q hC rfl rfl rfl rfl (AS.q hC rfl rfl rfl rfl (AS.q hC rfl rfl rfl rfl (AS.q hC rfl rfl rfl rfl (AS.a rfl (λH=>AQ.dx hC rfl (ei64.part b3) (ei64.sz _) (AQ.nil rfl)) rfl rfl (AS.g [0] (Er a9) rfl rfl rfl rfl rfl rfl rfl rfl rfl rfl rfl rfl rfl (AS.q hC rfl rfl rfl rfl (AS.n hC rfl rfl rfl rfl (AS.nil (yo u (bn λx7 a8=>xo 0 R λ_ u=>K0.bx 10 (y:=.bxo (Y0.opt gm x7)) (by cases a8;exact .inr rfl) rfl rfl rfl (yo u (xo 0 R λ_ u=>K0.ue hC rfl (ArenaP.mput _ x7 _) rfl (yo u (bn λ_ b2=>xq 8 R λ_ u=>AQ.dx hC rfl (ei64.part b2) (ei64.sz _) (yq u R (kc A13 R λ_=>ci R (jo 3 (a7 _ _ _ _ _ _ _ _) R) (jo 1 (a7 _ _ _ _ _ _ _ _) R))))))))))))))))))))))) (ci R (bn λ_ a3=>bn λa4 a5=>xe 0 R λ_ u=>AEx.drawL hC 11 [7,10] [] [[.slots gm 3 (arI z),U1 p,.dead,.dead,R0 [],.row [V0 p.Decls,dI c.Q,dI c.e,dI c.U,dI c.d,dI c.Z,dI c.Y,dI c.W,dI c.a,dI c.f,dI c.J,dI c.b,dI c.c,dI c.G,.mp 4,.full (ei64.rows []),dI 0] 88,E1 gm m6,.map (.i .i64 (esl_ei64.entsI T)),W1 I],[.slots gm 3 (arI z),U1 p,.dead,.dead,R0 [],.row [V0 p.Decls,dI c.Q,dI c.e,dI c.U,dI c.d,dI c.Z,dI c.Y,dI c.W,dI c.a,dI c.f,dI c.J,dI c.b,dI c.c,dI c.G,.mp 4,.full (ei64.rows []),dI 0] 88,E1 gm m6,.map (.i .i64 (esl_ei64.entsI T)),W1 I],[.slots gm 3 (arI a4.2),U1 p,.dead,.dead,R0 [],.row [V0 p.Decls,dI c.Q,dI c.e,dI c.U,dI c.d,dI c.Z,dI c.Y,dI c.W,dI c.a,dI c.f,dI c.J,dI c.b,dI c.c,dI c.G,.mp 4,.full (ei64.rows []),dI 0] 88,E1 gm m6,.map (.i .i64 (esl_ei64.entsI T)),W1 I]] [] rfl rfl rfl rfl rfl rfl rfl rfl rfl rfl (AS.q hC rfl rfl rfl rfl (AS.q hC rfl rfl rfl rfl (AS.q hC rfl rfl rfl rfl (AS.q hC rfl rfl rfl rfl (AS.q hC rfl rfl rfl rfl (AS.q hC rfl rfl rfl rfl (AS.q hC rfl rfl rfl rfl (AS.g [5,4] (U6 _ a3) rfl rfl rfl rfl rfl rfl rfl rfl rfl rfl rfl rfl rfl (AS.q hC rfl rfl rfl rfl (AS.q hC rfl rfl rfl rfl (AS.g [0] (Wy _ a5) rfl rfl rfl rfl rfl rfl rfl rfl rfl rfl rfl rfl rfl (AS.nil (yo u (xo 0 R λ_ u=>K0.ue hC rfl (ArenaP.mput _ a4.1 _) rfl (yo u (lp (X _ _ _ _ _) R))))))))))))))))) (lp (X _ _ _ _ _) R))))) (rg 6 ⟨11,107,108,109,110,111,112,20,113,114,115,178,28,3,3⟩ T R R R nn (ci R nn (ln C0 R (lp (G19 _ _ _ _ _ _) R))))))
 (λ_ X V a1 a2 I D x2 x4 B=>bn λb1 a6=>xq 6 R λ_ u=>AQ.dx hC R (ei64.part (by rw[ei64.len];exact a6)) (ei64.sz _) (yq u R (xo 1 R λ_ u=>K0.ui hC R (esl_ei64.mputI _ b1 _) R (yo u (lp (X _ _ _ _ _) R)))))
def Lj (p:I0)(c:C1)(b:O1)(ar:List (List Int)):Option (List (List Int)×List (Str×Z0)×X0×List (Str×Option Y0)):=Na p c ar [] (Oh 3 b.y (Oh 2 b.z (Oh 1 b.x []))) 0 0
def D12 {p c v ar}:SP C 60 [S2 p,G5 c,.agg (O1.cells v)] [.slots gm 3 (arI ar)] (Lj p c v ar) (λr=>Ret [.slots gm 3 (arI r.1),.dead,.dead,.dead,R0 r.2.1,.row [V0 r.2.2.1.decls,dI r.2.2.1.L.Q,dI r.2.2.1.L.e,dI r.2.2.1.L.U,dI r.2.2.1.L.d,dI r.2.2.1.L.Z,dI r.2.2.1.L.Y,dI r.2.2.1.L.W,dI r.2.2.1.L.a,dI r.2.2.1.L.f,dI r.2.2.1.L.J,dI r.2.2.1.L.b,dI r.2.2.1.L.c,dI r.2.2.1.L.G,.mp 4,.full (ei64.rows r.2.2.1.M.g),dI r.2.2.1.M.i] 88,E1 gm r.2.2.2] (.tup [.ref 5 0,.mp 6,dI 0])):=fi func60 R (xo 15 R λ_ u=>K0.w R (yo u (xo 0 R λ_ u=>K0.bz hC R (yo u (xo 6 R λ_ u=>K0.w R (yo u (xo 5 R λ_ u=>K0.wi .i64 R (yo u (xo 2 R λ_ u=>K0.ui hC R (esl_ei64.mputI _ v.x []) R (yo u (xo 2 R λ_ u=>K0.ui hC R (esl_ei64.mputI _ v.z _) R (yo u (xo 2 R λ_ u=>K0.ui hC R (esl_ei64.mputI _ v.y _) R (yo u (ln C0 R (lp (((S17 _ _).1 _ _ _ _ _)) R))))))))))))))))
def Ed (b:X0)(m:List (Str×Option Y0))(ar:List (List Int))(B:List (Str×Z0))(y:Option Y0×Int×A0)(c u:Int)(d:List A0)(r:Int):Option (Option Y0×Int×A0):=if decide (r<(d.length:Int))then idx d r>>=λx=>Eb x>>=λz=>Ed b m ar B y (i64.wrap (c+z)) u d (i64.wrap (r+1))else idx y.2.2.Of u>>=λv=>some (y.1,c,v) partial_fixpoint
def A10 (b:X0)(m:List (Str×Option Y0))(ar:List (List Int))(z:List (Str×Z0))(y:Option Y0×Int×A0)(x:Int)(u:List A0):∀c v,LP C f195 5 [1,1,1,1,1,0,1,4] [(8,.ref 6 0),(10,.d (.bxo (Y0.opt gm y.1))),(11,dI c),(12,.ref 7 0),(14,dI x),(77,T2 u),(78,dI (u.length:Int)),(79,dI v)] [X3 b 3 4,E1 gm m,.slots gm 3 (arI ar),R0 z,.rok 3 1,.dead,.row [dI 0,dI 0,dI 0,dI 0,.d (.str []),.full (estr.rows []),.full (A0.rows [])] 51,G1 y.2.2] (Ed b m ar z y c x u v) (λr=>Ret [X3 b 3 4,E1 gm m,.slots gm 3 (arI ar),R0 z,.rok 3 1] (.tup [.d (.bxo (Y0.opt gm r.1)),dI r.2.1,W0 r.2.2])):=Ed.partial_correctness b m ar z y x u _ (λ_ B c v=>lu (ci R (ix R λ_=>kc B9 R λ_=>lp (B _ _) R) (ix R λ_=>lz)))
mutual
def V5 (e:D0)(b:X0)(m:List (Str×Option Y0))(ar:List (List Int))(r:List (Str×Z0)):Option (Option Y0×Int×A0):=if e.Op==3 then some (mgt e.Name m)>>=λv=>(v.getD ArenaP.zero)>>=λx=>some ((v.getD ArenaP.zero),0,x.kind)else idx e.V 0>>=λJ=>V5 J b m ar r>>=λc=>if e.Op==5 then idx e.V 1>>=λI=>Z2 I b m ar r>>=λD=>idx c.2.2.Of 0>>=λy=>Eb y>>=λz=>idx c.2.2.Of 0>>=λB=>some (c.1,(i64.wrap (c.2.1+(i64.wrap ((min (max D 0) (i64.wrap (c.2.2.E-1)))*z)))),B)else S8 c.2.2.O e.Name>>=λd=>slc c.2.2.Of 0 d>>=λu=>Ed b m ar r c c.2.1 d u 0 partial_fixpoint
def Z2 (e:D0)(b:X0)(m:List (Str×Option Y0))(ar:List (List Int))(c:List (Str×Z0)):Option Int:=if e.Op==0 then some e.NV else if e.Op==1 then some 1 else if e.Op==2 then some 0 else if e.Op==3 then N9 e b m ar c (e.Op==3)else if e.Op==4 then N9 e b m ar c (e.Op==4)else N9 e b m ar c (e.Op==5) partial_fixpoint
def N9 (e:D0)(b:X0)(m:List (Str×Option Y0))(ar:List (List Int))(c:List (Str×Z0))(y:Bool):Option Int:=if y=true then V5 e b m ar c>>=λd=>d.1>>=λO=>if decide (0<=d.2.1/\d.2.1<(O.t.2:Int))then (la ar O.t.1 (0+d.2.1.toNat))>>=λx3=>some x3 else none else if e.Op==6 then idx e.V 0>>=λU=>Z2 U b m ar c>>=λT=>some (i64.wrap (0-T))else if e.Op==7 then idx e.V 0>>=λx5=>Z2 x5 b m ar c>>=λZ=>some (i64.wrap (1-Z))else if e.Op==23 then idx e.V 0>>=λX=>Z2 X b m ar c>>=λJ=>if J==1 then idx e.V 1>>=λD=>Z2 D b m ar c>>=λB=>some B else idx e.V 2>>=λv=>Z2 v b m ar c>>=λr=>some r else idx e.V 0>>=λY=>Z2 Y b m ar c>>=λx=>idx e.V 1>>=λz=>Z2 z b m ar c>>=λu=>Mw e.Op x u>>=λI=>some I partial_fixpoint
end
def J5 (b:X0)(m:List (Str×Option Y0))(ar:List (List Int))(u:List (Str×Z0)):(∀e,SP C 195 [.ref 0 0,.mp 1,A2 e] [X3 b 3 4,E1 gm m,.slots gm 3 (arI ar),R0 u,.rok 3 1] (V5 e b m ar u) (λr=>Ret [X3 b 3 4,E1 gm m,.slots gm 3 (arI ar),R0 u,.rok 3 1] (.tup [.d (.bxo (Y0.opt gm r.1)),dI r.2.1,W0 r.2.2])))/\(∀e,SP C 135 [.ref 0 0,.mp 1,A2 e] [X3 b 3 4,E1 gm m,.slots gm 3 (arI ar),R0 u,.rok 3 1] (Z2 e b m ar u) (λr=>Ret [X3 b 3 4,E1 gm m,.slots gm 3 (arI ar),R0 u,.rok 3 1] (dI r)))/\(∀e B,JP C f135 5 [1,0,1,4,1,3,1,3,1,3,1] [(0,.ref 0 0),(1,.mp 1),(5,.ref 5 0),(11,dI e.Op),(20,dB B)] [X3 b 3 4,E1 gm m,.slots gm 3 (arI ar),R0 u,.rok 3 1,N3 e] (N9 e b m ar u B) (λr=>Ret [X3 b 3 4,E1 gm m,.slots gm 3 (arI ar),R0 u,.rok 3 1] (dI r))):=V5.mutual_partial_correctness b m ar u _ _ _ (λ_ _ z c e=>fi func195 R (ci R (bn λ_ Z=>xo 5 R λ_ v=>K0.mw hC R (ArenaP.lkw Z) (yo v (bn λ_ y=>xq 7 R λ_ v=>AQ.nk hC R (Y0.opt_some y) (yq v R lz)))) (ix R λ_=>kh [0,1,2,3,4] (z _) R λx4=>ci R (bn λ_ T=>bn λ_ V=>xe 1 R λ_ v=>AEx.drawL hC 11 [6] [] [[X3 b 3 4,E1 gm m,.slots gm 3 (arI ar),R0 u,.rok 3 1,N3 e,.row [dI 0,dI 0,dI 0,dI 0,.d (.str []),.full (estr.rows []),.full (A0.rows [])] 51,G1 x4.2.2],[X3 b 3 4,E1 gm m,.slots gm 3 (arI ar),R0 u,.rok 3 1,N3 e,.row [dI 0,dI 0,dI 0,dI 0,.d (.str []),.full (estr.rows []),.full (A0.rows [])] 51,G1 x4.2.2]] [] R R R R R R R R R R (AS.q hC R R R R (AS.q hC R R R R (AS.q hC R R R R (AS.q hC R R R R (AS.ix hC R (M8 T) (D0.idx T) R R R (AS.q hC R R R R (AS.g [0,1,2,3,4] ((c _) _ V) R R R R R R R R R R R R R (AS.q hC R R R R (AS.q hC R R R R (AS.q hC R R R R (AS.q hC R R R R (AS.nil (yo v (ix R λ_=>kc B9 R λ_=>ix R λ_=>lz))))))))))))))) (kc Dh R λ_=>bn λ_ O=>xo 10 R λ_ v=>K0.dx hC R (A0.part O) (A0.sz _) (yo v (ln A0 R (lp (A10 _ _ _ _ _ _ _ _ _) R))))))) (λ_ D e=>fi func135 R (ci R lz (ci R lz (ci R lz (ci R (jo 1 (D _ _) R) (ci R (jo 1 (D _ _) R) (jo 4 (D _ _) R))))))) (λ_ _ z c e B=>ci R (kh [0,1,2,3,4] (z _) R λ_=>bn λ_ y=>xo 14 R λ_ v=>K0.nk hC R (Y0.opt_some y) (yo v (aa λX=>xo 3 R λ_ v=>K0.q hC R X (yo v (bn λ_ Y=>xo 0 R λ_ v=>K0.la 2 hC R Y (yo v lz)))))) (ci R (ix R λ_=>kh [0,1,2,3,4] (c _) R λ_=>lz) (ci R (ix R λ_=>kh [0,1,2,3,4] (c _) R λ_=>lz) (ci R (ix R λ_=>kh [0,1,2,3,4] (c _) R λ_=>ci R (ix R λ_=>kh [0,1,2,3,4] (c _) R λ_=>lz) (ix R λ_=>kh [0,1,2,3,4] (c _) R λ_=>lz)) (bn λ_ I=>bn λ_ J=>bn λ_ x=>bn λ_ U=>xe 4 R λ_ v=>AEx.drawL hC 16 [8,15] [] [[X3 b 3 4,E1 gm m,.slots gm 3 (arI ar),R0 u,.rok 3 1,N3 e],[X3 b 3 4,E1 gm m,.slots gm 3 (arI ar),R0 u,.rok 3 1,N3 e],[X3 b 3 4,E1 gm m,.slots gm 3 (arI ar),R0 u,.rok 3 1,N3 e]] [] R R R R R R R R R R (AS.q hC R R R R (AS.q hC R R R R (AS.q hC R R R R (AS.q hC R R R R (AS.q hC R R R R (AS.q hC R R R R (AS.ix hC R (M8 I) (D0.idx I) R R R (AS.q hC R R R R (AS.g [0,1,2,3,4] ((c _) _ J) R R R R R R R R R R R R R (AS.q hC R R R R (AS.q hC R R R R (AS.q hC R R R R (AS.q hC R R R R (AS.ix hC R (M8 x) (D0.idx x) R R R (AS.q hC R R R R (AS.g [0,1,2,3,4] ((c _) _ U) R R R R R R R R R R R R R (AS.nil (yo v (kc X14 R λ_=>lz))))))))))))))))))))))))
def Hh (c:D0)(b:X0)(m:List (Str×Option Y0))(ar:List (List Int))(r:List (Str×Z0)):Option Int:=V5 c b m ar r>>=λu=>Eb u.2.2>>=λd=>some d
def Ir {c b m ar d}:SP C 130 [.ref 0 0,.mp 1,A2 c] [X3 b 3 4,E1 gm m,.slots gm 3 (arI ar),R0 d,.rok 3 1] (Hh c b m ar d) (λr=>Ret [X3 b 3 4,E1 gm m,.slots gm 3 (arI ar),R0 d,.rok 3 1] (dI r)):=fi func130 R (kh [0,1,2,3,4] (((J5 _ _ _ _).1 _)) R λ_=>kc B9 R λ_=>lz)
def Ix (e:D0):Option Int:=U4 e 1 (N0.mk 0 0 false false false)>>=λc=>E8 c>>=λb=>some b
def C1c {e}:SP C 318 [A2 e] [] (Ix e) rtI:=fi func318 R (kh [1] (Uo.1 _ _ _) R λ_=>kh [1] Tp R λ_=>lz)
def Bj (b:List D0)(c:Int):Option Int:=if decide (c<(b.length:Int))then idx b c>>=λr=>Ix r>>=λd=>if d !=0 then some d else Bj b (i64.wrap (c+1))else some 0 partial_fixpoint
def H19 (b:List D0):∀c,LP C f266 0 [1,1,0,1,4] [(11,Yb b),(12,dI (b.length:Int)),(13,dI c)] [] (Bj b c) rtI:=Bj.partial_correctness b _ (λ_ d c=>lu (ci R (ix R λ_=>kc C1c R λ_=>ci R lz (lp (d _) R)) lz))
def Bo (c:C1)(b:List D0):Option Int:=Su c>>=λd=>if d !=0 then some 3 else Bj b 0
def Qt {c b}:SP C 266 [G5 c,Yb b] [] (Bo c b) rtI:=fi func266 R (kc V12 R λ_=>ci R lz (ln D0 R (lp (H19 _ _) R)))
def Nw (c:C1)(d:Int)(b:D0)(r:List D0):Option Int:=if decide ((1+r.length)*57<=140737488355328)then Bo c ([b]++r)>>=λu=>if u !=0 then some u else if bif (bif (b.Op !=3)then(b.Op !=4)else false)then(b.Op !=5)else false then some 1 else if bif (decide (d<0))then true else(decide (d>32))then some 3 else some 0 else none
def Y14 {c r b d}:SP C 202 [G5 c,dI r,A2 b,Yb d] [] (Nw c r b d) rtI:=fi func202 R (aa λu=>xe 9 R λ_ v=>AEx.drawL hC 5 [4] [] [[Bl c,N3 b],[Bl c,N3 b,.tok 55 4]] [] R R R R R R R R R R (AS.q hC R R R R (AS.q hC R R R R (AS.a R (λH=>AQ.be hC R (D0.rows_map [b]).symm (AQ.nil R)) R R (AS.q hC R R R R (AS.am hC R R R R R (rs:=D0.rows ([b]++d)) (D0.app [b] d) (D0.sz [b]) (D0.sz d) (B14 (D0.len [b]) (D0.len d) u) R R R (AS.nil (yo v (kc Qt R λ_=>ci R lz (ci R lz (ci R lz lz)))))))))))
variable {gm:Nat}
def Cj (c:C1)(op:Int)(b:Bool):Option Int:=if b=true then some c.c else if op==7 then if op==7 then some c.G else some 0 else if op==19 then if op==19 then some c.G else some 0 else if op==20 then if op==20 then some c.G else some 0 else if op==23 then some c.G else some 0
def Mj {c op b}:JP C f268 0 [1,0,1,4,1,3,1,3,1,3,1,3,1,3,1] [(2,.ref 0 0),(5,dI op),(31,dB b)] [Bl c] (Cj c op b) rtI:=ci R lz (ci R (ci R lz lz) (ci R (ci R lz lz) (ci R (ci R lz lz) (ci R lz lz))))
def Yy (c:C1)(op:Int)(d:Bool):Option Int:=if d=true then some c.b else if op==13 then Cj c op (op==13)else if op==14 then Cj c op (op==14)else if op==15 then Cj c op (op==15)else if op==16 then Cj c op (op==16)else if op==17 then Cj c op (op==17)else Cj c op (op==18)
def J16 {c op b}:JP C f268 0 [1,0,1,4,1,3,1,3,1,3,1,3,1] [(2,.ref 0 0),(5,dI op),(26,dB b)] [Bl c] (Yy c op b) rtI:=ci R lz (ci R (jo 1 Mj R) (ci R (jo 1 Mj R) (ci R (jo 1 Mj R) (ci R (jo 1 Mj R) (ci R (jo 1 Mj R) (jo 4 Mj R))))))
def Cm (c:C1)(op:Int)(b:Bool):Option Int:=if b=true then some c.f else if op==10 then some c.J else if op==11 then Yy c op (op==11)else Yy c op (op==12)
def Co {c op b}:JP C f268 0 [1,0,1,4,1,3,1,3,1] [(2,.ref 0 0),(5,dI op),(14,dB b)] [Bl c] (Cm c op b) rtI:=ci R lz (ci R lz (ci R (jo 1 J16 R) (jo 4 J16 R)))
def I1e (c:C1)(op:Int):Option Int:=if op==3 then some c.W else if op==5 then some c.a else if op==6 then Cm c op (op==6)else if op==8 then Cm c op (op==8)else if op==9 then Cm c op (op==9)else if op==21 then Cm c op (op==21)else Cm c op (op==22)
def R1t {c op}:SP C 268 [G5 c,dI op] [] (I1e c op) rtI:=fi func268 R (ci R lz (ci R lz (ci R (jo 1 Co R) (ci R (jo 1 Co R) (ci R (jo 1 Co R) (ci R (jo 1 Co R) (jo 4 Co R)))))))
mutual
def Zy (e:D0)(s:Int)(b:C1):Option Int:=I1e b e.Op>>=λc=>Ow e b (i64.wrap (s+c)) 0 partial_fixpoint
def Ow (e:D0)(b:C1)(d c:Int):Option Int:=if decide (c<(e.V.length:Int))then idx e.V c>>=λr=>Zy r d b>>=λu=>Ow e b u (i64.wrap (c+1))else some d partial_fixpoint
end
def S1n (b:C1):(∀e s,SP C 267 [A2 e,.ref 0 0,.ref 1 0,.ref 2 0] [.row [dI s] 3,Bl b,.row [.clo 267 [.ref 0 0,.ref 1 0,.ref 2 0]] 292] (Zy e s b) (λr=>Ret [.row [dI r] 3,Bl b,.row [.clo 267 [.ref 0 0,.ref 1 0,.ref 2 0]] 292] (.tup [])))/\(∀e v c,LP C f267 3 [1,1,1,4] [(3,.ref 2 0),(14,Yb e.V),(15,dI (e.V.length:Int)),(16,dI c)] [.row [dI v] 3,Bl b,.row [.clo 267 [.ref 0 0,.ref 1 0,.ref 2 0]] 292] (Ow e b v c) (λr=>Ret [.row [dI r] 3,Bl b,.row [.clo 267 [.ref 0 0,.ref 1 0,.ref 2 0]] 292] (.tup []))):=Zy.mutual_partial_correctness b _ _ (λ_ d e s=>fi func267 R (kc R1t R λ_=>ln D0 R (lp (d _ _ _) R))) (λ_ _ u d e v c=>lu (ci R (ix R λ_=>kh [0,1,2] (u _ _) R λ_=>lp (d _ _ _) R) lz))
def W10 (c:C1)(e:D0):Option Int:=Zy e 0 c>>=λb=>some b
def M11 {c e}:SP C 204 [G5 c,A2 e] [] (W10 c e) rtI:=fi func204 R (kh [2,0,3] (((S1n _).1 _ _)) R λ_=>lz)
def Az (c:C1)(b:D0):Option Int:=W10 c b>>=λd=>some (i64.wrap (d-c.W))
def K16 {c b}:SP C 203 [G5 c,A2 b] [] (Az c b) rtI:=fi func203 R (kc M11 R λ_=>lz)
def V1a (c:C1)(d r:D0)(b:Int):Option (Int×Int):=Nw c b d [r]>>=λu=>if u !=0 then some (0,u)else Az c d>>=λv=>W10 c r>>=λx=>some ((i64.wrap ((i64.wrap ((i64.wrap (c.Q*b))+v))+x)),0)
def C1h {c r d b}:SP C 129 [G5 c,A2 r,A2 d,dI b] [] (V1a c r d b) Ue:=fi func129 R (xo 16 R λ_ u=>K0.be hC R (D0.rows_map [d]).symm (yo u (kc Y14 R λ_=>ci R lz (kc K16 R λ_=>kc M11 R λ_=>lz))))
def P5 (n c:Int)(b:X0)(m:List (Str×Z0)):Option X0:=some (X0.mk b.decls b.L (J1.mk b.M.g (i64.wrap (b.M.i+n))))
def Q6 {n c b m}:SP C 128 [.ref 0 0,dI n,dI c] [X3 b 1 2,R0 m,.rok 3 1] (P5 n c b m) (λr=>Ret [X3 r 1 2,R0 m,.rok 3 1] (.tup [])):=fi func128 R lz
def Wc (e:D0)(b:X0)(m:List (Str×Option Y0))(ar:List (List Int))(r:List (Str×Z0)):Option (List Int):=Uu e>>=λy=>if !y then Z2 e b m ar r>>=λv=>some [v]else V5 e b m ar r>>=λc=>c.1>>=λu=>Eb c.2.2>>=λd=>if decide (0<=c.2.1/\c.2.1<(i64.wrap (c.2.1+d))/\(i64.wrap (c.2.1+d))<=(u.t.2:Int))then Xm u.t.1 (0+c.2.1.toNat) ((i64.wrap (c.2.1+d)).toNat-c.2.1.toNat) ar>>=λx=>some x else none
def Sk {e b m ar c}:SP C 119 [.ref 0 0,.mp 1,A2 e] [X3 b 3 4,E1 gm m,.slots gm 3 (arI ar),R0 c,.rok 3 1] (Wc e b m ar c) (λr=>Ret [X3 b 3 4,E1 gm m,.slots gm 3 (arI ar),R0 c,.rok 3 1] (X5 r)):=fi func119 R (kc B13 R λ_=>ci R (kh [0,1,2,3,4] (((J5 _ _ _ _).2.1 _)) R λ_=>lz) (kh [0,1,2,3,4] (((J5 _ _ _ _).1 _)) R λ_=>dr 10 12 R (bn λ_ u=>xq 1 R λ_ d=>AQ.nk hC R (Y0.opt_some u) (yq d R (kc B9 R λ_=>aa λc9=>xq 2 R λ_ d=>AQ.dc hC R c9 (yq d R (kh [2] Hr R λ_=>lz)))))))
def Rb (d:D0)(c:List Int)(b:X0)(m:List (Str×Option Y0))(ar:List (List Int))(x:List (Str×Z0)):Option (List (List Int)):=V5 d b m ar x>>=λr=>El r.2.2 c>>=λv=>r.1>>=λu=>if decide (0<=r.2.1/\r.2.1<(u.t.2:Int)/\(u.t.2:Int)<=(u.t.2:Int))then (N1r ar u.t.1 (0+r.2.1.toNat) ((u.t.2:Int).toNat-r.2.1.toNat) v.1)>>=λy=>some y else none
def Sj {d c b m ar v}:SP C 131 [.ref 0 0,.mp 1,A2 d,X5 c] [X3 b 3 4,E1 gm m,.slots gm 3 (arI ar),R0 v,.rok 3 1] (Rb d c b m ar v) (λr=>Ret [X3 b 3 4,E1 gm m,.slots gm 3 (arI r),R0 v,.rok 3 1] (.tup [])):=fi func131 R (kh [0,1,2,3,4] (((J5 _ _ _ _).1 _)) R λ_=>kc ((λ_=>Up)) R λ_=>bn λ_ x=>xo 10 R λ_ u=>K0.nk hC R (Y0.opt_some x) (yo u (aa λc9=>xo 3 R λ_ u=>K0.dc hC R c9 (yo u (bn λ_ y=>xo 1 R λ_ u=>K0.cpx 2 hC R R y R (yo u lz))))))
def Vx (d:C0)(b:E0):Option Bool:=some (bif (d.K==6)then(d.Name==b.Name)else false)
def Z14 {d b}:SP C 206 [M1t d,.ref 0 0] [Y1 b] (Vx d b) (λr=>Ret [Y1 b] (dB r)):=fi func206 R lz
def Y6 (s:List C0)(b:E0)(c:Int):Option Int:=if decide (c<(s.length:Int))then idx s c>>=λr=>Vx r b>>=λd=>if d=true then some c else Y6 s b (i64.wrap (c+1))else some (-1) partial_fixpoint
def Vq (s:List C0)(b:E0):∀d,LP C f205 1 [1,0,1,4] [(0,V0 s),(1,.clo 206 [.ref 0 0]),(7,dI (s.length:Int)),(8,dI d)] [Y1 b] (Y6 s b d) (λr=>Ret [Y1 b] (dI r)):=Y6.partial_correctness s b _ (λ_ c d=>lu (ci R (ix R λ_=>kh [0] Z14 R λ_=>ci R lz (lp (c _) R)) lz))
def Dk (s:List C0)(b:E0):Option Int:=Y6 s b 0
def Zs {s b}:SP C 205 [V0 s,.clo 206 [.ref 0 0]] [Y1 b] (Dk s b) (λr=>Ret [Y1 b] (dI r)):=fi func205 R (ln C0 R (lp (Vq _ _ _) R))
def Qf (i:Int)(t:A0)(b:X0)(m:List (Str×Z0)):Option A0:=slc b.decls 0 i>>=λd=>Yi d t>>=λc=>some c.1
def Dj {i t b m}:SP C 43 [.ref 0 0,dI i,W0 t] [X3 b 1 2,R0 m,.rok 3 1] (Qf i t b m) (λr=>Ret [X3 b 1 2,R0 m,.rok 3 1] (W0 r)):=fi func43 R (bn λ_ u=>bn λx v=>xe 7 R λ_ y=>AEx.drawL hC 13 [12] [(11,5)] [[X3 b 1 2,R0 m,.rok 3 1,G1 t,.row [dI 0,dI 0,dI 0,dI 0,.d (.str []),.full (estr.rows []),.full (A0.rows [])] 51,.row [dI 0,dI 0,dI 0,dI 0,.d (.str []),.full (estr.rows []),.full (A0.rows [])] 51],[X3 b 1 2,R0 m,.rok 3 1,G1 t,.row [dI 0,dI 0,dI 0,dI 0,.d (.str []),.full (estr.rows []),.full (A0.rows [])] 51,G1 x.1]] [] R R R R R R R R R R (AS.q hC R R R R (AS.q hC R R R R (AS.q hC R R R R (AS.q hC R R R R (AS.q hC R R R R (AS.a R (λH=>AQ.dx hC R (C0.part u) (C0.sz _) (AQ.nil R)) R R (AS.q hC R R R R (AS.c (Ns _ v) R R R R (AS.q hC R R R R (AS.q hC R R R R (AS.q hC R R R R (AS.n hC R R R R (AS.s hC R R R R R R R (AS.nil (yo y lz))))))))))))))))
def Ek (c:List Int)(ar:List (List Int))(d:List Int)(r:List T0×Int)(b:Int):Option ((Nat×Nat)×Int×List (List Int)):=if decide (b<(r.1.length:Int))then idx r.1 b>>=λu=>idx c b>>=λv=>if decide (0<=b/\b<((c.length:Int).toNat:Int))then if decide (b.toNat<d.length)then Ek c ar (d.set b.toNat (min (max v u.Low) u.H)) r (i64.wrap (b+1))else none else none else some ((ar.length,(c.length:Int).toNat),0,(ar++[d])) partial_fixpoint
abbrev E10 (list:List Int)(ar:List (List Int))(a2:List Int)(x1:List T0×Int)(v29:Int)(res:(Nat×Nat)×Int×List (List Int)):Prop:=LM C 49 1 f118 [1,1,1,1,1,0,1,4] [(1,X5 list),(8,.rsl 2 0 (list.length:Int).toNat (list.length:Int).toNat),(27,Z7 x1.1),(28,dI (x1.1.length:Int)),(29,dI v29)] [.slots gm 3 (arI ar),.dead,.row (ei64.cells a2) 3] (Ret [.slots gm 3 (arI res.2.2)] (.tup [.d (.csl gm res.1.1 0 res.1.2),dI res.2.1]))
def I19 (c:List Int)(ar:List (List Int))(I:List T0×Int):(∀z r d,Ek c ar z I r=some d->(@E10 gm) c ar z I r d):=by
 refine Ek.partial_correctness c ar I _ ?_
 ·intro J D z r d b;refine T8.unroll (t' R (S' (ci' R b (λb=>?_) (λb=>?_))))
  ·obtain⟨O,v,b⟩:=bs' b;obtain⟨T,u,b⟩:=bs' b;obtain⟨B,b⟩:=G6 b;obtain⟨y,b⟩:=G6 b;refine sk' (S' (bk' (p' 1 R (i' R (M8 v) (T0.idx v) R (q' R (K0.n hC R (q' R (K0.s hC R (n' (AEx.draw hC 13 R R R (O' 4 R (AQ.i hC R (M8 u) (ei64.idx u) R (O' 7 R ?_)))))))))))));refine AQ.q hC R B (Qn' (K0.sx hC R (G1s y) (X1o y) R (n' (T' R ?_))));refine T8.wk ?_ (D _ _ _ b);exact⟨⟨⟨.rfl,R⟩,⟨.rfl,R⟩,⟨.rfl,R⟩,⟨.rfl,R⟩,⟨.rfl,R⟩,trivial⟩,⟨R,trivial,⟨R,.refl _,Dq _ _ _⟩,trivial⟩,R⟩
  cases b;exact ex' (p' 3 R (K0.pua 2 0 (ls:=ar) (x:=z) R R R R (n' (re' (rq R)))))
def W1a {b ar u r d c}(v:Ek b ar u r d=some c):(@E10 gm) b ar u r d c:=(I19 b ar r) _ _ _ v
def X10 (t:A0)(b:List Int)(ar:List (List Int)):Option ((Nat×Nat)×Int×List (List Int)):=Db t>>=λc=>if c.2 !=0 then none else if (c.1.length:Int)!=(b.length:Int)then none else if decide (0<=(b.length:Int)/\(b.length:Int).toNat*8<=140737488355328)then Ek b ar (List.replicate (b.length:Int).toNat 0) c 0 else none
def J1g {t r ar b}(c:X10 t r ar=some b):B4 C 118 [W0 t,X5 r] [.slots gm 3 (arI ar)] (Ret [.slots gm 3 (arI b.2.2)] (.tup [.d (.csl gm b.1.1 0 b.1.2),dI b.2.1])):=by
 unfold X10 at c;obtain⟨x,u,c⟩:=bs' c;refine B4.intro hC func118 R R R (s' R R (K0.n hC R (e' R (p' 1 R (cq (Uh _ u) R (e' R (S' (t' R (ci' R c nofun (λc=>?_))))))))));refine sk' (S' (p' 1 R (qe' R trivial (T0.lenA _) (q' R (qe' R trivial (ei64.lenA _) (e' R (ci' R c nofun (λc=>?_))))))));obtain⟨v,c⟩:=G6 c;refine sk' (p' 1 R (qe' R trivial (ei64.lenA _) (K0.mk hC R R v (cs:=ei64.cells _) (Y1o _ _ ei64.zero) R (e' R (S' (p' 1 R (qe' R trivial (T0.lenA _) (e' R (bk' ?_)))))))));refine AEx.ofLoop ?_;refine T8.wk ?_ (W1a c);exact⟨⟨⟨.rfl,R⟩,⟨.rfl,R⟩,⟨.rfl,R⟩,⟨.rfl,R⟩,⟨.rfl,R⟩,trivial⟩,⟨R,trivial,⟨R,.refl _,Dq _ _ _⟩,trivial⟩,R⟩
def Pw (c:C1)(u:List D0)(b:List Int)(d r:Int):Option (Int×Int):=if decide (r<(b.length:Int))then idx b r>>=λv=>if bif (decide (v<0))then true else(decide (v>32))then some (0,3)else idx u r>>=λy=>W10 c y>>=λx=>Pw c u b (i64.wrap (d+(i64.wrap (x+(i64.wrap (c.Q*v)))))) (i64.wrap (r+1))else some (d,0) partial_fixpoint
def M1i (c:C1)(r:List D0)(b:List Int):∀d u,LP C f207 0 [1,1,1,1,0,1,4] [(1,Yb r),(3,.ref 0 0),(9,dI d),(25,X5 b),(26,dI (b.length:Int)),(27,dI u)] [Bl c] (Pw c r b d u) Ue:=Pw.partial_correctness c r b _ (λ_ v d u=>lu (ci R (ix R λ_=>ci R lz (ix R λ_=>kc M11 R λ_=>lp (v _ _) R)) lz))
def E1l (c:C1)(r:List D0)(b:List Int):Option (Int×Int):=Bo c r>>=λu=>if u !=0 then some (0,u)else if (r.length:Int)!=(b.length:Int)then some (0,2)else Pw c r b c.d 0
def W1q {c d b}:SP C 207 [G5 c,Yb d,X5 b] [] (E1l c d b) Ue:=fi func207 R (kc Qt R λ_=>ci R lz (ln D0 R (ln Int R (ci R lz (ln Int R (lp (M1i _ _ _ _ _) R))))))
def F1l (c:C1)(d r:D0)(b:Int):Option (Int×Int):=V1a c d r b>>=λu=>some (u.1,u.2)
def X1q {c d r b}:SP C 208 [G5 c,A2 d,A2 r,dI b] [] (F1l c d r b) Ue:=fi func208 R (kc C1h R λ_=>lz)
def G1l (c:C1)(b:D0):Option (Int×Int):=Nw c 0 b []>>=λd=>if d !=0 then some (0,d)else Az c b>>=λr=>some (r,0)
def Y1q {c b}:SP C 209 [G5 c,A2 b] [] (G1l c b) Ue:=fi func209 R (kc Y14 R λ_=>ci R lz (kc K16 R λ_=>lz))
def J1e (c:C1)(b:D0):Option (Int×Int):=G1l c b>>=λd=>if d.2 !=0 then some (0,d.2)else some ((i64.wrap ((i64.wrap (c.Y+c.Q))+d.1)),0)
def H1l {c b}:SP C 133 [G5 c,A2 b] [] (J1e c b) Ue:=fi func133 R (kc Y1q R λ_=>ci R lz lz)
def K1e (c:C1)(e:D0):Option (Int×Int):=Bo c [e]>>=λb=>if b !=0 then some (0,b)else W10 c e>>=λd=>some (d,0)
def S1t {c e}:SP C 269 [G5 c,A2 e] [] (K1e c e) Ue:=fi func269 R (xo 13 R λ_ b=>K0.be hC R (D0.rows_map [e]).symm (yo b (kc Qt R λ_=>ci R lz (kc M11 R λ_=>lz))))
def E12 (c:C1)(d:Int)(b:D0):Option (Int×Int):=K1e c b>>=λr=>if r.2 !=0 then some (0,r.2)else some ((i64.wrap (d+r.1)),0)
def A15 {c d b}:SP C 210 [G5 c,dI d,A2 b] [] (E12 c d b) Ue:=fi func210 R (kc S1t R λ_=>ci R lz lz)
def T17 (c:C1)(b:D0):Option (Int×Int):=E12 c c.Z b>>=λd=>some (d.1,d.2)
def T1n {c b}:SP C 134 [G5 c,A2 b] [] (T17 c b) Ue:=fi func134 R (kc A15 R λ_=>lz)
def U1n (c:C1)(b:D0):Option (Int×Int):=E12 c c.e b>>=λd=>some (d.1,d.2)
def R20 {c b}:SP C 136 [G5 c,A2 b] [] (U1n c b) Ue:=fi func136 R (kc A15 R λ_=>lz)
def I1l (c:C1)(b:D0):Option (Int×Int):=E12 c c.U b>>=λd=>some (d.1,d.2)
def Z1q {c b}:SP C 212 [G5 c,A2 b] [] (I1l c b) Ue:=fi func212 R (kc A15 R λ_=>lz)
mutual
def T3 (l:List E0)(b:X0)(m:List (Str×Option Y0))(ar:List (List Int))(c:List (Str×Z0)):Option (X0×List (List Int)):=X2 l m c b ar 0 partial_fixpoint
def X2 (l:List E0)(m:List (Str×Option Y0))(c:List (Str×Z0))(u:X0)(b:List (List Int))(r:Int):Option (X0×List (List Int)):=if decide (r<(l.length:Int))then idx l r>>=λd=>if d.S==0 then Hh d.I u m b c>>=λx2=>V1a u.L d.I d.Value x2>>=λx3=>P5 x3.1 x3.2 u c>>=λU=>Wc d.Value U m b c>>=λx5=>Rb d.I x5 U m b c>>=λx6=>X2 l m c U x6 (i64.wrap (r+1))else if d.S==1 then Zv d u m b c>>=λB=>X2 l m c B.1 B.2 (i64.wrap (r+1))else if d.S==2 then J1e u.L d.I>>=λx7=>P5 x7.1 x7.2 u c>>=λZ=>some (mgt d.Name c)>>=λx9=>Rb d.I ((x9.getD Z0.zero).t) Z m b c>>=λY=>X2 l m c Z Y (i64.wrap (r+1))else if d.S==3 then T17 u.L d.Value>>=λJ=>P5 J.1 J.2 u c>>=λv=>Z2 d.Value v m b c>>=λV=>if decide ((v.M.g.length+1)*9<=140737488355328)then X2 l m c (X0.mk v.decls v.L (J1.mk (v.M.g++[V]) v.M.i)) b (i64.wrap (r+1))else none else if d.S==4 then X2 l m c (X0.mk u.decls u.L (J1.mk u.M.g (i64.wrap (u.M.i+d.NV)))) b (i64.wrap (r+1))else if d.S==5 then U1n u.L d.Value>>=λy=>P5 y.1 y.2 u c>>=λx=>Z2 d.Value x m b c>>=λX=>if X==1 then T3 d.Then x m b c>>=λT=>X2 l m c T.1 T.2 (i64.wrap (r+1))else T3 d.Else x m b c>>=λz=>X2 l m c z.1 z.2 (i64.wrap (r+1))else if d.S==6 then Cz d u m b c>>=λD=>X2 l m c D.1 D.2 (i64.wrap (r+1))else if d.S==7 then Bz d u m b c>>=λO=>X2 l m c O.1 O.2 (i64.wrap (r+1))else X2 l m c u b (i64.wrap (r+1))else some (u,b) partial_fixpoint
def Bz (s:E0)(b:X0)(m:List (Str×Option Y0))(ar:List (List Int))(c:List (Str×Z0)):Option (X0×List (List Int)):=Pd m>>=λd=>Ym s m c b ar d s.Low partial_fixpoint
def Ym (s:E0)(m:List (Str×Option Y0))(u:List (Str×Z0))(c:X0)(b:List (List Int))(r:List (Str×Option Y0))(i:Int):Option (X0×List (List Int)):=if decide (i<=s.H)then some (some (Y0.mk (A0.mk 1 s.Low s.H 0 [] [] []) (b.length,(1:Int).toNat)))>>=λd=>T3 s.Then (X0.mk c.decls c.L (J1.mk c.M.g (i64.wrap (c.M.i+c.L.U)))) (mpt s.Name d r) (b++[[i]]) u>>=λv=>Ym s m u v.1 v.2 (mpt s.Name d r) (i64.wrap (i+1))else some (c,b) partial_fixpoint
def Cz (s:E0)(b:X0)(m:List (Str×Option Y0))(ar:List (List Int))(c:List (Str×Z0)):Option (X0×List (List Int)):=Zm s m c b ar 0 partial_fixpoint
def Zm (s:E0)(m:List (Str×Option Y0))(c:List (Str×Z0))(r:X0)(b:List (List Int))(v:Int):Option (X0×List (List Int)):=if decide (v<s.NV)then I1l r.L s.Value>>=λx=>P5 x.1 x.2 r c>>=λd=>Z2 s.Value d m b c>>=λy=>if y==0 then some (d,b)else T3 s.Then d m b c>>=λu=>Zm s m c u.1 u.2 (i64.wrap (v+1))else some (r,b) partial_fixpoint
def Zv (s:E0)(b:X0)(m:List (Str×Option Y0))(ar:List (List Int))(r:List (Str×Z0)):Option (X0×List (List Int)):=Dk b.decls s>>=λc=>idx b.decls c>>=λd=>Tk s b m r ar d [] c [] 0 partial_fixpoint
def Tk (s:E0)(b:X0)(m:List (Str×Option Y0))(u:List (Str×Z0))(r:List (List Int))(x2:C0)(I:List (Str×Option Y0))(z:Int)(c:List Int)(d:Int):Option (X0×List (List Int)):=if decide (d<(x2.P.length:Int))then idx x2.P d>>=λJ=>Qf z J.N b u>>=λx=>Eb x>>=λV=>if decide ((c.length+1)*9<=140737488355328)then idx s.B d>>=λO=>Wc O b m r u>>=λT=>X10 x T r>>=λD=>some (some (Y0.mk x D.1))>>=λU=>Tk s b m u D.2.2 x2 (mpt J.Name U I) z (c++[V]) (i64.wrap (d+1))else none else E1l b.L s.B c>>=λv=>P5 v.1 v.2 b u>>=λy=>Uk s m u y r x2 I z 0 partial_fixpoint
def Uk (s:E0)(m:List (Str×Option Y0))(c:List (Str×Z0))(v:X0)(B:List (List Int))(x2:C0)(d:List (Str×Option Y0))(X r:Int):Option (X0×List (List Int)):=if decide (r<(x2.Vars.length:Int))then idx x2.Vars r>>=λu=>Qf X u.N v c>>=λJ=>Pt J u.h B>>=λx=>Uk s m c v x.2 x2 (mpt u.Name x.1 d) X (i64.wrap (r+1))else T3 x2.Body v d B c>>=λb=>Qf X x2.N b.1 c>>=λT=>Wc x2.Value b.1 d b.2 c>>=λD=>El T D>>=λU=>Hh s.I b.1 m b.2 c>>=λV=>F1l b.1.L s.I x2.Value V>>=λy=>P5 y.1 y.2 b.1 c>>=λz=>Rb s.I U.1 z m b.2 c>>=λO=>some (z,O) partial_fixpoint
end
def Ts (u:List (Str×Z0)):(∀l b m ar,SP C 68 [.ref 0 0,.mp 1,X1 l] [X3 b 3 4,E1 gm m,.slots gm 3 (arI ar),R0 u,.tok 3 1] (T3 l b m ar u) (λr=>Ret [X3 r.1 3 4,E1 gm m,.slots gm 3 (arI r.2),R0 u,.tok 3 1] (.tup [])))/\(∀l m U d a2,LP C f68 5 [1,4] [(0,.ref 0 0),(1,.mp 1),(8,X1 l),(9,dI (l.length:Int)),(10,dI a2)] [X3 U 3 4,E1 gm m,.slots gm 3 (arI d),R0 u,.tok 3 1] (X2 l m u U d a2) (λr=>Ret [X3 r.1 3 4,E1 gm m,.slots gm 3 (arI r.2),R0 u,.tok 3 1] (.tup [])))/\(∀s b m ar,SP C 138 [.ref 0 0,.mp 1,Df s] [X3 b 3 4,E1 gm m,.slots gm 3 (arI ar),R0 u,.tok 3 1] (Bz s b m ar u) (λr=>Ret [X3 r.1 3 4,E1 gm m,.slots gm 3 (arI r.2),R0 u,.tok 3 1] (.tup [])))/\(∀s m U d m6 i,LP C f138 5 [1,1,1,4] [(0,.ref 0 0),(5,.ref 5 0),(6,.mp 6),(7,dI i)] [X3 U 3 4,E1 gm m,.slots gm 3 (arI d),R0 u,.tok 3 1,Y1 s,E1 gm m6] (Ym s m u U d m6 i) (λr=>Ret [X3 r.1 3 4,E1 gm m,.slots gm 3 (arI r.2),R0 u,.tok 3 1] (.tup [])))/\(∀s b m ar,SP C 137 [.ref 0 0,.mp 1,Df s] [X3 b 3 4,E1 gm m,.slots gm 3 (arI ar),R0 u,.tok 3 1] (Cz s b m ar u) (λr=>Ret [X3 r.1 3 4,E1 gm m,.slots gm 3 (arI r.2),R0 u,.tok 3 1] (.tup [])))/\(∀s m U d v8,LP C f137 5 [1,6,1,1,4] [(0,.ref 0 0),(1,.mp 1),(5,.ref 5 0),(7,dI s.NV),(8,dI v8)] [X3 U 3 4,E1 gm m,.slots gm 3 (arI d),R0 u,.tok 3 1,Y1 s] (Zm s m u U d v8) (λr=>Ret [X3 r.1 3 4,E1 gm m,.slots gm 3 (arI r.2),R0 u,.tok 3 1] (.tup [])))/\(∀s b m ar,SP C 132 [.ref 0 0,.mp 1,Df s] [X3 b 3 4,E1 gm m,.slots gm 3 (arI ar),R0 u,.tok 3 1] (Zv s b m ar u) (λr=>Ret [X3 r.1 3 4,E1 gm m,.slots gm 3 (arI r.2),R0 u,.tok 3 1] (.tup [])))/\(∀s b m d x2 m7 T J a6,LP C f132 5 [1,1,1,1,1,0,1,4] [(0,.ref 0 0),(1,.mp 1),(5,.ref 5 0),(6,dI T),(7,.ref 6 0),(8,.mp 7),(9,.osl 8 (ei64.rows J)),(34,V0 x2.P),(35,dI (x2.P.length:Int)),(36,dI a6)] [X3 b 3 4,E1 gm m,.slots gm 3 (arI d),R0 u,.tok 3 1,Y1 s,W1 x2,E1 gm m7,.tok 3 1] (Tk s b m u d x2 m7 T J a6) (λr=>Ret [X3 r.1 3 4,E1 gm m,.slots gm 3 (arI r.2),R0 u,.tok 3 1] (.tup [])))/\(∀s m V Y x2 B T a3,LP C f132 5 [1,1,1,1,1,1,1,0,1,4] [(0,.ref 0 0),(1,.mp 1),(5,.ref 5 0),(6,dI T),(7,.ref 6 0),(8,.mp 7),(85,V0 x2.Vars),(86,dI (x2.Vars.length:Int)),(87,dI a3)] [X3 V 3 4,E1 gm m,.slots gm 3 (arI Y),R0 u,.tok 3 1,Y1 s,W1 x2,E1 gm B] (Uk s m u V Y x2 B T a3) (λr=>Ret [X3 r.1 3 4,E1 gm m,.slots gm 3 (arI r.2),R0 u,.tok 3 1] (.tup []))):=
 T3.mutual_partial_correctness u _ _ _ _ _ _ _ _ _
 (λ_ z l b m ar=>fi func68 R (ln E0 R (lp (z _ _ _ _ _) R)))
 (λ_ _ _ _ _ O z b9 b8 c3 l m U d a2=>lu (ci R (ix R λT=>ci R (bn λ_ a0=>bn λ_ c1=>xe 1 R λ_ v=>AEx.drawL hC 17 [13] [] [[X3 U 3 4,E1 gm m,.slots gm 3 (arI d),R0 u,.tok 3 1,Y1 T],[X3 U 3 4,E1 gm m,.slots gm 3 (arI d),R0 u,.tok 3 1,Y1 T]] [] R R R R R R R R R R (AS.q hC R R R R (AS.q hC R R R R (AS.q hC R R R R (AS.q hC R R R R (AS.q hC R R R R (AS.q hC R R R R (AS.q hC R R R R (AS.q hC R R R R (AS.q hC R R R R (AS.q hC R R R R (AS.q hC R R R R (AS.q hC R R R R (AS.q hC R R R R (AS.gl [4] [0,1,2,3,4] (Ir _ a0) R R R R R R R R R R R R R (AS.c (C1h _ c1) R R R R (AS.q hC R R R R (AS.q hC R R R R (AS.nil (yo v (khl [4] [0,3,4] Q6 R λx4=>bn λ_ c2=>xe 3 R λ_ v=>AEx.drawL hC 9 [8] [] [[X3 x4 3 4,E1 gm m,.slots gm 3 (arI d),R0 u,.tok 3 1,Y1 T],[X3 x4 3 4,E1 gm m,.slots gm 3 (arI d),R0 u,.tok 3 1,Y1 T]] [] R R R R R R R R R R (AS.q hC R R R R (AS.q hC R R R R (AS.q hC R R R R (AS.q hC R R R R (AS.q hC R R R R (AS.q hC R R R R (AS.q hC R R R R (AS.q hC R R R R (AS.gl [4] [0,1,2,3,4] (Sk _ c2) R R R R R R R R R R R R R (AS.nil (yo v (khl [4] [0,1,2,3,4] Sj R λ_=>lp (z _ _ _ _ _) R))))))))))))))))))))))))))))))))) (ci R (kh [0,1,2,3,4] (c3 _ _ _ _) R λ_=>lp (z _ _ _ _ _) R) (ci R (dr 10 1 R (kc H1l R λ_=>khl [4] [0,3,4] Q6 R λ_=>dr 12 3 R (bn λ_ a8=>xq 10 R λ_ v=>AQ.me hC R (Z0.lk a8) (yq v R (khl [4] [0,1,2,3,4] Sj R λ_=>lp (z _ _ _ _ _) R))))) (ci R (dr 10 1 R (kc T1n R λ_=>khl [4] [0,3,4] Q6 R λD=>bn λZ X=>aa λc9=>xe 3 R λ_ v=>AEx.drawL hC 13 [10,12] [] [[X3 D 3 4,E1 gm m,.slots gm 3 (arI d),R0 u,.tok 3 1,Y1 T],[X3 D 3 4,E1 gm m,.slots gm 3 (arI d),R0 u,.tok 3 1,Y1 T],[X3 D 3 4,E1 gm m,.slots gm 3 (arI d),R0 u,.gone,Y1 T,.tok 3 1]] [] R R R R R R R R R R (AS.q hC R R R R (AS.q hC R R R R (AS.q hC R R R R (AS.q hC R R R R (AS.q hC R R R R (AS.q hC R R R R (AS.q hC R R R R (AS.q hC R R R R (AS.q hC R R R R (AS.q hC R R R R (AS.gl [4] [0,1,2,3,4] (((J5 _ _ _ _).2.1 _) _ X) R R R R R R R R R R R R R (AS.a R (λH=>AQ.be hC R (ei64.rows_map [Z]).symm (AQ.nil R)) R R (AS.am hC R R R R R (rs:=ei64.rows (D.M.g++[Z])) (ei64.app D.M.g [Z]) (ei64.sz D.M.g) (ei64.sz [Z]) (B14 (ei64.len D.M.g) (ei64.len [Z]) c9) R R R (AS.nil (yo v (xo 0 R λ_ v=>K0.mb 4 6 R R (yo v (lp (z _ _ _ _ _) R)))))))))))))))))))) (ci R (lp (z _ _ _ _ _) R) (ci R (dr 10 1 R (kc R20 R λ_=>khl [4] [0,3,4] Q6 R λ_=>khl [4] [0,1,2,3,4] (((J5 _ _ _ _).2.1 _)) R λ_=>ci R (kh [0,1,2,3,4] (O _ _ _ _) R λ_=>lp (z _ _ _ _ _) R) (kh [0,1,2,3,4] (O _ _ _ _) R λ_=>lp (z _ _ _ _ _) R))) (ci R (kh [0,1,2,3,4] (b8 _ _ _ _) R λ_=>lp (z _ _ _ _ _) R) (ci R (kh [0,1,2,3,4] (b9 _ _ _ _) R λ_=>lp (z _ _ _ _ _) R) (lp (z _ _ _ _ _) R))))))))) lz))
 (λ_ a5 s b m ar=>fi func138 R (kh [1] ((λ_=>Rn)) R λ_=>lp (a5 _ _ _ _ _ _) R))
 (λ_ _ O a5 s m U d m6 i=>lu (ci R (xo 35 R λ_ v=>K0.bm hC (cs:=ei64.cells [i]) rfl rfl (yo v (xo 2 R λ_ v=>K0.pua 7 2 (ls:=d) (x:=[i]) rfl rfl rfl rfl (yo v (bn λx2 a0=>xo 0 R λ_ v=>K0.bx 8 (y:=.bxo (Y0.opt gm x2)) (by cases a0;exact .inr rfl) rfl rfl rfl (yo v (xo 0 R λ_ v=>K0.ue hC rfl (ArenaP.mput _ x2 _) rfl (yo v (kh [0,6,2,3,4] (O _ _ _ _) R λ_=>lp (a5 _ _ _ _ _ _) R))))))))) lz))
 (λ_ a7 s b m ar=>fi func137 R (lp (a7 _ _ _ _ _) R))
 (λ_ _ O a7 s m U d v8=>lu (ci R (dr 10 5 R (kc Z1q R λ_=>khl [4] [0,3,4] Q6 R λ_=>khl [4] [0,1,2,3,4] (((J5 _ _ _ _).2.1 _)) R λ_=>ci R lz (kh [0,1,2,3,4] (O _ _ _ _) R λ_=>lp (a7 _ _ _ _ _) R))) lz))
 (λ_ a1 s b m ar=>fi func132 R (kh [5] Zs R λ_=>ix R λ_=>xo 8 R λ_ v=>K0.w R (yo v (xo 6 R λ_ v=>K0.tokE 9 3 1 R (yo v (ln C0 R (lp (a1 _ _ _ _ _ _ _ _ _) R)))))))
 (λ_ _ a1 a4 s b m d x2 m7 T J a6=>lu (ci R (ix R λx3=>khl [4] [0,3,4] Dj R λx4=>kc B9 R λx5=>ap [x5] R (bn λ_ b1=>bn λ_ b7=>bn λx8 c0=>xe 5 R λ_ v=>AEx.drawL hC 14 [8,9] [] [[X3 b 3 4,E1 gm m,.slots gm 3 (arI d),R0 u,.tok 3 1,Y1 s,W1 x2,E1 gm m7,.tok 3 1,W1 x3,G1 x4],[X3 b 3 4,E1 gm m,.slots gm 3 (arI d),R0 u,.tok 3 1,Y1 s,W1 x2,E1 gm m7,.tok 3 1,W1 x3,G1 x4],[X3 b 3 4,E1 gm m,.slots gm 3 (arI x8.2.2),R0 u,.tok 3 1,Y1 s,W1 x2,E1 gm m7,.tok 3 1,W1 x3,G1 x4]] [] rfl rfl rfl rfl rfl rfl rfl rfl rfl rfl (AS.q hC rfl rfl rfl rfl (AS.q hC rfl rfl rfl rfl (AS.q hC rfl rfl rfl rfl (AS.q hC rfl rfl rfl rfl (AS.q hC rfl rfl rfl rfl (AS.q hC rfl rfl rfl rfl (AS.ix hC rfl (M8 b1) (D0.idx b1) rfl rfl rfl (AS.q hC rfl rfl rfl rfl (AS.gl [4] [0,1,2,3,4] (Sk _ b7) rfl rfl rfl rfl rfl rfl rfl rfl rfl rfl rfl rfl rfl (AS.g [2] (J1g c0) rfl rfl rfl rfl rfl rfl rfl rfl rfl rfl rfl rfl rfl (AS.q hC rfl rfl rfl rfl (AS.q hC rfl rfl rfl rfl (AS.q hC rfl rfl rfl rfl (AS.q hC rfl rfl rfl rfl (AS.nil (yo v (bn λx9 a8=>xo 11 R λ_ v=>K0.bx 11 (y:=.bxo (Y0.opt gm x9)) (by cases a8;exact .inr rfl) rfl rfl rfl (yo v (xo 0 R λ_ v=>K0.ue hC rfl (ArenaP.mput _ x9 _) rfl (yo v (lp (a1 _ _ _ _ _ _ _ _ _) R))))))))))))))))))))))) (dr 11 6 R (kc W1q R λ_=>khl [4] [0,3,4] Q6 R λ_=>ln C0 R (lp (a4 _ _ _ _ _ _ _ _) R)))))
 (λ_ _ O a4 s m V Y x2 B T a3=>lu (ci R (ix R λD=>bn λ_ X=>bn λa9 b0=>xe 6 R λ_ v=>AEx.drawL hC 11 [7,10] [] [[X3 V 3 4,E1 gm m,.slots gm 3 (arI Y),R0 u,.tok 3 1,Y1 s,W1 x2,E1 gm B,W1 D],[X3 V 3 4,E1 gm m,.slots gm 3 (arI Y),R0 u,.tok 3 1,Y1 s,W1 x2,E1 gm B,W1 D],[X3 V 3 4,E1 gm m,.slots gm 3 (arI a9.2),R0 u,.tok 3 1,Y1 s,W1 x2,E1 gm B,W1 D]] [] R R R R R R R R R R (AS.q hC R R R R (AS.q hC R R R R (AS.q hC R R R R (AS.q hC R R R R (AS.q hC R R R R (AS.q hC R R R R (AS.q hC R R R R (AS.gl [4] [0,3,4] (Dj _ X) R R R R R R R R R R R R R (AS.q hC R R R R (AS.q hC R R R R (AS.g [2] (Wy _ b0) R R R R R R R R R R R R R (AS.nil (yo v (xo 0 R λ_ v=>K0.ue hC R (ArenaP.mput _ a9.1 _) R (yo v (lp (a4 _ _ _ _ _ _ _ _) R))))))))))))))))) (kh [0,7,2,3,4] (O _ _ _ _) R λI=>bn λ_ b5=>bn λ_ b3=>bn λ_ b6=>xe 4 R λ_ v=>AEx.drawL hC 15 [4,9] [] [[X3 I.1 3 4,E1 gm m,.slots gm 3 (arI I.2),R0 u,.tok 3 1,Y1 s,W1 x2,E1 gm B],[X3 I.1 3 4,E1 gm m,.slots gm 3 (arI I.2),R0 u,.tok 3 1,Y1 s,W1 x2,E1 gm B],[X3 I.1 3 4,E1 gm m,.slots gm 3 (arI I.2),R0 u,.tok 3 1,Y1 s,W1 x2,E1 gm B]] [] R R R R R R R R R R (AS.q hC R R R R (AS.q hC R R R R (AS.q hC R R R R (AS.q hC R R R R (AS.gl [4] [0,3,4] (Dj _ b5) R R R R R R R R R R R R R (AS.q hC R R R R (AS.q hC R R R R (AS.q hC R R R R (AS.q hC R R R R (AS.gl [4] [0,7,2,3,4] (Sk _ b3) R R R R R R R R R R R R R (AS.c (Up b6) R R R R (AS.q hC R R R R (AS.q hC R R R R (AS.q hC R R R R (AS.q hC R R R R (AS.nil (yo v (bn λ_ b2=>bn λ_ b4=>xe 4 R λ_ v=>AEx.drawL hC 17 [13] [] [[X3 I.1 3 4,E1 gm m,.slots gm 3 (arI I.2),R0 u,.tok 3 1,Y1 s,W1 x2,E1 gm B],[X3 I.1 3 4,E1 gm m,.slots gm 3 (arI I.2),R0 u,.tok 3 1,Y1 s,W1 x2,E1 gm B]] [] R R R R R R R R R R (AS.q hC R R R R (AS.q hC R R R R (AS.q hC R R R R (AS.q hC R R R R (AS.q hC R R R R (AS.q hC R R R R (AS.q hC R R R R (AS.q hC R R R R (AS.q hC R R R R (AS.q hC R R R R (AS.q hC R R R R (AS.q hC R R R R (AS.q hC R R R R (AS.gl [4] [0,1,2,3,4] (Ir _ b2) R R R R R R R R R R R R R (AS.c (X1q _ b4) R R R R (AS.q hC R R R R (AS.q hC R R R R (AS.nil (yo v (khl [4] [0,3,4] Q6 R λ_=>khl [4] [0,1,2,3,4] Sj R λ_=>lz)))))))))))))))))))))))))))))))))))))))))
variable {gm:Nat}
def Wx (s:List Int):Option (List Int):=some s
def B15 {s}:SP C 140 [X5 s] [] (Wx s) (λr=>Ret [.row [X5 r] 28] (.clo 216 [.ref 0 0])):=fi func140 R lz
def Rf (b:X0)(m:List (Str×Z0))(x2:List Int)(c:Int):Option X0:=if decide (c<(x2.length:Int))then idx x2 c>>=λd=>if decide (d>=b.M.i)then some (X0.mk b.decls b.L (J1.mk b.M.g d))else Rf b m x2 (i64.wrap (c+1))else some b partial_fixpoint
def F12 (b:X0)(m:List (Str×Z0))(x2:List Int):∀c,LP C f69 3 [1,4] [(0,.ref 0 0),(8,X5 x2),(9,dI (x2.length:Int)),(10,dI c)] [X3 b 1 2,R0 m,.rok 3 1] (Rf b m x2 c) (λr=>Ret [X3 r 1 2,R0 m,.rok 3 1] (.tup [])):=Rf.partial_correctness b m x2 _ (λ_ d c=>lu (ci R (ix R λ_=>ci R lz (lp (d _) R)) lz))
def Wp (c:List Int)(b:X0)(m:List (Str×Z0)):Option X0:=Wx c>>=λr=>Y1d r>>=λd=>Rf b m d 0
def Rt {c b m}:SP C 69 [.ref 0 0,X5 c] [X3 b 1 2,R0 m,.rok 3 1] (Wp c b m) (λr=>Ret [X3 r 1 2,R0 m,.rok 3 1] (.tup [])):=fi func69 R (kh [] B15 R λ_=>kh [3] ((λ_=>W1k)) R λ_=>ln Int R (lp (F12 _ _ _ _) R))
def Sr (p:I0)(c:C1)(d:O1)(ar:List (List Int)):Option (Int×List (List Int)):=Mf p>>=λx=>if x.2 !=0 then some (x.2,ar)else Su c>>=λv=>if v !=0 then some (v,ar)else Vp p c d ar>>=λu=>if u.1 !=0 then if u.1 !=0 then some (u.1,u.2)else none else Lj p c d ar>>=λb=>T3 p.Body b.2.2.1 b.2.2.2 b.1 b.2.1>>=λr=>if decide (r.1.M.i>67108864)then some (4,r.2)else (if decide ((p.Body.length:Int)>0)then idx p.Body (i64.wrap ((p.Body.length:Int)-1))else some default)>>=λz=>if bif (decide ((p.Body.length:Int)>0))then(z.S==8)else false then idx p.Body (i64.wrap ((p.Body.length:Int)-1))>>=λy=>Wp y.j r.1 b.2.1>>=λB=>some (0,r.2)else some (0,r.2)
def J19 {p c b ar}:SP C 39 [S2 p,G5 c,.agg (O1.cells b)] [.slots gm 3 (arI ar)] (Sr p c b ar) (λr=>Ret [.slots gm 3 (arI r.2)] (.tup [.junk,.junk,dI r.1])):=fi func39 R (kc Ot R λ_=>ci R lz (kc V12 R λ_=>ci R lz (khs (bad:=λ(x3:Int×List (List Int))=>(x3.1 !=0)) [0] I16 D12 R (λ_=>ci R lz nn) (λ_=>xo 1 R λ_ d=>K0.tokC 8 15 3 1 R R R R R (yo d (cf R (kh [8,9,0,7,10] (((Ts _).1 _ _ _ _)) R λ_=>ci R lz (ln E0 R (ig R λ_=>ci R (ix R λ_=>khl [10] [8,7,10] Rt R λ_=>lz) lz)))))))))
def Ml (p:I0)(c:C1)(d:O1)(ar:List (List Int)):Option (List (List Int)×List (Str×Z0)×X0×List (Str×Option Y0)):=Mf p>>=λz=>if z.2 !=0 then none else Su c>>=λu=>if u !=0 then none else Vp p c d ar>>=λB=>if B.1 !=0 then none else Lj p c d ar>>=λb=>T3 p.Body b.2.2.1 b.2.2.2 b.1 b.2.1>>=λr=>if decide (r.1.M.i>67108864)then none else (if decide ((p.Body.length:Int)>0)then idx p.Body (i64.wrap ((p.Body.length:Int)-1))else some default)>>=λy=>if bif (decide ((p.Body.length:Int)>0))then(y.S==8)else false then idx p.Body (i64.wrap ((p.Body.length:Int)-1))>>=λv=>Wp v.j r.1 b.2.1>>=λx=>some (r.2,b.2.1,x,b.2.2.2)else some (r.2,b.2.1,r.1,b.2.2.2)
def C13 {p c b ar}:SP C 39 [S2 p,G5 c,.agg (O1.cells b)] [.slots gm 3 (arI ar)] (Ml p c b ar) (λr=>Ret [.slots gm 3 (arI r.1),.dead,.dead,.dead,.dead,.dead,.dead,R0 r.2.1,X3 r.2.2.1 7 10,E1 gm r.2.2.2,.tok 3 1] (.tup [.ref 8 0,.mp 9,dI 0])):=fi func39 R (kc Ot R λ_=>ci R nn (kc V12 R λ_=>ci R nn (khs (bad:=λ(x3:Int×List (List Int))=>(x3.1 !=0)) [0] I16 D12 R (λ_=>nn) (λ_=>xo 1 R λ_ d=>K0.tokC 8 15 3 1 R R R R R (yo d (cf R (kh [8,9,0,7,10] (((Ts _).1 _ _ _ _)) R λ_=>ci R nn (ln E0 R (ig R λ_=>ci R (ix R λ_=>khl [10] [8,7,10] Rt R λ_=>lz) lz)))))))))
def Vu (p:I0)(c:C1)(b:O1):Option (J1×Int):=Sr p c b []>>=λd=>if d.1 !=0 then if d.1 !=0 then some ((J1.mk [] 0),d.1)else none else Ml p c b []>>=λr=>some (r.2.2.1.M,0)
def T1b {p c b}:SP C 14 [S2 p,G5 c,.agg (O1.cells b)] [] (Vu p c b) (λr=>Ret [] (.tup [.agg (J1.cells r.1),dI r.2])):=fi func14 R (xo 14 R λ_ d=>K0.arn 1 3 R R λgm=>(yo d (khs (bad:=λ(x1:Int×List (List Int))=>(x1.1 !=0)) [4] J19 C13 R (λ_=>ci R lz nn) (λ_=>cf R lz))))
def Nj (p:I0)(x2:List (List Int)×List (Str×Z0)×X0×List (Str×Option Y0))(b:List Int)(c:Int):Option (List Int×Int):=if decide (c<(p.Decls.length:Int))then idx p.Decls c>>=λv=>some (mgt v.Name x2.2.2.2)>>=λr=>if r.isSome=true then (r.getD ArenaP.zero)>>=λd=>(R1k x2.1 d.t.1 0 d.t.2)>>=λu=>if decide ((b.length+d.t.2)*9<=140737488355328)then Nj p x2 (b++u) (i64.wrap (c+1))else none else Nj p x2 b (i64.wrap (c+1))else some (b,0) partial_fixpoint
def L1e (p:I0)(x2:List (List Int)×List (Str×Z0)×X0×List (Str×Option Y0)):∀b c,LP C f19 0 [1,1,1,1,0,1,4] [(9,.mp 12),(11,.osl 14 (ei64.rows b)),(28,V0 p.Decls),(29,dI (p.Decls.length:Int)),(30,dI c)] [.dead,.dead,.dead,.slots gm 3 (arI x2.1),.dead,.dead,.dead,.dead,.dead,.dead,.dead,.dead,E1 gm x2.2.2.2,.dead,.tok 3 1] (Nj p x2 b c) O2b:=Nj.partial_correctness p x2 _ (λ_ r b c=>lu (ci R (ix R λ_=>bn λ_ x=>xo 11 R λ_ d=>K0.mw hC R (ArenaP.lkwT x) (yo d (ci R (bn λ_ v=>xo 3 R λ_ d=>K0.nk hC R (Y0.opt_some v) (yo d (bn λy u=>aa λz=>xo 2 R λ_ d=>K0.asx 3 hC (rs:=ei64.rows (b++y)) R u (ei64.len b) (ei64.sz b) (ei64.app _ _) z (yo d (lp (r _ _) R))))) (lp (r _ _) R)))) lz))
def Dz (p:I0)(c:C1)(b:O1):Option (List Int×Int):=Sr p c b []>>=λd=>if d.1 !=0 then if d.1 !=0 then some ([],d.1)else none else Ml p c b []>>=λr=>Nj p r [] 0
def J1l {p c b}:SP C 19 [S2 p,G5 c,.agg (O1.cells b)] [] (Dz p c b) O2b:=fi func19 R (xo 14 R λ_ d=>K0.arn 1 3 R R λgm=>(yo d (khs (bad:=λ(x1:Int×List (List Int))=>(x1.1 !=0)) [3] J19 C13 R (λ_=>ci R lz nn) (λ_=>cf R (xo 5 R λ_ d=>K0.tokE 11 3 1 R (yo d (ln C0 R (lp (L1e _ _ _ _) R))))))))
def Sf (i:Int)(t:A0)(b:X0):Option A0:=slc b.decls 0 i>>=λd=>Yi d t>>=λc=>some c.1
def G12 {i t u}:SP C 43 [.ref 0 0,dI i,W0 t] [.row [V0 u.decls,dI u.L.Q,dI u.L.e,dI u.L.U,dI u.L.d,dI u.L.Z,dI u.L.Y,dI u.L.W,dI u.L.a,dI u.L.f,dI u.L.J,dI u.L.b,dI u.L.c,dI u.L.G,.d (.nilv .map),X5 u.M.g,dI u.M.i] 88] (Sf i t u) (λr=>Ret [.row [V0 u.decls,dI u.L.Q,dI u.L.e,dI u.L.U,dI u.L.d,dI u.L.Z,dI u.L.Y,dI u.L.W,dI u.L.a,dI u.L.f,dI u.L.J,dI u.L.b,dI u.L.c,dI u.L.G,.d (.nilv .map),X5 u.M.g,dI u.M.i] 88] (W0 r)):=fi func43 R (bn λ_ v=>bn λy x=>xe 7 R λ_ z=>AEx.drawL hC 13 [12] [(11,3)] [[.row [V0 u.decls,dI u.L.Q,dI u.L.e,dI u.L.U,dI u.L.d,dI u.L.Z,dI u.L.Y,dI u.L.W,dI u.L.a,dI u.L.f,dI u.L.J,dI u.L.b,dI u.L.c,dI u.L.G,.d (.nilv .map),X5 u.M.g,dI u.M.i] 88,G1 t,.row [dI 0,dI 0,dI 0,dI 0,.d (.str []),.full (estr.rows []),.full (A0.rows [])] 51,.row [dI 0,dI 0,dI 0,dI 0,.d (.str []),.full (estr.rows []),.full (A0.rows [])] 51],[.row [V0 u.decls,dI u.L.Q,dI u.L.e,dI u.L.U,dI u.L.d,dI u.L.Z,dI u.L.Y,dI u.L.W,dI u.L.a,dI u.L.f,dI u.L.J,dI u.L.b,dI u.L.c,dI u.L.G,.d (.nilv .map),X5 u.M.g,dI u.M.i] 88,G1 t,.row [dI 0,dI 0,dI 0,dI 0,.d (.str []),.full (estr.rows []),.full (A0.rows [])] 51,G1 y.1]] [] R R R R R R R R R R (AS.q hC R R R R (AS.q hC R R R R (AS.q hC R R R R (AS.q hC R R R R (AS.q hC R R R R (AS.a R (λH=>AQ.dx hC R (C0.part v) (C0.sz _) (AQ.nil R)) R R (AS.q hC R R R R (AS.c (Ns _ x) R R R R (AS.q hC R R R R (AS.q hC R R R R (AS.q hC R R R R (AS.n hC R R R R (AS.s hC R R R R R R R (AS.nil (yo z lz))))))))))))))))
def Tf (n:Int)(d:List T0×Int)(b:Int):Option (Int×Int):=if decide (b<(d.1.length:Int))then idx d.1 b>>=λc=>if decide ((i64.wrap ((i64.wrap (c.H-c.Low))+1))≠0)then if decide (n>(i64.wrap (Int.tdiv 1099511627776 (i64.wrap ((i64.wrap (c.H-c.Low))+1)))))then some (0,4)else Tf (i64.wrap (n*(i64.wrap ((i64.wrap (c.H-c.Low))+1)))) d (i64.wrap (b+1))else none else some (n,0) partial_fixpoint
def M1e (c:List T0×Int):∀n b,LP C f42 0 [1,1,1,1,0,1,4] [(6,dI n),(18,Z7 c.1),(19,dI (c.1.length:Int)),(20,dI b)] [] (Tf n c b) Ue:=Tf.partial_correctness c _ (λ_ d n b=>lu (ci R (ix R λ_=>aa λr=>xo 22 R λ_ u=>K0.q hC R r (yo u (ci R lz (lp (d _ _) R)))) lz))
def Ez (t:A0):Option (Int×Int):=Db t>>=λb=>if b.2 !=0 then some (0,b.2)else Tf 1 b 0
def K1l {t}:SP C 42 [W0 t] [] (Ez t) Ue:=fi func42 R (kc Uh R λ_=>ci R lz (ln T0 R (lp (M1e _ _ _) R)))
def Cc (p:I0)(c:List (Int×Int))(b:Int):Option (Int×Int×Int×Int):=if decide (b<(p.Decls.length:Int))then idx p.Decls b>>=λd=>some (L6 d.K c)>>=λr=>if r.isSome=true then Sf b d.N (X0.mk p.Decls (C1.mk 0 0 0 0 0 0 0 0 0 0 0 0 0) (J1.mk [] 0))>>=λx=>Ez x>>=λz=>Cc p (Oh d.K (i64.wrap ((r.getD ei64.zero)*z.1)) c) (i64.wrap (b+1))else Cc p c (i64.wrap (b+1))else some (L6 1 c)>>=λy=>some (L6 2 c)>>=λu=>some (L6 3 c)>>=λv=>some ((y.getD ei64.zero),(u.getD ei64.zero),(v.getD ei64.zero),0) partial_fixpoint
def N1e (p:I0):∀x c,LP C f17 0 [1,1,1,1,0,1,4] [(8,.ref 1 0),(9,.mp 2),(31,V0 p.Decls),(32,dI (p.Decls.length:Int)),(33,dI c)] [.dead,.row [V0 p.Decls,dI 0,dI 0,dI 0,dI 0,dI 0,dI 0,dI 0,dI 0,dI 0,dI 0,dI 0,dI 0,dI 0,.d (.nilv .map),X5 [],dI 0] 88,.map (.i .i64 (ei64.entsI x))] (Cc p x c) (λr=>Ret [] (.tup [dI r.1,dI r.2.1,dI r.2.2.1,dI r.2.2.2])):=Cc.partial_correctness p _ (λ_ u x c=>lu (ci R (ix R λ_=>bn λI y=>xo 12 R λ_ b=>K0.mi hC R (ei64.lkIT y) (yo b (ci R (kh [1] G12 R λ_=>kc K1l R λD=>xo 15 R λ_ b=>K0.ui hC R (ei64.mputI _ (i64.wrap ((I.getD ei64.zero)*D.1)) _) R (yo b (lp (u _ _) R))) (lp (u _ _) R)))) (bn λ_ z=>xq 8 R λ_ b=>AQ.mi hC R (ei64.lkI z) (yq b R (bn λ_ v=>xq 1 R λ_ b=>AQ.mi hC R (ei64.lkI v) (yq b R (bn λ_ B=>xq 1 R λ_ b=>AQ.mi hC R (ei64.lkI B) (yq b R lz))))))))
def Tt (p:I0):Option (Int×Int×Int×Int):=Mf p>>=λb=>if b.2 !=0 then some (0,0,0,b.2)else Cc p (Oh 3 1 (Oh 2 1 (Oh 1 1 []))) 0
def L16 {p}:SP C 17 [S2 p] [] (Tt p) (λr=>Ret [] (.tup [dI r.1,dI r.2.1,dI r.2.2.1,dI r.2.2.2])):=fi func17 R (kc Ot R λ_=>ci R lz (xo 13 R λ_ b=>K0.wi .i64 R (yo b (xo 0 R λ_ b=>K0.ui hC R (ei64.mputI _ 1 []) R (yo b (xo 0 R λ_ b=>K0.ui hC R (ei64.mputI _ 1 _) R (yo b (xo 0 R λ_ b=>K0.ui hC R (ei64.mputI _ 1 _) R (yo b (ln C0 R (lp (N1e _ _ _) R)))))))))))
def Tr:Option Bool:=Jw>>=λu=>Kw>>=λv=>Vu u v (O1.mk [4] [] [])>>=λc=>Vu u v (O1.mk [0] [] [])>>=λb=>Dz u v (O1.mk [4] [] [])>>=λr=>Tt u>>=λd=>(if (i64.wrap ((i64.wrap ((i64.wrap (c.2+b.2))+r.2))+d.2.2.2))==0 then Nf c.1.g [4]else some default)>>=λx=>(if bif (bif (bif (bif ((i64.wrap ((i64.wrap ((i64.wrap (c.2+b.2))+r.2))+d.2.2.2))==0)then x else false)then(c.1.i==8)else false)then((b.1.g.length:Int)==0)else false)then(b.1.i==12)else false then Nf r.1 [4,3]else some default)>>=λy=>some (bif (bif (bif (bif (bif (bif ((i64.wrap ((i64.wrap ((i64.wrap (c.2+b.2))+r.2))+d.2.2.2))==0)then x else false)then(c.1.i==8)else false)then((b.1.g.length:Int)==0)else false)then(b.1.i==12)else false)then y else false)then(d.1==10)else false)
def V1n:SP C 11 [] [] Tr rtB:=fi func11 R (kc I1i R λ_=>kc J1i R λ_=>kc T1b R λ_=>kc T1b R λ_=>kc J1l R λ_=>kc L16 R λ_=>xg 25 R λ_ b=>AG.bx hC R R (ei64.rows_map [4]).symm (λ_=>trivial) (yg b R (kg Wm R λ_=>ln Int R (xg 10 R λ_ b=>AG.bx hC R R (ei64.rows_map [4,3]).symm (λ_=>trivial) (yg b R (kg Wm R λ_=>lz))))))
mutual
def Nl (t:A0)(n:Int):Option Int:=if decide ((t.O.length:Int)>(i64.wrap (n-1)))then some (-1)else Qg t (i64.wrap (n-1)) 0 partial_fixpoint
def Qg (t:A0)(b i:Int):Option Int:=if bif (decide (i<(t.Of.length:Int)))then(decide (b>=0))else false then idx t.Of i>>=λd=>Nl d b>>=λc=>Qg t c (i64.wrap (i+1))else some b partial_fixpoint
end
def O1e:(∀t n,SP C 65 [W0 t,dI n] [] (Nl t n) rtI)/\(∀t d i,LP C f65 0 [1,1,1,0,1,4] [(1,dI d),(2,.ref 0 0),(5,dI i)] [G1 t] (Qg t d i) rtI):=Nl.mutual_partial_correctness _ _ (λ_ b t n=>fi func65 R (ln Str R (ci R lz (lp (b _ _ _) R)))) (λ_ _ c b t d i=>lu (ln A0 R (ci R (ix R λ_=>kc (c _ _) R λ_=>lp (b _ _ _) R) lz)))
mutual
def Lb (e:D0)(n:Int):Option Int:=Rg e (i64.wrap (n-1)) 0 partial_fixpoint
def Rg (e:D0)(b i:Int):Option Int:=if bif (decide (i<(e.V.length:Int)))then(decide (b>=0))else false then idx e.V i>>=λd=>Lb d b>>=λc=>Rg e c (i64.wrap (i+1))else some b partial_fixpoint
end
def Do:(∀e n,SP C 64 [A2 e,dI n] [] (Lb e n) rtI)/\(∀e d i,LP C f64 0 [1,1,0,1,4] [(1,dI d),(2,.ref 0 0),(5,dI i)] [N3 e] (Rg e d i) rtI):=Lb.mutual_partial_correctness _ _ (λ_ b e n=>fi func64 R (lp (b _ _ _) R)) (λ_ _ c b e d i=>lu (ln D0 R (ci R (ix R λ_=>kc (c _ _) R λ_=>lp (b _ _ _) R) lz)))
mutual
def K7 (l:List E0)(n:Int):Option Int:=Oa l n 0 partial_fixpoint
def Oa (l:List E0)(c i:Int):Option Int:=if bif (decide (i<(l.length:Int)))then(decide (c>=0))else false then idx l i>>=λb=>Lb b.I (i64.wrap (c-1))>>=λr=>Lb b.Value r>>=λd=>if decide ((b.j.length:Int)>d)then some (-1)else Yd l b d i 0 else some c partial_fixpoint
def Yd (l:List E0)(b:E0)(c d k:Int):Option Int:=if bif (decide (k<(b.B.length:Int)))then(decide (c>=0))else false then idx b.B k>>=λr=>Lb r c>>=λv=>Yd l b v d (i64.wrap (k+1))else K7 b.Then c>>=λu=>K7 b.Else u>>=λx=>Oa l x (i64.wrap (d+1)) partial_fixpoint
end
def F10:(∀l n,SP C 36 [X1 l,dI n] [] (K7 l n) rtI)/\(∀l u i,LP C f36 0 [1,0,1,4] [(0,X1 l),(1,dI u),(5,dI i)] [] (Oa l u i) rtI)/\(∀l x v r k,LP C f36 0 [1,0,1,4,5,1,0,4,1,1,1,0,1,4] [(0,X1 l),(1,dI v),(5,dI r),(6,.ref 0 0),(7,dI k)] [Y1 x] (Yd l x v r k) rtI):=K7.mutual_partial_correctness _ _ _ (λ_ c l n=>fi func36 R (lp (c _ _ _) R)) (λ_ b l u i=>lu (ln E0 R (ci R (ix R λ_=>kc (Do.1 _ _) R λ_=>kc (Do.1 _ _) R λ_=>ln Int R (ci R lz (lp (b _ _ _ _ _) R))) lz))) (λ_ _ _ d c b l x v r k=>lu (ln D0 R (ci R (ix R λ_=>kc (Do.1 _ _) R λ_=>lp (b _ _ _ _ _) R) (kc (d _ _) R λ_=>kc (d _ _) R λ_=>lp (c _ _ _) R))))
mutual
def Dc (l:List C0)(n:Int):Option Int:=Zd l n 0 partial_fixpoint
def Zd (l:List C0)(c i:Int):Option Int:=if bif (decide (i<(l.length:Int)))then(decide (c>=0))else false then idx l i>>=λb=>Nl b.N (i64.wrap (c-1))>>=λd=>Lb b.Value d>>=λx=>Dc b.P x>>=λr=>Dc b.Vars r>>=λv=>K7 b.Body v>>=λu=>Zd l u (i64.wrap (i+1))else some c partial_fixpoint
end
def D1c:(∀l n,SP C 37 [V0 l,dI n] [] (Dc l n) rtI)/\(∀l d i,LP C f37 0 [1,0,1,4] [(0,V0 l),(1,dI d),(5,dI i)] [] (Zd l d i) rtI):=Dc.mutual_partial_correctness _ _ (λ_ b l n=>fi func37 R (lp (b _ _ _) R)) (λ_ _ c b l d i=>lu (ln C0 R (ci R (ix R λ_=>kc (O1e.1 _ _) R λ_=>kc (Do.1 _ _) R λ_=>kc (c _ _) R λ_=>kc (c _ _) R λ_=>kc (F10.1 _ _) R λ_=>lp (b _ _ _) R) lz)))
def Wu (k:Int):Option Bool:=some (bif (decide (k>=0))then(decide (k<=6))else false)
def D13 {k}:SP C 172 [dI k] [] (Wu k) rtB:=fi func172 R lz
mutual
def Ec (a b:A0):Option Bool:=if bif (bif (bif (bif (bif (bif (a.K !=b.K)then true else(a.Low !=b.Low))then true else(a.H !=b.H))then true else(a.E !=b.E))then true else(!(a.Name==b.Name)))then true else((a.O.length:Int)!=(b.O.length:Int)))then true else((a.Of.length:Int)!=(b.Of.length:Int))then some false else Ae a b 0 partial_fixpoint
def Ae (a b:A0)(i:Int):Option Bool:=if decide (i<(a.O.length:Int))then idx a.O i>>=λd=>idx b.O i>>=λc=>if !(d==c)then some false else Ae a b (i64.wrap (i+1))else Pa a b 0 partial_fixpoint
def Pa (a b:A0)(c:Int):Option Bool:=if decide (c<(a.Of.length:Int))then idx a.Of c>>=λu=>idx b.Of c>>=λr=>Ec u r>>=λd=>if !d then some false else Pa a b (i64.wrap (c+1))else some true partial_fixpoint
end
def G10:(∀a b,SP C 260 [W0 a,W0 b] [] (Ec a b) rtB)/\(∀a b i,LP C f260 0 [1,1,0,1,4] [(2,.ref 0 0),(3,.ref 1 0),(5,dI i)] [G1 a,G1 b] (Ae a b i) rtB)/\(∀a b r,LP C f260 0 [1,1,1,0,1,4] [(2,.ref 0 0),(3,.ref 1 0),(6,dI r)] [G1 a,G1 b] (Pa a b r) rtB):=Ec.mutual_partial_correctness _ _ _ (λ_ d a b=>fi func260 R (ln Str R (ln Str R (ln A0 R (ln A0 R (ci R lz (lp (d _ _ _) R))))))) (λ_ _ d c a b i=>lu (ln Str R (ci R (ix R λ_=>ix R λ_=>ci R lz (lp (d _ _ _) R)) (lp (c _ _ _) R)))) (λ_ _ u c a b r=>lu (ln A0 R (ci R (ix R λ_=>ix R λ_=>kc (u _ _) R λ_=>ci R lz (lp (c _ _ _) R)) lz)))
def Xu (t:A0):Option Bool:=Ec t (A0.mk 0 0 0 0 [] [] [])>>=λb=>some b
def K1g {t}:SP C 249 [W0 t] [] (Xu t) rtB:=fi func249 R (kc (G10.1 _ _) R λ_=>lz)
mutual
def Uf (t:A0):Option Int:=Ce t 1 0 partial_fixpoint
def Ce (t:A0)(n i:Int):Option Int:=if decide (i<(t.Of.length:Int))then idx t.Of i>>=λc=>Uf c>>=λb=>Ce t (i64.wrap (n+b)) (i64.wrap (i+1))else some n partial_fixpoint
end
def E1c:(∀t,SP C 250 [W0 t] [] (Uf t) rtI)/\(∀t n i,LP C f250 0 [1,1,0,1,4] [(1,.ref 0 0),(3,dI n),(4,dI i)] [G1 t] (Ce t n i) rtI):=Uf.mutual_partial_correctness _ _ (λ_ b t=>fi func250 R (lp (b _ _ _) R)) (λ_ _ c b t n i=>lu (ln A0 R (ci R (ix R λ_=>kc (c _) R λ_=>lp (b _ _ _) R) lz)))
mutual
def Wf (t:A0):Option Int:=Qa t 0 0 partial_fixpoint
def Qa (t:A0)(d i:Int):Option Int:=if decide (i<(t.Of.length:Int))then idx t.Of i>>=λc=>Wf c>>=λb=>if decide (b>d)then Qa t b (i64.wrap (i+1))else Qa t d (i64.wrap (i+1))else some (i64.wrap (d+1)) partial_fixpoint
end
def F1c:(∀t,SP C 252 [W0 t] [] (Wf t) rtI)/\(∀t d i,LP C f252 0 [1,1,0,1,4] [(1,.ref 0 0),(3,dI d),(4,dI i)] [G1 t] (Qa t d i) rtI):=Wf.mutual_partial_correctness _ _ (λ_ b t=>fi func252 R (lp (b _ _ _) R)) (λ_ _ c b t d i=>lu (ln A0 R (ci R (ix R λ_=>kc (c _) R λ_=>ci R (lp (b _ _ _) R) (lp (b _ _ _) R)) lz)))
def E9 (s:U0)(d:Int):Option U0:=if decide (d>s.depth)then some (U0.mk s.nodes d)else some s
def Wq {s d}:SP C 251 [Ng s,dI d] [] (E9 s d) H7:=fi func251 R (ci R lz lz)
def Tj (s:U0)(t:A0)(b:Bool):Option U0:=(if !b then Xu t else some default)>>=λd=>if bif (!b)then d else false then some s else Uf t>>=λc=>Wf t>>=λu=>E9 (U0.mk (i64.wrap (s.nodes+c)) s.depth) u>>=λr=>some r
def C15 {s t b}:SP C 161 [Ng s,W0 t,dB b] [] (Tj s t b) H7:=fi func161 R (kg K1g R λ_=>ci R lz (kc (E1c.1 _) R λ_=>kc (F1c.1 _) R λ_=>kc Wq R λ_=>lz))
def Eo (k:Int):Option Bool:=some (bif (k==5)then true else(k==6))
def Ut {k}:SP C 173 [dI k] [] (Eo k) rtB:=fi func173 R lz
mutual
def Xf (a b:D0):Option Bool:=if bif (bif (bif (a.Op !=b.Op)then true else(a.NV !=b.NV))then true else(!(a.Name==b.Name)))then true else((a.V.length:Int)!=(b.V.length:Int))then some false else De a b 0 partial_fixpoint
def De (a b:D0)(i:Int):Option Bool:=if decide (i<(a.V.length:Int))then idx a.V i>>=λd=>idx b.V i>>=λc=>Xf d c>>=λr=>if !r then some false else De a b (i64.wrap (i+1))else some true partial_fixpoint
end
def G1c:(∀a b,SP C 256 [A2 a,A2 b] [] (Xf a b) rtB)/\(∀a b i,LP C f256 0 [1,1,0,1,4] [(2,.ref 0 0),(3,.ref 1 0),(5,dI i)] [N3 a,N3 b] (De a b i) rtB):=Xf.mutual_partial_correctness _ _ (λ_ c a b=>fi func256 R (ln D0 R (ln D0 R (ci R lz (lp (c _ _ _) R))))) (λ_ _ d c a b i=>lu (ln D0 R (ci R (ix R λ_=>ix R λ_=>kc (d _ _) R λ_=>ci R lz (lp (c _ _ _) R)) lz)))
def Wh (e:D0):Option Bool:=Xf e (D0.mk 0 0 [] [])>>=λb=>some b
def Hp {e}:SP C 175 [A2 e] [] (Wh e) rtB:=fi func175 R (kc (G1c.1 _ _) R λ_=>lz)
mutual
def Yf (e:D0):Option Int:=Ee e 1 0 partial_fixpoint
def Ee (e:D0)(n i:Int):Option Int:=if decide (i<(e.V.length:Int))then idx e.V i>>=λc=>Yf c>>=λb=>Ee e (i64.wrap (n+b)) (i64.wrap (i+1))else some n partial_fixpoint
end
def H1c:(∀e,SP C 314 [A2 e] [] (Yf e) rtI)/\(∀e n i,LP C f314 0 [1,1,0,1,4] [(1,.ref 0 0),(3,dI n),(4,dI i)] [N3 e] (Ee e n i) rtI):=Yf.mutual_partial_correctness _ _ (λ_ b e=>fi func314 R (lp (b _ _ _) R)) (λ_ _ c b e n i=>lu (ln D0 R (ci R (ix R λ_=>kc (c _) R λ_=>lp (b _ _ _) R) lz)))
mutual
def Zf (e:D0):Option Int:=Ra e 0 0 partial_fixpoint
def Ra (e:D0)(d i:Int):Option Int:=if decide (i<(e.V.length:Int))then idx e.V i>>=λc=>Zf c>>=λb=>if decide (b>d)then Ra e b (i64.wrap (i+1))else Ra e d (i64.wrap (i+1))else some (i64.wrap (d+1)) partial_fixpoint
end
def I1c:(∀e,SP C 315 [A2 e] [] (Zf e) rtI)/\(∀e d i,LP C f315 0 [1,1,0,1,4] [(1,.ref 0 0),(3,dI d),(4,dI i)] [N3 e] (Ra e d i) rtI):=Zf.mutual_partial_correctness _ _ (λ_ b e=>fi func315 R (lp (b _ _ _) R)) (λ_ _ c b e d i=>lu (ln D0 R (ci R (ix R λ_=>kc (c _) R λ_=>ci R (lp (b _ _ _) R) (lp (b _ _ _) R)) lz)))
def Zg (s:U0)(e:D0)(b:Bool):Option U0:=(if !b then Wh e else some default)>>=λd=>if bif (!b)then d else false then some s else Yf e>>=λc=>Zf e>>=λu=>E9 (U0.mk (i64.wrap (s.nodes+c)) s.depth) u>>=λr=>some r
def Xq {s e b}:SP C 254 [Ng s,A2 e,dB b] [] (Zg s e b) H7:=fi func254 R (kg Hp R λ_=>ci R lz (kc (H1c.1 _) R λ_=>kc (I1c.1 _) R λ_=>kc Wq R λ_=>lz))
def Fo (v:Int):Option Bool:=some (bif (bif (v==0)then true else(v==1))then true else(v==2))
def Wt {v}:SP C 176 [dI v] [] (Fo v) rtB:=fi func176 R lz
def Ho (v:Int):Option Bool:=some (bif (bif (bif (v==0)then true else(v==3))then true else(v==5))then true else(v==6))
def Xt {v}:SP C 178 [dI v] [] (Ho v) rtB:=fi func178 R lz
mutual
def Fe (s:U0)(l:List E0)(d:Int):Option U0:=Sg l d s 0 partial_fixpoint
def Sg (l:List E0)(d:Int)(b:U0)(i:Int):Option U0:=if decide (i<(l.length:Int))then idx l i>>=λc=>E9 (U0.mk (i64.wrap (b.nodes+1)) b.depth) d>>=λr=>Fo c.S>>=λy=>Zg r c.I y>>=λu=>Ho c.S>>=λx=>Zg u c.Value x>>=λv=>Fk l d v c i 0 else some b partial_fixpoint
def Fk (l:List E0)(d:Int)(u:U0)(b:E0)(r k:Int):Option U0:=if decide (k<(b.B.length:Int))then idx b.B k>>=λy=>Zg u y true>>=λv=>Fk l d v b r (i64.wrap (k+1))else Fe u b.Then (i64.wrap (d+1))>>=λx=>Fe x b.Else (i64.wrap (d+1))>>=λc=>Sg l d c (i64.wrap (r+1)) partial_fixpoint
end
def H12:(∀s l d,SP C 170 [Ng s,X1 l,dI d] [] (Fe s l d) H7)/\(∀l d c i,LP C f170 0 [1,0,1,4] [(1,X1 l),(2,dI d),(3,.ref 0 0),(6,.ref 1 0),(7,dI i)] [Nv c,.row [dI 0,dI 0] 164] (Sg l d c i) H7)/\(∀l d x y v k,LP C f170 0 [1,0,1,4,5,1,0,4,1,1,1,1,1,0,1,4] [(1,X1 l),(2,dI d),(3,.ref 0 0),(6,.ref 1 0),(7,dI v),(8,.ref 2 0),(9,dI k)] [Nv x,.row [dI 0,dI 0] 164,Y1 y] (Fk l d x y v k) H7):=Fe.mutual_partial_correctness _ _ _ (λ_ r s l d=>fi func170 R (lp (r _ _ _ _) R)) (λ_ b l d c i=>lu (ln E0 R (ci R (ix R λ_=>kc Wq R λ_=>kc Wt R λ_=>kc Xq R λ_=>kc Xt R λ_=>kc Xq R λ_=>lp (b _ _ _ _ _ _) R) lz))) (λ_ _ _ u r b l d x y v k=>lu (ln D0 R (ci R (ix R λ_=>kc Xq R λ_=>lp (b _ _ _ _ _ _) R) (kc (u _ _ _) R λ_=>kc (u _ _ _) R λ_=>lp (r _ _ _ _) R))))
mutual
def Xh (s:U0)(l:List C0):Option U0:=Tg l s 0 partial_fixpoint
def Tg (l:List C0)(c:U0)(i:Int):Option U0:=if decide (i<(l.length:Int))then idx l i>>=λb=>Wu b.K>>=λd=>Tj (U0.mk (i64.wrap (c.nodes+1)) c.depth) b.N d>>=λz=>Eo b.K>>=λv=>Zg z b.Value v>>=λy=>Xh y b.P>>=λx=>Xh x b.Vars>>=λr=>Fe r b.Body 1>>=λu=>Tg l u (i64.wrap (i+1))else some c partial_fixpoint
end
def P1e:(∀s l,SP C 171 [Ng s,V0 l] [] (Xh s l) H7)/\(∀l d i,LP C f171 0 [1,0,1,4] [(1,V0 l),(2,.ref 0 0),(4,.ref 1 0),(5,dI i)] [Nv d,.row [dI 0,dI 0] 164] (Tg l d i) H7):=Xh.mutual_partial_correctness _ _ (λ_ b s l=>fi func171 R (lp (b _ _ _) R)) (λ_ _ c b l d i=>lu (ln C0 R (ci R (ix R λ_=>kc D13 R λ_=>kc C15 R λ_=>kc Ut R λ_=>kc Xq R λ_=>kc (c _ _) R λ_=>kc (c _ _) R λ_=>kc (H12.1 _ _ _) R λ_=>lp (b _ _ _) R) lz)))
def N11 (p:I0):Option U0:=Xh (U0.mk 0 0) p.Decls>>=λc=>Fe c p.Body 1>>=λb=>some b
def W1n {p}:SP C 95 [S2 p] [] (N11 p) H7:=fi func95 R (kc (P1e.1 _ _) R λ_=>kc (H12.1 _ _ _) R λ_=>lz)
mutual
def Ge (t:A0):Option Bool:=if bif (decide (t.K<0))then true else(decide (t.K>4))then some false else if bif (bif (bif (bif (t.K !=1)then(bif (t.Low !=0)then true else(t.H !=0))else false)then true else(bif (t.K !=2)then(t.E !=0)else false))then true else(bif (t.K !=4)then(!(t.Name==[]))else false))then true else(bif (t.K !=3)then((t.O.length:Int)!=0)else false)then some false else if bif (bif (bif (t.K==2)then((t.Of.length:Int)!=1)else false)then true else(bif (t.K==3)then(bif (decide ((t.Of.length:Int)<1))then true else((t.Of.length:Int)!=(t.O.length:Int)))else false))then true else(bif (bif (t.K !=2)then(t.K !=3)else false)then((t.Of.length:Int)!=0)else false)then some false else Ug t 0 partial_fixpoint
def Ug (t:A0)(i:Int):Option Bool:=if decide (i<(t.Of.length:Int))then idx t.Of i>>=λc=>Ge c>>=λb=>if !b then some false else Ug t (i64.wrap (i+1))else some true partial_fixpoint
end
def I12:(∀t,SP C 162 [W0 t] [] (Ge t) rtB)/\(∀t i,LP C f162 0 [1,1,1,1,0,1,4] [(1,.ref 0 0),(3,dI i)] [G1 t] (Ug t i) rtB):=Ge.mutual_partial_correctness _ _ (λ_ b t=>fi func162 R (ci R lz (ln Str R (ci R lz (ln A0 R (ln A0 R (ln A0 R (ln Str R (ln A0 R (ci R lz (lp (b _ _) R))))))))))) (λ_ _ c b t i=>lu (ln A0 R (ci R (ix R λ_=>kc (c _) R λ_=>ci R lz (lp (b _ _) R)) lz)))
def P13 (o:Int):Option Int:=if bif (bif (bif (o==0)then true else(o==1))then true else(o==2))then true else(o==3)then some 0 else if bif (bif (o==4)then true else(o==6))then true else(o==7)then some 1 else if bif (o==5)then true else(bif (decide (o>=8))then(decide (o<=22))else false)then some 2 else if o==23 then some 3 else some (-1)
def A1r {o}:SP C 255 [dI o] [] (P13 o) rtI:=fi func255 R (ci R lz (ci R lz (ci R lz (ci R lz lz))))
def Uj (e:D0):Option Bool:=if e.Op==3 then some true else (if bif (bif (e.Op==4)then true else(e.Op==5))then(decide ((e.V.length:Int)>0))else false then idx e.V 0 else some default)>>=λc=>(if bif (bif (e.Op==4)then true else(e.Op==5))then(decide ((e.V.length:Int)>0))else false then Uj c else some default)>>=λb=>some (bif (bif (bif (e.Op==4)then true else(e.Op==5))then(decide ((e.V.length:Int)>0))else false)then b else false) partial_fixpoint
def D15:∀e,SP C 177 [A2 e] [] (Uj e) rtB:=Uj.partial_correctness _ (λ_ b e=>fi func177 R (ci R lz (ln D0 R (ig R λ_=>kg (b _) R λ_=>lz))))
mutual
def X7 (e:D0):Option Bool:=P13 e.Op>>=λc=>if bif (bif (c !=(e.V.length:Int))then true else(bif (e.Op !=0)then(e.NV !=0)else false))then true else(bif (bif (e.Op !=3)then(e.Op !=4)else false)then(!(e.Name==[]))else false)then some false else (if bif (e.Op==4)then true else(e.Op==5)then Uj e else some default)>>=λb=>if bif (bif (e.Op==4)then true else(e.Op==5))then(!b)else false then some false else Wg e 0 partial_fixpoint
def Wg (e:D0)(i:Int):Option Bool:=if decide (i<(e.V.length:Int))then idx e.V i>>=λc=>X7 c>>=λb=>if !b then some false else Wg e (i64.wrap (i+1))else some true partial_fixpoint
end
def Io:(∀e,SP C 174 [A2 e] [] (X7 e) rtB)/\(∀e i,LP C f174 0 [1,1,1,0,1,4] [(1,.ref 0 0),(3,dI i)] [N3 e] (Wg e i) rtB):=X7.mutual_partial_correctness _ _ (λ_ b e=>fi func174 R (kc A1r R λ_=>ln D0 R (ci R lz (kg (D15 _) R λ_=>ci R lz (lp (b _ _) R))))) (λ_ _ c b e i=>lu (ln D0 R (ci R (ix R λ_=>kc (c _) R λ_=>ci R lz (lp (b _ _) R)) lz)))
def Yu (v:Int):Option Bool:=some (bif (bif (v==1)then true else(v==2))then true else(v==7))
def E13 {v}:SP C 93 [dI v] [] (Yu v) rtB:=fi func93 R lz
def U17 (v:Int):Option Bool:=some (bif (v==4)then true else(v==6))
def X1n {v}:SP C 179 [dI v] [] (U17 v) rtB:=fi func179 R lz
def Y10 (v:Int):Option Bool:=some (bif (bif (v==5)then true else(v==6))then true else(v==7))
def L1g {v}:SP C 180 [dI v] [] (Y10 v) rtB:=fi func180 R lz
mutual
def Fc (l:List E0):Option Bool:=He l 0 partial_fixpoint
def He (l:List E0)(i:Int):Option Bool:=if decide (i<(l.length:Int))then idx l i>>=λb=>if bif (decide (b.S<0))then true else(decide (b.S>8))then some false else Fo b.S>>=λc=>(if c=true then Uj b.I else some default)>>=λu=>(if c&&(!(!u))then X7 b.I else some default)>>=λy=>(if !(bif c then(bif (!u)then true else(!y))else false)then Fo b.S else some default)>>=λO=>(if (!(bif c then(bif (!u)then true else(!y))else false))&&(!O)then Wh b.I else some default)>>=λT=>if bif (bif c then(bif (!u)then true else(!y))else false)then true else(bif (!O)then(!T)else false)then some false else Ho b.S>>=λr=>(if r=true then X7 b.Value else some default)>>=λv=>(if !(bif r then(!v)else false)then Ho b.S else some default)>>=λJ=>(if (!(bif r then(!v)else false))&&(!J)then Wh b.Value else some default)>>=λD=>if bif (bif r then(!v)else false)then true else(bif (!J)then(!D)else false)then some false else Yu b.S>>=λd=>(if !(bif (bif (!d)then(!(b.Name==[]))else false)then true else(bif (b.S !=1)then((b.B.length:Int)!=0)else false))then U17 b.S else some default)>>=λx=>if bif (bif (bif (bif (bif (!d)then(!(b.Name==[]))else false)then true else(bif (b.S !=1)then((b.B.length:Int)!=0)else false))then true else(bif (!x)then(b.NV !=0)else false))then true else(bif (b.S !=7)then(bif (b.Low !=0)then true else(b.H !=0))else false))then true else(bif (b.S !=8)then((b.j.length:Int)!=0)else false)then some false else Y10 b.S>>=λz=>if bif (bif (!z)then((b.Then.length:Int)!=0)else false)then true else(bif (b.S !=5)then((b.Else.length:Int)!=0)else false)then some false else Ej l b i 0 else some true partial_fixpoint
def Ej (l:List E0)(c:E0)(v k:Int):Option Bool:=if decide (k<(c.B.length:Int))then idx c.B k>>=λd=>X7 d>>=λu=>if !u then some false else Ej l c v (i64.wrap (k+1))else Fc c.Then>>=λb=>(if !(!b)then Fc c.Else else some default)>>=λr=>if bif (!b)then true else(!r)then some false else He l (i64.wrap (v+1)) partial_fixpoint
end
def H10:(∀l,SP C 97 [X1 l] [] (Fc l) rtB)/\(∀l i,LP C f97 0 [1,0,1,4] [(0,X1 l),(3,dI i)] [] (He l i) rtB)/\(∀l u r k,LP C f97 0 [1,0,1,4,5,1,0,4,1,1,1,1,1,1,0,1,4] [(0,X1 l),(3,dI r),(4,.ref 0 0),(5,dI k)] [Y1 u] (Ej l u r k) rtB):=Fc.mutual_partial_correctness _ _ _ (λ_ c l=>fi func97 R (lp (c _ _) R)) (λ_ b l i=>lu (ln E0 R (ci R (ix R λ_=>ci R lz (kc Wt R λ_=>kg (D15 _) R λ_=>kg (Io.1 _) R λ_=>kg Wt R λ_=>kg Hp R λ_=>ci R lz (kc Xt R λ_=>kg (Io.1 _) R λ_=>kg Xt R λ_=>kg Hp R λ_=>ci R lz (kc E13 R λ_=>ln D0 R (kg X1n R λ_=>ln Int R (ci R lz (kc L1g R λ_=>ln E0 R (ln E0 R (ci R lz (lp (b _ _ _ _) R)))))))))) lz))) (λ_ _ _ d c b l u r k=>lu (ln D0 R (ci R (ix R λ_=>kc (Io.1 _) R λ_=>ci R lz (lp (b _ _ _ _) R)) (kc (d _) R λ_=>kg (d _) R λ_=>ci R lz (lp (c _ _) R)))))
mutual
def Ag (l:List C0):Option Bool:=Ie l 0 partial_fixpoint
def Ie (l:List C0)(i:Int):Option Bool:=if decide (i<(l.length:Int))then idx l i>>=λb=>Wu b.K>>=λr=>(if !(!r)then Ge b.N else some default)>>=λx=>if bif (!r)then true else(!x)then some false else Eo b.K>>=λc=>(if c=true then X7 b.Value else some default)>>=λd=>(if !(bif c then(!d)else false)then Eo b.K else some default)>>=λu=>(if (!(bif c then(!d)else false))&&(!u)then Wh b.Value else some default)>>=λv=>if bif (bif (bif c then(!d)else false)then true else(bif (!u)then(!v)else false))then true else(bif (b.K !=4)then(b.h !=0)else false)then some false else if bif (b.K !=6)then(bif (bif ((b.P.length:Int)!=0)then true else((b.Vars.length:Int)!=0))then true else((b.Body.length:Int)!=0))else false then some false else H8 l b i 0 else some true partial_fixpoint
def H8 (l:List C0)(b:C0)(c k:Int):Option Bool:=if decide (k<(b.P.length:Int))then idx b.P k>>=λd=>(if !(d.K !=4)then idx b.P k else some default)>>=λr=>if bif (d.K !=4)then true else(r.h !=0)then some false else H8 l b c (i64.wrap (k+1))else I8 l b c 0 partial_fixpoint
def I8 (l:List C0)(c:C0)(x u:Int):Option Bool:=if decide (u<(c.Vars.length:Int))then idx c.Vars u>>=λv=>if v.K !=4 then some false else I8 l c x (i64.wrap (u+1))else Ag c.P>>=λb=>(if !(!b)then Ag c.Vars else some default)>>=λd=>(if !(bif (!b)then true else(!d))then Fc c.Body else some default)>>=λr=>if bif (bif (!b)then true else(!d))then true else(!r)then some false else Ie l (i64.wrap (x+1)) partial_fixpoint
end
def J1c:(∀l,SP C 96 [V0 l] [] (Ag l) rtB)/\(∀l i,LP C f96 0 [1,0,1,4] [(0,V0 l),(3,dI i)] [] (Ie l i) rtB)/\(∀l c x k,LP C f96 0 [1,0,1,4,5,1,0,4,1,1,1,1,0,1,4] [(0,V0 l),(3,dI x),(4,.ref 0 0),(5,dI k)] [W1 c] (H8 l c x k) rtB)/\(∀l c v y,LP C f96 0 [1,0,1,4,5,1,0,4,1,1,1,1,1,0,1,4] [(0,V0 l),(3,dI v),(4,.ref 0 0),(6,dI y)] [W1 c] (I8 l c v y) rtB):=Ag.mutual_partial_correctness _ _ _ _ (λ_ d l=>fi func96 R (lp (d _ _) R)) (λ_ b l i=>lu (ln C0 R (ci R (ix R λ_=>kc D13 R λ_=>kg (I12.1 _) R λ_=>ci R lz (kc Ut R λ_=>kg (Io.1 _) R λ_=>kg Ut R λ_=>kg Hp R λ_=>ci R lz (ln C0 R (ln C0 R (ln E0 R (ci R lz (lp (b _ _ _ _) R))))))) lz))) (λ_ _ b r l c x k=>lu (ln C0 R (ci R (ix R λ_=>ig R λ_=>ci R lz (lp (b _ _ _ _) R)) (lp (r _ _ _ _) R)))) (λ_ _ _ u d r l c v y=>lu (ln C0 R (ci R (ix R λ_=>ci R lz (lp (r _ _ _ _) R)) (kc (u _) R λ_=>kg (u _) R λ_=>kg (H10.1 _) R λ_=>ci R lz (lp (d _ _) R)))))
end Go.Proofs.YtnabbmegmkdehaaGreatDoor

