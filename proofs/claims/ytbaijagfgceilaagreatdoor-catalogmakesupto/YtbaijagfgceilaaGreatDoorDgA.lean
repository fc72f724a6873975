/- A part of the proof of CatalogMakes. -/
import Derived.Test.YtbaijagfgceilaaGreatDoorXxA
import Derived.Test.YtbaijagfgceilaaGreatDoorAmF
set_option maxRecDepth 100000
set_option maxHeartbeats 4000000
set_option synthInstance.maxSize 20000
set_option linter.unusedVariables false
namespace Go.Proofs.YtbaijagfgceilaaGreatDoor
open Go.Am
instance:Nonempty (F3 C):=⟨hC⟩
def estr.row (x:Str):Row:=[.str x]
def estr.rows (l:List Str):List Row:=l.map estr.row
theorem estr.rows_map (l:List Str):estr.rows l=l.map estr.row:=rfl
theorem estr.idx {l:List Str}{n:Int}{x:Str}(h:idx l n=some x):(estr.rows l)[n.toNat]?=some (estr.row x):=Wj estr.rows_map h
theorem estr.app (l m:List Str):estr.rows (l++m)=estr.rows l++estr.rows m:=Lo estr.rows_map l m
theorem estr.len (l:List Str):(estr.rows l).length=l.length:=Mo estr.rows_map l
theorem estr.lenA (l:List Str):A.d (.int .i64 ((estr.rows l).length:Nat))=A.d (.int .i64 (l.length:Nat)):=Nh estr.rows_map l
theorem estr.sz (l:List Str):∀ r∈estr.rows l,r.length=1:=Yr estr.rows_map (fun _=>rfl) l
def ei64.row (x:Int):Row:=[.int .i64 x]
def ei64.rows (l:List Int):List Row:=l.map ei64.row
theorem ei64.rows_map (l:List Int):ei64.rows l=l.map ei64.row:=rfl
theorem ei64.idx {l:List Int}{n:Int}{x:Int}(h:idx l n=some x):(ei64.rows l)[n.toNat]?=some (ei64.row x):=Wj ei64.rows_map h
theorem ei64.app (l m:List Int):ei64.rows (l++m)=ei64.rows l++ei64.rows m:=Lo ei64.rows_map l m
theorem ei64.len (l:List Int):(ei64.rows l).length=l.length:=Mo ei64.rows_map l
theorem ei64.lenA (l:List Int):A.d (.int .i64 ((ei64.rows l).length:Nat))=A.d (.int .i64 (l.length:Nat)):=Nh ei64.rows_map l
theorem ei64.sz (l:List Int):∀ r∈ei64.rows l,r.length=1:=Yr ei64.rows_map (fun _=>rfl) l
def eu8.row (x:Int):Row:=[.int .u8 x]
def eu8.rows (l:List Int):List Row:=l.map eu8.row
theorem eu8.rows_map (l:List Int):eu8.rows l=l.map eu8.row:=rfl
structure P0 where
 name:Str
 low:Int
 high:Int
 second:Option Nat
 text:Str
 known:Option Nat
def P0.zero:P0:=⟨[],0,0,none,[],none⟩
instance:Inhabited P0:=⟨P0.zero⟩
def P0.row (x:P0):Row:=[.str x.name,.int .i64 x.low,.int .i64 x.high,.fn x.second,.str x.text,.fn x.known]
def P0.rows (l:List P0):List Row:=l.map P0.row
theorem P0.rows_map (l:List P0):P0.rows l=l.map P0.row:=rfl
def P0.cells (x:P0):List A:=[.d (.str x.name),.d (.int .i64 x.low),.d (.int .i64 x.high),.d (.fn x.second),.d (.str x.text),.d (.fn x.known)]
theorem P0.idx {l:List P0}{n:Int}{x:P0}(h:idx l n=some x):(P0.rows l)[n.toNat]?=some (P0.row x):=Wj P0.rows_map h
theorem P0.lenA (l:List P0):A.d (.int .i64 ((P0.rows l).length:Nat))=A.d (.int .i64 (l.length:Nat)):=Nh P0.rows_map l
structure U1 where
 x0:Str
 x1:Str
def U1.zero:U1:=⟨[],[]⟩
instance:Inhabited U1:=⟨U1.zero⟩
def U1.row (x:U1):Row:=[.str x.x0,.str x.x1]
def U1.rows (l:List U1):List Row:=l.map U1.row
theorem U1.rows_map (l:List U1):U1.rows l=l.map U1.row:=rfl
theorem U1.idx {l:List U1}{n:Int}{x:U1}(h:idx l n=some x):(U1.rows l)[n.toNat]?=some (U1.row x):=Wj U1.rows_map h
theorem U1.lenA (l:List U1):A.d (.int .i64 ((U1.rows l).length:Nat))=A.d (.int .i64 (l.length:Nat)):=Nh U1.rows_map l
structure F0 where
 Kind:Int
 Low:Int
 High:Int
 Size:Int
 Name:Str
 Names:List Str
 Of:List F0
def F0.zero:F0:=⟨0,0,0,0,[],[],[]⟩
instance:Inhabited F0:=⟨F0.zero⟩
mutual
def F0.rowX:F0→Row
 | .mk y0 y1 y2 y3 y4 y5 y6=>[.int .i64 y0,.int .i64 y1,.int .i64 y2,.int .i64 y3,.str y4,.sl (estr.rows y5),.sl (F0.rowsX y6)]
def F0.rowsX:List F0→List Row
 | []=>[]
 | x::r=>F0.rowX x::F0.rowsX r
end
def F0.rows (l:List F0):List Row:=F0.rowsX l
def F0.row (x:F0):Row:=[.int .i64 x.Kind,.int .i64 x.Low,.int .i64 x.High,.int .i64 x.Size,.str x.Name,.sl (estr.rows x.Names),.sl (F0.rows x.Of)]
theorem F0.rows_map:∀ l,F0.rows l=l.map F0.row
 | []=>rfl
 | x::r=>by
  show F0.rowX x::F0.rows r=F0.row x::r.map F0.row
  rw [F0.rows_map r]
  cases x
  rfl
def F0.cells (x:F0):List A:=[.d (.int .i64 x.Kind),.d (.int .i64 x.Low),.d (.int .i64 x.High),.d (.int .i64 x.Size),.d (.str x.Name),.d (.sl (estr.rows x.Names)),.d (.sl (F0.rows x.Of))]
theorem F0.idx {l:List F0}{n:Int}{x:F0}(h:idx l n=some x):(F0.rows l)[n.toNat]?=some (F0.row x):=Wj F0.rows_map h
theorem F0.app (l m:List F0):F0.rows (l++m)=F0.rows l++F0.rows m:=Lo F0.rows_map l m
theorem F0.len (l:List F0):(F0.rows l).length=l.length:=Mo F0.rows_map l
theorem F0.lenA (l:List F0):A.d (.int .i64 ((F0.rows l).length:Nat))=A.d (.int .i64 (l.length:Nat)):=Nh F0.rows_map l
theorem F0.sz (l:List F0):∀ r∈F0.rows l,r.length=7:=Yr F0.rows_map (fun _=>rfl) l
structure A0 where
 Op:Int
 NV:Int
 Name:Str
 Kids:List A0
def A0.zero:A0:=⟨0,0,[],[]⟩
instance:Inhabited A0:=⟨A0.zero⟩
mutual
def A0.rowX:A0→Row
 | .mk y0 y1 y2 y3=>[.int .i64 y0,.int .i64 y1,.str y2,.sl (A0.rowsX y3)]
def A0.rowsX:List A0→List Row
 | []=>[]
 | x::r=>A0.rowX x::A0.rowsX r
end
def A0.rows (l:List A0):List Row:=A0.rowsX l
def A0.row (x:A0):Row:=[.int .i64 x.Op,.int .i64 x.NV,.str x.Name,.sl (A0.rows x.Kids)]
theorem A0.rows_map:∀ l,A0.rows l=l.map A0.row
 | []=>rfl
 | x::r=>by
  show A0.rowX x::A0.rows r=A0.row x::r.map A0.row
  rw [A0.rows_map r]
  cases x
  rfl
def A0.cells (x:A0):List A:=[.d (.int .i64 x.Op),.d (.int .i64 x.NV),.d (.str x.Name),.d (.sl (A0.rows x.Kids))]
theorem A0.idx {l:List A0}{n:Int}{x:A0}(h:idx l n=some x):(A0.rows l)[n.toNat]?=some (A0.row x):=Wj A0.rows_map h
theorem A0.app (l m:List A0):A0.rows (l++m)=A0.rows l++A0.rows m:=Lo A0.rows_map l m
theorem A0.len (l:List A0):(A0.rows l).length=l.length:=Mo A0.rows_map l
theorem A0.lenA (l:List A0):A.d (.int .i64 ((A0.rows l).length:Nat))=A.d (.int .i64 (l.length:Nat)):=Nh A0.rows_map l
theorem A0.sz (l:List A0):∀ r∈A0.rows l,r.length=4:=Yr A0.rows_map (fun _=>rfl) l
structure C0 where
 Verb:Int
 Place:A0
 Value:A0
 Name:Str
 Args:List A0
 NV:Int
 Low:Int
 High:Int
 Numbers:List Int
 Then:List C0
 Else:List C0
def C0.zero:C0:=⟨0,⟨0,0,[],[]⟩,⟨0,0,[],[]⟩,[],[],0,0,0,[],[],[]⟩
instance:Inhabited C0:=⟨C0.zero⟩
mutual
def C0.rowX:C0→Row
 | .mk y0 y1 y2 y3 y4 y5 y6 y7 y8 y9 y10=>[.int .i64 y0,.int .i64 y1.Op,.int .i64 y1.NV,.str y1.Name,.sl (A0.rows y1.Kids),.int .i64 y2.Op,.int .i64 y2.NV,.str y2.Name,.sl (A0.rows y2.Kids),.str y3,.sl (A0.rows y4),.int .i64 y5,.int .i64 y6,.int .i64 y7,.sl (ei64.rows y8),.sl (C0.rowsX y9),.sl (C0.rowsX y10)]
def C0.rowsX:List C0→List Row
 | []=>[]
 | x::r=>C0.rowX x::C0.rowsX r
end
def C0.rows (l:List C0):List Row:=C0.rowsX l
def C0.row (x:C0):Row:=[.int .i64 x.Verb,.int .i64 x.Place.Op,.int .i64 x.Place.NV,.str x.Place.Name,.sl (A0.rows x.Place.Kids),.int .i64 x.Value.Op,.int .i64 x.Value.NV,.str x.Value.Name,.sl (A0.rows x.Value.Kids),.str x.Name,.sl (A0.rows x.Args),.int .i64 x.NV,.int .i64 x.Low,.int .i64 x.High,.sl (ei64.rows x.Numbers),.sl (C0.rows x.Then),.sl (C0.rows x.Else)]
theorem C0.rows_map:∀ l,C0.rows l=l.map C0.row
 | []=>rfl
 | x::r=>by
  show C0.rowX x::C0.rows r=C0.row x::r.map C0.row
  rw [C0.rows_map r]
  cases x
  rfl
def C0.cells (x:C0):List A:=[.d (.int .i64 x.Verb),.d (.int .i64 x.Place.Op),.d (.int .i64 x.Place.NV),.d (.str x.Place.Name),.d (.sl (A0.rows x.Place.Kids)),.d (.int .i64 x.Value.Op),.d (.int .i64 x.Value.NV),.d (.str x.Value.Name),.d (.sl (A0.rows x.Value.Kids)),.d (.str x.Name),.d (.sl (A0.rows x.Args)),.d (.int .i64 x.NV),.d (.int .i64 x.Low),.d (.int .i64 x.High),.d (.sl (ei64.rows x.Numbers)),.d (.sl (C0.rows x.Then)),.d (.sl (C0.rows x.Else))]
theorem C0.idx {l:List C0}{n:Int}{x:C0}(h:idx l n=some x):(C0.rows l)[n.toNat]?=some (C0.row x):=Wj C0.rows_map h
theorem C0.app (l m:List C0):C0.rows (l++m)=C0.rows l++C0.rows m:=Lo C0.rows_map l m
theorem C0.len (l:List C0):(C0.rows l).length=l.length:=Mo C0.rows_map l
theorem C0.lenA (l:List C0):A.d (.int .i64 ((C0.rows l).length:Nat))=A.d (.int .i64 (l.length:Nat)):=Nh C0.rows_map l
theorem C0.sz (l:List C0):∀ r∈C0.rows l,r.length=17:=Yr C0.rows_map (fun _=>rfl) l
structure B0 where
 Kind:Int
 Name:Str
 TypeV:F0
 Init:Int
 Value:A0
 Params:List B0
 Vars:List B0
 Body:List C0
def B0.zero:B0:=⟨0,[],⟨0,0,0,0,[],[],[]⟩,0,⟨0,0,[],[]⟩,[],[],[]⟩
instance:Inhabited B0:=⟨B0.zero⟩
mutual
def B0.rowX:B0→Row
 | .mk y0 y1 y2 y3 y4 y5 y6 y7=>[.int .i64 y0,.str y1,.int .i64 y2.Kind,.int .i64 y2.Low,.int .i64 y2.High,.int .i64 y2.Size,.str y2.Name,.sl (estr.rows y2.Names),.sl (F0.rows y2.Of),.int .i64 y3,.int .i64 y4.Op,.int .i64 y4.NV,.str y4.Name,.sl (A0.rows y4.Kids),.sl (B0.rowsX y5),.sl (B0.rowsX y6),.sl (C0.rows y7)]
def B0.rowsX:List B0→List Row
 | []=>[]
 | x::r=>B0.rowX x::B0.rowsX r
end
def B0.rows (l:List B0):List Row:=B0.rowsX l
def B0.row (x:B0):Row:=[.int .i64 x.Kind,.str x.Name,.int .i64 x.TypeV.Kind,.int .i64 x.TypeV.Low,.int .i64 x.TypeV.High,.int .i64 x.TypeV.Size,.str x.TypeV.Name,.sl (estr.rows x.TypeV.Names),.sl (F0.rows x.TypeV.Of),.int .i64 x.Init,.int .i64 x.Value.Op,.int .i64 x.Value.NV,.str x.Value.Name,.sl (A0.rows x.Value.Kids),.sl (B0.rows x.Params),.sl (B0.rows x.Vars),.sl (C0.rows x.Body)]
theorem B0.rows_map:∀ l,B0.rows l=l.map B0.row
 | []=>rfl
 | x::r=>by
  show B0.rowX x::B0.rows r=B0.row x::r.map B0.row
  rw [B0.rows_map r]
  cases x
  rfl
def B0.cells (x:B0):List A:=[.d (.int .i64 x.Kind),.d (.str x.Name),.d (.int .i64 x.TypeV.Kind),.d (.int .i64 x.TypeV.Low),.d (.int .i64 x.TypeV.High),.d (.int .i64 x.TypeV.Size),.d (.str x.TypeV.Name),.d (.sl (estr.rows x.TypeV.Names)),.d (.sl (F0.rows x.TypeV.Of)),.d (.int .i64 x.Init),.d (.int .i64 x.Value.Op),.d (.int .i64 x.Value.NV),.d (.str x.Value.Name),.d (.sl (A0.rows x.Value.Kids)),.d (.sl (B0.rows x.Params)),.d (.sl (B0.rows x.Vars)),.d (.sl (C0.rows x.Body))]
theorem B0.idx {l:List B0}{n:Int}{x:B0}(h:idx l n=some x):(B0.rows l)[n.toNat]?=some (B0.row x):=Wj B0.rows_map h
theorem B0.app (l m:List B0):B0.rows (l++m)=B0.rows l++B0.rows m:=Lo B0.rows_map l m
theorem B0.len (l:List B0):(B0.rows l).length=l.length:=Mo B0.rows_map l
theorem B0.lenA (l:List B0):A.d (.int .i64 ((B0.rows l).length:Nat))=A.d (.int .i64 (l.length:Nat)):=Nh B0.rows_map l
theorem B0.sz (l:List B0):∀ r∈B0.rows l,r.length=17:=Yr B0.rows_map (fun _=>rfl) l
structure S0 where
 Decls:List B0
 Body:List C0
def S0.zero:S0:=⟨[],[]⟩
instance:Inhabited S0:=⟨S0.zero⟩
def S0.cells (x:S0):List A:=[.d (.sl (B0.rows x.Decls)),.d (.sl (C0.rows x.Body))]
structure I0 where
 Kind:Int
 Text:Str
 At:Int
def I0.zero:I0:=⟨0,[],0⟩
instance:Inhabited I0:=⟨I0.zero⟩
def I0.row (x:I0):Row:=[.int .i64 x.Kind,.str x.Text,.int .i64 x.At]
def I0.rows (l:List I0):List Row:=l.map I0.row
theorem I0.rows_map (l:List I0):I0.rows l=l.map I0.row:=rfl
def I0.cells (x:I0):List A:=[.d (.int .i64 x.Kind),.d (.str x.Text),.d (.int .i64 x.At)]
theorem I0.idx {l:List I0}{n:Int}{x:I0}(h:idx l n=some x):(I0.rows l)[n.toNat]?=some (I0.row x):=Wj I0.rows_map h
theorem I0.app (l m:List I0):I0.rows (l++m)=I0.rows l++I0.rows m:=Lo I0.rows_map l m
theorem I0.len (l:List I0):(I0.rows l).length=l.length:=Mo I0.rows_map l
theorem I0.lenA (l:List I0):A.d (.int .i64 ((I0.rows l).length:Nat))=A.d (.int .i64 (l.length:Nat)):=Nh I0.rows_map l
theorem I0.sz (l:List I0):∀ r∈I0.rows l,r.length=3:=Yr I0.rows_map (fun _=>rfl) l
structure D0 where
 tokens:List I0
 next:Int
 endV:Int
def D0.zero:D0:=⟨[],0,0⟩
instance:Inhabited D0:=⟨D0.zero⟩
def D0.cells (x:D0):List A:=[.d (.sl (I0.rows x.tokens)),.d (.int .i64 x.next),.d (.int .i64 x.endV)]
structure J0 where
 nodes:Int
 depth:Int
 badForm:Bool
 badName:Bool
 badNumber:Bool
def J0.zero:J0:=⟨0,0,false,false,false⟩
instance:Inhabited J0:=⟨J0.zero⟩
def J0.cells (x:J0):List A:=[.d (.int .i64 x.nodes),.d (.int .i64 x.depth),.d (.bool x.badForm),.d (.bool x.badName),.d (.bool x.badNumber)]
structure Z2 where
 place:Bool
 value:Bool
 name:Bool
 args:Bool
 n:Bool
 bounds:Bool
 numbers:Bool
 thenV:Bool
 other:Bool
def Z2.zero:Z2:=⟨false,false,false,false,false,false,false,false,false⟩
instance:Inhabited Z2:=⟨Z2.zero⟩
def Z2.cells (x:Z2):List A:=[.d (.bool x.place),.d (.bool x.value),.d (.bool x.name),.d (.bool x.args),.d (.bool x.n),.d (.bool x.bounds),.d (.bool x.numbers),.d (.bool x.thenV),.d (.bool x.other)]
structure O0 where
 nodes:Int
 depth:Int
def O0.zero:O0:=⟨0,0⟩
instance:Inhabited O0:=⟨O0.zero⟩
def O0.cells (x:O0):List A:=[.d (.int .i64 x.nodes),.d (.int .i64 x.depth)]
theorem S1r {l:List Str}{s m:Str}(t:J1k l s=some m):L0 C 30 [.d (.sl (estr.rows l)),.d (.str s)] [] (fun x H'=>H'=[]∧x = .d (.str m)):=by
 obtain ⟨⟨Q,O⟩,t⟩:=Z0 t
 cases t
 refine L0.ofBelow (Xr Tryz.func30 rfl rfl) fun M G w vs hg L hl hr=>?_
 obtain ⟨h1,_⟩:=Ul hl hr (i:=1) rfl
 have p:0 < vs.size:=by rw [← hl]; exact Nat.zero_lt_succ _
 have A:vs[0]?=some vs[0]:=Array.getElem?_eq_getElem p
 have b:=hr 0 _ _ rfl A
 generalize vs[0]=v at A b
 obtain rfl:=N1u hl.symm A h1
 cases b
 rename_i b
 have I:(l.map fun x=>(⟨x.toArray⟩:ByteArray)).map (·.data.toList)=l:=by rw [List.map_map]; exact List.map_id'' (fun x=>rfl) l
 have D:∀ c:List UInt8,c=Lib.join l s→(∀ M G,L1 M G (.d (.str (Lib.join l s))) (.string ⟨c.toArray⟩)):=fun c hc M G=>by
  subst hc
  exact .d (.str (by unfold maxLen; omega))
 refine ⟨.string ⟨(Lib.join l s).toArray⟩,D _ rfl,?_⟩
 have none:∀ (a:Option Addr) (c:Nat),l=[]→Calls C.P 30 #[.slice a 0 c,.string ⟨s.toArray⟩] w fun e w'=>e = .returned (.string ⟨(Lib.join l s).toArray⟩)∧Go.RowKit.Below w.heap.size w w':=fun a c hn=>by
  subst hn
  exact (Tryz.strings_Join_none a c ⟨s.toArray⟩ w).mono fun e w' ⟨n,N⟩=>⟨n,N ▸ Go.RowKit.Below.refl _ _⟩
 cases hl0:l with
 | nil=>
  obtain ⟨a,cap,rfl,_⟩:=R1q b
  have n:(estr.rows l).length=0:=by rw [estr.len,hl0]; rfl
  rw [n,← hl0]
  exact none _ _ hl0
 | cons x r=>
  rw [← hl0]
  have F:0 < l.length:=by rw [hl0]; exact Nat.zero_lt_succ _
  have k:=estr.len l
  have get:∀ (j:Nat) y,l[j]?=some y→(estr.rows l)[j]?=some [.str y]:=fun j y g=>by
   show (l.map estr.row)[j]?=_
   rw [List.getElem?_map,g]
   rfl
  generalize hR:estr.rows l=R at b k get
  cases b with
  | slnil=>exact absurd k (by rw [hl0]; simp)
  | sl sz T1 hl' hc hm hs hz K J=>
   rename_i a len cap
   have q:sz=1:=by
    have:=hz 0 _ (get 0 x (by rw [hl0]; rfl))
    exact this.symm
   subst q
   have o:a.spot=Option.none:=by
    rcases hs with h | h
    ·omega
    ·exact h
   obtain ⟨bk,off,sp⟩:=a
   simp only at o
   subst o
   have f:∀ (j:Nat) y,l[j]?=some y→M ⟨bk,off+j,Option.none⟩=some (.string ⟨y.toArray⟩):=fun j y g=>by
    have H:=K j 0 _ _ (get j y g) rfl
    have E:=J j 0 _ _ (get j y g) rfl
    generalize T1 j 0=u at H E
    cases E
    rwa [Pe,Nat.mul_one,Nat.add_zero] at H
   have B:=f 0 x (by rw [hl0]; rfl)
   have key:=Tryz.strings_Join bk off cap (l.map fun x=>(⟨x.toArray⟩:ByteArray)) ⟨s.toArray⟩ w (fun j y g=>by
    rw [List.getElem?_map] at g
    cases hj:l[j]? with
    | none=>rw [hj] at g; cases g
    | some z=>
     rw [hj] at g
     simp only [Option.map_some,Option.some.injEq] at g
     subst g
     exact hg.at (f j z hj) rfl) (hg.lt B) (by rw [List.length_map]; omega) (by rw [List.length_map]; omega) (by rw [I]; show (Lib.join l s).length≤_; omega)
   rw [I,List.length_map,show l.length=len by omega] at key
   exact key.mono fun e w' ⟨n,hb⟩=>⟨by simpa using n,hb⟩
def Rb:Option (List P0):=
 some [(P0.mk [112,97,115,115,119,111,114,100] 2 64 (some 44) [115,101,99,114,101,116,32,112,105,110,58,32,105,110,116,91,48,46,46,60,65,62,93,59,10,112,117,98,108,105,99,32,103,117,101,115,115,58,32,105,110,116,91,48,46,46,60,65,62,93,59,10,98,101,103,105,110,32,111,117,116,112,117,116,32,112,105,110,32,61,61,32,103,117,101,115,115,59,32,101,110,100] (some 45)),(P0.mk [100,105,103,105,116,115] 1 4 (some 46) [115,101,99,114,101,116,32,112,105,110,58,32,97,114,114,97,121,32,60,97,62,32,111,102,32,105,110,116,91,48,46,46,60,66,62,93,59,10,112,117,98,108,105,99,32,103,117,101,115,115,58,32,97,114,114,97,121,32,60,97,62,32,111,102,32,105,110,116,91,48,46,46,60,66,62,93,59,10,118,97,114,32,105,58,32,105,110,116,91,48,46,46,60,97,62,93,59,10,118,97,114,32,111,107,58,32,98,111,111,108,32,61,32,116,114,117,101,59,10,98,101,103,105,110,32,119,104,105,108,101,32,111,107,32,38,38,32,105,32,60,32,60,97,62,32,108,105,109,105,116,32,60,97,62,32,123,32,105,102,32,112,105,110,91,105,93,32,61,61,32,103,117,101,115,115,91,105,93,32,123,32,105,32,61,32,105,32,43,32,49,59,32,125,32,101,108,115,101,32,123,32,111,107,32,61,32,102,97,108,115,101,59,32,125,32,125,32,111,117,116,112,117,116,32,111,107,59,32,101,110,100] (some 47)),(P0.mk [98,105,116,115] 1 8 (some 44) [115,101,99,114,101,116,32,115,58,32,97,114,114,97,121,32,60,97,62,32,111,102,32,98,111,111,108,59,10,98,101,103,105,110,32,102,111,114,32,105,32,61,32,48,32,116,111,32,60,65,62,32,123,32,111,117,116,112,117,116,32,115,91,105,93,59,32,125,32,101,110,100] (some 48)),(P0.mk [112,97,114,105,116,121] 2 64 (some 44) [115,101,99,114,101,116,32,115,58,32,105,110,116,91,48,46,46,60,65,62,93,59,10,98,101,103,105,110,32,111,117,116,112,117,116,32,115,32,37,32,50,59,32,101,110,100] (some 45)),(P0.mk [100,105,99,101] 1 3 (some 49) [115,101,99,114,101,116,32,100,58,32,97,114,114,97,121,32,60,97,62,32,111,102,32,105,110,116,91,49,46,46,60,98,62,93,59,10,118,97,114,32,116,58,32,105,110,116,91,48,46,46,60,84,62,93,59,10,98,101,103,105,110,32,102,111,114,32,105,32,61,32,48,32,116,111,32,60,65,62,32,123,32,116,32,61,32,116,32,43,32,100,91,105,93,59,32,125,32,111,117,116,112,117,116,32,116,59,32,101,110,100] (some 50)),(P0.mk [112,111,119,101,114] 1 6 (some 44) [115,101,99,114,101,116,32,101,58,32,97,114,114,97,121,32,60,97,62,32,111,102,32,98,111,111,108,59,10,118,97,114,32,120,58,32,105,110,116,91,48,46,46,49,50,93,32,61,32,49,59,10,98,101,103,105,110,32,102,111,114,32,105,32,61,32,48,32,116,111,32,60,65,62,32,123,32,120,32,61,32,120,32,42,32,120,32,37,32,49,51,59,32,105,102,32,101,91,105,93,32,123,32,120,32,61,32,120,32,42,32,50,32,37,32,49,51,59,32,125,32,125,32,101,110,100] (some 51)),(P0.mk [116,104,114,101,115,104,111,108,100] 2 64 (some 52) [115,101,99,114,101,116,32,115,58,32,105,110,116,91,48,46,46,60,65,62,93,59,10,98,101,103,105,110,32,111,117,116,112,117,116,32,115,32,62,61,32,60,98,62,59,32,101,110,100] (some 45)),(P0.mk [109,97,115,107,101,100] 1 16 (some 44) [115,101,99,114,101,116,32,115,58,32,105,110,116,91,48,46,46,60,65,62,93,59,10,114,97,110,100,111,109,32,114,58,32,105,110,116,91,48,46,46,60,65,62,93,59,10,98,101,103,105,110,32,111,117,116,112,117,116,32,40,115,32,43,32,114,41,32,37,32,60,97,62,59,32,101,110,100] (some 53)),(P0.mk [115,101,97,114,99,104] 1 64 (some 54) [115,101,99,114,101,116,32,115,58,32,105,110,116,91,48,46,46,60,65,62,93,59,10,118,97,114,32,105,58,32,105,110,116,91,48,46,46,60,97,62,93,59,10,98,101,103,105,110,32,119,104,105,108,101,32,105,32,60,32,115,32,108,105,109,105,116,32,60,97,62,32,123,32,105,32,61,32,105,32,43,32,49,59,32,125,32,115,101,116,116,108,101,32,60,78,62,59,32,101,110,100] (some 55))]
theorem R15 {res}(c:Rb=some res):L0 C 26 [] [] (Ret [] (.d (.sl (P0.rows res)))):=by
 refine L0.intro hC Tryz.func26 R R R (t' R (p' 9 R ?_))
 refine E0.b hC (d:=some 10) (rs:=P0.rows (Rb.getD [])) (by kernel_rfl) ?_
 refine e' R (re' ?_)
 have a:Rb.getD []=res:=by rw [c]; rfl
 subst a
 exact ⟨_,.d (.sl (P0.rows (Rb.getD []))),[],R,.full,trivial,R,R,R,R⟩
def Cn (f:P0)(s:Str):Option Bool:=
 some (f.name == s)
theorem V19 {f s res}(a:Cn f s=some res):L0 C 29 [.agg (P0.cells f),.ref 0 0] [.row [.d (.str s)] 9] (Ret [.row [.d (.str s)] 9] (.d (.bool res))):=by
 unfold Cn at a
 cases a
 exact L0.intro hC Tryz.func29 R R R (s' R R (E0.n hC R (e' R (t' R (re' (rq R))))))
def Y1 (s:List P0)(s1:Str)(v8:Int):Option Int:=
 if (decide (v8 < ((s).length:Int)))=true then
  idx s v8>>=fun x1=>
  Cn x1 s1>>=fun x2=>
  if x2=true then
   some v8
  else
   Y1 s s1 (IntKind.i64.wrap (v8+1))
 else
  some (-1)
 partial_fixpoint
abbrev I8 (s:List P0)(s1:Str)(v8:Int)(res:Int):Prop:=LM C 19 1 Tryz.f28 [1,0,1,4] [(0,.d (.sl (P0.rows s))),(1,.clo 29 [.ref 0 0]),(7,.d (.int .i64 ((s).length:Int))),(8,.d (.int .i64 v8))] [.row [.d (.str s1)] 9] (Ret [.row [.d (.str s1)] 9] (.d (.int .i64 res)))
theorem Ef (s:List P0)(s1:Str):(∀ d b,Y1 s s1 d=some b→I8 s s1 d b):=by
 refine Y1.partial_correctness s s1 _ ?_
 ·intro g f d b a
  refine Y0.unroll (t' R (S' (ci' R a (fun a=>?_) (fun a=>?_))))
  ·obtain ⟨x1,c,a⟩:=bs' a
   obtain ⟨x2,e,a⟩:=bs' a
   refine sk' (S' (bk' (t' R (p' 3 R (i' R (D1 c) (P0.idx c) R (q' R (gq [0] (V19 e) R (n' (ci' R a (fun a=>?_) (fun a=>?_))))))))))
   ·cases a
    exact t' R (re' (rq R))
   exact sk' (T' R (lq (f _ _ a) R))
  cases a
  exact ex' (t' R (re' (rq R)))
theorem Xf {s s1 v8 res}(a:Y1 s s1 v8=some res):I8 s s1 v8 res:=(Ef s s1) _ _ a
def Z3 (s:List P0)(s1:Str):Option Int:=
 Y1 s s1 0
theorem Lg {s s1 res}(a:Z3 s s1=some res):L0 C 28 [.d (.sl (P0.rows s)),.clo 29 [.ref 0 0]] [.row [.d (.str s1)] 9] (Ret [.row [.d (.str s1)] 9] (.d (.int .i64 res))):=by
 unfold Z3 at a
 exact L0.intro hC Tryz.func28 R R R (t' R (S' (p' 1 R (qe' R trivial (P0.lenA _) (e' R (bk' (fq (Xf a) R)))))))
def Sw (a:Int):Option (Int×Int):=
 some (0,0)
theorem J1d {a res}(b:Sw a=some res):L0 C 44 [.d (.int .i64 a)] [] (Ret [] (.tup [.d (.int .i64 res.1),.d (.int .i64 res.2)])):=by
 unfold Sw at b
 cases b
 exact L0.intro hC Tryz.func44 R R R (t' R (t' R (re' (rq R))))
def Vl (a:Int):Option (Int×Int):=
 some (2,4)
theorem Y10 {a res}(b:Vl a=some res):L0 C 46 [.d (.int .i64 a)] [] (Ret [] (.tup [.d (.int .i64 res.1),.d (.int .i64 res.2)])):=by
 unfold Vl at b
 cases b
 exact L0.intro hC Tryz.func46 R R R (t' R (t' R (re' (rq R))))
def Wl (a:Int):Option (Int×Int):=
 some (2,6)
theorem Z10 {a res}(b:Wl a=some res):L0 C 49 [.d (.int .i64 a)] [] (Ret [] (.tup [.d (.int .i64 res.1),.d (.int .i64 res.2)])):=by
 unfold Wl at b
 cases b
 exact L0.intro hC Tryz.func49 R R R (t' R (t' R (re' (rq R))))
def Xl (a:Int):Option (Int×Int):=
 some (1,(IntKind.i64.wrap (a - 1)))
theorem A11 {a res}(b:Xl a=some res):L0 C 52 [.d (.int .i64 a)] [] (Ret [] (.tup [.d (.int .i64 res.1),.d (.int .i64 res.2)])):=by
 unfold Xl at b
 cases b
 exact L0.intro hC Tryz.func52 R R R (t' R (t' R (re' (rq R))))
def Yl (a:Int):Option (Int×Int):=
 some (1,(min a 8))
theorem B11 {a res}(b:Yl a=some res):L0 C 54 [.d (.int .i64 a)] [] (Ret [] (.tup [.d (.int .i64 res.1),.d (.int .i64 res.2)])):=by
 unfold Yl at b
 cases b
 exact L0.intro hC Tryz.func54 R R R (t' R (t' R (re' (rq R))))
def Vv (f:Option Nat)(a0:Int):Option (Int×Int):=
 if (f == (some 44))=true then
  Sw a0>>=fun x1=>
  some x1
 else
  if (f == (some 46))=true then
   Vl a0>>=fun x1=>
   some x1
  else
   if (f == (some 49))=true then
    Wl a0>>=fun x1=>
    some x1
   else
    if (f == (some 52))=true then
     Xl a0>>=fun x1=>
     some x1
    else
     if (f == (some 54))=true then
      Yl a0>>=fun x1=>
      some x1
     else
      none
theorem T1u {f a0 res}(a:Vv f a0=some res):∃ n,f=some n∧L0 C n [.d (.int .i64 a0)] [] (Ret [] (.tup [.d (.int .i64 res.1),.d (.int .i64 res.2)])):=by
 unfold Vv at a
 split at a
 ·rename_i c
  obtain ⟨x1,b,a⟩:=bs' a
  cases a
  exact ⟨_,eq_of_beq c,J1d b⟩
 split at a
 ·rename_i c
  obtain ⟨x1,b,a⟩:=bs' a
  cases a
  exact ⟨_,eq_of_beq c,Y10 b⟩
 split at a
 ·rename_i c
  obtain ⟨x1,b,a⟩:=bs' a
  cases a
  exact ⟨_,eq_of_beq c,Z10 b⟩
 split at a
 ·rename_i c
  obtain ⟨x1,b,a⟩:=bs' a
  cases a
  exact ⟨_,eq_of_beq c,A11 b⟩
 split at a
 ·rename_i c
  obtain ⟨x1,b,a⟩:=bs' a
  cases a
  exact ⟨_,eq_of_beq c,B11 b⟩
 cases a
def Ad (name:Str)(a:Int)(b:Int):Option (P0×Int):=
 Rb>>=fun x1=>
 Z3 x1 name>>=fun x2=>
 if (decide (x2 < 0))=true then
  some ((P0.mk [] 0 0 none [] none),7)
 else
  idx x1 x2>>=fun x3=>
  if (bif (decide (a < x3.low)) then true else (decide (a > x3.high)))=true then
   some ((P0.mk [] 0 0 none [] none),3)
  else
   Vv x3.second a>>=fun x4=>
   if (bif (decide (b < x4.1)) then true else (decide (b > x4.2)))=true then
    some ((P0.mk [] 0 0 none [] none),3)
   else
    some (x3,0)
theorem Xy {name a b res}(c:Ad name a b=some res):L0 C 17 [.d (.str name),.d (.int .i64 a),.d (.int .i64 b)] [] (Ret [] (.tup [.agg (P0.cells res.1),.d (.int .i64 res.2)])):=by
 unfold Ad at c
 obtain ⟨x1,i,c⟩:=bs' c
 obtain ⟨x2,g,c⟩:=bs' c
 refine L0.intro hC Tryz.func17 R R R (s' R R (E0.n hC R (E0.n hC R (e' R (s' R R (cq (R15 i) R (e' R (p' 2 R (gq [0] (Lg g) R (e' R (S' (t' R (ci' R c (fun c=>?_) (fun c=>?_))))))))))))))
 ·refine p' 1 R (E0.s hC R (e' R (re' ?_)))
  have e:=oi' c
  subst e
  exact ⟨_,.tup [.agg [.d (.str []),.d (.int .i64 0),.d (.int .i64 0),.d (.fn none),.d (.str []),.d (.fn none)],.d (.int .i64 7)],[],R,(.tupL ⟨(.aggL ⟨.rfl,.rfl,.rfl,.nfn,.rfl,.nfn,trivial⟩),.rfl,trivial⟩),trivial,R,R,R,R⟩
 obtain ⟨k,f,c⟩:=bs' c
 refine sk' (p' 2 R (i' R (D1 f) (P0.idx f) R (q' R (E0.n hC R (E0.s hC R (n' (S' (sg' 10 R (G' 7 R (a1' R (a2' R (po' R (an' ?_)))))))))))))
 refine n' (ci' R c (fun c=>?_) (fun c=>?_))
 ·refine p' 1 R (E0.s hC R (e' R (re' ?_)))
  have e:=oi' c
  subst e
  exact ⟨_,.tup [.agg [.d (.str []),.d (.int .i64 0),.d (.int .i64 0),.d (.fn none),.d (.str []),.d (.fn none)],.d (.int .i64 3)],[],R,(.tupL ⟨(.aggL ⟨.rfl,.rfl,.rfl,.nfn,.rfl,.nfn,trivial⟩),.rfl,trivial⟩),trivial,R,R,R,R⟩
 obtain ⟨j,h,c⟩:=bs' c
 refine sk' (S' (p' 3 R (E0.cf R (T1u h) R (e' R (sg' 8 R (G' 6 R (a2' R (po' R (an' (n' (ci' R c (fun c=>?_) (fun c=>?_))))))))))))
 ·refine p' 1 R (E0.s hC R (e' R (re' ?_)))
  have e:=oi' c
  subst e
  exact ⟨_,.tup [.agg [.d (.str []),.d (.int .i64 0),.d (.int .i64 0),.d (.fn none),.d (.str []),.d (.fn none)],.d (.int .i64 3)],[],R,(.tupL ⟨(.aggL ⟨.rfl,.rfl,.rfl,.nfn,.rfl,.nfn,trivial⟩),.rfl,trivial⟩),trivial,R,R,R,R⟩
 cases c
 exact sk' (p' 1 R (E0.s hC R (e' R (re' (rq R)))))
def Sz (a:Int)(b:Int):Option (Int×Int):=
 some (2,2)
theorem F1f {a b res}(c:Sz a b=some res):L0 C 45 [.d (.int .i64 a),.d (.int .i64 b)] [] (Ret [] (.tup [.d (.int .i64 res.1),.d (.int .i64 res.2)])):=by
 unfold Sz at c
 cases c
 exact L0.intro hC Tryz.func45 R R R (t' R (t' R (re' (rq R))))
def Zl (a:Int)(b:Int):Option (Int×Int):=
 some ((IntKind.i64.wrap (a+1)),2)
theorem C11 {a b res}(c:Zl a b=some res):L0 C 47 [.d (.int .i64 a),.d (.int .i64 b)] [] (Ret [] (.tup [.d (.int .i64 res.1),.d (.int .i64 res.2)])):=by
 unfold Zl at c
 cases c
 exact L0.intro hC Tryz.func47 R R R (t' R (t' R (re' (rq R))))
def Bm (a:Int)(b:Int):Option (Int×Int):=
 if (decide (0≤a))=true then
  if (decide (0≤a))=true then
   some ((IntKind.i64.wrap (1 * 2 ^ (min a.toNat 64))),(IntKind.i64.wrap (1 * 2 ^ (min a.toNat 64))))
  else none
 else none
theorem D11 {a b res}(c:Bm a b=some res):L0 C 48 [.d (.int .i64 a),.d (.int .i64 b)] [] (Ret [] (.tup [.d (.int .i64 res.1),.d (.int .i64 res.2)])):=by
 unfold Bm at c
 obtain ⟨e,c⟩:=Z0 c
 obtain ⟨f,c⟩:=Z0 c
 cases c
 exact L0.intro hC Tryz.func48 R R R (t' R (S' (AEx.draw hC 6 R R R (Q' R (AQ.q hC R e (Q' R (AQ.q hC R f (E' R (n' (re' (rq R)))))))))))
def Tw (a:Int)(b:Int):Option (Int×Int):=
 some ((IntKind.i64.wrap ((IntKind.i64.wrap (a * (IntKind.i64.wrap (b - 1))))+1)),(IntKind.i64.wrap ((IntKind.i64.wrap (a * (IntKind.i64.wrap (b - 1))))+1)))
theorem K1d {a b res}(c:Tw a b=some res):L0 C 50 [.d (.int .i64 a),.d (.int .i64 b)] [] (Ret [] (.tup [.d (.int .i64 res.1),.d (.int .i64 res.2)])):=by
 unfold Tw at c
 cases c
 exact L0.intro hC Tryz.func50 R R R (t' R (t' R (t' R (re' (rq R)))))
def Cm (a:Int)(b:Int):Option (Int×Int):=
 some ((IntKind.i64.wrap (a+1)),1)
theorem E11 {a b res}(c:Cm a b=some res):L0 C 51 [.d (.int .i64 a),.d (.int .i64 b)] [] (Ret [] (.tup [.d (.int .i64 res.1),.d (.int .i64 res.2)])):=by
 unfold Cm at c
 cases c
 exact L0.intro hC Tryz.func51 R R R (t' R (t' R (re' (rq R))))
def Dm (a:Int)(b:Int):Option (Int×Int):=
 some (a,a)
theorem F11 {a b res}(c:Dm a b=some res):L0 C 53 [.d (.int .i64 a),.d (.int .i64 b)] [] (Ret [] (.tup [.d (.int .i64 res.1),.d (.int .i64 res.2)])):=by
 unfold Dm at c
 cases c
 exact L0.intro hC Tryz.func53 R R R (t' R (t' R (re' (rq R))))
def Em (a:Int)(b:Int):Option (Int×Int):=
 some (b,1)
theorem G11 {a b res}(c:Em a b=some res):L0 C 55 [.d (.int .i64 a),.d (.int .i64 b)] [] (Ret [] (.tup [.d (.int .i64 res.1),.d (.int .i64 res.2)])):=by
 unfold Em at c
 cases c
 exact L0.intro hC Tryz.func55 R R R (t' R (t' R (re' (rq R))))
def R1i (f:Option Nat)(a0:Int)(a1:Int):Option (Int×Int):=
 if (f == (some 45))=true then
  Sz a0 a1>>=fun x1=>
  some x1
 else
  if (f == (some 47))=true then
   Zl a0 a1>>=fun x1=>
   some x1
  else
   if (f == (some 48))=true then
    Bm a0 a1>>=fun x1=>
    some x1
   else
    if (f == (some 50))=true then
     Tw a0 a1>>=fun x1=>
     some x1
    else
     if (f == (some 51))=true then
      Cm a0 a1>>=fun x1=>
      some x1
     else
      if (f == (some 53))=true then
       Dm a0 a1>>=fun x1=>
       some x1
      else
       if (f == (some 55))=true then
        Em a0 a1>>=fun x1=>
        some x1
       else
        none
theorem U1u {f a0 a1 res}(a:R1i f a0 a1=some res):∃ n,f=some n∧L0 C n [.d (.int .i64 a0),.d (.int .i64 a1)] [] (Ret [] (.tup [.d (.int .i64 res.1),.d (.int .i64 res.2)])):=by
 unfold R1i at a
 split at a
 ·rename_i c
  obtain ⟨x1,b,a⟩:=bs' a
  cases a
  exact ⟨_,eq_of_beq c,F1f b⟩
 split at a
 ·rename_i c
  obtain ⟨x1,b,a⟩:=bs' a
  cases a
  exact ⟨_,eq_of_beq c,C11 b⟩
 split at a
 ·rename_i c
  obtain ⟨x1,b,a⟩:=bs' a
  cases a
  exact ⟨_,eq_of_beq c,D11 b⟩
 split at a
 ·rename_i c
  obtain ⟨x1,b,a⟩:=bs' a
  cases a
  exact ⟨_,eq_of_beq c,K1d b⟩
 split at a
 ·rename_i c
  obtain ⟨x1,b,a⟩:=bs' a
  cases a
  exact ⟨_,eq_of_beq c,E11 b⟩
 split at a
 ·rename_i c
  obtain ⟨x1,b,a⟩:=bs' a
  cases a
  exact ⟨_,eq_of_beq c,F11 b⟩
 split at a
 ·rename_i c
  obtain ⟨x1,b,a⟩:=bs' a
  cases a
  exact ⟨_,eq_of_beq c,G11 b⟩
 cases a
def Jh (family:Str)(a:Int)(b:Int):Option (Int×Int×Int):=
 Ad family a b>>=fun x1=>
 if (x1.2 != 0)=true then
  some (0,0,x1.2)
 else
  R1i x1.1.known a b>>=fun x2=>
  some (x2.1,x2.2,0)
theorem Uw {family a b res}(c:Jh family a b=some res):L0 C 11 [.d (.str family),.d (.int .i64 a),.d (.int .i64 b)] [] (Ret [] (.tup [.d (.int .i64 res.1),.d (.int .i64 res.2.1),.d (.int .i64 res.2.2)])):=by
 unfold Jh at c
 obtain ⟨x1,f,c⟩:=bs' c
 refine L0.intro hC Tryz.func11 R R R (t' R (p' 3 R (cq (Xy f) R (o' 3 R (E0.n hC R (E0.s hC R (e' R (S' (t' R (ci' R c (fun c=>?_) (fun c=>?_)))))))))))
 ·cases c
  exact t' R (re' (rq R))
 obtain ⟨x2,e,c⟩:=bs' c
 cases c
 exact sk' (p' 4 R (E0.cf R (U1u e) R (e' R (t' R (re' (rq R))))))
def G9 (a:Int)(b:Int)(l:List Str)(j:Int):Option Str:=
 if (decide (j≤b))=true then
  if (decide (b≠0))=true then
   Tg (IntKind.i64.wrap ((IntKind.i64.wrap (4 * (IntKind.i64.wrap (Int.tdiv (IntKind.i64.wrap ((IntKind.i64.wrap ((IntKind.i64.wrap (j * a))+b)) - 1)) b)))) - 2))>>=fun x1=>
   if (decide ((l.length+1) * 17≤140737488355328))=true then
    G9 a b (l++[x1]) (IntKind.i64.wrap (j+1))
   else none
  else none
 else
  J1k l [44,32]>>=fun x2=>
  some x2
 partial_fixpoint
abbrev Kt (a:Int)(b:Int)(l:List Str)(j:Int)(res:Str):Prop:=LM C 28 0 Tryz.f18 [1,1,0,1,4] [(0,.d (.int .i64 a)),(1,.d (.int .i64 b)),(5,.osl 0 (estr.rows l)),(6,.d (.int .i64 j))] [.tok 9 1] (Ret [] (.d (.str res)))
theorem H13 (a:Int)(b:Int):(∀ l j d,G9 a b l j=some d→Kt a b l j d):=by
 refine G9.partial_correctness a b _ ?_
 ·intro k g l j d c
  refine Y0.unroll (S' (t' R (ci' R c (fun c=>?_) (fun c=>?_))))
  ·obtain ⟨i,c⟩:=Z0 c
   obtain ⟨x1,f,c⟩:=bs' c
   obtain ⟨h,c⟩:=Z0 c
   exact sk' (S' (bk' (P' 8 R (qc' R i (o' 2 R (cq (Bp f) R (E0.be hC R (estr.rows_map [x1]).symm (E0.ap hC R (rs:=estr.rows (l++[x1])) (estr.app l [x1]) (estr.sz l) (estr.sz [x1]) (N1 (estr.len l) (estr.len [x1]) h) (e' R (T' R (lq (g _ _ _ c) R)))))))))))
  obtain ⟨x2,e,c⟩:=bs' c
  cases c
  exact ex' (p' 1 R (E0.cl R (S1r e) ⟨.osl,.rfl,trivial⟩ R (e' R (re' (rq R)))))
theorem S15 {a b l j res}(c:G9 a b l j=some res):Kt a b l j res:=(H13 a b) _ _ _ c
def Ik (a:Int)(b:Int):Option Str:=
 G9 a b [] 1
theorem K1b {a b res}(c:Ik a b=some res):L0 C 18 [.d (.int .i64 a),.d (.int .i64 b)] [] (Ret [] (.d (.str res))):=by
 unfold Ik at c
 exact L0.intro hC Tryz.func18 R R R (t' R (p' 1 R (E0.tokE 5 9 1 R (n' (S' (t' R (bk' (fq (S15 c) R))))))))
def Mg (c:Int):Option Bool:=
 some (bif (decide (c≥97)) then (decide (c≤122)) else false)
theorem Mn {c res}(a:Mg c=some res):L0 C 152 [.d (.int .u8 c)] [] (Ret [] (.d (.bool res))):=by
 unfold Mg at a
 cases a
 exact L0.intro hC Tryz.func152 R R R (t' R (sg' 7 R (G' 4 R (a1' R (pa' R (a0' R (an' (n' (re' (rq R))))))))))
def Pd (c:Int):Option Bool:=
 some (bif (decide (c≥48)) then (decide (c≤57)) else false)
theorem Yj {c res}(a:Pd c=some res):L0 C 155 [.d (.int .u8 c)] [] (Ret [] (.d (.bool res))):=by
 unfold Pd at a
 cases a
 exact L0.intro hC Tryz.func155 R R R (t' R (sg' 7 R (G' 4 R (a1' R (pa' R (a0' R (an' (n' (re' (rq R))))))))))
def Se (s:Str)(i1:Int):Option Int:=
 (if (decide (i1 < ((s).length:Int)))=true then idx s i1 else some default)>>=fun x1=>
 (if (decide (i1 < ((s).length:Int)))=true then Mg (x1.toNat:Int) else some default)>>=fun x2=>
 (if ((decide (i1 < ((s).length:Int)))&&(!x2))=true then idx s i1 else some default)>>=fun x3=>
 (if ((decide (i1 < ((s).length:Int)))&&(!x2))=true then Pd (x3.toNat:Int) else some default)>>=fun x4=>
 if (bif (decide (i1 < ((s).length:Int))) then (bif x2 then true else x4) else false)=true then
  Se s (IntKind.i64.wrap (i1+1))
 else
  some i1
 partial_fixpoint
abbrev H11 (s:Str)(i1:Int)(res:Int):Prop:=LM C 24 0 Tryz.f153 [1,0,4] [(0,.d (.str s)),(1,.d (.int .i64 i1))] [] (Ret [] (.d (.int .i64 res)))
theorem L1b (s:Str):(∀ h d,Se s h=some d→H11 s h d):=by
 refine Se.partial_correctness s _ ?_
 ·intro m j h d a
  obtain ⟨x1,e,a⟩:=bs' a
  obtain ⟨x2,g,a⟩:=bs' a
  obtain ⟨l,f,a⟩:=bs' a
  obtain ⟨k,i,a⟩:=bs' a
  refine Y0.unroll (S' (sg' 16 R (G' 7 R (AG.x hC R R (fun hg=>⟨hg,hg,trivial⟩) (fun b=>⟨D1 (G1 b e),X5 (G1 b e)⟩) (AG.c R R (fun hg=>⟨hg,trivial⟩) (fun b=>Mn (G1 b g)) (a1' R (G' 2 R (AG.x hC R R (fun hg=>⟨hg,hg,trivial⟩) (fun b=>⟨D1 (G1 b f),X5 (G1 b f)⟩) ?_))))))))
  refine AG.c R R (fun hg=>⟨hg,trivial⟩) (fun b=>Yj (G1 b i)) (pO' R (pa' R (an' (n' (ci' R a (fun a=>?_) (fun a=>?_))))))
  ·exact sk' (bk' (T' R (lq (j _ _ a) R)))
  cases a
  exact ex' (t' R (re' (rq R)))
theorem L1d {s i1 res}(a:Se s i1=some res):H11 s i1 res:=(L1b s) _ _ a
def Lt (s:Str)(i:Int):Option Int:=
 Se s i
theorem P17 {s i res}(a:Lt s i=some res):L0 C 153 [.d (.str s),.d (.int .i64 i)] [] (Ret [] (.d (.int .i64 res))):=by
 unfold Lt at a
 exact L0.intro hC Tryz.func153 R R R (t' R (S' (bk' (fq (L1d a) R))))
def Ce (word:Str):Option Bool:=
 (if (!(word == []))=true then Wp word [32] else some default)>>=fun x1=>
 if (!(bif (!(word == [])) then (!x1) else false)||(decide (1+word.length≤maxLen)))=true then
  if (!(bif (!(word == [])) then (!x1) else false)||(decide (([32]++word).length+1≤maxLen)))=true then
   (if (bif (!(word == [])) then (!x1) else false)=true then Wp [32,116,121,112,101,32,115,101,99,114,101,116,32,112,117,98,108,105,99,32,114,97,110,100,111,109,32,118,97,114,32,104,97,116,99,104,32,102,117,110,99,32,114,101,116,117,114,110,32,98,101,103,105,110,32,101,110,100,32,98,111,111,108,32,105,110,116,32,97,114,114,97,121,32,111,102,32,114,101,99,111,114,100,32,116,114,117,101,32,102,97,108,115,101,32,99,97,108,108,32,114,101,108,101,97,115,101,32,111,117,116,112,117,116,32,119,97,105,116,32,105,102,32,101,108,115,101,32,119,104,105,108,101,32,108,105,109,105,116,32,102,111,114,32,116,111,32,115,101,116,116,108,101,32,109,105,110,32,109,97,120,32] (([32]++word)++[32]) else some default)>>=fun x2=>
   some (bif (bif (!(word == [])) then (!x1) else false) then x2 else false)
  else none
 else none
theorem Ru {word res}(a:Ce word=some res):L0 C 154 [.d (.str word)] [] (Ret [] (.d (.bool res))):=by
 unfold Ce at a
 obtain ⟨x1,e,a⟩:=bs' a
 obtain ⟨g,a⟩:=M1j a
 obtain ⟨h,a⟩:=M1j a
 obtain ⟨x2,b,a⟩:=bs' a
 cases a
 refine L0.intro hC Tryz.func154 R R R (t' R (sg' 14 R (G' 4 R (AG.c R R (fun hg=>⟨hg,trivial⟩) (fun f=>L15 (G1 f e)) (a1' R (pa' R (G' 2 R (ag' R (fun hg=>⟨⟨hg,trivial⟩,(g hg)⟩) (ag' R (fun hg=>⟨⟨hg,trivial⟩,(h hg)⟩) (AG.c R R (fun hg=>⟨hg,trivial⟩) (fun f=>L15 (G1 f b)) (pa' R (a0' R (an' ?_)))))))))))))
 exact n' (re' (rq R))
def Q8 (s:Str)(n:Int)(v7:Int):Option Int:=
 if (decide (v7 < ((s).length:Int)))=true then
  idx s v7>>=fun x1=>
  Pd (x1.toNat:Int)>>=fun x2=>
  if (!x2)=true then
   some 6
  else
   idx s v7>>=fun x3=>
   Q8 s (min (IntKind.i64.wrap ((IntKind.i64.wrap (10 * n))+(IntKind.i64.wrap (IntKind.u8.wrap ((x3.toNat:Int) - 48))))) 1048577) (IntKind.i64.wrap (v7+1))
 else
  idx s 0>>=fun x4=>
  if (bif ((x4.toNat:Int) == 48) then (decide (((s).length:Int) > 1)) else false)=true then
   some 6
  else
   if (decide (n > 1048576))=true then
    some 3
   else
    some 0
 partial_fixpoint
abbrev Su (s:Str)(n:Int)(v7:Int)(res:Int):Prop:=LM C 37 0 Tryz.f156 [1,1,0,1,4] [(0,.d (.str s)),(3,.d (.int .i64 n)),(6,.d (.int .i64 ((s).length:Int))),(7,.d (.int .i64 v7))] [] (Ret [] (.d (.int .i64 res)))
theorem T15 (s:Str):(∀ n g b,Q8 s n g=some b→Su s n g b):=by
 refine Q8.partial_correctness s _ ?_
 ·intro k h n g b a
  refine Y0.unroll (t' R (S' (ci' R a (fun a=>?_) (fun a=>?_))))
  ·obtain ⟨x1,c,a⟩:=bs' a
   obtain ⟨x2,f,a⟩:=bs' a
   refine sk' (S' (bk' (t' R (S' (p' 2 R (x' R (D1 c) (X5 c) (cq (Yj f) R (e' R (ci' R a (fun a=>?_) (fun a=>?_))))))))))
   ·cases a
    exact t' R (re' (rq R))
   obtain ⟨j,e,a⟩:=bs' a
   exact sk' (P' 4 R (x' R (D1 e) (X5 e) (e' R (T' R (lq (h _ _ _ a) R)))))
  obtain ⟨i,d,a⟩:=bs' a
  refine ex' (S' (bk' (sg' 9 R (a0' R (AG.x hC R R (fun _=>trivial) (fun l=>⟨D1 d,X5 d⟩) (G' 3 R (a1' R (a1' R (pa' R (a0' R (an' (n' (ci' R a (fun a=>?_) (fun a=>?_))))))))))))))
  ·cases a
   exact t' R (re' (rq R))
  refine t' R (ci' R a (fun a=>?_) (fun a=>?_))
  ·cases a
   exact t' R (re' (rq R))
  cases a
  exact sk' (t' R (re' (rq R)))
theorem Q17 {s n v7 res}(a:Q8 s n v7=some res):Su s n v7 res:=(T15 s) _ _ _ a
def Xp (s:Str):Option Int:=
 Q8 s 0 0
theorem M1d {s res}(a:Xp s=some res):L0 C 156 [.d (.str s)] [] (Ret [] (.d (.int .i64 res))):=by
 unfold Xp at a
 exact L0.intro hC Tryz.func156 R R R (t' R (t' R (S' (t' R (bk' (fq (Q17 a) R))))))
def Kh (s:Str):Option Str:=
 idx s 0>>=fun x3=>
 Rz [59,58,44,46,61,43,45,42,47,37,60,62,33,63,40,41,91,93,123,125] (x3.toNat:Int)>>=fun x4=>
 if (decide (x4≥0))=true then
  slc s 0 1>>=fun x5=>
  some x5
 else
  some []
theorem Vw {s res}(a:Kh s=some res):JM C 24 0 Tryz.f157 [1,1] [(0,.d (.str s))] [] (Ret [] (.d (.str res))):=by
 unfold Kh at a
 obtain ⟨h,b,a⟩:=bs' a
 obtain ⟨f,c,a⟩:=bs' a
 refine S' (p' 1 R (x' R (D1 b) (X5 b) (cq (E1f c) R (e' R (ci' R a (fun a=>?_) (fun a=>?_))))))
 ·obtain ⟨g,e,a⟩:=bs' a
  cases a
  exact p' 1 R (E0.lx hC R e (e' R (re' (rq R))))
 cases a
 exact sk' (t' R (re' (rq R)))
def U9 (s:Str)(v8:Bool):Option Str:=
 if v8=true then
  slc s 0 2>>=fun x2=>
  some x2
 else
  Kh s
theorem Sb {s v8 res}(a:U9 s v8=some res):JM C 24 0 Tryz.f157 [1,0,1,2,1,4,1] [(0,.d (.str s)),(8,.d (.bool v8))] [] (Ret [] (.d (.str res))):=by
 unfold U9 at a
 refine ci' R a (fun a=>?_) (fun a=>?_)
 ·obtain ⟨x2,b,a⟩:=bs' a
  cases a
  exact p' 1 R (E0.lx hC R b (e' R (re' (rq R))))
 exact sk' (eq' (Vw a) R)
def Zj (s:Str):Option Str:=
 if (decide (((s).length:Int)≥2))=true then
  slc s 0 2>>=fun x1=>
  if (x1 == [46,46])=true then
   U9 s (x1 == [46,46])
  else
   if (x1 == [61,61])=true then
    U9 s (x1 == [61,61])
   else
    if (x1 == [33,61])=true then
     U9 s (x1 == [33,61])
    else
     if (x1 == [60,61])=true then
      U9 s (x1 == [60,61])
     else
      if (x1 == [62,61])=true then
       U9 s (x1 == [62,61])
      else
       if (x1 == [38,38])=true then
        U9 s (x1 == [38,38])
       else
        U9 s (x1 == [124,124])
 else
  Kh s
theorem E1i {s res}(a:Zj s=some res):L0 C 157 [.d (.str s)] [] (Ret [] (.d (.str res))):=by
 unfold Zj at a
 refine L0.intro hC Tryz.func157 R R R (t' R (S' (t' R (ci' R a (fun a=>?_) (fun a=>?_)))))
 ·obtain ⟨x1,b,a⟩:=bs' a
  refine p' 1 R (E0.lx hC R b (n' (bk' (S' (t' R (ci' R a (fun a=>?_) (fun a=>?_)))))))
  ·exact sk' (eq' (Sb a) R)
  refine t' R (ci' R a (fun a=>?_) (fun a=>?_))
  ·exact sk' (eq' (Sb a) R)
  refine t' R (ci' R a (fun a=>?_) (fun a=>?_))
  ·exact sk' (eq' (Sb a) R)
  refine t' R (ci' R a (fun a=>?_) (fun a=>?_))
  ·exact sk' (eq' (Sb a) R)
  refine t' R (ci' R a (fun a=>?_) (fun a=>?_))
  ·exact sk' (eq' (Sb a) R)
  refine t' R (ci' R a (fun a=>?_) (fun a=>?_))
  ·exact sk' (eq' (Sb a) R)
  exact T' R (eq' (Sb a) R)
 exact sk' (eq' (Vw a) R)
def Dn (s:Str)(i:Int):Option (I0×Int):=
 idx s i>>=fun x1=>
 Mg (x1.toNat:Int)>>=fun x2=>
 if x2=true then
  Lt s i>>=fun x3=>
  slc s i x3>>=fun x4=>
  Ce x4>>=fun x5=>
  if x5=true then
   some ((I0.mk 2 x4 i),0)
  else
   if (decide (((x4).length:Int) > 12))=true then
    some ((I0.mk 0 x4 i),7)
   else
    some ((I0.mk 0 x4 i),0)
 else
  Pd (x1.toNat:Int)>>=fun x6=>
  if x6=true then
   Lt s i>>=fun x7=>
   slc s i x7>>=fun x8=>
   Xp x8>>=fun x9=>
   some ((I0.mk 1 x8 i),x9)
  else
   slc s i ((s).length:Int)>>=fun x10=>
   Zj x10>>=fun x11=>
   if (x11 == [])=true then
    some ((I0.mk 3 x11 i),6)
   else
    some ((I0.mk 3 x11 i),0)
theorem F1i {s i res}(a:Dn s i=some res):L0 C 96 [.d (.str s),.d (.int .i64 i)] [] (Ret [] (.tup [.agg (I0.cells res.1),.d (.int .i64 res.2)])):=by
 unfold Dn at a
 obtain ⟨x1,e,a⟩:=bs' a
 obtain ⟨x2,l,a⟩:=bs' a
 refine L0.intro hC Tryz.func96 R R R (s' R R (E0.n hC R (e' R (p' 2 R (E0.n hC R (E0.s hC R (n' (S' (p' 2 R (x' R (D1 e) (X5 e) (e' R (bk' (p' 1 R ?_)))))))))))))
 refine cq (Mn l) R (e' R (ci' R a (fun a=>?_) (fun a=>?_)))
 ·obtain ⟨w,g,a⟩:=bs' a
  obtain ⟨r,j,a⟩:=bs' a
  obtain ⟨v,o,a⟩:=bs' a
  refine p' 4 R (cq (P17 g) R (E0.lx hC R j (q' R (E0.s hC R (n' (p' 2 R (cq (Ru o) R (n' (ci' R a (fun a=>?_) (fun a=>?_))))))))))
  ·cases a
   exact P' 1 R (E0.s hC R (n' (p' 1 R (E0.s hC R (e' R (re' (rq R)))))))
  refine t' R (ci' R a (fun a=>?_) (fun a=>?_))
  ·cases a
   exact p' 1 R (E0.s hC R (e' R (re' (rq R))))
  cases a
  exact sk' (p' 1 R (E0.s hC R (e' R (re' (rq R)))))
 obtain ⟨y,m,a⟩:=bs' a
 refine p' 1 R (cq (Yj m) R (e' R (ci' R a (fun a=>?_) (fun a=>?_))))
 ·obtain ⟨t,f,a⟩:=bs' a
  obtain ⟨x,k,a⟩:=bs' a
  obtain ⟨u,h,a⟩:=bs' a
  cases a
  refine p' 4 R (cq (P17 f) R (E0.lx hC R k (q' R (E0.s hC R (q' R (E0.s hC R (n' (S' (AEx.draw hC 4 R R R (O' 3 R (Qc' (M1d h) R R (Qn' (E0.s hC R ?_)))))))))))))
  exact e' R (re' (rq R))
 obtain ⟨p,c,a⟩:=bs' a
 obtain ⟨q,b,a⟩:=bs' a
 refine p' 2 R (E0.lx hC R c (cq (E1i b) R (q' R (E0.s hC R (q' R (E0.s hC R (n' (t' R (ci' R a (fun a=>?_) (fun a=>?_))))))))))
 ·cases a
  exact p' 1 R (E0.s hC R (e' R (re' (rq R))))
 cases a
 exact sk' (p' 1 R (E0.s hC R (e' R (re' (rq R)))))
mutual
def A6 (s:Str)(out:List I0)(i:Int):Option (List I0×Int×Int):=
 if (decide (i < ((s).length:Int)))=true then
  idx s i>>=fun x1=>
  if ((x1.toNat:Int) == 32)=true then
   Si s out i x1 ((x1.toNat:Int) == 32)
  else
   if ((x1.toNat:Int) == 9)=true then
    Si s out i x1 ((x1.toNat:Int) == 9)
   else
    Si s out i x1 ((x1.toNat:Int) == 10)
 else
  some (out,0,0)
 partial_fixpoint
def Si (s:Str)(out1:List I0)(i1:Int)(x1:UInt8)(v19:Bool):Option (List I0×Int×Int):=
 if v19=true then
  A6 s out1 (IntKind.i64.wrap (i1+1))
 else
  if ((x1.toNat:Int) == 35)=true then
   Te s out1 i1
  else
   Dn s i1>>=fun x2=>
   if (x2.2 != 0)=true then
    some ([],i1,x2.2)
   else
    if (decide ((out1.length+1) * 33≤140737488355328))=true then
     A6 s (out1++[x2.1]) (IntKind.i64.wrap (i1+((x2.1.Text).length:Int)))
    else none
 partial_fixpoint
def Te (s:Str)(out2:List I0)(i2:Int):Option (List I0×Int×Int):=
 (if (decide (i2 < ((s).length:Int)))=true then idx s i2 else some default)>>=fun x3=>
 if (bif (decide (i2 < ((s).length:Int))) then ((x3.toNat:Int) != 10) else false)=true then
  Te s out2 (IntKind.i64.wrap (i2+1))
 else
  A6 s out2 i2
 partial_fixpoint
end
abbrev I11 (s:Str)(out:List I0)(i:Int)(res:List I0×Int×Int):Prop:=LM C 59 0 Tryz.f63 [1,1,1,0,1,4] [(0,.d (.str s)),(5,.osl 0 (I0.rows out)),(6,.d (.int .i64 i))] [.tok 123 3] (Ret [] (.tup [.d (.sl (I0.rows res.1)),.d (.int .i64 res.2.1),.d (.int .i64 res.2.2)]))
abbrev G1f (s:Str)(out1:List I0)(i1:Int)(x1:UInt8)(v19:Bool)(res:List I0×Int×Int):Prop:=JM C 59 0 Tryz.f63 [1,1,1,0,1,4,5,1,4,0,1,4,1] [(0,.d (.str s)),(5,.osl 0 (I0.rows out1)),(6,.d (.int .i64 i1)),(18,.d (.int .u8 (x1.toNat:Int))),(19,.d (.bool v19))] [.tok 123 3] (Ret [] (.tup [.d (.sl (I0.rows res.1)),.d (.int .i64 res.2.1),.d (.int .i64 res.2.2)]))
abbrev H1f (s:Str)(out2:List I0)(i2:Int)(res:List I0×Int×Int):Prop:=LM C 59 0 Tryz.f63 [1,1,1,0,1,4,5,1,4,0,1,4,1,3,1,2,0,4] [(0,.d (.str s)),(5,.osl 0 (I0.rows out2)),(6,.d (.int .i64 i2))] [.tok 123 3] (Ret [] (.tup [.d (.sl (I0.rows res.1)),.d (.int .i64 res.2.1),.d (.int .i64 res.2.2)]))
theorem M1b (s:Str):(∀ out i b,A6 s out i=some b→I11 s out i b)∧(∀ c m x1 h b,Si s c m x1 h=some b→G1f s c m x1 h b)∧(∀ e p b,Te s e p=some b→H1f s e p b):=by
 refine A6.mutual_partial_correctness s _ _ _ ?_ ?_ ?_
 ·intro w j out i b a
  refine Y0.unroll (S' (t' R (ci' R a (fun a=>?_) (fun a=>?_))))
  ·obtain ⟨x1,l,a⟩:=bs' a
   refine sk' (bk' (S' (p' 2 R (x' R (D1 l) (X5 l) (n' (bk' (S' (t' R (ci' R a (fun a=>?_) (fun a=>?_))))))))))
   ·exact sk' (eq' (j _ _ _ _ _ a) R)
   refine t' R (ci' R a (fun a=>?_) (fun a=>?_))
   ·exact sk' (eq' (j _ _ _ _ _ a) R)
   exact T' R (eq' (j _ _ _ _ _ a) R)
  refine ex' (t' R (re' ?_))
  have o:=oi' a
  subst o
  exact ⟨_,.tup [.d (.sl (I0.rows out)),.d (.int .i64 0),.d (.int .i64 0)],[],R,(.tupL ⟨.osl,.rfl,.rfl,trivial⟩),trivial,R,R,R,R⟩
 ·intro v u f g c m x1 h b a
  refine ci' R a (fun a=>?_) (fun a=>?_)
  ·exact t' R (ex' (lq (f _ _ _ a) R))
  refine t' R (ci' R a (fun a=>?_) (fun a=>?_))
  ·exact S' (bk' (fq (g _ _ _ a) R))
  obtain ⟨x2,q,a⟩:=bs' a
  refine sk' (p' 2 R (cq (F1i q) R (o' 3 R (E0.n hC R (E0.s hC R (e' R (S' (t' R (ci' R a (fun a=>?_) (fun a=>?_))))))))))
  ·refine t' R (re' ?_)
   have o:=oi' a
   subst o
   exact ⟨_,.tup [.d (.sl (I0.rows [])),.d (.int .i64 m),.d (.int .i64 x2.2)],[],R,(.tupL ⟨.full,.rfl,.rfl,trivial⟩),trivial,R,R,R,R⟩
  obtain ⟨t,a⟩:=Z0 a
  exact sk' (p' 2 R (E0.be hC R (I0.rows_map [x2.1]).symm (E0.ap hC R (rs:=I0.rows (c++[x2.1])) (I0.app c [x2.1]) (I0.sz c) (I0.sz [x2.1]) (N1 (I0.len c) (I0.len [x2.1]) t) (e' R (T' R (lq (f _ _ _ a) R))))))
 ·intro v u f g e p b a
  obtain ⟨y,k,a⟩:=bs' a
  refine Y0.unroll (S' (sg' 10 R (G' 7 R (AG.x hC R R (fun hg=>⟨hg,hg,trivial⟩) (fun r=>⟨D1 (G1 r k),X5 (G1 r k)⟩) (a1' R (pa' R (an' (n' (ci' R a (fun a=>?_) (fun a=>?_))))))))))
  ·exact sk' (bk' (T' R (lq (g _ _ _ a) R)))
  exact ex' (ex' (lq (f _ _ _ a) R))
theorem N1d {s out i res}(a:A6 s out i=some res):I11 s out i res:=(M1b s).1 _ _ _ a
def Cp (s:Str):Option (List I0×Int×Int):=
 if (decide (((s).length:Int) > 8192))=true then
  some ([],0,5)
 else
  A6 s [] 0
theorem K1k {s res}(a:Cp s=some res):L0 C 63 [.d (.str s)] [] (Ret [] (.tup [.d (.sl (I0.rows res.1)),.d (.int .i64 res.2.1),.d (.int .i64 res.2.2)])):=by
 unfold Cp at a
 refine L0.intro hC Tryz.func63 R R R (t' R (S' (t' R (ci' R a (fun a=>?_) (fun a=>?_)))))
 ·refine t' R (re' ?_)
  have b:=oi' a
  subst b
  exact ⟨_,.tup [.d (.sl (I0.rows [])),.d (.int .i64 0),.d (.int .i64 5)],[],R,(.tupL ⟨.full,.rfl,.rfl,trivial⟩),trivial,R,R,R,R⟩
 exact sk' (p' 1 R (E0.tokE 5 123 3 R (n' (S' (t' R (bk' (fq (N1d a) R)))))))
def De (text:Str)(parserParser:D0):Option Bool:=
 if (decide (parserParser.next≥((parserParser.tokens).length:Int)))=true then
  some false
 else
  idx parserParser.tokens parserParser.next>>=fun x1=>
  some (bif (x1.Text == text) then (bif (x1.Kind == 2) then true else (x1.Kind == 3)) else false)
theorem Ar {text parserParser res}(a:De text parserParser=some res):L0 C 158 [.ref 0 0,.d (.str text)] [.row (D0.cells parserParser) 112] (Ret [.row (D0.cells parserParser) 112] (.d (.bool res))):=by
 unfold De at a
 refine L0.intro hC Tryz.func158 R R R (t' R (S' (S' (AEx.draw hC 10 R R R (O' 8 R (AQ.qe hC R trivial (I0.lenA _) (E' R (n' (ci' R a (fun a=>?_) (fun a=>?_))))))))))
 ·cases a
  exact t' R (re' (rq R))
 obtain ⟨x1,b,a⟩:=bs' a
 cases a
 refine sk' (S' (AEx.drawL hC 11 [] [(10,1)] [[.row (D0.cells parserParser) 112,.row [.d (.int .i64 0),.d (.str []),.d (.int .i64 0)] 123]] R R R R R R R R R R (AS.q hC R R R R (AS.q hC R R R R (AS.q hC R R R R (AS.q hC R R R R (AS.q hC R R R R (AS.q hC R R R R (AS.q hC R R R R (AS.q hC R R R R ?_))))))))))
 refine AS.ix hC R (D1 b) (I0.idx b) R R R (AS.q hC R R R R (AS.n hC R R R R (AS.nil (E0.s hC R (n' (sg' 15 R (G' 6 R (a1' R (a1' R (a1' R (a0' R (a1' R (a1' R ?_)))))))))))))
 exact pO' R (pa' R (a0' R (an' (n' (re' (rq R))))))
def R0 (text:Str)(parserParser:D0):Option (Bool×D0):=
 De text parserParser>>=fun x1=>
 if (!x1)=true then
  some (false,parserParser)
 else
  some (true,(D0.mk parserParser.tokens (IntKind.i64.wrap (parserParser.next+1)) parserParser.endV))
theorem T0 {text parserParser res}(a:R0 text parserParser=some res):L0 C 97 [.ref 0 0,.d (.str text)] [.row (D0.cells parserParser) 112] (Ret [.row (D0.cells res.2) 112] (.d (.bool res.1))):=by
 unfold R0 at a
 obtain ⟨x1,b,a⟩:=bs' a
 refine L0.intro hC Tryz.func97 R R R (t' R (S' (p' 2 R (gq [0] (Ar b) R (e' R (ci' R a (fun a=>?_) (fun a=>?_)))))))
 ·cases a
  exact t' R (re' (rq R))
 cases a
 exact sk' (p' 7 R (E0.s hC R (n' (t' R (re' (rq R))))))
def H9 (parserParser:D0):Option (Pn Unit):=
 if (decide (parserParser.next < ((parserParser.tokens).length:Int)))=true then
  idx parserParser.tokens parserParser.next>>=fun x1=>
  some (.pn x1.At)
 else
  some (.pn parserParser.endV)
theorem Y8 {parserParser res}(a:H9 parserParser=some res):F2 C 65 [.ref 0 0] [.row (D0.cells parserParser) 112] (X4 res (fun c=>[.row (D0.cells parserParser) 112]) (fun c=>.tup [])) (P4 res N3 [.row (D0.cells parserParser) 112]):=by
 unfold H9 at a
 refine F2.intro hC Tryz.func65 R R R (t' R (S' (S' (AEx.draw hC 10 R R R (O' 8 R (AQ.qe hC R trivial (I0.lenA _) (E' R (n' (ci' R a (fun a=>?_) (fun a=>?_))))))))))
 ·obtain ⟨x1,b,a⟩:=bs' a
  cases a
  exact AEx.draw hC 12 R R R (O' 8 R (AQ.i hC R (D1 b) (I0.idx b) R (E' R (n' (P' 2 R (pn' hC R ((fun hi=>pe' R R hi))))))))
 cases a
 exact sk' (P' 2 R (pn' hC R ((fun hi=>pe' R R hi))))
def Zb (parserParser:D0):Option (Pn (Str×D0)):=
 idx parserParser.tokens (IntKind.i64.wrap ((IntKind.i64.wrap (parserParser.next+1)) - 1))>>=fun x3=>
 some (.ok (x3.Text,(D0.mk parserParser.tokens (IntKind.i64.wrap (parserParser.next+1)) parserParser.endV)))
theorem Fm {parserParser res}(b:Zb parserParser=some res):JMp C 51 1 Tryz.f159 [1,1] [(0,.ref 0 0)] [.row (D0.cells parserParser) 112] (X4 res (fun c=>[.row (D0.cells c.2) 112]) (fun c=>.d (.str c.1))) (P4 res N3 [.row (D0.cells parserParser) 112]):=by
 unfold Zb at b
 obtain ⟨e,a,b⟩:=bs' b
 cases b
 exact p' 7 R (E0.s hC R (n' (S' (AEx.draw hC 13 R R R (O' 9 R (AQ.i hC R (D1 a) (I0.idx a) R (E' R (n' (re' (rq R))))))))))
def Ac (k:Int)(parserParser:D0):Option (Pn (Str×D0)):=
 (if (!(decide (parserParser.next≥((parserParser.tokens).length:Int))))=true then idx parserParser.tokens parserParser.next else some default)>>=fun x1=>
 if (bif (decide (parserParser.next≥((parserParser.tokens).length:Int))) then true else (x1.Kind != k))=true then
  H9 parserParser>>=fun x2=>match x2 with
  | .pn nn=>
  some (.pn nn)
  | .ok x2=>
  Zb parserParser
 else
  Zb parserParser
theorem Gf {k parserParser res}(a:Ac k parserParser=some res):F2 C 159 [.ref 0 0,.d (.int .i64 k)] [.row (D0.cells parserParser) 112] (X4 res (fun e=>[.row (D0.cells e.2) 112]) (fun e=>.d (.str e.1))) (P4 res N3 [.row (D0.cells parserParser) 112]):=by
 unfold Ac at a
 obtain ⟨x1,c,a⟩:=bs' a
 refine F2.intro hC Tryz.func159 R R R (t' R (S' (S' (AEx.drawG hC 25 R R R (G' 8 R (AG.qe hC R (fun hg=>⟨trivial,trivial⟩) (I0.lenA _) (G' 3 R (a1' R (a1' R (a1' R (a0' R (a1' R (a1' R ?_)))))))))))))
 refine a1' R (AG.i hC R R (fun hg=>⟨hg,hg,trivial⟩) (fun f=>⟨D1 (G1 f c),I0.idx (G1 f c),R⟩) (a1' R (a1' R (a0' R (a2' R (po' R (an' (n' (ci' R a (fun a=>?_) (fun a=>?_))))))))))
 ·refine P' 1 R ?_
  rcases bp' a with ⟨nn,b,⟨⟩⟩ | ⟨x2,b,a⟩
  ·exact gr [0] (Y8 b) R (fun hi=>pe' R R hi)
  exact gq [0] ((Y8 b).ok) R (n' (eq' (Fm a) R))
 exact sk' (eq' (Fm a) R)
def H3 (parserParser:D0):Option (Pn (Str×D0)):=
 Ac 0 parserParser>>=fun x1=>match x1 with
 | .pn nn=>
 some (.pn nn)
 | .ok x1=>
 some (.ok (x1.1,x1.2))
theorem I1 {parserParser res}(b:H3 parserParser=some res):F2 C 98 [.ref 0 0] [.row (D0.cells parserParser) 112] (X4 res (fun c=>[.row (D0.cells c.2) 112]) (fun c=>.d (.str c.1))) (P4 res N3 [.row (D0.cells parserParser) 112]):=by
 unfold H3 at b
 refine F2.intro hC Tryz.func98 R R R (t' R (p' 1 R ?_))
 rcases bp' b with ⟨nn,a,⟨⟩⟩ | ⟨x1,a,b⟩
 ·exact gr [0] (Gf a) R (fun hi=>pe' R R hi)
 cases b
 exact gq [0] ((Gf a).ok) R (e' R (re' (rq R)))
def U0 (text:Str)(parserParser:D0):Option (Pn D0):=
 R0 text parserParser>>=fun x1=>
 if (!x1.1)=true then
  H9 x1.2>>=fun x2=>match x2 with
  | .pn nn=>
  some (.pn nn)
  | .ok x2=>
  some (.ok x1.2)
 else
  some (.ok x1.2)
theorem K0 {text parserParser res}(a:U0 text parserParser=some res):F2 C 67 [.ref 0 0,.d (.str text)] [.row (D0.cells parserParser) 112] (X4 res (fun e=>[.row (D0.cells e) 112]) (fun e=>.tup [])) (P4 res N3 [.dead]):=by
 unfold U0 at a
 obtain ⟨x1,c,a⟩:=bs' a
 refine F2.intro hC Tryz.func67 R R R (p' 2 R (gq [0] (T0 c) R (e' R (ci' R a (fun a=>?_) (fun a=>?_)))))
 ·refine P' 1 R ?_
  rcases bp' a with ⟨nn,b,⟨⟩⟩ | ⟨x2,b,a⟩
  ·exact gr [0] (Y8 b) R (peW ⟨trivial,trivial⟩ R)
  cases a
  exact gq [0] ((Y8 b).ok) R (n' (rn' R R R))
 cases a
 exact sk' (rn' R R R)
def P7 (parserParser:D0):Option (Pn (Int×D0)):=
 Ac 1 parserParser>>=fun x1=>match x1 with
 | .pn nn=>
 some (.pn nn)
 | .ok x1=>
 O17 x1.1>>=fun x2=>
 some (.ok (x2,x1.2))
theorem N7 {parserParser res}(b:P7 parserParser=some res):F2 C 200 [.ref 0 0] [.row (D0.cells parserParser) 112] (X4 res (fun c=>[.row (D0.cells c.2) 112]) (fun c=>.d (.int .i64 c.1))) (P4 res N3 [.row (D0.cells parserParser) 112]):=by
 unfold P7 at b
 refine F2.intro hC Tryz.func200 R R R (t' R (p' 1 R ?_))
 rcases bp' b with ⟨nn,a,⟨⟩⟩ | ⟨x1,a,b⟩
 ·exact gr [0] (Gf a) R (fun hi=>pe' R R hi)
 obtain ⟨x2,e,b⟩:=bs' b
 cases b
 exact gq [0] ((Gf a).ok) R (cq (R1r e) R (e' R (t' R (re' (rq R)))))
def U2 (parserParser:D0):Option (Pn (Int×D0)):=
 R0 [45] parserParser>>=fun x1=>
 if x1.1=true then
  P7 x1.2>>=fun x2=>match x2 with
  | .pn nn=>
  some (.pn nn)
  | .ok x2=>
  some (.ok ((IntKind.i64.wrap (0 - x2.1)),x2.2))
 else
  P7 x1.2>>=fun x3=>match x3 with
  | .pn nn=>
  some (.pn nn)
  | .ok x3=>
  some (.ok (x3.1,x3.2))
theorem E1 {parserParser res}(a:U2 parserParser=some res):F2 C 160 [.ref 0 0] [.row (D0.cells parserParser) 112] (X4 res (fun e=>[.row (D0.cells e.2) 112]) (fun e=>.d (.int .i64 e.1))) (P4 res N3 [.dead]):=by
 unfold U2 at a
 obtain ⟨x1,f,a⟩:=bs' a
 refine F2.intro hC Tryz.func160 R R R (t' R (S' (p' 1 R (gq [0] (T0 f) R (n' (ci' R a (fun a=>?_) (fun a=>?_)))))))
 ·refine p' 1 R ?_
  rcases bp' a with ⟨nn,b,⟨⟩⟩ | ⟨x2,b,a⟩
  ·exact gr [0] (N7 b) R (peW ⟨trivial,trivial⟩ R)
  cases a
  exact gq [0] ((N7 b).ok) R (e' R (re' (rq R)))
 refine sk' (p' 1 R ?_)
 rcases bp' a with ⟨nn,c,⟨⟩⟩ | ⟨g,c,a⟩
 ·exact gr [0] (N7 c) R (peW ⟨trivial,trivial⟩ R)
 cases a
 exact gq [0] ((N7 c).ok) R (e' R (re' (rq R)))
mutual
def L5 (parserParser:D0):Option (Pn (F0×D0)):=
 R0 [98,111,111,108] parserParser>>=fun x1=>
 if x1.1=true then
  some (.ok ((F0.mk 0 0 0 0 [] [] []),x1.2))
 else
  R0 [105,110,116] x1.2>>=fun x2=>
  if x2.1=true then
   U0 [91] x2.2>>=fun x3=>match x3 with
   | .pn nn=>
   some (.pn nn)
   | .ok x3=>
   U2 x3>>=fun x4=>match x4 with
   | .pn nn=>
   some (.pn nn)
   | .ok x4=>
   U0 [46,46] x4.2>>=fun x5=>match x5 with
   | .pn nn=>
   some (.pn nn)
   | .ok x5=>
   U2 x5>>=fun x6=>match x6 with
   | .pn nn=>
   some (.pn nn)
   | .ok x6=>
   U0 [93] x6.2>>=fun x7=>match x7 with
   | .pn nn=>
   some (.pn nn)
   | .ok x7=>
   some (.ok ((F0.mk 1 x4.1 x6.1 0 [] [] []),x7))
  else
   R0 [97,114,114,97,121] x2.2>>=fun x8=>
   if x8.1=true then
    U2 x8.2>>=fun x9=>match x9 with
    | .pn nn=>
    some (.pn nn)
    | .ok x9=>
    U0 [111,102] x9.2>>=fun x10=>match x10 with
    | .pn nn=>
    some (.pn nn)
    | .ok x10=>
    L5 x10>>=fun x16=>match x16 with
    | .pn nn=>
    some (.pn nn)
    | .ok x16=>
    some (.ok ((F0.mk 2 0 0 x9.1 [] [] [x16.1]),x16.2))
   else
    R0 [114,101,99,111,114,100] x8.2>>=fun x11=>
    if x11.1=true then
     U0 [123] x11.2>>=fun x12=>match x12 with
     | .pn nn=>
     some (.pn nn)
     | .ok x12=>
     Y9 x12 [] []
    else
     H3 x11.2>>=fun x13=>match x13 with
     | .pn nn=>
     some (.pn nn)
     | .ok x13=>
     some (.ok ((F0.mk 4 0 0 0 x13.1 [] []),x13.2))
 partial_fixpoint
def Y9 (o0:D0)(o2_Names:List Str)(o2_Of:List F0):Option (Pn (F0×D0)):=
 H3 o0>>=fun x14=>match x14 with
 | .pn nn=>
 some (.pn nn)
 | .ok x14=>
 U0 [58] x14.2>>=fun x15=>match x15 with
 | .pn nn=>
 some (.pn nn)
 | .ok x15=>
 L5 x15>>=fun x17=>match x17 with
 | .pn nn=>
 some (.pn nn)
 | .ok x17=>
 if (decide ((o2_Names.length+1) * 17≤140737488355328))=true then
  if (decide ((o2_Of.length+1) * 97≤140737488355328))=true then
   R0 [44] x17.2>>=fun x18=>
   if (!x18.1)=true then
    U0 [125] x18.2>>=fun x19=>match x19 with
    | .pn nn=>
    some (.pn nn)
    | .ok x19=>
    some (.ok ((F0.mk 3 0 0 0 [] (o2_Names++[x14.1]) (o2_Of++[x17.1])),x19))
   else
    Y9 x18.2 (o2_Names++[x14.1]) (o2_Of++[x17.1])
  else none
 else none
 partial_fixpoint
end
abbrev Br (parserParser:D0)(res:Pn (F0×D0)):Prop:=F2 C 99 [.ref 0 0] [.row (D0.cells parserParser) 112] (X4 res (fun rr=>[.row (D0.cells rr.2) 112]) (fun rr=>.agg (F0.cells rr.1))) (P4 res N3 [.dead])
abbrev Tz (o0:D0)(o2_Names:List Str)(o2_Of:List F0)(res:Pn (F0×D0)):Prop:=LMp C 74 1 Tryz.f99 [1,0,4,1,3,1,3,1,3,1,2,1,1,0,4] [(0,.ref 0 0),(2,.ref 1 0),(6,.ref 2 0)] [.row (D0.cells o0) 112,.row [.d (.int .i64 0),.d (.int .i64 0),.d (.int .i64 0),.d (.int .i64 0),.d (.str []),.full (estr.rows []),.full (F0.rows [])] 76,.row [.d (.int .i64 3),.d (.int .i64 0),.d (.int .i64 0),.d (.int .i64 0),.d (.str []),.osl 3 (estr.rows o2_Names),.osl 4 (F0.rows o2_Of)] 76,.tok 9 1,.tok 76 7] (X4 res (fun rr=>[.row (D0.cells rr.2) 112]) (fun rr=>.agg (F0.cells rr.1))) (P4 res N3 [.dead])
theorem J11:(∀ f h,L5 f=some h→Br f h)∧(∀ G b e h,Y9 G b e=some h→Tz G b e h):=by
 refine L5.mutual_partial_correctness _ _ ?_ ?_
 ·intro Y V l C f h c
  obtain ⟨x1,N,c⟩:=bs' c
  refine F2.intro hC Tryz.func99 R R R (s' R R (E0.nf hC R (n' (S' (bk' (p' 1 R (gq [0] (T0 N) R (e' R (ci' R c (fun c=>?_) (fun c=>?_))))))))))
  ·refine s' R R (E0.bz hC R (E0.s hC R (n' (re' ?_))))
   have u:=oi' c
   subst u
   exact ⟨_,.agg [.d (.int .i64 0),.d (.int .i64 0),.d (.int .i64 0),.d (.int .i64 0),.d (.str []),.d (.sl (estr.rows [])),.d (.sl (F0.rows []))],[.row (D0.cells x1.2) 112],R,(.aggL ⟨.rfl,.rfl,.rfl,.rfl,.rfl,.full,.full,trivial⟩),⟨⟨R,.refl _,R⟩,trivial⟩,R,R,rpq R R⟩
  obtain ⟨x2,M,c⟩:=bs' c
  refine p' 1 R (gq [0] (T0 M) R (e' R (ci' R c (fun c=>?_) (fun c=>?_))))
  ·refine p' 1 R ?_
   rcases bp' c with ⟨nn,y,⟨⟩⟩ | ⟨x3,y,c⟩
   ·exact gr [0] (K0 y) R (peW ⟨trivial,trivial⟩ R)
   refine gq [0] ((K0 y).ok) R (n' (p' 1 R ?_))
   rcases bp' c with ⟨nn,A,⟨⟩⟩ | ⟨P,A,c⟩
   ·exact gr [0] (E1 A) R (peW ⟨trivial,trivial⟩ R)
   refine gq [0] ((E1 A).ok) R (e' R (p' 1 R ?_))
   rcases bp' c with ⟨nn,v,⟨⟩⟩ | ⟨x5,v,c⟩
   ·exact gr [0] (K0 v) R (peW ⟨trivial,trivial⟩ R)
   refine gq [0] ((K0 v).ok) R (n' (p' 1 R ?_))
   rcases bp' c with ⟨nn,B,⟨⟩⟩ | ⟨Q,B,c⟩
   ·exact gr [0] (E1 B) R (peW ⟨trivial,trivial⟩ R)
   refine gq [0] ((E1 B).ok) R (e' R (p' 1 R ?_))
   rcases bp' c with ⟨nn,w,⟨⟩⟩ | ⟨S,w,c⟩
   ·exact gr [0] (K0 w) R (peW ⟨trivial,trivial⟩ R)
   refine gq [0] ((K0 w).ok) R (n' (p' 2 R (E0.bz hC R (E0.s hC R (n' (re' ?_))))))
   have u:=oi' c
   subst u
   exact ⟨_,.agg [.d (.int .i64 1),.d (.int .i64 P.1),.d (.int .i64 Q.1),.d (.int .i64 0),.d (.str []),.d (.sl (estr.rows [])),.d (.sl (F0.rows []))],[.row (D0.cells S) 112],R,(.aggL ⟨.rfl,.rfl,.rfl,.rfl,.rfl,.full,.full,trivial⟩),⟨⟨R,.refl _,R⟩,trivial⟩,R,R,rpq R R⟩
  obtain ⟨x8,J,c⟩:=bs' c
  refine p' 1 R (gq [0] (T0 J) R (e' R (ci' R c (fun c=>?_) (fun c=>?_))))
  ·refine p' 1 R ?_
   rcases bp' c with ⟨nn,z,⟨⟩⟩ | ⟨T,z,c⟩
   ·exact gr [0] (E1 z) R (peW ⟨trivial,trivial⟩ R)
   refine gq [0] ((E1 z).ok) R (e' R (p' 1 R ?_))
   rcases bp' c with ⟨nn,p,⟨⟩⟩ | ⟨X,p,c⟩
   ·exact gr [0] (K0 p) R (peW ⟨trivial,trivial⟩ R)
   refine gq [0] ((K0 p).ok) R (n' (p' 2 R ?_))
   rcases bp' c with ⟨nn,k,⟨⟩⟩ | ⟨x,k,c⟩
   ·exact gr [0] (l _ _ k) R (peW ⟨trivial,trivial⟩ R)
   refine gq [0] ((l _ _ k).ok) R (E0.be hC R (F0.rows_map [x.1]).symm (E0.bz hC R (E0.s hC R (n' (re' ?_)))))
   have u:=oi' c
   subst u
   exact ⟨_,.agg [.d (.int .i64 2),.d (.int .i64 0),.d (.int .i64 0),.d (.int .i64 T.1),.d (.str []),.d (.sl (estr.rows [])),.d (.sl (F0.rows [x.1]))],[.row (D0.cells x.2) 112],R,(.aggL ⟨.rfl,.rfl,.rfl,.rfl,.rfl,.full,.full,trivial⟩),⟨⟨R,.refl _,R⟩,trivial⟩,R,R,rpq R R⟩
  obtain ⟨Z,F,c⟩:=bs' c
  refine p' 1 R (gq [0] (T0 F) R (e' R (ci' R c (fun c=>?_) (fun c=>?_))))
  ·refine s' R R (E0.bz hC R (E0.nf hC R (E0.s hC R (E0.tokC 2 5 9 1 R R R R R (E0.tokC 2 6 76 7 R R R R R (n' (p' 1 R ?_)))))))
   rcases bp' c with ⟨nn,n,⟨⟩⟩ | ⟨U,n,c⟩
   ·exact gr [0] (K0 n) R (peW ⟨trivial,trivial⟩ R)
   exact gq [0] ((K0 n).ok) R (n' (S' (bk' (fq (C _ _ _ _ c) R))))
  refine sk' (p' 1 R ?_)
  rcases bp' c with ⟨nn,o,⟨⟩⟩ | ⟨E,o,c⟩
  ·exact gr [0] (I1 o) R (peW ⟨trivial,trivial⟩ R)
  refine gq [0] ((I1 o).ok) R (E0.bz hC R (E0.s hC R (n' (re' ?_))))
  have u:=oi' c
  subst u
  exact ⟨_,.agg [.d (.int .i64 4),.d (.int .i64 0),.d (.int .i64 0),.d (.int .i64 0),.d (.str E.1),.d (.sl (estr.rows [])),.d (.sl (F0.rows []))],[.row (D0.cells E.2) 112],R,(.aggL ⟨.rfl,.rfl,.rfl,.rfl,.rfl,.full,.full,trivial⟩),⟨⟨R,.refl _,R⟩,trivial⟩,R,R,rpq R R⟩
 ·intro Y V l C G b e h c
  refine Y0.unroll (bk' (p' 1 R ?_))
  rcases bp' c with ⟨nn,m,⟨⟩⟩ | ⟨i,m,c⟩
  ·exact gr [0] (I1 m) R (peW ⟨trivial,trivial⟩ R)
  refine gq [0] ((I1 m).ok) R (e' R (p' 1 R ?_))
  rcases bp' c with ⟨nn,r,⟨⟩⟩ | ⟨a0,r,c⟩
  ·exact gr [0] (K0 r) R (peW ⟨trivial,trivial⟩ R)
  refine gq [0] ((K0 r).ok) R (n' (p' 1 R ?_))
  rcases bp' c with ⟨nn,t,⟨⟩⟩ | ⟨g,t,c⟩
  ·exact gr [0] (l _ _ t) R (peW ⟨trivial,trivial⟩ R)
  obtain ⟨W,c⟩:=Z0 c
  obtain ⟨O,c⟩:=Z0 c
  obtain ⟨I,D,c⟩:=bs' c
  refine gq [0] ((l _ _ t).ok) R (E0.nf hC R (E0.s hC R (n' (S' ?_))))
  refine AEx.drawL hC 11 [4,9] [] [[.row (D0.cells g.2) 112,.row [.d (.int .i64 0),.d (.int .i64 0),.d (.int .i64 0),.d (.int .i64 0),.d (.str []),.full (estr.rows []),.full (F0.rows [])] 76,.row [.d (.int .i64 3),.d (.int .i64 0),.d (.int .i64 0),.d (.int .i64 0),.d (.str []),.osl 3 (estr.rows b),.osl 4 (F0.rows e)] 76,.tok 9 1,.tok 76 7,.row (F0.cells g.1) 76],[.row (D0.cells g.2) 112,.row [.d (.int .i64 0),.d (.int .i64 0),.d (.int .i64 0),.d (.int .i64 0),.d (.str []),.full (estr.rows []),.full (F0.rows [])] 76,.row [.d (.int .i64 3),.d (.int .i64 0),.d (.int .i64 0),.d (.int .i64 0),.d (.str []),.osl 3 (estr.rows b),.osl 4 (F0.rows e)] 76,.dead,.tok 76 7,.row (F0.cells g.1) 76,.tok 9 1],[.row (D0.cells g.2) 112,.row [.d (.int .i64 0),.d (.int .i64 0),.d (.int .i64 0),.d (.int .i64 0),.d (.str []),.full (estr.rows []),.full (F0.rows [])] 76,.row [.d (.int .i64 3),.d (.int .i64 0),.d (.int .i64 0),.d (.int .i64 0),.d (.str []),.osl 3 (estr.rows b),.osl 4 (F0.rows e)] 76,.dead,.dead,.row (F0.cells g.1) 76,.tok 9 1,.tok 76 7]] R R R R R R R R R R ?_
  refine AS.q hC R R R R (AS.q hC R R R R (AS.q hC R R R R (AS.a R (fun H=>AQ.be hC R (estr.rows_map [i.1]).symm (AQ.nil R)) R R (AS.am hC R R R R R (rs:=estr.rows (b++[i.1])) (estr.app b [i.1]) (estr.sz b) (estr.sz [i.1]) (N1 (estr.len b) (estr.len [i.1]) W) R R (AS.q hC R R R R (AS.q hC R R R R ?_))))))
  refine AS.q hC R R R R (AS.a R (fun H=>AQ.be hC R (F0.rows_map [g.1]).symm (AQ.nil R)) R R (AS.am hC R R R R R (rs:=F0.rows (e++[g.1])) (F0.app e [g.1]) (F0.sz e) (F0.sz [g.1]) (N1 (F0.len e) (F0.len [g.1]) O) R R (AS.q hC R R R R (AS.nil (E0.s hC R (q' R (E0.s hC R (n' (p' 1 R ?_)))))))))
  refine gq [0] (T0 D) R (e' R (ci' R c (fun c=>?_) (fun c=>?_)))
  ·refine ex' (p' 1 R ?_)
   rcases bp' c with ⟨nn,j,⟨⟩⟩ | ⟨K,j,c⟩
   ·exact gr [0] (K0 j) R (peW ⟨trivial,trivial⟩ R)
   refine gq [0] ((K0 j).ok) R (n' (p' 1 R (E0.s hC R (n' (re' ?_)))))
   have u:=oi' c
   subst u
   exact ⟨_,.agg [.d (.int .i64 3),.d (.int .i64 0),.d (.int .i64 0),.d (.int .i64 0),.d (.str []),.d (.sl (estr.rows (b++[i.1]))),.d (.sl (F0.rows (e++[g.1])))],[.row (D0.cells K) 112],R,(.aggL ⟨.rfl,.rfl,.rfl,.rfl,.rfl,.osl,.osl,trivial⟩),⟨⟨R,.refl _,R⟩,trivial⟩,R,R,rpq R R⟩
  refine sk' ?_
  refine Y0.rj (L:=[(0,.ref 0 0),(2,.ref 1 0),(6,.ref 2 0)]) (H2:=[.row (D0.cells I.2) 112,.row [.d (.int .i64 0),.d (.int .i64 0),.d (.int .i64 0),.d (.int .i64 0),.d (.str []),.full (estr.rows []),.full (F0.rows [])] 76,.row [.d (.int .i64 3),.d (.int .i64 0),.d (.int .i64 0),.d (.int .i64 0),.d (.str []),.osl 3 (estr.rows (b++[i.1])),.osl 4 (F0.rows (e++[g.1]))] 76,.tok 9 1,.tok 76 7]) [0,1,2,6,7] ?_ R R R R
  exact lq (C _ _ _ _ c) R
theorem Z9 {parserParser res}(a:L5 parserParser=some res):Br parserParser res:=(J11).1 _ _ a
def X2 (kind:Int)(parserParser:D0):Option (Pn (B0×D0)):=
 H3 parserParser>>=fun x1=>match x1 with
 | .pn nn=>
 some (.pn nn)
 | .ok x1=>
 U0 [58] x1.2>>=fun x2=>match x2 with
 | .pn nn=>
 some (.pn nn)
 | .ok x2=>
 L5 x2>>=fun x3=>match x3 with
 | .pn nn=>
 some (.pn nn)
 | .ok x3=>
 some (.ok ((B0.mk kind x1.1 x3.1 0 (A0.mk 0 0 [] []) [] [] []),x3.2))
theorem C1 {kind parserParser res}(a:X2 kind parserParser=some res):F2 C 100 [.ref 0 0,.d (.int .i64 kind)] [.row (D0.cells parserParser) 112] (X4 res (fun f=>[.row (D0.cells f.2) 112]) (fun f=>.agg (B0.cells f.1))) (P4 res N3 [.dead]):=by
 unfold X2 at a
 refine F2.intro hC Tryz.func100 R R R (s' R R (E0.nf hC R (n' (p' 1 R ?_))))
 rcases bp' a with ⟨nn,c,⟨⟩⟩ | ⟨x1,c,a⟩
 ·exact gr [0] (I1 c) R (peW ⟨trivial,trivial⟩ R)
 refine gq [0] ((I1 c).ok) R (e' R (p' 1 R ?_))
 rcases bp' a with ⟨nn,b,⟨⟩⟩ | ⟨x2,b,a⟩
 ·exact gr [0] (K0 b) R (peW ⟨trivial,trivial⟩ R)
 refine gq [0] ((K0 b).ok) R (n' (p' 3 R ?_))
 rcases bp' a with ⟨nn,e,⟨⟩⟩ | ⟨g,e,a⟩
 ·exact gr [0] (Z9 e) R (peW ⟨trivial,trivial⟩ R)
 cases a
 exact gq [0] ((Z9 e).ok) R (q' R (E0.s hC R (n' (re' (rq R)))))
def D8 (parserParser:D0):Option (Pn (B0×D0)):=
 X2 4 parserParser>>=fun x1=>match x1 with
 | .pn nn=>
 some (.pn nn)
 | .ok x1=>
 R0 [61] x1.2>>=fun x2=>
 if x2.1=true then
  R0 [116,114,117,101] x2.2>>=fun x3=>
  if x3.1=true then
   U0 [59] x3.2>>=fun x4=>match x4 with
   | .pn nn=>
   some (.pn nn)
   | .ok x4=>
   some (.ok ((B0.mk x1.1.Kind x1.1.Name x1.1.TypeV 1 x1.1.Value x1.1.Params x1.1.Vars x1.1.Body),x4))
  else
   R0 [102,97,108,115,101] x3.2>>=fun x5=>
   if x5.1=true then
    U0 [59] x5.2>>=fun x4=>match x4 with
    | .pn nn=>
    some (.pn nn)
    | .ok x4=>
    some (.ok (x1.1,x4))
   else
    U2 x5.2>>=fun x6=>match x6 with
    | .pn nn=>
    some (.pn nn)
    | .ok x6=>
    U0 [59] x6.2>>=fun x4=>match x4 with
    | .pn nn=>
    some (.pn nn)
    | .ok x4=>
    some (.ok ((B0.mk x1.1.Kind x1.1.Name x1.1.TypeV x6.1 x1.1.Value x1.1.Params x1.1.Vars x1.1.Body),x4))
 else
  U0 [59] x2.2>>=fun x4=>match x4 with
  | .pn nn=>
  some (.pn nn)
  | .ok x4=>
  some (.ok (x1.1,x4))
theorem C2 {parserParser res}(a:D8 parserParser=some res):F2 C 101 [.ref 0 0] [.row (D0.cells parserParser) 112] (X4 res (fun f=>[.row (D0.cells f.2) 112]) (fun f=>.agg (B0.cells f.1))) (P4 res N3 [.dead]):=by
 unfold D8 at a
 refine F2.intro hC Tryz.func101 R R R (s' R R (E0.nf hC R (n' (p' 1 R ?_))))
 rcases bp' a with ⟨nn,c,⟨⟩⟩ | ⟨x1,c,a⟩
 ·exact gr [0] (C1 c) R (peW ⟨trivial,trivial⟩ R)
 obtain ⟨x2,g,a⟩:=bs' a
 refine gq [0] ((C1 c).ok) R (E0.nf hC R (E0.s hC R (n' (S' (p' 1 R (gq [0] (T0 g) R (n' (ci' R a (fun a=>?_) (fun a=>?_)))))))))
 ·obtain ⟨l,h,a⟩:=bs' a
  refine bk' (p' 1 R (gq [0] (T0 h) R (e' R (ci' R a (fun a=>?_) (fun a=>?_)))))
  ·refine P' 1 R (E0.s hC R (n' (p' 1 R ?_)))
   rcases bp' a with ⟨nn,b,⟨⟩⟩ | ⟨e,b,a⟩
   ·exact gr [0] (K0 b) R (peW ⟨trivial,trivial⟩ R)
   cases a
   exact gq [0] ((K0 b).ok) R (n' (p' 1 R (E0.s hC R (n' (re' (rq R))))))
  obtain ⟨j,i,a⟩:=bs' a
  refine p' 1 R (gq [0] (T0 i) R (e' R (ci' R a (fun a=>?_) (fun a=>?_))))
  ·refine sk' (p' 1 R ?_)
   rcases bp' a with ⟨nn,b,⟨⟩⟩ | ⟨e,b,a⟩
   ·exact gr [0] (K0 b) R (peW ⟨trivial,trivial⟩ R)
   cases a
   exact gq [0] ((K0 b).ok) R (n' (p' 1 R (E0.s hC R (n' (re' (rq R))))))
  refine P' 1 R ?_
  rcases bp' a with ⟨nn,d,⟨⟩⟩ | ⟨k,d,a⟩
  ·exact gr [0] (E1 d) R (peW ⟨trivial,trivial⟩ R)
  refine gq [0] ((E1 d).ok) R (q' R (E0.s hC R (n' (p' 1 R ?_))))
  rcases bp' a with ⟨nn,b,⟨⟩⟩ | ⟨e,b,a⟩
  ·exact gr [0] (K0 b) R (peW ⟨trivial,trivial⟩ R)
  cases a
  exact gq [0] ((K0 b).ok) R (n' (p' 1 R (E0.s hC R (n' (re' (rq R))))))
 refine sk' (p' 1 R ?_)
 rcases bp' a with ⟨nn,b,⟨⟩⟩ | ⟨e,b,a⟩
 ·exact gr [0] (K0 b) R (peW ⟨trivial,trivial⟩ R)
 cases a
 exact gq [0] ((K0 b).ok) R (n' (p' 1 R (E0.s hC R (n' (re' (rq R))))))
def Q7 (parserParser:D0):Option Bool:=
 (if (decide (parserParser.next < ((parserParser.tokens).length:Int)))=true then idx parserParser.tokens parserParser.next else some default)>>=fun x1=>
 some (bif (decide (parserParser.next < ((parserParser.tokens).length:Int))) then (x1.Kind == 0) else false)
theorem Dh {parserParser res}(b:Q7 parserParser=some res):L0 C 162 [.ref 0 0] [.row (D0.cells parserParser) 112] (Ret [.row (D0.cells parserParser) 112] (.d (.bool res))):=by
 unfold Q7 at b
 obtain ⟨x1,a,b⟩:=bs' b
 cases b
 refine L0.intro hC Tryz.func162 R R R (t' R (S' (AEx.drawG hC 25 R R R (G' 8 R (AG.qe hC R (fun hg=>⟨trivial,trivial⟩) (I0.lenA _) (G' 3 R (a1' R (a1' R (a1' R (a0' R (a1' R (a1' R (a1' R ?_)))))))))))))
 exact AG.i hC R R (fun hg=>⟨hg,hg,trivial⟩) (fun c=>⟨D1 (G1 c a),I0.idx (G1 c a),R⟩) (a1' R (a1' R (a1' R (pa' R (a0' R (an' (n' (re' (rq R)))))))))
def Ia (parserParser:D0):Option (Int×Bool×D0):=
 R0 [42] parserParser>>=fun x1=>
 if x1.1=true then
  some (10,true,x1.2)
 else
  R0 [47] x1.2>>=fun x2=>
  if x2.1=true then
   some (11,true,x2.2)
  else
   R0 [37] x2.2>>=fun x3=>
   some (12,x3.1,x3.2)
theorem Nu {parserParser res}(a:Ia parserParser=some res):L0 C 243 [.ref 0 0] [.row [.ref 1 0] 68,.row (D0.cells parserParser) 112] (Ret [.row [.ref 1 0] 68,.row (D0.cells res.2.2) 112] (.tup [.d (.int .i64 res.1),.d (.bool res.2.1)])):=by
 unfold Ia at a
 obtain ⟨x1,c,a⟩:=bs' a
 refine L0.intro hC Tryz.func243 R R R (t' R (S' (bk' (p' 1 R (gq [1] (T0 c) R (e' R (ci' R a (fun a=>?_) (fun a=>?_))))))))
 ·cases a
  exact t' R (re' (rq R))
 obtain ⟨x2,b,a⟩:=bs' a
 refine p' 1 R (gq [1] (T0 b) R (e' R (ci' R a (fun a=>?_) (fun a=>?_))))
 ·cases a
  exact t' R (re' (rq R))
 obtain ⟨f,e,a⟩:=bs' a
 cases a
 exact sk' (p' 1 R (gq [1] (T0 e) R (e' R (re' (rq R)))))
def Vd (parserParser:D0):Option (Int×Bool×D0):=
 R0 [43] parserParser>>=fun x1=>
 if x1.1=true then
  some (8,true,x1.2)
 else
  R0 [45] x1.2>>=fun x2=>
  some (9,x2.1,x2.2)
theorem Uz {parserParser res}(a:Vd parserParser=some res):L0 C 238 [.ref 0 0] [.row [.ref 1 0] 68,.row (D0.cells parserParser) 112] (Ret [.row [.ref 1 0] 68,.row (D0.cells res.2.2) 112] (.tup [.d (.int .i64 res.1),.d (.bool res.2.1)])):=by
 unfold Vd at a
 obtain ⟨x1,c,a⟩:=bs' a
 refine L0.intro hC Tryz.func238 R R R (t' R (S' (p' 1 R (gq [1] (T0 c) R (n' (ci' R a (fun a=>?_) (fun a=>?_)))))))
 ·cases a
  exact t' R (re' (rq R))
 obtain ⟨x2,b,a⟩:=bs' a
 cases a
 exact sk' (p' 1 R (gq [1] (T0 b) R (e' R (re' (rq R)))))
def Wd (parserParser:D0):Option (Int×Bool×D0):=
 R0 [38,38] parserParser>>=fun x1=>
 some (19,x1.1,x1.2)
theorem Vz {parserParser res}(a:Wd parserParser=some res):L0 C 223 [.ref 0 0] [.row [.ref 1 0] 68,.row (D0.cells parserParser) 112] (Ret [.row [.ref 1 0] 68,.row (D0.cells res.2.2) 112] (.tup [.d (.int .i64 res.1),.d (.bool res.2.1)])):=by
 unfold Wd at a
 obtain ⟨x1,b,a⟩:=bs' a
 cases a
 exact L0.intro hC Tryz.func223 R R R (t' R (p' 1 R (gq [1] (T0 b) R (e' R (re' (rq R))))))
def Ue (parserParser:D0):Option (Int×Bool×D0):=
 R0 [124,124] parserParser>>=fun x1=>
 some (20,x1.1,x1.2)
theorem K11 {parserParser res}(a:Ue parserParser=some res):L0 C 203 [.ref 0 0] [.row [.ref 1 0] 68,.row (D0.cells parserParser) 112] (Ret [.row [.ref 1 0] 68,.row (D0.cells res.2.2) 112] (.tup [.d (.int .i64 res.1),.d (.bool res.2.1)])):=by
 unfold Ue at a
 obtain ⟨x1,b,a⟩:=bs' a
 cases a
 exact L0.intro hC Tryz.func203 R R R (t' R (p' 1 R (gq [1] (T0 b) R (e' R (re' (rq R))))))
mutual
def Q1 (parserParser:D0):Option (Pn (A0×D0)):=
 Ee parserParser>>=fun x1=>match x1 with
 | .pn nn=>
 some (.pn nn)
 | .ok x1=>
 R0 [63] x1.2>>=fun x2=>
 if (!x2.1)=true then
  some (.ok (x1.1,x2.2))
 else
  Q1 x2.2>>=fun x3=>match x3 with
  | .pn nn=>
  some (.pn nn)
  | .ok x3=>
  U0 [58] x3.2>>=fun x4=>match x4 with
  | .pn nn=>
  some (.pn nn)
  | .ok x4=>
  Q1 x4>>=fun x5=>match x5 with
  | .pn nn=>
  some (.pn nn)
  | .ok x5=>
  some (.ok ((A0.mk 23 0 [] [x1.1,x3.1,x5.1]),x5.2))
 partial_fixpoint
def Ee (parserParser:D0):Option (Pn (A0×D0)):=
 Ll parserParser>>=fun x1=>match x1 with
 | .pn nn=>
 some (.pn nn)
 | .ok x1=>
 some (.ok (x1.1,x1.2))
 partial_fixpoint
def Ll (parserParser:D0):Option (Pn (A0×D0)):=
 Ja parserParser>>=fun x1=>match x1 with
 | .pn nn=>
 some (.pn nn)
 | .ok x1=>
 U5 x1.2 x1.1
 partial_fixpoint
def U5 (o0:D0)(o3:A0):Option (Pn (A0×D0)):=
 Ue o0>>=fun x2=>
 if (!x2.2.1)=true then
  some (.ok (o3,x2.2.2))
 else
  Ja x2.2.2>>=fun x3=>match x3 with
  | .pn nn=>
  some (.pn nn)
  | .ok x3=>
  U5 x3.2 (A0.mk x2.1 0 [] [o3,x3.1])
 partial_fixpoint
def Ja (parserParser:D0):Option (Pn (A0×D0)):=
 Ci parserParser>>=fun x1=>match x1 with
 | .pn nn=>
 some (.pn nn)
 | .ok x1=>
 some (.ok (x1.1,x1.2))
 partial_fixpoint
def Ci (parserParser:D0):Option (Pn (A0×D0)):=
 B6 parserParser>>=fun x1=>match x1 with
 | .pn nn=>
 some (.pn nn)
 | .ok x1=>
 F4 x1.2 x1.1
 partial_fixpoint
def F4 (o0:D0)(o3:A0):Option (Pn (A0×D0)):=
 Wd o0>>=fun x2=>
 if (!x2.2.1)=true then
  some (.ok (o3,x2.2.2))
 else
  B6 x2.2.2>>=fun x3=>match x3 with
  | .pn nn=>
  some (.pn nn)
  | .ok x3=>
  F4 x3.2 (A0.mk x2.1 0 [] [o3,x3.1])
 partial_fixpoint
def B6 (parserParser:D0):Option (Pn (A0×D0)):=
 J8 parserParser>>=fun x1=>match x1 with
 | .pn nn=>
 some (.pn nn)
 | .ok x1=>
 R0 [61,61] x1.2>>=fun x2=>
 if x2.1=true then
  V1 x2.2 x1 13
 else
  R0 [33,61] x2.2>>=fun x4=>
  if x4.1=true then
   V1 x4.2 x1 14
  else
   R0 [60] x4.2>>=fun x5=>
   if x5.1=true then
    V1 x5.2 x1 15
   else
    R0 [60,61] x5.2>>=fun x6=>
    if x6.1=true then
     V1 x6.2 x1 16
    else
     R0 [62] x6.2>>=fun x7=>
     if x7.1=true then
      V1 x7.2 x1 17
     else
      R0 [62,61] x7.2>>=fun x8=>
      if x8.1=true then
       V1 x8.2 x1 18
      else
       some (.ok (x1.1,x8.2))
 partial_fixpoint
def V1 (o0:D0)(x1:A0×D0)(op:Int):Option (Pn (A0×D0)):=
 J8 o0>>=fun x3=>match x3 with
 | .pn nn=>
 some (.pn nn)
 | .ok x3=>
 some (.ok ((A0.mk op 0 [] [x1.1,x3.1]),x3.2))
 partial_fixpoint
def J8 (parserParser:D0):Option (Pn (A0×D0)):=
 Di parserParser>>=fun x1=>match x1 with
 | .pn nn=>
 some (.pn nn)
 | .ok x1=>
 some (.ok (x1.1,x1.2))
 partial_fixpoint
def Di (parserParser:D0):Option (Pn (A0×D0)):=
 A7 parserParser>>=fun x1=>match x1 with
 | .pn nn=>
 some (.pn nn)
 | .ok x1=>
 G4 x1.2 x1.1
 partial_fixpoint
def G4 (o0:D0)(o3:A0):Option (Pn (A0×D0)):=
 Vd o0>>=fun x2=>
 if (!x2.2.1)=true then
  some (.ok (o3,x2.2.2))
 else
  A7 x2.2.2>>=fun x3=>match x3 with
  | .pn nn=>
  some (.pn nn)
  | .ok x3=>
  G4 x3.2 (A0.mk x2.1 0 [] [o3,x3.1])
 partial_fixpoint
def A7 (parserParser:D0):Option (Pn (A0×D0)):=
 Ei parserParser>>=fun x1=>match x1 with
 | .pn nn=>
 some (.pn nn)
 | .ok x1=>
 some (.ok (x1.1,x1.2))
 partial_fixpoint
def Ei (parserParser:D0):Option (Pn (A0×D0)):=
 D5 parserParser>>=fun x1=>match x1 with
 | .pn nn=>
 some (.pn nn)
 | .ok x1=>
 H4 x1.2 x1.1
 partial_fixpoint
def H4 (o0:D0)(o3:A0):Option (Pn (A0×D0)):=
 Ia o0>>=fun x2=>
 if (!x2.2.1)=true then
  some (.ok (o3,x2.2.2))
 else
  D5 x2.2.2>>=fun x3=>match x3 with
  | .pn nn=>
  some (.pn nn)
  | .ok x3=>
  H4 x3.2 (A0.mk x2.1 0 [] [o3,x3.1])
 partial_fixpoint
def D5 (parserParser:D0):Option (Pn (A0×D0)):=
 R0 [45] parserParser>>=fun x1=>
 if x1.1=true then
  D5 x1.2>>=fun x4=>match x4 with
  | .pn nn=>
  some (.pn nn)
  | .ok x4=>
  some (.ok ((A0.mk 6 0 [] [x4.1]),x4.2))
 else
  R0 [33] x1.2>>=fun x2=>
  if x2.1=true then
   D5 x2.2>>=fun x5=>match x5 with
   | .pn nn=>
   some (.pn nn)
   | .ok x5=>
   some (.ok ((A0.mk 7 0 [] [x5.1]),x5.2))
  else
   Jf x2.2>>=fun x3=>match x3 with
   | .pn nn=>
   some (.pn nn)
   | .ok x3=>
   some (.ok (x3.1,x3.2))
 partial_fixpoint
def Jf (parserParser:D0):Option (Pn (A0×D0)):=
 Q7 parserParser>>=fun x1=>
 if x1=true then
  Ya parserParser>>=fun x2=>match x2 with
  | .pn nn=>
  some (.pn nn)
  | .ok x2=>
  some (.ok (x2.1,x2.2))
 else
  R0 [116,114,117,101] parserParser>>=fun x3=>
  if x3.1=true then
   some (.ok ((A0.mk 1 0 [] []),x3.2))
  else
   R0 [102,97,108,115,101] x3.2>>=fun x4=>
   if x4.1=true then
    some (.ok ((A0.mk 2 0 [] []),x4.2))
   else
    R0 [109,105,110] x4.2>>=fun x5=>
    if x5.1=true then
     Ve 21 x5.2>>=fun x11=>match x11 with
     | .pn nn=>
     some (.pn nn)
     | .ok x11=>
     some (.ok (x11.1,x11.2))
    else
     R0 [109,97,120] x5.2>>=fun x6=>
     if x6.1=true then
      Ve 22 x6.2>>=fun x12=>match x12 with
      | .pn nn=>
      some (.pn nn)
      | .ok x12=>
      some (.ok (x12.1,x12.2))
     else
      R0 [40] x6.2>>=fun x7=>
      if x7.1=true then
       Q1 x7.2>>=fun x9=>match x9 with
       | .pn nn=>
       some (.pn nn)
       | .ok x9=>
       U0 [41] x9.2>>=fun x10=>match x10 with
       | .pn nn=>
       some (.pn nn)
       | .ok x10=>
       some (.ok (x9.1,x10))
      else
       P7 x7.2>>=fun x8=>match x8 with
       | .pn nn=>
       some (.pn nn)
       | .ok x8=>
       some (.ok ((A0.mk 0 x8.1 [] []),x8.2))
 partial_fixpoint
def Ve (op:Int)(parserParser:D0):Option (Pn (A0×D0)):=
 U0 [40] parserParser>>=fun x1=>match x1 with
 | .pn nn=>
 some (.pn nn)
 | .ok x1=>
 Q1 x1>>=fun x2=>match x2 with
 | .pn nn=>
 some (.pn nn)
 | .ok x2=>
 U0 [44] x2.2>>=fun x3=>match x3 with
 | .pn nn=>
 some (.pn nn)
 | .ok x3=>
 Q1 x3>>=fun x4=>match x4 with
 | .pn nn=>
 some (.pn nn)
 | .ok x4=>
 U0 [41] x4.2>>=fun x5=>match x5 with
 | .pn nn=>
 some (.pn nn)
 | .ok x5=>
 some (.ok ((A0.mk op 0 [] [x2.1,x4.1]),x5))
 partial_fixpoint
def Ya (parserParser:D0):Option (Pn (A0×D0)):=
 H3 parserParser>>=fun x1=>match x1 with
 | .pn nn=>
 some (.pn nn)
 | .ok x1=>
 S6 x1.2 3 x1.1 []
 partial_fixpoint
def S6 (o0:D0)(o2_Op:Int)(o2_Name:Str)(o2_Kids:List A0):Option (Pn (A0×D0)):=
 R0 [46] o0>>=fun x2=>
 if x2.1=true then
  H3 x2.2>>=fun x3=>match x3 with
  | .pn nn=>
  some (.pn nn)
  | .ok x3=>
  S6 x3.2 4 x3.1 [(A0.mk o2_Op 0 o2_Name o2_Kids)]
 else
  R0 [91] x2.2>>=fun x4=>
  if x4.1=true then
   Q1 x4.2>>=fun x5=>match x5 with
   | .pn nn=>
   some (.pn nn)
   | .ok x5=>
   U0 [93] x5.2>>=fun x6=>match x6 with
   | .pn nn=>
   some (.pn nn)
   | .ok x6=>
   S6 x6 5 [] [(A0.mk o2_Op 0 o2_Name o2_Kids),x5.1]
  else
   some (.ok ((A0.mk o2_Op 0 o2_Name o2_Kids),x4.2))
 partial_fixpoint
end
abbrev Jk (parserParser:D0)(res:Pn (A0×D0)):Prop:=F2 C 102 [.ref 0 0] [.row (D0.cells parserParser) 112] (X4 res (fun rr=>[.row (D0.cells rr.2) 112]) (fun rr=>.agg (A0.cells rr.1))) (P4 res N3 [.dead])
abbrev R17 (parserParser:D0)(res:Pn (A0×D0)):Prop:=F2 C 161 [.ref 0 0] [.row (D0.cells parserParser) 112] (X4 res (fun rr=>[.row (D0.cells rr.2) 112]) (fun rr=>.agg (A0.cells rr.1))) (P4 res N3 [.dead])
abbrev L11 (parserParser:D0)(res:Pn (A0×D0)):Prop:=F2 C 201 [.ref 0 0,.bnd 202 [.ref 0 0],.clo 203 [.ref 1 0]] [.row (D0.cells parserParser) 112,.row [.ref 0 0] 68] (X4 res (fun rr=>[.row (D0.cells rr.2) 112,.row [.ref 0 0] 68]) (fun rr=>.agg (A0.cells rr.1))) (P4 res N3 [.dead,.row [.ref 0 0] 68])
abbrev Ww (o0:D0)(o3:A0)(res:Pn (A0×D0)):Prop:=LMp C 26 2 Tryz.f201 [1,1,4] [(1,.bnd 202 [.ref 0 0]),(2,.clo 203 [.ref 1 0]),(6,.ref 2 0),(7,.ref 3 0)] [.row (D0.cells o0) 112,.row [.ref 0 0] 68,.row [.d (.int .i64 0),.d (.int .i64 0),.d (.str []),.full (A0.rows [])] 80,.row (A0.cells o3) 80] (X4 res (fun rr=>[.row (D0.cells rr.2) 112,.row [.ref 0 0] 68]) (fun rr=>.agg (A0.cells rr.1))) (P4 res N3 [.dead,.row [.ref 0 0] 68])
abbrev U15 (parserParser:D0)(res:Pn (A0×D0)):Prop:=F2 C 202 [.ref 0 0] [.row (D0.cells parserParser) 112] (X4 res (fun rr=>[.row (D0.cells rr.2) 112]) (fun rr=>.agg (A0.cells rr.1))) (P4 res N3 [.dead])
abbrev Xw (parserParser:D0)(res:Pn (A0×D0)):Prop:=F2 C 201 [.ref 0 0,.bnd 222 [.ref 0 0],.clo 223 [.ref 1 0]] [.row (D0.cells parserParser) 112,.row [.ref 0 0] 68] (X4 res (fun rr=>[.row (D0.cells rr.2) 112,.row [.ref 0 0] 68]) (fun rr=>.agg (A0.cells rr.1))) (P4 res N3 [.dead,.row [.ref 0 0] 68])
abbrev Mt (o0:D0)(o3:A0)(res:Pn (A0×D0)):Prop:=LMp C 26 2 Tryz.f201 [1,1,4] [(1,.bnd 222 [.ref 0 0]),(2,.clo 223 [.ref 1 0]),(6,.ref 2 0),(7,.ref 3 0)] [.row (D0.cells o0) 112,.row [.ref 0 0] 68,.row [.d (.int .i64 0),.d (.int .i64 0),.d (.str []),.full (A0.rows [])] 80,.row (A0.cells o3) 80] (X4 res (fun rr=>[.row (D0.cells rr.2) 112,.row [.ref 0 0] 68]) (fun rr=>.agg (A0.cells rr.1))) (P4 res N3 [.dead,.row [.ref 0 0] 68])
abbrev Ou (parserParser:D0)(res:Pn (A0×D0)):Prop:=F2 C 222 [.ref 0 0] [.row (D0.cells parserParser) 112] (X4 res (fun rr=>[.row (D0.cells rr.2) 112]) (fun rr=>.agg (A0.cells rr.1))) (P4 res N3 [.dead])
abbrev Uq (o0:D0)(x1:A0×D0)(op:Int)(res:Pn (A0×D0)):Prop:=JMp C 32 1 Tryz.f222 [1,1,1,1] [(0,.ref 0 0),(2,.ref 1 0),(3,.ref 2 0),(4,.d (.int .i64 op))] [.row (D0.cells o0) 112,.row [.d (.int .i64 0),.d (.int .i64 0),.d (.str []),.full (A0.rows [])] 80,.row (A0.cells x1.1) 80] (X4 res (fun rr=>[.row (D0.cells rr.2) 112]) (fun rr=>.agg (A0.cells rr.1))) (P4 res N3 [.dead])
abbrev V15 (parserParser:D0)(res:Pn (A0×D0)):Prop:=F2 C 229 [.ref 0 0] [.row (D0.cells parserParser) 112] (X4 res (fun rr=>[.row (D0.cells rr.2) 112]) (fun rr=>.agg (A0.cells rr.1))) (P4 res N3 [.dead])
abbrev Yw (parserParser:D0)(res:Pn (A0×D0)):Prop:=F2 C 201 [.ref 0 0,.bnd 237 [.ref 0 0],.clo 238 [.ref 1 0]] [.row (D0.cells parserParser) 112,.row [.ref 0 0] 68] (X4 res (fun rr=>[.row (D0.cells rr.2) 112,.row [.ref 0 0] 68]) (fun rr=>.agg (A0.cells rr.1))) (P4 res N3 [.dead,.row [.ref 0 0] 68])
abbrev Nt (o0:D0)(o3:A0)(res:Pn (A0×D0)):Prop:=LMp C 26 2 Tryz.f201 [1,1,4] [(1,.bnd 237 [.ref 0 0]),(2,.clo 238 [.ref 1 0]),(6,.ref 2 0),(7,.ref 3 0)] [.row (D0.cells o0) 112,.row [.ref 0 0] 68,.row [.d (.int .i64 0),.d (.int .i64 0),.d (.str []),.full (A0.rows [])] 80,.row (A0.cells o3) 80] (X4 res (fun rr=>[.row (D0.cells rr.2) 112,.row [.ref 0 0] 68]) (fun rr=>.agg (A0.cells rr.1))) (P4 res N3 [.dead,.row [.ref 0 0] 68])
abbrev Fy (parserParser:D0)(res:Pn (A0×D0)):Prop:=F2 C 237 [.ref 0 0] [.row (D0.cells parserParser) 112] (X4 res (fun rr=>[.row (D0.cells rr.2) 112]) (fun rr=>.agg (A0.cells rr.1))) (P4 res N3 [.dead])
abbrev Zw (parserParser:D0)(res:Pn (A0×D0)):Prop:=F2 C 201 [.ref 0 0,.bnd 242 [.ref 0 0],.clo 243 [.ref 1 0]] [.row (D0.cells parserParser) 112,.row [.ref 0 0] 68] (X4 res (fun rr=>[.row (D0.cells rr.2) 112,.row [.ref 0 0] 68]) (fun rr=>.agg (A0.cells rr.1))) (P4 res N3 [.dead,.row [.ref 0 0] 68])
abbrev Ot (o0:D0)(o3:A0)(res:Pn (A0×D0)):Prop:=LMp C 26 2 Tryz.f201 [1,1,4] [(1,.bnd 242 [.ref 0 0]),(2,.clo 243 [.ref 1 0]),(6,.ref 2 0),(7,.ref 3 0)] [.row (D0.cells o0) 112,.row [.ref 0 0] 68,.row [.d (.int .i64 0),.d (.int .i64 0),.d (.str []),.full (A0.rows [])] 80,.row (A0.cells o3) 80] (X4 res (fun rr=>[.row (D0.cells rr.2) 112,.row [.ref 0 0] 68]) (fun rr=>.agg (A0.cells rr.1))) (P4 res N3 [.dead,.row [.ref 0 0] 68])
abbrev M11 (parserParser:D0)(res:Pn (A0×D0)):Prop:=F2 C 242 [.ref 0 0] [.row (D0.cells parserParser) 112] (X4 res (fun rr=>[.row (D0.cells rr.2) 112]) (fun rr=>.agg (A0.cells rr.1))) (P4 res N3 [.dead])
abbrev Gy (parserParser:D0)(res:Pn (A0×D0)):Prop:=F2 C 246 [.ref 0 0] [.row (D0.cells parserParser) 112] (X4 res (fun rr=>[.row (D0.cells rr.2) 112]) (fun rr=>.agg (A0.cells rr.1))) (P4 res N3 [.dead])
abbrev I13 (op:Int)(parserParser:D0)(res:Pn (A0×D0)):Prop:=F2 C 247 [.ref 0 0,.d (.int .i64 op)] [.row (D0.cells parserParser) 112] (X4 res (fun rr=>[.row (D0.cells rr.2) 112]) (fun rr=>.agg (A0.cells rr.1))) (P4 res N3 [.dead])
abbrev Dp (parserParser:D0)(res:Pn (A0×D0)):Prop:=F2 C 204 [.ref 0 0] [.row (D0.cells parserParser) 112] (X4 res (fun rr=>[.row (D0.cells rr.2) 112]) (fun rr=>.agg (A0.cells rr.1))) (P4 res N3 [.dead])
abbrev Ax (o0:D0)(o2_Op:Int)(o2_Name:Str)(o2_Kids:List A0)(res:Pn (A0×D0)):Prop:=LMp C 28 1 Tryz.f204 [1,1,4] [(0,.ref 0 0),(2,.ref 1 0),(3,.ref 2 0)] [.row (D0.cells o0) 112,.row [.d (.int .i64 0),.d (.int .i64 0),.d (.str []),.full (A0.rows [])] 80,.row [.d (.int .i64 o2_Op),.d (.int .i64 0),.d (.str o2_Name),.d (.sl (A0.rows o2_Kids))] 80] (X4 res (fun rr=>[.row (D0.cells rr.2) 112]) (fun rr=>.agg (A0.cells rr.1))) (P4 res N3 [.dead])
theorem Ti:(∀ a e,Q1 a=some e→Jk a e)∧(∀ a e,Ee a=some e→R17 a e)∧(∀ a e,Ll a=some e→L11 a e)∧(∀ D m e,U5 D m=some e→Ww D m e)∧(∀ a e,Ja a=some e→U15 a e)∧(∀ a e,Ci a=some e→Xw a e)∧(∀ D m e,F4 D m=some e→Mt D m e)∧(∀ a e,B6 a=some e→Ou a e)∧(∀ D x1 op e,V1 D x1 op=some e→Uq D x1 op e)∧(∀ a e,J8 a=some e→V15 a e)∧(∀ a e,Di a=some e→Yw a e)∧(∀ D m e,G4 D m=some e→Nt D m e)∧(∀ a e,A7 a=some e→Fy a e)∧(∀ a e,Ei a=some e→Zw a e)∧(∀ D m e,H4 D m=some e→Ot D m e)∧(∀ a e,D5 a=some e→M11 a e)∧(∀ a e,Jf a=some e→Gy a e)∧(∀ op a e,Ve op a=some e→I13 op a e)∧(∀ a e,Ya a=some e→Dp a e)∧(∀ D q i j e,S6 D q i j=some e→Ax D q i j e):=by
 refine Q1.mutual_partial_correctness _ _ _ _ _ _ _ _ _ _ _ _ _ _ _ _ _ _ _ _ ?_ ?_ ?_ ?_ ?_ ?_ ?_ ?_ ?_ ?_ ?_ ?_ ?_ ?_ ?_ ?_ ?_ ?_ ?_ ?_
 ·intro Y g1 o U a e b
  refine F2.intro hC Tryz.func102 R R R (s' R R (E0.nf hC R (n' (p' 1 R ?_))))
  rcases bp' b with ⟨nn,g,⟨⟩⟩ | ⟨x1,g,b⟩
  ·exact gr [0] (U _ _ g) R (peW ⟨trivial,trivial⟩ R)
  obtain ⟨x2,x,b⟩:=bs' b
  refine gq [0] ((U _ _ g).ok) R (E0.nf hC R (E0.s hC R (n' (S' (p' 1 R (gq [0] (T0 x) R (e' R (ci' R b (fun b=>?_) (fun b=>?_)))))))))
  ·cases b
   exact p' 1 R (E0.s hC R (n' (re' (rq R))))
  refine sk' (p' 1 R ?_)
  rcases bp' b with ⟨nn,c,⟨⟩⟩ | ⟨f,c,b⟩
  ·exact gr [0] (o _ _ c) R (peW ⟨trivial,trivial⟩ R)
  refine gq [0] ((o _ _ c).ok) R (E0.nf hC R (E0.s hC R (n' (p' 1 R ?_))))
  rcases bp' b with ⟨nn,B,⟨⟩⟩ | ⟨L,B,b⟩
  ·exact gr [0] (K0 B) R (peW ⟨trivial,trivial⟩ R)
  refine gq [0] ((K0 B).ok) R (n' (S' ?_))
  rcases bp' b with ⟨nn,k,⟨⟩⟩ | ⟨y,k,b⟩
  ·refine AEx.drawE hC ?_
   refine s3 0 1 2 ?_ ?_ ?_
   ·refine e' R ?_
    refine s2q 1 2 ?_ ?_
    ·refine s1q 2 ?_
     refine s1 3 ?_
     exact gr [0] (o _ _ k) R (peW ⟨trivial,trivial⟩ R)
    ·refine s2 1 3 ?_ ?_
     ·refine e' R ?_
      refine s1 3 ?_
      exact gr [0] (o _ _ k) R (peW ⟨trivial,trivial⟩ R)
     ·exact gr [0] (o _ _ k) R (peW ⟨trivial,trivial⟩ R)
   ·refine e' R ?_
    refine s2q 0 2 ?_ ?_
    ·refine s1q 2 ?_
     refine s1 3 ?_
     exact gr [0] (o _ _ k) R (peW ⟨trivial,trivial⟩ R)
    ·refine s2 0 3 ?_ ?_
     ·refine e' R ?_
      refine s1 3 ?_
      exact gr [0] (o _ _ k) R (peW ⟨trivial,trivial⟩ R)
     ·exact gr [0] (o _ _ k) R (peW ⟨trivial,trivial⟩ R)
   ·refine e' R ?_
    refine s3 0 1 3 ?_ ?_ ?_
    ·refine e' R ?_
     refine s2 1 3 ?_ ?_
     ·refine e' R ?_
      refine s1 3 ?_
      exact gr [0] (o _ _ k) R (peW ⟨trivial,trivial⟩ R)
     ·exact gr [0] (o _ _ k) R (peW ⟨trivial,trivial⟩ R)
    ·refine e' R ?_
     refine s2 0 3 ?_ ?_
     ·refine e' R ?_
      refine s1 3 ?_
      exact gr [0] (o _ _ k) R (peW ⟨trivial,trivial⟩ R)
     ·exact gr [0] (o _ _ k) R (peW ⟨trivial,trivial⟩ R)
    ·exact gr [0] (o _ _ k) R (peW ⟨trivial,trivial⟩ R)
  refine AEx.drawE hC ?_
  refine s3 0 1 2 ?_ ?_ ?_
  ·refine e' R ?_
   refine s2q 1 2 ?_ ?_
   ·refine s1q 2 ?_
    refine s1 3 ?_
    refine gq [0] ((o _ _ k).ok) R (n' ?_)
    refine s1 4 ?_
    refine E0.be hC R (A0.rows_map [x1.1,f.1,y.1]).symm (n' ?_)
    refine s1q 5 ?_
    refine s1 6 ?_
    refine E0.s hC R (n' (X0.nil (by kernel_rfl) (re' ?_)))
    have p:=oi' b
    subst p
    exact ⟨_,.agg [.d (.int .i64 23),.d (.int .i64 0),.d (.str []),.d (.sl (A0.rows [x1.1,f.1,y.1]))],[.row (D0.cells y.2) 112],R,(.aggL ⟨.rfl,.rfl,.rfl,.full,trivial⟩),⟨⟨R,.refl _,R⟩,trivial⟩,R,R,rpq R R⟩
   ·refine s2 1 3 ?_ ?_
    ·refine e' R ?_
     refine s1 3 ?_
     refine gq [0] ((o _ _ k).ok) R (n' ?_)
     refine s1 4 ?_
     refine E0.be hC R (A0.rows_map [x1.1,f.1,y.1]).symm (n' ?_)
     refine s1q 5 ?_
     refine s1 6 ?_
     refine E0.s hC R (n' (X0.nil (by kernel_rfl) (re' ?_)))
     have p:=oi' b
     subst p
     exact ⟨_,.agg [.d (.int .i64 23),.d (.int .i64 0),.d (.str []),.d (.sl (A0.rows [x1.1,f.1,y.1]))],[.row (D0.cells y.2) 112],R,(.aggL ⟨.rfl,.rfl,.rfl,.full,trivial⟩),⟨⟨R,.refl _,R⟩,trivial⟩,R,R,rpq R R⟩
    ·refine gq [0] ((o _ _ k).ok) R (n' ?_)
     refine s1q 1 ?_
     refine s1 4 ?_
     refine E0.be hC R (A0.rows_map [x1.1,f.1,y.1]).symm (n' ?_)
     refine s1q 5 ?_
     refine s1 6 ?_
     refine E0.s hC R (n' (X0.nil (by kernel_rfl) (re' ?_)))
     have p:=oi' b
     subst p
     exact ⟨_,.agg [.d (.int .i64 23),.d (.int .i64 0),.d (.str []),.d (.sl (A0.rows [x1.1,f.1,y.1]))],[.row (D0.cells y.2) 112],R,(.aggL ⟨.rfl,.rfl,.rfl,.full,trivial⟩),⟨⟨R,.refl _,R⟩,trivial⟩,R,R,rpq R R⟩
  ·refine e' R ?_
   refine s2q 0 2 ?_ ?_
   ·refine s1q 2 ?_
    refine s1 3 ?_
    refine gq [0] ((o _ _ k).ok) R (n' ?_)
    refine s1 4 ?_
    refine E0.be hC R (A0.rows_map [x1.1,f.1,y.1]).symm (n' ?_)
    refine s1q 5 ?_
    refine s1 6 ?_
    refine E0.s hC R (n' (X0.nil (by kernel_rfl) (re' ?_)))
    have p:=oi' b
    subst p
    exact ⟨_,.agg [.d (.int .i64 23),.d (.int .i64 0),.d (.str []),.d (.sl (A0.rows [x1.1,f.1,y.1]))],[.row (D0.cells y.2) 112],R,(.aggL ⟨.rfl,.rfl,.rfl,.full,trivial⟩),⟨⟨R,.refl _,R⟩,trivial⟩,R,R,rpq R R⟩
   ·refine s2 0 3 ?_ ?_
    ·refine e' R ?_
     refine s1 3 ?_
     refine gq [0] ((o _ _ k).ok) R (n' ?_)
     refine s1 4 ?_
     refine E0.be hC R (A0.rows_map [x1.1,f.1,y.1]).symm (n' ?_)
     refine s1q 5 ?_
     refine s1 6 ?_
     refine E0.s hC R (n' (X0.nil (by kernel_rfl) (re' ?_)))
     have p:=oi' b
     subst p
     exact ⟨_,.agg [.d (.int .i64 23),.d (.int .i64 0),.d (.str []),.d (.sl (A0.rows [x1.1,f.1,y.1]))],[.row (D0.cells y.2) 112],R,(.aggL ⟨.rfl,.rfl,.rfl,.full,trivial⟩),⟨⟨R,.refl _,R⟩,trivial⟩,R,R,rpq R R⟩
    ·refine gq [0] ((o _ _ k).ok) R (n' ?_)
     refine s1q 0 ?_
     refine s1 4 ?_
     refine E0.be hC R (A0.rows_map [x1.1,f.1,y.1]).symm (n' ?_)
     refine s1q 5 ?_
     refine s1 6 ?_
     refine E0.s hC R (n' (X0.nil (by kernel_rfl) (re' ?_)))
     have p:=oi' b
     subst p
     exact ⟨_,.agg [.d (.int .i64 23),.d (.int .i64 0),.d (.str []),.d (.sl (A0.rows [x1.1,f.1,y.1]))],[.row (D0.cells y.2) 112],R,(.aggL ⟨.rfl,.rfl,.rfl,.full,trivial⟩),⟨⟨R,.refl _,R⟩,trivial⟩,R,R,rpq R R⟩
  ·refine e' R ?_
   refine s3 0 1 3 ?_ ?_ ?_
   ·refine e' R ?_
    refine s2 1 3 ?_ ?_
    ·refine e' R ?_
     refine s1 3 ?_
     refine gq [0] ((o _ _ k).ok) R (n' ?_)
     refine s1 4 ?_
     refine E0.be hC R (A0.rows_map [x1.1,f.1,y.1]).symm (n' ?_)
     refine s1q 5 ?_
     refine s1 6 ?_
     refine E0.s hC R (n' (X0.nil (by kernel_rfl) (re' ?_)))
     have p:=oi' b
     subst p
     exact ⟨_,.agg [.d (.int .i64 23),.d (.int .i64 0),.d (.str []),.d (.sl (A0.rows [x1.1,f.1,y.1]))],[.row (D0.cells y.2) 112],R,(.aggL ⟨.rfl,.rfl,.rfl,.full,trivial⟩),⟨⟨R,.refl _,R⟩,trivial⟩,R,R,rpq R R⟩
    ·refine gq [0] ((o _ _ k).ok) R (n' ?_)
     refine s1q 1 ?_
     refine s1 4 ?_
     refine E0.be hC R (A0.rows_map [x1.1,f.1,y.1]).symm (n' ?_)
     refine s1q 5 ?_
     refine s1 6 ?_
     refine E0.s hC R (n' (X0.nil (by kernel_rfl) (re' ?_)))
     have p:=oi' b
     subst p
     exact ⟨_,.agg [.d (.int .i64 23),.d (.int .i64 0),.d (.str []),.d (.sl (A0.rows [x1.1,f.1,y.1]))],[.row (D0.cells y.2) 112],R,(.aggL ⟨.rfl,.rfl,.rfl,.full,trivial⟩),⟨⟨R,.refl _,R⟩,trivial⟩,R,R,rpq R R⟩
   ·refine e' R ?_
    refine s2 0 3 ?_ ?_
    ·refine e' R ?_
     refine s1 3 ?_
     refine gq [0] ((o _ _ k).ok) R (n' ?_)
     refine s1 4 ?_
     refine E0.be hC R (A0.rows_map [x1.1,f.1,y.1]).symm (n' ?_)
     refine s1q 5 ?_
     refine s1 6 ?_
     refine E0.s hC R (n' (X0.nil (by kernel_rfl) (re' ?_)))
     have p:=oi' b
     subst p
     exact ⟨_,.agg [.d (.int .i64 23),.d (.int .i64 0),.d (.str []),.d (.sl (A0.rows [x1.1,f.1,y.1]))],[.row (D0.cells y.2) 112],R,(.aggL ⟨.rfl,.rfl,.rfl,.full,trivial⟩),⟨⟨R,.refl _,R⟩,trivial⟩,R,R,rpq R R⟩
    ·refine gq [0] ((o _ _ k).ok) R (n' ?_)
     refine s1q 0 ?_
     refine s1 4 ?_
     refine E0.be hC R (A0.rows_map [x1.1,f.1,y.1]).symm (n' ?_)
     refine s1q 5 ?_
     refine s1 6 ?_
     refine E0.s hC R (n' (X0.nil (by kernel_rfl) (re' ?_)))
     have p:=oi' b
     subst p
     exact ⟨_,.agg [.d (.int .i64 23),.d (.int .i64 0),.d (.str []),.d (.sl (A0.rows [x1.1,f.1,y.1]))],[.row (D0.cells y.2) 112],R,(.aggL ⟨.rfl,.rfl,.rfl,.full,trivial⟩),⟨⟨R,.refl _,R⟩,trivial⟩,R,R,rpq R R⟩
   ·refine gq [0] ((o _ _ k).ok) R (n' ?_)
    refine s2q 0 1 ?_ ?_
    ·refine s1q 1 ?_
     refine s1 4 ?_
     refine E0.be hC R (A0.rows_map [x1.1,f.1,y.1]).symm (n' ?_)
     refine s1q 5 ?_
     refine s1 6 ?_
     refine E0.s hC R (n' (X0.nil (by kernel_rfl) (re' ?_)))
     have p:=oi' b
     subst p
     exact ⟨_,.agg [.d (.int .i64 23),.d (.int .i64 0),.d (.str []),.d (.sl (A0.rows [x1.1,f.1,y.1]))],[.row (D0.cells y.2) 112],R,(.aggL ⟨.rfl,.rfl,.rfl,.full,trivial⟩),⟨⟨R,.refl _,R⟩,trivial⟩,R,R,rpq R R⟩
    ·refine s1q 0 ?_
     refine s1 4 ?_
     refine E0.be hC R (A0.rows_map [x1.1,f.1,y.1]).symm (n' ?_)
     refine s1q 5 ?_
     refine s1 6 ?_
     refine E0.s hC R (n' (X0.nil (by kernel_rfl) (re' ?_)))
     have p:=oi' b
     subst p
     exact ⟨_,.agg [.d (.int .i64 23),.d (.int .i64 0),.d (.str []),.d (.sl (A0.rows [x1.1,f.1,y.1]))],[.row (D0.cells y.2) 112],R,(.aggL ⟨.rfl,.rfl,.rfl,.full,trivial⟩),⟨⟨R,.refl _,R⟩,trivial⟩,R,R,rpq R R⟩
 ·intro g2 T a e b
  refine F2.intro hC Tryz.func161 R R R (s' R R (E0.n hC R (E0.nf hC R (n' (p' 4 R ?_)))))
  rcases bp' b with ⟨nn,g,⟨⟩⟩ | ⟨x1,g,b⟩
  ·exact gr [0,1] (T _ _ g) R (peW ⟨trivial,trivial⟩ R)
  cases b
  exact gq [0,1] ((T _ _ g).ok) R (E0.s hC R (n' (re' (rq R))))
 ·intro g3 g4 A v a e b
  refine F2.intro hC Tryz.func201 R R R (s' R R (E0.nf hC R (n' (p' 1 R ?_))))
  rcases bp' b with ⟨nn,g,⟨⟩⟩ | ⟨x1,g,b⟩
  ·exact gr [0] (v _ _ g) R (fun hi=>peW ⟨trivial,⟨R,.refl _,R⟩,trivial⟩ R hi)
  exact gq [0] ((v _ _ g).ok) R (E0.nf hC R (E0.s hC R (n' (bk' (fq (A _ _ _ b) R)))))
 ·intro g3 g4 A v D m e b
  obtain ⟨x2,x,b⟩:=bs' b
  refine Y0.unroll (bk' (p' 1 R (gq [1,0] (K11 x) R (e' R (S' (t' R (ci' R b (fun b=>?_) (fun b=>?_))))))))
  ·cases b
   exact p' 1 R (E0.s hC R (n' (re' (rq R))))
  refine sk' ?_
  rcases bp' b with ⟨nn,c,⟨⟩⟩ | ⟨f,c,b⟩
  ·refine AEx.drawE hC ?_
   refine s3 0 1 2 ?_ ?_ ?_
   ·refine e' R ?_
    refine s2q 1 2 ?_ ?_
    ·refine s1q 2 ?_
     refine s1 3 ?_
     exact gr [0] (v _ _ c) R (fun hi=>peW ⟨trivial,⟨R,.refl _,R⟩,trivial⟩ R hi)
    ·refine s2 1 3 ?_ ?_
     ·refine e' R ?_
      refine s1 3 ?_
      exact gr [0] (v _ _ c) R (fun hi=>peW ⟨trivial,⟨R,.refl _,R⟩,trivial⟩ R hi)
     ·exact gr [0] (v _ _ c) R (fun hi=>peW ⟨trivial,⟨R,.refl _,R⟩,trivial⟩ R hi)
   ·refine e' R ?_
    refine s2q 0 2 ?_ ?_
    ·refine s1q 2 ?_
     refine s1 3 ?_
     exact gr [0] (v _ _ c) R (fun hi=>peW ⟨trivial,⟨R,.refl _,R⟩,trivial⟩ R hi)
    ·refine s2 0 3 ?_ ?_
     ·refine e' R ?_
      refine s1 3 ?_
      exact gr [0] (v _ _ c) R (fun hi=>peW ⟨trivial,⟨R,.refl _,R⟩,trivial⟩ R hi)
     ·exact gr [0] (v _ _ c) R (fun hi=>peW ⟨trivial,⟨R,.refl _,R⟩,trivial⟩ R hi)
   ·refine e' R ?_
    refine s3 0 1 3 ?_ ?_ ?_
    ·refine e' R ?_
     refine s2 1 3 ?_ ?_
     ·refine e' R ?_
      refine s1 3 ?_
      exact gr [0] (v _ _ c) R (fun hi=>peW ⟨trivial,⟨R,.refl _,R⟩,trivial⟩ R hi)
     ·exact gr [0] (v _ _ c) R (fun hi=>peW ⟨trivial,⟨R,.refl _,R⟩,trivial⟩ R hi)
    ·refine e' R ?_
     refine s2 0 3 ?_ ?_
     ·refine e' R ?_
      refine s1 3 ?_
      exact gr [0] (v _ _ c) R (fun hi=>peW ⟨trivial,⟨R,.refl _,R⟩,trivial⟩ R hi)
     ·exact gr [0] (v _ _ c) R (fun hi=>peW ⟨trivial,⟨R,.refl _,R⟩,trivial⟩ R hi)
    ·exact gr [0] (v _ _ c) R (fun hi=>peW ⟨trivial,⟨R,.refl _,R⟩,trivial⟩ R hi)
  refine AEx.drawE hC ?_
  refine s3 0 1 2 ?_ ?_ ?_
  ·refine e' R ?_
   refine s2q 1 2 ?_ ?_
   ·refine s1q 2 ?_
    refine s1 3 ?_
    refine gq [0] ((v _ _ c).ok) R (n' ?_)
    refine s1 4 ?_
    refine E0.be hC R (A0.rows_map [m,f.1]).symm (n' ?_)
    refine s1q 5 ?_
    refine s1 6 ?_
    refine E0.s hC R (n' (X0.nil (by kernel_rfl) ?_))
    refine Y0.wk ?_ (A _ _ _ b)
    exact ⟨⟨⟨.rfl,R⟩,⟨.rfl,R⟩,⟨.rfl,R⟩,⟨.rfl,R⟩,trivial⟩,⟨⟨R,.refl _,R⟩,⟨R,.refl _,R⟩,⟨R,.refl _,R⟩,⟨R,⟨.rfl,.rfl,.rfl,.full,trivial⟩,R⟩,trivial⟩,R⟩
   ·refine s2 1 3 ?_ ?_
    ·refine e' R ?_
     refine s1 3 ?_
     refine gq [0] ((v _ _ c).ok) R (n' ?_)
     refine s1 4 ?_
     refine E0.be hC R (A0.rows_map [m,f.1]).symm (n' ?_)
     refine s1q 5 ?_
     refine s1 6 ?_
     refine E0.s hC R (n' (X0.nil (by kernel_rfl) ?_))
     refine Y0.wk ?_ (A _ _ _ b)
     exact ⟨⟨⟨.rfl,R⟩,⟨.rfl,R⟩,⟨.rfl,R⟩,⟨.rfl,R⟩,trivial⟩,⟨⟨R,.refl _,R⟩,⟨R,.refl _,R⟩,⟨R,.refl _,R⟩,⟨R,⟨.rfl,.rfl,.rfl,.full,trivial⟩,R⟩,trivial⟩,R⟩
    ·refine gq [0] ((v _ _ c).ok) R (n' ?_)
     refine s1q 1 ?_
     refine s1 4 ?_
     refine E0.be hC R (A0.rows_map [m,f.1]).symm (n' ?_)
     refine s1q 5 ?_
     refine s1 6 ?_
     refine E0.s hC R (n' (X0.nil (by kernel_rfl) ?_))
     refine Y0.wk ?_ (A _ _ _ b)
     exact ⟨⟨⟨.rfl,R⟩,⟨.rfl,R⟩,⟨.rfl,R⟩,⟨.rfl,R⟩,trivial⟩,⟨⟨R,.refl _,R⟩,⟨R,.refl _,R⟩,⟨R,.refl _,R⟩,⟨R,⟨.rfl,.rfl,.rfl,.full,trivial⟩,R⟩,trivial⟩,R⟩
  ·refine e' R ?_
   refine s2q 0 2 ?_ ?_
   ·refine s1q 2 ?_
    refine s1 3 ?_
    refine gq [0] ((v _ _ c).ok) R (n' ?_)
    refine s1 4 ?_
    refine E0.be hC R (A0.rows_map [m,f.1]).symm (n' ?_)
    refine s1q 5 ?_
    refine s1 6 ?_
    refine E0.s hC R (n' (X0.nil (by kernel_rfl) ?_))
    refine Y0.wk ?_ (A _ _ _ b)
    exact ⟨⟨⟨.rfl,R⟩,⟨.rfl,R⟩,⟨.rfl,R⟩,⟨.rfl,R⟩,trivial⟩,⟨⟨R,.refl _,R⟩,⟨R,.refl _,R⟩,⟨R,.refl _,R⟩,⟨R,⟨.rfl,.rfl,.rfl,.full,trivial⟩,R⟩,trivial⟩,R⟩
   ·refine s2 0 3 ?_ ?_
    ·refine e' R ?_
     refine s1 3 ?_
     refine gq [0] ((v _ _ c).ok) R (n' ?_)
     refine s1 4 ?_
     refine E0.be hC R (A0.rows_map [m,f.1]).symm (n' ?_)
     refine s1q 5 ?_
     refine s1 6 ?_
     refine E0.s hC R (n' (X0.nil (by kernel_rfl) ?_))
     refine Y0.wk ?_ (A _ _ _ b)
     exact ⟨⟨⟨.rfl,R⟩,⟨.rfl,R⟩,⟨.rfl,R⟩,⟨.rfl,R⟩,trivial⟩,⟨⟨R,.refl _,R⟩,⟨R,.refl _,R⟩,⟨R,.refl _,R⟩,⟨R,⟨.rfl,.rfl,.rfl,.full,trivial⟩,R⟩,trivial⟩,R⟩
    ·refine gq [0] ((v _ _ c).ok) R (n' ?_)
     refine s2 0 4 ?_ ?_
     ·refine e' R ?_
      refine s1 4 ?_
      refine E0.be hC R (A0.rows_map [m,f.1]).symm (n' ?_)
      refine s1q 5 ?_
      refine s1 6 ?_
      refine E0.s hC R (n' (X0.nil (by kernel_rfl) ?_))
      refine Y0.wk ?_ (A _ _ _ b)
      exact ⟨⟨⟨.rfl,R⟩,⟨.rfl,R⟩,⟨.rfl,R⟩,⟨.rfl,R⟩,trivial⟩,⟨⟨R,.refl _,R⟩,⟨R,.refl _,R⟩,⟨R,.refl _,R⟩,⟨R,⟨.rfl,.rfl,.rfl,.full,trivial⟩,R⟩,trivial⟩,R⟩
     ·refine E0.be hC R (A0.rows_map [m,f.1]).symm (n' ?_)
      refine s1q 0 ?_
      refine s1q 5 ?_
      refine s1 6 ?_
      refine E0.s hC R (n' (X0.nil (by kernel_rfl) ?_))
      refine Y0.wk ?_ (A _ _ _ b)
      exact ⟨⟨⟨.rfl,R⟩,⟨.rfl,R⟩,⟨.rfl,R⟩,⟨.rfl,R⟩,trivial⟩,⟨⟨R,.refl _,R⟩,⟨R,.refl _,R⟩,⟨R,.refl _,R⟩,⟨R,⟨.rfl,.rfl,.rfl,.full,trivial⟩,R⟩,trivial⟩,R⟩
  ·refine e' R ?_
   refine s3 0 1 3 ?_ ?_ ?_
   ·refine e' R ?_
    refine s2 1 3 ?_ ?_
    ·refine e' R ?_
     refine s1 3 ?_
     refine gq [0] ((v _ _ c).ok) R (n' ?_)
     refine s1 4 ?_
     refine E0.be hC R (A0.rows_map [m,f.1]).symm (n' ?_)
     refine s1q 5 ?_
     refine s1 6 ?_
     refine E0.s hC R (n' (X0.nil (by kernel_rfl) ?_))
     refine Y0.wk ?_ (A _ _ _ b)
     exact ⟨⟨⟨.rfl,R⟩,⟨.rfl,R⟩,⟨.rfl,R⟩,⟨.rfl,R⟩,trivial⟩,⟨⟨R,.refl _,R⟩,⟨R,.refl _,R⟩,⟨R,.refl _,R⟩,⟨R,⟨.rfl,.rfl,.rfl,.full,trivial⟩,R⟩,trivial⟩,R⟩
    ·refine gq [0] ((v _ _ c).ok) R (n' ?_)
     refine s1q 1 ?_
     refine s1 4 ?_
     refine E0.be hC R (A0.rows_map [m,f.1]).symm (n' ?_)
     refine s1q 5 ?_
     refine s1 6 ?_
     refine E0.s hC R (n' (X0.nil (by kernel_rfl) ?_))
     refine Y0.wk ?_ (A _ _ _ b)
     exact ⟨⟨⟨.rfl,R⟩,⟨.rfl,R⟩,⟨.rfl,R⟩,⟨.rfl,R⟩,trivial⟩,⟨⟨R,.refl _,R⟩,⟨R,.refl _,R⟩,⟨R,.refl _,R⟩,⟨R,⟨.rfl,.rfl,.rfl,.full,trivial⟩,R⟩,trivial⟩,R⟩
   ·refine e' R ?_
    refine s2 0 3 ?_ ?_
    ·refine e' R ?_
     refine s1 3 ?_
     refine gq [0] ((v _ _ c).ok) R (n' ?_)
     refine s1 4 ?_
     refine E0.be hC R (A0.rows_map [m,f.1]).symm (n' ?_)
     refine s1q 5 ?_
     refine s1 6 ?_
     refine E0.s hC R (n' (X0.nil (by kernel_rfl) ?_))
     refine Y0.wk ?_ (A _ _ _ b)
     exact ⟨⟨⟨.rfl,R⟩,⟨.rfl,R⟩,⟨.rfl,R⟩,⟨.rfl,R⟩,trivial⟩,⟨⟨R,.refl _,R⟩,⟨R,.refl _,R⟩,⟨R,.refl _,R⟩,⟨R,⟨.rfl,.rfl,.rfl,.full,trivial⟩,R⟩,trivial⟩,R⟩
    ·refine gq [0] ((v _ _ c).ok) R (n' ?_)
     refine s2 0 4 ?_ ?_
     ·refine e' R ?_
      refine s1 4 ?_
      refine E0.be hC R (A0.rows_map [m,f.1]).symm (n' ?_)
      refine s1q 5 ?_
      refine s1 6 ?_
      refine E0.s hC R (n' (X0.nil (by kernel_rfl) ?_))
      refine Y0.wk ?_ (A _ _ _ b)
      exact ⟨⟨⟨.rfl,R⟩,⟨.rfl,R⟩,⟨.rfl,R⟩,⟨.rfl,R⟩,trivial⟩,⟨⟨R,.refl _,R⟩,⟨R,.refl _,R⟩,⟨R,.refl _,R⟩,⟨R,⟨.rfl,.rfl,.rfl,.full,trivial⟩,R⟩,trivial⟩,R⟩
     ·refine E0.be hC R (A0.rows_map [m,f.1]).symm (n' ?_)
      refine s1q 0 ?_
      refine s1q 5 ?_
      refine s1 6 ?_
      refine E0.s hC R (n' (X0.nil (by kernel_rfl) ?_))
      refine Y0.wk ?_ (A _ _ _ b)
      exact ⟨⟨⟨.rfl,R⟩,⟨.rfl,R⟩,⟨.rfl,R⟩,⟨.rfl,R⟩,trivial⟩,⟨⟨R,.refl _,R⟩,⟨R,.refl _,R⟩,⟨R,.refl _,R⟩,⟨R,⟨.rfl,.rfl,.rfl,.full,trivial⟩,R⟩,trivial⟩,R⟩
   ·refine gq [0] ((v _ _ c).ok) R (n' ?_)
    refine s2q 0 1 ?_ ?_
    ·refine s1q 1 ?_
     refine s1 4 ?_
     refine E0.be hC R (A0.rows_map [m,f.1]).symm (n' ?_)
     refine s1q 5 ?_
     refine s1 6 ?_
     refine E0.s hC R (n' (X0.nil (by kernel_rfl) ?_))
     refine Y0.wk ?_ (A _ _ _ b)
     exact ⟨⟨⟨.rfl,R⟩,⟨.rfl,R⟩,⟨.rfl,R⟩,⟨.rfl,R⟩,trivial⟩,⟨⟨R,.refl _,R⟩,⟨R,.refl _,R⟩,⟨R,.refl _,R⟩,⟨R,⟨.rfl,.rfl,.rfl,.full,trivial⟩,R⟩,trivial⟩,R⟩
    ·refine s2 0 4 ?_ ?_
     ·refine e' R ?_
      refine s1 4 ?_
      refine E0.be hC R (A0.rows_map [m,f.1]).symm (n' ?_)
      refine s1q 5 ?_
      refine s1 6 ?_
      refine E0.s hC R (n' (X0.nil (by kernel_rfl) ?_))
      refine Y0.wk ?_ (A _ _ _ b)
      exact ⟨⟨⟨.rfl,R⟩,⟨.rfl,R⟩,⟨.rfl,R⟩,⟨.rfl,R⟩,trivial⟩,⟨⟨R,.refl _,R⟩,⟨R,.refl _,R⟩,⟨R,.refl _,R⟩,⟨R,⟨.rfl,.rfl,.rfl,.full,trivial⟩,R⟩,trivial⟩,R⟩
     ·refine E0.be hC R (A0.rows_map [m,f.1]).symm (n' ?_)
      refine s1q 0 ?_
      refine s1q 5 ?_
      refine s1 6 ?_
      refine E0.s hC R (n' (X0.nil (by kernel_rfl) ?_))
      refine Y0.wk ?_ (A _ _ _ b)
      exact ⟨⟨⟨.rfl,R⟩,⟨.rfl,R⟩,⟨.rfl,R⟩,⟨.rfl,R⟩,trivial⟩,⟨⟨R,.refl _,R⟩,⟨R,.refl _,R⟩,⟨R,.refl _,R⟩,⟨R,⟨.rfl,.rfl,.rfl,.full,trivial⟩,R⟩,trivial⟩,R⟩
 ·intro g5 V a e b
  refine F2.intro hC Tryz.func202 R R R (s' R R (E0.n hC R (E0.nf hC R (n' (p' 4 R ?_)))))
  rcases bp' b with ⟨nn,g,⟨⟩⟩ | ⟨x1,g,b⟩
  ·exact gr [0,1] (V _ _ g) R (peW ⟨trivial,trivial⟩ R)
  cases b
  exact gq [0,1] ((V _ _ g).ok) R (E0.s hC R (n' (re' (rq R))))
 ·intro g6 g7 z u a e b
  refine F2.intro hC Tryz.func201 R R R (s' R R (E0.nf hC R (n' (p' 1 R ?_))))
  rcases bp' b with ⟨nn,g,⟨⟩⟩ | ⟨x1,g,b⟩
  ·exact gr [0] (u _ _ g) R (fun hi=>peW ⟨trivial,⟨R,.refl _,R⟩,trivial⟩ R hi)
  exact gq [0] ((u _ _ g).ok) R (E0.nf hC R (E0.s hC R (n' (bk' (fq (z _ _ _ b) R)))))
 ·intro g6 g7 z u D m e b
  obtain ⟨x2,x,b⟩:=bs' b
  refine Y0.unroll (bk' (p' 1 R (gq [1,0] (Vz x) R (e' R (S' (t' R (ci' R b (fun b=>?_) (fun b=>?_))))))))
  ·cases b
   exact p' 1 R (E0.s hC R (n' (re' (rq R))))
  refine sk' ?_
  rcases bp' b with ⟨nn,c,⟨⟩⟩ | ⟨f,c,b⟩
  ·refine AEx.drawE hC ?_
   refine s3 0 1 2 ?_ ?_ ?_
   ·refine e' R ?_
    refine s2q 1 2 ?_ ?_
    ·refine s1q 2 ?_
     refine s1 3 ?_
     exact gr [0] (u _ _ c) R (fun hi=>peW ⟨trivial,⟨R,.refl _,R⟩,trivial⟩ R hi)
    ·refine s2 1 3 ?_ ?_
     ·refine e' R ?_
      refine s1 3 ?_
      exact gr [0] (u _ _ c) R (fun hi=>peW ⟨trivial,⟨R,.refl _,R⟩,trivial⟩ R hi)
     ·exact gr [0] (u _ _ c) R (fun hi=>peW ⟨trivial,⟨R,.refl _,R⟩,trivial⟩ R hi)
   ·refine e' R ?_
    refine s2q 0 2 ?_ ?_
    ·refine s1q 2 ?_
     refine s1 3 ?_
     exact gr [0] (u _ _ c) R (fun hi=>peW ⟨trivial,⟨R,.refl _,R⟩,trivial⟩ R hi)
    ·refine s2 0 3 ?_ ?_
     ·refine e' R ?_
      refine s1 3 ?_
      exact gr [0] (u _ _ c) R (fun hi=>peW ⟨trivial,⟨R,.refl _,R⟩,trivial⟩ R hi)
     ·exact gr [0] (u _ _ c) R (fun hi=>peW ⟨trivial,⟨R,.refl _,R⟩,trivial⟩ R hi)
   ·refine e' R ?_
    refine s3 0 1 3 ?_ ?_ ?_
    ·refine e' R ?_
     refine s2 1 3 ?_ ?_
     ·refine e' R ?_
      refine s1 3 ?_
      exact gr [0] (u _ _ c) R (fun hi=>peW ⟨trivial,⟨R,.refl _,R⟩,trivial⟩ R hi)
     ·exact gr [0] (u _ _ c) R (fun hi=>peW ⟨trivial,⟨R,.refl _,R⟩,trivial⟩ R hi)
    ·refine e' R ?_
     refine s2 0 3 ?_ ?_
     ·refine e' R ?_
      refine s1 3 ?_
      exact gr [0] (u _ _ c) R (fun hi=>peW ⟨trivial,⟨R,.refl _,R⟩,trivial⟩ R hi)
     ·exact gr [0] (u _ _ c) R (fun hi=>peW ⟨trivial,⟨R,.refl _,R⟩,trivial⟩ R hi)
    ·exact gr [0] (u _ _ c) R (fun hi=>peW ⟨trivial,⟨R,.refl _,R⟩,trivial⟩ R hi)
  refine AEx.drawE hC ?_
  refine s3 0 1 2 ?_ ?_ ?_
  ·refine e' R ?_
   refine s2q 1 2 ?_ ?_
   ·refine s1q 2 ?_
    refine s1 3 ?_
    refine gq [0] ((u _ _ c).ok) R (n' ?_)
    refine s1 4 ?_
    refine E0.be hC R (A0.rows_map [m,f.1]).symm (n' ?_)
    refine s1q 5 ?_
    refine s1 6 ?_
    refine E0.s hC R (n' (X0.nil (by kernel_rfl) ?_))
    refine Y0.wk ?_ (z _ _ _ b)
    exact ⟨⟨⟨.rfl,R⟩,⟨.rfl,R⟩,⟨.rfl,R⟩,⟨.rfl,R⟩,trivial⟩,⟨⟨R,.refl _,R⟩,⟨R,.refl _,R⟩,⟨R,.refl _,R⟩,⟨R,⟨.rfl,.rfl,.rfl,.full,trivial⟩,R⟩,trivial⟩,R⟩
   ·refine s2 1 3 ?_ ?_
    ·refine e' R ?_
     refine s1 3 ?_
     refine gq [0] ((u _ _ c).ok) R (n' ?_)
     refine s1 4 ?_
     refine E0.be hC R (A0.rows_map [m,f.1]).symm (n' ?_)
     refine s1q 5 ?_
     refine s1 6 ?_
     refine E0.s hC R (n' (X0.nil (by kernel_rfl) ?_))
     refine Y0.wk ?_ (z _ _ _ b)
     exact ⟨⟨⟨.rfl,R⟩,⟨.rfl,R⟩,⟨.rfl,R⟩,⟨.rfl,R⟩,trivial⟩,⟨⟨R,.refl _,R⟩,⟨R,.refl _,R⟩,⟨R,.refl _,R⟩,⟨R,⟨.rfl,.rfl,.rfl,.full,trivial⟩,R⟩,trivial⟩,R⟩
    ·refine gq [0] ((u _ _ c).ok) R (n' ?_)
     refine s1q 1 ?_
     refine s1 4 ?_
     refine E0.be hC R (A0.rows_map [m,f.1]).symm (n' ?_)
     refine s1q 5 ?_
     refine s1 6 ?_
     refine E0.s hC R (n' (X0.nil (by kernel_rfl) ?_))
     refine Y0.wk ?_ (z _ _ _ b)
     exact ⟨⟨⟨.rfl,R⟩,⟨.rfl,R⟩,⟨.rfl,R⟩,⟨.rfl,R⟩,trivial⟩,⟨⟨R,.refl _,R⟩,⟨R,.refl _,R⟩,⟨R,.refl _,R⟩,⟨R,⟨.rfl,.rfl,.rfl,.full,trivial⟩,R⟩,trivial⟩,R⟩
  ·refine e' R ?_
   refine s2q 0 2 ?_ ?_
   ·refine s1q 2 ?_
    refine s1 3 ?_
    refine gq [0] ((u _ _ c).ok) R (n' ?_)
    refine s1 4 ?_
    refine E0.be hC R (A0.rows_map [m,f.1]).symm (n' ?_)
    refine s1q 5 ?_
    refine s1 6 ?_
    refine E0.s hC R (n' (X0.nil (by kernel_rfl) ?_))
    refine Y0.wk ?_ (z _ _ _ b)
    exact ⟨⟨⟨.rfl,R⟩,⟨.rfl,R⟩,⟨.rfl,R⟩,⟨.rfl,R⟩,trivial⟩,⟨⟨R,.refl _,R⟩,⟨R,.refl _,R⟩,⟨R,.refl _,R⟩,⟨R,⟨.rfl,.rfl,.rfl,.full,trivial⟩,R⟩,trivial⟩,R⟩
   ·refine s2 0 3 ?_ ?_
    ·refine e' R ?_
     refine s1 3 ?_
     refine gq [0] ((u _ _ c).ok) R (n' ?_)
     refine s1 4 ?_
     refine E0.be hC R (A0.rows_map [m,f.1]).symm (n' ?_)
     refine s1q 5 ?_
     refine s1 6 ?_
     refine E0.s hC R (n' (X0.nil (by kernel_rfl) ?_))
     refine Y0.wk ?_ (z _ _ _ b)
     exact ⟨⟨⟨.rfl,R⟩,⟨.rfl,R⟩,⟨.rfl,R⟩,⟨.rfl,R⟩,trivial⟩,⟨⟨R,.refl _,R⟩,⟨R,.refl _,R⟩,⟨R,.refl _,R⟩,⟨R,⟨.rfl,.rfl,.rfl,.full,trivial⟩,R⟩,trivial⟩,R⟩
    ·refine gq [0] ((u _ _ c).ok) R (n' ?_)
     refine s2 0 4 ?_ ?_
     ·refine e' R ?_
      refine s1 4 ?_
      refine E0.be hC R (A0.rows_map [m,f.1]).symm (n' ?_)
      refine s1q 5 ?_
      refine s1 6 ?_
      refine E0.s hC R (n' (X0.nil (by kernel_rfl) ?_))
      refine Y0.wk ?_ (z _ _ _ b)
      exact ⟨⟨⟨.rfl,R⟩,⟨.rfl,R⟩,⟨.rfl,R⟩,⟨.rfl,R⟩,trivial⟩,⟨⟨R,.refl _,R⟩,⟨R,.refl _,R⟩,⟨R,.refl _,R⟩,⟨R,⟨.rfl,.rfl,.rfl,.full,trivial⟩,R⟩,trivial⟩,R⟩
     ·refine E0.be hC R (A0.rows_map [m,f.1]).symm (n' ?_)
      refine s1q 0 ?_
      refine s1q 5 ?_
      refine s1 6 ?_
      refine E0.s hC R (n' (X0.nil (by kernel_rfl) ?_))
      refine Y0.wk ?_ (z _ _ _ b)
      exact ⟨⟨⟨.rfl,R⟩,⟨.rfl,R⟩,⟨.rfl,R⟩,⟨.rfl,R⟩,trivial⟩,⟨⟨R,.refl _,R⟩,⟨R,.refl _,R⟩,⟨R,.refl _,R⟩,⟨R,⟨.rfl,.rfl,.rfl,.full,trivial⟩,R⟩,trivial⟩,R⟩
  ·refine e' R ?_
   refine s3 0 1 3 ?_ ?_ ?_
   ·refine e' R ?_
    refine s2 1 3 ?_ ?_
    ·refine e' R ?_
     refine s1 3 ?_
     refine gq [0] ((u _ _ c).ok) R (n' ?_)
     refine s1 4 ?_
     refine E0.be hC R (A0.rows_map [m,f.1]).symm (n' ?_)
     refine s1q 5 ?_
     refine s1 6 ?_
     refine E0.s hC R (n' (X0.nil (by kernel_rfl) ?_))
     refine Y0.wk ?_ (z _ _ _ b)
     exact ⟨⟨⟨.rfl,R⟩,⟨.rfl,R⟩,⟨.rfl,R⟩,⟨.rfl,R⟩,trivial⟩,⟨⟨R,.refl _,R⟩,⟨R,.refl _,R⟩,⟨R,.refl _,R⟩,⟨R,⟨.rfl,.rfl,.rfl,.full,trivial⟩,R⟩,trivial⟩,R⟩
    ·refine gq [0] ((u _ _ c).ok) R (n' ?_)
     refine s1q 1 ?_
     refine s1 4 ?_
     refine E0.be hC R (A0.rows_map [m,f.1]).symm (n' ?_)
     refine s1q 5 ?_
     refine s1 6 ?_
     refine E0.s hC R (n' (X0.nil (by kernel_rfl) ?_))
     refine Y0.wk ?_ (z _ _ _ b)
     exact ⟨⟨⟨.rfl,R⟩,⟨.rfl,R⟩,⟨.rfl,R⟩,⟨.rfl,R⟩,trivial⟩,⟨⟨R,.refl _,R⟩,⟨R,.refl _,R⟩,⟨R,.refl _,R⟩,⟨R,⟨.rfl,.rfl,.rfl,.full,trivial⟩,R⟩,trivial⟩,R⟩
   ·refine e' R ?_
    refine s2 0 3 ?_ ?_
    ·refine e' R ?_
     refine s1 3 ?_
     refine gq [0] ((u _ _ c).ok) R (n' ?_)
     refine s1 4 ?_
     refine E0.be hC R (A0.rows_map [m,f.1]).symm (n' ?_)
     refine s1q 5 ?_
     refine s1 6 ?_
     refine E0.s hC R (n' (X0.nil (by kernel_rfl) ?_))
     refine Y0.wk ?_ (z _ _ _ b)
     exact ⟨⟨⟨.rfl,R⟩,⟨.rfl,R⟩,⟨.rfl,R⟩,⟨.rfl,R⟩,trivial⟩,⟨⟨R,.refl _,R⟩,⟨R,.refl _,R⟩,⟨R,.refl _,R⟩,⟨R,⟨.rfl,.rfl,.rfl,.full,trivial⟩,R⟩,trivial⟩,R⟩
    ·refine gq [0] ((u _ _ c).ok) R (n' ?_)
     refine s2 0 4 ?_ ?_
     ·refine e' R ?_
      refine s1 4 ?_
      refine E0.be hC R (A0.rows_map [m,f.1]).symm (n' ?_)
      refine s1q 5 ?_
      refine s1 6 ?_
      refine E0.s hC R (n' (X0.nil (by kernel_rfl) ?_))
      refine Y0.wk ?_ (z _ _ _ b)
      exact ⟨⟨⟨.rfl,R⟩,⟨.rfl,R⟩,⟨.rfl,R⟩,⟨.rfl,R⟩,trivial⟩,⟨⟨R,.refl _,R⟩,⟨R,.refl _,R⟩,⟨R,.refl _,R⟩,⟨R,⟨.rfl,.rfl,.rfl,.full,trivial⟩,R⟩,trivial⟩,R⟩
     ·refine E0.be hC R (A0.rows_map [m,f.1]).symm (n' ?_)
      refine s1q 0 ?_
      refine s1q 5 ?_
      refine s1 6 ?_
      refine E0.s hC R (n' (X0.nil (by kernel_rfl) ?_))
      refine Y0.wk ?_ (z _ _ _ b)
      exact ⟨⟨⟨.rfl,R⟩,⟨.rfl,R⟩,⟨.rfl,R⟩,⟨.rfl,R⟩,trivial⟩,⟨⟨R,.refl _,R⟩,⟨R,.refl _,R⟩,⟨R,.refl _,R⟩,⟨R,⟨.rfl,.rfl,.rfl,.full,trivial⟩,R⟩,trivial⟩,R⟩
   ·refine gq [0] ((u _ _ c).ok) R (n' ?_)
    refine s2q 0 1 ?_ ?_
    ·refine s1q 1 ?_
     refine s1 4 ?_
     refine E0.be hC R (A0.rows_map [m,f.1]).symm (n' ?_)
     refine s1q 5 ?_
     refine s1 6 ?_
     refine E0.s hC R (n' (X0.nil (by kernel_rfl) ?_))
     refine Y0.wk ?_ (z _ _ _ b)
     exact ⟨⟨⟨.rfl,R⟩,⟨.rfl,R⟩,⟨.rfl,R⟩,⟨.rfl,R⟩,trivial⟩,⟨⟨R,.refl _,R⟩,⟨R,.refl _,R⟩,⟨R,.refl _,R⟩,⟨R,⟨.rfl,.rfl,.rfl,.full,trivial⟩,R⟩,trivial⟩,R⟩
    ·refine s2 0 4 ?_ ?_
     ·refine e' R ?_
      refine s1 4 ?_
      refine E0.be hC R (A0.rows_map [m,f.1]).symm (n' ?_)
      refine s1q 5 ?_
      refine s1 6 ?_
      refine E0.s hC R (n' (X0.nil (by kernel_rfl) ?_))
      refine Y0.wk ?_ (z _ _ _ b)
      exact ⟨⟨⟨.rfl,R⟩,⟨.rfl,R⟩,⟨.rfl,R⟩,⟨.rfl,R⟩,trivial⟩,⟨⟨R,.refl _,R⟩,⟨R,.refl _,R⟩,⟨R,.refl _,R⟩,⟨R,⟨.rfl,.rfl,.rfl,.full,trivial⟩,R⟩,trivial⟩,R⟩
     ·refine E0.be hC R (A0.rows_map [m,f.1]).symm (n' ?_)
      refine s1q 0 ?_
      refine s1q 5 ?_
      refine s1 6 ?_
      refine E0.s hC R (n' (X0.nil (by kernel_rfl) ?_))
      refine Y0.wk ?_ (z _ _ _ b)
      exact ⟨⟨⟨.rfl,R⟩,⟨.rfl,R⟩,⟨.rfl,R⟩,⟨.rfl,R⟩,trivial⟩,⟨⟨R,.refl _,R⟩,⟨R,.refl _,R⟩,⟨R,.refl _,R⟩,⟨R,⟨.rfl,.rfl,.rfl,.full,trivial⟩,R⟩,trivial⟩,R⟩
 ·intro g8 g9 G w a e b
  refine F2.intro hC Tryz.func222 R R R (s' R R (E0.nf hC R (n' (p' 1 R ?_))))
  rcases bp' b with ⟨nn,g,⟨⟩⟩ | ⟨x1,g,b⟩
  ·exact gr [0] (w _ _ g) R (peW ⟨trivial,trivial⟩ R)
  obtain ⟨x2,x,b⟩:=bs' b
  refine gq [0] ((w _ _ g).ok) R (E0.nf hC R (E0.s hC R (n' (t' R (S' (bk' (p' 1 R (gq [0] (T0 x) R (e' R (ci' R b (fun b=>?_) (fun b=>?_)))))))))))
  ·exact sk' (eq' (G _ _ _ _ b) R)
  obtain ⟨L,B,b⟩:=bs' b
  refine p' 1 R (gq [0] (T0 B) R (e' R (ci' R b (fun b=>?_) (fun b=>?_))))
  ·exact T' R (eq' (G _ _ _ _ b) R)
  obtain ⟨y,k,b⟩:=bs' b
  refine p' 1 R (gq [0] (T0 k) R (e' R (ci' R b (fun b=>?_) (fun b=>?_))))
  ·exact T' R (eq' (G _ _ _ _ b) R)
  obtain ⟨x6,E,b⟩:=bs' b
  refine p' 1 R (gq [0] (T0 E) R (e' R (ci' R b (fun b=>?_) (fun b=>?_))))
  ·exact T' R (eq' (G _ _ _ _ b) R)
  obtain ⟨x7,Q,b⟩:=bs' b
  refine p' 1 R (gq [0] (T0 Q) R (e' R (ci' R b (fun b=>?_) (fun b=>?_))))
  ·exact T' R (eq' (G _ _ _ _ b) R)
  obtain ⟨x8,J,b⟩:=bs' b
  refine p' 1 R (gq [0] (T0 J) R (e' R (ci' R b (fun b=>?_) (fun b=>?_))))
  ·exact T' R (eq' (G _ _ _ _ b) R)
  cases b
  exact p' 1 R (E0.s hC R (n' (re' (rq R))))
 ·intro g9 w D x1 op e b
  refine S' ?_
  rcases bp' b with ⟨nn,c,⟨⟩⟩ | ⟨f,c,b⟩
  ·refine AEx.drawE hC ?_
   refine s3 0 1 2 ?_ ?_ ?_
   ·refine e' R ?_
    refine s2q 1 2 ?_ ?_
    ·refine s1q 2 ?_
     refine s1 3 ?_
     exact gr [0] (w _ _ c) R (peW ⟨trivial,trivial⟩ R)
    ·refine s2 1 3 ?_ ?_
     ·refine e' R ?_
      refine s1 3 ?_
      exact gr [0] (w _ _ c) R (peW ⟨trivial,trivial⟩ R)
     ·exact gr [0] (w _ _ c) R (peW ⟨trivial,trivial⟩ R)
   ·refine e' R ?_
    refine s2q 0 2 ?_ ?_
    ·refine s1q 2 ?_
     refine s1 3 ?_
     exact gr [0] (w _ _ c) R (peW ⟨trivial,trivial⟩ R)
    ·refine s2 0 3 ?_ ?_
     ·refine e' R ?_
      refine s1 3 ?_
      exact gr [0] (w _ _ c) R (peW ⟨trivial,trivial⟩ R)
     ·exact gr [0] (w _ _ c) R (peW ⟨trivial,trivial⟩ R)
   ·refine e' R ?_
    refine s3 0 1 3 ?_ ?_ ?_
    ·refine e' R ?_
     refine s2 1 3 ?_ ?_
     ·refine e' R ?_
      refine s1 3 ?_
      exact gr [0] (w _ _ c) R (peW ⟨trivial,trivial⟩ R)
     ·exact gr [0] (w _ _ c) R (peW ⟨trivial,trivial⟩ R)
    ·refine e' R ?_
     refine s2 0 3 ?_ ?_
     ·refine e' R ?_
      refine s1 3 ?_
      exact gr [0] (w _ _ c) R (peW ⟨trivial,trivial⟩ R)
     ·exact gr [0] (w _ _ c) R (peW ⟨trivial,trivial⟩ R)
    ·exact gr [0] (w _ _ c) R (peW ⟨trivial,trivial⟩ R)
  refine AEx.drawE hC ?_
  refine s3 0 1 2 ?_ ?_ ?_
  ·refine e' R ?_
   refine s2q 1 2 ?_ ?_
   ·refine s1q 2 ?_
    refine s1 3 ?_
    refine gq [0] ((w _ _ c).ok) R (n' ?_)
    refine s1 4 ?_
    refine E0.be hC R (A0.rows_map [x1.1,f.1]).symm (n' ?_)
    refine s1q 5 ?_
    refine s1 6 ?_
    refine E0.s hC R (n' (X0.nil (by kernel_rfl) (re' ?_)))
    have p:=oi' b
    subst p
    exact ⟨_,.agg [.d (.int .i64 op),.d (.int .i64 0),.d (.str []),.d (.sl (A0.rows [x1.1,f.1]))],[.row (D0.cells f.2) 112],R,(.aggL ⟨.rfl,.rfl,.rfl,.full,trivial⟩),⟨⟨R,.refl _,R⟩,trivial⟩,R,R,rpq R R⟩
   ·refine s2 1 3 ?_ ?_
    ·refine e' R ?_
     refine s1 3 ?_
     refine gq [0] ((w _ _ c).ok) R (n' ?_)
     refine s1 4 ?_
     refine E0.be hC R (A0.rows_map [x1.1,f.1]).symm (n' ?_)
     refine s1q 5 ?_
     refine s1 6 ?_
     refine E0.s hC R (n' (X0.nil (by kernel_rfl) (re' ?_)))
     have p:=oi' b
     subst p
     exact ⟨_,.agg [.d (.int .i64 op),.d (.int .i64 0),.d (.str []),.d (.sl (A0.rows [x1.1,f.1]))],[.row (D0.cells f.2) 112],R,(.aggL ⟨.rfl,.rfl,.rfl,.full,trivial⟩),⟨⟨R,.refl _,R⟩,trivial⟩,R,R,rpq R R⟩
    ·refine gq [0] ((w _ _ c).ok) R (n' ?_)
     refine s1q 1 ?_
     refine s1 4 ?_
     refine E0.be hC R (A0.rows_map [x1.1,f.1]).symm (n' ?_)
     refine s1q 5 ?_
     refine s1 6 ?_
     refine E0.s hC R (n' (X0.nil (by kernel_rfl) (re' ?_)))
     have p:=oi' b
     subst p
     exact ⟨_,.agg [.d (.int .i64 op),.d (.int .i64 0),.d (.str []),.d (.sl (A0.rows [x1.1,f.1]))],[.row (D0.cells f.2) 112],R,(.aggL ⟨.rfl,.rfl,.rfl,.full,trivial⟩),⟨⟨R,.refl _,R⟩,trivial⟩,R,R,rpq R R⟩
  ·refine e' R ?_
   refine s2q 0 2 ?_ ?_
   ·refine s1q 2 ?_
    refine s1 3 ?_
    refine gq [0] ((w _ _ c).ok) R (n' ?_)
    refine s1 4 ?_
    refine E0.be hC R (A0.rows_map [x1.1,f.1]).symm (n' ?_)
    refine s1q 5 ?_
    refine s1 6 ?_
    refine E0.s hC R (n' (X0.nil (by kernel_rfl) (re' ?_)))
    have p:=oi' b
    subst p
    exact ⟨_,.agg [.d (.int .i64 op),.d (.int .i64 0),.d (.str []),.d (.sl (A0.rows [x1.1,f.1]))],[.row (D0.cells f.2) 112],R,(.aggL ⟨.rfl,.rfl,.rfl,.full,trivial⟩),⟨⟨R,.refl _,R⟩,trivial⟩,R,R,rpq R R⟩
   ·refine s2 0 3 ?_ ?_
    ·refine e' R ?_
     refine s1 3 ?_
     refine gq [0] ((w _ _ c).ok) R (n' ?_)
     refine s1 4 ?_
     refine E0.be hC R (A0.rows_map [x1.1,f.1]).symm (n' ?_)
     refine s1q 5 ?_
     refine s1 6 ?_
     refine E0.s hC R (n' (X0.nil (by kernel_rfl) (re' ?_)))
     have p:=oi' b
     subst p
     exact ⟨_,.agg [.d (.int .i64 op),.d (.int .i64 0),.d (.str []),.d (.sl (A0.rows [x1.1,f.1]))],[.row (D0.cells f.2) 112],R,(.aggL ⟨.rfl,.rfl,.rfl,.full,trivial⟩),⟨⟨R,.refl _,R⟩,trivial⟩,R,R,rpq R R⟩
    ·refine gq [0] ((w _ _ c).ok) R (n' ?_)
     refine s2 0 4 ?_ ?_
     ·refine e' R ?_
      refine s1 4 ?_
      refine E0.be hC R (A0.rows_map [x1.1,f.1]).symm (n' ?_)
      refine s1q 5 ?_
      refine s1 6 ?_
      refine E0.s hC R (n' (X0.nil (by kernel_rfl) (re' ?_)))
      have p:=oi' b
      subst p
      exact ⟨_,.agg [.d (.int .i64 op),.d (.int .i64 0),.d (.str []),.d (.sl (A0.rows [x1.1,f.1]))],[.row (D0.cells f.2) 112],R,(.aggL ⟨.rfl,.rfl,.rfl,.full,trivial⟩),⟨⟨R,.refl _,R⟩,trivial⟩,R,R,rpq R R⟩
     ·refine E0.be hC R (A0.rows_map [x1.1,f.1]).symm (n' ?_)
      refine s1q 0 ?_
      refine s1q 5 ?_
      refine s1 6 ?_
      refine E0.s hC R (n' (X0.nil (by kernel_rfl) (re' ?_)))
      have p:=oi' b
      subst p
      exact ⟨_,.agg [.d (.int .i64 op),.d (.int .i64 0),.d (.str []),.d (.sl (A0.rows [x1.1,f.1]))],[.row (D0.cells f.2) 112],R,(.aggL ⟨.rfl,.rfl,.rfl,.full,trivial⟩),⟨⟨R,.refl _,R⟩,trivial⟩,R,R,rpq R R⟩
  ·refine e' R ?_
   refine s3 0 1 3 ?_ ?_ ?_
   ·refine e' R ?_
    refine s2 1 3 ?_ ?_
    ·refine e' R ?_
     refine s1 3 ?_
     refine gq [0] ((w _ _ c).ok) R (n' ?_)
     refine s1 4 ?_
     refine E0.be hC R (A0.rows_map [x1.1,f.1]).symm (n' ?_)
     refine s1q 5 ?_
     refine s1 6 ?_
     refine E0.s hC R (n' (X0.nil (by kernel_rfl) (re' ?_)))
     have p:=oi' b
     subst p
     exact ⟨_,.agg [.d (.int .i64 op),.d (.int .i64 0),.d (.str []),.d (.sl (A0.rows [x1.1,f.1]))],[.row (D0.cells f.2) 112],R,(.aggL ⟨.rfl,.rfl,.rfl,.full,trivial⟩),⟨⟨R,.refl _,R⟩,trivial⟩,R,R,rpq R R⟩
    ·refine gq [0] ((w _ _ c).ok) R (n' ?_)
     refine s1q 1 ?_
     refine s1 4 ?_
     refine E0.be hC R (A0.rows_map [x1.1,f.1]).symm (n' ?_)
     refine s1q 5 ?_
     refine s1 6 ?_
     refine E0.s hC R (n' (X0.nil (by kernel_rfl) (re' ?_)))
     have p:=oi' b
     subst p
     exact ⟨_,.agg [.d (.int .i64 op),.d (.int .i64 0),.d (.str []),.d (.sl (A0.rows [x1.1,f.1]))],[.row (D0.cells f.2) 112],R,(.aggL ⟨.rfl,.rfl,.rfl,.full,trivial⟩),⟨⟨R,.refl _,R⟩,trivial⟩,R,R,rpq R R⟩
   ·refine e' R ?_
    refine s2 0 3 ?_ ?_
    ·refine e' R ?_
     refine s1 3 ?_
     refine gq [0] ((w _ _ c).ok) R (n' ?_)
     refine s1 4 ?_
     refine E0.be hC R (A0.rows_map [x1.1,f.1]).symm (n' ?_)
     refine s1q 5 ?_
     refine s1 6 ?_
     refine E0.s hC R (n' (X0.nil (by kernel_rfl) (re' ?_)))
     have p:=oi' b
     subst p
     exact ⟨_,.agg [.d (.int .i64 op),.d (.int .i64 0),.d (.str []),.d (.sl (A0.rows [x1.1,f.1]))],[.row (D0.cells f.2) 112],R,(.aggL ⟨.rfl,.rfl,.rfl,.full,trivial⟩),⟨⟨R,.refl _,R⟩,trivial⟩,R,R,rpq R R⟩
    ·refine gq [0] ((w _ _ c).ok) R (n' ?_)
     refine s2 0 4 ?_ ?_
     ·refine e' R ?_
      refine s1 4 ?_
      refine E0.be hC R (A0.rows_map [x1.1,f.1]).symm (n' ?_)
      refine s1q 5 ?_
      refine s1 6 ?_
      refine E0.s hC R (n' (X0.nil (by kernel_rfl) (re' ?_)))
      have p:=oi' b
      subst p
      exact ⟨_,.agg [.d (.int .i64 op),.d (.int .i64 0),.d (.str []),.d (.sl (A0.rows [x1.1,f.1]))],[.row (D0.cells f.2) 112],R,(.aggL ⟨.rfl,.rfl,.rfl,.full,trivial⟩),⟨⟨R,.refl _,R⟩,trivial⟩,R,R,rpq R R⟩
     ·refine E0.be hC R (A0.rows_map [x1.1,f.1]).symm (n' ?_)
      refine s1q 0 ?_
      refine s1q 5 ?_
      refine s1 6 ?_
      refine E0.s hC R (n' (X0.nil (by kernel_rfl) (re' ?_)))
      have p:=oi' b
      subst p
      exact ⟨_,.agg [.d (.int .i64 op),.d (.int .i64 0),.d (.str []),.d (.sl (A0.rows [x1.1,f.1]))],[.row (D0.cells f.2) 112],R,(.aggL ⟨.rfl,.rfl,.rfl,.full,trivial⟩),⟨⟨R,.refl _,R⟩,trivial⟩,R,R,rpq R R⟩
   ·refine gq [0] ((w _ _ c).ok) R (n' ?_)
    refine s2q 0 1 ?_ ?_
    ·refine s1q 1 ?_
     refine s1 4 ?_
     refine E0.be hC R (A0.rows_map [x1.1,f.1]).symm (n' ?_)
     refine s1q 5 ?_
     refine s1 6 ?_
     refine E0.s hC R (n' (X0.nil (by kernel_rfl) (re' ?_)))
     have p:=oi' b
     subst p
     exact ⟨_,.agg [.d (.int .i64 op),.d (.int .i64 0),.d (.str []),.d (.sl (A0.rows [x1.1,f.1]))],[.row (D0.cells f.2) 112],R,(.aggL ⟨.rfl,.rfl,.rfl,.full,trivial⟩),⟨⟨R,.refl _,R⟩,trivial⟩,R,R,rpq R R⟩
    ·refine s2 0 4 ?_ ?_
     ·refine e' R ?_
      refine s1 4 ?_
      refine E0.be hC R (A0.rows_map [x1.1,f.1]).symm (n' ?_)
      refine s1q 5 ?_
      refine s1 6 ?_
      refine E0.s hC R (n' (X0.nil (by kernel_rfl) (re' ?_)))
      have p:=oi' b
      subst p
      exact ⟨_,.agg [.d (.int .i64 op),.d (.int .i64 0),.d (.str []),.d (.sl (A0.rows [x1.1,f.1]))],[.row (D0.cells f.2) 112],R,(.aggL ⟨.rfl,.rfl,.rfl,.full,trivial⟩),⟨⟨R,.refl _,R⟩,trivial⟩,R,R,rpq R R⟩
     ·refine E0.be hC R (A0.rows_map [x1.1,f.1]).symm (n' ?_)
      refine s1q 0 ?_
      refine s1q 5 ?_
      refine s1 6 ?_
      refine E0.s hC R (n' (X0.nil (by kernel_rfl) (re' ?_)))
      have p:=oi' b
      subst p
      exact ⟨_,.agg [.d (.int .i64 op),.d (.int .i64 0),.d (.str []),.d (.sl (A0.rows [x1.1,f.1]))],[.row (D0.cells f.2) 112],R,(.aggL ⟨.rfl,.rfl,.rfl,.full,trivial⟩),⟨⟨R,.refl _,R⟩,trivial⟩,R,R,rpq R R⟩
 ·intro a7 N a e b
  refine F2.intro hC Tryz.func229 R R R (s' R R (E0.n hC R (E0.nf hC R (n' (p' 4 R ?_)))))
  rcases bp' b with ⟨nn,g,⟨⟩⟩ | ⟨x1,g,b⟩
  ·exact gr [0,1] (N _ _ g) R (peW ⟨trivial,trivial⟩ R)
  cases b
  exact gq [0,1] ((N _ _ g).ok) R (E0.s hC R (n' (re' (rq R))))
 ·intro a0 a1 t l a e b
  refine F2.intro hC Tryz.func201 R R R (s' R R (E0.nf hC R (n' (p' 1 R ?_))))
  rcases bp' b with ⟨nn,g,⟨⟩⟩ | ⟨x1,g,b⟩
  ·exact gr [0] (l _ _ g) R (fun hi=>peW ⟨trivial,⟨R,.refl _,R⟩,trivial⟩ R hi)
  exact gq [0] ((l _ _ g).ok) R (E0.nf hC R (E0.s hC R (n' (bk' (fq (t _ _ _ b) R)))))
 ·intro a0 a1 t l D m e b
  obtain ⟨x2,x,b⟩:=bs' b
  refine Y0.unroll (bk' (p' 1 R (gq [1,0] (Uz x) R (e' R (S' (t' R (ci' R b (fun b=>?_) (fun b=>?_))))))))
  ·cases b
   exact p' 1 R (E0.s hC R (n' (re' (rq R))))
  refine sk' ?_
  rcases bp' b with ⟨nn,c,⟨⟩⟩ | ⟨f,c,b⟩
  ·refine AEx.drawE hC ?_
   refine s3 0 1 2 ?_ ?_ ?_
   ·refine e' R ?_
    refine s2q 1 2 ?_ ?_
    ·refine s1q 2 ?_
     refine s1 3 ?_
     exact gr [0] (l _ _ c) R (fun hi=>peW ⟨trivial,⟨R,.refl _,R⟩,trivial⟩ R hi)
    ·refine s2 1 3 ?_ ?_
     ·refine e' R ?_
      refine s1 3 ?_
      exact gr [0] (l _ _ c) R (fun hi=>peW ⟨trivial,⟨R,.refl _,R⟩,trivial⟩ R hi)
     ·exact gr [0] (l _ _ c) R (fun hi=>peW ⟨trivial,⟨R,.refl _,R⟩,trivial⟩ R hi)
   ·refine e' R ?_
    refine s2q 0 2 ?_ ?_
    ·refine s1q 2 ?_
     refine s1 3 ?_
     exact gr [0] (l _ _ c) R (fun hi=>peW ⟨trivial,⟨R,.refl _,R⟩,trivial⟩ R hi)
    ·refine s2 0 3 ?_ ?_
     ·refine e' R ?_
      refine s1 3 ?_
      exact gr [0] (l _ _ c) R (fun hi=>peW ⟨trivial,⟨R,.refl _,R⟩,trivial⟩ R hi)
     ·exact gr [0] (l _ _ c) R (fun hi=>peW ⟨trivial,⟨R,.refl _,R⟩,trivial⟩ R hi)
   ·refine e' R ?_
    refine s3 0 1 3 ?_ ?_ ?_
    ·refine e' R ?_
     refine s2 1 3 ?_ ?_
     ·refine e' R ?_
      refine s1 3 ?_
      exact gr [0] (l _ _ c) R (fun hi=>peW ⟨trivial,⟨R,.refl _,R⟩,trivial⟩ R hi)
     ·exact gr [0] (l _ _ c) R (fun hi=>peW ⟨trivial,⟨R,.refl _,R⟩,trivial⟩ R hi)
    ·refine e' R ?_
     refine s2 0 3 ?_ ?_
     ·refine e' R ?_
      refine s1 3 ?_
      exact gr [0] (l _ _ c) R (fun hi=>peW ⟨trivial,⟨R,.refl _,R⟩,trivial⟩ R hi)
     ·exact gr [0] (l _ _ c) R (fun hi=>peW ⟨trivial,⟨R,.refl _,R⟩,trivial⟩ R hi)
    ·exact gr [0] (l _ _ c) R (fun hi=>peW ⟨trivial,⟨R,.refl _,R⟩,trivial⟩ R hi)
  refine AEx.drawE hC ?_
  refine s3 0 1 2 ?_ ?_ ?_
  ·refine e' R ?_
   refine s2q 1 2 ?_ ?_
   ·refine s1q 2 ?_
    refine s1 3 ?_
    refine gq [0] ((l _ _ c).ok) R (n' ?_)
    refine s1 4 ?_
    refine E0.be hC R (A0.rows_map [m,f.1]).symm (n' ?_)
    refine s1q 5 ?_
    refine s1 6 ?_
    refine E0.s hC R (n' (X0.nil (by kernel_rfl) ?_))
    refine Y0.wk ?_ (t _ _ _ b)
    exact ⟨⟨⟨.rfl,R⟩,⟨.rfl,R⟩,⟨.rfl,R⟩,⟨.rfl,R⟩,trivial⟩,⟨⟨R,.refl _,R⟩,⟨R,.refl _,R⟩,⟨R,.refl _,R⟩,⟨R,⟨.rfl,.rfl,.rfl,.full,trivial⟩,R⟩,trivial⟩,R⟩
   ·refine s2 1 3 ?_ ?_
    ·refine e' R ?_
     refine s1 3 ?_
     refine gq [0] ((l _ _ c).ok) R (n' ?_)
     refine s1 4 ?_
     refine E0.be hC R (A0.rows_map [m,f.1]).symm (n' ?_)
     refine s1q 5 ?_
     refine s1 6 ?_
     refine E0.s hC R (n' (X0.nil (by kernel_rfl) ?_))
     refine Y0.wk ?_ (t _ _ _ b)
     exact ⟨⟨⟨.rfl,R⟩,⟨.rfl,R⟩,⟨.rfl,R⟩,⟨.rfl,R⟩,trivial⟩,⟨⟨R,.refl _,R⟩,⟨R,.refl _,R⟩,⟨R,.refl _,R⟩,⟨R,⟨.rfl,.rfl,.rfl,.full,trivial⟩,R⟩,trivial⟩,R⟩
    ·refine gq [0] ((l _ _ c).ok) R (n' ?_)
     refine s1q 1 ?_
     refine s1 4 ?_
     refine E0.be hC R (A0.rows_map [m,f.1]).symm (n' ?_)
     refine s1q 5 ?_
     refine s1 6 ?_
     refine E0.s hC R (n' (X0.nil (by kernel_rfl) ?_))
     refine Y0.wk ?_ (t _ _ _ b)
     exact ⟨⟨⟨.rfl,R⟩,⟨.rfl,R⟩,⟨.rfl,R⟩,⟨.rfl,R⟩,trivial⟩,⟨⟨R,.refl _,R⟩,⟨R,.refl _,R⟩,⟨R,.refl _,R⟩,⟨R,⟨.rfl,.rfl,.rfl,.full,trivial⟩,R⟩,trivial⟩,R⟩
  ·refine e' R ?_
   refine s2q 0 2 ?_ ?_
   ·refine s1q 2 ?_
    refine s1 3 ?_
    refine gq [0] ((l _ _ c).ok) R (n' ?_)
    refine s1 4 ?_
    refine E0.be hC R (A0.rows_map [m,f.1]).symm (n' ?_)
    refine s1q 5 ?_
    refine s1 6 ?_
    refine E0.s hC R (n' (X0.nil (by kernel_rfl) ?_))
    refine Y0.wk ?_ (t _ _ _ b)
    exact ⟨⟨⟨.rfl,R⟩,⟨.rfl,R⟩,⟨.rfl,R⟩,⟨.rfl,R⟩,trivial⟩,⟨⟨R,.refl _,R⟩,⟨R,.refl _,R⟩,⟨R,.refl _,R⟩,⟨R,⟨.rfl,.rfl,.rfl,.full,trivial⟩,R⟩,trivial⟩,R⟩
   ·refine s2 0 3 ?_ ?_
    ·refine e' R ?_
     refine s1 3 ?_
     refine gq [0] ((l _ _ c).ok) R (n' ?_)
     refine s1 4 ?_
     refine E0.be hC R (A0.rows_map [m,f.1]).symm (n' ?_)
     refine s1q 5 ?_
     refine s1 6 ?_
     refine E0.s hC R (n' (X0.nil (by kernel_rfl) ?_))
     refine Y0.wk ?_ (t _ _ _ b)
     exact ⟨⟨⟨.rfl,R⟩,⟨.rfl,R⟩,⟨.rfl,R⟩,⟨.rfl,R⟩,trivial⟩,⟨⟨R,.refl _,R⟩,⟨R,.refl _,R⟩,⟨R,.refl _,R⟩,⟨R,⟨.rfl,.rfl,.rfl,.full,trivial⟩,R⟩,trivial⟩,R⟩
    ·refine gq [0] ((l _ _ c).ok) R (n' ?_)
     refine s2 0 4 ?_ ?_
     ·refine e' R ?_
      refine s1 4 ?_
      refine E0.be hC R (A0.rows_map [m,f.1]).symm (n' ?_)
      refine s1q 5 ?_
      refine s1 6 ?_
      refine E0.s hC R (n' (X0.nil (by kernel_rfl) ?_))
      refine Y0.wk ?_ (t _ _ _ b)
      exact ⟨⟨⟨.rfl,R⟩,⟨.rfl,R⟩,⟨.rfl,R⟩,⟨.rfl,R⟩,trivial⟩,⟨⟨R,.refl _,R⟩,⟨R,.refl _,R⟩,⟨R,.refl _,R⟩,⟨R,⟨.rfl,.rfl,.rfl,.full,trivial⟩,R⟩,trivial⟩,R⟩
     ·refine E0.be hC R (A0.rows_map [m,f.1]).symm (n' ?_)
      refine s1q 0 ?_
      refine s1q 5 ?_
      refine s1 6 ?_
      refine E0.s hC R (n' (X0.nil (by kernel_rfl) ?_))
      refine Y0.wk ?_ (t _ _ _ b)
      exact ⟨⟨⟨.rfl,R⟩,⟨.rfl,R⟩,⟨.rfl,R⟩,⟨.rfl,R⟩,trivial⟩,⟨⟨R,.refl _,R⟩,⟨R,.refl _,R⟩,⟨R,.refl _,R⟩,⟨R,⟨.rfl,.rfl,.rfl,.full,trivial⟩,R⟩,trivial⟩,R⟩
  ·refine e' R ?_
   refine s3 0 1 3 ?_ ?_ ?_
   ·refine e' R ?_
    refine s2 1 3 ?_ ?_
    ·refine e' R ?_
     refine s1 3 ?_
     refine gq [0] ((l _ _ c).ok) R (n' ?_)
     refine s1 4 ?_
     refine E0.be hC R (A0.rows_map [m,f.1]).symm (n' ?_)
     refine s1q 5 ?_
     refine s1 6 ?_
     refine E0.s hC R (n' (X0.nil (by kernel_rfl) ?_))
     refine Y0.wk ?_ (t _ _ _ b)
     exact ⟨⟨⟨.rfl,R⟩,⟨.rfl,R⟩,⟨.rfl,R⟩,⟨.rfl,R⟩,trivial⟩,⟨⟨R,.refl _,R⟩,⟨R,.refl _,R⟩,⟨R,.refl _,R⟩,⟨R,⟨.rfl,.rfl,.rfl,.full,trivial⟩,R⟩,trivial⟩,R⟩
    ·refine gq [0] ((l _ _ c).ok) R (n' ?_)
     refine s1q 1 ?_
     refine s1 4 ?_
     refine E0.be hC R (A0.rows_map [m,f.1]).symm (n' ?_)
     refine s1q 5 ?_
     refine s1 6 ?_
     refine E0.s hC R (n' (X0.nil (by kernel_rfl) ?_))
     refine Y0.wk ?_ (t _ _ _ b)
     exact ⟨⟨⟨.rfl,R⟩,⟨.rfl,R⟩,⟨.rfl,R⟩,⟨.rfl,R⟩,trivial⟩,⟨⟨R,.refl _,R⟩,⟨R,.refl _,R⟩,⟨R,.refl _,R⟩,⟨R,⟨.rfl,.rfl,.rfl,.full,trivial⟩,R⟩,trivial⟩,R⟩
   ·refine e' R ?_
    refine s2 0 3 ?_ ?_
    ·refine e' R ?_
     refine s1 3 ?_
     refine gq [0] ((l _ _ c).ok) R (n' ?_)
     refine s1 4 ?_
     refine E0.be hC R (A0.rows_map [m,f.1]).symm (n' ?_)
     refine s1q 5 ?_
     refine s1 6 ?_
     refine E0.s hC R (n' (X0.nil (by kernel_rfl) ?_))
     refine Y0.wk ?_ (t _ _ _ b)
     exact ⟨⟨⟨.rfl,R⟩,⟨.rfl,R⟩,⟨.rfl,R⟩,⟨.rfl,R⟩,trivial⟩,⟨⟨R,.refl _,R⟩,⟨R,.refl _,R⟩,⟨R,.refl _,R⟩,⟨R,⟨.rfl,.rfl,.rfl,.full,trivial⟩,R⟩,trivial⟩,R⟩
    ·refine gq [0] ((l _ _ c).ok) R (n' ?_)
     refine s2 0 4 ?_ ?_
     ·refine e' R ?_
      refine s1 4 ?_
      refine E0.be hC R (A0.rows_map [m,f.1]).symm (n' ?_)
      refine s1q 5 ?_
      refine s1 6 ?_
      refine E0.s hC R (n' (X0.nil (by kernel_rfl) ?_))
      refine Y0.wk ?_ (t _ _ _ b)
      exact ⟨⟨⟨.rfl,R⟩,⟨.rfl,R⟩,⟨.rfl,R⟩,⟨.rfl,R⟩,trivial⟩,⟨⟨R,.refl _,R⟩,⟨R,.refl _,R⟩,⟨R,.refl _,R⟩,⟨R,⟨.rfl,.rfl,.rfl,.full,trivial⟩,R⟩,trivial⟩,R⟩
     ·refine E0.be hC R (A0.rows_map [m,f.1]).symm (n' ?_)
      refine s1q 0 ?_
      refine s1q 5 ?_
      refine s1 6 ?_
      refine E0.s hC R (n' (X0.nil (by kernel_rfl) ?_))
      refine Y0.wk ?_ (t _ _ _ b)
      exact ⟨⟨⟨.rfl,R⟩,⟨.rfl,R⟩,⟨.rfl,R⟩,⟨.rfl,R⟩,trivial⟩,⟨⟨R,.refl _,R⟩,⟨R,.refl _,R⟩,⟨R,.refl _,R⟩,⟨R,⟨.rfl,.rfl,.rfl,.full,trivial⟩,R⟩,trivial⟩,R⟩
   ·refine gq [0] ((l _ _ c).ok) R (n' ?_)
    refine s2q 0 1 ?_ ?_
    ·refine s1q 1 ?_
     refine s1 4 ?_
     refine E0.be hC R (A0.rows_map [m,f.1]).symm (n' ?_)
     refine s1q 5 ?_
     refine s1 6 ?_
     refine E0.s hC R (n' (X0.nil (by kernel_rfl) ?_))
     refine Y0.wk ?_ (t _ _ _ b)
     exact ⟨⟨⟨.rfl,R⟩,⟨.rfl,R⟩,⟨.rfl,R⟩,⟨.rfl,R⟩,trivial⟩,⟨⟨R,.refl _,R⟩,⟨R,.refl _,R⟩,⟨R,.refl _,R⟩,⟨R,⟨.rfl,.rfl,.rfl,.full,trivial⟩,R⟩,trivial⟩,R⟩
    ·refine s2 0 4 ?_ ?_
     ·refine e' R ?_
      refine s1 4 ?_
      refine E0.be hC R (A0.rows_map [m,f.1]).symm (n' ?_)
      refine s1q 5 ?_
      refine s1 6 ?_
      refine E0.s hC R (n' (X0.nil (by kernel_rfl) ?_))
      refine Y0.wk ?_ (t _ _ _ b)
      exact ⟨⟨⟨.rfl,R⟩,⟨.rfl,R⟩,⟨.rfl,R⟩,⟨.rfl,R⟩,trivial⟩,⟨⟨R,.refl _,R⟩,⟨R,.refl _,R⟩,⟨R,.refl _,R⟩,⟨R,⟨.rfl,.rfl,.rfl,.full,trivial⟩,R⟩,trivial⟩,R⟩
     ·refine E0.be hC R (A0.rows_map [m,f.1]).symm (n' ?_)
      refine s1q 0 ?_
      refine s1q 5 ?_
      refine s1 6 ?_
      refine E0.s hC R (n' (X0.nil (by kernel_rfl) ?_))
      refine Y0.wk ?_ (t _ _ _ b)
      exact ⟨⟨⟨.rfl,R⟩,⟨.rfl,R⟩,⟨.rfl,R⟩,⟨.rfl,R⟩,trivial⟩,⟨⟨R,.refl _,R⟩,⟨R,.refl _,R⟩,⟨R,.refl _,R⟩,⟨R,⟨.rfl,.rfl,.rfl,.full,trivial⟩,R⟩,trivial⟩,R⟩
 ·intro a4 O a e b
  refine F2.intro hC Tryz.func237 R R R (s' R R (E0.n hC R (E0.nf hC R (n' (p' 4 R ?_)))))
  rcases bp' b with ⟨nn,g,⟨⟩⟩ | ⟨x1,g,b⟩
  ·exact gr [0,1] (O _ _ g) R (peW ⟨trivial,trivial⟩ R)
  cases b
  exact gq [0,1] ((O _ _ g).ok) R (E0.s hC R (n' (re' (rq R))))
 ·intro Z W r h a e b
  refine F2.intro hC Tryz.func201 R R R (s' R R (E0.nf hC R (n' (p' 1 R ?_))))
  rcases bp' b with ⟨nn,g,⟨⟩⟩ | ⟨x1,g,b⟩
  ·exact gr [0] (h _ _ g) R (fun hi=>peW ⟨trivial,⟨R,.refl _,R⟩,trivial⟩ R hi)
  exact gq [0] ((h _ _ g).ok) R (E0.nf hC R (E0.s hC R (n' (bk' (fq (r _ _ _ b) R)))))
 ·intro Z W r h D m e b
  obtain ⟨x2,x,b⟩:=bs' b
  refine Y0.unroll (bk' (p' 1 R (gq [1,0] (Nu x) R (e' R (S' (t' R (ci' R b (fun b=>?_) (fun b=>?_))))))))
  ·cases b
   exact p' 1 R (E0.s hC R (n' (re' (rq R))))
  refine sk' ?_
  rcases bp' b with ⟨nn,c,⟨⟩⟩ | ⟨f,c,b⟩
  ·refine AEx.drawE hC ?_
   refine s3 0 1 2 ?_ ?_ ?_
   ·refine e' R ?_
    refine s2q 1 2 ?_ ?_
    ·refine s1q 2 ?_
     refine s1 3 ?_
     exact gr [0] (h _ _ c) R (fun hi=>peW ⟨trivial,⟨R,.refl _,R⟩,trivial⟩ R hi)
    ·refine s2 1 3 ?_ ?_
     ·refine e' R ?_
      refine s1 3 ?_
      exact gr [0] (h _ _ c) R (fun hi=>peW ⟨trivial,⟨R,.refl _,R⟩,trivial⟩ R hi)
     ·exact gr [0] (h _ _ c) R (fun hi=>peW ⟨trivial,⟨R,.refl _,R⟩,trivial⟩ R hi)
   ·refine e' R ?_
    refine s2q 0 2 ?_ ?_
    ·refine s1q 2 ?_
     refine s1 3 ?_
     exact gr [0] (h _ _ c) R (fun hi=>peW ⟨trivial,⟨R,.refl _,R⟩,trivial⟩ R hi)
    ·refine s2 0 3 ?_ ?_
     ·refine e' R ?_
      refine s1 3 ?_
      exact gr [0] (h _ _ c) R (fun hi=>peW ⟨trivial,⟨R,.refl _,R⟩,trivial⟩ R hi)
     ·exact gr [0] (h _ _ c) R (fun hi=>peW ⟨trivial,⟨R,.refl _,R⟩,trivial⟩ R hi)
   ·refine e' R ?_
    refine s3 0 1 3 ?_ ?_ ?_
    ·refine e' R ?_
     refine s2 1 3 ?_ ?_
     ·refine e' R ?_
      refine s1 3 ?_
      exact gr [0] (h _ _ c) R (fun hi=>peW ⟨trivial,⟨R,.refl _,R⟩,trivial⟩ R hi)
     ·exact gr [0] (h _ _ c) R (fun hi=>peW ⟨trivial,⟨R,.refl _,R⟩,trivial⟩ R hi)
    ·refine e' R ?_
     refine s2 0 3 ?_ ?_
     ·refine e' R ?_
      refine s1 3 ?_
      exact gr [0] (h _ _ c) R (fun hi=>peW ⟨trivial,⟨R,.refl _,R⟩,trivial⟩ R hi)
     ·exact gr [0] (h _ _ c) R (fun hi=>peW ⟨trivial,⟨R,.refl _,R⟩,trivial⟩ R hi)
    ·exact gr [0] (h _ _ c) R (fun hi=>peW ⟨trivial,⟨R,.refl _,R⟩,trivial⟩ R hi)
  refine AEx.drawE hC ?_
  refine s3 0 1 2 ?_ ?_ ?_
  ·refine e' R ?_
   refine s2q 1 2 ?_ ?_
   ·refine s1q 2 ?_
    refine s1 3 ?_
    refine gq [0] ((h _ _ c).ok) R (n' ?_)
    refine s1 4 ?_
    refine E0.be hC R (A0.rows_map [m,f.1]).symm (n' ?_)
    refine s1q 5 ?_
    refine s1 6 ?_
    refine E0.s hC R (n' (X0.nil (by kernel_rfl) ?_))
    refine Y0.wk ?_ (r _ _ _ b)
    exact ⟨⟨⟨.rfl,R⟩,⟨.rfl,R⟩,⟨.rfl,R⟩,⟨.rfl,R⟩,trivial⟩,⟨⟨R,.refl _,R⟩,⟨R,.refl _,R⟩,⟨R,.refl _,R⟩,⟨R,⟨.rfl,.rfl,.rfl,.full,trivial⟩,R⟩,trivial⟩,R⟩
   ·refine s2 1 3 ?_ ?_
    ·refine e' R ?_
     refine s1 3 ?_
     refine gq [0] ((h _ _ c).ok) R (n' ?_)
     refine s1 4 ?_
     refine E0.be hC R (A0.rows_map [m,f.1]).symm (n' ?_)
     refine s1q 5 ?_
     refine s1 6 ?_
     refine E0.s hC R (n' (X0.nil (by kernel_rfl) ?_))
     refine Y0.wk ?_ (r _ _ _ b)
     exact ⟨⟨⟨.rfl,R⟩,⟨.rfl,R⟩,⟨.rfl,R⟩,⟨.rfl,R⟩,trivial⟩,⟨⟨R,.refl _,R⟩,⟨R,.refl _,R⟩,⟨R,.refl _,R⟩,⟨R,⟨.rfl,.rfl,.rfl,.full,trivial⟩,R⟩,trivial⟩,R⟩
    ·refine gq [0] ((h _ _ c).ok) R (n' ?_)
     refine s1q 1 ?_
     refine s1 4 ?_
     refine E0.be hC R (A0.rows_map [m,f.1]).symm (n' ?_)
     refine s1q 5 ?_
     refine s1 6 ?_
     refine E0.s hC R (n' (X0.nil (by kernel_rfl) ?_))
     refine Y0.wk ?_ (r _ _ _ b)
     exact ⟨⟨⟨.rfl,R⟩,⟨.rfl,R⟩,⟨.rfl,R⟩,⟨.rfl,R⟩,trivial⟩,⟨⟨R,.refl _,R⟩,⟨R,.refl _,R⟩,⟨R,.refl _,R⟩,⟨R,⟨.rfl,.rfl,.rfl,.full,trivial⟩,R⟩,trivial⟩,R⟩
  ·refine e' R ?_
   refine s2q 0 2 ?_ ?_
   ·refine s1q 2 ?_
    refine s1 3 ?_
    refine gq [0] ((h _ _ c).ok) R (n' ?_)
    refine s1 4 ?_
    refine E0.be hC R (A0.rows_map [m,f.1]).symm (n' ?_)
    refine s1q 5 ?_
    refine s1 6 ?_
    refine E0.s hC R (n' (X0.nil (by kernel_rfl) ?_))
    refine Y0.wk ?_ (r _ _ _ b)
    exact ⟨⟨⟨.rfl,R⟩,⟨.rfl,R⟩,⟨.rfl,R⟩,⟨.rfl,R⟩,trivial⟩,⟨⟨R,.refl _,R⟩,⟨R,.refl _,R⟩,⟨R,.refl _,R⟩,⟨R,⟨.rfl,.rfl,.rfl,.full,trivial⟩,R⟩,trivial⟩,R⟩
   ·refine s2 0 3 ?_ ?_
    ·refine e' R ?_
     refine s1 3 ?_
     refine gq [0] ((h _ _ c).ok) R (n' ?_)
     refine s1 4 ?_
     refine E0.be hC R (A0.rows_map [m,f.1]).symm (n' ?_)
     refine s1q 5 ?_
     refine s1 6 ?_
     refine E0.s hC R (n' (X0.nil (by kernel_rfl) ?_))
     refine Y0.wk ?_ (r _ _ _ b)
     exact ⟨⟨⟨.rfl,R⟩,⟨.rfl,R⟩,⟨.rfl,R⟩,⟨.rfl,R⟩,trivial⟩,⟨⟨R,.refl _,R⟩,⟨R,.refl _,R⟩,⟨R,.refl _,R⟩,⟨R,⟨.rfl,.rfl,.rfl,.full,trivial⟩,R⟩,trivial⟩,R⟩
    ·refine gq [0] ((h _ _ c).ok) R (n' ?_)
     refine s2 0 4 ?_ ?_
     ·refine e' R ?_
      refine s1 4 ?_
      refine E0.be hC R (A0.rows_map [m,f.1]).symm (n' ?_)
      refine s1q 5 ?_
      refine s1 6 ?_
      refine E0.s hC R (n' (X0.nil (by kernel_rfl) ?_))
      refine Y0.wk ?_ (r _ _ _ b)
      exact ⟨⟨⟨.rfl,R⟩,⟨.rfl,R⟩,⟨.rfl,R⟩,⟨.rfl,R⟩,trivial⟩,⟨⟨R,.refl _,R⟩,⟨R,.refl _,R⟩,⟨R,.refl _,R⟩,⟨R,⟨.rfl,.rfl,.rfl,.full,trivial⟩,R⟩,trivial⟩,R⟩
     ·refine E0.be hC R (A0.rows_map [m,f.1]).symm (n' ?_)
      refine s1q 0 ?_
      refine s1q 5 ?_
      refine s1 6 ?_
      refine E0.s hC R (n' (X0.nil (by kernel_rfl) ?_))
      refine Y0.wk ?_ (r _ _ _ b)
      exact ⟨⟨⟨.rfl,R⟩,⟨.rfl,R⟩,⟨.rfl,R⟩,⟨.rfl,R⟩,trivial⟩,⟨⟨R,.refl _,R⟩,⟨R,.refl _,R⟩,⟨R,.refl _,R⟩,⟨R,⟨.rfl,.rfl,.rfl,.full,trivial⟩,R⟩,trivial⟩,R⟩
  ·refine e' R ?_
   refine s3 0 1 3 ?_ ?_ ?_
   ·refine e' R ?_
    refine s2 1 3 ?_ ?_
    ·refine e' R ?_
     refine s1 3 ?_
     refine gq [0] ((h _ _ c).ok) R (n' ?_)
     refine s1 4 ?_
     refine E0.be hC R (A0.rows_map [m,f.1]).symm (n' ?_)
     refine s1q 5 ?_
     refine s1 6 ?_
     refine E0.s hC R (n' (X0.nil (by kernel_rfl) ?_))
     refine Y0.wk ?_ (r _ _ _ b)
     exact ⟨⟨⟨.rfl,R⟩,⟨.rfl,R⟩,⟨.rfl,R⟩,⟨.rfl,R⟩,trivial⟩,⟨⟨R,.refl _,R⟩,⟨R,.refl _,R⟩,⟨R,.refl _,R⟩,⟨R,⟨.rfl,.rfl,.rfl,.full,trivial⟩,R⟩,trivial⟩,R⟩
    ·refine gq [0] ((h _ _ c).ok) R (n' ?_)
     refine s1q 1 ?_
     refine s1 4 ?_
     refine E0.be hC R (A0.rows_map [m,f.1]).symm (n' ?_)
     refine s1q 5 ?_
     refine s1 6 ?_
     refine E0.s hC R (n' (X0.nil (by kernel_rfl) ?_))
     refine Y0.wk ?_ (r _ _ _ b)
     exact ⟨⟨⟨.rfl,R⟩,⟨.rfl,R⟩,⟨.rfl,R⟩,⟨.rfl,R⟩,trivial⟩,⟨⟨R,.refl _,R⟩,⟨R,.refl _,R⟩,⟨R,.refl _,R⟩,⟨R,⟨.rfl,.rfl,.rfl,.full,trivial⟩,R⟩,trivial⟩,R⟩
   ·refine e' R ?_
    refine s2 0 3 ?_ ?_
    ·refine e' R ?_
     refine s1 3 ?_
     refine gq [0] ((h _ _ c).ok) R (n' ?_)
     refine s1 4 ?_
     refine E0.be hC R (A0.rows_map [m,f.1]).symm (n' ?_)
     refine s1q 5 ?_
     refine s1 6 ?_
     refine E0.s hC R (n' (X0.nil (by kernel_rfl) ?_))
     refine Y0.wk ?_ (r _ _ _ b)
     exact ⟨⟨⟨.rfl,R⟩,⟨.rfl,R⟩,⟨.rfl,R⟩,⟨.rfl,R⟩,trivial⟩,⟨⟨R,.refl _,R⟩,⟨R,.refl _,R⟩,⟨R,.refl _,R⟩,⟨R,⟨.rfl,.rfl,.rfl,.full,trivial⟩,R⟩,trivial⟩,R⟩
    ·refine gq [0] ((h _ _ c).ok) R (n' ?_)
     refine s2 0 4 ?_ ?_
     ·refine e' R ?_
      refine s1 4 ?_
      refine E0.be hC R (A0.rows_map [m,f.1]).symm (n' ?_)
      refine s1q 5 ?_
      refine s1 6 ?_
      refine E0.s hC R (n' (X0.nil (by kernel_rfl) ?_))
      refine Y0.wk ?_ (r _ _ _ b)
      exact ⟨⟨⟨.rfl,R⟩,⟨.rfl,R⟩,⟨.rfl,R⟩,⟨.rfl,R⟩,trivial⟩,⟨⟨R,.refl _,R⟩,⟨R,.refl _,R⟩,⟨R,.refl _,R⟩,⟨R,⟨.rfl,.rfl,.rfl,.full,trivial⟩,R⟩,trivial⟩,R⟩
     ·refine E0.be hC R (A0.rows_map [m,f.1]).symm (n' ?_)
      refine s1q 0 ?_
      refine s1q 5 ?_
      refine s1 6 ?_
      refine E0.s hC R (n' (X0.nil (by kernel_rfl) ?_))
      refine Y0.wk ?_ (r _ _ _ b)
      exact ⟨⟨⟨.rfl,R⟩,⟨.rfl,R⟩,⟨.rfl,R⟩,⟨.rfl,R⟩,trivial⟩,⟨⟨R,.refl _,R⟩,⟨R,.refl _,R⟩,⟨R,.refl _,R⟩,⟨R,⟨.rfl,.rfl,.rfl,.full,trivial⟩,R⟩,trivial⟩,R⟩
   ·refine gq [0] ((h _ _ c).ok) R (n' ?_)
    refine s2q 0 1 ?_ ?_
    ·refine s1q 1 ?_
     refine s1 4 ?_
     refine E0.be hC R (A0.rows_map [m,f.1]).symm (n' ?_)
     refine s1q 5 ?_
     refine s1 6 ?_
     refine E0.s hC R (n' (X0.nil (by kernel_rfl) ?_))
     refine Y0.wk ?_ (r _ _ _ b)
     exact ⟨⟨⟨.rfl,R⟩,⟨.rfl,R⟩,⟨.rfl,R⟩,⟨.rfl,R⟩,trivial⟩,⟨⟨R,.refl _,R⟩,⟨R,.refl _,R⟩,⟨R,.refl _,R⟩,⟨R,⟨.rfl,.rfl,.rfl,.full,trivial⟩,R⟩,trivial⟩,R⟩
    ·refine s2 0 4 ?_ ?_
     ·refine e' R ?_
      refine s1 4 ?_
      refine E0.be hC R (A0.rows_map [m,f.1]).symm (n' ?_)
      refine s1q 5 ?_
      refine s1 6 ?_
      refine E0.s hC R (n' (X0.nil (by kernel_rfl) ?_))
      refine Y0.wk ?_ (r _ _ _ b)
      exact ⟨⟨⟨.rfl,R⟩,⟨.rfl,R⟩,⟨.rfl,R⟩,⟨.rfl,R⟩,trivial⟩,⟨⟨R,.refl _,R⟩,⟨R,.refl _,R⟩,⟨R,.refl _,R⟩,⟨R,⟨.rfl,.rfl,.rfl,.full,trivial⟩,R⟩,trivial⟩,R⟩
     ·refine E0.be hC R (A0.rows_map [m,f.1]).symm (n' ?_)
      refine s1q 0 ?_
      refine s1q 5 ?_
      refine s1 6 ?_
      refine E0.s hC R (n' (X0.nil (by kernel_rfl) ?_))
      refine Y0.wk ?_ (r _ _ _ b)
      exact ⟨⟨⟨.rfl,R⟩,⟨.rfl,R⟩,⟨.rfl,R⟩,⟨.rfl,R⟩,trivial⟩,⟨⟨R,.refl _,R⟩,⟨R,.refl _,R⟩,⟨R,.refl _,R⟩,⟨R,⟨.rfl,.rfl,.rfl,.full,trivial⟩,R⟩,trivial⟩,R⟩
 ·intro W a8 h M a e b
  obtain ⟨x1,g,b⟩:=bs' b
  refine F2.intro hC Tryz.func242 R R R (s' R R (E0.nf hC R (n' (S' (bk' (p' 1 R (gq [0] (T0 g) R (e' R (ci' R b (fun b=>?_) (fun b=>?_))))))))))
  ·refine p' 1 R ?_
   rcases bp' b with ⟨nn,B,⟨⟩⟩ | ⟨L,B,b⟩
   ·exact gr [0] (h _ _ B) R (peW ⟨trivial,trivial⟩ R)
   refine gq [0] ((h _ _ B).ok) R (E0.be hC R (A0.rows_map [L.1]).symm (q' R (E0.s hC R (n' (re' ?_)))))
   have p:=oi' b
   subst p
   exact ⟨_,.agg [.d (.int .i64 6),.d (.int .i64 0),.d (.str []),.d (.sl (A0.rows [L.1]))],[.row (D0.cells L.2) 112],R,(.aggL ⟨.rfl,.rfl,.rfl,.full,trivial⟩),⟨⟨R,.refl _,R⟩,trivial⟩,R,R,rpq R R⟩
  obtain ⟨x2,x,b⟩:=bs' b
  refine p' 1 R (gq [0] (T0 x) R (e' R (ci' R b (fun b=>?_) (fun b=>?_))))
  ·refine p' 1 R ?_
   rcases bp' b with ⟨nn,k,⟨⟩⟩ | ⟨y,k,b⟩
   ·exact gr [0] (h _ _ k) R (peW ⟨trivial,trivial⟩ R)
   refine gq [0] ((h _ _ k).ok) R (E0.be hC R (A0.rows_map [y.1]).symm (q' R (E0.s hC R (n' (re' ?_)))))
   have p:=oi' b
   subst p
   exact ⟨_,.agg [.d (.int .i64 7),.d (.int .i64 0),.d (.str []),.d (.sl (A0.rows [y.1]))],[.row (D0.cells y.2) 112],R,(.aggL ⟨.rfl,.rfl,.rfl,.full,trivial⟩),⟨⟨R,.refl _,R⟩,trivial⟩,R,R,rpq R R⟩
  refine sk' (p' 1 R ?_)
  rcases bp' b with ⟨nn,c,⟨⟩⟩ | ⟨f,c,b⟩
  ·exact gr [0] (M _ _ c) R (peW ⟨trivial,trivial⟩ R)
  cases b
  exact gq [0] ((M _ _ c).ok) R (E0.s hC R (n' (re' (rq R))))
 ·intro Y a3 a9 o F P a e b
  obtain ⟨x1,g,b⟩:=bs' b
  refine F2.intro hC Tryz.func246 R R R (s' R R (E0.nf hC R (n' (S' (bk' (p' 1 R (gq [0] (Dh g) R (e' R (ci' R b (fun b=>?_) (fun b=>?_))))))))))
  ·refine p' 1 R ?_
   rcases bp' b with ⟨nn,x,⟨⟩⟩ | ⟨x2,x,b⟩
   ·exact gr [0] (P _ _ x) R (peW ⟨trivial,trivial⟩ R)
   cases b
   exact gq [0] ((P _ _ x).ok) R (E0.s hC R (n' (re' (rq R))))
  obtain ⟨f,c,b⟩:=bs' b
  refine p' 1 R (gq [0] (T0 c) R (e' R (ci' R b (fun b=>?_) (fun b=>?_))))
  ·cases b
   exact p' 1 R (E0.s hC R (n' (re' (rq R))))
  obtain ⟨L,B,b⟩:=bs' b
  refine p' 1 R (gq [0] (T0 B) R (e' R (ci' R b (fun b=>?_) (fun b=>?_))))
  ·cases b
   exact p' 1 R (E0.s hC R (n' (re' (rq R))))
  obtain ⟨y,k,b⟩:=bs' b
  refine p' 1 R (gq [0] (T0 k) R (e' R (ci' R b (fun b=>?_) (fun b=>?_))))
  ·refine p' 1 R ?_
   rcases bp' b with ⟨nn,I,⟨⟩⟩ | ⟨a5,I,b⟩
   ·exact gr [0] (F _ _ _ I) R (peW ⟨trivial,trivial⟩ R)
   cases b
   exact gq [0] ((F _ _ _ I).ok) R (E0.s hC R (n' (re' (rq R))))
  obtain ⟨x6,E,b⟩:=bs' b
  refine p' 1 R (gq [0] (T0 E) R (e' R (ci' R b (fun b=>?_) (fun b=>?_))))
  ·refine p' 1 R ?_
   rcases bp' b with ⟨nn,H,⟨⟩⟩ | ⟨a2,H,b⟩
   ·exact gr [0] (F _ _ _ H) R (peW ⟨trivial,trivial⟩ R)
   cases b
   exact gq [0] ((F _ _ _ H).ok) R (E0.s hC R (n' (re' (rq R))))
  obtain ⟨x7,Q,b⟩:=bs' b
  refine p' 1 R (gq [0] (T0 Q) R (e' R (ci' R b (fun b=>?_) (fun b=>?_))))
  ·refine p' 1 R ?_
   rcases bp' b with ⟨nn,S,⟨⟩⟩ | ⟨x9,S,b⟩
   ·exact gr [0] (o _ _ S) R (peW ⟨trivial,trivial⟩ R)
   refine gq [0] ((o _ _ S).ok) R (E0.nf hC R (E0.s hC R (n' (p' 1 R ?_))))
   rcases bp' b with ⟨nn,K,⟨⟩⟩ | ⟨a6,K,b⟩
   ·exact gr [0] (K0 K) R (peW ⟨trivial,trivial⟩ R)
   cases b
   exact gq [0] ((K0 K).ok) R (n' (p' 1 R (E0.s hC R (n' (re' (rq R))))))
  refine sk' (p' 1 R ?_)
  rcases bp' b with ⟨nn,J,⟨⟩⟩ | ⟨x8,J,b⟩
  ·exact gr [0] (N7 J) R (peW ⟨trivial,trivial⟩ R)
  cases b
  exact gq [0] ((N7 J).ok) R (q' R (E0.s hC R (n' (re' (rq R)))))
 ·intro Y o op a e b
  refine F2.intro hC Tryz.func247 R R R (s' R R (E0.nf hC R (n' (p' 1 R ?_))))
  rcases bp' b with ⟨nn,g,⟨⟩⟩ | ⟨x1,g,b⟩
  ·exact gr [0] (K0 g) R (peW ⟨trivial,trivial⟩ R)
  refine gq [0] ((K0 g).ok) R (n' (p' 1 R ?_))
  rcases bp' b with ⟨nn,x,⟨⟩⟩ | ⟨x2,x,b⟩
  ·exact gr [0] (o _ _ x) R (peW ⟨trivial,trivial⟩ R)
  refine gq [0] ((o _ _ x).ok) R (E0.nf hC R (E0.s hC R (n' (p' 1 R ?_))))
  rcases bp' b with ⟨nn,c,⟨⟩⟩ | ⟨f,c,b⟩
  ·exact gr [0] (K0 c) R (peW ⟨trivial,trivial⟩ R)
  refine gq [0] ((K0 c).ok) R (n' (p' 1 R ?_))
  rcases bp' b with ⟨nn,B,⟨⟩⟩ | ⟨L,B,b⟩
  ·exact gr [0] (o _ _ B) R (peW ⟨trivial,trivial⟩ R)
  refine gq [0] ((o _ _ B).ok) R (E0.nf hC R (E0.s hC R (n' (p' 1 R ?_))))
  rcases bp' b with ⟨nn,k,⟨⟩⟩ | ⟨y,k,b⟩
  ·exact gr [0] (K0 k) R (peW ⟨trivial,trivial⟩ R)
  refine gq [0] ((K0 k).ok) R (n' (p' 3 R (E0.be hC R (A0.rows_map [x2.1,L.1]).symm (q' R (E0.s hC R (n' (re' ?_)))))))
  have p:=oi' b
  subst p
  exact ⟨_,.agg [.d (.int .i64 op),.d (.int .i64 0),.d (.str []),.d (.sl (A0.rows [x2.1,L.1]))],[.row (D0.cells y) 112],R,(.aggL ⟨.rfl,.rfl,.rfl,.full,trivial⟩),⟨⟨R,.refl _,R⟩,trivial⟩,R,R,rpq R R⟩
 ·intro X C a e b
  refine F2.intro hC Tryz.func204 R R R (s' R R (E0.nf hC R (n' (p' 1 R ?_))))
  rcases bp' b with ⟨nn,g,⟨⟩⟩ | ⟨x1,g,b⟩
  ·exact gr [0] (I1 g) R (peW ⟨trivial,trivial⟩ R)
  exact gq [0] ((I1 g).ok) R (q' R (E0.nf hC R (E0.s hC R (n' (bk' (fq (C _ _ _ _ _ b) R))))))
 ·intro Y X o C D q i j e b
  obtain ⟨x2,x,b⟩:=bs' b
  refine Y0.unroll (bk' (bk' (p' 1 R (gq [0] (T0 x) R (e' R (ci' R b (fun b=>?_) (fun b=>?_)))))))
  ·rcases bp' b with ⟨nn,c,⟨⟩⟩ | ⟨f,c,b⟩
   ·refine AEx.drawE hC ?_
    refine s2q 0 2 ?_ ?_
    ·refine s2 1 2 ?_ ?_
     ·exact gr [0] (I1 c) R (peW ⟨trivial,trivial⟩ R)
     ·refine e' R ?_
      refine s2 1 3 ?_ ?_
      ·exact gr [0] (I1 c) R (peW ⟨trivial,trivial⟩ R)
      ·refine E0.be hC R (A0.rows_map [(A0.mk q 0 i j)]).symm (n' ?_)
       refine s1 1 ?_
       exact gr [0] (I1 c) R (peW ⟨trivial,trivial⟩ R)
    ·refine s2 0 3 ?_ ?_
     ·refine e' R ?_
      refine s2 1 3 ?_ ?_
      ·exact gr [0] (I1 c) R (peW ⟨trivial,trivial⟩ R)
      ·refine E0.be hC R (A0.rows_map [(A0.mk q 0 i j)]).symm (n' ?_)
       refine s1 1 ?_
       exact gr [0] (I1 c) R (peW ⟨trivial,trivial⟩ R)
     ·refine E0.be hC R (A0.rows_map [(A0.mk q 0 i j)]).symm (n' ?_)
      refine s1q 0 ?_
      refine s1 1 ?_
      exact gr [0] (I1 c) R (peW ⟨trivial,trivial⟩ R)
   refine AEx.drawE hC ?_
   refine s2q 0 2 ?_ ?_
   ·refine s2 1 2 ?_ ?_
    ·refine gq [0] ((I1 c).ok) R (n' ?_)
     refine s1q 2 ?_
     refine s1 3 ?_
     refine E0.be hC R (A0.rows_map [(A0.mk q 0 i j)]).symm (n' ?_)
     refine s1q 4 ?_
     refine s1 5 ?_
     refine E0.s hC R (n' (X0.nil (by kernel_rfl) ?_))
     refine Y0.wk ?_ (C _ _ _ _ _ b)
     exact ⟨⟨⟨.rfl,R⟩,⟨.rfl,R⟩,⟨.rfl,R⟩,trivial⟩,⟨⟨R,.refl _,R⟩,⟨R,.refl _,R⟩,⟨R,⟨.rfl,.rfl,.rfl,.full,trivial⟩,R⟩,trivial⟩,R⟩
    ·refine e' R ?_
     refine s2 1 3 ?_ ?_
     ·refine gq [0] ((I1 c).ok) R (n' ?_)
      refine s1 3 ?_
      refine E0.be hC R (A0.rows_map [(A0.mk q 0 i j)]).symm (n' ?_)
      refine s1q 4 ?_
      refine s1 5 ?_
      refine E0.s hC R (n' (X0.nil (by kernel_rfl) ?_))
      refine Y0.wk ?_ (C _ _ _ _ _ b)
      exact ⟨⟨⟨.rfl,R⟩,⟨.rfl,R⟩,⟨.rfl,R⟩,trivial⟩,⟨⟨R,.refl _,R⟩,⟨R,.refl _,R⟩,⟨R,⟨.rfl,.rfl,.rfl,.full,trivial⟩,R⟩,trivial⟩,R⟩
     ·refine E0.be hC R (A0.rows_map [(A0.mk q 0 i j)]).symm (n' ?_)
      refine s1 1 ?_
      refine gq [0] ((I1 c).ok) R (n' ?_)
      refine s1q 4 ?_
      refine s1 5 ?_
      refine E0.s hC R (n' (X0.nil (by kernel_rfl) ?_))
      refine Y0.wk ?_ (C _ _ _ _ _ b)
      exact ⟨⟨⟨.rfl,R⟩,⟨.rfl,R⟩,⟨.rfl,R⟩,trivial⟩,⟨⟨R,.refl _,R⟩,⟨R,.refl _,R⟩,⟨R,⟨.rfl,.rfl,.rfl,.full,trivial⟩,R⟩,trivial⟩,R⟩
   ·refine s2 0 3 ?_ ?_
    ·refine e' R ?_
     refine s2 1 3 ?_ ?_
     ·refine gq [0] ((I1 c).ok) R (n' ?_)
      refine s1 3 ?_
      refine E0.be hC R (A0.rows_map [(A0.mk q 0 i j)]).symm (n' ?_)
      refine s1q 4 ?_
      refine s1 5 ?_
      refine E0.s hC R (n' (X0.nil (by kernel_rfl) ?_))
      refine Y0.wk ?_ (C _ _ _ _ _ b)
      exact ⟨⟨⟨.rfl,R⟩,⟨.rfl,R⟩,⟨.rfl,R⟩,trivial⟩,⟨⟨R,.refl _,R⟩,⟨R,.refl _,R⟩,⟨R,⟨.rfl,.rfl,.rfl,.full,trivial⟩,R⟩,trivial⟩,R⟩
     ·refine E0.be hC R (A0.rows_map [(A0.mk q 0 i j)]).symm (n' ?_)
      refine s1 1 ?_
      refine gq [0] ((I1 c).ok) R (n' ?_)
      refine s1q 4 ?_
      refine s1 5 ?_
      refine E0.s hC R (n' (X0.nil (by kernel_rfl) ?_))
      refine Y0.wk ?_ (C _ _ _ _ _ b)
      exact ⟨⟨⟨.rfl,R⟩,⟨.rfl,R⟩,⟨.rfl,R⟩,trivial⟩,⟨⟨R,.refl _,R⟩,⟨R,.refl _,R⟩,⟨R,⟨.rfl,.rfl,.rfl,.full,trivial⟩,R⟩,trivial⟩,R⟩
    ·refine E0.be hC R (A0.rows_map [(A0.mk q 0 i j)]).symm (n' ?_)
     refine s1q 0 ?_
     refine s1 1 ?_
     refine gq [0] ((I1 c).ok) R (n' ?_)
     refine s1q 4 ?_
     refine s1 5 ?_
     refine E0.s hC R (n' (X0.nil (by kernel_rfl) ?_))
     refine Y0.wk ?_ (C _ _ _ _ _ b)
     exact ⟨⟨⟨.rfl,R⟩,⟨.rfl,R⟩,⟨.rfl,R⟩,trivial⟩,⟨⟨R,.refl _,R⟩,⟨R,.refl _,R⟩,⟨R,⟨.rfl,.rfl,.rfl,.full,trivial⟩,R⟩,trivial⟩,R⟩
  obtain ⟨L,B,b⟩:=bs' b
  refine p' 1 R (gq [0] (T0 B) R (e' R (ci' R b (fun b=>?_) (fun b=>?_))))
  ·refine p' 1 R ?_
   rcases bp' b with ⟨nn,k,⟨⟩⟩ | ⟨y,k,b⟩
   ·exact gr [0] (o _ _ k) R (peW ⟨trivial,trivial⟩ R)
   refine gq [0] ((o _ _ k).ok) R (E0.nf hC R (E0.s hC R (n' (p' 1 R ?_))))
   rcases bp' b with ⟨nn,E,⟨⟩⟩ | ⟨x6,E,b⟩
   ·exact gr [0] (K0 E) R (peW ⟨trivial,trivial⟩ R)
   refine gq [0] ((K0 E).ok) R (n' (P' 2 R (E0.be hC R (A0.rows_map [(A0.mk q 0 i j),y.1]).symm (q' R (E0.s hC R (n' ?_))))))
   refine Y0.wk ?_ (C _ _ _ _ _ b)
   exact ⟨⟨⟨.rfl,R⟩,⟨.rfl,R⟩,⟨.rfl,R⟩,trivial⟩,⟨⟨R,.refl _,R⟩,⟨R,.refl _,R⟩,⟨R,⟨.rfl,.rfl,.rfl,.full,trivial⟩,R⟩,trivial⟩,R⟩
  cases b
  exact p' 1 R (E0.s hC R (n' (re' (rq R))))
theorem V0 {parserParser res}(a:Q1 parserParser=some res):Jk parserParser res:=(Ti).1 _ _ a
theorem Tn {parserParser res}(a:Ya parserParser=some res):Dp parserParser res:=(Ti).2.2.2.2.2.2.2.2.2.2.2.2.2.2.2.2.2.2.1 _ _ a
def Q4 (o0:D0)(x1:A0×D0)(x4:Str×D0)(o2_Args:List A0):Option (Pn (C0×D0)):=
 R0 [44] o0>>=fun x13=>
 if x13.1=true then
  Q1 x13.2>>=fun x14=>match x14 with
  | .pn nn=>
  some (.pn nn)
  | .ok x14=>
  if (decide ((o2_Args.length+1) * 57≤140737488355328))=true then
   Q4 x14.2 x1 x4 (o2_Args++[x14.1])
  else none
 else
  U0 [41] x13.2>>=fun x8=>match x8 with
  | .pn nn=>
  some (.pn nn)
  | .ok x8=>
  U0 [59] x8>>=fun x9=>match x9 with
  | .pn nn=>
  some (.pn nn)
  | .ok x9=>
  some (.ok ((C0.mk 1 x1.1 (A0.mk 0 0 [] []) x4.1 o2_Args 0 0 0 [] [] []),x9))
 partial_fixpoint
abbrev Hi (o0:D0)(x1:A0×D0)(x4:Str×D0)(o2_Args:List A0)(res:Pn (C0×D0)):Prop:=LMp C 52 1 Tryz.f163 [1,1,1,0,4,1,2,1,1,0,1,2,1,4] [(0,.ref 0 0),(2,.ref 1 0),(3,.ref 2 0)] [.row (D0.cells o0) 112,.row [.d (.int .i64 0),.d (.int .i64 0),.d (.int .i64 0),.d (.str []),.full (A0.rows []),.d (.int .i64 0),.d (.int .i64 0),.d (.str []),.full (A0.rows []),.d (.str []),.full (A0.rows []),.d (.int .i64 0),.d (.int .i64 0),.d (.int .i64 0),.full (ei64.rows []),.full (C0.rows []),.full (C0.rows [])] 88,.row [.d (.int .i64 1),.d (.int .i64 x1.1.Op),.d (.int .i64 x1.1.NV),.d (.str x1.1.Name),.d (.sl (A0.rows x1.1.Kids)),.d (.int .i64 0),.d (.int .i64 0),.d (.str []),.full (A0.rows []),.d (.str x4.1),.osl 3 (A0.rows o2_Args),.d (.int .i64 0),.d (.int .i64 0),.d (.int .i64 0),.full (ei64.rows []),.full (C0.rows []),.full (C0.rows [])] 88,.tok 80 4] (X4 res (fun rr=>[.row (D0.cells rr.2) 112]) (fun rr=>.agg (C0.cells rr.1))) (P4 res N3 [.dead])
theorem Kp (x1:A0×D0)(l:Str×D0):(∀ m a h,Q4 m x1 l a=some h→Hi m x1 l a h):=by
 refine Q4.partial_correctness x1 l _ ?_
 ·intro q f m a h e
  obtain ⟨p,k,e⟩:=bs' e
  refine Y0.unroll (S' (p' 1 R (gq [0] (T0 k) R (n' (ci' R e (fun e=>?_) (fun e=>?_))))))
  ·refine sk' (bk' ?_)
   rcases bp' e with ⟨nn,c,⟨⟩⟩ | ⟨b,c,e⟩
   ·refine AEx.drawE hC ?_
    refine s2q 0 2 ?_ ?_
    ·refine s2q 1 2 ?_ ?_
     ·refine s1q 2 ?_
      refine s1 3 ?_
      exact gr [0] (V0 c) R (peW ⟨trivial,trivial⟩ R)
     ·refine s2 1 3 ?_ ?_
      ·refine e' R ?_
       refine s1 3 ?_
       exact gr [0] (V0 c) R (peW ⟨trivial,trivial⟩ R)
      ·exact gr [0] (V0 c) R (peW ⟨trivial,trivial⟩ R)
    ·refine s2 0 3 ?_ ?_
     ·refine e' R ?_
      refine s2 1 3 ?_ ?_
      ·refine e' R ?_
       refine s1 3 ?_
       exact gr [0] (V0 c) R (peW ⟨trivial,trivial⟩ R)
      ·exact gr [0] (V0 c) R (peW ⟨trivial,trivial⟩ R)
     ·exact gr [0] (V0 c) R (peW ⟨trivial,trivial⟩ R)
   obtain ⟨g,e⟩:=Z0 e
   refine AEx.drawE hC ?_
   refine s2q 0 2 ?_ ?_
   ·refine s2q 1 2 ?_ ?_
    ·refine s1q 2 ?_
     refine s1 3 ?_
     refine gq [0] ((V0 c).ok) R (n' ?_)
     refine s1 4 ?_
     refine E0.be hC R (A0.rows_map [b.1]).symm (n' ?_)
     refine s1 5 ?_
     refine E0.ap hC R (rs:=A0.rows (a++[b.1])) (A0.app a [b.1]) (A0.sz a) (A0.sz [b.1]) (N1 (A0.len a) (A0.len [b.1]) g) (n' ?_)
     refine s1q 6 ?_
     refine s1 7 ?_
     exact E0.s hC R (n' (X0.nil (by kernel_rfl) (lq (f _ _ _ e) R)))
    ·refine s2 1 3 ?_ ?_
     ·refine e' R ?_
      refine s1 3 ?_
      refine gq [0] ((V0 c).ok) R (n' ?_)
      refine s1 4 ?_
      refine E0.be hC R (A0.rows_map [b.1]).symm (n' ?_)
      refine s1 5 ?_
      refine E0.ap hC R (rs:=A0.rows (a++[b.1])) (A0.app a [b.1]) (A0.sz a) (A0.sz [b.1]) (N1 (A0.len a) (A0.len [b.1]) g) (n' ?_)
      refine s1q 6 ?_
      refine s1 7 ?_
      exact E0.s hC R (n' (X0.nil (by kernel_rfl) (lq (f _ _ _ e) R)))
     ·refine gq [0] ((V0 c).ok) R (n' ?_)
      refine s2 1 4 ?_ ?_
      ·refine e' R ?_
       refine s1 4 ?_
       refine E0.be hC R (A0.rows_map [b.1]).symm (n' ?_)
       refine s1 5 ?_
       refine E0.ap hC R (rs:=A0.rows (a++[b.1])) (A0.app a [b.1]) (A0.sz a) (A0.sz [b.1]) (N1 (A0.len a) (A0.len [b.1]) g) (n' ?_)
       refine s1q 6 ?_
       refine s1 7 ?_
       exact E0.s hC R (n' (X0.nil (by kernel_rfl) (lq (f _ _ _ e) R)))
      ·refine E0.be hC R (A0.rows_map [b.1]).symm (n' ?_)
       refine s1q 1 ?_
       refine s1 5 ?_
       refine E0.ap hC R (rs:=A0.rows (a++[b.1])) (A0.app a [b.1]) (A0.sz a) (A0.sz [b.1]) (N1 (A0.len a) (A0.len [b.1]) g) (n' ?_)
       refine s1q 6 ?_
       refine s1 7 ?_
       exact E0.s hC R (n' (X0.nil (by kernel_rfl) (lq (f _ _ _ e) R)))
   ·refine s2 0 3 ?_ ?_
    ·refine e' R ?_
     refine s2 1 3 ?_ ?_
     ·refine e' R ?_
      refine s1 3 ?_
      refine gq [0] ((V0 c).ok) R (n' ?_)
      refine s1 4 ?_
      refine E0.be hC R (A0.rows_map [b.1]).symm (n' ?_)
      refine s1 5 ?_
      refine E0.ap hC R (rs:=A0.rows (a++[b.1])) (A0.app a [b.1]) (A0.sz a) (A0.sz [b.1]) (N1 (A0.len a) (A0.len [b.1]) g) (n' ?_)
      refine s1q 6 ?_
      refine s1 7 ?_
      exact E0.s hC R (n' (X0.nil (by kernel_rfl) (lq (f _ _ _ e) R)))
     ·refine gq [0] ((V0 c).ok) R (n' ?_)
      refine s2 1 4 ?_ ?_
      ·refine e' R ?_
       refine s1 4 ?_
       refine E0.be hC R (A0.rows_map [b.1]).symm (n' ?_)
       refine s1 5 ?_
       refine E0.ap hC R (rs:=A0.rows (a++[b.1])) (A0.app a [b.1]) (A0.sz a) (A0.sz [b.1]) (N1 (A0.len a) (A0.len [b.1]) g) (n' ?_)
       refine s1q 6 ?_
       refine s1 7 ?_
       exact E0.s hC R (n' (X0.nil (by kernel_rfl) (lq (f _ _ _ e) R)))
      ·refine E0.be hC R (A0.rows_map [b.1]).symm (n' ?_)
       refine s1q 1 ?_
       refine s1 5 ?_
       refine E0.ap hC R (rs:=A0.rows (a++[b.1])) (A0.app a [b.1]) (A0.sz a) (A0.sz [b.1]) (N1 (A0.len a) (A0.len [b.1]) g) (n' ?_)
       refine s1q 6 ?_
       refine s1 7 ?_
       exact E0.s hC R (n' (X0.nil (by kernel_rfl) (lq (f _ _ _ e) R)))
    ·refine gq [0] ((V0 c).ok) R (n' ?_)
     refine s2 0 4 ?_ ?_
     ·refine e' R ?_
      refine s2 1 4 ?_ ?_
      ·refine e' R ?_
       refine s1 4 ?_
       refine E0.be hC R (A0.rows_map [b.1]).symm (n' ?_)
       refine s1 5 ?_
       refine E0.ap hC R (rs:=A0.rows (a++[b.1])) (A0.app a [b.1]) (A0.sz a) (A0.sz [b.1]) (N1 (A0.len a) (A0.len [b.1]) g) (n' ?_)
       refine s1q 6 ?_
       refine s1 7 ?_
       exact E0.s hC R (n' (X0.nil (by kernel_rfl) (lq (f _ _ _ e) R)))
      ·refine E0.be hC R (A0.rows_map [b.1]).symm (n' ?_)
       refine s1q 1 ?_
       refine s1 5 ?_
       refine E0.ap hC R (rs:=A0.rows (a++[b.1])) (A0.app a [b.1]) (A0.sz a) (A0.sz [b.1]) (N1 (A0.len a) (A0.len [b.1]) g) (n' ?_)
       refine s1q 6 ?_
       refine s1 7 ?_
       exact E0.s hC R (n' (X0.nil (by kernel_rfl) (lq (f _ _ _ e) R)))
     ·refine E0.be hC R (A0.rows_map [b.1]).symm (n' ?_)
      refine s1q 0 ?_
      refine s1q 1 ?_
      refine s1 5 ?_
      refine E0.ap hC R (rs:=A0.rows (a++[b.1])) (A0.app a [b.1]) (A0.sz a) (A0.sz [b.1]) (N1 (A0.len a) (A0.len [b.1]) g) (n' ?_)
      refine s1q 6 ?_
      refine s1 7 ?_
      exact E0.s hC R (n' (X0.nil (by kernel_rfl) (lq (f _ _ _ e) R)))
  refine ex' (P' 1 R ?_)
  rcases bp' e with ⟨nn,j,⟨⟩⟩ | ⟨r,j,e⟩
  ·exact gr [0] (K0 j) R (peW ⟨trivial,trivial⟩ R)
  refine gq [0] ((K0 j).ok) R (n' (p' 1 R ?_))
  rcases bp' e with ⟨nn,i,⟨⟩⟩ | ⟨o,i,e⟩
  ·exact gr [0] (K0 i) R (peW ⟨trivial,trivial⟩ R)
  refine gq [0] ((K0 i).ok) R (n' (p' 1 R (E0.s hC R (n' (re' ?_)))))
  have n:=oi' e
  subst n
  exact ⟨_,.agg [.d (.int .i64 1),.d (.int .i64 x1.1.Op),.d (.int .i64 x1.1.NV),.d (.str x1.1.Name),.d (.sl (A0.rows x1.1.Kids)),.d (.int .i64 0),.d (.int .i64 0),.d (.str []),.d (.sl (A0.rows [])),.d (.str l.1),.d (.sl (A0.rows a)),.d (.int .i64 0),.d (.int .i64 0),.d (.int .i64 0),.d (.sl (ei64.rows [])),.d (.sl (C0.rows [])),.d (.sl (C0.rows []))],[.row (D0.cells o) 112],R,(.aggL ⟨.rfl,.rfl,.rfl,.rfl,.rfl,.rfl,.rfl,.rfl,.full,.rfl,.osl,.rfl,.rfl,.rfl,.full,.full,.full,trivial⟩),⟨⟨R,.refl _,R⟩,trivial⟩,R,R,rpq R R⟩
theorem Yp {o0 x1 x4 o2_Args res}(a:Q4 o0 x1 x4 o2_Args=some res):Hi o0 x1 x4 o2_Args res:=(Kp x1 x4) _ _ _ a
def La (x7:A0×D0)(x1:A0×D0)(x4:Str×D0):Option (Pn (C0×D0)):=
 Q4 x7.2 x1 x4 [x7.1]
theorem R2 {x7 x1 x4 res}(b:La x7 x1 x4=some res):JMp C 52 1 Tryz.f163 [1,1,1,0,4,1,2,1,1,0,1,2,1] [(0,.ref 0 0),(2,.ref 1 0),(3,.ref 2 0)] [.row (D0.cells x7.2) 112,.row [.d (.int .i64 0),.d (.int .i64 0),.d (.int .i64 0),.d (.str []),.full (A0.rows []),.d (.int .i64 0),.d (.int .i64 0),.d (.str []),.full (A0.rows []),.d (.str []),.full (A0.rows []),.d (.int .i64 0),.d (.int .i64 0),.d (.int .i64 0),.full (ei64.rows []),.full (C0.rows []),.full (C0.rows [])] 88,.row [.d (.int .i64 1),.d (.int .i64 x1.1.Op),.d (.int .i64 x1.1.NV),.d (.str x1.1.Name),.d (.sl (A0.rows x1.1.Kids)),.d (.int .i64 0),.d (.int .i64 0),.d (.str []),.full (A0.rows []),.d (.str x4.1),.osl 3 (A0.rows [x7.1]),.d (.int .i64 0),.d (.int .i64 0),.d (.int .i64 0),.full (ei64.rows []),.full (C0.rows []),.full (C0.rows [])] 88,.tok 80 4] (X4 res (fun a=>[.row (D0.cells a.2) 112]) (fun a=>.agg (C0.cells a.1))) (P4 res N3 [.dead]):=by
 unfold La at b
 exact bk' (fq (Yp b) R)
def I9 (parserParser:D0):Option (Pn (C0×D0)):=
 Ya parserParser>>=fun x1=>match x1 with
 | .pn nn=>
 some (.pn nn)
 | .ok x1=>
 U0 [61] x1.2>>=fun x2=>match x2 with
 | .pn nn=>
 some (.pn nn)
 | .ok x2=>
 R0 [99,97,108,108] x2>>=fun x3=>
 if x3.1=true then
  H3 x3.2>>=fun x4=>match x4 with
  | .pn nn=>
  some (.pn nn)
  | .ok x4=>
  U0 [40] x4.2>>=fun x5=>match x5 with
  | .pn nn=>
  some (.pn nn)
  | .ok x5=>
  De [41] x5>>=fun x6=>
  if (!x6)=true then
   Q1 x5>>=fun x7=>match x7 with
   | .pn nn=>
   some (.pn nn)
   | .ok x7=>
   if (decide ((0+1) * 57≤140737488355328))=true then
    La x7 x1 x4
   else none
  else
   U0 [41] x5>>=fun x8=>match x8 with
   | .pn nn=>
   some (.pn nn)
   | .ok x8=>
   U0 [59] x8>>=fun x9=>match x9 with
   | .pn nn=>
   some (.pn nn)
   | .ok x9=>
   some (.ok ((C0.mk 1 x1.1 (A0.mk 0 0 [] []) x4.1 [] 0 0 0 [] [] []),x9))
 else
  R0 [114,101,108,101,97,115,101] x3.2>>=fun x10=>
  if x10.1=true then
   H3 x10.2>>=fun x11=>match x11 with
   | .pn nn=>
   some (.pn nn)
   | .ok x11=>
   U0 [59] x11.2>>=fun x9=>match x9 with
   | .pn nn=>
   some (.pn nn)
   | .ok x9=>
   some (.ok ((C0.mk 2 x1.1 (A0.mk 0 0 [] []) x11.1 [] 0 0 0 [] [] []),x9))
  else
   Q1 x10.2>>=fun x12=>match x12 with
   | .pn nn=>
   some (.pn nn)
   | .ok x12=>
   U0 [59] x12.2>>=fun x9=>match x9 with
   | .pn nn=>
   some (.pn nn)
   | .ok x9=>
   some (.ok ((C0.mk 0 x1.1 x12.1 [] [] 0 0 0 [] [] []),x9))
theorem Oj {parserParser res}(a:I9 parserParser=some res):F2 C 163 [.ref 0 0] [.row (D0.cells parserParser) 112] (X4 res (fun r=>[.row (D0.cells r.2) 112]) (fun r=>.agg (C0.cells r.1))) (P4 res N3 [.dead]):=by
 unfold I9 at a
 refine F2.intro hC Tryz.func163 R R R (s' R R (E0.nf hC R (n' (p' 1 R ?_))))
 rcases bp' a with ⟨nn,m,⟨⟩⟩ | ⟨x1,m,a⟩
 ·exact gr [0] (Tn m) R (peW ⟨trivial,trivial⟩ R)
 refine gq [0] ((Tn m).ok) R (E0.bz hC R (E0.nf hC R (E0.s hC R (n' (p' 1 R ?_)))))
 rcases bp' a with ⟨nn,l,⟨⟩⟩ | ⟨x2,l,a⟩
 ·exact gr [0] (K0 l) R (peW ⟨trivial,trivial⟩ R)
 obtain ⟨z,t,a⟩:=bs' a
 refine gq [0] ((K0 l).ok) R (n' (S' (bk' (p' 1 R (gq [0] (T0 t) R (e' R (ci' R a (fun a=>?_) (fun a=>?_))))))))
 ·refine p' 1 R ?_
  rcases bp' a with ⟨nn,j,⟨⟩⟩ | ⟨w,j,a⟩
  ·exact gr [0] (I1 j) R (peW ⟨trivial,trivial⟩ R)
  refine gq [0] ((I1 j).ok) R (q' R (E0.s hC R (q' R (E0.s hC R (n' (p' 1 R ?_))))))
  rcases bp' a with ⟨nn,n,⟨⟩⟩ | ⟨y,n,a⟩
  ·exact gr [0] (K0 n) R (peW ⟨trivial,trivial⟩ R)
  obtain ⟨B,u,a⟩:=bs' a
  refine gq [0] ((K0 n).ok) R (n' (S' (p' 1 R (gq [0] (Ar u) R (e' R (ci' R a (fun a=>?_) (fun a=>?_)))))))
  ·refine S' ?_
   rcases bp' a with ⟨nn,c,⟨⟩⟩ | ⟨b,c,a⟩
   ·refine AEx.drawE hC ?_
    refine s2q 0 2 ?_ ?_
    ·refine s2q 1 2 ?_ ?_
     ·refine s1q 2 ?_
      refine s1 3 ?_
      exact gr [0] (V0 c) R (peW ⟨trivial,trivial⟩ R)
     ·refine s2 1 3 ?_ ?_
      ·refine e' R ?_
       refine s1 3 ?_
       exact gr [0] (V0 c) R (peW ⟨trivial,trivial⟩ R)
      ·exact gr [0] (V0 c) R (peW ⟨trivial,trivial⟩ R)
    ·refine s2 0 3 ?_ ?_
     ·refine e' R ?_
      refine s2 1 3 ?_ ?_
      ·refine e' R ?_
       refine s1 3 ?_
       exact gr [0] (V0 c) R (peW ⟨trivial,trivial⟩ R)
      ·exact gr [0] (V0 c) R (peW ⟨trivial,trivial⟩ R)
     ·exact gr [0] (V0 c) R (peW ⟨trivial,trivial⟩ R)
   obtain ⟨h,a⟩:=Z0 a
   refine AEx.drawE hC ?_
   refine s2q 0 2 ?_ ?_
   ·refine s2q 1 2 ?_ ?_
    ·refine s1q 2 ?_
     refine s1 3 ?_
     refine gq [0] ((V0 c).ok) R (n' ?_)
     refine s1 4 ?_
     refine E0.be hC R (A0.rows_map [b.1]).symm (n' ?_)
     refine s1 5 ?_
     refine E0.ap hC R (rs:=A0.rows [b.1]) R (A0.sz []) (A0.sz [b.1]) (N1 (A0.len []) (A0.len [b.1]) h) (n' ?_)
     refine s1q 6 ?_
     refine s1 7 ?_
     exact E0.s hC R (n' (X0.nil (by kernel_rfl) (eq' (R2 a) R)))
    ·refine s2 1 3 ?_ ?_
     ·refine e' R ?_
      refine s1 3 ?_
      refine gq [0] ((V0 c).ok) R (n' ?_)
      refine s1 4 ?_
      refine E0.be hC R (A0.rows_map [b.1]).symm (n' ?_)
      refine s1 5 ?_
      refine E0.ap hC R (rs:=A0.rows [b.1]) R (A0.sz []) (A0.sz [b.1]) (N1 (A0.len []) (A0.len [b.1]) h) (n' ?_)
      refine s1q 6 ?_
      refine s1 7 ?_
      exact E0.s hC R (n' (X0.nil (by kernel_rfl) (eq' (R2 a) R)))
     ·refine gq [0] ((V0 c).ok) R (n' ?_)
      refine s2 1 4 ?_ ?_
      ·refine e' R ?_
       refine s1 4 ?_
       refine E0.be hC R (A0.rows_map [b.1]).symm (n' ?_)
       refine s1 5 ?_
       refine E0.ap hC R (rs:=A0.rows [b.1]) R (A0.sz []) (A0.sz [b.1]) (N1 (A0.len []) (A0.len [b.1]) h) (n' ?_)
       refine s1q 6 ?_
       refine s1 7 ?_
       exact E0.s hC R (n' (X0.nil (by kernel_rfl) (eq' (R2 a) R)))
      ·refine E0.be hC R (A0.rows_map [b.1]).symm (n' ?_)
       refine s1q 1 ?_
       refine s1 5 ?_
       refine E0.ap hC R (rs:=A0.rows [b.1]) R (A0.sz []) (A0.sz [b.1]) (N1 (A0.len []) (A0.len [b.1]) h) (n' ?_)
       refine s1q 6 ?_
       refine s1 7 ?_
       exact E0.s hC R (n' (X0.nil (by kernel_rfl) (eq' (R2 a) R)))
   ·refine s2 0 3 ?_ ?_
    ·refine e' R ?_
     refine s2 1 3 ?_ ?_
     ·refine e' R ?_
      refine s1 3 ?_
      refine gq [0] ((V0 c).ok) R (n' ?_)
      refine s1 4 ?_
      refine E0.be hC R (A0.rows_map [b.1]).symm (n' ?_)
      refine s1 5 ?_
      refine E0.ap hC R (rs:=A0.rows [b.1]) R (A0.sz []) (A0.sz [b.1]) (N1 (A0.len []) (A0.len [b.1]) h) (n' ?_)
      refine s1q 6 ?_
      refine s1 7 ?_
      exact E0.s hC R (n' (X0.nil (by kernel_rfl) (eq' (R2 a) R)))
     ·refine gq [0] ((V0 c).ok) R (n' ?_)
      refine s2 1 4 ?_ ?_
      ·refine e' R ?_
       refine s1 4 ?_
       refine E0.be hC R (A0.rows_map [b.1]).symm (n' ?_)
       refine s1 5 ?_
       refine E0.ap hC R (rs:=A0.rows [b.1]) R (A0.sz []) (A0.sz [b.1]) (N1 (A0.len []) (A0.len [b.1]) h) (n' ?_)
       refine s1q 6 ?_
       refine s1 7 ?_
       exact E0.s hC R (n' (X0.nil (by kernel_rfl) (eq' (R2 a) R)))
      ·refine E0.be hC R (A0.rows_map [b.1]).symm (n' ?_)
       refine s1q 1 ?_
       refine s1 5 ?_
       refine E0.ap hC R (rs:=A0.rows [b.1]) R (A0.sz []) (A0.sz [b.1]) (N1 (A0.len []) (A0.len [b.1]) h) (n' ?_)
       refine s1q 6 ?_
       refine s1 7 ?_
       exact E0.s hC R (n' (X0.nil (by kernel_rfl) (eq' (R2 a) R)))
    ·refine gq [0] ((V0 c).ok) R (n' ?_)
     refine s2 0 4 ?_ ?_
     ·refine e' R ?_
      refine s2 1 4 ?_ ?_
      ·refine e' R ?_
       refine s1 4 ?_
       refine E0.be hC R (A0.rows_map [b.1]).symm (n' ?_)
       refine s1 5 ?_
       refine E0.ap hC R (rs:=A0.rows [b.1]) R (A0.sz []) (A0.sz [b.1]) (N1 (A0.len []) (A0.len [b.1]) h) (n' ?_)
       refine s1q 6 ?_
       refine s1 7 ?_
       exact E0.s hC R (n' (X0.nil (by kernel_rfl) (eq' (R2 a) R)))
      ·refine E0.be hC R (A0.rows_map [b.1]).symm (n' ?_)
       refine s1q 1 ?_
       refine s1 5 ?_
       refine E0.ap hC R (rs:=A0.rows [b.1]) R (A0.sz []) (A0.sz [b.1]) (N1 (A0.len []) (A0.len [b.1]) h) (n' ?_)
       refine s1q 6 ?_
       refine s1 7 ?_
       exact E0.s hC R (n' (X0.nil (by kernel_rfl) (eq' (R2 a) R)))
     ·refine E0.be hC R (A0.rows_map [b.1]).symm (n' ?_)
      refine s1q 0 ?_
      refine s1q 1 ?_
      refine s1 5 ?_
      refine E0.ap hC R (rs:=A0.rows [b.1]) R (A0.sz []) (A0.sz [b.1]) (N1 (A0.len []) (A0.len [b.1]) h) (n' ?_)
      refine s1q 6 ?_
      refine s1 7 ?_
      exact E0.s hC R (n' (X0.nil (by kernel_rfl) (eq' (R2 a) R)))
  refine sk' (P' 1 R ?_)
  rcases bp' a with ⟨nn,k,⟨⟩⟩ | ⟨A,k,a⟩
  ·exact gr [0] (K0 k) R (peW ⟨trivial,trivial⟩ R)
  refine gq [0] ((K0 k).ok) R (n' (p' 1 R ?_))
  rcases bp' a with ⟨nn,e,⟨⟩⟩ | ⟨p,e,a⟩
  ·exact gr [0] (K0 e) R (peW ⟨trivial,trivial⟩ R)
  refine gq [0] ((K0 e).ok) R (n' (p' 1 R (E0.s hC R (n' (re' ?_)))))
  have o:=oi' a
  subst o
  exact ⟨_,.agg [.d (.int .i64 1),.d (.int .i64 x1.1.Op),.d (.int .i64 x1.1.NV),.d (.str x1.1.Name),.d (.sl (A0.rows x1.1.Kids)),.d (.int .i64 0),.d (.int .i64 0),.d (.str []),.d (.sl (A0.rows [])),.d (.str w.1),.d (.sl (A0.rows [])),.d (.int .i64 0),.d (.int .i64 0),.d (.int .i64 0),.d (.sl (ei64.rows [])),.d (.sl (C0.rows [])),.d (.sl (C0.rows []))],[.row (D0.cells p) 112],R,(.aggL ⟨.rfl,.rfl,.rfl,.rfl,.rfl,.rfl,.rfl,.rfl,.full,.rfl,.full,.rfl,.rfl,.rfl,.full,.full,.full,trivial⟩),⟨⟨R,.refl _,R⟩,trivial⟩,R,R,rpq R R⟩
 obtain ⟨x,q,a⟩:=bs' a
 refine p' 1 R (gq [0] (T0 q) R (e' R (ci' R a (fun a=>?_) (fun a=>?_))))
 ·refine P' 1 R ?_
  rcases bp' a with ⟨nn,g,⟨⟩⟩ | ⟨v,g,a⟩
  ·exact gr [0] (I1 g) R (peW ⟨trivial,trivial⟩ R)
  refine gq [0] ((I1 g).ok) R (q' R (E0.s hC R (q' R (E0.s hC R (n' (p' 1 R ?_))))))
  rcases bp' a with ⟨nn,e,⟨⟩⟩ | ⟨p,e,a⟩
  ·exact gr [0] (K0 e) R (peW ⟨trivial,trivial⟩ R)
  refine gq [0] ((K0 e).ok) R (n' (p' 1 R (E0.s hC R (n' (re' ?_)))))
  have o:=oi' a
  subst o
  exact ⟨_,.agg [.d (.int .i64 2),.d (.int .i64 x1.1.Op),.d (.int .i64 x1.1.NV),.d (.str x1.1.Name),.d (.sl (A0.rows x1.1.Kids)),.d (.int .i64 0),.d (.int .i64 0),.d (.str []),.d (.sl (A0.rows [])),.d (.str v.1),.d (.sl (A0.rows [])),.d (.int .i64 0),.d (.int .i64 0),.d (.int .i64 0),.d (.sl (ei64.rows [])),.d (.sl (C0.rows [])),.d (.sl (C0.rows []))],[.row (D0.cells p) 112],R,(.aggL ⟨.rfl,.rfl,.rfl,.rfl,.rfl,.rfl,.rfl,.rfl,.full,.rfl,.full,.rfl,.rfl,.rfl,.full,.full,.full,trivial⟩),⟨⟨R,.refl _,R⟩,trivial⟩,R,R,rpq R R⟩
 refine P' 1 R ?_
 rcases bp' a with ⟨nn,f,⟨⟩⟩ | ⟨i,f,a⟩
 ·exact gr [0] (V0 f) R (peW ⟨trivial,trivial⟩ R)
 refine gq [0] ((V0 f).ok) R (q' R (E0.s hC R (n' (p' 1 R ?_))))
 rcases bp' a with ⟨nn,e,⟨⟩⟩ | ⟨p,e,a⟩
 ·exact gr [0] (K0 e) R (peW ⟨trivial,trivial⟩ R)
 refine gq [0] ((K0 e).ok) R (n' (p' 1 R (E0.s hC R (n' (re' ?_)))))
 have o:=oi' a
 subst o
 exact ⟨_,.agg [.d (.int .i64 0),.d (.int .i64 x1.1.Op),.d (.int .i64 x1.1.NV),.d (.str x1.1.Name),.d (.sl (A0.rows x1.1.Kids)),.d (.int .i64 i.1.Op),.d (.int .i64 i.1.NV),.d (.str i.1.Name),.d (.sl (A0.rows i.1.Kids)),.d (.str []),.d (.sl (A0.rows [])),.d (.int .i64 0),.d (.int .i64 0),.d (.int .i64 0),.d (.sl (ei64.rows [])),.d (.sl (C0.rows [])),.d (.sl (C0.rows []))],[.row (D0.cells p) 112],R,(.aggL ⟨.rfl,.rfl,.rfl,.rfl,.rfl,.rfl,.rfl,.rfl,.rfl,.rfl,.full,.rfl,.rfl,.rfl,.full,.full,.full,trivial⟩),⟨⟨R,.refl _,R⟩,trivial⟩,R,R,rpq R R⟩
def F5 (o0:D0)(o2_Numbers:List Int):Option (Pn (C0×Bool×D0)):=
 R0 [44] o0>>=fun x23=>
 if x23.1=true then
  U2 x23.2>>=fun x24=>match x24 with
  | .pn nn=>
  some (.pn nn)
  | .ok x24=>
  if (decide ((o2_Numbers.length+1) * 9≤140737488355328))=true then
   F5 x24.2 (o2_Numbers++[x24.1])
  else none
 else
  U0 [59] x23.2>>=fun x25=>match x25 with
  | .pn nn=>
  some (.pn nn)
  | .ok x25=>
  some (.ok ((C0.mk 8 (A0.mk 0 0 [] []) (A0.mk 0 0 [] []) [] [] 0 0 0 o2_Numbers [] []),true,x25))
 partial_fixpoint
abbrev Ui (o0:D0)(o2_Numbers:List Int)(res:Pn (C0×Bool×D0)):Prop:=LMp C 93 1 Tryz.f104 [1,1,0,4,1,3,1,3,1,3,1,2,1,0,4] [(0,.ref 0 0),(2,.ref 1 0),(4,.ref 2 0)] [.row (D0.cells o0) 112,.row [.d (.int .i64 0),.d (.int .i64 0),.d (.int .i64 0),.d (.str []),.full (A0.rows []),.d (.int .i64 0),.d (.int .i64 0),.d (.str []),.full (A0.rows []),.d (.str []),.full (A0.rows []),.d (.int .i64 0),.d (.int .i64 0),.d (.int .i64 0),.full (ei64.rows []),.full (C0.rows []),.full (C0.rows [])] 88,.row [.d (.int .i64 8),.d (.int .i64 0),.d (.int .i64 0),.d (.str []),.d (.sl (A0.rows [])),.d (.int .i64 0),.d (.int .i64 0),.d (.str []),.d (.sl (A0.rows [])),.d (.str []),.d (.sl (A0.rows [])),.d (.int .i64 0),.d (.int .i64 0),.d (.int .i64 0),.osl 3 (ei64.rows o2_Numbers),.d (.sl (C0.rows [])),.d (.sl (C0.rows []))] 88,.tok 3 1] (X4 res (fun rr=>[.row (D0.cells rr.2.2) 112]) (fun rr=>.tup [.agg (C0.cells rr.1),.d (.bool rr.2.1)])) (P4 res N3 [.dead])
theorem Zp:(∀ l a i,F5 l a=some i→Ui l a i):=by
 refine F5.partial_correctness _ ?_
 ·intro o f l a i e
  obtain ⟨n,j,e⟩:=bs' e
  refine Y0.unroll (S' (p' 1 R (gq [0] (T0 j) R (n' (ci' R e (fun e=>?_) (fun e=>?_))))))
  ·refine sk' (bk' ?_)
   rcases bp' e with ⟨nn,c,⟨⟩⟩ | ⟨b,c,e⟩
   ·refine AEx.drawE hC ?_
    refine s2q 0 2 ?_ ?_
    ·refine s2q 1 2 ?_ ?_
     ·refine s1q 2 ?_
      refine s1 3 ?_
      exact gr [0] (E1 c) R (peW ⟨trivial,trivial⟩ R)
     ·refine s2 1 3 ?_ ?_
      ·refine e' R ?_
       refine s1 3 ?_
       exact gr [0] (E1 c) R (peW ⟨trivial,trivial⟩ R)
      ·exact gr [0] (E1 c) R (peW ⟨trivial,trivial⟩ R)
    ·refine s2 0 3 ?_ ?_
     ·refine e' R ?_
      refine s2 1 3 ?_ ?_
      ·refine e' R ?_
       refine s1 3 ?_
       exact gr [0] (E1 c) R (peW ⟨trivial,trivial⟩ R)
      ·exact gr [0] (E1 c) R (peW ⟨trivial,trivial⟩ R)
     ·exact gr [0] (E1 c) R (peW ⟨trivial,trivial⟩ R)
   obtain ⟨h,e⟩:=Z0 e
   refine AEx.drawE hC ?_
   refine s2q 0 2 ?_ ?_
   ·refine s2q 1 2 ?_ ?_
    ·refine s1q 2 ?_
     refine s1 3 ?_
     refine gq [0] ((E1 c).ok) R (n' ?_)
     refine s1 4 ?_
     refine E0.be hC R (ei64.rows_map [b.1]).symm (n' ?_)
     refine s1 5 ?_
     refine E0.ap hC R (rs:=ei64.rows (a++[b.1])) (ei64.app a [b.1]) (ei64.sz a) (ei64.sz [b.1]) (N1 (ei64.len a) (ei64.len [b.1]) h) (n' ?_)
     refine s1q 6 ?_
     refine s1 7 ?_
     exact E0.s hC R (n' (X0.nil (by kernel_rfl) (lq (f _ _ _ e) R)))
    ·refine s2 1 3 ?_ ?_
     ·refine e' R ?_
      refine s1 3 ?_
      refine gq [0] ((E1 c).ok) R (n' ?_)
      refine s1 4 ?_
      refine E0.be hC R (ei64.rows_map [b.1]).symm (n' ?_)
      refine s1 5 ?_
      refine E0.ap hC R (rs:=ei64.rows (a++[b.1])) (ei64.app a [b.1]) (ei64.sz a) (ei64.sz [b.1]) (N1 (ei64.len a) (ei64.len [b.1]) h) (n' ?_)
      refine s1q 6 ?_
      refine s1 7 ?_
      exact E0.s hC R (n' (X0.nil (by kernel_rfl) (lq (f _ _ _ e) R)))
     ·refine gq [0] ((E1 c).ok) R (n' ?_)
      refine s2 1 4 ?_ ?_
      ·refine e' R ?_
       refine s1 4 ?_
       refine E0.be hC R (ei64.rows_map [b.1]).symm (n' ?_)
       refine s1 5 ?_
       refine E0.ap hC R (rs:=ei64.rows (a++[b.1])) (ei64.app a [b.1]) (ei64.sz a) (ei64.sz [b.1]) (N1 (ei64.len a) (ei64.len [b.1]) h) (n' ?_)
       refine s1q 6 ?_
       refine s1 7 ?_
       exact E0.s hC R (n' (X0.nil (by kernel_rfl) (lq (f _ _ _ e) R)))
      ·refine E0.be hC R (ei64.rows_map [b.1]).symm (n' ?_)
       refine s1q 1 ?_
       refine s1 5 ?_
       refine E0.ap hC R (rs:=ei64.rows (a++[b.1])) (ei64.app a [b.1]) (ei64.sz a) (ei64.sz [b.1]) (N1 (ei64.len a) (ei64.len [b.1]) h) (n' ?_)
       refine s1q 6 ?_
       refine s1 7 ?_
       exact E0.s hC R (n' (X0.nil (by kernel_rfl) (lq (f _ _ _ e) R)))
   ·refine s2 0 3 ?_ ?_
    ·refine e' R ?_
     refine s2 1 3 ?_ ?_
     ·refine e' R ?_
      refine s1 3 ?_
      refine gq [0] ((E1 c).ok) R (n' ?_)
      refine s1 4 ?_
      refine E0.be hC R (ei64.rows_map [b.1]).symm (n' ?_)
      refine s1 5 ?_
      refine E0.ap hC R (rs:=ei64.rows (a++[b.1])) (ei64.app a [b.1]) (ei64.sz a) (ei64.sz [b.1]) (N1 (ei64.len a) (ei64.len [b.1]) h) (n' ?_)
      refine s1q 6 ?_
      refine s1 7 ?_
      exact E0.s hC R (n' (X0.nil (by kernel_rfl) (lq (f _ _ _ e) R)))
     ·refine gq [0] ((E1 c).ok) R (n' ?_)
      refine s2 1 4 ?_ ?_
      ·refine e' R ?_
       refine s1 4 ?_
       refine E0.be hC R (ei64.rows_map [b.1]).symm (n' ?_)
       refine s1 5 ?_
       refine E0.ap hC R (rs:=ei64.rows (a++[b.1])) (ei64.app a [b.1]) (ei64.sz a) (ei64.sz [b.1]) (N1 (ei64.len a) (ei64.len [b.1]) h) (n' ?_)
       refine s1q 6 ?_
       refine s1 7 ?_
       exact E0.s hC R (n' (X0.nil (by kernel_rfl) (lq (f _ _ _ e) R)))
      ·refine E0.be hC R (ei64.rows_map [b.1]).symm (n' ?_)
       refine s1q 1 ?_
       refine s1 5 ?_
       refine E0.ap hC R (rs:=ei64.rows (a++[b.1])) (ei64.app a [b.1]) (ei64.sz a) (ei64.sz [b.1]) (N1 (ei64.len a) (ei64.len [b.1]) h) (n' ?_)
       refine s1q 6 ?_
       refine s1 7 ?_
       exact E0.s hC R (n' (X0.nil (by kernel_rfl) (lq (f _ _ _ e) R)))
    ·refine gq [0] ((E1 c).ok) R (n' ?_)
     refine s2 0 4 ?_ ?_
     ·refine e' R ?_
      refine s2 1 4 ?_ ?_
      ·refine e' R ?_
       refine s1 4 ?_
       refine E0.be hC R (ei64.rows_map [b.1]).symm (n' ?_)
       refine s1 5 ?_
       refine E0.ap hC R (rs:=ei64.rows (a++[b.1])) (ei64.app a [b.1]) (ei64.sz a) (ei64.sz [b.1]) (N1 (ei64.len a) (ei64.len [b.1]) h) (n' ?_)
       refine s1q 6 ?_
       refine s1 7 ?_
       exact E0.s hC R (n' (X0.nil (by kernel_rfl) (lq (f _ _ _ e) R)))
      ·refine E0.be hC R (ei64.rows_map [b.1]).symm (n' ?_)
       refine s1q 1 ?_
       refine s1 5 ?_
       refine E0.ap hC R (rs:=ei64.rows (a++[b.1])) (ei64.app a [b.1]) (ei64.sz a) (ei64.sz [b.1]) (N1 (ei64.len a) (ei64.len [b.1]) h) (n' ?_)
       refine s1q 6 ?_
       refine s1 7 ?_
       exact E0.s hC R (n' (X0.nil (by kernel_rfl) (lq (f _ _ _ e) R)))
     ·refine E0.be hC R (ei64.rows_map [b.1]).symm (n' ?_)
      refine s1q 0 ?_
      refine s1q 1 ?_
      refine s1 5 ?_
      refine E0.ap hC R (rs:=ei64.rows (a++[b.1])) (ei64.app a [b.1]) (ei64.sz a) (ei64.sz [b.1]) (N1 (ei64.len a) (ei64.len [b.1]) h) (n' ?_)
      refine s1q 6 ?_
      refine s1 7 ?_
      exact E0.s hC R (n' (X0.nil (by kernel_rfl) (lq (f _ _ _ e) R)))
  refine ex' (P' 1 R ?_)
  rcases bp' e with ⟨nn,g,⟨⟩⟩ | ⟨k,g,e⟩
  ·exact gr [0] (K0 g) R (peW ⟨trivial,trivial⟩ R)
  refine gq [0] ((K0 g).ok) R (n' (p' 1 R (E0.s hC R (e' R (re' ?_)))))
  have m:=oi' e
  subst m
  exact ⟨_,.tup [.agg [.d (.int .i64 8),.d (.int .i64 0),.d (.int .i64 0),.d (.str []),.d (.sl (A0.rows [])),.d (.int .i64 0),.d (.int .i64 0),.d (.str []),.d (.sl (A0.rows [])),.d (.str []),.d (.sl (A0.rows [])),.d (.int .i64 0),.d (.int .i64 0),.d (.int .i64 0),.d (.sl (ei64.rows a)),.d (.sl (C0.rows [])),.d (.sl (C0.rows []))],.d (.bool true)],[.row (D0.cells k) 112],R,(.tupL ⟨(.aggL ⟨.rfl,.rfl,.rfl,.rfl,.rfl,.rfl,.rfl,.rfl,.rfl,.rfl,.rfl,.rfl,.rfl,.rfl,.osl,.rfl,.rfl,trivial⟩),.rfl,trivial⟩),⟨⟨R,.refl _,R⟩,trivial⟩,R,R,rpq R R⟩
theorem Vq {o0 o2_Numbers res}(a:F5 o0 o2_Numbers=some res):Ui o0 o2_Numbers res:=(Zp) _ _ _ a
mutual
def V3 (parserParser:D0):Option (Pn (List C0×D0)):=
 H6 parserParser []
 partial_fixpoint
def H6 (o0:D0)(out:List C0):Option (Pn (List C0×D0)):=
 O7 o0>>=fun x1=>match x1 with
 | .pn nn=>
 some (.pn nn)
 | .ok x1=>
 if (!x1.2.1)=true then
  some (.ok (out,x1.2.2))
 else
  if (decide ((out.length+1) * 257≤140737488355328))=true then
   H6 x1.2.2 (out++[x1.1])
  else none
 partial_fixpoint
def O7 (parserParser:D0):Option (Pn (C0×Bool×D0)):=
 Q7 parserParser>>=fun x1=>
 if x1=true then
  I9 parserParser>>=fun x2=>match x2 with
  | .pn nn=>
  some (.pn nn)
  | .ok x2=>
  some (.ok (x2.1,true,x2.2))
 else
  R0 [111,117,116,112,117,116] parserParser>>=fun x3=>
  if x3.1=true then
   Q1 x3.2>>=fun x4=>match x4 with
   | .pn nn=>
   some (.pn nn)
   | .ok x4=>
   U0 [59] x4.2>>=fun x5=>match x5 with
   | .pn nn=>
   some (.pn nn)
   | .ok x5=>
   some (.ok ((C0.mk 3 (A0.mk 0 0 [] []) x4.1 [] [] 0 0 0 [] [] []),true,x5))
  else
   R0 [119,97,105,116] x3.2>>=fun x6=>
   if x6.1=true then
    U2 x6.2>>=fun x7=>match x7 with
    | .pn nn=>
    some (.pn nn)
    | .ok x7=>
    U0 [59] x7.2>>=fun x8=>match x8 with
    | .pn nn=>
    some (.pn nn)
    | .ok x8=>
    some (.ok ((C0.mk 4 (A0.mk 0 0 [] []) (A0.mk 0 0 [] []) [] [] x7.1 0 0 [] [] []),true,x8))
   else
    R0 [115,101,116,116,108,101] x6.2>>=fun x9=>
    if x9.1=true then
     U2 x9.2>>=fun x10=>match x10 with
     | .pn nn=>
     some (.pn nn)
     | .ok x10=>
     F5 x10.2 [x10.1]
    else
     R0 [105,102] x9.2>>=fun x11=>
     if x11.1=true then
      Q1 x11.2>>=fun x12=>match x12 with
      | .pn nn=>
      some (.pn nn)
      | .ok x12=>
      W6 x12.2>>=fun x26=>match x26 with
      | .pn nn=>
      some (.pn nn)
      | .ok x26=>
      R0 [101,108,115,101] x26.2>>=fun x27=>
      if x27.1=true then
       W6 x27.2>>=fun x28=>match x28 with
       | .pn nn=>
       some (.pn nn)
       | .ok x28=>
       some (.ok ((C0.mk 5 (A0.mk 0 0 [] []) x12.1 [] [] 0 0 0 [] x26.1 x28.1),true,x28.2))
      else
       some (.ok ((C0.mk 5 (A0.mk 0 0 [] []) x12.1 [] [] 0 0 0 [] x26.1 []),true,x27.2))
     else
      R0 [119,104,105,108,101] x11.2>>=fun x13=>
      if x13.1=true then
       Q1 x13.2>>=fun x14=>match x14 with
       | .pn nn=>
       some (.pn nn)
       | .ok x14=>
       U0 [108,105,109,105,116] x14.2>>=fun x15=>match x15 with
       | .pn nn=>
       some (.pn nn)
       | .ok x15=>
       U2 x15>>=fun x16=>match x16 with
       | .pn nn=>
       some (.pn nn)
       | .ok x16=>
       W6 x16.2>>=fun x29=>match x29 with
       | .pn nn=>
       some (.pn nn)
       | .ok x29=>
       some (.ok ((C0.mk 6 (A0.mk 0 0 [] []) x14.1 [] [] x16.1 0 0 [] x29.1 []),true,x29.2))
      else
       R0 [102,111,114] x13.2>>=fun x17=>
       if x17.1=true then
        H3 x17.2>>=fun x18=>match x18 with
        | .pn nn=>
        some (.pn nn)
        | .ok x18=>
        U0 [61] x18.2>>=fun x19=>match x19 with
        | .pn nn=>
        some (.pn nn)
        | .ok x19=>
        U2 x19>>=fun x20=>match x20 with
        | .pn nn=>
        some (.pn nn)
        | .ok x20=>
        U0 [116,111] x20.2>>=fun x21=>match x21 with
        | .pn nn=>
        some (.pn nn)
        | .ok x21=>
        U2 x21>>=fun x22=>match x22 with
        | .pn nn=>
        some (.pn nn)
        | .ok x22=>
        W6 x22.2>>=fun x30=>match x30 with
        | .pn nn=>
        some (.pn nn)
        | .ok x30=>
        some (.ok ((C0.mk 7 (A0.mk 0 0 [] []) (A0.mk 0 0 [] []) x18.1 [] 0 x20.1 x22.1 [] x30.1 []),true,x30.2))
       else
        some (.ok ((C0.mk 0 (A0.mk 0 0 [] []) (A0.mk 0 0 [] []) [] [] 0 0 0 [] [] []),false,x17.2))
 partial_fixpoint
def W6 (parserParser:D0):Option (Pn (List C0×D0)):=
 U0 [123] parserParser>>=fun x1=>match x1 with
 | .pn nn=>
 some (.pn nn)
 | .ok x1=>
 V3 x1>>=fun x2=>match x2 with
 | .pn nn=>
 some (.pn nn)
 | .ok x2=>
 U0 [125] x2.2>>=fun x3=>match x3 with
 | .pn nn=>
 some (.pn nn)
 | .ok x3=>
 some (.ok (x2.1,x3))
 partial_fixpoint
end
abbrev Kk (parserParser:D0)(res:Pn (List C0×D0)):Prop:=F2 C 68 [.ref 0 0] [.row (D0.cells parserParser) 112] (X4 res (fun rr=>[.row (D0.cells rr.2) 112]) (fun rr=>.d (.sl (C0.rows rr.1)))) (P4 res N3 [.dead])
abbrev Wq (o0:D0)(out:List C0)(res:Pn (List C0×D0)):Prop:=LMp C 18 1 Tryz.f68 [1,1,4] [(0,.ref 0 0),(3,.osl 1 (C0.rows out))] [.row (D0.cells o0) 112,.tok 88 17] (X4 res (fun rr=>[.row (D0.cells rr.2) 112]) (fun rr=>.d (.sl (C0.rows rr.1)))) (P4 res N3 [.dead])
abbrev Wv (parserParser:D0)(res:Pn (C0×Bool×D0)):Prop:=F2 C 104 [.ref 0 0] [.row (D0.cells parserParser) 112] (X4 res (fun rr=>[.row (D0.cells rr.2.2) 112]) (fun rr=>.tup [.agg (C0.cells rr.1),.d (.bool rr.2.1)])) (P4 res N3 [.dead])
abbrev N11 (parserParser:D0)(res:Pn (List C0×D0)):Prop:=F2 C 164 [.ref 0 0] [.row (D0.cells parserParser) 112] (X4 res (fun rr=>[.row (D0.cells rr.2) 112]) (fun rr=>.d (.sl (C0.rows rr.1)))) (P4 res N3 [.dead])
theorem Zr:(∀ a c,V3 a=some c→Kk a c)∧(∀ J out c,H6 J out=some c→Wq J out c)∧(∀ a c,O7 a=some c→Wv a c)∧(∀ a c,W6 a=some c→N11 a c):=by
 refine V3.mutual_partial_correctness _ _ _ _ ?_ ?_ ?_ ?_
 ·intro W B a c b
  exact F2.intro hC Tryz.func68 R R R (t' R (p' 1 R (E0.tokE 3 88 17 R (n' (bk' (fq (B _ _ _ b) R))))))
 ·intro W g2 B C J out c b
  refine Y0.unroll (bk' (p' 1 R ?_))
  rcases bp' b with ⟨nn,e,⟨⟩⟩ | ⟨x1,e,b⟩
  ·exact gr [0] (C _ _ e) R (peW ⟨trivial,trivial⟩ R)
  refine gq [0] ((C _ _ e).ok) R (o' 3 R (E0.nf hC R (E0.s hC R (e' R (S' (t' R (ci' R b (fun b=>?_) (fun b=>?_))))))))
  ·refine t' R (re' ?_)
   have I:=oi' b
   subst I
   exact ⟨_,.d (.sl (C0.rows out)),[.row (D0.cells x1.2.2) 112],R,.osl,⟨⟨R,.refl _,R⟩,trivial⟩,R,R,rpq R R⟩
  obtain ⟨c5,b⟩:=Z0 b
  exact sk' (P' 2 R (E0.be hC R (C0.rows_map [x1.1]).symm (E0.ap hC R (rs:=C0.rows (out++[x1.1])) (C0.app out [x1.1]) (C0.sz out) (C0.sz [x1.1]) (N1 (C0.len out) (C0.len [x1.1]) c5) (e' R (lq (B _ _ _ b) R)))))
 ·intro g3 f a c b
  obtain ⟨x1,e,b⟩:=bs' b
  refine F2.intro hC Tryz.func104 R R R (s' R R (E0.nf hC R (e' R (s' R R (E0.nf hC R (n' (S' (bk' (p' 1 R (gq [0] (Dh e) R (e' R (ci' R b (fun b=>?_) (fun b=>?_)))))))))))))
  ·refine p' 1 R ?_
   rcases bp' b with ⟨nn,g,⟨⟩⟩ | ⟨x2,g,b⟩
   ·exact gr [0] (Oj g) R (peW ⟨trivial,trivial⟩ R)
   cases b
   exact gq [0] ((Oj g).ok) R (E0.s hC R (e' R (re' (rq R))))
  obtain ⟨x3,n,b⟩:=bs' b
  refine p' 1 R (gq [0] (T0 n) R (e' R (ci' R b (fun b=>?_) (fun b=>?_))))
  ·refine p' 1 R ?_
   rcases bp' b with ⟨nn,z,⟨⟩⟩ | ⟨x4,z,b⟩
   ·exact gr [0] (V0 z) R (peW ⟨trivial,trivial⟩ R)
   refine gq [0] ((V0 z).ok) R (q' R (E0.s hC R (n' (P' 1 R ?_))))
   rcases bp' b with ⟨nn,x,⟨⟩⟩ | ⟨x5,x,b⟩
   ·exact gr [0] (K0 x) R (peW ⟨trivial,trivial⟩ R)
   cases b
   exact gq [0] ((K0 x).ok) R (n' (p' 1 R (E0.s hC R (e' R (re' (rq R))))))
  obtain ⟨x6,N,b⟩:=bs' b
  refine p' 1 R (gq [0] (T0 N) R (e' R (ci' R b (fun b=>?_) (fun b=>?_))))
  ·refine p' 1 R ?_
   rcases bp' b with ⟨nn,y,⟨⟩⟩ | ⟨x7,y,b⟩
   ·exact gr [0] (E1 y) R (peW ⟨trivial,trivial⟩ R)
   refine gq [0] ((E1 y).ok) R (q' R (E0.s hC R (n' (P' 1 R ?_))))
   rcases bp' b with ⟨nn,A,⟨⟩⟩ | ⟨x8,A,b⟩
   ·exact gr [0] (K0 A) R (peW ⟨trivial,trivial⟩ R)
   cases b
   exact gq [0] ((K0 A).ok) R (n' (p' 1 R (E0.s hC R (e' R (re' (rq R))))))
  obtain ⟨x9,K,b⟩:=bs' b
  refine p' 1 R (gq [0] (T0 K) R (e' R (ci' R b (fun b=>?_) (fun b=>?_))))
  ·refine p' 1 R ?_
   rcases bp' b with ⟨nn,r,⟨⟩⟩ | ⟨M,r,b⟩
   ·exact gr [0] (E1 r) R (peW ⟨trivial,trivial⟩ R)
   exact gq [0] ((E1 r).ok) R (E0.be hC R (ei64.rows_map [M.1]).symm (E0.tokE 32 3 1 R (q' R (E0.s hC R (n' (S' (bk' (fq (Vq b) R))))))))
  obtain ⟨a3,F,b⟩:=bs' b
  refine p' 1 R (gq [0] (T0 F) R (e' R (ci' R b (fun b=>?_) (fun b=>?_))))
  ·refine p' 1 R ?_
   rcases bp' b with ⟨nn,p,⟨⟩⟩ | ⟨Q,p,b⟩
   ·exact gr [0] (V0 p) R (peW ⟨trivial,trivial⟩ R)
   refine gq [0] ((V0 p).ok) R (q' R (E0.s hC R (n' (p' 1 R ?_))))
   rcases bp' b with ⟨nn,m,⟨⟩⟩ | ⟨O,m,b⟩
   ·exact gr [0] (f _ _ m) R (peW ⟨trivial,trivial⟩ R)
   obtain ⟨a5,E,b⟩:=bs' b
   refine gq [0] ((f _ _ m).ok) R (q' R (E0.s hC R (n' (p' 1 R (gq [0] (T0 E) R (n' (ci' R b (fun b=>?_) (fun b=>?_))))))))
   ·refine P' 1 R ?_
    rcases bp' b with ⟨nn,v,⟨⟩⟩ | ⟨P,v,b⟩
    ·exact gr [0] (f _ _ v) R (peW ⟨trivial,trivial⟩ R)
    cases b
    exact gq [0] ((f _ _ v).ok) R (q' R (E0.s hC R (n' (p' 1 R (E0.s hC R (e' R (re' (rq R))))))))
   cases b
   exact sk' (p' 1 R (E0.s hC R (e' R (re' (rq R)))))
  obtain ⟨X,G,b⟩:=bs' b
  refine p' 1 R (gq [0] (T0 G) R (e' R (ci' R b (fun b=>?_) (fun b=>?_))))
  ·refine p' 1 R ?_
   rcases bp' b with ⟨nn,o,⟨⟩⟩ | ⟨a2,o,b⟩
   ·exact gr [0] (V0 o) R (peW ⟨trivial,trivial⟩ R)
   refine gq [0] ((V0 o).ok) R (q' R (E0.s hC R (n' (p' 1 R ?_))))
   rcases bp' b with ⟨nn,t,⟨⟩⟩ | ⟨a4,t,b⟩
   ·exact gr [0] (K0 t) R (peW ⟨trivial,trivial⟩ R)
   refine gq [0] ((K0 t).ok) R (n' (p' 1 R ?_))
   rcases bp' b with ⟨nn,k,⟨⟩⟩ | ⟨T,k,b⟩
   ·exact gr [0] (E1 k) R (peW ⟨trivial,trivial⟩ R)
   refine gq [0] ((E1 k).ok) R (q' R (E0.s hC R (n' (P' 1 R ?_))))
   rcases bp' b with ⟨nn,w,⟨⟩⟩ | ⟨S,w,b⟩
   ·exact gr [0] (f _ _ w) R (peW ⟨trivial,trivial⟩ R)
   cases b
   exact gq [0] ((f _ _ w).ok) R (q' R (E0.s hC R (n' (p' 1 R (E0.s hC R (e' R (re' (rq R))))))))
  obtain ⟨L,H,b⟩:=bs' b
  refine p' 1 R (gq [0] (T0 H) R (e' R (ci' R b (fun b=>?_) (fun b=>?_))))
  ·refine p' 1 R ?_
   rcases bp' b with ⟨nn,l,⟨⟩⟩ | ⟨V,l,b⟩
   ·exact gr [0] (I1 l) R (peW ⟨trivial,trivial⟩ R)
   refine gq [0] ((I1 l).ok) R (q' R (E0.s hC R (n' (p' 1 R ?_))))
   rcases bp' b with ⟨nn,j,⟨⟩⟩ | ⟨a1,j,b⟩
   ·exact gr [0] (K0 j) R (peW ⟨trivial,trivial⟩ R)
   refine gq [0] ((K0 j).ok) R (n' (p' 1 R ?_))
   rcases bp' b with ⟨nn,i,⟨⟩⟩ | ⟨Z,i,b⟩
   ·exact gr [0] (E1 i) R (peW ⟨trivial,trivial⟩ R)
   refine gq [0] ((E1 i).ok) R (q' R (E0.s hC R (n' (p' 1 R ?_))))
   rcases bp' b with ⟨nn,h,⟨⟩⟩ | ⟨a0,h,b⟩
   ·exact gr [0] (K0 h) R (peW ⟨trivial,trivial⟩ R)
   refine gq [0] ((K0 h).ok) R (n' (p' 1 R ?_))
   rcases bp' b with ⟨nn,u,⟨⟩⟩ | ⟨U,u,b⟩
   ·exact gr [0] (E1 u) R (peW ⟨trivial,trivial⟩ R)
   refine gq [0] ((E1 u).ok) R (q' R (E0.s hC R (n' (P' 1 R ?_))))
   rcases bp' b with ⟨nn,q,⟨⟩⟩ | ⟨Y,q,b⟩
   ·exact gr [0] (f _ _ q) R (peW ⟨trivial,trivial⟩ R)
   cases b
   exact gq [0] ((f _ _ q).ok) R (q' R (E0.s hC R (n' (p' 1 R (E0.s hC R (e' R (re' (rq R))))))))
  refine p' 1 R (E0.s hC R (e' R (re' ?_)))
  have I:=oi' b
  subst I
  exact ⟨_,.tup [.agg [.d (.int .i64 0),.d (.int .i64 0),.d (.int .i64 0),.d (.str []),.d (.sl (A0.rows [])),.d (.int .i64 0),.d (.int .i64 0),.d (.str []),.d (.sl (A0.rows [])),.d (.str []),.d (.sl (A0.rows [])),.d (.int .i64 0),.d (.int .i64 0),.d (.int .i64 0),.d (.sl (ei64.rows [])),.d (.sl (C0.rows [])),.d (.sl (C0.rows []))],.d (.bool false)],[.row (D0.cells L.2) 112],R,(.tupL ⟨(.aggL ⟨.rfl,.rfl,.rfl,.rfl,.full,.rfl,.rfl,.rfl,.full,.rfl,.full,.rfl,.rfl,.rfl,.full,.full,.full,trivial⟩),.rfl,trivial⟩),⟨⟨R,.refl _,R⟩,trivial⟩,R,R,rpq R R⟩
 ·intro g0 D a c b
  refine F2.intro hC Tryz.func164 R R R (t' R (p' 1 R ?_))
  rcases bp' b with ⟨nn,e,⟨⟩⟩ | ⟨x1,e,b⟩
  ·exact gr [0] (K0 e) R (peW ⟨trivial,trivial⟩ R)
  refine gq [0] ((K0 e).ok) R (n' (p' 1 R ?_))
  rcases bp' b with ⟨nn,g,⟨⟩⟩ | ⟨x2,g,b⟩
  ·exact gr [0] (D _ _ g) R (peW ⟨trivial,trivial⟩ R)
  refine gq [0] ((D _ _ g).ok) R (e' R (p' 1 R ?_))
  rcases bp' b with ⟨nn,n,⟨⟩⟩ | ⟨x3,n,b⟩
  ·exact gr [0] (K0 n) R (peW ⟨trivial,trivial⟩ R)
  cases b
  exact gq [0] ((K0 n).ok) R (n' (t' R (re' (rq R))))
theorem Ma {parserParser res}(a:V3 parserParser=some res):Kk parserParser res:=(Zr).1 _ _ a
def P5 (o02:D0)(x1:Str×D0)(x7:F0×D0)(o2_Params2:List B0)(o2_Vars:List B0):Option (Pn (B0×D0)):=
 R0 [118,97,114] o02>>=fun x9=>
 if x9.1=true then
  D8 x9.2>>=fun x10=>match x10 with
  | .pn nn=>
  some (.pn nn)
  | .ok x10=>
  if (decide ((o2_Vars.length+1) * 257≤140737488355328))=true then
   P5 x10.2 x1 x7 o2_Params2 (o2_Vars++[x10.1])
  else none
 else
  V3 x9.2>>=fun x11=>match x11 with
  | .pn nn=>
  some (.pn nn)
  | .ok x11=>
  U0 [114,101,116,117,114,110] x11.2>>=fun x12=>match x12 with
  | .pn nn=>
  some (.pn nn)
  | .ok x12=>
  Q1 x12>>=fun x13=>match x13 with
  | .pn nn=>
  some (.pn nn)
  | .ok x13=>
  U0 [59] x13.2>>=fun x14=>match x14 with
  | .pn nn=>
  some (.pn nn)
  | .ok x14=>
  U0 [125] x14>>=fun x15=>match x15 with
  | .pn nn=>
  some (.pn nn)
  | .ok x15=>
  some (.ok ((B0.mk 6 x1.1 x7.1 0 x13.1 o2_Params2 o2_Vars x11.1),x15))
 partial_fixpoint
abbrev Pj (o02:D0)(x1:Str×D0)(x7:F0×D0)(o2_Params2:List B0)(o2_Vars:List B0)(res:Pn (B0×D0)):Prop:=LMp C 58 1 Tryz.f103 [1,1,1,1,1,1,1,1,0,4] [(0,.ref 0 0),(2,.ref 1 0),(3,.ref 2 0)] [.row (D0.cells o02) 112,.row [.d (.int .i64 0),.d (.str []),.d (.int .i64 0),.d (.int .i64 0),.d (.int .i64 0),.d (.int .i64 0),.d (.str []),.full (estr.rows []),.full (F0.rows []),.d (.int .i64 0),.d (.int .i64 0),.d (.int .i64 0),.d (.str []),.full (A0.rows []),.full (B0.rows []),.full (B0.rows []),.full (C0.rows [])] 82,.row [.d (.int .i64 6),.d (.str x1.1),.d (.int .i64 x7.1.Kind),.d (.int .i64 x7.1.Low),.d (.int .i64 x7.1.High),.d (.int .i64 x7.1.Size),.d (.str x7.1.Name),.d (.sl (estr.rows x7.1.Names)),.d (.sl (F0.rows x7.1.Of)),.d (.int .i64 0),.d (.int .i64 0),.d (.int .i64 0),.d (.str []),.full (A0.rows []),.osl 3 (B0.rows o2_Params2),.osl 4 (B0.rows o2_Vars),.full (C0.rows [])] 82,.tok 82 17,.tok 82 17] (X4 res (fun rr=>[.row (D0.cells rr.2) 112]) (fun rr=>.agg (B0.cells rr.1))) (P4 res N3 [.dead])
theorem Xq (x1:Str×D0)(n:F0×D0)(c:List B0):(∀ q a p,P5 q x1 n c a=some p→Pj q x1 n c a p):=by
 refine P5.partial_correctness x1 n c _ ?_
 ·intro z h q a p f
  obtain ⟨y,r,f⟩:=bs' f
  refine Y0.unroll (S' (p' 1 R (gq [0] (T0 r) R (n' (ci' R f (fun f=>?_) (fun f=>?_))))))
  ·refine sk' (bk' ?_)
   rcases bp' f with ⟨nn,e,⟨⟩⟩ | ⟨b,e,f⟩
   ·refine AEx.drawE hC ?_
    refine s2q 0 2 ?_ ?_
    ·refine s2q 1 2 ?_ ?_
     ·refine s1q 2 ?_
      refine s1 3 ?_
      exact gr [0] (C2 e) R (peW ⟨trivial,trivial⟩ R)
     ·refine s2 1 3 ?_ ?_
      ·refine e' R ?_
       refine s1 3 ?_
       exact gr [0] (C2 e) R (peW ⟨trivial,trivial⟩ R)
      ·exact gr [0] (C2 e) R (peW ⟨trivial,trivial⟩ R)
    ·refine s2 0 3 ?_ ?_
     ·refine e' R ?_
      refine s2 1 3 ?_ ?_
      ·refine e' R ?_
       refine s1 3 ?_
       exact gr [0] (C2 e) R (peW ⟨trivial,trivial⟩ R)
      ·exact gr [0] (C2 e) R (peW ⟨trivial,trivial⟩ R)
     ·exact gr [0] (C2 e) R (peW ⟨trivial,trivial⟩ R)
   obtain ⟨g,f⟩:=Z0 f
   refine AEx.drawE hC ?_
   refine s2q 0 2 ?_ ?_
   ·refine s2q 1 2 ?_ ?_
    ·refine s1q 2 ?_
     refine s1 3 ?_
     refine gq [0] ((C2 e).ok) R (n' ?_)
     refine s1 4 ?_
     refine E0.be hC R (B0.rows_map [b.1]).symm (n' ?_)
     refine s1 5 ?_
     refine E0.ap hC R (rs:=B0.rows (a++[b.1])) (B0.app a [b.1]) (B0.sz a) (B0.sz [b.1]) (N1 (B0.len a) (B0.len [b.1]) g) (n' ?_)
     refine s1q 6 ?_
     refine s1 7 ?_
     exact E0.s hC R (n' (X0.nil (by kernel_rfl) (lq (h _ _ _ f) R)))
    ·refine s2 1 3 ?_ ?_
     ·refine e' R ?_
      refine s1 3 ?_
      refine gq [0] ((C2 e).ok) R (n' ?_)
      refine s1 4 ?_
      refine E0.be hC R (B0.rows_map [b.1]).symm (n' ?_)
      refine s1 5 ?_
      refine E0.ap hC R (rs:=B0.rows (a++[b.1])) (B0.app a [b.1]) (B0.sz a) (B0.sz [b.1]) (N1 (B0.len a) (B0.len [b.1]) g) (n' ?_)
      refine s1q 6 ?_
      refine s1 7 ?_
      exact E0.s hC R (n' (X0.nil (by kernel_rfl) (lq (h _ _ _ f) R)))
     ·refine gq [0] ((C2 e).ok) R (n' ?_)
      refine s2 1 4 ?_ ?_
      ·refine e' R ?_
       refine s1 4 ?_
       refine E0.be hC R (B0.rows_map [b.1]).symm (n' ?_)
       refine s1 5 ?_
       refine E0.ap hC R (rs:=B0.rows (a++[b.1])) (B0.app a [b.1]) (B0.sz a) (B0.sz [b.1]) (N1 (B0.len a) (B0.len [b.1]) g) (n' ?_)
       refine s1q 6 ?_
       refine s1 7 ?_
       exact E0.s hC R (n' (X0.nil (by kernel_rfl) (lq (h _ _ _ f) R)))
      ·refine E0.be hC R (B0.rows_map [b.1]).symm (n' ?_)
       refine s1q 1 ?_
       refine s1 5 ?_
       refine E0.ap hC R (rs:=B0.rows (a++[b.1])) (B0.app a [b.1]) (B0.sz a) (B0.sz [b.1]) (N1 (B0.len a) (B0.len [b.1]) g) (n' ?_)
       refine s1q 6 ?_
       refine s1 7 ?_
       exact E0.s hC R (n' (X0.nil (by kernel_rfl) (lq (h _ _ _ f) R)))
   ·refine s2 0 3 ?_ ?_
    ·refine e' R ?_
     refine s2 1 3 ?_ ?_
     ·refine e' R ?_
      refine s1 3 ?_
      refine gq [0] ((C2 e).ok) R (n' ?_)
      refine s1 4 ?_
      refine E0.be hC R (B0.rows_map [b.1]).symm (n' ?_)
      refine s1 5 ?_
      refine E0.ap hC R (rs:=B0.rows (a++[b.1])) (B0.app a [b.1]) (B0.sz a) (B0.sz [b.1]) (N1 (B0.len a) (B0.len [b.1]) g) (n' ?_)
      refine s1q 6 ?_
      refine s1 7 ?_
      exact E0.s hC R (n' (X0.nil (by kernel_rfl) (lq (h _ _ _ f) R)))
     ·refine gq [0] ((C2 e).ok) R (n' ?_)
      refine s2 1 4 ?_ ?_
      ·refine e' R ?_
       refine s1 4 ?_
       refine E0.be hC R (B0.rows_map [b.1]).symm (n' ?_)
       refine s1 5 ?_
       refine E0.ap hC R (rs:=B0.rows (a++[b.1])) (B0.app a [b.1]) (B0.sz a) (B0.sz [b.1]) (N1 (B0.len a) (B0.len [b.1]) g) (n' ?_)
       refine s1q 6 ?_
       refine s1 7 ?_
       exact E0.s hC R (n' (X0.nil (by kernel_rfl) (lq (h _ _ _ f) R)))
      ·refine E0.be hC R (B0.rows_map [b.1]).symm (n' ?_)
       refine s1q 1 ?_
       refine s1 5 ?_
       refine E0.ap hC R (rs:=B0.rows (a++[b.1])) (B0.app a [b.1]) (B0.sz a) (B0.sz [b.1]) (N1 (B0.len a) (B0.len [b.1]) g) (n' ?_)
       refine s1q 6 ?_
       refine s1 7 ?_
       exact E0.s hC R (n' (X0.nil (by kernel_rfl) (lq (h _ _ _ f) R)))
    ·refine gq [0] ((C2 e).ok) R (n' ?_)
     refine s2 0 4 ?_ ?_
     ·refine e' R ?_
      refine s2 1 4 ?_ ?_
      ·refine e' R ?_
       refine s1 4 ?_
       refine E0.be hC R (B0.rows_map [b.1]).symm (n' ?_)
       refine s1 5 ?_
       refine E0.ap hC R (rs:=B0.rows (a++[b.1])) (B0.app a [b.1]) (B0.sz a) (B0.sz [b.1]) (N1 (B0.len a) (B0.len [b.1]) g) (n' ?_)
       refine s1q 6 ?_
       refine s1 7 ?_
       exact E0.s hC R (n' (X0.nil (by kernel_rfl) (lq (h _ _ _ f) R)))
      ·refine E0.be hC R (B0.rows_map [b.1]).symm (n' ?_)
       refine s1q 1 ?_
       refine s1 5 ?_
       refine E0.ap hC R (rs:=B0.rows (a++[b.1])) (B0.app a [b.1]) (B0.sz a) (B0.sz [b.1]) (N1 (B0.len a) (B0.len [b.1]) g) (n' ?_)
       refine s1q 6 ?_
       refine s1 7 ?_
       exact E0.s hC R (n' (X0.nil (by kernel_rfl) (lq (h _ _ _ f) R)))
     ·refine E0.be hC R (B0.rows_map [b.1]).symm (n' ?_)
      refine s1q 0 ?_
      refine s1q 1 ?_
      refine s1 5 ?_
      refine E0.ap hC R (rs:=B0.rows (a++[b.1])) (B0.app a [b.1]) (B0.sz a) (B0.sz [b.1]) (N1 (B0.len a) (B0.len [b.1]) g) (n' ?_)
      refine s1q 6 ?_
      refine s1 7 ?_
      exact E0.s hC R (n' (X0.nil (by kernel_rfl) (lq (h _ _ _ f) R)))
  refine ex' (p' 1 R ?_)
  rcases bp' f with ⟨nn,k,⟨⟩⟩ | ⟨t,k,f⟩
  ·exact gr [0] (Ma k) R (peW ⟨trivial,trivial⟩ R)
  refine gq [0] ((Ma k).ok) R (q' R (E0.s hC R (n' (p' 1 R ?_))))
  rcases bp' f with ⟨nn,j,⟨⟩⟩ | ⟨w,j,f⟩
  ·exact gr [0] (K0 j) R (peW ⟨trivial,trivial⟩ R)
  refine gq [0] ((K0 j).ok) R (n' (p' 1 R ?_))
  rcases bp' f with ⟨nn,l,⟨⟩⟩ | ⟨o,l,f⟩
  ·exact gr [0] (V0 l) R (peW ⟨trivial,trivial⟩ R)
  refine gq [0] ((V0 l).ok) R (q' R (E0.s hC R (n' (p' 1 R ?_))))
  rcases bp' f with ⟨nn,i,⟨⟩⟩ | ⟨x,i,f⟩
  ·exact gr [0] (K0 i) R (peW ⟨trivial,trivial⟩ R)
  refine gq [0] ((K0 i).ok) R (n' (p' 1 R ?_))
  rcases bp' f with ⟨nn,m,⟨⟩⟩ | ⟨u,m,f⟩
  ·exact gr [0] (K0 m) R (peW ⟨trivial,trivial⟩ R)
  refine gq [0] ((K0 m).ok) R (n' (p' 1 R (E0.s hC R (n' (re' ?_)))))
  have v:=oi' f
  subst v
  exact ⟨_,.agg [.d (.int .i64 6),.d (.str x1.1),.d (.int .i64 n.1.Kind),.d (.int .i64 n.1.Low),.d (.int .i64 n.1.High),.d (.int .i64 n.1.Size),.d (.str n.1.Name),.d (.sl (estr.rows n.1.Names)),.d (.sl (F0.rows n.1.Of)),.d (.int .i64 0),.d (.int .i64 o.1.Op),.d (.int .i64 o.1.NV),.d (.str o.1.Name),.d (.sl (A0.rows o.1.Kids)),.d (.sl (B0.rows c)),.d (.sl (B0.rows a)),.d (.sl (C0.rows t.1))],[.row (D0.cells u) 112],R,(.aggL ⟨.rfl,.rfl,.rfl,.rfl,.rfl,.rfl,.rfl,.rfl,.rfl,.rfl,.rfl,.rfl,.rfl,.rfl,.osl,.osl,.rfl,trivial⟩),⟨⟨R,.refl _,R⟩,trivial⟩,R,R,rpq R R⟩
theorem As {o02 x1 x7 o2_Params2 o2_Vars res}(a:P5 o02 x1 x7 o2_Params2 o2_Vars=some res):Pj o02 x1 x7 o2_Params2 o2_Vars res:=(Xq x1 x7 o2_Params2) _ _ _ a
def Q5 (o01:D0)(x1:Str×D0)(o2_Params1:List B0):Option (Pn (B0×D0)):=
 U0 [41] o01>>=fun x5=>match x5 with
 | .pn nn=>
 some (.pn nn)
 | .ok x5=>
 U0 [58] x5>>=fun x6=>match x6 with
 | .pn nn=>
 some (.pn nn)
 | .ok x6=>
 L5 x6>>=fun x7=>match x7 with
 | .pn nn=>
 some (.pn nn)
 | .ok x7=>
 U0 [123] x7.2>>=fun x8=>match x8 with
 | .pn nn=>
 some (.pn nn)
 | .ok x8=>
 P5 x8 x1 x7 o2_Params1 []
theorem Vi {o01 x1 o2_Params1 res}(a:Q5 o01 x1 o2_Params1=some res):JMp C 58 1 Tryz.f103 [1,1,1,1] [(0,.ref 0 0),(2,.ref 1 0),(3,.ref 2 0)] [.row (D0.cells o01) 112,.row [.d (.int .i64 0),.d (.str []),.d (.int .i64 0),.d (.int .i64 0),.d (.int .i64 0),.d (.int .i64 0),.d (.str []),.full (estr.rows []),.full (F0.rows []),.d (.int .i64 0),.d (.int .i64 0),.d (.int .i64 0),.d (.str []),.full (A0.rows []),.full (B0.rows []),.full (B0.rows []),.full (C0.rows [])] 82,.row [.d (.int .i64 6),.d (.str x1.1),.d (.int .i64 0),.d (.int .i64 0),.d (.int .i64 0),.d (.int .i64 0),.d (.str []),.full (estr.rows []),.full (F0.rows []),.d (.int .i64 0),.d (.int .i64 0),.d (.int .i64 0),.d (.str []),.full (A0.rows []),.osl 3 (B0.rows o2_Params1),.osl 4 (B0.rows []),.full (C0.rows [])] 82,.tok 82 17,.tok 82 17] (X4 res (fun g=>[.row (D0.cells g.2) 112]) (fun g=>.agg (B0.cells g.1))) (P4 res N3 [.dead]):=by
 unfold Q5 at a
 refine p' 1 R ?_
 rcases bp' a with ⟨nn,e,⟨⟩⟩ | ⟨h,e,a⟩
 ·exact gr [0] (K0 e) R (peW ⟨trivial,trivial⟩ R)
 refine gq [0] ((K0 e).ok) R (n' (p' 1 R ?_))
 rcases bp' a with ⟨nn,b,⟨⟩⟩ | ⟨k,b,a⟩
 ·exact gr [0] (K0 b) R (peW ⟨trivial,trivial⟩ R)
 refine gq [0] ((K0 b).ok) R (n' (p' 1 R ?_))
 rcases bp' a with ⟨nn,c,⟨⟩⟩ | ⟨i,c,a⟩
 ·exact gr [0] (Z9 c) R (peW ⟨trivial,trivial⟩ R)
 refine gq [0] ((Z9 c).ok) R (q' R (E0.s hC R (n' (p' 1 R ?_))))
 rcases bp' a with ⟨nn,f,⟨⟩⟩ | ⟨j,f,a⟩
 ·exact gr [0] (K0 f) R (peW ⟨trivial,trivial⟩ R)
 exact gq [0] ((K0 f).ok) R (n' (S' (bk' (fq (As a) R))))
def R5 (o0:D0)(x1:Str×D0)(o2_Params:List B0):Option (Pn (B0×D0)):=
 R0 [44] o0>>=fun x16=>
 if x16.1=true then
  X2 4 x16.2>>=fun x17=>match x17 with
  | .pn nn=>
  some (.pn nn)
  | .ok x17=>
  if (decide ((o2_Params.length+1) * 257≤140737488355328))=true then
   R5 x17.2 x1 (o2_Params++[x17.1])
  else none
 else
  Q5 x16.2 x1 o2_Params
 partial_fixpoint
abbrev Qj (o0:D0)(x1:Str×D0)(o2_Params:List B0)(res:Pn (B0×D0)):Prop:=LMp C 58 1 Tryz.f103 [1,1,1,0,1,2,1,4] [(0,.ref 0 0),(2,.ref 1 0),(3,.ref 2 0)] [.row (D0.cells o0) 112,.row [.d (.int .i64 0),.d (.str []),.d (.int .i64 0),.d (.int .i64 0),.d (.int .i64 0),.d (.int .i64 0),.d (.str []),.full (estr.rows []),.full (F0.rows []),.d (.int .i64 0),.d (.int .i64 0),.d (.int .i64 0),.d (.str []),.full (A0.rows []),.full (B0.rows []),.full (B0.rows []),.full (C0.rows [])] 82,.row [.d (.int .i64 6),.d (.str x1.1),.d (.int .i64 0),.d (.int .i64 0),.d (.int .i64 0),.d (.int .i64 0),.d (.str []),.full (estr.rows []),.full (F0.rows []),.d (.int .i64 0),.d (.int .i64 0),.d (.int .i64 0),.d (.str []),.full (A0.rows []),.osl 3 (B0.rows o2_Params),.osl 4 (B0.rows []),.full (C0.rows [])] 82,.tok 82 17,.tok 82 17] (X4 res (fun rr=>[.row (D0.cells rr.2) 112]) (fun rr=>.agg (B0.cells rr.1))) (P4 res N3 [.dead])
theorem Yq (x1:Str×D0):(∀ i a g,R5 i x1 a=some g→Qj i x1 a g):=by
 refine R5.partial_correctness x1 _ ?_
 ·intro k d i a g f
  obtain ⟨j,h,f⟩:=bs' f
  refine Y0.unroll (S' (p' 1 R (gq [0] (T0 h) R (n' (ci' R f (fun f=>?_) (fun f=>?_))))))
  ·refine sk' (bk' ?_)
   rcases bp' f with ⟨nn,c,⟨⟩⟩ | ⟨b,c,f⟩
   ·refine AEx.drawE hC ?_
    refine s2q 0 2 ?_ ?_
    ·refine s2q 1 2 ?_ ?_
     ·refine s1q 2 ?_
      refine s1 3 ?_
      exact gr [0] (C1 c) R (peW ⟨trivial,trivial⟩ R)
     ·refine s2 1 3 ?_ ?_
      ·refine e' R ?_
       refine s1 3 ?_
       exact gr [0] (C1 c) R (peW ⟨trivial,trivial⟩ R)
      ·exact gr [0] (C1 c) R (peW ⟨trivial,trivial⟩ R)
    ·refine s2 0 3 ?_ ?_
     ·refine e' R ?_
      refine s2 1 3 ?_ ?_
      ·refine e' R ?_
       refine s1 3 ?_
       exact gr [0] (C1 c) R (peW ⟨trivial,trivial⟩ R)
      ·exact gr [0] (C1 c) R (peW ⟨trivial,trivial⟩ R)
     ·exact gr [0] (C1 c) R (peW ⟨trivial,trivial⟩ R)
   obtain ⟨e,f⟩:=Z0 f
   refine AEx.drawE hC ?_
   refine s2q 0 2 ?_ ?_
   ·refine s2q 1 2 ?_ ?_
    ·refine s1q 2 ?_
     refine s1 3 ?_
     refine gq [0] ((C1 c).ok) R (n' ?_)
     refine s1 4 ?_
     refine E0.be hC R (B0.rows_map [b.1]).symm (n' ?_)
     refine s1 5 ?_
     refine E0.ap hC R (rs:=B0.rows (a++[b.1])) (B0.app a [b.1]) (B0.sz a) (B0.sz [b.1]) (N1 (B0.len a) (B0.len [b.1]) e) (n' ?_)
     refine s1q 6 ?_
     refine s1 7 ?_
     exact E0.s hC R (n' (X0.nil (by kernel_rfl) (lq (d _ _ _ f) R)))
    ·refine s2 1 3 ?_ ?_
     ·refine e' R ?_
      refine s1 3 ?_
      refine gq [0] ((C1 c).ok) R (n' ?_)
      refine s1 4 ?_
      refine E0.be hC R (B0.rows_map [b.1]).symm (n' ?_)
      refine s1 5 ?_
      refine E0.ap hC R (rs:=B0.rows (a++[b.1])) (B0.app a [b.1]) (B0.sz a) (B0.sz [b.1]) (N1 (B0.len a) (B0.len [b.1]) e) (n' ?_)
      refine s1q 6 ?_
      refine s1 7 ?_
      exact E0.s hC R (n' (X0.nil (by kernel_rfl) (lq (d _ _ _ f) R)))
     ·refine gq [0] ((C1 c).ok) R (n' ?_)
      refine s2 1 4 ?_ ?_
      ·refine e' R ?_
       refine s1 4 ?_
       refine E0.be hC R (B0.rows_map [b.1]).symm (n' ?_)
       refine s1 5 ?_
       refine E0.ap hC R (rs:=B0.rows (a++[b.1])) (B0.app a [b.1]) (B0.sz a) (B0.sz [b.1]) (N1 (B0.len a) (B0.len [b.1]) e) (n' ?_)
       refine s1q 6 ?_
       refine s1 7 ?_
       exact E0.s hC R (n' (X0.nil (by kernel_rfl) (lq (d _ _ _ f) R)))
      ·refine E0.be hC R (B0.rows_map [b.1]).symm (n' ?_)
       refine s1q 1 ?_
       refine s1 5 ?_
       refine E0.ap hC R (rs:=B0.rows (a++[b.1])) (B0.app a [b.1]) (B0.sz a) (B0.sz [b.1]) (N1 (B0.len a) (B0.len [b.1]) e) (n' ?_)
       refine s1q 6 ?_
       refine s1 7 ?_
       exact E0.s hC R (n' (X0.nil (by kernel_rfl) (lq (d _ _ _ f) R)))
   ·refine s2 0 3 ?_ ?_
    ·refine e' R ?_
     refine s2 1 3 ?_ ?_
     ·refine e' R ?_
      refine s1 3 ?_
      refine gq [0] ((C1 c).ok) R (n' ?_)
      refine s1 4 ?_
      refine E0.be hC R (B0.rows_map [b.1]).symm (n' ?_)
      refine s1 5 ?_
      refine E0.ap hC R (rs:=B0.rows (a++[b.1])) (B0.app a [b.1]) (B0.sz a) (B0.sz [b.1]) (N1 (B0.len a) (B0.len [b.1]) e) (n' ?_)
      refine s1q 6 ?_
      refine s1 7 ?_
      exact E0.s hC R (n' (X0.nil (by kernel_rfl) (lq (d _ _ _ f) R)))
     ·refine gq [0] ((C1 c).ok) R (n' ?_)
      refine s2 1 4 ?_ ?_
      ·refine e' R ?_
       refine s1 4 ?_
       refine E0.be hC R (B0.rows_map [b.1]).symm (n' ?_)
       refine s1 5 ?_
       refine E0.ap hC R (rs:=B0.rows (a++[b.1])) (B0.app a [b.1]) (B0.sz a) (B0.sz [b.1]) (N1 (B0.len a) (B0.len [b.1]) e) (n' ?_)
       refine s1q 6 ?_
       refine s1 7 ?_
       exact E0.s hC R (n' (X0.nil (by kernel_rfl) (lq (d _ _ _ f) R)))
      ·refine E0.be hC R (B0.rows_map [b.1]).symm (n' ?_)
       refine s1q 1 ?_
       refine s1 5 ?_
       refine E0.ap hC R (rs:=B0.rows (a++[b.1])) (B0.app a [b.1]) (B0.sz a) (B0.sz [b.1]) (N1 (B0.len a) (B0.len [b.1]) e) (n' ?_)
       refine s1q 6 ?_
       refine s1 7 ?_
       exact E0.s hC R (n' (X0.nil (by kernel_rfl) (lq (d _ _ _ f) R)))
    ·refine gq [0] ((C1 c).ok) R (n' ?_)
     refine s2 0 4 ?_ ?_
     ·refine e' R ?_
      refine s2 1 4 ?_ ?_
      ·refine e' R ?_
       refine s1 4 ?_
       refine E0.be hC R (B0.rows_map [b.1]).symm (n' ?_)
       refine s1 5 ?_
       refine E0.ap hC R (rs:=B0.rows (a++[b.1])) (B0.app a [b.1]) (B0.sz a) (B0.sz [b.1]) (N1 (B0.len a) (B0.len [b.1]) e) (n' ?_)
       refine s1q 6 ?_
       refine s1 7 ?_
       exact E0.s hC R (n' (X0.nil (by kernel_rfl) (lq (d _ _ _ f) R)))
      ·refine E0.be hC R (B0.rows_map [b.1]).symm (n' ?_)
       refine s1q 1 ?_
       refine s1 5 ?_
       refine E0.ap hC R (rs:=B0.rows (a++[b.1])) (B0.app a [b.1]) (B0.sz a) (B0.sz [b.1]) (N1 (B0.len a) (B0.len [b.1]) e) (n' ?_)
       refine s1q 6 ?_
       refine s1 7 ?_
       exact E0.s hC R (n' (X0.nil (by kernel_rfl) (lq (d _ _ _ f) R)))
     ·refine E0.be hC R (B0.rows_map [b.1]).symm (n' ?_)
      refine s1q 0 ?_
      refine s1q 1 ?_
      refine s1 5 ?_
      refine E0.ap hC R (rs:=B0.rows (a++[b.1])) (B0.app a [b.1]) (B0.sz a) (B0.sz [b.1]) (N1 (B0.len a) (B0.len [b.1]) e) (n' ?_)
      refine s1q 6 ?_
      refine s1 7 ?_
      exact E0.s hC R (n' (X0.nil (by kernel_rfl) (lq (d _ _ _ f) R)))
  exact ex' (eq' (Vi f) R)
theorem Bs {o0 x1 o2_Params res}(a:R5 o0 x1 o2_Params=some res):Qj o0 x1 o2_Params res:=(Yq x1) _ _ _ a
def Vc (x4:B0×D0)(x1:Str×D0):Option (Pn (B0×D0)):=
 R5 x4.2 x1 [x4.1]
theorem V2 {x4 x1 res}(b:Vc x4 x1=some res):JMp C 58 1 Tryz.f103 [1,1,1,0,1,2,1] [(0,.ref 0 0),(2,.ref 1 0),(3,.ref 2 0)] [.row (D0.cells x4.2) 112,.row [.d (.int .i64 0),.d (.str []),.d (.int .i64 0),.d (.int .i64 0),.d (.int .i64 0),.d (.int .i64 0),.d (.str []),.full (estr.rows []),.full (F0.rows []),.d (.int .i64 0),.d (.int .i64 0),.d (.int .i64 0),.d (.str []),.full (A0.rows []),.full (B0.rows []),.full (B0.rows []),.full (C0.rows [])] 82,.row [.d (.int .i64 6),.d (.str x1.1),.d (.int .i64 0),.d (.int .i64 0),.d (.int .i64 0),.d (.int .i64 0),.d (.str []),.full (estr.rows []),.full (F0.rows []),.d (.int .i64 0),.d (.int .i64 0),.d (.int .i64 0),.d (.str []),.full (A0.rows []),.osl 3 (B0.rows [x4.1]),.osl 4 (B0.rows []),.full (C0.rows [])] 82,.tok 82 17,.tok 82 17] (X4 res (fun a=>[.row (D0.cells a.2) 112]) (fun a=>.agg (B0.cells a.1))) (P4 res N3 [.dead]):=by
 unfold Vc at b
 exact bk' (fq (Bs b) R)
def Fb (parserParser:D0):Option (Pn (B0×D0)):=
 H3 parserParser>>=fun x1=>match x1 with
 | .pn nn=>
 some (.pn nn)
 | .ok x1=>
 U0 [40] x1.2>>=fun x2=>match x2 with
 | .pn nn=>
 some (.pn nn)
 | .ok x2=>
 Q7 x2>>=fun x3=>
 if x3=true then
  X2 4 x2>>=fun x4=>match x4 with
  | .pn nn=>
  some (.pn nn)
  | .ok x4=>
  if (decide ((0+1) * 257≤140737488355328))=true then
   Vc x4 x1
  else none
 else
  Q5 x2 x1 []
theorem Ol {parserParser res}(c:Fb parserParser=some res):F2 C 103 [.ref 0 0] [.row (D0.cells parserParser) 112] (X4 res (fun g=>[.row (D0.cells g.2) 112]) (fun g=>.agg (B0.cells g.1))) (P4 res N3 [.dead]):=by
 unfold Fb at c
 refine F2.intro hC Tryz.func103 R R R (s' R R (E0.nf hC R (n' (p' 1 R ?_))))
 rcases bp' c with ⟨nn,f,⟨⟩⟩ | ⟨x1,f,c⟩
 ·exact gr [0] (I1 f) R (peW ⟨trivial,trivial⟩ R)
 refine gq [0] ((I1 f).ok) R (E0.bz hC R (E0.nf hC R (E0.s hC R (E0.tokC 2 14 82 17 R R R R R (E0.tokC 2 15 82 17 R R R R R (n' (p' 1 R ?_)))))))
 rcases bp' c with ⟨nn,e,⟨⟩⟩ | ⟨x2,e,c⟩
 ·exact gr [0] (K0 e) R (peW ⟨trivial,trivial⟩ R)
 obtain ⟨i,h,c⟩:=bs' c
 refine gq [0] ((K0 e).ok) R (n' (S' (p' 1 R (gq [0] (Dh h) R (n' (ci' R c (fun c=>?_) (fun c=>?_)))))))
 ·refine S' ?_
  rcases bp' c with ⟨nn,b,⟨⟩⟩ | ⟨a,b,c⟩
  ·refine AEx.drawE hC ?_
   refine s2q 0 2 ?_ ?_
   ·refine s2q 1 2 ?_ ?_
    ·refine s1q 2 ?_
     refine s1 3 ?_
     exact gr [0] (C1 b) R (peW ⟨trivial,trivial⟩ R)
    ·refine s2 1 3 ?_ ?_
     ·refine e' R ?_
      refine s1 3 ?_
      exact gr [0] (C1 b) R (peW ⟨trivial,trivial⟩ R)
     ·exact gr [0] (C1 b) R (peW ⟨trivial,trivial⟩ R)
   ·refine s2 0 3 ?_ ?_
    ·refine e' R ?_
     refine s2 1 3 ?_ ?_
     ·refine e' R ?_
      refine s1 3 ?_
      exact gr [0] (C1 b) R (peW ⟨trivial,trivial⟩ R)
     ·exact gr [0] (C1 b) R (peW ⟨trivial,trivial⟩ R)
    ·exact gr [0] (C1 b) R (peW ⟨trivial,trivial⟩ R)
  obtain ⟨d,c⟩:=Z0 c
  refine AEx.drawE hC ?_
  refine s2q 0 2 ?_ ?_
  ·refine s2q 1 2 ?_ ?_
   ·refine s1q 2 ?_
    refine s1 3 ?_
    refine gq [0] ((C1 b).ok) R (n' ?_)
    refine s1 4 ?_
    refine E0.be hC R (B0.rows_map [a.1]).symm (n' ?_)
    refine s1 5 ?_
    refine E0.ap hC R (rs:=B0.rows [a.1]) R (B0.sz []) (B0.sz [a.1]) (N1 (B0.len []) (B0.len [a.1]) d) (n' ?_)
    refine s1q 6 ?_
    refine s1 7 ?_
    exact E0.s hC R (n' (X0.nil (by kernel_rfl) (eq' (V2 c) R)))
   ·refine s2 1 3 ?_ ?_
    ·refine e' R ?_
     refine s1 3 ?_
     refine gq [0] ((C1 b).ok) R (n' ?_)
     refine s1 4 ?_
     refine E0.be hC R (B0.rows_map [a.1]).symm (n' ?_)
     refine s1 5 ?_
     refine E0.ap hC R (rs:=B0.rows [a.1]) R (B0.sz []) (B0.sz [a.1]) (N1 (B0.len []) (B0.len [a.1]) d) (n' ?_)
     refine s1q 6 ?_
     refine s1 7 ?_
     exact E0.s hC R (n' (X0.nil (by kernel_rfl) (eq' (V2 c) R)))
    ·refine gq [0] ((C1 b).ok) R (n' ?_)
     refine s2 1 4 ?_ ?_
     ·refine e' R ?_
      refine s1 4 ?_
      refine E0.be hC R (B0.rows_map [a.1]).symm (n' ?_)
      refine s1 5 ?_
      refine E0.ap hC R (rs:=B0.rows [a.1]) R (B0.sz []) (B0.sz [a.1]) (N1 (B0.len []) (B0.len [a.1]) d) (n' ?_)
      refine s1q 6 ?_
      refine s1 7 ?_
      exact E0.s hC R (n' (X0.nil (by kernel_rfl) (eq' (V2 c) R)))
     ·refine E0.be hC R (B0.rows_map [a.1]).symm (n' ?_)
      refine s1q 1 ?_
      refine s1 5 ?_
      refine E0.ap hC R (rs:=B0.rows [a.1]) R (B0.sz []) (B0.sz [a.1]) (N1 (B0.len []) (B0.len [a.1]) d) (n' ?_)
      refine s1q 6 ?_
      refine s1 7 ?_
      exact E0.s hC R (n' (X0.nil (by kernel_rfl) (eq' (V2 c) R)))
  ·refine s2 0 3 ?_ ?_
   ·refine e' R ?_
    refine s2 1 3 ?_ ?_
    ·refine e' R ?_
     refine s1 3 ?_
     refine gq [0] ((C1 b).ok) R (n' ?_)
     refine s1 4 ?_
     refine E0.be hC R (B0.rows_map [a.1]).symm (n' ?_)
     refine s1 5 ?_
     refine E0.ap hC R (rs:=B0.rows [a.1]) R (B0.sz []) (B0.sz [a.1]) (N1 (B0.len []) (B0.len [a.1]) d) (n' ?_)
     refine s1q 6 ?_
     refine s1 7 ?_
     exact E0.s hC R (n' (X0.nil (by kernel_rfl) (eq' (V2 c) R)))
    ·refine gq [0] ((C1 b).ok) R (n' ?_)
     refine s2 1 4 ?_ ?_
     ·refine e' R ?_
      refine s1 4 ?_
      refine E0.be hC R (B0.rows_map [a.1]).symm (n' ?_)
      refine s1 5 ?_
      refine E0.ap hC R (rs:=B0.rows [a.1]) R (B0.sz []) (B0.sz [a.1]) (N1 (B0.len []) (B0.len [a.1]) d) (n' ?_)
      refine s1q 6 ?_
      refine s1 7 ?_
      exact E0.s hC R (n' (X0.nil (by kernel_rfl) (eq' (V2 c) R)))
     ·refine E0.be hC R (B0.rows_map [a.1]).symm (n' ?_)
      refine s1q 1 ?_
      refine s1 5 ?_
      refine E0.ap hC R (rs:=B0.rows [a.1]) R (B0.sz []) (B0.sz [a.1]) (N1 (B0.len []) (B0.len [a.1]) d) (n' ?_)
      refine s1q 6 ?_
      refine s1 7 ?_
      exact E0.s hC R (n' (X0.nil (by kernel_rfl) (eq' (V2 c) R)))
   ·refine gq [0] ((C1 b).ok) R (n' ?_)
    refine s2 0 4 ?_ ?_
    ·refine e' R ?_
     refine s2 1 4 ?_ ?_
     ·refine e' R ?_
      refine s1 4 ?_
      refine E0.be hC R (B0.rows_map [a.1]).symm (n' ?_)
      refine s1 5 ?_
      refine E0.ap hC R (rs:=B0.rows [a.1]) R (B0.sz []) (B0.sz [a.1]) (N1 (B0.len []) (B0.len [a.1]) d) (n' ?_)
      refine s1q 6 ?_
      refine s1 7 ?_
      exact E0.s hC R (n' (X0.nil (by kernel_rfl) (eq' (V2 c) R)))
     ·refine E0.be hC R (B0.rows_map [a.1]).symm (n' ?_)
      refine s1q 1 ?_
      refine s1 5 ?_
      refine E0.ap hC R (rs:=B0.rows [a.1]) R (B0.sz []) (B0.sz [a.1]) (N1 (B0.len []) (B0.len [a.1]) d) (n' ?_)
      refine s1q 6 ?_
      refine s1 7 ?_
      exact E0.s hC R (n' (X0.nil (by kernel_rfl) (eq' (V2 c) R)))
    ·refine E0.be hC R (B0.rows_map [a.1]).symm (n' ?_)
     refine s1q 0 ?_
     refine s1q 1 ?_
     refine s1 5 ?_
     refine E0.ap hC R (rs:=B0.rows [a.1]) R (B0.sz []) (B0.sz [a.1]) (N1 (B0.len []) (B0.len [a.1]) d) (n' ?_)
     refine s1q 6 ?_
     refine s1 7 ?_
     exact E0.s hC R (n' (X0.nil (by kernel_rfl) (eq' (V2 c) R)))
 exact sk' (eq' (Vi c) R)
def S5 (parserParser:D0):Option (Pn (B0×Bool×D0)):=
 R0 [116,121,112,101] parserParser>>=fun x1=>
 if x1.1=true then
  H3 x1.2>>=fun x2=>match x2 with
  | .pn nn=>
  some (.pn nn)
  | .ok x2=>
  U0 [61] x2.2>>=fun x3=>match x3 with
  | .pn nn=>
  some (.pn nn)
  | .ok x3=>
  L5 x3>>=fun x4=>match x4 with
  | .pn nn=>
  some (.pn nn)
  | .ok x4=>
  U0 [59] x4.2>>=fun x5=>match x5 with
  | .pn nn=>
  some (.pn nn)
  | .ok x5=>
  some (.ok ((B0.mk 0 x2.1 x4.1 0 (A0.mk 0 0 [] []) [] [] []),true,x5))
 else
  R0 [115,101,99,114,101,116] x1.2>>=fun x6=>
  if x6.1=true then
   X2 1 x6.2>>=fun x7=>match x7 with
   | .pn nn=>
   some (.pn nn)
   | .ok x7=>
   U0 [59] x7.2>>=fun x8=>match x8 with
   | .pn nn=>
   some (.pn nn)
   | .ok x8=>
   some (.ok (x7.1,true,x8))
  else
   R0 [112,117,98,108,105,99] x6.2>>=fun x9=>
   if x9.1=true then
    X2 2 x9.2>>=fun x10=>match x10 with
    | .pn nn=>
    some (.pn nn)
    | .ok x10=>
    U0 [59] x10.2>>=fun x11=>match x11 with
    | .pn nn=>
    some (.pn nn)
    | .ok x11=>
    some (.ok (x10.1,true,x11))
   else
    R0 [114,97,110,100,111,109] x9.2>>=fun x12=>
    if x12.1=true then
     X2 3 x12.2>>=fun x13=>match x13 with
     | .pn nn=>
     some (.pn nn)
     | .ok x13=>
     U0 [59] x13.2>>=fun x14=>match x14 with
     | .pn nn=>
     some (.pn nn)
     | .ok x14=>
     some (.ok (x13.1,true,x14))
    else
     R0 [118,97,114] x12.2>>=fun x15=>
     if x15.1=true then
      D8 x15.2>>=fun x16=>match x16 with
      | .pn nn=>
      some (.pn nn)
      | .ok x16=>
      some (.ok (x16.1,true,x16.2))
     else
      R0 [104,97,116,99,104] x15.2>>=fun x17=>
      if x17.1=true then
       X2 5 x17.2>>=fun x18=>match x18 with
       | .pn nn=>
       some (.pn nn)
       | .ok x18=>
       U0 [61] x18.2>>=fun x19=>match x19 with
       | .pn nn=>
       some (.pn nn)
       | .ok x19=>
       Q1 x19>>=fun x20=>match x20 with
       | .pn nn=>
       some (.pn nn)
       | .ok x20=>
       U0 [59] x20.2>>=fun x21=>match x21 with
       | .pn nn=>
       some (.pn nn)
       | .ok x21=>
       some (.ok ((B0.mk x18.1.Kind x18.1.Name x18.1.TypeV x18.1.Init x20.1 x18.1.Params x18.1.Vars x18.1.Body),true,x21))
      else
       R0 [102,117,110,99] x17.2>>=fun x22=>
       if x22.1=true then
        Fb x22.2>>=fun x23=>match x23 with
        | .pn nn=>
        some (.pn nn)
        | .ok x23=>
        some (.ok (x23.1,true,x23.2))
       else
        some (.ok ((B0.mk 0 [] (F0.mk 0 0 0 0 [] [] []) 0 (A0.mk 0 0 [] []) [] [] []),false,x22.2))
theorem Wi {parserParser res}(a:S5 parserParser=some res):F2 C 66 [.ref 0 0] [.row (D0.cells parserParser) 112] (X4 res (fun x=>[.row (D0.cells x.2.2) 112]) (fun x=>.tup [.agg (B0.cells x.1),.d (.bool x.2.1)])) (P4 res N3 [.dead]):=by
 unfold S5 at a
 obtain ⟨x1,B,a⟩:=bs' a
 refine F2.intro hC Tryz.func66 R R R (s' R R (E0.nf hC R (e' R (s' R R (E0.nf hC R (n' (S' (bk' (p' 1 R (gq [0] (T0 B) R (e' R (ci' R a (fun a=>?_) (fun a=>?_)))))))))))))
 ·refine p' 1 R ?_
  rcases bp' a with ⟨nn,q,⟨⟩⟩ | ⟨x2,q,a⟩
  ·exact gr [0] (I1 q) R (peW ⟨trivial,trivial⟩ R)
  refine gq [0] ((I1 q).ok) R (e' R (p' 1 R ?_))
  rcases bp' a with ⟨nn,n,⟨⟩⟩ | ⟨W,n,a⟩
  ·exact gr [0] (K0 n) R (peW ⟨trivial,trivial⟩ R)
  refine gq [0] ((K0 n).ok) R (n' (p' 2 R ?_))
  rcases bp' a with ⟨nn,o,⟨⟩⟩ | ⟨S,o,a⟩
  ·exact gr [0] (Z9 o) R (peW ⟨trivial,trivial⟩ R)
  refine gq [0] ((Z9 o).ok) R (q' R (E0.s hC R (n' (P' 1 R ?_))))
  rcases bp' a with ⟨nn,r,⟨⟩⟩ | ⟨V,r,a⟩
  ·exact gr [0] (K0 r) R (peW ⟨trivial,trivial⟩ R)
  cases a
  exact gq [0] ((K0 r).ok) R (n' (p' 1 R (E0.s hC R (e' R (re' (rq R))))))
 obtain ⟨Y,A,a⟩:=bs' a
 refine p' 1 R (gq [0] (T0 A) R (e' R (ci' R a (fun a=>?_) (fun a=>?_))))
 ·refine p' 1 R ?_
  rcases bp' a with ⟨nn,m,⟨⟩⟩ | ⟨T,m,a⟩
  ·exact gr [0] (C1 m) R (peW ⟨trivial,trivial⟩ R)
  refine gq [0] ((C1 m).ok) R (E0.s hC R (n' (P' 1 R ?_)))
  rcases bp' a with ⟨nn,p,⟨⟩⟩ | ⟨X,p,a⟩
  ·exact gr [0] (K0 p) R (peW ⟨trivial,trivial⟩ R)
  cases a
  exact gq [0] ((K0 p).ok) R (n' (p' 1 R (E0.s hC R (e' R (re' (rq R))))))
 obtain ⟨U,z,a⟩:=bs' a
 refine p' 1 R (gq [0] (T0 z) R (e' R (ci' R a (fun a=>?_) (fun a=>?_))))
 ·refine p' 1 R ?_
  rcases bp' a with ⟨nn,l,⟨⟩⟩ | ⟨L,l,a⟩
  ·exact gr [0] (C1 l) R (peW ⟨trivial,trivial⟩ R)
  refine gq [0] ((C1 l).ok) R (E0.s hC R (n' (P' 1 R ?_)))
  rcases bp' a with ⟨nn,j,⟨⟩⟩ | ⟨P,j,a⟩
  ·exact gr [0] (K0 j) R (peW ⟨trivial,trivial⟩ R)
  cases a
  exact gq [0] ((K0 j).ok) R (n' (p' 1 R (E0.s hC R (e' R (re' (rq R))))))
 obtain ⟨E,t,a⟩:=bs' a
 refine p' 1 R (gq [0] (T0 t) R (e' R (ci' R a (fun a=>?_) (fun a=>?_))))
 ·refine p' 1 R ?_
  rcases bp' a with ⟨nn,k,⟨⟩⟩ | ⟨H,k,a⟩
  ·exact gr [0] (C1 k) R (peW ⟨trivial,trivial⟩ R)
  refine gq [0] ((C1 k).ok) R (E0.s hC R (n' (P' 1 R ?_)))
  rcases bp' a with ⟨nn,i,⟨⟩⟩ | ⟨O,i,a⟩
  ·exact gr [0] (K0 i) R (peW ⟨trivial,trivial⟩ R)
  cases a
  exact gq [0] ((K0 i).ok) R (n' (p' 1 R (E0.s hC R (e' R (re' (rq R))))))
 obtain ⟨Q,u,a⟩:=bs' a
 refine p' 1 R (gq [0] (T0 u) R (e' R (ci' R a (fun a=>?_) (fun a=>?_))))
 ·refine P' 1 R ?_
  rcases bp' a with ⟨nn,g,⟨⟩⟩ | ⟨F,g,a⟩
  ·exact gr [0] (C2 g) R (peW ⟨trivial,trivial⟩ R)
  cases a
  exact gq [0] ((C2 g).ok) R (E0.s hC R (n' (p' 1 R (E0.s hC R (e' R (re' (rq R)))))))
 obtain ⟨J,w,a⟩:=bs' a
 refine p' 1 R (gq [0] (T0 w) R (e' R (ci' R a (fun a=>?_) (fun a=>?_))))
 ·refine p' 1 R ?_
  rcases bp' a with ⟨nn,h,⟨⟩⟩ | ⟨G,h,a⟩
  ·exact gr [0] (C1 h) R (peW ⟨trivial,trivial⟩ R)
  refine gq [0] ((C1 h).ok) R (E0.s hC R (n' (p' 1 R ?_)))
  rcases bp' a with ⟨nn,f,⟨⟩⟩ | ⟨N,f,a⟩
  ·exact gr [0] (K0 f) R (peW ⟨trivial,trivial⟩ R)
  refine gq [0] ((K0 f).ok) R (n' (p' 1 R ?_))
  rcases bp' a with ⟨nn,e,⟨⟩⟩ | ⟨I,e,a⟩
  ·exact gr [0] (V0 e) R (peW ⟨trivial,trivial⟩ R)
  refine gq [0] ((V0 e).ok) R (q' R (E0.s hC R (n' (P' 1 R ?_))))
  rcases bp' a with ⟨nn,b,⟨⟩⟩ | ⟨M,b,a⟩
  ·exact gr [0] (K0 b) R (peW ⟨trivial,trivial⟩ R)
  cases a
  exact gq [0] ((K0 b).ok) R (n' (p' 1 R (E0.s hC R (e' R (re' (rq R))))))
 obtain ⟨y,v,a⟩:=bs' a
 refine p' 1 R (gq [0] (T0 v) R (e' R (ci' R a (fun a=>?_) (fun a=>?_))))
 ·refine P' 1 R ?_
  rcases bp' a with ⟨nn,c,⟨⟩⟩ | ⟨K,c,a⟩
  ·exact gr [0] (Ol c) R (peW ⟨trivial,trivial⟩ R)
  cases a
  exact gq [0] ((Ol c).ok) R (E0.s hC R (n' (p' 1 R (E0.s hC R (e' R (re' (rq R)))))))
 refine p' 1 R (E0.s hC R (e' R (re' ?_)))
 have D:=oi' a
 subst D
 exact ⟨_,.tup [.agg [.d (.int .i64 0),.d (.str []),.d (.int .i64 0),.d (.int .i64 0),.d (.int .i64 0),.d (.int .i64 0),.d (.str []),.d (.sl (estr.rows [])),.d (.sl (F0.rows [])),.d (.int .i64 0),.d (.int .i64 0),.d (.int .i64 0),.d (.str []),.d (.sl (A0.rows [])),.d (.sl (B0.rows [])),.d (.sl (B0.rows [])),.d (.sl (C0.rows []))],.d (.bool false)],[.row (D0.cells y.2) 112],R,(.tupL ⟨(.aggL ⟨.rfl,.rfl,.rfl,.rfl,.rfl,.rfl,.rfl,.full,.full,.rfl,.rfl,.rfl,.rfl,.full,.full,.full,.full,trivial⟩),.rfl,trivial⟩),⟨⟨R,.refl _,R⟩,trivial⟩,R,R,rpq R R⟩
end Go.Proofs.YtbaijagfgceilaaGreatDoor

